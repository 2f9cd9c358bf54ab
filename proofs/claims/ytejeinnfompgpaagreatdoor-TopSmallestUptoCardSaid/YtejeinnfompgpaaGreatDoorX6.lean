/- Texts of one proof, put together (Y1, D3, Gt, GJ, Tab, Gf, GP, EvA, EvB, EvC, EvD, EvE, EvF, EvG). No condition but those that each theorem states. -/
import Derived.Test.YtejeinnfompgpaaGreatDoorX5
import Derived.Lib.ValidLaws
import Derived.Test.YtejeinnfompgpaaGreatDoorProg
import Derived.WalkKit
import Derived.KernelRfl
import Derived.Lib.LaidTab
import Derived.Lib.ItoaNum
import Derived.Lib.ItoaLen
import Derived.Lib.ParseIntB
set_option linter.unusedSimpArgs false
set_option linter.unusedVariables false
namespace Go.Proofs.YtejeinnfompgpaaGreatDoor
set_option maxRecDepth 100000
def runF {S α E:Type}(F:S→α→E ⊕ S)(fin:S→E):S→List α→E
 | s,[]=>fin s
 | s,a::t=>match F s a with
  | .inl e=>e
  | .inr s'=>runF F fin s' t
theorem iter_run{S α X E:Type}{step:X→Option (Nx X E)}(L:List α)(hn:L.length≤9223372036854775807)(enc:Int→S→X)(F:S→α→E ⊕ S)(fin:S→E)(Inv:Nat→S→Prop){s0:S}(h0:Inv 0 s0)
  (hgo:∀ (i:Nat) (h:i < L.length) s,Inv i s→(∃ e,F s L[i]=.inl e∧step (enc i s)=some (.out e))∨∃ s',F s L[i]=.inr s'∧step (enc i s)=some (.go (enc ((i:Int)+1) s'))∧Inv (i+1) s')
  (hend:∀ s,Inv L.length s→step (enc (L.length:Int) s)=some (.out (fin s))):iter step (enc 0 s0)=some (runF F fin s0 L):=by
 have go:∀ (n i:Nat) (s:S),n=L.length - i→i≤L.length→Inv i s→∀ m,n < m→iterN step m (enc i s)=some (runF F fin s (L.drop i)):=by
  intro n
  induction n with
  | zero =>
   intro i s hn1 hi hI m hm
   obtain rfl:i=L.length:=by omega
   cases m with
   | zero=>omega
   | succ m=>rw[iterN,hend s hI,List.drop_length];rfl
  | succ n ih =>
   intro i s hn1 hi hI m hm
   cases m with
   | zero=>omega
   | succ m =>
    have hlt:i < L.length:=by omega
    rw[List.drop_eq_getElem_cons hlt]
    rcases hgo i hlt s hI with⟨e,h1,h2⟩|⟨s',h1,h2,h3⟩
    ·rw[iterN,h2];simp only[runF,h1]
    ·rw[iterN,h2]
     simp only[runF,h1]
     have:=ih (i+1) s' (by omega) (by omega) h3 m (by omega)
     rw[show((i+1:Nat):Int)=(i:Int)+1 by omega] at this
     exact this
 have:=go L.length 0 s0 (by omega) (by omega) h0 73786976294838206464 (by omega)
 exact this
def nmB (b:UInt8):Bool:=(decide (65≤b.toNat)&&decide (b.toNat≤90))||(decide (48≤b.toNat)&&decide (b.toNat≤57))||b.toNat == 95||b.toNat == 45
def isNm (s:List UInt8):Bool:=match s with
 | []=>false
 | b::_=>decide (s.length≤16)&&(decide (65≤b.toNat)&&decide (b.toNat≤90))&&s.all nmB
theorem isNm_at(s:List UInt8)(h1:1≤s.length):isNm s=true ↔ (s.length≤16∧(65≤s[0].toNat∧s[0].toNat≤90)∧∀ i (h:i < s.length),nmB s[i]=true):=by
 match s,h1 with
 | b::t,_ =>
  simp only[isNm,Bool.and_eq_true,decide_eq_true_eq,List.all_eq_true]
  constructor
  ·rintro⟨⟨h1,h2⟩,h3⟩
   exact⟨h1,by simpa using h2,fun i h=>h3 _ (List.getElem_mem h)⟩
  ·rintro⟨h1,h2,h3⟩
   refine⟨⟨h1,by simpa using h2⟩,fun x hx=>?_⟩
   obtain⟨i,hi,rfl⟩:=List.getElem_of_mem hx
   exact h3 i hi
theorem lines_Name_loop(s:List UInt8)(hs:s.length≤16):∃ e,iter (g_lines_Name_s1 s) 0=some e∧(e=.inr () ↔ ∀ i (h:i < s.length),nmB s[i]=true):=by
 refine iter_cnt s.length (by omega) (fun n=>∀ i (h:i < s.length),i < n→nmB s[i]=true) _ (by intro i _ h;omega) ?_ ?_
 ·intro i hi hI;have hw:=wrap_i64 ((i:Int)+1) (by omega) (by omega);simp only[g_lines_Name_s1,atI_nat hi,Option.bind_some,hw];have hb:=u8lt s[i];have hk:nmB s[i]=true∨nmB s[i]=false:=by cases nmB s[i]<;>simp
  rcases hk with hk|hk
  ·left;refine⟨?_,fun j hj hlt=>?_⟩
   ·simp only[nmB] at hk;grind
   by_cases hji:j=i
   ·subst hji;exact hk
   exact hI j hj (by omega)
  right;refine⟨.inl (),?_,?_⟩
  ·simp only[nmB] at hk;grind
  simp only[reduceCtorEq,false_iff];intro h;have:=h i hi;simp[hk] at this
 intro hI;refine⟨.inr (),by simp[g_lines_Name_s1],?_⟩;simp only[true_iff];exact fun i h=>hI i h h
theorem lines_Name_eq(s:List UInt8):g_lines_Name s=some (isNm s):=by
 by_cases h0:s.length < 1
 ·match s,h0 with
  | [],_=>rfl
 ·by_cases h1:s.length≤16
  ·obtain⟨e,he,hi⟩:=lines_Name_loop s h1
   have hn:=isNm_at s (by omega)
   have h0':atI s 0=some s[0]:=atI_nat (n:=0) (by omega)
   simp only[g_lines_Name,he,h0',Option.bind_some]
   rcases e with⟨⟩|⟨⟩<;>grind
  ·have:isNm s=false:=by
    cases hh:isNm s with
    | false=>rfl
    | true=>exact absurd ((isNm_at s (by omega)).1 hh).1 h1
   simp only[g_lines_Name,this]
   grind
theorem decL_dec{l:List UInt8}(h:l≠[]):decL l=Lib.decodeL l:=by
 unfold Lib.decodeL;have:=decL_eq l 0 ((List.length_pos_iff.2 h));rw[this];simp
theorem decL_wd{l:List UInt8}(h:l≠[]):1≤(decL l).2:=by rw[decL_dec h];exact Lib.decodeL_width l
theorem wd_pos{s:List UInt8}{p:Nat}(h:p < s.length):1≤widthAt s p:=by
 unfold widthAt;refine decL_wd fun h0=>?_;have:=congrArg List.length h0;simp at this;omega
theorem place_total(s:List UInt8)(hs:s.length≤1000)(r:Int):∃ e,iter (g_charset_place_s1 s r) (0,0)=some e:=by
 have:=iter_post (step:=g_charset_place_s1 s r) (fun x=>0≤x.1∧x.1≤x.2) (fun x=>s.length - x.2) (fun _=>True) (x:=(0,0)) ⟨Int.le_refl _,by simp⟩ (by show s.length - 0 < _;omega) ?_
 ·obtain⟨e,h,_⟩:=this;exact⟨e,h⟩
 rintro⟨n,p⟩ ⟨h0,h1⟩;dsimp only at h0 h1;unfold g_charset_place_s1;dsimp only;by_cases hp:p < s.length
 ·rw[if_pos (by simpa using hp)];by_cases hr:(runeAt s p == r)=true
  ·right;rw[if_pos hr];exact⟨_,rfl,trivial⟩
  left;rw[if_neg hr];have hw:=wd_pos hp;refine⟨_,rfl,?_,?_⟩
  ·dsimp only;rw[wr64 (by omega)];omega
  dsimp only;omega
 right;rw[if_neg (by simpa using hp)];exact⟨_,rfl,trivial⟩
theorem Index_tot(r:Int):∃ v,g_charset_Index r=some v:=by
 unfold g_charset_Index g_charset_place
 by_cases h:32≤r∧r≤126
 ·rw[if_pos (by simpa using h.1)]
  simp only[Option.bind_some]
  rw[if_pos (by simpa using h.2)]
  exact⟨_,rfl⟩
 ·have:(if decide (32≤r)=true then some (decide (r≤126)) else some false:Option Bool)=some false:=by
   by_cases h1:32≤r
   ·have:¬ r≤126:=fun h2=>h ⟨h1,h2⟩
    simp[h1,this]
   ·simp[h1]
  rw[this]
  simp only[Option.bind_some,Bool.false_eq_true,if_false]
  obtain⟨e,he⟩:=place_total [32,33,34,35,36,37,38,39,40,41,42,43,44,45,46,47,48,49,50,51,52,53,54,55,56,57,58,59,60,61,62,63,64,65,66,67,68,69,70,71,72,73,74,75,76,77,78,79,80,81,82,83,84,85,86,87,88,89,90,91,92,93,94,95,96,97,98,99,100,101,102,103,104,105,106,107,108,109,110,111,112,113,114,115,116,117,118,119,120,121,122,123,124,125,126,194,161,194,162,194,163,194,164,194,165,194,166,194,167,194,169,194,171,194,174,194,176,194,183,194,187,194,189,194,191,195,128,195,129,195,130,195,131,195,132,195,133,195,134,195,135,195,136,195,137,195,138,195,139,195,140,195,141,195,142,195,143,195,145,195,146,195,147,195,148,195,149,195,150,195,152,195,153,195,154,195,155,195,156,195,159,195,160,195,161,195,162,195,163,195,164,195,165,195,166,195,167,195,168,195,169,195,170,195,171,195,172,195,173,195,174,195,175,195,177,195,178,195,179,195,180,195,181,195,182,195,184,195,185,195,186,195,187,195,188,197,146,197,147,226,128,148,226,128,152,226,128,153,226,128,156,226,128,157,226,128,162,226,128,166,226,132,162,226,153,170] (by decide) r
  rw[he]
  cases e<;>exact⟨_,rfl⟩
def ixv (r:Int):Int:=(g_charset_Index r).getD 0
theorem ix_eq(r:Int):g_charset_Index r=some (ixv r)∧True:=by
 obtain⟨v,h1⟩:=Index_tot r;unfold ixv;rw[h1];exact⟨rfl,trivial⟩
theorem ixv_bad:g_charset_Index 65533=some (-1):=by decide +kernel
def gv (l:List UInt8):Bool:=if h:l=[] then true else decide (0≤ixv (decL l).1)&&gv (l.drop (decL l).2)
termination_by l.length
decreasing_by
 have:=decL_wd h
 have:=(List.length_pos_iff.2 h)
 simp;omega
theorem gv_nil:gv []=true:=by unfold gv;simp
theorem gv_ne{l:List UInt8}(h:l≠[]):gv l=(decide (0≤ixv (decL l).1)&&gv (l.drop (decL l).2)):=by
 rw[gv,dif_neg h]
theorem gv_loop{step:Nat→Option (Nx Nat (Unit ⊕ Unit))}(s:List UInt8)(hs:s.length < 73786976294838206464)(hst:∀ p,step p=(if decide (p < s.length)=true then(if decide (ixv (runeAt s p) < 0)=true then some (.out (.inl ())) else some (.go (p+widthAt s p))) else some (.out (.inr ())))) :
  iter step 0=some (if gv s then .inr () else .inl ()):=by
 refine iter_of (fun p e=>e=if gv (s.drop p) then .inr () else .inl ()) (fun p=>s.length - p) ?_ (x:=0) (by simp) (by show s.length - 0 < _;omega)
 rintro p e rfl
 rw[hst]
 by_cases hp:p < s.length
 ·rw[if_pos (by simpa using hp)]
  have hne:s.drop p≠[]:=fun h0=>by have:=congrArg List.length h0;simp at this;omega
  by_cases hr:ixv (runeAt s p) < 0
  ·right
   rw[if_pos (by simpa using hr),gv_ne hne]
   have:¬ 0≤ixv (decL (s.drop p)).1:=by unfold runeAt at hr;omega
   simp[this]
  ·left
   rw[if_neg (by simpa using hr)]
   have hw:=wd_pos hp
   refine⟨_,rfl,?_,by omega⟩
   rw[gv_ne hne]
   have:0≤ixv (decL (s.drop p)).1:=by unfold runeAt at hr;omega
   simp only[this,decide_true,Bool.true_and,List.drop_drop]
   rfl
 ·right
  rw[if_neg (by simpa using hp),List.drop_eq_nil_of_le (by omega),gv_nil];rfl
theorem gv_valid:∀ (n:Nat) (l:List UInt8),l.length≤n→gv l=true→Lib.validD l=true:=by
 intro n
 induction n with
 | zero=>intro l hl _;have:l=[]:=List.eq_nil_of_length_eq_zero (by omega);subst this;rfl
 | succ n ih =>
  intro l hl h
  by_cases hne:l=[]
  ·subst hne;rfl
  ·rw[gv_ne hne,Bool.and_eq_true,decide_eq_true_eq] at h
   have hw:=decL_wd hne
   have hlen:=List.length_pos_iff.2 hne
   rw[Lib.validD_step l hne,← decL_dec hne,if_neg]
   ·exact ih _ (by simp;omega) h.2
   ·rintro⟨h1,_⟩
    have h2:=h.1
    rw[h1] at h2
    unfold ixv at h2
    rw[show(((65533:Nat):Nat):Int)=65533 from rfl,ixv_bad] at h2
    simp at h2
theorem prog_Valid_eq(s:List UInt8)(hs:s.length≤140737488355328):g_charset_Valid s=some (gv s):=by
 unfold g_charset_Valid g_unicode_utf8_ValidString;simp only[Option.bind_some];rw[gv_loop s (by omega) (fun p=>by unfold g_charset_Valid_s1;simp only[(ix_eq _).1,Option.bind_some])];cases hg:gv s
 ·cases Lib.validD s<;>rfl
 rw[gv_valid s.length s (Nat.le_refl _) hg];rfl
def rnL (l:List UInt8):List Int:=if h:l=[] then[] else(((decL l).1:Nat):Int)::rnL (l.drop (decL l).2)
termination_by l.length
decreasing_by
 have h1:=decL_wd h
 have h2:=List.length_pos_iff.2 h
 simp only[List.length_drop];omega
theorem rnL_nil:rnL []=[]:=by unfold rnL;simp
theorem rnL_ne{l:List UInt8}(h:l≠[]):rnL l=(((decL l).1:Nat):Int)::rnL (l.drop (decL l).2):=by rw[rnL,dif_neg h]
theorem rnL_at{s:List UInt8}{p:Nat}(h:p < s.length):rnL (s.drop p)=runeAt s p::rnL (s.drop (p+widthAt s p)):=by
 have hne:s.drop p≠[]:=by
  intro e
  have:=congrArg List.length e
  simp at this;omega
 rw[rnL_ne hne]
 unfold runeAt widthAt
 rw[List.drop_drop]
theorem rnL_end{s:List UInt8}{p:Nat}(h:s.length≤p):rnL (s.drop p)=[]:=by rw[List.drop_eq_nil_of_le h,rnL_nil]
def ascF:Int→List Int→Bool
 | _,[]=>true
 | a,x::l=>decide (a < x)&&ascF x l
theorem prog_asc(p:T_api_Profile)(hs:p.Forbidden.length≤1048576):iter (g_profile_Check_s2 p) (-1,0)=some (if ascF (-1) (rnL p.Forbidden) then .inr () else .inl ()):=by
 refine iter_of (fun x e=>e=if ascF x.1 (rnL (p.Forbidden.drop x.2)) then .inr () else .inl ()) (fun x=>p.Forbidden.length - x.2) ?_ (x:=(-1,0)) (by simp) (by show p.Forbidden.length - 0 < _;omega);rintro⟨a,q⟩ e rfl;dsimp only;unfold g_profile_Check_s2;dsimp only;by_cases h:q < p.Forbidden.length
 ·have hw:1≤widthAt p.Forbidden q:=wd_pos h;rw[if_pos (by simpa using h),rnL_at h];by_cases hr:runeAt p.Forbidden q≤a
  ·right;rw[if_pos (by simpa using hr)];simp[ascF,show ¬ a < runeAt p.Forbidden q from by omega]
  left;rw[if_neg (by simpa using hr)];refine⟨_,rfl,?_,by dsimp only;omega⟩;simp[ascF,show a < runeAt p.Forbidden q from by omega]
 right;rw[if_neg (by simpa using h),rnL_end (by omega)];simp[ascF]
def okR (p:T_api_Profile):Prop:=(1≤p.Reading∧p.Reading≤10000)∧(1≤p.MinFrames∧p.MinFrames≤5184000)∧(1≤p.MaxFrames∧p.MaxFrames≤5184000)∧(0≤p.MinGap∧p.MinGap≤1000)∧(0≤p.ShotBefore∧p.ShotBefore≤1000)∧(0≤p.ShotAfter∧p.ShotAfter≤1000)∧(1≤p.Rows∧p.Rows≤4)∧(1≤p.Cols∧p.Cols≤32)∧(0≤p.SafeTop∧p.SafeTop≤31)∧(0≤p.SafeBottom∧p.SafeBottom≤31)∧(0≤p.SafeLeft∧p.SafeLeft≤31)∧(0≤p.SafeRight∧p.SafeRight≤31)
instance (p:T_api_Profile):Decidable (okR p):=by unfold okR;infer_instance
def ckS (p:T_api_Profile):Int :=
 if isNm p.Name=false then 5 else if ¬ okR p then 2 else if 15≤p.SafeTop+p.SafeBottom∨32≤p.SafeLeft+p.SafeRight then 2 else if p.MaxFrames < p.MinFrames then 8 else if gv p.Forbidden=false then 10 else if ascF (-1) (rnL p.Forbidden) then 0 else 8
def lmL (p:T_api_Profile):List T_profile_limit:=[⟨p.Reading,1,10000⟩,⟨p.MinFrames,1,5184000⟩,⟨p.MaxFrames,1,5184000⟩,⟨p.MinGap,0,1000⟩,⟨p.ShotBefore,0,1000⟩,⟨p.ShotAfter,0,1000⟩,⟨p.Rows,1,4⟩,⟨p.Cols,1,32⟩,⟨p.SafeTop,0,31⟩,⟨p.SafeBottom,0,31⟩,⟨p.SafeLeft,0,31⟩,⟨p.SafeRight,0,31⟩]
theorem limits_eq(p:T_api_Profile):g_profile_limits p=some (lmL p):=by
 unfold g_profile_limits;rw[show iter (g_profile_limits_s1 p) (0,[(T_profile_limit.mk p.Reading 1 10000),(T_profile_limit.mk p.MinFrames 1 5184000),(T_profile_limit.mk p.MaxFrames 1 5184000),(T_profile_limit.mk p.MinGap 0 1000),(T_profile_limit.mk p.ShotBefore 0 1000),(T_profile_limit.mk p.ShotAfter 0 1000),(T_profile_limit.mk p.Rows 1 4),(T_profile_limit.mk p.Cols 1 32)])=some (lmL p) from rfl];rfl
theorem limits_loop(l:List T_profile_limit)(hl:l.length≤1048576):iter (g_profile_Check_s1 l) 0=some (if l.all fun y=>decide (y.lo_≤y.n_)&&decide (y.n_≤y.hi_) then .inr () else .inl ()):=by
 have:=iter_idx (step:=g_profile_Check_s1 l) l.length (by omega) (fun i=>if(l.drop i).all fun y=>decide (y.lo_≤y.n_)&&decide (y.n_≤y.hi_) then .inr () else .inl ()) (fun i hi=>?_) ?_
 ·simpa using this
 ·unfold g_profile_Check_s1;rw[if_pos (by simpa using hi),atI_nat hi,List.drop_eq_getElem_cons hi,wr64 (by omega)];simp only[Option.bind_some,List.all_cons];by_cases h1:l[i].n_ < l[i].lo_
  ·right;simp[h1,show ¬ l[i].lo_≤l[i].n_ from by omega]
  by_cases h2:l[i].hi_ < l[i].n_
  ·right;simp[h1,h2,show ¬ l[i].n_≤l[i].hi_ from by omega]
  left;simp[h1,h2,show l[i].lo_≤l[i].n_ from by omega,show l[i].n_≤l[i].hi_ from by omega]
 unfold g_profile_Check_s1;rw[if_neg (by simp)];simp
theorem lm_all(p:T_api_Profile):((lmL p).all fun y=>decide (y.lo_≤y.n_)&&decide (y.n_≤y.hi_))=decide (okR p):=by
 rw[Bool.eq_iff_iff,decide_eq_true_iff];unfold lmL okR;simp only[List.all_cons,List.all_nil,Bool.and_true,Bool.and_eq_true,decide_eq_true_eq]
theorem prog_Check(p:T_api_Profile)(h1:p.Name.length≤1048576)(h2:p.Forbidden.length≤1048576):g_profile_Check p=some (ckS p):=by
 unfold g_profile_Check ckS;rw[lines_Name_eq p.Name,limits_eq,prog_Valid_eq p.Forbidden (by omega)];simp only[Option.bind_some];cases hn:isNm p.Name
 ·rfl
 rw[limits_loop _ (by simp[lmL]),lm_all,prog_asc p h2];simp only[Option.bind_some,if_true,Bool.true_eq_false,if_false];by_cases hr:okR p
 ·have hr':=hr;unfold okR at hr';rw[wr64 (by omega),wr64 (by omega)];simp only[hr,decide_true,if_true,not_true,if_false];by_cases q1:15≤p.SafeTop+p.SafeBottom
  ·simp[q1]
  by_cases q2:32≤p.SafeLeft+p.SafeRight
  ·simp[q1,q2]
  simp only[q1,q2,decide_false,Bool.false_eq_true,if_false,Option.bind_some,false_or];by_cases q3:p.MaxFrames < p.MinFrames
  ·simp[q3]
  simp only[q3,decide_false,Bool.false_eq_true,if_false];cases gv p.Forbidden
  ·rfl
  cases ascF (-1) (rnL p.Forbidden)<;>rfl
 simp only[hr,decide_false,Bool.false_eq_true,if_false,not_false_eq_true,if_true]
def rtV (r:Int):Bool:=decide (1≤r)&&decide (r≤7)
def rtT (r:Int):Int:=if r=1 then 5005 else if r=2 then 5000 else if r=3 then 4800 else if r=4 then 4004 else if r=5 then 4000 else if r=6 then 2400 else if r=7 then 2002 else 0
theorem rates_fin:∀ r:Fin 256,g_timebase_Valid ((r.val:Nat):Int)=some (rtV ((r.val:Nat):Int))∧True∧g_timebase_Ticks ((r.val:Nat):Int)=some (rtT ((r.val:Nat):Int)) ∧
  (rtV ((r.val:Nat):Int)=true→True∧2002≤rtT ((r.val:Nat):Int)∧rtT ((r.val:Nat):Int)≤5005):=by decide +kernel
theorem rates(r:Int)(h0:0≤r)(h1:r≤255):g_timebase_Valid r=some (rtV r)∧True∧g_timebase_Ticks r=some (rtT r)∧(rtV r=true→True∧2002≤rtT r∧rtT r≤5005):=by
 have:=rates_fin ⟨r.toNat,by omega⟩;have e:((r.toNat:Nat):Int)=r:=by omega
 simp only[e] at this;exact this
def wiB (n lo hi:Int):Bool:=decide (lo≤n)&&decide (n≤hi)
theorem rwithin_eq(n lo hi:Int):g_reading_within n lo hi=some (wiB n lo hi):=by
 unfold g_reading_within wiB;cases decide (lo≤n)<;>simp
theorem wiB_t{n lo hi:Int}(h:wiB n lo hi=true):lo≤n∧n≤hi:=by
 unfold wiB at h;simpa using h
def upQ (a b:Int):Int:=Int.tdiv (a+b - 1) b
theorem upQ_le{a b f:Int}(ha:0≤a)(hb:0 < b):upQ a b≤f ↔ a≤f * b:=by
 unfold upQ
 rw[Int.tdiv_eq_ediv_of_nonneg (by omega)]
 constructor
 ·intro h
  have h1:=Int.lt_mul_ediv_self_add (x:=a+b - 1) hb
  have h2:b * ((a+b - 1) / b)≤b * f:=Int.mul_le_mul_of_nonneg_left h (by omega)
  rw[Int.mul_comm f b]
  omega
 ·intro h
  have:(a+b - 1) / b < f+1:=by
   refine Int.ediv_lt_of_lt_mul hb ?_
   rw[Int.add_mul]
   omega
  omega
def needS(r c l:Int):Int × Int:=if rtV r then(if wiB c 0 10000&&wiB l 1 10000 then(upQ (c * 12000000) (l * rtT r),0) else(0,2)) else(0,3)
theorem mul_small{x t:Int}(k:Int)(hx:1≤x)(hk:x≤k)(h1:2002≤t)(h2:t≤5005)(hkk:k≤5184000):1≤x * t∧x * t≤25945920000:=by
 have a1:x * t≤5184000 * t:=Int.mul_le_mul_of_nonneg_right (by omega) (by omega);have a2:5184000 * t≤5184000 * 5005:=Int.mul_le_mul_of_nonneg_left h2 (by omega);have a3:1 * t≤x * t:=Int.mul_le_mul_of_nonneg_right hx (by omega);omega
theorem Needed_eq(r c l:Int)(h0:0≤r)(h1:r≤255):g_reading_Needed r c l=some (needS r c l)∧True:=by
 refine⟨?_,trivial⟩
 obtain⟨e1,e2,e3,e4⟩:=rates r h0 h1
 unfold g_reading_Needed needS
 simp only[e1,rwithin_eq,Option.bind_some]
 cases hv:rtV r with
 | false=>simp
 | true =>
  obtain⟨e5,t0,t1⟩:=e4 hv
  simp only[if_true,e3,e5,Option.bind_some]
  cases hc:wiB c 0 10000 with
  | false=>simp
  | true =>
   cases hl:wiB l 1 10000 with
   | false=>simp
   | true =>
    have hc':=wiB_t hc
    have hl':=wiB_t hl
    obtain⟨m1,m2⟩:=mul_small 10000 hl'.1 hl'.2 t0 t1 (by omega)
    generalize l * rtT r=b at m1 m2
    have w0:=wrap_i64 (c * 100) (by omega) (by omega)
    have w1:=wrap_i64 (c * 100 * 120000) (by omega) (by omega)
    have w2:=wrap_i64 b (by omega) (by omega)
    have w3:=wrap_i64 (c * 100 * 120000+b) (by omega) (by omega)
    have w4:=wrap_i64 (c * 100 * 120000+b - 1) (by omega) (by omega)
    have hb:¬ b=0:=by omega
    have hq:=upQ_le (a:=c * 12000000) (b:=b) (f:=120000000000) (by omega) (by omega)
    have hq1:upQ (c * 12000000) b≤120000000000:=hq.2 (by have:=Int.mul_le_mul_of_nonneg_left m1 (show(0:Int)≤120000000000 by omega);omega)
    have hq0:0≤upQ (c * 12000000) b:=by unfold upQ;exact Int.tdiv_nonneg (by omega) (by omega)
    have eu:Int.tdiv (c * 100 * 120000+b - 1) b=upQ (c * 12000000) b:=by unfold upQ;congr 1;omega
    have w5:=wrap_i64 (upQ (c * 12000000) b) (by omega) (by omega)
    simp only[Bool.not_true,Bool.false_eq_true,if_false,Bool.and_self,if_true,g_reading_load,g_reading_up,Option.bind_some,w0,w1,w2,w3,w4,hb,not_false_eq_true,eu,w5]
structure Ed where
 i:Nat
 j:Nat
 c:Int
inductive Wlk(p:Ed→Prop):Nat→Nat→List Ed→Prop
 | nil (u:Nat):Wlk p u u []
 | cons {e:Ed} {v:Nat} {L:List Ed}:p e→Wlk p e.j v L→Wlk p e.i v (e::L)
theorem Wlk.nil_eq{p:Ed→Prop}{u v:Nat}(h:Wlk p u v []):u=v:=by
 cases h;rfl
def sumE:List Ed→Int
 | []=>0
 | e::L=>e.c+sumE L
theorem sumE_app:∀ (x y:List Ed),sumE (x++y)=sumE x+sumE y
 | [],y=>by simp[sumE]
 | e::x,y=>by simp only[List.cons_append,sumE,sumE_app x y];omega
theorem Wlk.app{p:Ed→Prop}{u v w:Nat}{x y:List Ed}(h:Wlk p u v x)(k:Wlk p v w y):Wlk p u w (x++y):=by
 induction h with
 | nil=>exact k
 | cons h1 _ ih=>exact .cons h1 (ih k)
theorem Wlk.split{p:Ed→Prop}{u w:Nat}:∀ {x y:List Ed},Wlk p u w (x++y)→∃ v,Wlk p u v x∧Wlk p v w y
 | [],y,h=>⟨u,.nil u,h⟩
 | e::x,y,h=>by
  cases h with
  | cons h1 h2 =>
   obtain⟨v,a,b⟩:=Wlk.split (x:=x) h2
   exact⟨v,.cons h1 a,b⟩
theorem Wlk.mono{p q:Ed→Prop}{u v:Nat}{L:List Ed}(h:Wlk p u v L)(hpq:∀ e ∈ L,p e→q e):Wlk q u v L:=by
 induction h with
 | nil=>exact .nil _
 | cons h1 _ ih=>exact .cons (hpq _ (by simp) h1) (ih fun e he=>hpq e (by simp[he]))
theorem Wlk.mem{p:Ed→Prop}{u v:Nat}{L:List Ed}(h:Wlk p u v L):∀ e ∈ L,p e:=by
 induction h with
 | nil=>simp
 | cons h1 _ ih =>
  intro e he
  rcases List.mem_cons.1 he with rfl|he
  ·exact h1
  ·exact ih e he
def NoNeg(p:Ed→Prop):Prop:=∀ u L,Wlk p u u L→0≤sumE L
def In (p:Ed→Prop)(n:Nat):Prop:=∀ e,p e→e.i < n∧e.j < n
theorem nodup_le:∀ (n:Nat) (l:List Nat),l.Nodup→(∀ x ∈ l,x < n)→l.length≤n
 | 0,l,_,h=>by
  cases l with
  | nil=>simp
  | cons a l=>exact absurd (h a (by simp)) (by omega)
 | n+1,l,hd,h=>by
  by_cases hn:n ∈ l
  ·have h1:(l.erase n).length≤n:=nodup_le n (l.erase n) (hd.erase n) (fun x hx=>by
    have h2:=(hd.mem_erase_iff).1 hx
    have:=h x h2.2
    have:=h2.1
    omega)
   rw[List.length_erase_of_mem hn] at h1
   omega
  ·have:=nodup_le n l hd (fun x hx=>by
    have:=h x hx
    have:x≠n:=fun e=>hn (e ▸ hx)
    omega)
   omega
theorem dup_split:∀ (l:List Nat),¬ l.Nodup→∃ (a b c:List Nat) (x:Nat),l=a++x::(b++x::c)
 | [],h=>absurd List.nodup_nil h
 | y::l,h=>by
  by_cases hy:y ∈ l
  ·obtain⟨b,c,rfl⟩:=List.append_of_mem hy
   exact⟨[],b,c,y,rfl⟩
  ·have:¬ l.Nodup:=fun hn=>h (List.nodup_cons.2 ⟨hy,hn⟩)
   obtain⟨a,b,c,x,rfl⟩:=dup_split l this
   exact⟨y::a,b,c,x,rfl⟩
theorem cut_walk{p:Ed→Prop}{u v:Nat}{L:List Ed}(h:Wlk p u v L)(hd:¬ (L.map (·.i)).Nodup):∃ (x y z:List Ed) (m:Nat),L=x++y++z∧y≠[]∧Wlk p u m x∧Wlk p m m y∧Wlk p m v z∧z≠[]:=by
 obtain⟨a,b,c,m,e⟩:=dup_split _ hd
 obtain⟨x,r,rfl,hx,hr⟩:=List.map_eq_append_iff.1 e
 obtain⟨e1,r1,rfl,he1,hr1⟩:=List.map_eq_cons_iff.1 hr
 obtain⟨y,r2,rfl,hy,hr2⟩:=List.map_eq_append_iff.1 hr1
 obtain⟨e2,z,rfl,he2,hz⟩:=List.map_eq_cons_iff.1 hr2
 obtain⟨m1,w1,w2⟩:=Wlk.split h
 have h1:m1=m:=by
  cases w2 with
  | cons _ _=>exact he1
 subst h1
 rw[show e1::(y++e2::z)=(e1::y)++(e2::z) from rfl] at w2
 obtain⟨m2,w3,w4⟩:=Wlk.split w2
 have h2:m2=m1:=by
  cases w4 with
  | cons _ _=>exact he2
 subst h2
 exact⟨x,e1::y,e2::z,m2,by simp,by simp,w1,w3,w4,by simp⟩
theorem shorten1{p:Ed→Prop}{n:Nat}(hn:NoNeg p)(hi:In p n){u v:Nat}{L:List Ed}(hv:v < n)(h:Wlk p u v L):∃ L',Wlk p u v L'∧L'.length < n∧sumE L'≤sumE L:=by
 have key:∀ (k:Nat) {u:Nat} {L:List Ed},L.length≤k→Wlk p u v L→∃ L',Wlk p u v L'∧(L'.map (·.i)++[v]).Nodup∧sumE L'≤sumE L:=by
  intro k
  induction k with
  | zero =>
   intro u L hk h
   obtain rfl:L=[]:=List.eq_nil_of_length_eq_zero (by omega)
   exact⟨[],h,by simp,Int.le_refl _⟩
  | succ k ih =>
   intro u L hk h
   by_cases hd:(L.map (·.i)).Nodup
   ·by_cases hm:v ∈ L.map (·.i)
    ·obtain⟨e,he,hev⟩:=List.mem_map.1 hm
     obtain⟨x,y,rfl⟩:=List.append_of_mem he
     obtain⟨m,w1,w2⟩:=Wlk.split h
     have hmv:m=v:=by
      cases w2 with
      | cons _ _=>exact hev
     subst hmv
     obtain⟨L',a1,a2,a3⟩:=ih (L:=x) (by simp only[List.length_append,List.length_cons] at hk;omega) w1
     refine⟨L',a1,a2,Int.le_trans a3 ?_⟩
     have:=hn m _ w2
     rw[sumE_app]
     omega
    ·refine⟨L,h,?_,Int.le_refl _⟩
     rw[List.nodup_append]
     refine⟨hd,by simp,fun a ha b hb=>?_⟩
     simp only[List.mem_singleton] at hb
     subst hb
     exact fun e=>hm (e ▸ ha)
   ·obtain⟨x,y,z,m,rfl,hy,w1,w2,w3,_⟩:=cut_walk h hd
    have hyl:0 < y.length:=List.length_pos_iff.2 hy
    obtain⟨L',a1,a2,a3⟩:=ih (L:=x++z) (by simp only[List.length_append] at hk ⊢;omega) (w1.app w3)
    refine⟨L',a1,a2,Int.le_trans a3 ?_⟩
    have:=hn m y w2
    simp only[sumE_app]
    omega
 obtain⟨L',a1,a2,a3⟩:=key L.length (Nat.le_refl _) h
 refine⟨L',a1,?_,a3⟩
 have:=nodup_le n _ a2 (fun x hx=>by
  rcases List.mem_append.1 hx with hx|hx
  ·obtain⟨e,he,rfl⟩:=List.mem_map.1 hx
   exact(hi e (a1.mem e he)).1
  ·simp at hx;omega)
 simp at this
 omega
def low (x:List Int)(e:Ed):List Int:=if x.getD e.i 0+e.c < x.getD e.j 0 then x.set e.j (x.getD e.i 0+e.c) else x
def rnd (l:List Ed)(x:List Int):List Int:=l.foldl low x
theorem low_len(x:List Int)(e:Ed):(low x e).length=x.length:=by unfold low;split<;>simp
theorem rnd_len:∀ (l:List Ed) (x:List Int),(rnd l x).length=x.length
 | [],x=>rfl
 | e::l,x=>by
  show(rnd l (low x e)).length=_
  rw[rnd_len l,low_len]
theorem set_getD(x:List Int)(i v:Nat)(y:Int):(x.set i y).getD v 0=if i=v∧v < x.length then y else x.getD v 0:=by
 simp only[List.getD,List.getElem?_set];by_cases h:i=v
 ·subst h;by_cases hv:i < x.length
  ·simp[hv]
  simp[hv]
 simp[h]
theorem low_le(x:List Int)(e:Ed)(v:Nat):(low x e).getD v 0≤x.getD v 0:=by
 unfold low;split
 ·rw[set_getD];split
  ·rename_i h1 h2;rw[← h2.1];omega
  exact Int.le_refl _
 exact Int.le_refl _
theorem rnd_le:∀ (l:List Ed) (x:List Int) (v:Nat),(rnd l x).getD v 0≤x.getD v 0
 | [],x,v=>Int.le_refl _
 | e::l,x,v=>Int.le_trans (rnd_le l (low x e) v) (low_le x e v)
theorem rnd_edge:∀ (l:List Ed) (x:List Int),(∀ e ∈ l,e.j < x.length)→∀ e ∈ l,(rnd l x).getD e.j 0≤x.getD e.i 0+e.c
 | [],x,_,e,h=>by simp at h
 | e::l,x,hj,e',h=>by
  show(rnd l (low x e)).getD e'.j 0≤_
  rcases List.mem_cons.1 h with rfl|h
  ·refine Int.le_trans (rnd_le l _ _) ?_
   unfold low
   split
   ·rw[set_getD,if_pos ⟨rfl,hj _ (by simp)⟩];exact Int.le_refl _
   ·omega
  ·have h1:=rnd_edge l (low x e) (fun e2 he2=>by rw[low_len];exact hj e2 (by simp[he2])) e' h
   have h2:=low_le x e e'.i
   omega
def SumW (p:Ed→Prop)(n:Nat)(x:List Int):Prop:=∀ v,v < n→∃ u L,u < n∧Wlk p u v L∧sumE L=x.getD v 0
theorem Wlk.snoc{p:Ed→Prop}{u v:Nat}{L:List Ed}{e:Ed}(h:Wlk p u v L)(he:p e)(hv:v=e.i):Wlk p u e.j (L++[e]):=by
 subst hv;exact h.app (.cons he (.nil _))
theorem low_sumW{p:Ed→Prop}{n:Nat}{x:List Int}{e:Ed}(h:SumW p n x)(hi:In p n)(he:p e):SumW p n (low x e):=by
 intro v hv;unfold low;split
 ·rw[set_getD];split
  ·rename_i h1 h2
   obtain⟨u,L,hu,w,s⟩:=h e.i (hi e he).1;refine⟨u,L++[e],hu,?_,?_⟩
   ·rw[← h2.1];exact w.snoc he rfl
   rw[sumE_app,s];simp[sumE]
  exact h v hv
 exact h v hv
theorem rnd_sumW{p:Ed→Prop}{n:Nat}(hi:In p n):∀ (l:List Ed) {x:List Int},(∀ e ∈ l,p e)→SumW p n x→SumW p n (rnd l x)
 | [],x,_,h=>h
 | e::l,x,hl,h=>rnd_sumW hi l (fun e' he'=>hl e' (by simp[he'])) (low_sumW h hi (hl e (by simp)))
def rnds (l:List Ed)(x:List Int):Nat→List Int
 | 0=>x
 | k+1=>rnd l (rnds l x k)
theorem rnds_len(l:List Ed)(x:List Int):∀ k,(rnds l x k).length=x.length
 | 0=>rfl
 | k+1=>by show(rnd l _).length=_;rw[rnd_len,rnds_len l x k]
theorem rnds_walk{l:List Ed}{x:List Int}(hx:∀ v,x.getD v 0=0)(hj:∀ e ∈ l,e.j < x.length):∀ (k:Nat) {u v:Nat} {L:List Ed},L.length≤k→Wlk (· ∈ l) u v L→(rnds l x k).getD v 0≤sumE L:=by
 intro k
 induction k with
 | zero =>
  intro u v L hk h
  obtain rfl:L=[]:=List.eq_nil_of_length_eq_zero (by omega)
  show x.getD v 0≤0
  rw[hx];exact Int.le_refl _
 | succ k ih =>
  intro u v L hk h
  show(rnd l (rnds l x k)).getD v 0≤sumE L
  rcases List.eq_nil_or_concat L with rfl|⟨M,e,rfl⟩
  ·refine Int.le_trans (rnd_le l _ v) (ih (L:=[]) (by simp) h)
  ·rw[List.concat_eq_append] at h hk ⊢
   obtain⟨m,w1,w2⟩:=Wlk.split h
   cases w2 with
   | cons he w3 =>
    have hev:=w3.nil_eq
    subst hev
    have h1:=rnd_edge l (rnds l x k) (fun e he=>by rw[rnds_len];exact hj e he) e he
    have h2:=ih (L:=M) (by simp only[List.length_append,List.length_cons,List.length_nil] at hk;omega) w1
    rw[sumE_app]
    simp only[sumE]
    omega
theorem low_same{x:List Int}{e:Ed}(h:x.getD e.j 0≤x.getD e.i 0+e.c):low x e=x:=if_neg (by omega)
theorem rnd_same:∀ (l:List Ed) (x:List Int),(∀ e ∈ l,x.getD e.j 0≤x.getD e.i 0+e.c)→rnd l x=x
 | [],x,_=>rfl
 | e::l,x,h=>by
  show rnd l (low x e)=x
  rw[low_same (h e (by simp))]
  exact rnd_same l x fun e' he'=>h e' (by simp[he'])
theorem rnds_done{l:List Ed}{x:List Int}{n:Nat}(hx:∀ v,x.getD v 0=0)(hl:x.length=n)(hi:In (· ∈ l) n)(hn:NoNeg (· ∈ l))(hn0:0 < n):∀ e ∈ l,(rnds l x (n - 1)).getD e.j 0≤(rnds l x (n - 1)).getD e.i 0+e.c:=by
 intro e he
 have hj:∀ e ∈ l,e.j < x.length:=fun e he=>by rw[hl];exact(hi e he).2
 have hs:∀ k,SumW (· ∈ l) n (rnds l x k):=by
  intro k
  induction k with
  | zero=>exact fun v hv=>⟨v,[],hv,.nil v,by show(0:Int)=x.getD v 0;rw[hx]⟩
  | succ k ih=>exact rnd_sumW hi l (fun _ h=>h) ih
 obtain⟨u,L,hu,w,s⟩:=hs (n - 1) e.i (hi e he).1
 obtain⟨L',a1,a2,a3⟩:=shorten1 hn hi (hi e he).2 (w.snoc he rfl)
 have:=rnds_walk hx hj (n - 1) (by omega) a1
 rw[sumE_app,s] at a3
 simp only[sumE] at a3
 omega
theorem noNeg_of{p:Ed→Prop}(x:Nat→Int)(h:∀ e,p e→x e.j≤x e.i+e.c):NoNeg p:=by
 have key:∀ u v L,Wlk p u v L→x v≤x u+sumE L:=by
  intro u v L hw
  induction hw with
  | nil=>simp[sumE]
  | cons h1 _ ih=>have:=h _ h1;simp only[sumE];omega
 intro u L hw
 have:=key u u L hw
 omega
theorem noNeg_rank{p:Ed→Prop}(r:Nat→Nat)(h:∀ e,p e→r e.i < r e.j):NoNeg p:=by
 have key:∀ u v L,Wlk p u v L→L≠[]→r u < r v:=by
  intro u v L hw
  induction hw with
  | nil=>intro h;exact absurd rfl h
  | @cons e v L h1 h2 ih =>
   intro _
   have:=h _ h1
   by_cases hL:L=[]
   ·subst hL
    have hev:=h2.nil_eq
    subst hev
    exact this
   ·have:=ih hL;omega
 intro u L hw
 by_cases hL:L=[]
 ·subst hL;exact Int.le_refl _
 ·have:=key u u L hw hL;omega
def far:Int:=1152921504606846976
def tlow (src dst:Ed→Nat)(old:List Int)(r:List Int)(e:Ed):List Int :=
 if old.getD (src e) 0≠far∧old.getD (src e) 0+e.c < r.getD (dst e) 0 then r.set (dst e) (old.getD (src e) 0+e.c) else r
def trow (src dst:Ed→Nat)(l:List Ed)(old:List Int)(n:Nat):List Int:=l.foldl (tlow src dst old) (List.replicate n far)
def RowS (R:Nat→Int→Prop)(n:Nat)(r:List Int):Prop:=r.length=n∧∀ v,v < n→(r.getD v 0≠far→R v (r.getD v 0))∧∀ c,R v c→r.getD v 0≤c
theorem tlow_len(src dst:Ed→Nat)(old r:List Int)(e:Ed):(tlow src dst old r e).length=r.length:=by unfold tlow;split<;>simp
theorem tlow_le(src dst:Ed→Nat)(old r:List Int)(e:Ed)(v:Nat):(tlow src dst old r e).getD v 0≤r.getD v 0:=by
 unfold tlow;split
 ·rename_i h
  rw[set_getD];split
  ·rename_i h1;rw[← h1.1];omega
  exact Int.le_refl _
 exact Int.le_refl _
theorem tfold_le(src dst:Ed→Nat)(old:List Int):∀ (l:List Ed) (r:List Int) (v:Nat),(l.foldl (tlow src dst old) r).getD v 0≤r.getD v 0
 | [],_,_=>Int.le_refl _
 | e::l,r,v=>Int.le_trans (tfold_le src dst old l _ v) (tlow_le src dst old r e v)
theorem tfold_len(src dst:Ed→Nat)(old:List Int):∀ (l:List Ed) (r:List Int),(l.foldl (tlow src dst old) r).length=r.length
 | [],_=>rfl
 | e::l,r=>by rw[List.foldl_cons,tfold_len src dst old l,tlow_len]
theorem tfold_from(src dst:Ed→Nat)(old:List Int)(n:Nat):∀ (l:List Ed) (r:List Int),r.length=n→∀ v,v < n→(l.foldl (tlow src dst old) r).getD v 0=r.getD v 0∨∃ e ∈ l,dst e=v∧old.getD (src e) 0≠far∧(l.foldl (tlow src dst old) r).getD v 0=old.getD (src e) 0+e.c
 | [],_,_,_,_=>.inl rfl
 | e::l,r,hr,v,hv=>by
  rw[List.foldl_cons]
  rcases tfold_from src dst old n l (tlow src dst old r e) (by rw[tlow_len,hr]) v hv with h|⟨e',he',h⟩
  ·rw[h]
   unfold tlow
   split
   ·rename_i hc
    rw[set_getD]
    split
    ·rename_i h1;exact .inr ⟨e,by simp,h1.1,hc.1,rfl⟩
    ·exact .inl rfl
   ·exact .inl rfl
  ·exact .inr ⟨e',by simp[he'],h⟩
theorem tfold_edge(src dst:Ed→Nat)(old:List Int)(n:Nat):∀ (l:List Ed) (r:List Int),r.length=n→∀ e ∈ l,dst e < n→old.getD (src e) 0≠far→(l.foldl (tlow src dst old) r).getD (dst e) 0≤old.getD (src e) 0+e.c
 | [],_,_,e,h,_,_=>by simp at h
 | e'::l,r,hr,e,h,hd,ho=>by
  rw[List.foldl_cons]
  rcases List.mem_cons.1 h with rfl|h
  ·refine Int.le_trans (tfold_le src dst old l _ _) ?_
   unfold tlow
   split
   ·rw[set_getD,if_pos ⟨rfl,by omega⟩];exact Int.le_refl _
   ·rename_i hc
    have:¬ (old.getD (src e) 0+e.c < r.getD (dst e) 0):=fun q=>hc ⟨ho,q⟩
    omega
  ·exact tfold_edge src dst old n l _ (by rw[tlow_len,hr]) e h hd ho
theorem rep_getD{n v:Nat}(hv:v < n):(List.replicate n far).getD v 0=far:=by simp[List.getD,hv]
theorem trow_spec{src dst:Ed→Nat}{l:List Ed}{old:List Int}{n:Nat}{R R':Nat→Int→Prop}(hb:∀ v c,R v c→c < far)(hb':∀ v c,R' v c→c < far)(hi:∀ e ∈ l,src e < n∧dst e < n)(ho:RowS R n old)
  (hR:∀ v c,R' v c ↔ ∃ e ∈ l,dst e=v∧∃ c',R (src e) c'∧c=c'+e.c):RowS R' n (trow src dst l old n):=by
 refine⟨by unfold trow;rw[tfold_len];simp,fun v hv=>⟨fun hne=>?_,fun c hc=>?_⟩⟩
 ·rcases tfold_from src dst old n l (List.replicate n far) (by simp) v hv with h|⟨e,he,h1,h2,h3⟩
  ·exact absurd (h.trans (rep_getD hv)) hne
  ·refine(hR v _).2 ⟨e,he,h1,_,(ho.2 _ (hi e he).1).1 h2,h3⟩
 ·obtain⟨e,he,rfl,c',hc',rfl⟩:=(hR v c).1 hc
  have h1:=(ho.2 _ (hi e he).1).2 c' hc'
  have h2:=hb _ _ hc'
  have:=tfold_edge src dst old n l (List.replicate n far) (by simp) e he (hi e he).2 (by omega)
  show(l.foldl (tlow src dst old) (List.replicate n far)).getD _ 0≤_
  omega
def FW (l:List Ed)(s k v:Nat)(c:Int):Prop:=∃ L,Wlk (· ∈ l) s v L∧L.length=k∧sumE L=c
theorem sumE_bd{l:List Ed}(hc:∀ e ∈ l,-1099511627776≤e.c∧e.c≤1099511627776):∀ (L:List Ed),(∀ e ∈ L,e ∈ l)→-((L.length:Int) * 1099511627776)≤sumE L∧sumE L≤(L.length:Int) * 1099511627776
 | [],_=>by simp[sumE]
 | e::L,h=>by
  have h1:=sumE_bd hc L fun e he=>h e (by simp[he])
  have h2:=hc e (h e (by simp))
  simp only[sumE,List.length_cons,Int.natCast_add,Int.natCast_one,Int.add_mul]
  omega
theorem fw_bd{l:List Ed}(hc:∀ e ∈ l,-1099511627776≤e.c∧e.c≤1099511627776){s k v:Nat}{c:Int}(h:FW l s k v c):-((k:Int) * 1099511627776)≤c∧c≤(k:Int) * 1099511627776:=by
 obtain⟨L,w,rfl,rfl⟩:=h;exact sumE_bd hc L w.mem
theorem fw_0{l:List Ed}{s v:Nat}{c:Int}:FW l s 0 v c ↔ v=s∧c=0:=by
 constructor
 ·rintro⟨L,w,h,rfl⟩;obtain rfl:=List.eq_nil_of_length_eq_zero h;exact⟨w.nil_eq.symm,rfl⟩
 rintro⟨rfl,rfl⟩;exact⟨[],.nil _,rfl,rfl⟩
theorem fw_snoc{l:List Ed}{s k v:Nat}{c:Int}:FW l s (k+1) v c ↔ ∃ e ∈ l,e.j=v∧∃ c',FW l s k e.i c'∧c=c'+e.c:=by
 constructor
 ·rintro⟨L,w,h,rfl⟩
  rcases List.eq_nil_or_concat L with rfl|⟨M,e,rfl⟩
  ·simp at h
  ·rw[List.concat_eq_append] at w h ⊢
   obtain⟨m,w1,w2⟩:=Wlk.split w
   cases w2 with
   | cons he w3 =>
    refine⟨e,he,w3.nil_eq,_,⟨M,w1,by simpa using h,rfl⟩,?_⟩
    rw[sumE_app];simp[sumE]
 ·rintro⟨e,he,rfl,c',⟨M,w,h,rfl⟩,rfl⟩
  exact⟨M++[e],w.snoc he rfl,by simp[h],by rw[sumE_app];simp[sumE]⟩
theorem fw_cons{l:List Ed}{k u t:Nat}{c:Int}:FW l u (k+1) t c ↔ ∃ e ∈ l,e.i=u∧∃ c',FW l e.j k t c'∧c=c'+e.c:=by
 constructor
 ·rintro⟨L,w,h,rfl⟩
  cases w with
  | nil=>simp at h
  | @cons e _ M he w2=>exact⟨e,he,rfl,_,⟨M,w2,by simpa using h,rfl⟩,by simp only[sumE];omega⟩
 ·rintro⟨e,he,rfl,c',⟨M,w,h,rfl⟩,rfl⟩
  exact⟨e::M,.cons he w,by simp[h],by simp only[sumE];omega⟩
theorem row_0{l:List Ed}{n s:Nat}(hs:s < n):RowS (fun v c=>FW l s 0 v c) n ((List.replicate n far).set s 0):=by
 refine⟨by simp,fun v hv=>⟨fun h=>?_,fun c hc=>?_⟩⟩
 ·rw[set_getD] at h ⊢;by_cases hsv:s=v
  ·rw[if_pos ⟨hsv,by simpa using hv⟩];exact fw_0.2 ⟨hsv.symm,rfl⟩
  rw[if_neg (fun q=>hsv q.1),rep_getD hv] at h;exact absurd rfl h
 obtain⟨rfl,rfl⟩:=fw_0.1 hc;rw[set_getD,if_pos ⟨rfl,by simpa using hv⟩];exact Int.le_refl _
theorem row_0b{l:List Ed}{n t:Nat}(ht:t < n):RowS (fun u c=>FW l u 0 t c) n ((List.replicate n far).set t 0):=by
 have h:=row_0 (l:=l) (n:=n) (s:=t) ht;refine⟨h.1,fun v hv=>⟨fun q=>?_,fun c hc=>?_⟩⟩
 ·have:=fw_0.1 ((h.2 v hv).1 q);exact fw_0.2 ⟨this.1.symm,this.2⟩
 have:=fw_0.1 hc;exact(h.2 v hv).2 c (fw_0.2 ⟨this.1.symm,this.2⟩)
section
variable {l:List Ed}{n:Nat}(hc:∀ e ∈ l,-1099511627776≤e.c∧e.c≤1099511627776)(hi:In (· ∈ l) n)
include hc hi
theorem row_f{s k:Nat}{old:List Int}(hk:k≤1000000)(h:RowS (fun v c=>FW l s k v c) n old):RowS (fun v c=>FW l s (k+1) v c) n (trow (·.i) (·.j) l old n):=by
 refine trow_spec (fun v c q=>?_) (fun v c q=>?_) (fun e he=>hi e he) h (fun v c=>fw_snoc)
 ·have:=fw_bd hc q;unfold far;omega
 have:=fw_bd hc q;unfold far;omega
theorem row_b{t k:Nat}{old:List Int}(hk:k≤1000000)(h:RowS (fun u c=>FW l u k t c) n old):RowS (fun u c=>FW l u (k+1) t c) n (trow (·.j) (·.i) l old n):=by
 refine trow_spec (fun v c q=>?_) (fun v c q=>?_) (fun e he=>⟨(hi e he).2,(hi e he).1⟩) h (fun v c=>fw_cons)
 ·have:=fw_bd hc q;unfold far;omega
 have:=fw_bd hc q;unfold far;omega
end
def Cyc (p:Ed→Prop)(k:Nat):Prop:=∃ u L,Wlk p u u L∧L.length=k∧sumE L < 0
def Least(p:Ed→Prop)(k:Nat):Prop:=∀ k',k' < k→¬ Cyc p k'
theorem cyc_simple{p:Ed→Prop}{u:Nat}{L:List Ed}(hl:Least p L.length)(w:Wlk p u u L)(hs:sumE L < 0):(L.map (·.i)).Nodup:=by
 refine Classical.byContradiction fun hd=>?_;obtain⟨x,y,z,m,rfl,hy,w1,w2,w3,hz⟩:=cut_walk w hd;have hyl:0 < y.length:=List.length_pos_iff.2 hy;have hzl:0 < z.length:=List.length_pos_iff.2 hz;simp only[sumE_app] at hs;by_cases h:sumE y < 0
 ·exact hl y.length (by simp only[List.length_append];omega) ⟨m,y,w2,rfl,h⟩
 exact hl (x++z).length (by simp only[List.length_append];omega) ⟨u,x++z,w1.app w3,rfl,by rw[sumE_app];omega⟩
theorem cyc_of{p:Ed→Prop}{n:Nat}(hi:In p n)(hn:¬ NoNeg p):∃ k,0 < k∧k≤n∧Cyc p k∧Least p k:=by
 have h1:∃ k,Cyc p k:=by
  refine Classical.byContradiction fun h=>hn fun u L w=>?_
  refine Classical.byContradiction fun hs=>h ⟨L.length,u,L,w,rfl,by omega⟩
 have hmin:∀ k,Cyc p k→∃ m,Cyc p m∧Least p m:=by
  intro k
  induction k using Nat.strongRecOn with
  | ind k ih =>
   intro hk
   by_cases hl:Least p k
   ·exact⟨k,hk,hl⟩
   ·have:∃ k',k' < k∧Cyc p k':=by
     refine Classical.byContradiction fun q=>hl fun k' hk' hc=>q ⟨k',hk',hc⟩
    obtain⟨k',hk',hc⟩:=this
    exact ih k' hk' hc
 obtain⟨k,hk⟩:=h1
 obtain⟨m,⟨u,L,w,rfl,hs⟩,hl⟩:=hmin k hk
 have hd:=cyc_simple hl w hs
 have hle:=nodup_le n _ hd (fun x hx=>by
  obtain⟨e,he,rfl⟩:=List.mem_map.1 hx
  exact(hi e (w.mem e he)).1)
 refine⟨L.length,?_,by simpa using hle,⟨u,L,w,rfl,hs⟩,hl⟩
 rcases Nat.eq_zero_or_pos L.length with h|h
 ·obtain rfl:=List.eq_nil_of_length_eq_zero h
  simp[sumE] at hs
 ·exact h
theorem Wlk.head{p:Ed→Prop}{u v:Nat}{L:List Ed}(h:Wlk p u v L):(L.map (·.i)++[v]).head? = some u:=by
 cases h<;>rfl
theorem drop_one{p:Ed→Prop}{u:Nat}{x y:List Ed}{e:Ed}(w:Wlk p u u (x++e::y))(hd:((x++e::y).map (·.i)).Nodup):NoNeg (· ∈ x++y):=by
 obtain⟨m,w1,w2⟩:=Wlk.split w
 have hm:m=e.i:=by
  cases w2 with
  | cons _ _=>rfl
 cases w2 with
 | cons he w3 =>
 -- the walk from behind e round to e
 have w4:Wlk p e.j e.i (y++x):=by rw[← hm];exact w3.app (hm ▸ w1)
 have hd2:(((y++x).map (·.i))++[e.i]).Nodup:=by
  refine(List.Perm.nodup_iff ?_).1 hd
  simp only[List.map_append,List.map_cons]
  refine(List.perm_append_comm).trans ?_
  simp only[List.cons_append]
  refine(List.perm_append_singleton _ _).symm.trans (List.Perm.append ?_ (List.Perm.refl _))
  exact List.Perm.refl _
 -- the place in this walk is a rank
 refine noNeg_rank (fun v=>((y++x).map (·.i)++[e.i]).idxOf v) (fun f hf=>?_)
 have hf':f ∈ y++x:=by
  rcases List.mem_append.1 hf with h|h
  ·exact List.mem_append.2 (.inr h)
  ·exact List.mem_append.2 (.inl h)
 obtain⟨a,b,hab⟩:=List.append_of_mem hf'
 rw[hab] at w4 hd2 ⊢
 obtain⟨m2,w5,w6⟩:=Wlk.split w4
 cases w6 with
 | cons hf2 w7 =>
 -- what comes behind f begins at f.j
 have hj:(b.map (·.i)++[e.i]).head? = some f.j:=w7.head
 simp only[List.map_append,List.map_cons,List.append_assoc,List.cons_append] at hd2 ⊢
 obtain⟨c,hcj⟩:∃ c,b.map (·.i)++[e.i]=f.j::c:=by
  cases hb:b.map (·.i)++[e.i] with
  | nil=>rw[hb] at hj;cases hj
  | cons g c=>rw[hb] at hj;simp at hj;subst hj;exact⟨c,rfl⟩
 rw[hcj] at hd2 ⊢
 rw[List.nodup_append] at hd2
 obtain⟨_,n2,n3⟩:=hd2
 have hfa:f.i ∉ a.map (·.i):=fun q=>n3 _ q f.i (by simp) rfl
 have hja:f.j ∉ a.map (·.i):=fun q=>n3 _ q f.j (by simp) rfl
 have hfj:f.i≠f.j:=fun q=>by
  rw[List.nodup_cons] at n2
  exact n2.1 (by rw[q];simp)
 have i1:(a.map (·.i)++f.i::f.j::c).idxOf f.i=(a.map (·.i)).length:=by
  rw[List.idxOf_append,if_neg hfa,List.idxOf_cons_self]
  simp
 have i2:(a.map (·.i)++f.i::f.j::c).idxOf f.j=(a.map (·.i)).length+1:=by
  rw[List.idxOf_append,if_neg hja,List.idxOf_cons,show(f.i == f.j)=false by simpa using hfj,List.idxOf_cons_self]
  simp
  omega
 rw[i1,i2]
 omega
theorem shots_total(l:List Int)(hl:l.length≤1000):∃ v,g_shots_Check l=some v:=by
 unfold g_shots_Check
 by_cases h:400 < (l.length:Int)
 ·exact⟨9,by simp[h]⟩
 ·rw[if_neg (by simpa using h)]
  have hh:∃ e,iter (g_shots_Check_s1 l) 0=some e:=by
   refine iter_ends l.length (by omega) (fun i hi=>?_) ?_
   ·unfold g_shots_Check_s1
    rw[if_pos (by simpa using hi),atI_nat hi,wr64 (x:=(i:Int)+1) (by omega)]
    simp only[Option.bind_some]
    have hv:∃ b:Bool,(if decide (l[i] < 1)=true then some true else some (decide (5184000 < l[i])):Option Bool)=some b:=by
     by_cases q:l[i] < 1
     ·exact⟨true,by simp[q]⟩
     ·exact⟨_,by simp[q];rfl⟩
    obtain⟨b,hb⟩:=hv
    rw[hb]
    simp only[Option.bind_some]
    cases b
    ·simp only[Bool.false_eq_true,if_false]
     by_cases q:0 < (i:Int)
     ·rw[if_pos (by simpa using q),wr64 (by omega),show((i:Int) - 1)=((i - 1:Nat):Int) by omega,atI_nat (show i - 1 < l.length by omega)]
      simp only[Option.bind_some]
      by_cases q2:l[i]≤l[i - 1]
      ·exact .inr ⟨_,by rw[if_pos (by simpa using q2)]⟩
      ·exact .inl (by rw[if_neg (by simpa using q2)])
     ·exact .inl (by rw[if_neg (by simpa using q)])
    ·exact .inr ⟨_,rfl⟩
   ·unfold g_shots_Check_s1
    exact⟨_,by rw[if_neg (by simp)]⟩
  obtain⟨e,he⟩:=hh
  rw[he]
  cases e<;>exact⟨_,rfl⟩
def shC (l:List Int):Int:=(g_shots_Check l).getD 0
theorem shC_eq(l:List Int)(hl:l.length≤1000):g_shots_Check l=some (shC l):=by
 obtain⟨v,h⟩:=shots_total l hl;unfold shC;rw[h];rfl
def frB (f:Int):Bool:=decide (0≤f)&&decide (f≤5184000)
theorem frame_eq(f:Int):g_shots_frame f=some (frB f):=by
 unfold g_shots_frame frB;by_cases h:0≤f<;>simp[h]
theorem close_total(l:List Int)(hl:l.length≤1000)(f b a:Int):∃ r,g_shots_tooClose l f b a=some r:=by
 have hh:∃ e,iter (g_shots_tooClose_s1 l f b a) 0=some e:=by
  refine iter_ends l.length (by omega) (fun i hi=>?_) ?_
  ·unfold g_shots_tooClose_s1
   rw[if_pos (by simpa using hi),atI_nat hi,wr64 (x:=(i:Int)+1) (by omega)]
   simp only[Option.bind_some]
   split
   ·split
    ·exact .inr ⟨_,rfl⟩
    ·split
     ·simp only[Option.bind_some];split
      ·exact .inr ⟨_,rfl⟩
      ·exact .inl rfl
     ·exact .inl rfl
   ·split
    ·simp only[Option.bind_some];split
     ·exact .inr ⟨_,rfl⟩
     ·exact .inl rfl
    ·exact .inl rfl
  ·unfold g_shots_tooClose_s1
   exact⟨_,by rw[if_neg (by simp)]⟩
 obtain⟨e,he⟩:=hh
 unfold g_shots_tooClose
 rw[he]
 cases e<;>exact⟨_,rfl⟩
theorem size_eq(n:Int):∃ r,g_shots_size n=some r:=⟨_,rfl⟩
theorem Snap_total(l:List Int)(hl:l.length≤1000)(f b a:Int):∃ r,g_shots_Snap l f b a=some r∧(r.2=true→frB r.1=true):=by
 have h0:∃ v,g_shots_usable l f b a=some v:=by
  unfold g_shots_usable
  rw[shC_eq l hl]
  simp only[Option.bind_some,frame_eq]
  cases shC l == 0<;>cases frB f<;>cases frB b<;>exact⟨_,rfl⟩
 obtain⟨v,hv⟩:=h0
 unfold g_shots_Snap
 rw[hv]
 simp only[Option.bind_some]
 cases v with
 | false=>exact⟨_,rfl,by simp⟩
 | true =>
  simp only[if_true]
  have h1:=iter_run (step:=g_shots_Snap_s1 l b a) l (by omega) (fun i s=>(i,s)) (fun s y=>.inr (s++[IntKind.i64.wrap (y - b),y,IntKind.i64.wrap (y+a)])) id (fun i s=>s.length=3 * i+1) (s0:=[f]) rfl
   (fun i hi s hs=>.inr ⟨_,rfl,by
    unfold g_shots_Snap_s1
    rw[if_pos (by simpa using hi),atI_nat hi,wr64 (x:=(i:Int)+1) (by omega)]
    simp only[Option.bind_some]
    rw[if_pos (by omega)],by simp[hs];omega⟩)
   (fun s hs=>by unfold g_shots_Snap_s1;rw[if_neg (by simp)];rfl)
  rw[h1]
  simp only[Option.bind_some]
  generalize hE:runF (E:=List Int) _ _ _ l=E0
  have hlen:E0.length≤3001:=by
   have:∀ (t:List Int) (s:List Int),(runF (fun(s:List Int) y=>(.inr (s++[IntKind.i64.wrap (y - b),y,IntKind.i64.wrap (y+a)]):List Int ⊕ List Int)) id s t).length=s.length+3 * t.length:=by
    intro t
    induction t with
    | nil=>intro s;simp[runF]
    | cons c t ih=>intro s;simp only[runF];rw[ih];simp;omega
   have:=this l [f]
   rw[hE] at this
   rw[this];simp;omega
  obtain⟨e,he,hp⟩:=iter_post (step:=g_shots_Snap_s2 l f b a E0) (fun x=>0≤x.2.2∧x.2.2≤(E0.length:Int)∧(x.2.1=true→frB x.1=true)) (fun x=>E0.length - x.2.2.toNat) (fun e=>e.2=true→frB e.1=true) (x:=(0,false,0)) ⟨by simp,by simp,by simp⟩ (by dsimp only;omega) (by
   rintro⟨bst,ok,i⟩ ⟨q1,q2,q3⟩
   dsimp only at q1 q2 q3
   obtain⟨i,rfl⟩:=Int.eq_ofNat_of_zero_le q1
   unfold g_shots_Snap_s2
   dsimp only
   by_cases hi:i < E0.length
   ·left
    rw[if_pos (by simpa using hi),atI_nat hi,wr64 (x:=(i:Int)+1) (by omega)]
    simp only[Option.bind_some,frame_eq]
    cases hf:frB E0[i] with
    | false=>exact⟨_,rfl,⟨by dsimp only;omega,by dsimp only;omega,q3⟩,by dsimp only;omega⟩
    | true =>
     simp only[if_true]
     obtain⟨r,hr⟩:=close_total l hl E0[i] b a
     rw[hr]
     simp only[Option.bind_some]
     cases r.2 with
     | true=>exact⟨_,rfl,⟨by dsimp only;omega,by dsimp only;omega,q3⟩,by dsimp only;omega⟩
     | false =>
      simp only[Bool.false_eq_true,if_false]
      have hv:∃ v:Bool,(if ok=true then((g_shots_size (IntKind.i64.wrap (E0[i] - f))).bind fun r365=>((g_shots_size (IntKind.i64.wrap (bst - f))).bind fun r367=>(if(decide (r365 < r367)) then(some true) else((g_shots_size (IntKind.i64.wrap (E0[i] - f))).bind fun r370=>((g_shots_size (IntKind.i64.wrap (bst - f))).bind fun r372=>(if(r370 == r372) then(some (decide (E0[i] < bst))) else(some false))))))) else(some true):Option Bool)=some v:=by
       cases ok with
       | false=>exact⟨_,rfl⟩
       | true =>
        obtain⟨r1,e1⟩:=size_eq (IntKind.i64.wrap (E0[i] - f))
        obtain⟨r2,e2⟩:=size_eq (IntKind.i64.wrap (bst - f))
        simp only[e1,e2,Option.bind_some,if_true]
        split
        ·exact⟨_,rfl⟩
        ·split<;>exact⟨_,rfl⟩
      obtain⟨v,hv⟩:=hv
      rw[hv]
      simp only[Option.bind_some]
      cases v with
      | true=>exact⟨_,rfl,⟨by dsimp only;omega,by dsimp only;omega,fun _=>hf⟩,by dsimp only;omega⟩
      | false=>exact⟨_,rfl,⟨by dsimp only;omega,by dsimp only;omega,q3⟩,by dsimp only;omega⟩
   ·right
    rw[if_neg (by simpa using hi)]
    exact⟨_,rfl,q3⟩)
  rw[he]
  exact⟨_,rfl,hp⟩
def snS (l:List Int)(f b a:Int):Int × Bool:=(g_shots_Snap l f b a).getD (0,false)
theorem snS_eq(l:List Int)(hl:l.length≤1000)(f b a:Int):g_shots_Snap l f b a=some (snS l f b a)∧((snS l f b a).2=true→0≤(snS l f b a).1∧(snS l f b a).1≤5184000):=by
 obtain⟨r,h,hr⟩:=Snap_total l hl f b a;unfold snS;rw[h];refine⟨rfl,fun q=>?_⟩;have:=hr q;unfold frB at this;simpa using this
def cutS (t0:Int)(s:Int × Int)(from' below:Int):Int × Int:=if below≤from' then s else(if below≤t0 then(if below > s.1 then below else s.1) else s.1,if t0 < from' then(if from' < s.2 then from' else s.2) else s.2)
theorem zone_1_eq(from' below t0:Int)(s:T_api_Span):g_repair_zone_1 from' below t0 s=some (t0,⟨(cutS t0 (s.In,s.Out) from' below).1,(cutS t0 (s.In,s.Out) from' below).2⟩):=by
 unfold g_repair_zone_1 cutS;by_cases h1:below≤from'<;>by_cases h2:below≤t0<;>by_cases h3:t0 < from'<;>simp[h1,h2,h3]
def zoF (p:T_api_Profile)(t0:Int)(s:Int × Int)(y:Int):Int × Int :=
 cutS t0 (cutS t0 s (IntKind.i64.wrap (IntKind.i64.wrap (y - p.ShotBefore)+1)) y) (IntKind.i64.wrap (y+1)) (IntKind.i64.wrap (y+p.ShotAfter))
def zoR (p:T_api_Profile)(t0:Int)(l:List Int):Int × Int:=runF (fun s y=>.inr (zoF p t0 s y)) id (0,5184001) l
theorem cutS_in{t0:Int}{s:Int × Int}{f b:Int}(h:0≤s.1∧s.1≤t0∧t0 < s.2∧s.2≤5184001):0≤(cutS t0 s f b).1∧(cutS t0 s f b).1≤t0∧t0 < (cutS t0 s f b).2∧(cutS t0 s f b).2≤5184001:=by
 unfold cutS;split
 ·exact h
 refine⟨?_,?_,?_,?_⟩<;>dsimp only<;>(repeat' split)<;>omega
theorem zoR_in(p:T_api_Profile){t0:Int}(h0:0≤t0∧t0≤5184000)(l:List Int):0≤(zoR p t0 l).1∧(zoR p t0 l).1≤t0∧t0 < (zoR p t0 l).2∧(zoR p t0 l).2≤5184001:=by
 have:∀ (l:List Int) (s:Int × Int),(0≤s.1∧s.1≤t0∧t0 < s.2∧s.2≤5184001)→0≤(runF (fun s y=>(.inr (zoF p t0 s y):(Int × Int) ⊕ (Int × Int))) id s l).1∧(runF (fun s y=>(.inr (zoF p t0 s y):(Int × Int) ⊕ (Int × Int))) id s l).1≤t0∧t0 < (runF (fun s y=>(.inr (zoF p t0 s y):(Int × Int) ⊕ (Int × Int))) id s l).2∧(runF (fun s y=>(.inr (zoF p t0 s y):(Int × Int) ⊕ (Int × Int))) id s l).2≤5184001:=by
  intro l
  induction l with
  | nil=>intro s h;exact h
  | cons y t ih=>intro s h;simp only[runF];exact ih _ (cutS_in (cutS_in h))
 exact this l (0,5184001) (by dsimp only;omega)
def zoS (l:List Int)(f:Int)(p:T_api_Profile):T_api_Span × Int :=
 if(snS l f p.ShotBefore p.ShotAfter).2 then(⟨(zoR p (snS l f p.ShotBefore p.ShotAfter).1 l).1,(zoR p (snS l f p.ShotBefore p.ShotAfter).1 l).2⟩,0) else(⟨0,0⟩,6)
theorem zone_eq(l:List Int)(hl:l.length≤1000)(f:Int)(p:T_api_Profile):g_repair_zone l f p=some (zoS l f p):=by
 unfold g_repair_zone zoS
 rw[(snS_eq l hl f _ _).1]
 simp only[Option.bind_some]
 cases h:(snS l f p.ShotBefore p.ShotAfter).2 with
 | false=>rfl
 | true =>
  simp only[if_true]
  generalize (snS l f p.ShotBefore p.ShotAfter).1=t0
  have:=iter_run (step:=g_repair_zone_s1 l p) l (by omega) (fun i (s:Int × Int)=>(i,s.1,s.2,t0)) (fun s y=>.inr (zoF p t0 s y)) id (fun _ _=>True) (s0:=(0,5184001)) trivial
   (fun i hi s _=>.inr ⟨_,rfl,by
    unfold g_repair_zone_s1
    rw[if_pos (by simpa using hi),atI_nat hi,wr64 (x:=(i:Int)+1) (by omega)]
    simp only[Option.bind_some,zone_1_eq]
    rfl,trivial⟩)
   (fun s _=>by unfold g_repair_zone_s1;rw[if_neg (by simp)];rfl)
  rw[show(((0:Int),(0:Int),(5184001:Int),t0):Int × Int × Int × Int)=(fun i (s:Int × Int)=>(i,s.1,s.2,t0)) 0 (0,5184001) from rfl,this]
  rfl
theorem subH_take{α:Type}(l:List α)(k:Nat):subH l (if(k:Int) < (l.length:Int) then(k:Int) else(l.length:Int))=some (l.take k):=by
 unfold subH;split
 ·rename_i h
  rw[if_pos (by omega),Int.toNat_natCast,Nat.sub_zero,List.drop_zero]
 rename_i h
 rw[if_pos (by omega),Int.toNat_natCast,Nat.sub_zero,List.drop_zero,List.take_length,List.take_of_length_le (by omega)]
theorem from_eq(n lo hi:Int):g_region_from n lo hi=some (decide (lo≤n)&&decide (n≤hi)):=by
 unfold g_region_from;by_cases h:lo≤n<;>simp[h]
theorem regCheck_tot(r:T_api_Region):∃ v,g_region_Check r=some v:=by
 unfold g_region_Check
 rw[lines_Name_eq]
 simp only[Option.bind_some,from_eq]
 cases isNm r.Name with
 | false=>exact⟨_,rfl⟩
 | true =>
  simp only[if_true]
  generalize (decide (0≤r.Top)&&decide (r.Top≤14))=b1
  generalize (decide (1≤r.Height)&&decide (r.Height≤IntKind.i64.wrap (15 - r.Top)))=b2
  generalize (decide (0≤r.Left)&&decide (r.Left≤31))=b3
  generalize (decide (1≤r.Width)&&decide (r.Width≤IntKind.i64.wrap (32 - r.Left)))=b4
  cases b1<;>cases b2<;>cases b3<;>cases b4<;>simp only[Bool.false_eq_true,if_false,if_true,Option.bind_some,Bool.not_true,Bool.not_false]<;>first|exact⟨_,rfl⟩|(split<;>first|exact⟨_,rfl⟩|(split<;>exact⟨_,rfl⟩))
theorem regList_tot(l:List T_api_Region):∃ v,g_region_CheckList l=some v:=by
 unfold g_region_CheckList
 by_cases h:16 < (l.length:Int)
 ·exact⟨9,by simp[h]⟩
 ·rw[if_neg (by simpa using h)]
  obtain⟨e,he⟩:∃ e,iter (g_region_CheckList_s1 l) 0=some e:=by
   refine iter_ends l.length (by omega) (fun i hi=>?_) ?_
   ·unfold g_region_CheckList_s1
    rw[if_pos (by simpa using hi),atI_nat hi,wr64 (x:=(i:Int)+1) (by omega)]
    simp only[Option.bind_some]
    obtain⟨v,hv⟩:=regCheck_tot l[i]
    rw[hv]
    simp only[Option.bind_some]
    split
    ·exact .inr ⟨_,rfl⟩
    ·by_cases q:0 < (i:Int)
     ·rw[if_pos (by simpa using q),if_pos (by simpa using q),wr64 (by omega),show((i:Int) - 1)=((i - 1:Nat):Int) by omega,atI_nat (show i - 1 < l.length by omega)]
      simp only[Option.bind_some]
      split
      ·exact .inr ⟨_,rfl⟩
      ·split
       ·exact .inr ⟨_,rfl⟩
       ·exact .inl rfl
     ·rw[if_neg (by simpa using q),if_neg (by simpa using q)]
      simp only[Option.bind_some,Bool.false_eq_true,if_false]
      exact .inl trivial
   ·unfold g_region_CheckList_s1
    exact⟨_,by rw[if_neg (by simp)]⟩
  rw[he]
  cases e<;>exact⟨_,rfl⟩
theorem regFind_tot(l:List T_api_Region)(hl:l.length≤9223372036854775807)(n:List UInt8):∃ v,g_region_Find l n=some v:=by
 unfold g_region_Find
 split
 ·exact⟨_,rfl⟩
 ·obtain⟨e,he⟩:∃ e,iter (g_region_Find_s1 l n) 0=some e:=by
   refine iter_ends l.length hl (fun i hi=>?_) ?_
   ·unfold g_region_Find_s1
    rw[if_pos (by simpa using hi),atI_nat hi,wr64 (x:=(i:Int)+1) (by omega)]
    simp only[Option.bind_some]
    split
    ·exact .inr ⟨_,rfl⟩
    ·exact .inl rfl
   ·unfold g_region_Find_s1
    exact⟨_,by rw[if_neg (by simp)]⟩
  rw[he]
  cases e<;>exact⟨_,rfl⟩
theorem rate_fin:∀ r:Fin 256,(g_document_rate ((r.val:Nat):Int) true).isSome=true∧(g_document_rate ((r.val:Nat):Int) false).isSome=true:=by decide +kernel
theorem rate_tot(r:Int)(h0:0≤r)(h1:r≤255)(d:Bool):∃ v,g_document_rate r d=some v:=by
 have:=rate_fin ⟨r.toNat,by omega⟩;simp only[Int.toNat_of_nonneg h0] at this;cases d
 ·exact Option.isSome_iff_exists.1 this.2
 exact Option.isSome_iff_exists.1 this.1
theorem header_tot(d:T_api_Document)(ht:d.Title.length≤1048576)(h0:0≤d.Rate)(h1:d.Rate≤255):∃ v,g_document_header d=some v:=by
 unfold g_document_header
 rw[prog_Valid_eq _ (by omega),lines_Name_eq]
 obtain⟨v,hv⟩:=rate_tot d.Rate h0 h1 d.Drop
 rw[hv]
 simp only[Option.bind_some]
 cases gv d.Title with
 | false=>exact⟨_,rfl⟩
 | true =>
  simp only[if_true]
  split
  ·exact⟨_,rfl⟩
  ·split
   ·simp only[Option.bind_some]
    (repeat' split)<;>exact⟨_,rfl⟩
   ·cases isNm d.Lang
    ·exact⟨_,rfl⟩
    ·simp only[if_true,Option.bind_some]
     (repeat' split)<;>exact⟨_,rfl⟩
def spB (s:T_api_Span):Bool:=decide (0≤s.In)&&decide (s.In < s.Out)&&decide (s.Out≤5184000)
theorem spans_eq(s:T_api_Span):g_event_spans s=some (spB s):=by
 unfold g_event_spans spB;by_cases h1:0≤s.In<;>by_cases h2:s.In < s.Out<;>simp[h1,h2]
theorem kind_tot(k:Int):∃ v,g_event_KindName k=some v:=by
 unfold g_event_KindName;by_cases h1:k < 1
 ·exact⟨[],by simp[h1]⟩
 by_cases h2:4 < k
 ·exact⟨[],by simp[h1,h2]⟩
 simp only[h1,h2,decide_false,Bool.false_eq_true,if_false,Option.bind_some];have:k=1∨k=2∨k=3∨k=4:=by omega
 rcases this with rfl|rfl|rfl|rfl<;>exact⟨_,rfl⟩
theorem alike_tot(a b:T_api_Run):∃ v,g_style_alike a b=some v:=by
 unfold g_style_alike;(repeat' split)<;>exact⟨_,rfl⟩
def RowZ (r:T_api_Row):Prop:=∀ u ∈ r.Runs,u.Text.length≤1048576∧u.Ruby.length≤1048576
theorem styCheck_tot(r:T_api_Row)(h:RowZ r):∃ v,g_style_Check r=some v∧(v=0→r.Runs.length≤16):=by
 unfold g_style_Check
 by_cases h16:16 < (r.Runs.length:Int)
 ·exact⟨9,by simp[h16],by simp⟩
 ·rw[if_neg (by simpa using h16)]
  obtain⟨e,he⟩:∃ e,iter (g_style_Check_s1 r) 0=some e:=by
   refine iter_ends r.Runs.length (by omega) (fun i hi=>?_) ?_
   ·unfold g_style_Check_s1
    rw[if_pos (by simpa using hi),atI_nat hi,wr64 (x:=(i:Int)+1) (by omega)]
    simp only[Option.bind_some]
    have hz:=h _ (List.getElem_mem hi)
    rw[prog_Valid_eq _ (by omega),prog_Valid_eq _ (by omega)]
    simp only[Option.bind_some,g_style_Valid]
    split
    ·split
     ·exact .inr ⟨_,rfl⟩
     ·split
      ·split
       ·by_cases q:0 < (i:Int)
        ·rw[if_pos (by simpa using q),wr64 (by omega),show((i:Int) - 1)=((i - 1:Nat):Int) by omega,atI_nat (show i - 1 < r.Runs.length by omega)]
         simp only[Option.bind_some]
         obtain⟨v,hv⟩:=alike_tot (r.Runs[i - 1]'(by omega)) r.Runs[i]
         rw[hv]
         simp only[Option.bind_some]
         split
         ·exact .inr ⟨_,rfl⟩
         ·exact .inl rfl
        ·rw[if_neg (by simpa using q)]
         exact .inl rfl
       ·exact .inr ⟨_,rfl⟩
      ·exact .inr ⟨_,rfl⟩
    ·exact .inr ⟨_,rfl⟩
   ·unfold g_style_Check_s1
    exact⟨_,by rw[if_neg (by simp)]⟩
  rw[he]
  cases e<;>exact⟨_,rfl,fun _=>by omega⟩
theorem plain_tot(r:T_api_Row)(h:RowZ r)(h16:r.Runs.length≤16):∃ s,g_style_Plain r=some s∧s.length≤16777216:=by
 obtain⟨e,he,hp⟩:=iter_post (step:=g_style_Plain_s1 r) (fun x=>0≤x.1∧x.1≤(r.Runs.length:Int)∧(x.2.length:Int)≤x.1 * 1048576) (fun x=>r.Runs.length - x.1.toNat) (fun e=>e.length≤16777216) (x:=(0,[])) ⟨by simp,by simp,by simp⟩ (by dsimp only;omega) (by
  rintro⟨i,s⟩ ⟨q1,q2,q3⟩
  dsimp only at q1 q2 q3
  obtain⟨i,rfl⟩:=Int.eq_ofNat_of_zero_le q1
  unfold g_style_Plain_s1
  dsimp only
  by_cases hi:i < r.Runs.length
  ·left
   have hz:=h _ (List.getElem_mem hi)
   rw[if_pos (by simpa using hi),atI_nat hi,wr64 (x:=(i:Int)+1) (by omega)]
   simp only[Option.bind_some]
   rw[if_pos (by omega)]
   refine⟨_,rfl,⟨by dsimp only;omega,by dsimp only;omega,?_⟩,by dsimp only;omega⟩
   simp only[List.length_append,toI,List.length_map]
   omega
  ·right
   rw[if_neg (by simpa using hi)]
   exact⟨_,rfl,by omega⟩)
 unfold g_style_Plain
 rw[he]
 exact⟨_,rfl,by simpa[bytesOf] using hp⟩
theorem chLen_tot(s:List UInt8)(h:s.length≤1048576):∃ v,g_charset_Len s=some v:=by
 unfold g_charset_Len
 rw[prog_Valid_eq _ (by omega)]
 simp only[Option.bind_some]
 cases gv s with
 | false=>exact⟨_,rfl⟩
 | true =>
  simp only[if_true,g_unicode_utf8_RuneCountInString]
  rw[if_pos (by omega)]
  exact⟨_,rfl⟩
theorem styLen_tot(r:T_api_Row)(h:RowZ r)(hr:r.Runs.length≤1048576):∃ v,g_style_Len r=some v:=by
 obtain⟨e,he,hp⟩:=iter_post (step:=g_style_Len_s1 r) (fun x=>0≤x.2∧x.2≤(r.Runs.length:Int)) (fun x=>r.Runs.length - x.2.toNat) (fun e=>True) (x:=(0,0)) ⟨by simp,by simp⟩ (by dsimp only;omega) (by
  rintro⟨s,i⟩ ⟨q1,q2⟩
  dsimp only at q1 q2
  obtain⟨i,rfl⟩:=Int.eq_ofNat_of_zero_le q1
  unfold g_style_Len_s1
  dsimp only
  by_cases hi:i < r.Runs.length
  ·have hz:=h _ (List.getElem_mem hi)
   rw[if_pos (by simpa using hi),atI_nat hi,wr64 (x:=(i:Int)+1) (by omega)]
   simp only[Option.bind_some]
   obtain⟨v,hv⟩:=chLen_tot _ hz.1
   rw[hv]
   simp only[Option.bind_some]
   split
   ·exact .inr ⟨_,rfl,trivial⟩
   ·exact .inl ⟨_,rfl,⟨by dsimp only;omega,by dsimp only;omega⟩,by dsimp only;omega⟩
  ·right
   rw[if_neg (by simpa using hi)]
   exact⟨_,rfl,trivial⟩)
 unfold g_style_Len
 rw[he]
 cases e<;>exact⟨_,rfl⟩
theorem row_tot(r:T_api_Row)(h:RowZ r):∃ v,g_event_row r=some v∧(v=0→r.Runs.length≤16):=by
 unfold g_event_row
 obtain⟨v,hv,h16⟩:=styCheck_tot r h
 rw[hv]
 simp only[Option.bind_some]
 by_cases h0:v=0
 ·have hl:=h16 h0
  rw[if_neg (by simpa using h0)]
  obtain⟨s,hs,hsl⟩:=plain_tot r h hl
  obtain⟨n,hn⟩:=styLen_tot r h (by omega)
  rw[hs,hn]
  simp only[Option.bind_some]
  obtain⟨b,hb⟩:∃ b:Bool,(if(s == ([]:List UInt8)) then(some true) else((atI s 0).bind fun b33=>(if((b33.toNat:Int) == 32) then(some true) else((atI s (IntKind.i64.wrap ((s.length:Int) - 1))).bind fun b36=>(if((b36.toNat:Int) == 32) then(some true) else((g_strings_Contains s [32,32]).bind fun r39=>(some r39)))))))=some b:=by
   by_cases he:s=[]
   ·exact⟨true,by simp[he]⟩
   ·have hp:0 < s.length:=List.length_pos_iff.2 he
    rw[if_neg (by simpa using he),show(0:Int)=((0:Nat):Int) from rfl,atI_nat hp,wr64 (by omega),show((s.length:Int) - 1)=((s.length - 1:Nat):Int) by omega,atI_nat (show s.length - 1 < s.length by omega)]
    simp only[Option.bind_some,g_strings_Contains]
    rw[if_pos (show s.length < 4294967281 by omega)]
    simp only[Option.bind_some]
    (repeat' split)<;>exact⟨_,rfl⟩
  rw[hb]
  simp only[Option.bind_some]
  split
  ·exact⟨_,rfl,fun _=>hl⟩
  ·split<;>exact⟨_,rfl,fun _=>hl⟩
 ·rw[if_pos (by simpa using h0)]
  exact⟨_,rfl,fun e=>absurd e h0⟩
def EvZ (e:T_api_Event):Prop:=e.Rows.length≤1048576∧∀ r ∈ e.Rows,RowZ r∧r.Runs.length≤1048576
theorem lens_tot(e:T_api_Event)(h:EvZ e):∃ l,g_event_lens e=some l∧l.length≤1048576:=by
 obtain⟨x,he,hp⟩:=iter_post (step:=g_event_lens_s1 e) (fun x=>0≤x.2∧x.2≤(e.Rows.length:Int)∧(x.1.length:Int)=x.2) (fun x=>e.Rows.length - x.2.toNat) (fun l=>l.length≤1048576) (x:=([],0)) ⟨by simp,by simp,by simp⟩ (by have:=h.1;dsimp only;omega) (by
  rintro⟨s,i⟩ ⟨q1,q2,q3⟩
  dsimp only at q1 q2 q3
  obtain⟨i,rfl⟩:=Int.eq_ofNat_of_zero_le q1
  have h1:=h.1
  unfold g_event_lens_s1
  dsimp only
  by_cases hi:i < e.Rows.length
  ·have hz:=h.2 _ (List.getElem_mem hi)
   rw[if_pos (by simpa using hi),atI_nat hi,wr64 (x:=(i:Int)+1) (by omega)]
   simp only[Option.bind_some]
   obtain⟨v,hv⟩:=styLen_tot _ hz.1 hz.2
   rw[hv]
   simp only[Option.bind_some]
   rw[if_pos (by omega)]
   exact .inl ⟨_,rfl,⟨by dsimp only;omega,by dsimp only;omega,by simp;omega⟩,by dsimp only;omega⟩
  ·right
   rw[if_neg (by simpa using hi)]
   exact⟨_,rfl,by omega⟩)
 unfold g_event_lens
 rw[he]
 exact⟨_,rfl,hp⟩
theorem usable_tot(r:T_api_Region):∃ v,g_region_usable r=some v:=by
 unfold g_region_usable g_region_Default;simp only[Option.bind_some];split
 ·exact⟨_,rfl⟩
 obtain⟨v,hv⟩:=regCheck_tot r;rw[hv];exact⟨_,rfl⟩
theorem place_s1(r:T_api_Region)(l:List Int)(hl:l.length≤1048576):∃ e,iter (g_region_Place_s1 r l) ([],0)=some e:=by
 obtain⟨x,he,_⟩:=iter_post (step:=g_region_Place_s1 r l) (fun x=>0≤x.2∧x.2≤(l.length:Int)∧(x.1.length:Int)=x.2) (fun x=>l.length - x.2.toNat) (fun _=>True) (x:=([],0)) ⟨by simp,by simp,by simp⟩ (by dsimp only;omega) (by
  rintro⟨s,i⟩ ⟨q1,q2,q3⟩
  dsimp only at q1 q2 q3
  obtain⟨i,rfl⟩:=Int.eq_ofNat_of_zero_le q1
  unfold g_region_Place_s1
  dsimp only
  by_cases hi:i < l.length
  ·rw[if_pos (by simpa using hi),atI_nat hi,wr64 (x:=(i:Int)+1) (by omega)]
   simp only[Option.bind_some]
   have hc:(s.length+1) * 24≤140737488355328:=by omega
   simp only[hc,if_true]
   split
   ·exact .inr ⟨_,rfl,trivial⟩
   ·split
    ·exact .inr ⟨_,rfl,trivial⟩
    ·(repeat' split)<;>exact .inl ⟨_,rfl,⟨by dsimp only;omega,by dsimp only;omega,by simp;omega⟩,by dsimp only;omega⟩
  ·right
   rw[if_neg (by simpa using hi)]
   exact⟨_,rfl,trivial⟩)
 exact⟨x,he⟩
theorem place_s2(r:T_api_Region)(l:List Int)(hl:l.length≤1048576):∃ e,iter (g_region_Place_s2 r l) ([],0)=some e:=by
 obtain⟨x,he,_⟩:=iter_post (step:=g_region_Place_s2 r l) (fun x=>0≤x.2∧x.2≤(l.length:Int)∧(x.1.length:Int)=x.2) (fun x=>l.length - x.2.toNat) (fun _=>True) (x:=([],0)) ⟨by simp,by simp,by simp⟩ (by dsimp only;omega) (by
  rintro⟨s,i⟩ ⟨q1,q2,q3⟩
  dsimp only at q1 q2 q3
  obtain⟨i,rfl⟩:=Int.eq_ofNat_of_zero_le q1
  unfold g_region_Place_s2
  dsimp only
  by_cases hi:i < l.length
  ·rw[if_pos (by simpa using hi),atI_nat hi,wr64 (x:=(i:Int)+1) (by omega)]
   simp only[Option.bind_some]
   have hc:(s.length+1) * 24≤140737488355328:=by omega
   simp only[hc,if_true]
   split
   ·exact .inr ⟨_,rfl,trivial⟩
   ·split
    ·exact .inr ⟨_,rfl,trivial⟩
    ·(repeat' split)<;>exact .inl ⟨_,rfl,⟨by dsimp only;omega,by dsimp only;omega,by simp;omega⟩,by dsimp only;omega⟩
  ·right
   rw[if_neg (by simpa using hi)]
   exact⟨_,rfl,trivial⟩)
 exact⟨x,he⟩
theorem place_tot(r:T_api_Region)(l:List Int)(hl:l.length≤1048576):∃ v,g_region_Place r l=some v:=by
 unfold g_region_Place;obtain⟨v,hv⟩:=usable_tot r;obtain⟨e1,h1⟩:=place_s1 r l hl;obtain⟨e2,h2⟩:=place_s2 r l hl;rw[hv,h1,h2];simp only[Option.bind_some];cases v<;>cases e1<;>cases e2<;>simp only[Bool.false_eq_true,if_false,if_true]<;>(repeat' split)<;>exact⟨_,rfl⟩
structure EvOK(e:T_api_Event):Prop where
 id:1≤e.ID∧e.ID≤1099511627776
 span:0≤e.Span.In∧e.Span.In < e.Span.Out∧e.Span.Out≤5184000
 rows:e.Rows.length≤4
 runs:∀ r ∈ e.Rows,r.Runs.length≤16
theorem evCheck_tot(e:T_api_Event)(h:EvZ e)(l:List T_api_Region)(hl:l.length≤1048576):∃ v,g_event_Check e l=some v∧(v=0→EvOK e):=by
 unfold g_event_Check
 obtain⟨f,hf⟩:=regFind_tot l (by omega) e.Region
 obtain⟨kn,hk⟩:=kind_tot e.Kind
 rw[hf,spans_eq,hk,lines_Name_eq]
 simp only[Option.bind_some]
 by_cases a1:e.ID < 1
 ·exact⟨2,by simp[a1],by simp⟩
 by_cases a2:1099511627776 < e.ID
 ·exact⟨2,by simp[a1,a2],by simp⟩
 cases a3:spB e.Span with
 | false=>exact⟨2,by simp[a1,a2],by simp⟩
 | true =>
  simp only[a1,a2,decide_false,Bool.false_eq_true,if_false,Option.bind_some,Bool.not_true]
  cases f.2 with
  | false=>exact⟨6,rfl,by simp⟩
  | true =>
   simp only[if_true]
   by_cases a4:kn=[]
   ·exact⟨3,by simp[a4],by simp⟩
   rw[if_neg (by simpa using a4)]
   obtain⟨b,hb⟩:∃ b:Bool,(if(e.Speaker == ([]:List UInt8))=true then(some false) else(some (!isNm e.Speaker)):Option Bool)=some b:=by split<;>exact⟨_,rfl⟩
   rw[hb]
   simp only[Option.bind_some]
   cases b with
   | true=>exact⟨5,rfl,by simp⟩
   | false =>
    simp only[Bool.false_eq_true,if_false]
    by_cases a5:e.Rows.length=0
    ·exact⟨9,by simp[a5],by simp⟩
    by_cases a6:4 < (e.Rows.length:Int)
    ·exact⟨9,by simp[a5,a6],by simp⟩
    rw[if_neg (by simpa using a5)]
    simp only[a6,decide_false,Option.bind_some,Bool.false_eq_true,if_false]
    have hrows:e.Rows.length≤4:=by omega
    obtain⟨x,hx,hxp⟩:=iter_cnt (step:=g_event_Check_s1 e) e.Rows.length (by omega) (fun i=>∀ j (hj:j < e.Rows.length),j < i→e.Rows[j].Runs.length≤16) (fun x=>(∀ v,x=.inl v→v≠0)∧(x=.inr ()→∀ j (hj:j < e.Rows.length),e.Rows[j].Runs.length≤16)) (fun j _ h=>by omega) (fun i hi hI=>by
     unfold g_event_Check_s1
     rw[if_pos (by simpa using hi),atI_nat hi,wr64 (x:=(i:Int)+1) (by omega)]
     simp only[Option.bind_some]
     obtain⟨v,hv,hv0⟩:=row_tot e.Rows[i] (h.2 _ (List.getElem_mem hi)).1
     rw[hv]
     simp only[Option.bind_some]
     by_cases q:v=0
     ·rw[if_neg (by simpa using q)]
      exact .inl ⟨rfl,fun j hj hji=>by
       rcases Nat.lt_succ_iff_lt_or_eq.1 hji with h1|h1
       ·exact hI j hj h1
       ·subst h1;exact hv0 q⟩
     ·rw[if_pos (by simpa using q)]
      exact .inr ⟨_,rfl,fun w hw=>by cases hw;exact q,by simp⟩) (fun hI=>by
     unfold g_event_Check_s1
     exact⟨_,by rw[if_neg (by simp)],by simp,fun _ j hj=>hI j hj hj⟩)
    rw[hx]
    simp only[Option.bind_some]
    have hok:(x=.inr ())→EvOK e:=fun hx1=>⟨by omega,by unfold spB at a3;simp at a3;omega,hrows,fun r hr=>by
     obtain⟨j,hj,rfl⟩:=List.getElem_of_mem hr
     exact hxp.2 hx1 j hj⟩
    cases x with
    | inl v =>
     exact⟨v,rfl,fun hv=>absurd hv (hxp.1 v rfl)⟩
    | inr u =>
     obtain⟨ls,hls,hlen⟩:=lens_tot e h
     obtain⟨pl,hpl⟩:=place_tot f.1 ls hlen
     simp only[hls,hpl,Option.bind_some]
     exact⟨_,rfl,fun _=>hok rfl⟩
theorem cmp_eq(x y:Int):g_cmp_Compare_int64 x y=some (if x < y then -1 else if y < x then 1 else 0):=by
 unfold g_cmp_Compare_int64 g_cmp_isNaN_int64;simp only[bne_self_eq_false,Option.bind_some,Bool.false_eq_true,if_false];by_cases h1:x < y<;>by_cases h2:y < x<;>simp[h1,h2]
theorem or_loop(L:List Int)(hL:L.length≤1000):iter (g_cmp_Or_int_s1 L) 0=some (runF (fun(_:Unit) (y:Int)=>if y≠0 then .inl (.inl y:Int ⊕ Unit) else .inr ()) (fun _=>(.inr ():Int ⊕ Unit)) () L):=by
 have hst:∀ (i:Nat) (hi:i < L.length),g_cmp_Or_int_s1 L (i:Int)=if(L[i] != 0)=true then some (.out (.inl L[i])) else some (.go ((i:Int)+1)):=fun i hi=>by
  unfold g_cmp_Or_int_s1
  rw[if_pos (by simpa using hi),atI_nat hi,wr64 (x:=(i:Int)+1) (by omega)]
  simp only[Option.bind_some]
 refine iter_run (step:=g_cmp_Or_int_s1 L) L (by omega) (fun i (_:Unit)=>i) (fun _ y=>if y≠0 then .inl (.inl y) else .inr ()) (fun _=>(.inr ():Int ⊕ Unit)) (fun _ _=>True) (s0:=()) trivial
  (fun i hi s _=>?_) (fun s _=>by unfold g_cmp_Or_int_s1;rw[if_neg (by simp)])
 rw[hst i hi]
 by_cases q:L[i]=0
 ·exact .inr ⟨(),by simp[q],by simp[q],trivial⟩
 ·exact .inl ⟨.inl L[i],by simp[q],by simp[q]⟩
theorem or2_eq(a b:Int):g_cmp_Or_int [a,b]=some (if a≠0 then a else b):=by
 unfold g_cmp_Or_int;rw[or_loop _ (by simp)];by_cases ha:a=0<;>by_cases hb:b=0<;>simp[runF,ha,hb]
def ltE (a b:T_api_Event):Bool:=decide (a.Span.In < b.Span.In)||(decide (a.Span.In=b.Span.In)&&decide (a.ID < b.ID))
theorem less_eq(a b:T_api_Event):g_event_Less a b=some (ltE a b):=by
 unfold g_event_Less ltE;rw[cmp_eq,cmp_eq];simp only[Option.bind_some,or2_eq];congr 1;by_cases h1:a.Span.In < b.Span.In
 ·simp[h1]
 by_cases h2:b.Span.In < a.Span.In
 ·have:¬ a.Span.In=b.Span.In:=by omega
  simp[h1,h2,this]
 have:a.Span.In=b.Span.In:=by omega
 by_cases h3:a.ID < b.ID
 ·simp[h1,h2,this,h3]
 by_cases h4:b.ID < a.ID<;>simp[h1,h2,this,h3,h4]
theorem evLen_tot(e:T_api_Event)(h:EvZ e):∃ v,g_event_Len e=some v:=by
 unfold g_event_Len
 obtain⟨l,hl,hlen⟩:=lens_tot e h
 rw[hl]
 simp only[Option.bind_some]
 generalize (if 0 > (IntKind.i64.wrap ((e.Rows.length:Int) - 1)) then 0 else(IntKind.i64.wrap ((e.Rows.length:Int) - 1)))=c0
 obtain⟨x,he,_⟩:=iter_post (step:=g_event_Len_s1 l) (fun x=>0≤x.2∧x.2≤(l.length:Int)) (fun x=>l.length - x.2.toNat) (fun _=>True) (x:=(c0,0)) ⟨by simp,by simp⟩ (by dsimp only;omega) (by
  rintro⟨s,i⟩ ⟨q1,q2⟩
  dsimp only at q1 q2
  obtain⟨i,rfl⟩:=Int.eq_ofNat_of_zero_le q1
  unfold g_event_Len_s1
  dsimp only
  by_cases hi:i < l.length
  ·rw[if_pos (by simpa using hi),atI_nat hi,wr64 (x:=(i:Int)+1) (by omega)]
   simp only[Option.bind_some]
   split
   ·exact .inr ⟨_,rfl,trivial⟩
   ·exact .inl ⟨_,rfl,⟨by dsimp only;omega,by dsimp only;omega⟩,by dsimp only;omega⟩
  ·right
   rw[if_neg (by simpa using hi)]
   exact⟨_,rfl,trivial⟩)
 rw[he]
 cases x<;>exact⟨_,rfl⟩
structure DocZ(d:T_api_Document):Prop where
 title:d.Title.length≤1048576
 rate:0≤d.Rate∧d.Rate≤255
 regs:d.Regions.length≤1048576
 evs:d.Events.length≤1048576
 ev:∀ e ∈ d.Events,EvZ e
 coms:d.Comments.length≤1048576
 com:∀ c ∈ d.Comments,c.Text.length≤1048576
structure MapZ(n:Nat)(m:MI Int):Prop where
 len:m.ks.length=m.vs.length
 val:∀ v ∈ m.vs,0≤v∧v < (n:Int)
theorem lookV_mem:∀ (ks vs:List Int) (c z:Int),ks.length=vs.length→ks.contains c=true→lookV ks vs c z ∈ vs
 | [],_,c,z,_,h=>by simp at h
 | k::ks,[],c,z,h,_=>by simp at h
 | k::ks,v::vs,c,z,h,hc=>by
  unfold lookV
  by_cases q:k=c
  ·rw[if_pos q];simp
  ·rw[if_neg q]
   have:ks.contains c=true:=by
    simp only[List.contains_cons,Bool.or_eq_true,beq_iff_eq] at hc
    rcases hc with hc|hc
    ·exact absurd hc.symm q
    ·exact hc
   exact List.mem_cons_of_mem _ (lookV_mem ks vs c z (by simpa using h) this)
theorem anch_tot(d:T_api_Document)(hd:DocZ d)(c:T_api_Comment)(m:MI Int)(hm:MapZ d.Events.length m):∃ v,g_document_anchored d c m=some v:=by
 unfold g_document_anchored
 by_cases h1:c.Event < 1
 ·exact⟨2,by simp[h1]⟩
 by_cases h2:d.Last < c.Event
 ·exact⟨2,by simp[h1,h2]⟩
 rw[if_neg (by simpa using h1),if_neg (by simpa using h2)]
 cases c.Lost with
 | true =>
  simp only[if_true]
  by_cases h3:c.From=0<;>by_cases h4:c.To=0<;>simp[h3,h4]
 | false =>
  simp only[Bool.false_eq_true,if_false]
  cases h3:m.ks.contains c.Event with
  | false=>exact⟨6,by simp⟩
  | true =>
   simp only[if_true]
   have hv:=hm.val _ (lookV_mem m.ks m.vs c.Event 0 hm.len h3)
   generalize hk:lookV m.ks m.vs c.Event 0=k at hv
   obtain⟨k,rfl⟩:=Int.eq_ofNat_of_zero_le hv.1
   have hlt:k < d.Events.length:=by omega
   rw[atI_nat hlt]
   simp only[Option.bind_some]
   obtain⟨v,hv2⟩:=evLen_tot _ (hd.ev _ (List.getElem_mem hlt))
   rw[hv2]
   simp only[Option.bind_some]
   (repeat' split)<;>exact⟨_,rfl⟩
theorem coms_tot(d:T_api_Document)(hd:DocZ d)(m:MI Int)(hm:MapZ d.Events.length m):∃ v,g_document_comments d m=some v:=by
 unfold g_document_comments
 by_cases h:64 < (d.Comments.length:Int)
 ·exact⟨9,by simp[h]⟩
 ·rw[if_neg (by simpa using h)]
  obtain⟨e,he⟩:∃ e,iter (g_document_comments_s1 d m) 0=some e:=by
   refine iter_ends d.Comments.length (by omega) (fun i hi=>?_) ?_
   ·unfold g_document_comments_s1
    rw[if_pos (by simpa using hi),atI_nat hi,wr64 (x:=(i:Int)+1) (by omega)]
    simp only[Option.bind_some]
    obtain⟨v,hv⟩:=anch_tot d hd d.Comments[i] m hm
    rw[hv,lines_Name_eq,prog_Valid_eq _ (by have:=hd.com _ (List.getElem_mem hi);omega)]
    simp only[Option.bind_some]
    have hp:0 < (i:Int)→∃ w,atI d.Comments (IntKind.i64.wrap ((i:Int) - 1))=some w:=fun q=>by
     rw[wr64 (by omega),show((i:Int) - 1)=((i - 1:Nat):Int) by omega,atI_nat (show i - 1 < d.Comments.length by omega)]
     exact⟨_,rfl⟩
    generalize d.Comments[i]=cm at *
    generalize m.ks.contains cm.ID=b1
    generalize (v != 0)=b2
    generalize isNm cm.Author=b3
    generalize gv cm.Text=b4
    generalize (cm.Text == ([]:List UInt8))=b5
    generalize decide (400 < (cm.Text.length:Int))=b6
    generalize decide (cm.ID < 1)=b7
    generalize decide (d.Last < cm.ID)=b8
    cases b7
    case true=>exact .inr ⟨_,rfl⟩
    cases b8
    case true=>exact .inr ⟨_,rfl⟩
    simp only[Bool.false_eq_true,if_false]
    by_cases q:0 < (i:Int)
    ·obtain⟨w,hw⟩:=hp q
     rw[if_pos (by simpa using q),hw]
     simp only[Option.bind_some]
     generalize decide (cm.ID≤w.ID)=b9
     cases b9<;>cases b1<;>cases b2<;>cases b3<;>cases b4<;>cases b5<;>cases b6<;>first|exact .inr ⟨_,rfl⟩|exact .inl rfl
    ·rw[if_neg (by simpa using q)]
     cases b1<;>cases b2<;>cases b3<;>cases b4<;>cases b5<;>cases b6<;>first|exact .inr ⟨_,rfl⟩|exact .inl rfl
   ·unfold g_document_comments_s1
    exact⟨_,by rw[if_neg (by simp)]⟩
  rw[he]
  cases e<;>exact⟨_,rfl⟩
theorem putK_new:∀ (ks:List Int) (n:Int),ks.contains n=false→putK ks n=ks++[n]
 | [],n,_=>rfl
 | k::ks,n,h=>by
  simp only[List.contains_cons,Bool.or_eq_false_iff,beq_eq_false_iff_ne,ne_eq] at h
  unfold putK
  rw[if_neg (fun e=>h.1 e.symm),putK_new ks n h.2]
  rfl
theorem putV_new:∀ (ks vs:List Int) (n y:Int),ks.contains n=false→ks.length=vs.length→putV ks vs n y=vs++[y]
 | [],[],n,y,_,_=>rfl
 | [],v::vs,n,y,_,h=>by simp at h
 | k::ks,[],n,y,_,h=>by simp at h
 | k::ks,v::vs,n,y,h,hl=>by
  simp only[List.contains_cons,Bool.or_eq_false_iff,beq_eq_false_iff_ne,ne_eq] at h
  unfold putV
  rw[if_neg (fun e=>h.1 e.symm),putV_new ks vs n y h.2 (by simpa using hl)]
  rfl
structure DocOK(d:T_api_Document):Prop where
 num:d.Events.length≤400
 ev:∀ e ∈ d.Events,EvOK e
 ids:(d.Events.map (·.ID)).Nodup
 ord:∀ i (h:i+1 < d.Events.length),ltE d.Events[i] d.Events[i+1]=true
structure ChI(d:T_api_Document)(i:Nat)(ks vs:List Int):Prop where
 kq:ks=(d.Events.take i).map (·.ID)
 nd:ks.Nodup
 len:vs.length=i
 val:∀ v ∈ vs,0≤v∧v < (d.Events.length:Int)
 ev:∀ j (h:j < d.Events.length),j < i→EvOK d.Events[j]
 ord:∀ j (h:j+1 < d.Events.length),j+1 < i→ltE d.Events[j] d.Events[j+1]=true
theorem check_loop(d:T_api_Document)(hd:DocZ d):∃ e,iter (g_document_Check_s1 d) (0,[],[])=some e∧(∀ v,e=.inl v→v≠0)∧(∀ ks vs,e=.inr (ks,vs)→ChI d d.Events.length ks vs):=by
 refine iter_post (step:=g_document_Check_s1 d) (fun x=>∃ i:Nat,x.1=i∧i≤d.Events.length∧ChI d i x.2.1 x.2.2) (fun x=>d.Events.length - x.1.toNat) (fun e=>(∀ v,e=.inl v→v≠0)∧(∀ ks vs,e=.inr (ks,vs)→ChI d d.Events.length ks vs)) (x:=(0,[],[])) ⟨0,rfl,by omega,⟨by simp,by simp,rfl,by simp,fun _ _ h=>by omega,fun _ _ h=>by omega⟩⟩ (by have:=hd.evs;dsimp only;omega) ?_
 rintro⟨x,ks,vs⟩ ⟨i,h1,hi,hI⟩
 dsimp only at h1 hI
 subst h1
 have hn:=hd.evs
 unfold g_document_Check_s1
 dsimp only
 by_cases hlt:i < d.Events.length
 ·rw[if_pos (by simpa using hlt),atI_nat hlt,wr64 (x:=(i:Int)+1) (by omega)]
  simp only[Option.bind_some]
  obtain⟨v,hv,hv0⟩:=evCheck_tot _ (hd.ev _ (List.getElem_mem hlt)) d.Regions hd.regs
  rw[hv]
  simp only[Option.bind_some]
  by_cases q:v=0
  ·rw[if_neg (by simpa using q)]
   by_cases q1:d.Last < d.Events[i].ID
   ·right
    rw[if_pos (by simpa using q1)]
    exact⟨_,rfl,fun w hw=>by cases hw;decide,fun _ _ hw=>by cases hw⟩
   ·rw[if_neg (by simpa using q1)]
    have next:ks.contains d.Events[i].ID=false→(0 < i→ltE (d.Events[i - 1]'(by omega)) d.Events[i]=true)→ChI d (i+1) (putK ks d.Events[i].ID) (putV ks vs d.Events[i].ID (i:Int)):=by
     intro hc ho
     rw[putK_new _ _ hc,putV_new _ _ _ _ hc (by rw[hI.kq,hI.len];simp;omega)]
     refine⟨?_,?_,?_,?_,?_,?_⟩
     ·rw[hI.kq,List.take_succ_eq_append_getElem hlt,List.map_append];rfl
     ·rw[List.nodup_append]
      refine⟨hI.nd,by simp,fun a ha b hb=>?_⟩
      simp only[List.mem_singleton] at hb
      subst hb
      intro e
      subst e
      have:ks.contains d.Events[i].ID=true:=List.contains_iff_mem.2 ha
      rw[hc] at this;cases this
     ·simp[hI.len]
     ·intro v hv
      rcases List.mem_append.1 hv with hv|hv
      ·exact hI.val v hv
      ·simp only[List.mem_singleton] at hv;subst hv;omega
     ·intro j hj hji
      rcases Nat.lt_succ_iff_lt_or_eq.1 hji with h2|h2
      ·exact hI.ev j hj h2
      ·subst h2;exact hv0 q
     ·intro j hj hji
      rcases Nat.lt_succ_iff_lt_or_eq.1 hji with h2|h2
      ·exact hI.ord j hj h2
      ·have:=ho (by omega)
       obtain rfl:i=j+1:=h2.symm
       exact this
    by_cases q2:0 < (i:Int)
    ·rw[if_pos (by simpa using q2),wr64 (by omega),show((i:Int) - 1)=((i - 1:Nat):Int) by omega,atI_nat (show i - 1 < d.Events.length by omega)]
     simp only[Option.bind_some,less_eq]
     cases q3:ltE (d.Events[i - 1]'(by omega)) d.Events[i] with
     | false=>exact .inr ⟨_,rfl,fun w hw=>by cases hw;decide,fun _ _ hw=>by cases hw⟩
     | true =>
      simp only[if_true]
      cases q4:ks.contains d.Events[i].ID with
      | true=>exact .inr ⟨_,rfl,fun w hw=>by cases hw;decide,fun _ _ hw=>by cases hw⟩
      | false=>exact .inl ⟨_,rfl,⟨i+1,by simp,by omega,next q4 (fun _=>q3)⟩,by dsimp only;omega⟩
    ·rw[if_neg (by simpa using q2)]
     cases q4:ks.contains d.Events[i].ID with
     | true=>exact .inr ⟨_,rfl,fun w hw=>by cases hw;decide,fun _ _ hw=>by cases hw⟩
     | false=>exact .inl ⟨_,rfl,⟨i+1,by simp,by omega,next q4 (fun h=>by omega)⟩,by dsimp only;omega⟩
  ·right
   rw[if_pos (by simpa using q)]
   exact⟨_,rfl,fun w hw=>by cases hw;exact q,fun _ _ hw=>by cases hw⟩
 ·obtain rfl:i=d.Events.length:=by omega
  right
  rw[if_neg (by simp)]
  exact⟨_,rfl,fun w hw=>(by cases hw),fun ks' vs' hw=>(by cases hw;exact hI)⟩
theorem docCheck(d:T_api_Document)(hd:DocZ d):∃ v,g_document_Check d=some v∧(v=0→DocOK d):=by
 unfold g_document_Check
 obtain⟨v1,h1⟩:=header_tot d hd.title hd.rate.1 hd.rate.2
 obtain⟨v2,h2⟩:=regList_tot d.Regions
 obtain⟨e,he,h3,h4⟩:=check_loop d hd
 rw[h1,h2,he]
 simp only[Option.bind_some]
 split
 ·rename_i q;exact⟨_,rfl,fun e=>by simp[e] at q⟩
 ·split
  ·rename_i q;exact⟨_,rfl,fun e=>by simp[e] at q⟩
  ·split
   ·exact⟨_,rfl,by simp⟩
   ·rename_i q
    cases e with
    | inl v=>exact⟨_,rfl,fun e=>absurd e (h3 v rfl)⟩
    | inr p =>
     obtain⟨ks,vs⟩:=p
     have hc:=h4 ks vs rfl
     obtain⟨v,hv⟩:=coms_tot d hd ⟨ks,vs⟩ ⟨by rw[hc.kq,hc.len];simp,hc.val⟩
     simp only[hv,Option.bind_some]
     refine⟨_,rfl,fun _=>⟨by simp at q;omega,fun e he=>?_,?_,fun i h=>hc.ord i h h⟩⟩
     ·obtain⟨j,hj,rfl⟩:=List.getElem_of_mem he
      exact hc.ev j hj hj
     ·have:=hc.nd
      rw[hc.kq,List.take_length] at this
      exact this
def ed (b:T_api_Bound):Ed:=⟨b.I.toNat,b.J.toNat,b.C⟩
def eds (l:List T_api_Bound):List Ed:=l.map ed
structure BdsOK(n:Nat)(l:List T_api_Bound):Prop where
 n1:1≤n
 n2:n≤512
 len:l.length≤4000
 bd:∀ b ∈ l,0≤b.I∧b.I < (n:Int)∧0≤b.J∧b.J < (n:Int)∧-1099511627776≤b.C∧b.C≤1099511627776
theorem BdsOK.inn{n:Nat}{l:List T_api_Bound}(h:BdsOK n l):In (· ∈ eds l) n:=by
 intro e he;obtain⟨b,hb,rfl⟩:=List.mem_map.1 he;have:=h.bd b hb;simp only[ed];omega
theorem BdsOK.cc{n:Nat}{l:List T_api_Bound}(h:BdsOK n l):∀ e ∈ eds l,-1099511627776≤e.c∧e.c≤1099511627776:=by
 intro e he;obtain⟨b,hb,rfl⟩:=List.mem_map.1 he;have:=h.bd b hb;simp only[ed];omega
theorem atI_getD{x:List Int}{k:Int}(h0:0≤k)(h1:k < (x.length:Int)):atI x k=some (x.getD k.toNat 0):=by
 obtain⟨k,rfl⟩:=Int.eq_ofNat_of_zero_le h0;rw[atI_nat (show k < x.length by omega)];simp[List.getD,show k < x.length by omega]
theorem setI_nat{α:Type}{l:List α}{n:Nat}(x:α)(h:n < l.length):setI l (n:Int) x=some (l.set n x):=by
 unfold setI;rw[if_pos (by omega)];rfl
theorem setI_toNat{α:Type}{l:List α}{k:Int}(x:α)(h0:0≤k)(h1:k < (l.length:Int)):setI l k x=some (l.set k.toNat x):=by
 obtain⟨k,rfl⟩:=Int.eq_ofNat_of_zero_le h0;exact setI_nat x (by omega)
theorem runF_inr{S α E:Type}(F:S→α→S)(fin:S→E):∀ (L:List α) (s:S),runF (fun s a=>.inr (F s a)) fin s L=fin (L.foldl F s)
 | [],s=>rfl
 | a::L,s=>by simp only[runF,List.foldl_cons];exact runF_inr F fin L _
def heed (x:List Int)(e:Ed):Prop:=x.getD e.j 0≤x.getD e.i 0+e.c
def Bd (n:Nat)(K:Int)(x:List Int):Prop:=x.length=n∧∀ v,v < n→-(K * 1099511627776)≤x.getD v 0∧x.getD v 0≤0
def chF (s:Bool × List Int)(b:T_api_Bound):Bool × List Int:=if s.2.getD (ed b).i 0+(ed b).c < s.2.getD (ed b).j 0 then(true,s.2.set (ed b).j (s.2.getD (ed b).i 0+(ed b).c)) else s
theorem chF_snd(s:Bool × List Int)(b:T_api_Bound):(chF s b).2=low s.2 (ed b):=by unfold chF low;split<;>rfl
theorem chF_fold:∀ (l:List T_api_Bound) (s:Bool × List Int),(l.foldl chF s).2=rnd (eds l) s.2
 | [],s=>rfl
 | b::l,s=>by
  rw[List.foldl_cons,chF_fold l]
  show rnd (eds l) (chF s b).2=rnd (eds l) (low s.2 (ed b))
  rw[chF_snd]
theorem chF_true:∀ (l:List T_api_Bound) (x:List Int),(l.foldl chF (true,x)).1=true
 | [],_=>rfl
 | b::l,x=>by
  rw[List.foldl_cons]
  rw[show chF (true,x) b=(true,(chF (true,x) b).2) from by unfold chF;split<;>rfl]
  exact chF_true l _
theorem chF_false:∀ (l:List T_api_Bound) (x:List Int),(l.foldl chF (false,x)).1=false ↔ ∀ e ∈ eds l,heed x e
 | [],x=>by simp[eds]
 | b::l,x=>by
  rw[List.foldl_cons]
  by_cases h:x.getD (ed b).i 0+(ed b).c < x.getD (ed b).j 0
  ·have h1:chF (false,x) b=(true,x.set (ed b).j (x.getD (ed b).i 0+(ed b).c)):=by unfold chF;rw[if_pos h]
   rw[h1,chF_true]
   constructor
   ·intro q;cases q
   ·intro q
    have:=q (ed b) (by simp[eds])
    unfold heed at this
    omega
  ·have h1:chF (false,x) b=(false,x):=by unfold chF;rw[if_neg h]
   rw[h1,chF_false l x]
   constructor
   ·intro q e he
    rcases List.mem_cons.1 he with rfl|he
    ·unfold heed;omega
    ·exact q e he
   ·intro q e he
    exact q e (List.mem_cons_of_mem _ he)
theorem low_bd{n:Nat}{l:List T_api_Bound}(hl:BdsOK n l){b:T_api_Bound}(hb:b ∈ l){K:Int}{x:List Int}(h:Bd n K x):Bd n (K+1) (low x (ed b)):=by
 refine⟨by rw[low_len];exact h.1,fun v hv=>?_⟩;have hq:=hl.bd b hb;have h1:=h.2 v hv;unfold low;split
 ·rename_i hlt
  rw[set_getD];split
  ·rename_i hvj
   have h2:=h.2 (ed b).i (by simp only[ed];omega);have h3:=h.2 (ed b).j (by simp only[ed];omega);have h4:(ed b).c=b.C:=rfl;omega
  omega
 omega
theorem round_eq{n:Nat}{l:List T_api_Bound}(hl:BdsOK n l){K:Int}(hK:K≤3000000){x:List Int}(hx:Bd n K x):iter (g_diffcon_relax_w_s2 l) (false,0,x)=some ((l.foldl chF (false,x)).2,(l.foldl chF (false,x)).1):=by
 have hn:=hl.n2
 have hlen:=hl.len
 have:=iter_run (step:=g_diffcon_relax_w_s2 l) l (by omega) (fun i (s:Bool × List Int)=>(s.1,i,s.2)) (fun s b=>.inr (chF s b)) (fun s=>(s.2,s.1)) (fun i s=>Bd n (K+i) s.2) (s0:=(false,x)) (by simpa using hx)
  (fun i hi s hs=>.inr ⟨_,rfl,by
   have hb:=hl.bd _ (List.getElem_mem hi)
   unfold g_diffcon_relax_w_s2
   rw[if_pos (by simpa using hi),atI_nat hi,wr64 (x:=(i:Int)+1) (by omega)]
   simp only[Option.bind_some]
   generalize l[i]=b at hb
   have hs1:=hs.1
   have h1:=hs.2 b.I.toNat (by omega)
   have h2:=hs.2 b.J.toNat (by omega)
   rw[atI_getD hb.1 (by omega),atI_getD hb.2.2.1 (by omega)]
   simp only[Option.bind_some]
   rw[if_pos (by rw[bne_iff_ne];omega),wr64 (x:=s.2.getD b.I.toNat 0+b.C) (by omega)]
   by_cases q:s.2.getD b.I.toNat 0+b.C < s.2.getD b.J.toNat 0
   ·have e1:chF s b=(true,s.2.set b.J.toNat (s.2.getD b.I.toNat 0+b.C)):=by unfold chF ed;rw[if_pos q]
    simp only[q,decide_true,Option.bind_some,if_true]
    rw[setI_toNat _ hb.2.2.1 (by omega),e1]
    rfl
   ·have e1:chF s b=s:=by unfold chF ed;rw[if_neg q]
    simp only[q,decide_false,Option.bind_some,Bool.false_eq_true,if_false]
    rw[e1],by
   rw[chF_snd]
   have:=low_bd hl (List.getElem_mem hi) hs
   rw[show K+((i+1:Nat):Int)=K+(i:Int)+1 by omega]
   exact this⟩)
  (fun s hs=>by unfold g_diffcon_relax_w_s2;rw[if_neg (by simp)])
 rw[runF_inr] at this
 exact this
theorem fold_bd{n:Nat}{l:List T_api_Bound}(hl:BdsOK n l){K:Int}{x:List Int}(hx:Bd n K x):Bd n (K+4000) (rnd (eds l) x):=by
 have key:∀ (t:List T_api_Bound) (K:Int) (x:List Int),(∀ b ∈ t,b ∈ l)→Bd n K x→Bd n (K+t.length) (rnd (eds t) x):=by
  intro t
  induction t with
  | nil=>intro K x _ h;simpa[eds,rnd] using h
  | cons b t ih =>
   intro K x ht h
   have:=ih (K+1) (low x (ed b)) (fun c hc=>ht c (by simp[hc])) (low_bd hl (ht b (by simp)) h)
   show Bd n _ (rnd (eds t) (low x (ed b)))
   rw[show K+((b::t).length:Int)=K+1+(t.length:Int) by simp;omega]
   exact this
 have h1:=key l K x (fun _ h=>h) hx
 refine⟨h1.1,fun v hv=>?_⟩
 have:=h1.2 v hv
 have:=hl.len
 have h2:(K+(l.length:Int)) * 1099511627776≤(K+4000) * 1099511627776:=by omega
 omega
def x0 (n:Nat):List Int:=List.replicate n 0
theorem x0_0(n v:Nat):(x0 n).getD v 0=0:=by
 unfold x0;by_cases h:v < n<;>simp[List.getD,h]
theorem rnds_bd{n:Nat}{l:List T_api_Bound}(hl:BdsOK n l):∀ k:Nat,Bd n ((k:Int) * 4000) (rnds (eds l) (x0 n) k)
 | 0=>⟨by simp[rnds,x0],fun v hv=>by rw[show rnds (eds l) (x0 n) 0=x0 n from rfl,x0_0];omega⟩
 | k+1=>by
  have:=fold_bd hl (rnds_bd hl k)
  rw[show((k+1:Nat):Int) * 4000=(k:Int) * 4000+4000 by omega]
  exact this
theorem rnds_stay{l:List Ed}{x:List Int}{k:Nat}(h:∀ e ∈ l,heed (rnds l x k) e):∀ m,rnds l x (k+m)=rnds l x k
 | 0=>rfl
 | m+1=>by
  show rnd l (rnds l x (k+m))=_
  rw[rnds_stay h m]
  exact rnd_same l _ h
def sol (n:Nat)(l:List T_api_Bound):List Int:=rnds (eds l) (x0 n) (n - 1)
theorem sol_heed{n:Nat}{l:List T_api_Bound}(hl:BdsOK n l)(hn:NoNeg (· ∈ eds l)):∀ e ∈ eds l,heed (sol n l) e :=
 rnds_done (x0_0 n) (by simp[x0]) hl.inn hn hl.n1
theorem relax_eq{n:Nat}{l:List T_api_Bound}(hl:BdsOK n l):∃ r,g_diffcon_relax l (x0 n)=some r∧((NoNeg (· ∈ eds l)∧r=(true,sol n l))∨(¬ NoNeg (· ∈ eds l)∧r.1=false)):=by
 have hn:=hl.n2
 have hn1:=hl.n1
 have hx0:(x0 n).length=n:=by simp[x0]
 obtain⟨e,he,hp⟩:=iter_post (step:=g_diffcon_relax_w_s1 l (x0 n)) (fun x=>∃ i:Nat,x.1=i∧i≤n+1∧x.2=rnds (eds l) (x0 n) i∧∀ k,k < i→¬ ∀ e ∈ eds l,heed (rnds (eds l) (x0 n) k) e) (fun x=>n+1 - x.1.toNat)
  (fun e=>e.elim (fun x=>∃ k,k≤n∧x=rnds (eds l) (x0 n) k∧(∀ e ∈ eds l,heed (rnds (eds l) (x0 n) k) e)∧∀ j,j < k→¬ ∀ e ∈ eds l,heed (rnds (eds l) (x0 n) j) e) (fun x=>x.length=n∧∀ k,k < n+1→¬ ∀ e ∈ eds l,heed (rnds (eds l) (x0 n) k) e))
  (x:=(0,x0 n)) ⟨0,rfl,by omega,rfl,fun k h=>by omega⟩ (by dsimp only;omega) (by
   rintro⟨x,y⟩ ⟨i,h1,h2,h3,h4⟩
   dsimp only at h1 h3
   subst h1 h3
   unfold g_diffcon_relax_w_s1
   dsimp only
   rw[hx0,wr64 (x:=(n:Int)+1) (by omega)]
   by_cases q:i < n+1
   ·rw[if_pos (by simp;omega),round_eq hl (by omega) (rnds_bd hl i),wr64 (x:=(i:Int)+1) (by omega)]
    simp only[Option.bind_some]
    cases hc:(l.foldl chF (false,rnds (eds l) (x0 n) i)).1 with
    | true =>
     left
     simp only[if_true]
     refine⟨_,rfl,⟨i+1,by simp,by omega,?_,fun k hk=>?_⟩,by dsimp only;omega⟩
     ·dsimp only;rw[chF_fold];rfl
     ·rcases Nat.lt_succ_iff_lt_or_eq.1 hk with hk|rfl
      ·exact h4 k hk
      ·intro hh
       rw[(chF_false l _).2 hh] at hc
       cases hc
    | false =>
     right
     simp only[Bool.false_eq_true,if_false]
     have hh:=(chF_false l _).1 hc
     refine⟨_,rfl,i,by omega,?_,hh,h4⟩
     rw[chF_fold]
     exact rnd_same _ _ hh
   ·right
    rw[if_neg (by simp;omega)]
    obtain rfl:i=n+1:=by omega
    exact⟨_,rfl,by rw[rnds_len];exact hx0,h4⟩)
 have hw:g_diffcon_relax_w l (x0 n)=some (e.elim (fun x=>(true,x)) (fun x=>(false,x))):=by
  unfold g_diffcon_relax_w
  rw[he]
  cases e<;>rfl
 cases e with
 | inl x =>
  obtain⟨k,hk,rfl,hh,hf⟩:=hp
  have hnn:NoNeg (· ∈ eds l):=noNeg_of (fun v=>(rnds (eds l) (x0 n) k).getD v 0) hh
  have hkn:k≤n - 1:=by
   by_cases q:n - 1 < k
   ·exact absurd (sol_heed hl hnn) (hf (n - 1) q)
   ·omega
  have hs:rnds (eds l) (x0 n) k=sol n l:=by
   have:=rnds_stay hh (n - 1 - k)
   rw[show k+(n - 1 - k)=n - 1 by omega] at this
   exact this.symm
  refine⟨(true,sol n l),?_,.inl ⟨hnn,rfl⟩⟩
  unfold g_diffcon_relax
  rw[hw]
  simp only[Option.bind_some]
  exact(if_pos (show(rnds (eds l) (x0 n) k).length=(x0 n).length from rnds_len _ _ _)).trans (by rw[hs];rfl)
 | inr x =>
  refine⟨(false,x),?_,.inr ⟨fun hnn=>?_,rfl⟩⟩
  ·unfold g_diffcon_relax
   rw[hw]
   simp only[Option.bind_some]
   exact if_pos (show x.length=(x0 n).length by rw[hx0];exact hp.1)
  ·exact hp.2 (n - 1) (by omega) (sol_heed hl hnn)
theorem mkI_nat{α:Type}(by':Int)(n:Nat)(z:α)(h:(n:Int) * by'≤140737488355328)(h2:n≤9223372036854775807):mkI by' (n:Int) z=some (List.replicate n z):=by
 unfold mkI;rw[if_pos ⟨by omega,by omega,h⟩];rfl
theorem far_eq:far=1152921504606846976:=rfl
theorem fill_far{step:Int × List Int→Option (Nx (Int × List Int) (List Int))}(n:Nat)(hn:n≤1000000)(m:List Int)(hm:m.length=n)
  (hgo:∀ (i:Nat) (y:List Int),i < n→y.length=n→step ((i:Int),y)=some (.go ((i:Int)+1,y.set i far))) (hend:∀ y:List Int,y.length=n→step ((n:Int),y)=some (.out y)):iter step (0,m)=some (List.replicate n far):=by
 obtain⟨e,he,hp⟩:=iter_post (step:=step) (fun x=>∃ i:Nat,x.1=i∧i≤n∧x.2.length=n∧∀ j,j < i→x.2[j]? = some far) (fun x=>n - x.1.toNat) (fun y=>y.length=n∧∀ j,j < n→y[j]? = some far) (x:=(0,m)) ⟨0,rfl,by omega,hm,fun j h=>by omega⟩ (by dsimp only;omega) (by
  rintro⟨x,y⟩ ⟨i,h1,h2,h3,h4⟩
  dsimp only at h1 h3 h4
  subst h1
  by_cases q:i < n
  ·left
   refine⟨_,hgo i y q h3,⟨i+1,by simp,by omega,by simpa using h3,fun j hj=>?_⟩,by dsimp only;omega⟩
   dsimp only
   rw[List.getElem?_set]
   by_cases hij:i=j
   ·rw[if_pos hij,if_pos (by omega)]
   ·rw[if_neg hij];exact h4 j (by omega)
  ·obtain rfl:i=n:=by omega
   exact .inr ⟨_,hend y h3,h3,h4⟩)
 rw[he]
 congr 1
 refine List.ext_getElem? fun j=>?_
 by_cases hj:j < n
 ·rw[hp.2 j hj];simp[hj]
 ·rw[List.getElem?_eq_none (by omega),List.getElem?_eq_none (by simp;omega)]
theorem set_get{x:List Int}{j:Nat}:x.set j (x.getD j 0)=x:=by
 refine List.ext_getElem? fun k=>?_;rw[List.getElem?_set];by_cases h:j=k
 ·subst h;by_cases hj:j < x.length
  ·simp[hj,List.getD]
  simp[hj,List.getElem?_eq_none (show x.length≤j by omega)]
 rw[if_neg h]
def RB (n:Nat)(K:Int)(r:List Int):Prop:=r.length=n∧∀ v,v < n→r.getD v 0≠far→-(K * 1099511627776)≤r.getD v 0∧r.getD v 0≤K * 1099511627776
theorem rb_of{l:List Ed}(hc:∀ e ∈ l,-1099511627776≤e.c∧e.c≤1099511627776){n s k:Nat}{r:List Int}(h:RowS (fun v c=>FW l s k v c) n r):RB n k r :=
 ⟨h.1,fun v hv hf=>fw_bd hc ((h.2 v hv).1 hf)⟩
theorem tlow_prog{src dst:Ed→Nat}{old s:List Int}{e:Ed}(hf:old.getD (src e) 0≠far):s.set (dst e) (if old.getD (src e) 0+e.c < s.getD (dst e) 0 then old.getD (src e) 0+e.c else s.getD (dst e) 0)=tlow src dst old s e:=by
 unfold tlow;by_cases h:old.getD (src e) 0+e.c < s.getD (dst e) 0
 ·rw[if_pos h,if_pos ⟨hf,h⟩]
 rw[if_neg h,if_neg (fun q=>h q.2)];exact set_get
theorem tlow_far{src dst:Ed→Nat}{old s:List Int}{e:Ed}(hf:old.getD (src e) 0=far):tlow src dst old s e=s:=by
 unfold tlow;rw[if_neg (fun q=>q.1 hf)]
theorem tfold_map{src dst:Ed→Nat}{old:List Int}:∀ (l:List T_api_Bound) (s:List Int),l.foldl (fun s b=>tlow src dst old s (ed b)) s=(eds l).foldl (tlow src dst old) s
 | [],s=>rfl
 | b::l,s=>by rw[List.foldl_cons,tfold_map l];rfl
theorem s6_eq{n:Nat}{l:List T_api_Bound}(hl:BdsOK n l){K:Int}(hK:K≤1000000){old:List Int}(ho:RB n K old):iter (g_diffcon_shortest_s6 l old) (0,List.replicate n far)=some (trow (·.i) (·.j) (eds l) old n):=by
 have hn:=hl.n2
 have hlen:=hl.len
 have:=iter_run (step:=g_diffcon_shortest_s6 l old) l (by omega) (fun i (s:List Int)=>(i,s)) (fun s b=>.inr (tlow (·.i) (·.j) old s (ed b))) id (fun i s=>s.length=n) (s0:=List.replicate n far) (by simp)
  (fun i hi s hs=>.inr ⟨_,rfl,by
   have hb:=hl.bd _ (List.getElem_mem hi)
   unfold g_diffcon_shortest_s6
   rw[if_pos (by simpa using hi),atI_nat hi,wr64 (x:=(i:Int)+1) (by omega)]
   simp only[Option.bind_some]
   generalize l[i]=b at hb
   have hol:=ho.1
   have h1:=ho.2 b.I.toNat (by omega)
   rw[atI_getD hb.1 (by omega)]
   simp only[Option.bind_some]
   by_cases q:old.getD b.I.toNat 0=far
   ·rw[if_neg (by rw[bne_iff_ne,← far_eq];exact fun h=>h q),tlow_far (e:=ed b) q]
   ·have h2:=h1 q
    rw[if_pos (by rw[bne_iff_ne,← far_eq];exact q),atI_getD hb.2.2.1 (by omega)]
    simp only[Option.bind_some]
    rw[wr64 (x:=old.getD b.I.toNat 0+b.C) (by omega),setI_toNat _ hb.2.2.1 (by omega)]
    simp only[Option.bind_some]
    rw[← tlow_prog (e:=ed b) (src:=(·.i)) (dst:=(·.j)) q]
    rfl,by rw[tlow_len];exact hs⟩)
  (fun s hs=>by unfold g_diffcon_shortest_s6;rw[if_neg (by simp)];rfl)
 rw[runF_inr] at this
 rw[show((0:Int),List.replicate n far)=(fun i (s:List Int)=>(i,s)) 0 (List.replicate n far) from rfl,this,tfold_map]
 rfl
def row0 (n s:Nat):List Int:=(List.replicate n far).set s 0
theorem s1_eq{n:Nat}(hn:n≤512)(m:List (List Int))(hm:m.length=n):iter (g_diffcon_shortest_s1 n m) (0,m)=some ((List.range n).map (row0 n)):=by
 obtain⟨e,he,hp⟩:=iter_post (step:=g_diffcon_shortest_s1 n m) (fun x=>∃ i:Nat,x.1=i∧i≤n∧x.2.length=n∧∀ j,j < i→x.2[j]? = some (row0 n j)) (fun x=>n - x.1.toNat) (fun y=>y.length=n∧∀ j,j < n→y[j]? = some (row0 n j)) (x:=(0,m)) ⟨0,rfl,by omega,hm,fun j h=>by omega⟩ (by dsimp only;omega) (by
  rintro⟨x,y⟩ ⟨i,h1,h2,h3,h4⟩
  dsimp only at h1 h3 h4
  subst h1
  unfold g_diffcon_shortest_s1
  dsimp only
  rw[hm]
  by_cases q:i < n
  ·left
   rw[if_pos (by simpa using q),mkI_nat 8 n (0:Int) (by omega) (by omega),atI_nat (show i < y.length by omega),wr64 (x:=(i:Int)+1) (by omega)]
   simp only[Option.bind_some]
   have hfill:=fill_far (step:=g_diffcon_shortest_s2 m) n (by omega) (List.replicate n 0) (by simp)
    (fun k z hk hz=>by
     unfold g_diffcon_shortest_s2
     dsimp only
     rw[hm,if_pos (by simpa using hk),atI_nat (show k < z.length by omega),setI_nat _ (show k < z.length by omega),wr64 (x:=(k:Int)+1) (by omega)]
     rfl)
    (fun z hz=>by unfold g_diffcon_shortest_s2;dsimp only;rw[hm,if_neg (by simp)])
   rw[hfill]
   simp only[Option.bind_some]
   rw[atI_nat (show i < (List.replicate n far).length by simpa using q),setI_nat _ (show i < (List.replicate n far).length by simpa using q)]
   simp only[Option.bind_some]
   refine⟨_,rfl,⟨i+1,by simp,by omega,by simpa using h3,fun j hj=>?_⟩,by dsimp only;omega⟩
   dsimp only
   rw[List.getElem?_set]
   by_cases hij:i=j
   ·subst hij
    simp[show i < y.length by omega,row0]
   ·rw[if_neg (by simpa using hij)];exact h4 j (by omega)
  ·obtain rfl:i=n:=by omega
   rw[if_neg (by simp)]
   exact .inr ⟨_,rfl,h3,h4⟩)
 rw[he]
 congr 1
 refine List.ext_getElem? fun j=>?_
 by_cases hj:j < n
 ·rw[hp.2 j hj];simp[hj]
 ·rw[List.getElem?_eq_none (by omega),List.getElem?_eq_none (by simp;omega)]
def RowsS(l:List Ed)(n k:Nat)(R:List (List Int)):Prop:=R.length=n∧∀ s (h:s < R.length),RowS (fun v c=>FW l s k v c) n R[s]
theorem s4_eq{n:Nat}{l:List T_api_Bound}(hl:BdsOK n l)(m R:List (List Int))(hm:m.length=n){k:Nat}(hk:k+1≤n)(hR:RowsS (eds l) n k R):∃ e,iter (g_diffcon_shortest_s4 n l m ((k:Int)+1,R)) (0,R)=some e∧((e=.inl ()∧Cyc (· ∈ eds l) (k+1))∨∃ R',e=.inr R'∧RowsS (eds l) n (k+1) R'∧¬ Cyc (· ∈ eds l) (k+1)):=by
 have hn:=hl.n2
 obtain⟨e,he,hp⟩:=iter_post (step:=g_diffcon_shortest_s4 n l m ((k:Int)+1,R)) (fun x=>∃ i:Nat,x.1=i∧i≤n∧x.2.length=n∧(∀ s (h:s < x.2.length),s < i→RowS (fun v c=>FW (eds l) s (k+1) v c) n x.2[s]∧¬ x.2[s].getD s 0 < 0)∧∀ s (h:s < x.2.length),i≤s→RowS (fun v c=>FW (eds l) s k v c) n x.2[s]) (fun x=>n - x.1.toNat)
  (fun e=>(e=.inl ()∧Cyc (· ∈ eds l) (k+1))∨∃ R',e=.inr R'∧RowsS (eds l) n (k+1) R'∧∀ s (h:s < R'.length),¬ R'[s].getD s 0 < 0) (x:=(0,R)) ⟨0,rfl,by omega,hR.1,fun s h q=>by omega,fun s h _=>hR.2 s h⟩ (by dsimp only;omega) (by
  rintro⟨x,y⟩ ⟨i,h1,h2,h3,h4,h5⟩
  dsimp only at h1 h3 h4 h5
  subst h1
  unfold g_diffcon_shortest_s4
  dsimp only
  rw[hR.1]
  by_cases q:i < n
  ·have hy:=h5 i (by omega) (by omega)
   rw[if_pos (by simpa using q),atI_nat (show i < y.length by omega),mkI_nat 8 n (0:Int) (by omega) (by omega),wr64 (x:=(i:Int)+1) (by omega)]
   simp only[Option.bind_some]
   have hfill:=fill_far (step:=g_diffcon_shortest_s5 m) n (by omega) (List.replicate n 0) (by simp)
    (fun k z hk hz=>by
     unfold g_diffcon_shortest_s5
     dsimp only
     rw[hm,if_pos (by simpa using hk),atI_nat (show k < z.length by omega),setI_nat _ (show k < z.length by omega),wr64 (x:=(k:Int)+1) (by omega)]
     rfl)
    (fun z hz=>by unfold g_diffcon_shortest_s5;dsimp only;rw[hm,if_neg (by simp)])
   rw[hfill]
   simp only[Option.bind_some]
   rw[s6_eq hl (K:=(k:Int)) (by omega) (rb_of hl.cc hy)]
   simp only[Option.bind_some]
   have hrow:=row_f hl.cc hl.inn (by omega) hy
   generalize trow (·.i) (·.j) (eds l) y[i] n=nx at hrow
   rw[atI_getD (x:=nx) (by omega) (by rw[hrow.1];omega)]
   simp only[Option.bind_some,Int.toNat_natCast]
   by_cases hneg:nx.getD i 0 < 0
   ·right
    rw[if_pos (by simpa using hneg)]
    refine⟨_,rfl,.inl ⟨rfl,?_⟩⟩
    obtain⟨L,w,hL,hs⟩:=(hrow.2 i q).1 (by rw[far_eq];omega)
    exact⟨i,L,w,hL,by omega⟩
   ·left
    rw[if_neg (by simpa using hneg)]
    refine⟨_,rfl,⟨i+1,by simp,by omega,by simpa using h3,fun s hs hsi=>?_,fun s hs hsi=>?_⟩,by dsimp only;omega⟩
    ·dsimp only at hs ⊢
     by_cases his:i=s
     ·subst his
      simp only[Int.toNat_natCast,List.getElem_set_self]
      exact⟨hrow,hneg⟩
     ·simp only[Int.toNat_natCast,List.getElem_set_ne his]
      exact h4 s (by simpa using hs) (by omega)
    ·dsimp only at hs ⊢
     have his:i≠s:=by omega
     simp only[Int.toNat_natCast,List.getElem_set_ne his]
     exact h5 s (by simpa using hs) (by omega)
  ·obtain rfl:i=n:=by omega
   rw[if_neg (by simp)]
   exact .inr ⟨_,rfl,.inr ⟨y,rfl,⟨h3,fun s hs=>(h4 s hs (by omega)).1⟩,fun s hs=>(h4 s hs (by omega)).2⟩⟩)
 refine⟨e,he,?_⟩
 rcases hp with hp|⟨R',h1,h2,h3⟩
 ·exact .inl hp
 ·refine .inr ⟨R',h1,h2,fun⟨u,L,w,hL,hs⟩=>?_⟩
  have hu:u < n:=by
   cases L with
   | nil=>simp at hL
   | cons e L=>cases w with|cons h1 _=>exact(hl.inn _ h1).1
  have hu':u < R'.length:=by rw[h2.1];exact hu
  have:=((h2.2 u hu').2 u hu).2 (sumE L) ⟨L,w,hL,rfl⟩
  have:=h3 u hu'
  omega
theorem shortest_eq{n:Nat}{l:List T_api_Bound}(hl:BdsOK n l)(hneg:¬ NoNeg (· ∈ eds l)):∃ k:Nat,g_diffcon_shortest n l=some (k:Int)∧0 < k∧k≤n∧Cyc (· ∈ eds l) k∧Least (· ∈ eds l) k:=by
 have hn:=hl.n2
 obtain⟨k0,hk0,hk1,hk2,hk3⟩:=cyc_of hl.inn hneg
 unfold g_diffcon_shortest
 rw[mkI_nat 24 n _ (by omega) (by omega)]
 simp only[Option.bind_some]
 rw[s1_eq hn _ (by simp)]
 simp only[Option.bind_some]
 obtain⟨e,he,hp⟩:=iter_post (step:=g_diffcon_shortest_s3 n l (List.replicate n [])) (fun x=>∃ k:Nat,x.1=(k:Int)+1∧k < k0∧RowsS (eds l) n k x.2∧Least (· ∈ eds l) (k+1)) (fun x=>n+1 - x.1.toNat)
  (fun e=>∃ k:Nat,e=.inl (k:Int)∧0 < k∧k≤n∧Cyc (· ∈ eds l) k∧Least (· ∈ eds l) k) (x:=(1,(List.range n).map (row0 n))) ⟨0,rfl,hk0,⟨by simp,fun s hs=>by
   have hs':s < n:=by simpa using hs
   have:=row_0 (l:=eds l) (n:=n) hs'
   simpa[row0] using this⟩,fun j hj hc=>by
    obtain rfl:j=0:=by omega
    obtain⟨u,L,w,hL,hs⟩:=hc
    obtain rfl:=List.eq_nil_of_length_eq_zero hL
    simp[sumE] at hs⟩ (by dsimp only;omega) (by
  rintro⟨x,y⟩ ⟨k,h1,h2,h3,h4⟩
  dsimp only at h1 h3
  subst h1
  unfold g_diffcon_shortest_s3
  dsimp only
  rw[if_pos (by simp;omega)]
  obtain⟨e,he,hq⟩:=s4_eq hl (List.replicate n []) y (by simp) (k:=k) (by omega) h3
  rw[he]
  simp only[Option.bind_some]
  rcases hq with⟨rfl,hc⟩|⟨R',rfl,hR',hnc⟩
  ·exact .inr ⟨_,rfl,k+1,by simp,by omega,by omega,hc,h4⟩
  ·left
   rw[wr64 (x:=(k:Int)+1+1) (by omega)]
   have hlt:k+1 < k0:=by
    rcases Nat.lt_or_ge (k+1) k0 with h|h
    ·exact h
    ·obtain rfl:k0=k+1:=by omega
     exact absurd hk2 hnc
   refine⟨_,rfl,⟨k+1,by simp,hlt,hR',fun j hj hc=>?_⟩,by dsimp only;omega⟩
   rcases Nat.lt_succ_iff_lt_or_eq.1 hj with hj|rfl
   ·exact h4 j hj hc
   ·exact hnc hc)
 rw[he]
 obtain⟨k,rfl,h1,h2,h3,h4⟩:=hp
 exact⟨k,rfl,h1,h2,h3,h4⟩
theorem BdsOK.sub{n:Nat}{l t:List T_api_Bound}(h:BdsOK n l)(hs:∀ b ∈ t,b ∈ l)(ht:t.length≤4000):BdsOK n t:=⟨h.n1,h.n2,ht,fun b hb=>h.bd b (hs b hb)⟩
theorem BdsOK.drop{n:Nat}{l:List T_api_Bound}(h:BdsOK n l)(k:Nat):BdsOK n (l.drop k):=h.sub (fun b hb=>List.mem_of_mem_drop hb) (by have:=h.len;simp;omega)
theorem r3_eq{n:Nat}{l:List T_api_Bound}(hl:BdsOK n l){K:Int}(hK:K≤1000000){R:List (List Int)}{r:Nat}(hr:0 < r)(hr2:r≤1000){old:List Int}(hR:R[r - 1]? = some old)(ho:RB n K old):iter (g_diffcon_rests_s3 ((r:Int),R) l) (0,List.replicate n far)=some (trow (·.j) (·.i) (eds l) old n):=by
 have hn:=hl.n2
 have hlen:=hl.len
 have hat:atI R (IntKind.i64.wrap ((r:Int) - 1))=some old:=by
  rw[wr64 (by omega),show((r:Int) - 1)=((r - 1:Nat):Int) by omega]
  obtain⟨h1,h2⟩:=List.getElem?_eq_some_iff.1 hR
  rw[atI_nat h1,h2]
 have:=iter_run (step:=g_diffcon_rests_s3 ((r:Int),R) l) l (by omega) (fun i (s:List Int)=>(i,s)) (fun s b=>.inr (tlow (·.j) (·.i) old s (ed b))) id (fun i s=>s.length=n) (s0:=List.replicate n far) (by simp)
  (fun i hi s hs=>.inr ⟨_,rfl,by
   have hb:=hl.bd _ (List.getElem_mem hi)
   unfold g_diffcon_rests_s3
   rw[if_pos (by simpa using hi),atI_nat hi,wr64 (x:=(i:Int)+1) (by omega)]
   simp only[Option.bind_some]
   rw[hat]
   simp only[Option.bind_some]
   rw[if_pos (by rw[wr64 (by omega)];omega)]
   generalize l[i]=b at hb
   have hol:=ho.1
   have h1:=ho.2 b.J.toNat (by omega)
   rw[atI_getD hb.2.2.1 (by omega)]
   simp only[Option.bind_some]
   by_cases q:old.getD b.J.toNat 0=far
   ·rw[if_neg (by rw[bne_iff_ne,← far_eq];exact fun h=>h q),tlow_far (e:=ed b) q]
   ·have h2:=h1 q
    rw[if_pos (by rw[bne_iff_ne,← far_eq];exact q),atI_getD hb.1 (by omega)]
    simp only[Option.bind_some]
    rw[wr64 (x:=b.C+old.getD b.J.toNat 0) (by omega),setI_toNat _ hb.1 (by omega)]
    simp only[Option.bind_some]
    rw[Int.add_comm b.C,← tlow_prog (e:=ed b) (src:=(·.j)) (dst:=(·.i)) q]
    rfl,by rw[tlow_len];exact hs⟩)
  (fun s hs=>by unfold g_diffcon_rests_s3;rw[if_neg (by simp)];rfl)
 rw[runF_inr] at this
 rw[show((0:Int),List.replicate n far)=(fun i (s:List Int)=>(i,s)) 0 (List.replicate n far) from rfl,this,tfold_map]
 rfl
theorem rb_of'{l:List Ed}(hc:∀ e ∈ l,-1099511627776≤e.c∧e.c≤1099511627776){n t k:Nat}{r:List Int}(h:RowS (fun u c=>FW l u k t c) n r):RB n k r :=
 ⟨h.1,fun v hv hf=>fw_bd hc ((h.2 v hv).1 hf)⟩
theorem subL_nat{α:Type}(l:List α){k:Nat}(h:k≤l.length):subL l (k:Int)=some (l.drop k):=by
 unfold subL;rw[if_pos ⟨by omega,by omega⟩,Int.toNat_natCast,List.take_of_length_le (by simp)]
def RestS(l:List Ed)(n t:Nat)(h:List (List Int)):Prop:=∀ r (hr:r < h.length),RowS (fun u c=>FW l u r t c) n h[r]
theorem rests_eq{n:Nat}{l:List T_api_Bound}(hl:BdsOK n l){first size:Nat}{t:Int}(hf:first < l.length)(hs:size≤1000)(ht0:0≤t)(ht1:t < (n:Int)):∃ h,g_diffcon_rests n l (first:Int) (size:Int) t=some h∧h.length=size∧RestS (eds (l.drop (first+1))) n t.toNat h:=by
 have hn:=hl.n2
 have hlen:=hl.len
 have hl':=hl.drop (first+1)
 unfold g_diffcon_rests
 rw[mkI_nat 24 size _ (by omega) (by omega)]
 simp only[Option.bind_some]
 obtain⟨e,he,hp⟩:=iter_post (step:=g_diffcon_rests_s1 n l (first:Int) t (List.replicate size [])) (fun x=>∃ r:Nat,x.1=r∧r≤size∧x.2.length=size∧∀ j (h:j < x.2.length),j < r→RowS (fun u c=>FW (eds (l.drop (first+1))) u j t.toNat c) n x.2[j]) (fun x=>size - x.1.toNat)
  (fun h=>h.length=size∧RestS (eds (l.drop (first+1))) n t.toNat h) (x:=(0,List.replicate size [])) ⟨0,rfl,by omega,by simp,fun j h q=>by omega⟩ (by dsimp only;omega) (by
  rintro⟨x,y⟩ ⟨r,h1,h2,h3,h4⟩
  dsimp only at h1 h3 h4
  subst h1
  unfold g_diffcon_rests_s1
  dsimp only
  rw[List.length_replicate]
  by_cases q:r < size
  ·left
   rw[if_pos (by simpa using q),mkI_nat 8 n (0:Int) (by omega) (by omega),atI_nat (show r < y.length by omega),wr64 (x:=(r:Int)+1) (by omega)]
   simp only[Option.bind_some]
   have hfill:=fill_far (step:=g_diffcon_rests_s2 (List.replicate n 0)) n (by omega) (List.replicate n 0) (by simp)
    (fun k z hk hz=>by
     unfold g_diffcon_rests_s2
     dsimp only
     rw[List.length_replicate,if_pos (by simpa using hk),atI_nat (show k < z.length by omega),setI_nat _ (show k < z.length by omega),wr64 (x:=(k:Int)+1) (by omega)]
     rfl)
    (fun z hz=>by unfold g_diffcon_rests_s2;dsimp only;rw[List.length_replicate,if_neg (by simp)])
   rw[hfill]
   simp only[Option.bind_some]
   have fin:∀ nx:List Int,RowS (fun u c=>FW (eds (l.drop (first+1))) u r t.toNat c) n nx→∃ i:Nat,(r:Int)+1=i∧i≤size∧(y.set (r:Int).toNat nx).length=size∧∀ j (h:j < (y.set (r:Int).toNat nx).length),j < i→RowS (fun u c=>FW (eds (l.drop (first+1))) u j t.toNat c) n (y.set (r:Int).toNat nx)[j]:=by
    intro nx hnx
    refine⟨r+1,by simp,by omega,by simpa using h3,fun j hj hjr=>?_⟩
    by_cases hrj:r=j
    ·subst hrj;simpa using hnx
    ·simp only[Int.toNat_natCast,List.getElem_set_ne hrj]
     exact h4 j (by simpa using hj) (by omega)
   by_cases q0:r=0
   ·subst q0
    rw[if_pos (by simp),show(0:Int)=((0:Nat):Int) from rfl,atI_nat (show 0 < y.length by omega)]
    simp only[Option.bind_some]
    rw[atI_getD (x:=List.replicate n far) ht0 (by simpa using ht1),setI_toNat _ ht0 (by simpa using ht1)]
    simp only[Option.bind_some]
    exact⟨_,rfl,fin _ (row_0b (by omega)),by dsimp only;omega⟩
   ·rw[if_neg (by simpa using q0),wr64 (x:=(first:Int)+1) (by omega),show((first:Int)+1)=((first+1:Nat):Int) by omega,subL_nat l (by omega)]
    simp only[Option.bind_some]
    have hold:=h4 (r - 1) (by omega) (by omega)
    rw[r3_eq hl' (K:=((r - 1:Nat):Int)) (by omega) (by omega) (by omega) (List.getElem?_eq_some_iff.2 ⟨by omega,rfl⟩) (by
     have:=rb_of' hl'.cc hold
     exact this)]
    simp only[Option.bind_some]
    have:=row_b hl'.cc hl'.inn (by omega) hold
    rw[show r - 1+1=r by omega] at this
    exact⟨_,rfl,fin _ this,by dsimp only;omega⟩
  ·obtain rfl:r=size:=by omega
   rw[if_neg (by simp)]
   exact .inr ⟨_,rfl,h3,fun j hj=>h4 j hj (by omega)⟩)
 rw[he]
 exact⟨e,rfl,hp.1,hp.2⟩
def eAt (l:List T_api_Bound)(i:Int):Ed:=(eds l).getD i.toNat ⟨0,0,0⟩
theorem eAt_nat{l:List T_api_Bound}{i:Nat}(h:i < l.length):eAt l (i:Int)=ed l[i]:=by
 simp[eAt,eds,List.getD,h]
structure CfOK(l:List T_api_Bound)(k:Nat)(out:List Int):Prop where
 len:out.length=k
 idx:∀ i ∈ out,0≤i∧i < (l.length:Int)
 cyc:∃ u,Wlk (· ∈ eds l) u u (out.map (eAt l))
 neg:sumE (out.map (eAt l)) < 0
theorem c3_eq{n:Nat}{l:List T_api_Bound}(hl:BdsOK n l){first:Nat}{h:List (List Int)}{rw_:List Int}{at_ sum r:Int}{out:List Int}{K:Int}(hK:0≤K∧K≤1000000)(hr:atI h r=some rw_)(hrow:RB n K rw_)(hsum:-(K * 1099511627776)≤sum∧sum≤K * 1099511627776)(ho:out.length≤1000)(hf:first+1≤l.length)
  (hex:∃ i,∃ q:i < l.length,first < i∧l[i].I=at_∧rw_.getD l[i].J.toNat 0≠far∧sum+l[i].C+rw_.getD l[i].J.toNat 0 < 0) :
  ∃ i,∃ q:i < l.length,first < i∧l[i].I=at_∧rw_.getD l[i].J.toNat 0≠far∧sum+l[i].C+rw_.getD l[i].J.toNat 0 < 0∧iter (g_diffcon_conflict_s3 l h (at_,sum,r,out)) ((first:Int)+1)=some (out++[(i:Int)],l[i].J,sum+l[i].C):=by
 have hlen:=hl.len
 obtain⟨i0,hi0,hc0,hc1,hc2,hc3⟩:=hex
 obtain⟨e,he,hp⟩:=iter_post (step:=g_diffcon_conflict_s3 l h (at_,sum,r,out)) (fun x=>∃ i:Nat,x=i∧first < i∧i≤i0) (fun x=>l.length - x.toNat)
  (fun e=>∃ i,∃ q:i < l.length,first < i∧l[i].I=at_∧rw_.getD l[i].J.toNat 0≠far∧sum+l[i].C+rw_.getD l[i].J.toNat 0 < 0∧e=(out++[(i:Int)],l[i].J,sum+l[i].C)) (x:=(first:Int)+1) ⟨first+1,by simp,by omega,by omega⟩ (by omega) (by
  rintro x ⟨i,rfl,h1,h2⟩
  have hi:i < l.length:=by omega
  have hb:=hl.bd _ (List.getElem_mem hi)
  unfold g_diffcon_conflict_s3
  dsimp only
  rw[if_pos (by simpa using hi),atI_nat hi,wr64 (x:=(i:Int)+1) (by omega)]
  simp only[Option.bind_some]
  have nxt:¬ (l[i].I=at_∧rw_.getD l[i].J.toNat 0≠far∧sum+l[i].C+rw_.getD l[i].J.toNat 0 < 0)→∃ x',(some (.go ((i:Int)+1)):Option (Nx Int (List Int × Int × Int)))=some (.go x')∧(∃ j:Nat,x'=j∧first < j∧j≤i0)∧l.length - x'.toNat < l.length - (i:Int).toNat:=by
   intro hno
   have:i≠i0:=fun e=>by subst e;exact hno ⟨hc1,hc2,hc3⟩
   exact⟨_,rfl,⟨i+1,by simp,by omega,by omega⟩,by omega⟩
  by_cases q1:l[i].I=at_
  ·rw[if_pos (by simpa using q1),hr]
   simp only[Option.bind_some]
   have hrl:=hrow.1
   have hrv:=hrow.2 l[i].J.toNat (by omega)
   rw[atI_getD hb.2.2.1 (by omega)]
   simp only[Option.bind_some]
   by_cases q2:rw_.getD l[i].J.toNat 0=far
   ·rw[if_neg (by rw[bne_iff_ne,← far_eq];exact fun h=>h q2)]
    simp only[Option.bind_some,Bool.false_eq_true,if_false]
    exact .inl (nxt fun h=>h.2.1 q2)
   ·have h3:=hrv q2
    rw[if_pos (by rw[bne_iff_ne,← far_eq];exact q2),wr64 (x:=sum+l[i].C) (by omega),wr64 (x:=sum+l[i].C+rw_.getD l[i].J.toNat 0) (by omega)]
    simp only[Option.bind_some]
    by_cases q3:sum+l[i].C+rw_.getD l[i].J.toNat 0 < 0
    ·rw[if_pos (by simpa using q3),if_pos (by omega)]
     exact .inr ⟨_,rfl,i,hi,h1,q1,q2,q3,rfl⟩
    ·rw[if_neg (by simpa using q3)]
     exact .inl (nxt fun h=>q3 h.2.2)
  ·rw[if_neg (by simpa using q1)]
   simp only[Option.bind_some,Bool.false_eq_true,if_false]
   exact .inl (nxt fun h=>q1 h.1))
 obtain⟨i,q,a1,a2,a3,a4,rfl⟩:=hp
 exact⟨i,q,a1,a2,a3,a4,he⟩
theorem RB.mono{n:Nat}{K K':Int}{r:List Int}(h:RB n K r)(hk:K≤K'):RB n K' r :=
 ⟨h.1,fun v hv hf=>by have:=h.2 v hv hf;omega⟩
theorem mem_drop{l:List T_api_Bound}{k:Nat}{e:Ed}(h:e ∈ eds (l.drop k)):∃ i,∃ q:i < l.length,k≤i∧ed l[i]=e:=by
 obtain⟨b,hb,rfl⟩:=List.mem_map.1 h;obtain⟨j,hj,rfl⟩:=List.getElem_of_mem hb;simp only[List.length_drop] at hj;exact⟨k+j,by omega,by omega,by simp⟩
structure BkI(n:Nat)(l:List T_api_Bound)(first t k:Nat)(r a:Nat)(sum:Int)(out:List Int):Prop where
 an:a < n
 len:out.length+r=k
 idx:∀ i ∈ out,0≤i∧i < (l.length:Int)
 wlk:Wlk (· ∈ eds l) t a (out.map (eAt l))
 tot:sumE (out.map (eAt l))=sum
 rest:∃ L,Wlk (· ∈ eds (l.drop (first+1))) a t L∧L.length=r∧sum+sumE L < 0
theorem eAt_mem{l:List T_api_Bound}{i:Int}(h0:0≤i)(h1:i < (l.length:Int)):eAt l i ∈ eds l:=by
 obtain⟨i,rfl⟩:=Int.eq_ofNat_of_zero_le h0;have hi:i < l.length:=by omega
 rw[eAt_nat hi];exact List.mem_map_of_mem (List.getElem_mem hi)
theorem sum_out{n:Nat}{l:List T_api_Bound}(hl:BdsOK n l){out:List Int}(h:∀ i ∈ out,0≤i∧i < (l.length:Int))(ho:out.length≤1000):-(1000 * 1099511627776)≤sumE (out.map (eAt l))∧sumE (out.map (eAt l))≤1000 * 1099511627776:=by
 have:=sumE_bd hl.cc (out.map (eAt l)) (fun e he=>by
  obtain⟨i,hi,rfl⟩:=List.mem_map.1 he
  exact eAt_mem (h i hi).1 (h i hi).2)
 simp only[List.length_map] at this
 omega
theorem c2_eq{n:Nat}{l:List T_api_Bound}(hl:BdsOK n l){first t k:Nat}(hk:k≤1000)(hf:first < l.length)(ht:t < n){h:List (List Int)}(hh:h.length=k)(hR:RestS (eds (l.drop (first+1))) n t h){a0:Nat}{sum0:Int}{out0:List Int}{r0:Nat}(h0:BkI n l first t k r0 a0 sum0 out0) :
  ∃ out,iter (g_diffcon_conflict_s2 l (first:Int) h) ((a0:Int),sum0,(r0:Int) - 1,out0)=some out∧CfOK l k out:=by
 have hlen:=hl.len
 have hl':=hl.drop (first+1)
 refine iter_post (step:=g_diffcon_conflict_s2 l (first:Int) h) (fun x=>∃ r a:Nat,x.1=a∧x.2.2.1=(r:Int) - 1∧BkI n l first t k r a x.2.1 x.2.2.2) (fun x=>(x.2.2.1+1).toNat) (fun out=>CfOK l k out) (x:=((a0:Int),sum0,(r0:Int) - 1,out0)) ⟨r0,a0,rfl,rfl,h0⟩ (by have:=h0.len;dsimp only;omega) ?_
 rintro⟨xa,sum,xr,out⟩ ⟨r,a,h1,h2,hI⟩
 dsimp only at h1 h2 hI
 subst h1 h2
 have hol:=hI.len
 unfold g_diffcon_conflict_s2
 dsimp only
 by_cases q:r=0
 ·subst q
  rw[if_neg (by simp)]
  right
  obtain⟨L,w,hL,hs⟩:=hI.rest
  obtain rfl:=List.eq_nil_of_length_eq_zero hL
  have:=w.nil_eq
  subst this
  exact⟨_,rfl,⟨by omega,hI.idx,⟨a,hI.wlk⟩,by rw[hI.tot];simpa[sumE] using hs⟩⟩
 ·obtain⟨r,rfl⟩:∃ m,r=m+1:=⟨r - 1,by omega⟩
  left
  rw[if_pos (by rw[decide_eq_true_eq];omega),wr64 (x:=(first:Int)+1) (by omega)]
  have hrk:r < h.length:=by omega
  have hrow:=hR r hrk
  have hsum:=sum_out hl hI.idx (by omega)
  rw[hI.tot] at hsum
  have hat:atI h ((((r+1:Nat):Int) - 1))=some h[r]:=by
   rw[show(((r+1:Nat):Int) - 1)=((r:Nat):Int) by omega,atI_nat hrk]
  obtain⟨i,qi,a1,a2,a3,a4,a5⟩:=c3_eq hl (first:=first) (h:=h) (at_:=(a:Int)) (sum:=sum) (r:=((r+1:Nat):Int) - 1) (out:=out) (K:=1000) ⟨by omega,by omega⟩ hat ((rb_of' hl'.cc hrow).mono (by omega)) hsum (by omega) (by omega) (by
   obtain⟨L,w,hL,hs⟩:=hI.rest
   cases L with
   | nil=>simp at hL
   | cons e L =>
    cases w with
    | cons he w2 =>
     obtain⟨i,qi,hki,hei⟩:=mem_drop he
     subst hei
     have hb:=hl.bd _ (List.getElem_mem qi)
     have hj:(ed l[i]).j < n:=by simp only[ed];omega
     have hle:=(hrow.2 (ed l[i]).j hj).2 (sumE L) ⟨L,w2,by simpa using hL,rfl⟩
     have hbd:=sumE_bd hl'.cc L w2.mem
     have hLr:L.length=r:=by simpa using hL
     have hje:(ed l[i]).j=l[i].J.toNat:=rfl
     have hce:(ed l[i]).c=l[i].C:=rfl
     rw[hje] at hle
     simp only[sumE,hce] at hs
     refine⟨i,qi,by omega,?_,?_,by omega⟩
     ·show l[i].I=(((ed l[i]).i:Nat):Int)
      simp only[ed];omega
     ·rw[far_eq];omega)
  rw[a5]
  simp only[Option.bind_some]
  have hb:=hl.bd _ (List.getElem_mem qi)
  rw[wr64 (x:=(((r+1:Nat):Int) - 1) - 1) (by omega)]
  refine⟨_,rfl,⟨r,l[i].J.toNat,by dsimp only;omega,by dsimp only;omega,?_⟩,by dsimp only;omega⟩
  dsimp only
  obtain⟨L,w,hL,hs⟩:=(hrow.2 l[i].J.toNat (by omega)).1 a3
  refine⟨by omega,by simp;omega,fun j hj=>?_,?_,?_,⟨L,w,hL,by omega⟩⟩
  ·rcases List.mem_append.1 hj with hj|hj
   ·exact hI.idx j hj
   ·simp only[List.mem_singleton] at hj;subst hj;omega
  ·rw[List.map_append,List.map_cons,List.map_nil,eAt_nat qi]
   exact hI.wlk.snoc (List.mem_map_of_mem (List.getElem_mem qi)) (by simp only[ed];omega)
  ·rw[List.map_append,List.map_cons,List.map_nil,eAt_nat qi,sumE_app,hI.tot]
   simp[sumE,ed]
theorem conflict_eq{n:Nat}{l:List T_api_Bound}(hl:BdsOK n l){k:Nat}(hk0:0 < k)(hk:k≤1000):∃ out,g_diffcon_conflict n l (k:Int)=some out∧(out=[]∨CfOK l k out):=by
 have hlen:=hl.len
 have hn:=hl.n2
 obtain⟨e,he,hp⟩:=iter_post (step:=g_diffcon_conflict_s1 n l (k:Int)) (fun x=>∃ i:Nat,x=i∧i≤l.length) (fun x=>l.length - x.toNat) (fun e=>e=.inr ()∨∃ out,e=.inl out∧CfOK l k out) (x:=0) ⟨0,rfl,by omega⟩ (by omega) (by
  rintro x ⟨i,rfl,hi⟩
  unfold g_diffcon_conflict_s1
  by_cases q:i < l.length
  ·have hb:=hl.bd _ (List.getElem_mem q)
   rw[if_pos (by simpa using q),atI_nat q,wr64 (x:=(i:Int)+1) (by omega),wr64 (x:=(k:Int) - 1) (by omega),wr64 (x:=(k:Int) - 2) (by omega)]
   simp only[Option.bind_some]
   obtain⟨h,hh,hlh,hR⟩:=rests_eq hl (first:=i) (size:=k) (t:=l[i].I) q hk hb.1 hb.2.1
   rw[hh]
   simp only[Option.bind_some]
   have hkh:k - 1 < h.length:=by omega
   rw[show(k:Int) - 1=((k - 1:Nat):Int) by omega,atI_nat hkh]
   simp only[Option.bind_some]
   have hrow:=hR (k - 1) hkh
   have hrb:=rb_of' (hl.drop (i+1)).cc hrow
   generalize hrw:h[k - 1]=rw_ at hrow hrb
   have hrl:=hrb.1
   have hrv:=hrb.2 l[i].J.toNat (by omega)
   rw[atI_getD hb.2.2.1 (by omega)]
   simp only[Option.bind_some]
   have nxt:∃ x',(some (.go ((i:Int)+1)):Option (Nx Int (List Int ⊕ Unit)))=some (.go x')∧(∃ j:Nat,x'=j∧j≤l.length)∧l.length - x'.toNat < l.length - (i:Int).toNat:=⟨_,rfl,⟨i+1,by simp,by omega⟩,by omega⟩
   by_cases q2:rw_.getD l[i].J.toNat 0=far
   ·rw[if_pos (by rw[beq_iff_eq,← far_eq];exact q2)]
    simp only[Option.bind_some,if_true]
    exact .inl nxt
   ·have h3:=hrv q2
    rw[if_neg (by rw[beq_iff_eq,← far_eq];exact q2),wr64 (x:=l[i].C+rw_.getD l[i].J.toNat 0) (by omega)]
    simp only[Option.bind_some]
    by_cases q3:0≤l[i].C+rw_.getD l[i].J.toNat 0
    ·rw[if_pos (by simpa using q3)]
     exact .inl nxt
    ·rw[if_neg (by simpa using q3)]
     right
     obtain⟨L,w,hL,hs⟩:=(hrow.2 l[i].J.toNat (by omega)).1 q2
     obtain⟨out,ho,hc⟩:=c2_eq hl (first:=i) (t:=l[i].I.toNat) (k:=k) hk q (by omega) hlh hR (a0:=l[i].J.toNat) (sum0:=l[i].C) (out0:=[(i:Int)]) (r0:=k - 1) ⟨by omega,by simp;omega,by intro j hj;simp only[List.mem_singleton] at hj;subst hj;omega,by
       rw[List.map_cons,List.map_nil,eAt_nat q]
       exact .cons (List.mem_map_of_mem (List.getElem_mem q)) (.nil _),by rw[List.map_cons,List.map_nil,eAt_nat q];simp[sumE,ed],⟨L,w,hL,by omega⟩⟩
     rw[show((l[i].J.toNat:Nat):Int)=l[i].J by omega,show((k - 1:Nat):Int) - 1=(k:Int) - 2 by omega] at ho
     rw[ho]
     exact⟨_,rfl,.inr ⟨out,rfl,hc⟩⟩
  ·obtain rfl:i=l.length:=by omega
   rw[if_neg (by simp)]
   exact .inr ⟨_,rfl,.inl rfl⟩)
 unfold g_diffcon_conflict
 rw[he]
 rcases hp with rfl|⟨out,rfl,hc⟩
 ·exact⟨[],rfl,.inl rfl⟩
 ·exact⟨out,rfl,.inr hc⟩
theorem dcCheck_eq{n:Nat}{l:List T_api_Bound}(hl:BdsOK n l):g_diffcon_Check n l=some 0:=by
 have hlen:=hl.len
 have hn:=hl.n2
 have hn1:=hl.n1
 unfold g_diffcon_Check
 have a1:¬ (n:Int) < 1:=by omega
 have a2:¬ (512:Int) < (n:Int):=by omega
 simp only[a1,a2,decide_false,Bool.false_eq_true,if_false,Option.bind_some]
 rw[if_neg (by simp;omega)]
 obtain⟨e,he,hp⟩:=iter_cnt (step:=g_diffcon_Check_s1 n l) l.length (by omega) (fun _=>True) (fun e=>e=.inr ()) trivial (fun i hi _=>by
  have hb:=hl.bd _ (List.getElem_mem hi)
  unfold g_diffcon_Check_s1
  rw[if_pos (by simpa using hi),atI_nat hi,wr64 (x:=(i:Int)+1) (by omega)]
  simp only[Option.bind_some]
  have b1:¬ l[i].I < 0:=by omega
  have b2:¬ (n:Int)≤l[i].I:=by omega
  have b3:¬ l[i].J < 0:=by omega
  have b4:¬ (n:Int)≤l[i].J:=by omega
  have b5:¬ l[i].C < -1099511627776:=by omega
  have b6:¬ 1099511627776 < l[i].C:=by omega
  simp only[b1,b2,b3,b4,b5,b6,decide_false,Bool.false_eq_true,if_false,Option.bind_some]
  exact .inl ⟨by first|rfl|trivial,trivial⟩) (fun _=>by
  unfold g_diffcon_Check_s1
  exact⟨_,by rw[if_neg (by simp)],rfl⟩)
 rw[he,hp]
 rfl
theorem solve_eq{n:Nat}{l:List T_api_Bound}(hl:BdsOK n l):(NoNeg (· ∈ eds l)∧g_diffcon_Solve n l=some (sol n l,[],0))∨(¬ NoNeg (· ∈ eds l)∧∃ out,g_diffcon_Solve n l=some ([],out,16)∧(out=[]∨∃ k,0 < k∧k≤n∧Least (· ∈ eds l) k∧CfOK l k out)):=by
 have hn:=hl.n2
 obtain⟨r,hr,hc⟩:=relax_eq hl
 have hs:g_diffcon_Solve n l=(if r.1 then(some (r.2,[],0)) else((g_diffcon_shortest n l).bind fun r45=>((g_diffcon_conflict n l r45).bind fun r47=>(some ([],r47,16))))):=by
  unfold g_diffcon_Solve
  rw[dcCheck_eq hl,mkI_nat 8 n _ (by omega) (by omega)]
  simp only[Option.bind_some,bne_self_eq_false,Bool.false_eq_true,if_false]
  rw[show List.replicate n (0:Int)=x0 n from rfl,hr]
  rfl
 rw[hs]
 rcases hc with⟨h1,rfl⟩|⟨h1,h2⟩
 ·exact .inl ⟨h1,rfl⟩
 ·right
  obtain⟨k,hk,k0,kn,_,kl⟩:=shortest_eq hl h1
  obtain⟨out,ho,hco⟩:=conflict_eq hl k0 (by omega)
  rw[h2,hk]
  simp only[Bool.false_eq_true,if_false,Option.bind_some]
  rw[ho]
  refine⟨h1,out,rfl,?_⟩
  rcases hco with rfl|hco
  ·exact .inl rfl
  ·exact .inr ⟨k,k0,kn,kl,hco⟩
theorem clU{l:List T_api_Run}(h:l.length≤1048576):g_slices_Clone_api_Run_api_Run l=some l:=by unfold g_slices_Clone_api_Run_api_Run;rw[if_pos (by omega)]
theorem clR{l:List T_api_Row}(h:l.length≤1048576):g_slices_Clone_api_Row_api_Row l=some l:=by unfold g_slices_Clone_api_Row_api_Row;rw[if_pos (by omega)]
theorem clE{l:List T_api_Event}(h:l.length≤1048576):g_slices_Clone_api_Event_api_Event l=some l:=by unfold g_slices_Clone_api_Event_api_Event;rw[if_pos (by omega)]
theorem clG{l:List T_api_Region}(h:l.length≤1048576):g_slices_Clone_api_Region_api_Region l=some l:=by unfold g_slices_Clone_api_Region_api_Region;rw[if_pos (by omega)]
theorem clC{l:List T_api_Comment}(h:l.length≤1048576):g_slices_Clone_api_Comment_api_Comment l=some l:=by unfold g_slices_Clone_api_Comment_api_Comment;rw[if_pos (by omega)]
theorem same_loop{α:Type}{step:Int × List α→Option (Nx (Int × List α) (List α))}(l:List α)(hn:l.length≤9223372036854775807)(hgo:∀ (i:Nat) (h:i < l.length),step ((i:Int),l)=some (.go ((i:Int)+1,l)))(hend:step ((l.length:Int),l)=some (.out l)):iter step (0,l)=some l:=by
 have:=iter_run (step:=step) l hn (fun i (_:Unit)=>(i,l)) (fun _ _=>.inr ()) (fun _=>l) (fun _ _=>True) (s0:=()) trivial (fun i hi _ _=>.inr ⟨(),rfl,hgo i hi,trivial⟩) (fun _ _=>hend)
 rw[show((0:Int),l)=(fun i (_:Unit)=>(i,l)) 0 () from rfl,this]
 congr 1
 have:∀ t:List α,runF (fun(_:Unit) (_:α)=>(.inr ():List α ⊕ Unit)) (fun _=>l) () t=l:=by
  intro t
  induction t with
  | nil=>rfl
  | cons a t ih=>simp only[runF];exact ih
 exact this l
theorem set_same{α:Type}{l:List α}{i:Nat}(h:i < l.length):setI l (i:Int) l[i]=some l:=by
 rw[setI_nat _ h];simp
theorem styClone(rows:List T_api_Row)(h:rows.length≤1048576)(hr:∀ r ∈ rows,r.Runs.length≤1048576):g_style_Clone rows=some rows:=by
 unfold g_style_Clone
 cases rows with
 | nil =>
  simp only[List.isEmpty_nil,if_true]
  rw[clR (by simp)]
  simp only[Option.bind_some]
  have:iter (g_style_Clone_s1 []) ()=some ():=by
   refine iter_of (fun x e=>True) (fun _=>0) ?_ (x:=()) trivial (by decide)
   intro x e _
   right
   unfold g_style_Clone_s1
   rw[if_neg (by simp)]
  rw[this]
  rfl
 | cons a t =>
  simp only[List.isEmpty_cons,Bool.false_eq_true,if_false]
  generalize hl:a::t=l at *
  have hne:l.isEmpty=false:=by rw[← hl];rfl
  rw[show g_slices_Clone_api_Row_api_Row_nw l=some l from by unfold g_slices_Clone_api_Row_api_Row_nw;rw[hne];exact clR h]
  simp only[Option.bind_some]
  rw[same_loop l (by omega) (fun i hi=>by
   unfold g_style_Clone_s2
   dsimp only
   rw[if_pos (by simpa using hi),atI_nat hi,wr64 (x:=(i:Int)+1) (by omega)]
   simp only[Option.bind_some]
   have hz:=hr _ (List.getElem_mem hi)
   rw[clU hz,show g_slices_Clone_api_Run_api_Run_nw l[i].Runs=if l[i].Runs.isEmpty then none else some l[i].Runs from by unfold g_slices_Clone_api_Run_api_Run_nw;rw[clU hz]]
   have hs:setI l (i:Int) (T_api_Row.mk l[i].Runs)=some l:=set_same hi
   cases hq:l[i].Runs.isEmpty with
   | true=>simp only[if_true,Option.bind_some];rw[hs];rfl
   | false=>simp only[Bool.false_eq_true,if_false,Option.bind_some];rw[hs];rfl) (by unfold g_style_Clone_s2;dsimp only;rw[if_neg (by simp)])]
  rfl
theorem evClone(e:T_api_Event)(h:EvZ e):g_event_Clone e=some e:=by
 unfold g_event_Clone;rw[styClone _ h.1 (fun r hr=>(h.2 r hr).2)];rfl
theorem dcl_loop(l:List T_api_Event)(h:l.length≤1048576)(hz:∀ e ∈ l,EvZ e):iter (g_document_Clone_s2 l) (0,l)=some l :=
 same_loop l (by omega) (fun i hi=>by
  unfold g_document_Clone_s2
  dsimp only
  rw[if_pos (by simpa using hi),atI_nat hi,wr64 (x:=(i:Int)+1) (by omega)]
  simp only[Option.bind_some]
  rw[evClone _ (hz _ (List.getElem_mem hi))]
  simp only[Option.bind_some]
  rw[set_same hi]
  rfl) (by unfold g_document_Clone_s2;dsimp only;rw[if_neg (by simp)])
theorem dcl_nil:iter (g_document_Clone_s1 []) ()=some ():=by
 refine iter_of (fun x e=>True) (fun _=>0) ?_ (x:=()) trivial (by decide);intro x e _;right;unfold g_document_Clone_s1;rw[if_neg (by simp)]
theorem empty_nil{α:Type}{l:List α}(h:l.isEmpty=true):l=[]:=List.isEmpty_iff.1 h
theorem docClone(d:T_api_Document)(hd:DocZ d):g_document_Clone d=some d:=by
 have e1:=dcl_loop d.Events hd.evs hd.ev
 have c3:=clE hd.evs
 unfold g_document_Clone
 rw[clG hd.regs]
 simp only[Option.bind_some]
 rw[clC hd.coms]
 simp only[Option.bind_some]
 cases h3:d.Events.isEmpty with
 | true =>
  simp only[if_true]
  rw[c3]
  simp only[Option.bind_some]
  rw[empty_nil h3,dcl_nil,Option.bind_some,← empty_nil h3]
 | false =>
  simp only[Bool.false_eq_true,if_false]
  have w3:g_slices_Clone_api_Event_api_Event_nw d.Events=some d.Events:=by unfold g_slices_Clone_api_Event_api_Event_nw;rw[h3];exact c3
  rw[w3]
  simp only[Option.bind_some]
  rw[e1]
  rfl
theorem docClone_nw(d:T_api_Document)(hd:DocZ d)(h3:d.Events.isEmpty=false):g_document_Clone_nw d=some d:=by
 have e1:iter (g_document_Clone_nw_s2 d.Events) (0,d.Events)=some d.Events:=dcl_loop d.Events hd.evs hd.ev;have c3:=clE hd.evs;unfold g_document_Clone_nw;rw[clG hd.regs];simp only[Option.bind_some];rw[clC hd.coms];simp only[Option.bind_some,h3,Bool.false_eq_true,if_false];have w3:g_slices_Clone_api_Event_api_Event_nw d.Events=some d.Events:=by unfold g_slices_Clone_api_Event_api_Event_nw;rw[h3];exact c3
 rw[w3];simp only[Option.bind_some];rw[e1];rfl
theorem find_loop{step:Int→Option (Nx Int (Int ⊕ Unit))}(l:List T_api_Event)(hn:l.length≤1048576)(id:Int)(hgo:∀ (i:Nat) (h:i < l.length),step (i:Int)=if(l[i].ID == id)=true then some (.out (.inl (i:Int))) else some (.go ((i:Int)+1)))(hend:step (l.length:Int)=some (.out (.inr ()))) :
  ∃ e,iter step 0=some e∧((∃ i,∃ h:i < l.length,e=.inl (i:Int)∧l[i].ID=id)∨(e=.inr ()∧∀ i (h:i < l.length),l[i].ID≠id)):=by
 refine iter_cnt l.length (by omega) (fun i=>∀ j (h:j < l.length),j < i→l[j].ID≠id) _ (fun j _ h=>by omega) (fun i hi hI=>?_) (fun hI=>⟨_,hend,.inr ⟨rfl,fun i h=>hI i h h⟩⟩)
 rw[hgo i hi]
 by_cases q:l[i].ID=id
 ·rw[if_pos (by simpa using q)]
  exact .inr ⟨_,rfl,.inl ⟨i,hi,rfl,q⟩⟩
 ·rw[if_neg (by simpa using q)]
  refine .inl ⟨rfl,fun j hj hji=>?_⟩
  rcases Nat.lt_succ_iff_lt_or_eq.1 hji with h|rfl
  ·exact hI j hj h
  ·exact q
theorem find_eq(d:T_api_Document)(hn:d.Events.length≤1048576)(id:Int):∃ r,g_document_Find d id=some r∧g_document_Find_ro d id=some r∧((∃ i,∃ h:i < d.Events.length,r=(i:Int)∧d.Events[i].ID=id)∨(r=-1∧∀ i (h:i < d.Events.length),d.Events[i].ID≠id)):=by
 obtain⟨e,he,hp⟩:=find_loop (step:=g_slices_IndexFunc_api_Event_api_Event_s1 d.Events id) d.Events hn id (fun i hi=>by
  unfold g_slices_IndexFunc_api_Event_api_Event_s1 g_document_Find_1
  rw[if_pos (by simpa using hi),atI_nat hi,wr64 (x:=(i:Int)+1) (by omega)]
  rfl) (by unfold g_slices_IndexFunc_api_Event_api_Event_s1;rw[if_neg (by simp)])
 have he':iter (g_slices_IndexFunc_api_Event_api_Event_ro_s1 d.Events id) 0=some e:=he
 unfold g_document_Find g_slices_IndexFunc_api_Event_api_Event g_document_Find_ro g_slices_IndexFunc_api_Event_api_Event_ro
 rw[he,he']
 rcases hp with⟨i,h,rfl,hid⟩|⟨rfl,hno⟩
 ·exact⟨(i:Int),rfl,rfl,.inl ⟨i,h,rfl,hid⟩⟩
 ·exact⟨-1,rfl,rfl,.inr ⟨rfl,hno⟩⟩
theorem sort1_eq(a b:T_api_Event):∃ r,g_document_Sort_1 a b=some r∧decide (r < 0)=ltE a b:=by
 have h:=less_eq a b;unfold g_document_Sort_1;unfold g_event_Less at h;rw[cmp_eq,cmp_eq] at h ⊢;simp only[Option.bind_some,or2_eq] at h ⊢;exact⟨_,rfl,Option.some.inj h⟩
theorem ltE_trans{a b c:T_api_Event}(h1:ltE b a=false)(h2:ltE c b=false):ltE c a=false:=by
 unfold ltE at *;simp only[Bool.or_eq_false_iff,decide_eq_false_iff_not,Bool.and_eq_false_imp,decide_eq_true_eq] at *;omega
theorem ltE_asym{a b:T_api_Event}(h1:ltE a b=true):ltE b a=false:=by
 unfold ltE at *;simp only[Bool.or_eq_false_iff,decide_eq_false_iff_not,Bool.and_eq_false_imp,decide_eq_true_eq,Bool.or_eq_true,Bool.and_eq_true] at *;omega
def SrtTo(i:Nat)(x:List T_api_Event):Prop:=∀ p q a b,p < q→q < i→x[p]? = some a→x[q]? = some b→ltE b a=false
structure InI(l:List T_api_Event)(i j:Nat)(x:List T_api_Event):Prop where
 ji:j≤i
 perm:x.Perm l
 a:∀ p q a b,p < q→q≤i→p≠j→q≠j→x[p]? = some a→x[q]? = some b→ltE b a=false
 b:∀ q a b,j < q→q≤i→x[j]? = some a→x[q]? = some b→ltE b a=false
theorem ins2(l:List T_api_Event)(hl:l.length≤1000){i:Nat}(hi:i < l.length)(hs:SrtTo i l):∃ r,iter (g_slices_insertionSortCmpFunc_api_Event_w_s2 0) ((i:Int),l)=some r∧r.Perm l∧SrtTo (i+1) r:=by
 refine iter_post (step:=g_slices_insertionSortCmpFunc_api_Event_w_s2 0) (fun x=>∃ j:Nat,x.1=j∧InI l i j x.2) (fun x=>x.1.toNat) (fun r=>r.Perm l∧SrtTo (i+1) r) (x:=((i:Int),l)) ⟨i,rfl,Nat.le_refl _,.refl _,fun p q a b h1 h2 h3 h4 h5 h6=>hs p q a b h1 (by omega) h5 h6,fun q a b h1 h2=>by omega⟩ (by dsimp only;omega) ?_
 rintro⟨xj,x⟩ ⟨j,h1,hI⟩
 dsimp only at h1 hI
 subst h1
 have hlen:=hI.perm.length_eq
 have hji:=hI.ji
 have hj:j < x.length:=by omega
 unfold g_slices_insertionSortCmpFunc_api_Event_w_s2
 dsimp only
 have fin:(j=0∨∀ a b,x[j - 1]? = some a→x[j]? = some b→ltE b a=false)→SrtTo (i+1) x:=by
  intro hex p q a b hpq hq ha hb
  by_cases hp:p=j
  ·subst hp;exact hI.b q a b hpq (by omega) ha hb
  ·by_cases hqj:q=j
   ·subst hqj
    rcases hex with h0|hex
    ·omega
    ·by_cases hp1:p=q - 1
     ·subst hp1;exact hex a b ha hb
     ·have hm:q - 1 < x.length:=by omega
      have h2:=hI.a p (q - 1) a x[q - 1] (by omega) (by omega) (by omega) (by omega) ha (List.getElem?_eq_getElem hm)
      exact ltE_trans h2 (hex _ b (List.getElem?_eq_getElem hm) hb)
   ·exact hI.a p q a b hpq (by omega) hp hqj ha hb
 by_cases q0:j=0
 ·right
  subst q0
  simp only[show ¬ (0:Int) < ((0:Nat):Int) by omega,decide_false,Bool.false_eq_true,if_false,Option.bind_some]
  exact⟨_,rfl,hI.perm,fin (.inl rfl)⟩
 ·have hj1:j - 1 < x.length:=by omega
  rw[if_pos (by simp;omega),wr64 (x:=(j:Int) - 1) (by omega),show(j:Int) - 1=((j - 1:Nat):Int) by omega,atI_nat hj,atI_nat hj1]
  simp only[Option.bind_some]
  obtain⟨r,hr,hlt⟩:=sort1_eq x[j] x[j - 1]
  rw[hr]
  simp only[Option.bind_some,hlt]
  cases hc:ltE x[j] x[j - 1] with
  | false =>
   right
   simp only[Bool.false_eq_true,if_false]
   refine⟨_,rfl,hI.perm,fin (.inr fun a b ha hb=>?_)⟩
   rw[List.getElem?_eq_getElem hj1] at ha
   rw[List.getElem?_eq_getElem hj] at hb
   cases ha;cases hb
   exact hc
  | true =>
   left
   simp only[if_true]
   rw[setI_nat _ hj]
   simp only[Option.bind_some]
   rw[atI_nat (show j - 1 < (x.set j x[j - 1]).length by simpa using hj1)]
   simp only[Option.bind_some]
   rw[setI_nat _ (show j - 1 < (x.set j x[j - 1]).length by simpa using hj1)]
   simp only[Option.bind_some]
   refine⟨_,rfl,⟨j - 1,rfl,by omega,(List.set_set_perm hj hj1).trans hI.perm,?_,?_⟩,by dsimp only;omega⟩
   ·intro p q a b hpq hq hp hqj ha hb
    dsimp only at ha hb
    have gp:∀ k c,k≠j - 1→((x.set j x[j - 1]).set (j - 1) x[j])[k]? = some c→(k=j∧c=x[j - 1])∨(k≠j∧x[k]? = some c):=by
     intro k c hk hc'
     rw[List.getElem?_set_ne (by omega),List.getElem?_set] at hc'
     by_cases hkj:j=k
     ·subst hkj
      rw[if_pos rfl,if_pos hj] at hc'
      exact .inl ⟨rfl,(Option.some.inj hc').symm⟩
     ·rw[if_neg hkj] at hc'
      exact .inr ⟨fun e=>hkj e.symm,hc'⟩
    rcases gp p a hp ha with⟨hp1,hp2⟩|⟨hpj,ha'⟩
    ·subst hp2
     rcases gp q b hqj hb with⟨h2,_⟩|⟨hqj2,hb'⟩
     ·omega
     ·exact hI.a (j - 1) q _ b (by omega) hq (by omega) hqj2 (List.getElem?_eq_getElem hj1) hb'
    ·rcases gp q b hqj hb with⟨hq1,hq2⟩|⟨hqj2,hb'⟩
     ·subst hq2
      exact hI.a p (j - 1) a _ (by omega) (by omega) hpj (by omega) ha' (List.getElem?_eq_getElem hj1)
     ·exact hI.a p q a b hpq hq hpj hqj2 ha' hb'
   ·intro q a b hq hqi ha hb
    dsimp only at ha hb
    rw[List.getElem?_set_self (by simpa using hj1)] at ha
    cases ha
    by_cases hqj:q=j
    ·subst hqj
     rw[List.getElem?_set_ne (by omega),List.getElem?_set_self hj] at hb
     cases hb
     exact ltE_asym hc
    ·rw[List.getElem?_set_ne (by omega),List.getElem?_set_ne (by omega)] at hb
     exact hI.b q _ b (by omega) hqi (List.getElem?_eq_getElem hj) hb
theorem ins1(l:List T_api_Event)(hl:l.length≤1000):∃ r,g_slices_insertionSortCmpFunc_api_Event l 0 (l.length:Int)=some r∧r.Perm l∧SrtTo l.length r:=by
 obtain⟨r,hr,h1,h2⟩:=iter_post (step:=g_slices_insertionSortCmpFunc_api_Event_w_s1 0 (l.length:Int)) (fun x=>∃ i:Nat,x.1=i∧(i≤l.length∨i=1)∧x.2.Perm l∧SrtTo i x.2) (fun x=>l.length - x.1.toNat) (fun r=>r.Perm l∧SrtTo l.length r) (x:=(1,l)) ⟨1,rfl,.inr rfl,.refl _,fun p q a b h1 h2=>by omega⟩ (by dsimp only;omega) (by
  rintro⟨xi,x⟩ ⟨i,h1,h2,h3,h4⟩
  dsimp only at h1 h3 h4
  subst h1
  have hlen:=h3.length_eq
  unfold g_slices_insertionSortCmpFunc_api_Event_w_s1
  dsimp only
  by_cases q:i < l.length
  ·left
   rw[if_pos (by simpa using q),wr64 (x:=(i:Int)+1) (by omega)]
   obtain⟨r,hr,h5,h6⟩:=ins2 x (by omega) (i:=i) (by omega) h4
   rw[hr]
   exact⟨_,rfl,⟨i+1,by simp,.inl (by omega),h5.trans h3,h6⟩,by dsimp only;omega⟩
  ·right
   rw[if_neg (by simpa using q)]
   exact⟨_,rfl,h3,fun p q' a b hpq hq=>h4 p q' a b hpq (by omega)⟩)
 refine⟨r,?_,h1,h2⟩
 unfold g_slices_insertionSortCmpFunc_api_Event g_slices_insertionSortCmpFunc_api_Event_w
 rw[show IntKind.i64.wrap (0+1)=1 from by decide,hr]
 simp only[Option.bind_some]
 rw[if_pos h1.length_eq]
theorem sort_eq(l:List T_api_Event)(hl:l.length≤19)(hz:∀ e ∈ l,EvZ e):∃ r,g_document_Sort l=some r∧r.Perm l∧SrtTo l.length r:=by
 obtain⟨r,hr,h1,h2⟩:=ins1 l (by omega)
 have hst:g_slices_stableCmpFunc_api_Event l (l.length:Int)=some r:=by
  unfold g_slices_stableCmpFunc_api_Event g_slices_stableCmpFunc_api_Event_w
  have s1:iter (g_slices_stableCmpFunc_api_Event_w_s1 (l.length:Int)) (0,20,l)=some (l,0):=by
   refine iter_of (fun x e=>x=(0,20,l)∧e=(l,0)) (fun _=>0) ?_ (x:=(0,20,l)) ⟨rfl,rfl⟩ (by decide)
   rintro x e ⟨rfl,rfl⟩
   right
   unfold g_slices_stableCmpFunc_api_Event_w_s1
   rw[if_neg (by simp;omega)]
  have s2:iter (g_slices_stableCmpFunc_api_Event_w_s2 (l.length:Int)) (20,r)=some r:=by
   refine iter_of (fun x e=>x=(20,r)∧e=r) (fun _=>0) ?_ (x:=(20,r)) ⟨rfl,rfl⟩ (by decide)
   rintro x e ⟨rfl,rfl⟩
   right
   unfold g_slices_stableCmpFunc_api_Event_w_s2
   rw[if_neg (by simp;omega)]
  rw[s1]
  simp only[Option.bind_some]
  rw[hr]
  simp only[Option.bind_some]
  rw[s2]
  simp only[Option.bind_some]
  rw[if_pos h1.length_eq]
 refine⟨r,?_,h1,h2⟩
 have hc:=iter_run (step:=g_document_Sort_s1 l) l (by omega) (fun i (s:List T_api_Event)=>(s,i)) (fun s e=>.inr (s++[e])) id (fun i s=>s.length=i) (s0:=[]) rfl
  (fun i hi s hs=>.inr ⟨_,rfl,by
   unfold g_document_Sort_s1
   dsimp only
   rw[if_pos (by simpa using hi),atI_nat hi,wr64 (x:=(i:Int)+1) (by omega)]
   simp only[Option.bind_some]
   rw[evClone _ (hz _ (List.getElem_mem hi))]
   simp only[Option.bind_some]
   rw[if_pos (by omega)],by simp[hs]⟩)
  (fun s hs=>by unfold g_document_Sort_s1;dsimp only;rw[if_neg (by simp)];rfl)
 have hid:∀ (t s:List T_api_Event),runF (fun(s:List T_api_Event) e=>(.inr (s++[e]):List T_api_Event ⊕ List T_api_Event)) id s t=s++t:=by
  intro t
  induction t with
  | nil=>intro s;simp[runF]
  | cons a t ih=>intro s;simp only[runF];rw[ih];simp
 rw[hid,List.nil_append] at hc
 unfold g_document_Sort
 rw[show(([]:List T_api_Event),(0:Int))=(fun i (s:List T_api_Event)=>(s,i)) 0 [] from rfl,hc]
 simp only[Option.bind_some]
 unfold g_slices_SortStableFunc_api_Event_api_Event g_slices_SortStableFunc_api_Event_api_Event_w
 rw[hst]
 simp only[Option.bind_some]
 rw[if_pos h1.length_eq]
 rfl
def badS (s:T_api_Shift):Bool:=decide (s.In < 0)||decide (s.Out≤s.In)||decide (5184000 < s.Out)
def upE (s:T_api_Shift)(e:T_api_Event):T_api_Event:=if e.ID=s.ID then⟨e.ID,⟨s.In,s.Out⟩,e.Region,e.Kind,e.Speaker,e.Rows⟩ else e
theorem upE_id(s:T_api_Shift)(e:T_api_Event):(upE s e).ID=e.ID:=by unfold upE;split<;>rfl
theorem upE_z{s:T_api_Shift}{e:T_api_Event}(h:EvZ e):EvZ (upE s e):=by unfold upE;split<;>exact h
theorem upE_ids(s:T_api_Shift)(l:List T_api_Event):(l.map (upE s)).map (·.ID)=l.map (·.ID):=by
 rw[List.map_map];exact List.map_congr_left fun e _=>upE_id s e
def apF (ev:List T_api_Event)(s:T_api_Shift):(Int ⊕ List T_api_Event) ⊕ List T_api_Event :=
 if(ev.map (·.ID)).contains s.ID then(if badS s then .inl (.inl 2) else .inr (ev.map (upE s))) else .inl (.inl 6)
def apR (ev:List T_api_Event)(l:List T_api_Shift):Int ⊕ List T_api_Event:=runF apF .inr ev l
theorem nodup_at{l:List T_api_Event}(hd:(l.map (·.ID)).Nodup){i j:Nat}(hi:i < l.length)(hj:j < l.length)(h:l[i].ID=l[j].ID):i=j:=by
 have hp:=List.pairwise_iff_getElem.1 hd;rcases Nat.lt_trichotomy i j with q|q|q
 ·exact absurd (by rw[List.getElem_map,List.getElem_map];exact h) (hp i j (by simpa using hi) (by simpa using hj) q)
 ·exact q
 exact absurd (by rw[List.getElem_map,List.getElem_map];exact h.symm) (hp j i (by simpa using hj) (by simpa using hi) q)
theorem set_map{l:List T_api_Event}(hd:(l.map (·.ID)).Nodup){i:Nat}(hi:i < l.length)(s:T_api_Shift)(h:l[i].ID=s.ID):l.set i ⟨l[i].ID,⟨s.In,s.Out⟩,l[i].Region,l[i].Kind,l[i].Speaker,l[i].Rows⟩=l.map (upE s):=by
 refine List.ext_getElem (by simp) fun j hj1 hj2=>?_;have hj:j < l.length:=by simpa using hj1
 rw[List.getElem_map];by_cases q:i=j
 ·subst q;rw[List.getElem_set_self];unfold upE;rw[if_pos h]
 rw[List.getElem_set_ne q];unfold upE;rw[if_neg (fun e=>q (nodup_at hd hi hj (h.trans e.symm)))]
theorem bad_eq(s:T_api_Shift):(if(decide (s.In < 0)) then(some true) else(if(decide (s.Out≤s.In)) then(some true) else(some (decide (5184000 < s.Out)))):Option Bool)=some (badS s):=by
 unfold badS;by_cases h1:s.In < 0<;>by_cases h2:s.Out≤s.In<;>simp[h1,h2]
structure ApI(n:Nat)(ids:List Int)(ev:List T_api_Event):Prop where
 len:ev.length=n
 ids:ev.map (·.ID)=ids
 z:∀ e ∈ ev,EvZ e
theorem ap_loop(d:T_api_Document)(l:List T_api_Shift)(hl:l.length≤1000)(hz:∀ e ∈ d.Events,EvZ e)(hn:d.Events.length≤1048576)(hd:(d.Events.map (·.ID)).Nodup):iter (g_repair_Apply_s2 l d) (0,d.Events)=some (apR d.Events l):=by
 refine iter_run (step:=g_repair_Apply_s2 l d) l (by omega) (fun i (s:List T_api_Event)=>(i,s)) apF .inr (fun _ ev=>ApI d.Events.length (d.Events.map (·.ID)) ev) (s0:=d.Events) ⟨rfl,rfl,hz⟩ (fun i hi ev hI=>?_) (fun ev hI=>by unfold g_repair_Apply_s2;dsimp only;rw[if_neg (by simp)])
 have hst:g_repair_Apply_s2 l d ((i:Int),ev)=(apF ev l[i]).elim (fun e=>some (.out e)) (fun ev'=>some (.go ((i:Int)+1,ev'))):=by
  unfold g_repair_Apply_s2
  dsimp only
  rw[if_pos (by simpa using hi),atI_nat hi,wr64 (x:=(i:Int)+1) (by omega)]
  simp only[Option.bind_some]
  generalize l[i]=s
  obtain⟨r,_,hr,hp⟩:=find_eq (T_api_Document.mk d.Title d.Lang d.Rate d.Drop d.Last d.Regions ev d.Comments) (by show ev.length≤_;rw[hI.len];exact hn) s.ID
  rw[hr]
  simp only[Option.bind_some,bad_eq]
  rcases hp with⟨k,hk,rfl,hid⟩|⟨rfl,hno⟩
  ·have hc:(ev.map (·.ID)).contains s.ID=true:=List.contains_iff_mem.2 (List.mem_map.2 ⟨ev[k],List.getElem_mem hk,hid⟩)
   unfold apF
   rw[hc]
   simp only[show ¬ ((k:Int) < 0) by omega,decide_false,Bool.false_eq_true,if_false,if_true]
   cases badS s with
   | true=>rfl
   | false =>
    simp only[Bool.false_eq_true,if_false]
    have hk':k < ev.length:=hk
    rw[atI_nat hk']
    simp only[Option.bind_some]
    rw[setI_nat _ hk',set_map (by rw[hI.ids];exact hd) hk' s hid]
    rfl
  ·have hc:(ev.map (·.ID)).contains s.ID=false:=by
    cases hq:(ev.map (·.ID)).contains s.ID with
    | false=>rfl
    | true =>
     obtain⟨e,he,heq⟩:=List.mem_map.1 (List.contains_iff_mem.1 hq)
     obtain⟨j,hj,rfl⟩:=List.getElem_of_mem he
     exact absurd heq (hno j hj)
   unfold apF
   rw[hc]
   rfl
 rw[hst]
 cases hf:apF ev l[i] with
 | inl e=>exact .inl ⟨e,rfl,rfl⟩
 | inr ev' =>
  refine .inr ⟨ev',rfl,rfl,?_⟩
  unfold apF at hf
  split at hf
  ·split at hf
   ·cases hf
   ·cases hf
    refine⟨by simp[hI.len],by rw[upE_ids];exact hI.ids,fun e he=>?_⟩
    obtain⟨e0,he0,rfl⟩:=List.mem_map.1 he
    exact upE_z (hI.z _ he0)
  ·cases hf
theorem apR_inr:∀ (l:List T_api_Shift) (ev ev':List T_api_Event),apR ev l=.inr ev'→ev'.length=ev.length∧ev'.map (·.ID)=ev.map (·.ID)∧((∀ e ∈ ev,EvZ e)→∀ e ∈ ev',EvZ e)
 | [],ev,ev',h=>by cases h;exact⟨rfl,rfl,fun h=>h⟩
 | s::l,ev,ev',h=>by
  unfold apR at h
  simp only[runF] at h
  cases hf:apF ev s with
  | inl e =>
   rw[hf] at h
   simp only at h
   unfold apF at hf
   split at hf
   ·split at hf<;>cases hf
    cases h
   ·cases hf;cases h
  | inr e1 =>
   rw[hf] at h
   simp only at h
   obtain⟨a,b,c⟩:=apR_inr l e1 ev' h
   unfold apF at hf
   split at hf
   ·split at hf
    ·cases hf
    ·cases hf
     refine⟨by rw[a];simp,by rw[b,upE_ids],fun hz=>c fun e he=>?_⟩
     obtain⟨e0,he0,rfl⟩:=List.mem_map.1 he
     exact upE_z (hz _ he0)
   ·cases hf
def docN:T_api_Document:=⟨[],[],0,false,0,[],[],[]⟩
def withE(d:T_api_Document)(ev:List T_api_Event):T_api_Document:=⟨d.Title,d.Lang,d.Rate,d.Drop,d.Last,d.Regions,ev,d.Comments⟩
theorem apply_eq(d:T_api_Document)(hd:DocZ d)(hc:g_document_Check d=some 0)(hD:DocOK d)(hn:d.Events.length≤19)(l:List T_api_Shift)(hl:l.length≤1000) :
  (∃ e,apR d.Events l=.inl e∧g_repair_Apply d l=some (docN,e))∨(∃ ev r,apR d.Events l=.inr ev∧g_repair_Apply d l=some (withE d r,0)∧r.Perm ev∧SrtTo ev.length r):=by
 unfold g_repair_Apply
 rw[hc]
 simp only[Option.bind_some,bne_self_eq_false,Bool.false_eq_true,if_false]
 cases h:d.Events.isEmpty with
 | true =>
  have he:=empty_nil h
  simp only[if_true]
  rw[docClone d hd]
  simp only[Option.bind_some]
  cases l with
  | nil =>
   right
   have:iter (g_repair_Apply_s1 [] d) ()=some (.inr ()):=by
    refine iter_of (fun x e=>e=.inr ()) (fun _=>0) ?_ (x:=()) rfl (by decide)
    rintro x e rfl
    right
    unfold g_repair_Apply_s1
    rw[if_neg (by simp)]
   rw[this]
   simp only[Option.bind_some]
   obtain⟨r,hr,h1,h2⟩:=sort_eq d.Events hn hd.ev
   rw[hr]
   exact⟨d.Events,r,by rw[he];rfl,rfl,h1,h2⟩
  | cons s t =>
   left
   have:iter (g_repair_Apply_s1 (s::t) d) ()=some (.inl 6):=by
    refine iter_of (fun x e=>e=.inl 6) (fun _=>0) ?_ (x:=()) rfl (by decide)
    rintro x e rfl
    right
    unfold g_repair_Apply_s1
    rw[if_pos (by simp),show atI (s::t) 0=some s from rfl]
    simp only[Option.bind_some]
    obtain⟨r,hr,_,hp⟩:=find_eq d hd.evs s.ID
    rw[hr]
    simp only[Option.bind_some]
    rcases hp with⟨k,hk,_⟩|⟨rfl,_⟩
    ·rw[he] at hk;simp at hk
    ·rfl
   rw[this]
   refine⟨6,?_,rfl⟩
   rw[he]
   rfl
 | false =>
  simp only[Bool.false_eq_true,if_false]
  rw[docClone_nw d hd h]
  simp only[Option.bind_some]
  rw[ap_loop d l hl hd.ev hd.evs hD.ids]
  simp only[Option.bind_some]
  cases hr:apR d.Events l with
  | inl e=>exact .inl ⟨e,rfl,rfl⟩
  | inr ev =>
   right
   obtain⟨a,b,c⟩:=apR_inr l d.Events ev hr
   obtain⟨r,hs,h1,h2⟩:=sort_eq ev (by omega) (c hd.ev)
   simp only[hs,Option.bind_some]
   exact⟨ev,r,rfl,rfl,h1,h2⟩
theorem letters_tot(e:T_api_Event)(hz:EvZ e)(hr:∀ r ∈ e.Rows,r.Runs.length≤16):∃ c,g_repair_letters e=some c:=by
 obtain⟨x,he,_⟩:=iter_post (step:=g_repair_letters_s1 e) (fun x=>0≤x.2∧x.2≤(e.Rows.length:Int)) (fun x=>e.Rows.length - x.2.toNat) (fun _=>True) (x:=(0,0)) ⟨by simp,by simp⟩ (by have:=hz.1;dsimp only;omega) (by
  rintro⟨c,i⟩ ⟨q1,q2⟩
  dsimp only at q1 q2
  obtain⟨i,rfl⟩:=Int.eq_ofNat_of_zero_le q1
  have hn:=hz.1
  unfold g_repair_letters_s1
  dsimp only
  by_cases hi:i < e.Rows.length
  ·have hm:=List.getElem_mem hi
   rw[if_pos (by simpa using hi),atI_nat hi,wr64 (x:=(i:Int)+1) (by omega)]
   simp only[Option.bind_some]
   obtain⟨s,hs,hsl⟩:=plain_tot _ (hz.2 _ hm).1 (hr _ hm)
   rw[hs]
   simp only[Option.bind_some]
   obtain⟨y,hy,_⟩:=iter_post (step:=g_repair_letters_s2 s) (fun x=>True) (fun x=>s.length - x.2) (fun _=>True) (x:=(c,0)) trivial (by dsimp only;omega) (by
    rintro⟨c',p⟩ _
    unfold g_repair_letters_s2
    dsimp only
    by_cases hp:p < s.length
    ·have hw:=wd_pos hp
     rw[if_pos (by simpa using hp)]
     split
     ·exact .inl ⟨_,rfl,trivial,by dsimp only;omega⟩
     ·exact .inl ⟨_,rfl,trivial,by dsimp only;omega⟩
    ·right
     rw[if_neg (by simpa using hp)]
     exact⟨_,rfl,trivial⟩)
   rw[hy]
   exact .inl ⟨_,rfl,⟨by dsimp only;omega,by dsimp only;omega⟩,by dsimp only;omega⟩
  ·right
   rw[if_neg (by simpa using hi)]
   exact⟨_,rfl,trivial⟩)
 unfold g_repair_letters
 rw[he]
 exact⟨_,rfl⟩
def letS (e:T_api_Event):Int:=(g_repair_letters e).getD 0
theorem letS_eq(e:T_api_Event)(hz:EvZ e)(hr:∀ r ∈ e.Rows,r.Runs.length≤16):g_repair_letters e=some (letS e):=by
 obtain⟨c,h⟩:=letters_tot e hz hr;unfold letS;rw[h];rfl
theorem needS_bd(r c l:Int)(h0:0≤r)(h1:r≤255):0≤(needS r c l).1∧(needS r c l).1≤120000000000:=by
 unfold needS
 split
 ·rename_i hv
  split
  ·rename_i hw
   have hw':wiB c 0 10000=true∧wiB l 1 10000=true:=by simpa using hw
   have hc:=wiB_t hw'.1
   have hl:=wiB_t hw'.2
   obtain⟨_,_,_,ht⟩:=rates r h0 h1
   obtain⟨_,t1,t2⟩:=ht hv
   have hm:=mul_small 10000 hl.1 hl.2 t1 t2 (by omega)
   generalize l * rtT r=b at hm
   have hle:upQ (c * 12000000) b≤120000000000:=(upQ_le (by omega) (by omega)).2 (by
    have:120000000000 * 1≤120000000000 * b:=Int.mul_le_mul_of_nonneg_left hm.1 (by omega)
    omega)
   refine⟨?_,hle⟩
   show 0≤upQ (c * 12000000) b
   unfold upQ
   exact Int.tdiv_nonneg (by omega) (by omega)
  ·simp
 ·simp
def bsA (d:T_api_Document)(p:T_api_Profile)(i:Int)(x:T_api_Event):List T_api_Bound :=
 [⟨2 * i+2,2 * i+1,-(needS d.Rate (letS x) p.Reading).1,1,x.ID,0⟩,⟨2 * i+2,2 * i+1,-p.MinFrames,2,x.ID,0⟩,⟨2 * i+1,2 * i+2,p.MaxFrames,3,x.ID,0⟩]
def bsZ (v:Int)(z:T_api_Span)(id:Int):List T_api_Bound:=[⟨v,0,-z.In,6,id,0⟩,⟨0,v,z.Out - 1,6,id,0⟩]
def bsT (v f tol id:Int):List T_api_Bound:=[⟨v,0,-(f - tol),11,id,0⟩,⟨0,v,f+tol,11,id,0⟩]
def bsG (p:T_api_Profile)(i id:Int):Option T_api_Event→List T_api_Bound
 | some y=>[⟨2 * i+3,2 * i+2,-p.MinGap,4,id,y.ID⟩]
 | none=>[]
def bsE (d:T_api_Document)(p:T_api_Profile)(l:List Int)(tol:Int)(i:Nat)(x:T_api_Event):Int ⊕ List T_api_Bound :=
 if(zoS l x.Span.In p).2≠0 then .inl (zoS l x.Span.In p).2 else if(zoS l x.Span.Out p).2≠0 then .inl (zoS l x.Span.Out p).2 else
  .inr (bsA d p i x++(bsZ (2 * i+1) (zoS l x.Span.In p).1 x.ID++bsZ (2 * i+2) (zoS l x.Span.Out p).1 x.ID)++(bsT (2 * i+1) x.Span.In tol x.ID++bsT (2 * i+2) x.Span.Out tol x.ID)++bsG p i x.ID d.Events[i+1]?)
theorem zoS_bd(l:List Int)(hl:l.length≤1000)(f:Int)(p:T_api_Profile):(zoS l f p).2=0→0≤(zoS l f p).1.In∧(zoS l f p).1.In≤5184000∧1≤(zoS l f p).1.Out∧(zoS l f p).1.Out≤5184001:=by
 obtain⟨_,h⟩:=snS_eq l hl f p.ShotBefore p.ShotAfter
 unfold zoS
 cases hs:(snS l f p.ShotBefore p.ShotAfter).2 with
 | false=>intro q;cases q
 | true =>
  intro _
  have:=zoR_in p (h hs) l
  simp only[if_true]
  have:=h hs
  omega
theorem win_eq(out:List T_api_Bound)(ho:out.length≤1000000)(v lo hi rule id:Int)(h:-9000000≤lo∧lo≤9000000):g_repair_window out v lo hi rule id=some (out++[⟨v,0,-lo,rule,id,0⟩,⟨0,v,hi,rule,id,0⟩]):=by
 unfold g_repair_window;rw[if_pos (by omega),wr64 (x:=0 - lo) (by omega),Int.zero_sub]
theorem bs2_eq(p:T_api_Profile)(l:List Int)(hl:l.length≤1000)(out0:List T_api_Bound)(i:Nat)(hi:i≤1000)(y:T_api_Event)(out:List T_api_Bound)(ho:out.length≤900000) :
  iter (g_repair_Bounds_s2 p l (out0,(i:Int)) y) (0,out)=some (if(zoS l y.Span.In p).2≠0 then .inl (zoS l y.Span.In p).2 else if(zoS l y.Span.Out p).2≠0 then .inl (zoS l y.Span.Out p).2 else .inr (out++bsZ (2 * i+1) (zoS l y.Span.In p).1 y.ID++bsZ (2 * i+2) (zoS l y.Span.Out p).1 y.ID)):=by
 have hst:∀ (k:Nat) (f:Int) (s:List T_api_Bound),(k=0∧f=y.Span.In∨k=1∧f=y.Span.Out)→s.length≤999999→g_repair_Bounds_s2 p l (out0,(i:Int)) y ((k:Int),s)=if(zoS l f p).2≠0 then some (.out (.inl (zoS l f p).2)) else some (.go ((k:Int)+1,s++bsZ (2 * i+1+k) (zoS l f p).1 y.ID)):=by
  intro k f s hk hs
  have hsel:((if(k:Int) == 0 then(some (y.Span.In,0)) else(if(k:Int) == 1 then(some (y.Span.Out,1)) else none)):Option (Int × Int))=some (f,(k:Int)):=by
   rcases hk with⟨rfl,rfl⟩|⟨rfl,rfl⟩<;>rfl
  unfold g_repair_Bounds_s2
  dsimp only
  rw[if_pos (by rw[decide_eq_true_eq];omega),hsel]
  simp only[Option.bind_some]
  rw[zone_eq l hl]
  simp only[Option.bind_some]
  by_cases q:(zoS l f p).2=0
  ·have hb:=zoS_bd l hl f p q
   rw[if_neg (by rw[bne_iff_ne];exact fun h=>h q),if_neg (fun h=>h q),win_eq _ (by omega) _ _ _ _ _ (by omega)]
   simp only[Option.bind_some]
   rw[wr64 (x:=2 * (i:Int)) (by omega),wr64 (x:=2 * (i:Int)+1) (by omega),wr64 (x:=2 * (i:Int)+1+(k:Int)) (by omega),wr64 (x:=(zoS l f p).1.Out - 1) (by omega),wr64 (x:=(k:Int)+1) (by omega)]
   rfl
  ·rw[if_pos (by rw[bne_iff_ne];exact q),if_pos q]
 have hend:∀ s,g_repair_Bounds_s2 p l (out0,(i:Int)) y (2,s)=some (.out (.inr s)):=fun s=>by unfold g_repair_Bounds_s2;rw[if_neg (by simp)]
 refine iter_of (fun x e=>(x=(0,out)∧e=(if(zoS l y.Span.In p).2≠0 then .inl (zoS l y.Span.In p).2 else if(zoS l y.Span.Out p).2≠0 then .inl (zoS l y.Span.Out p).2 else .inr (out++bsZ (2 * i+1) (zoS l y.Span.In p).1 y.ID++bsZ (2 * i+2) (zoS l y.Span.Out p).1 y.ID)))∨(x=(1,out++bsZ (2 * i+1) (zoS l y.Span.In p).1 y.ID)∧e=(if(zoS l y.Span.Out p).2≠0 then .inl (zoS l y.Span.Out p).2 else .inr (out++bsZ (2 * i+1) (zoS l y.Span.In p).1 y.ID++bsZ (2 * i+2) (zoS l y.Span.Out p).1 y.ID)))∨(x=(2,out++bsZ (2 * i+1) (zoS l y.Span.In p).1 y.ID++bsZ (2 * i+2) (zoS l y.Span.Out p).1 y.ID)∧e=.inr (out++bsZ (2 * i+1) (zoS l y.Span.In p).1 y.ID++bsZ (2 * i+2) (zoS l y.Span.Out p).1 y.ID))) (fun x=>2 - x.1.toNat) ?_ (x:=(0,out)) (.inl ⟨rfl,rfl⟩) (by dsimp only;omega)
 rintro x e (⟨rfl,rfl⟩|⟨rfl,rfl⟩|⟨rfl,rfl⟩)
 ·have h:=hst 0 y.Span.In out (.inl ⟨rfl,rfl⟩) (by omega)
  rw[show(((0:Nat):Int),out)=((0:Int),out) from rfl] at h
  rw[h]
  by_cases q:(zoS l y.Span.In p).2=0
  ·rw[if_neg (fun h=>h q),if_neg (fun h=>h q)]
   exact .inl ⟨_,rfl,.inr (.inl ⟨by simp,rfl⟩),by simp⟩
  ·rw[if_pos q,if_pos q];exact .inr rfl
 ·have h:=hst 1 y.Span.Out (out++bsZ (2 * i+1) (zoS l y.Span.In p).1 y.ID) (.inr ⟨rfl,rfl⟩) (by simp[bsZ];omega)
  rw[show(((1:Nat):Int),out++bsZ (2 * i+1) (zoS l y.Span.In p).1 y.ID)=((1:Int),out++bsZ (2 * i+1) (zoS l y.Span.In p).1 y.ID) from rfl] at h
  rw[h]
  by_cases q:(zoS l y.Span.Out p).2=0
  ·rw[if_neg (fun h=>h q),if_neg (fun h=>h q)]
   exact .inl ⟨_,rfl,.inr (.inr ⟨by rw[show(2 * (i:Int)+1+((1:Nat):Int))=2 * (i:Int)+2 by omega];rfl,rfl⟩),by simp⟩
  ·rw[if_pos q,if_pos q];exact .inr rfl
 ·exact .inr (hend _)
theorem bs3_eq(tol:Int)(ht:0≤tol∧tol≤5184000)(out0:List T_api_Bound)(i:Nat)(hi:i≤1000)(y:T_api_Event)(hy:EvOK y)(out:List T_api_Bound)(ho:out.length≤900000) :
  iter (g_repair_Bounds_s3 tol (out0,(i:Int)) y) (0,out)=some (out++bsT (2 * i+1) y.Span.In tol y.ID++bsT (2 * i+2) y.Span.Out tol y.ID):=by
 have hsp:=hy.span
 have hst:∀ (k:Nat) (f:Int) (s:List T_api_Bound),(k=0∧f=y.Span.In∨k=1∧f=y.Span.Out)→s.length≤999999→g_repair_Bounds_s3 tol (out0,(i:Int)) y ((k:Int),s)=some (.go ((k:Int)+1,s++bsT (2 * i+1+k) f tol y.ID)):=by
  intro k f s hk hs
  have hf:0≤f∧f≤5184000:=by rcases hk with⟨_,rfl⟩|⟨_,rfl⟩<;>omega
  have hsel:((if(k:Int) == 0 then(some (y.Span.In,0)) else(if(k:Int) == 1 then(some (y.Span.Out,1)) else none)):Option (Int × Int))=some (f,(k:Int)):=by
   rcases hk with⟨rfl,rfl⟩|⟨rfl,rfl⟩<;>rfl
  unfold g_repair_Bounds_s3
  dsimp only
  rw[if_pos (by rw[decide_eq_true_eq];omega),hsel]
  simp only[Option.bind_some]
  rw[wr64 (x:=f - tol) (by omega),wr64 (x:=f+tol) (by omega),win_eq _ (by omega) _ _ _ _ _ (by omega)]
  simp only[Option.bind_some]
  rw[wr64 (x:=2 * (i:Int)) (by omega),wr64 (x:=2 * (i:Int)+1) (by omega),wr64 (x:=2 * (i:Int)+1+(k:Int)) (by omega),wr64 (x:=(k:Int)+1) (by omega)]
  rfl
 have hend:∀ s,g_repair_Bounds_s3 tol (out0,(i:Int)) y (2,s)=some (.out s):=fun s=>by unfold g_repair_Bounds_s3;rw[if_neg (by simp)]
 refine iter_of (fun x e=>e=out++bsT (2 * i+1) y.Span.In tol y.ID++bsT (2 * i+2) y.Span.Out tol y.ID∧(x=(0,out)∨x=(1,out++bsT (2 * i+1) y.Span.In tol y.ID)∨x=(2,out++bsT (2 * i+1) y.Span.In tol y.ID++bsT (2 * i+2) y.Span.Out tol y.ID))) (fun x=>2 - x.1.toNat) ?_ (x:=(0,out)) ⟨rfl,.inl rfl⟩ (by dsimp only;omega)
 rintro x e ⟨rfl,rfl|rfl|rfl⟩
 ·have h:=hst 0 y.Span.In out (.inl ⟨rfl,rfl⟩) (by omega)
  exact .inl ⟨_,h,⟨rfl,.inr (.inl (by simp))⟩,by simp⟩
 ·have h:=hst 1 y.Span.Out (out++bsT (2 * i+1) y.Span.In tol y.ID) (.inr ⟨rfl,rfl⟩) (by simp[bsT];omega)
  exact .inl ⟨_,h,⟨rfl,.inr (.inr (by rw[show(2 * (i:Int)+1+((1:Nat):Int))=2 * (i:Int)+2 by omega];rfl))⟩,by simp⟩
 ·exact .inr (hend _)
def bnF (d:T_api_Document)(p:T_api_Profile)(l:List Int)(tol:Int)(s:List T_api_Bound)(a:T_api_Event × Nat):(Int ⊕ List T_api_Bound) ⊕ List T_api_Bound :=
 match bsE d p l tol a.2 a.1 with
 | .inl e=>.inl (.inl e)
 | .inr bs=>.inr (s++bs)
def bnR (d:T_api_Document)(p:T_api_Profile)(l:List Int)(tol:Int):Int ⊕ List T_api_Bound:=runF (bnF d p l tol) .inr [] d.Events.zipIdx
theorem bsE_len{d:T_api_Document}{p:T_api_Profile}{l:List Int}{tol:Int}{i:Nat}{x:T_api_Event}{bs:List T_api_Bound}(h:bsE d p l tol i x=.inr bs):bs.length≤12:=by
 unfold bsE at h;split at h
 ·cases h
 split at h
 ·cases h
 cases h;cases d.Events[i+1]?<;>simp[bsA,bsZ,bsT,bsG]
theorem okR_of{p:T_api_Profile}(h:ckS p=0):okR p:=by
 by_cases hr:okR p
 ·exact hr
 unfold ckS at h;simp only[hr,not_false_eq_true,if_true] at h;split at h<;>cases h
theorem bn_loop(d:T_api_Document)(hd:DocZ d)(hD:DocOK d)(p:T_api_Profile)(hp:okR p)(l:List Int)(hl:l.length≤1000)(tol:Int)(ht:0≤tol∧tol≤5184000):iter (g_repair_Bounds_s1 d p l tol) ([],0)=some (bnR d p l tol):=by
 have hn:=hD.num
 have hlz:d.Events.zipIdx.length=d.Events.length:=List.length_zipIdx
 refine iter_run (step:=g_repair_Bounds_s1 d p l tol) d.Events.zipIdx (by omega) (fun i (s:List T_api_Bound)=>(s,i)) (bnF d p l tol) .inr (fun i s=>s.length≤12 * i) (s0:=[]) (by simp) (fun i hi s hs=>?_) (fun s hs=>by unfold g_repair_Bounds_s1;dsimp only;rw[if_neg (by rw[hlz];simp)])
 have hi':i < d.Events.length:=by omega
 have hm:=List.getElem_mem hi'
 have hx:=hD.ev _ hm
 have hz:=hd.ev _ hm
 rw[show d.Events.zipIdx[i]=(d.Events[i],i) from by simp[List.getElem_zipIdx]]
 have hst:g_repair_Bounds_s1 d p l tol (s,(i:Int))=match bsE d p l tol i d.Events[i] with
   | .inl e=>some (.out (.inl e))
   | .inr bs=>some (.go (s++bs,(i:Int)+1)):=by
  unfold g_repair_Bounds_s1 bsE
  dsimp only
  rw[if_pos (by simpa using hi'),atI_nat hi',wr64 (x:=(i:Int)+1) (by omega)]
  simp only[Option.bind_some]
  generalize d.Events[i]=x at *
  rw[letS_eq x hz hx.runs]
  simp only[Option.bind_some]
  rw[(Needed_eq d.Rate (letS x) p.Reading hd.rate.1 hd.rate.2).1]
  simp only[Option.bind_some]
  have hnd:=needS_bd d.Rate (letS x) p.Reading hd.rate.1 hd.rate.2
  unfold okR at hp
  rw[if_pos (by omega),wr64 (x:=2 * (i:Int)) (by omega),wr64 (x:=2 * (i:Int)+2) (by omega),wr64 (x:=2 * (i:Int)+1) (by omega),wr64 (x:=0 - (needS d.Rate (letS x) p.Reading).1) (by omega),wr64 (x:=0 - p.MinFrames) (by omega),wr64 (x:=2 * (i:Int)+2+1) (by omega),wr64 (x:=0 - p.MinGap) (by omega)]
  simp only[Int.zero_sub]
  rw[bs2_eq p l hl s i (by omega) x _ (by simp;omega)]
  by_cases q1:(zoS l x.Span.In p).2=0
  ·simp only[q1,ne_eq,not_true_eq_false,if_false]
   by_cases q2:(zoS l x.Span.Out p).2=0
   ·simp only[q2,ne_eq,not_true_eq_false,if_false,Option.bind_some]
    rw[bs3_eq tol ht s i (by omega) x hx _ (by simp[bsZ];omega)]
    simp only[Option.bind_some]
    by_cases q3:i+1 < d.Events.length
    ·rw[if_pos (by simp;omega),show(i:Int)+1=((i+1:Nat):Int) by omega,atI_nat q3]
     simp only[Option.bind_some]
     rw[if_pos (by simp[bsZ,bsT];omega),List.getElem?_eq_getElem q3]
     simp only[bsG,bsA,show 2 * (i:Int)+2+1=2 * (i:Int)+3 by omega,List.append_assoc]
    ·rw[if_neg (by simp;omega),List.getElem?_eq_none (by omega)]
     simp only[bsG,bsA,List.append_assoc,List.append_nil]
   ·simp only[q2,ne_eq,not_false_eq_true,if_true];rfl
  ·simp only[q1,ne_eq,not_false_eq_true,if_true];rfl
 rw[hst]
 unfold bnF
 dsimp only
 cases hb:bsE d p l tol i d.Events[i] with
 | inl e=>exact .inl ⟨.inl e,rfl,rfl⟩
 | inr bs =>
  refine .inr ⟨s++bs,rfl,rfl,?_⟩
  have:=bsE_len hb
  simp
  omega
def dcS (d:T_api_Document):Int:=(g_document_Check d).getD 0
theorem dcS_eq(d:T_api_Document)(hd:DocZ d):g_document_Check d=some (dcS d)∧(dcS d=0→DocOK d):=by
 obtain⟨v,h1,h2⟩:=docCheck d hd;unfold dcS;rw[h1];exact⟨rfl,h2⟩
def ckB (d:T_api_Document)(p:T_api_Profile)(l:List Int)(tol:Int):Int :=
 if dcS d≠0 then dcS d else if ckS p≠0 then ckS p else if shC l≠0 then shC l else if tol < 0∨5184000 < tol then 2 else if 255 < (d.Events.length:Int) then 9 else 0
structure TaskZ(d:T_api_Document)(p:T_api_Profile)(l:List Int):Prop where
 doc:DocZ d
 name:p.Name.length≤1048576
 forb:p.Forbidden.length≤1048576
 shots:l.length≤1000
theorem check_eq{d:T_api_Document}{p:T_api_Profile}{l:List Int}(h:TaskZ d p l)(tol:Int):g_repair_check d p l tol=some (ckB d p l tol):=by
 unfold g_repair_check ckB;rw[(dcS_eq d h.doc).1,prog_Check p h.name h.forb,shC_eq l h.shots];simp only[Option.bind_some,bne_iff_ne];by_cases h1:dcS d=0
 ·simp only[h1,ne_eq,not_true_eq_false,if_false];by_cases h2:ckS p=0
  ·simp only[h2,ne_eq,not_true_eq_false,if_false];by_cases h3:shC l=0
   ·simp only[h3,ne_eq,not_true_eq_false,if_false];by_cases h4:tol < 0
    ·simp[h4]
    by_cases h5:5184000 < tol
    ·simp[h4,h5]
    simp only[h4,h5,decide_false,Bool.false_eq_true,if_false,Option.bind_some,or_self,decide_eq_true_eq];split<;>rfl
   simp only[h3,ne_eq,not_false_eq_true,if_true]
  simp only[h2,ne_eq,not_false_eq_true,if_true]
 simp only[h1,ne_eq,not_false_eq_true,if_true]
def bnS (d:T_api_Document)(p:T_api_Profile)(l:List Int)(tol:Int):List T_api_Bound × Int :=
 if ckB d p l tol≠0 then([],ckB d p l tol) else(bnR d p l tol).elim (fun e=>([],e)) (fun bs=>(bs,0))
theorem ckB_0{d:T_api_Document}{p:T_api_Profile}{l:List Int}{tol:Int}(h:ckB d p l tol=0):dcS d=0∧ckS p=0∧shC l=0∧(0≤tol∧tol≤5184000)∧d.Events.length≤255:=by
 unfold ckB at h;split at h
 ·exact absurd h ‹_›
 split at h
 ·exact absurd h ‹_›
 split at h
 ·exact absurd h ‹_›
 split at h
 ·cases h
 split at h
 ·cases h
 omega
theorem bounds_eq{d:T_api_Document}{p:T_api_Profile}{l:List Int}(h:TaskZ d p l)(tol:Int):g_repair_Bounds d p l tol=some (bnS d p l tol):=by
 unfold g_repair_Bounds bnS;rw[check_eq h];simp only[Option.bind_some];by_cases h1:ckB d p l tol=0
 ·rw[if_neg (by rw[bne_iff_ne];exact fun q=>q h1),if_neg (fun q=>q h1)];obtain⟨a,b,c,e,f⟩:=ckB_0 h1;rw[bn_loop d h.doc ((dcS_eq d h.doc).2 a) p (okR_of b) l h.shots tol e];simp only[Option.bind_some];cases bnR d p l tol<;>rfl
 rw[if_pos (by rw[bne_iff_ne];exact h1),if_pos h1]
theorem runF_all{α:Type}{F:List T_api_Bound→α→(Int ⊕ List T_api_Bound) ⊕ List T_api_Bound}{P:T_api_Bound→Prop}{Q:α→Prop}(hF:∀ s a s',Q a→F s a=.inr s'→(∀ b ∈ s,P b)→∀ b ∈ s',P b)(hF2:∀ s a e,F s a=.inl e→∃ v,e=.inl v):∀ (L:List α) (s bs:List T_api_Bound),(∀ a ∈ L,Q a)→runF F .inr s L=.inr bs→(∀ b ∈ s,P b)→∀ b ∈ bs,P b
 | [],s,bs,_,h,hs=>by cases h;exact hs
 | a::L,s,bs,hQ,h,hs=>by
  simp only[runF] at h
  cases hf:F s a with
  | inl e =>
   rw[hf] at h
   obtain⟨v,rfl⟩:=hF2 s a e hf
   cases h
  | inr s' =>
   rw[hf] at h
   exact runF_all hF hF2 L s' bs (fun a ha=>hQ a (by simp[ha])) h (hF s a s' (hQ a (by simp)) hf hs)
theorem runF_len{α:Type}{F:List T_api_Bound→α→(Int ⊕ List T_api_Bound) ⊕ List T_api_Bound}(hF:∀ s a s',F s a=.inr s'→s'.length≤s.length+12)(hF2:∀ s a e,F s a=.inl e→∃ v,e=.inl v):∀ (L:List α) (s bs:List T_api_Bound),runF F .inr s L=.inr bs→bs.length≤s.length+12 * L.length
 | [],s,bs,h=>by cases h;simp
 | a::L,s,bs,h=>by
  simp only[runF] at h
  cases hf:F s a with
  | inl e =>
   rw[hf] at h
   obtain⟨v,rfl⟩:=hF2 s a e hf
   cases h
  | inr s' =>
   rw[hf] at h
   have h1:=runF_len hF hF2 L s' bs h
   have h2:=hF s a s' hf
   simp only[List.length_cons]
   omega
theorem bnF_inl{d:T_api_Document}{p:T_api_Profile}{l:List Int}{tol:Int}{s:List T_api_Bound}{a:T_api_Event × Nat}{e:Int ⊕ List T_api_Bound}(h:bnF d p l tol s a=.inl e):∃ v,e=.inl v:=by
 unfold bnF at h;split at h
 ·cases h;exact⟨_,rfl⟩
 cases h
theorem bnF_inr{d:T_api_Document}{p:T_api_Profile}{l:List Int}{tol:Int}{s s':List T_api_Bound}{a:T_api_Event × Nat}(h:bnF d p l tol s a=.inr s'):∃ bs,bsE d p l tol a.2 a.1=.inr bs∧s'=s++bs:=by
 unfold bnF at h;split at h
 ·cases h
 rename_i bs hb;cases h;exact⟨bs,hb,rfl⟩
theorem bnR_ok{d:T_api_Document}{p:T_api_Profile}{l:List Int}(h:TaskZ d p l){tol:Int}(hc:ckB d p l tol=0){bs:List T_api_Bound}(hb:bnR d p l tol=.inr bs):BdsOK (2 * d.Events.length+1) bs:=by
 obtain⟨a,b,c,e,f⟩:=ckB_0 hc
 have hD:=(dcS_eq d h.doc).2 a
 have hp:=okR_of b
 have hlz:d.Events.zipIdx.length=d.Events.length:=List.length_zipIdx
 have hlen:=runF_len (fun s a s' hf=>by
  obtain⟨bs,hb,rfl⟩:=bnF_inr hf
  have:=bsE_len hb
  simp;omega) (fun s a e hf=>bnF_inl hf) _ _ _ hb
 simp only[List.length_nil,hlz] at hlen
 refine⟨by omega,by omega,by omega,?_⟩
 refine runF_all (F:=bnF d p l tol) (P:=fun b=>0≤b.I∧b.I < ((2 * d.Events.length+1:Nat):Int)∧0≤b.J∧b.J < ((2 * d.Events.length+1:Nat):Int)∧-1099511627776≤b.C∧b.C≤1099511627776) (Q:=fun a:T_api_Event × Nat=>a.2 < d.Events.length∧EvOK a.1∧(a.2+1=d.Events.length→d.Events[a.2+1]? = none)) ?_ (fun s a e hf=>bnF_inl hf) d.Events.zipIdx [] bs (fun a ha=>?_) hb (by simp)
 ·rintro s ⟨x,i⟩ s' ⟨hi,hx,_⟩ hf hs
  obtain⟨b1,hb1,rfl⟩:=bnF_inr hf
  intro b hbm
  rcases List.mem_append.1 hbm with hbm|hbm
  ·exact hs b hbm
  ·dsimp only at hi hx hb1
   have hsp:=hx.span
   have hnd:=needS_bd d.Rate (letS x) p.Reading h.doc.rate.1 h.doc.rate.2
   unfold okR at hp
   unfold bsE at hb1
   split at hb1
   ·cases hb1
   ·rename_i q1
    split at hb1
    ·cases hb1
    ·rename_i q2
     cases hb1
     have z1:=zoS_bd l h.shots x.Span.In p (by omega)
     have z2:=zoS_bd l h.shots x.Span.Out p (by omega)
     simp only[bsA,bsZ,bsT,List.mem_append,List.mem_cons,List.not_mem_nil,or_false] at hbm
     rcases hbm with(((rfl|rfl|rfl)|(rfl|rfl)|rfl|rfl)|(rfl|rfl)|rfl|rfl)|hg
     all_goals first|(dsimp only;omega)|skip
     by_cases q3:i+1 < d.Events.length
     ·rw[List.getElem?_eq_getElem q3] at hg
      simp only[bsG,List.mem_singleton] at hg
      subst hg
      dsimp only
      omega
     ·rw[List.getElem?_eq_none (by omega)] at hg
      simp[bsG] at hg
 ·obtain⟨j,hj,rfl⟩:=List.getElem_of_mem ha
  have hj':j < d.Events.length:=by omega
  rw[show d.Events.zipIdx[j]=(d.Events[j],j) from by simp[List.getElem_zipIdx]]
  exact⟨hj',hD.ev _ (List.getElem_mem hj'),fun q=>List.getElem?_eq_none (by dsimp only;omega)⟩
theorem bsE_t{d:T_api_Document}{p:T_api_Profile}{l:List Int}{i:Nat}{x:T_api_Event}(t t':Int){bs:List T_api_Bound}(h:bsE d p l t i x=.inr bs):∃ bs',bsE d p l t' i x=.inr bs':=by
 unfold bsE at h ⊢;split at h
 ·cases h
 rename_i q1
 rw[if_neg q1];split at h
 ·cases h
 rename_i q2
 rw[if_neg q2];exact⟨_,rfl⟩
theorem bnR_t{d:T_api_Document}{p:T_api_Profile}{l:List Int}(t t':Int):∀ (L:List (T_api_Event × Nat)) (s s' bs:List T_api_Bound),runF (bnF d p l t) .inr s L=.inr bs→∃ bs',runF (bnF d p l t') (Sum.inr:_→Int ⊕ List T_api_Bound) s' L=.inr bs'
 | [],s,s',bs,h=>⟨s',rfl⟩
 | a::L,s,s',bs,h=>by
  simp only[runF] at h ⊢
  cases hf:bnF d p l t s a with
  | inl e =>
   rw[hf] at h
   obtain⟨v,rfl⟩:=bnF_inl hf
   cases h
  | inr s1 =>
   rw[hf] at h
   obtain⟨b1,hb1,rfl⟩:=bnF_inr hf
   obtain⟨b2,hb2⟩:=bsE_t t t' hb1
   have:bnF d p l t' s' a=.inr (s'++b2):=by unfold bnF;rw[hb2]
   rw[this]
   exact bnR_t t t' L _ _ bs h
def bnT (d:T_api_Document)(p:T_api_Profile)(l:List Int)(t:Int):List T_api_Bound:=(bnR d p l t).elim (fun _=>[]) id
structure Good(d:T_api_Document)(p:T_api_Profile)(l:List Int):Prop where
 z:TaskZ d p l
 dc:dcS d=0
 pc:ckS p=0
 sc:shC l=0
 num:d.Events.length≤255
 bn:∀ t,∃ bs,bnR d p l t=.inr bs
theorem good_of{d:T_api_Document}{p:T_api_Profile}{l:List Int}(h:TaskZ d p l){tol:Int}(h0:(bnS d p l tol).2=0):Good d p l∧0≤tol∧tol≤5184000:=by
 have hc:ckB d p l tol=0:=by
  by_cases q:ckB d p l tol=0
  ·exact q
  ·unfold bnS at h0;rw[if_pos q] at h0;exact h0
 obtain⟨a,b,c,e,f⟩:=ckB_0 hc
 refine⟨⟨h,a,b,c,f,fun t=>?_⟩,e⟩
 have:∃ bs,bnR d p l tol=.inr bs:=by
  cases hb:bnR d p l tol with
  | inr bs=>exact⟨bs,rfl⟩
  | inl e0 =>
   unfold bnS at h0
   rw[if_neg (fun q=>q hc),hb] at h0
   have h1:e0=0:=h0
   exfalso
   have key:∀ (L:List (T_api_Event × Nat)) (s:List T_api_Bound) (v:Int),runF (bnF d p l tol) .inr s L=.inl v→v≠0:=by
    intro L
    induction L with
    | nil=>intro s v hv;cases hv
    | cons a L ih =>
     intro s v hv
     simp only[runF] at hv
     cases hf:bnF d p l tol s a with
     | inl e =>
      rw[hf] at hv
      simp only at hv
      subst hv
      unfold bnF bsE at hf
      split at hf
      ·rename_i e2 hs
       split at hs
       ·rename_i q;cases hs;cases hf;exact q
       ·split at hs
        ·rename_i q;cases hs;cases hf;exact q
        ·cases hs
      ·cases hf
     | inr s1=>rw[hf] at hv;exact ih _ _ hv
   exact key _ _ _ hb h1
 obtain⟨bs,hb⟩:=this
 exact bnR_t tol t _ _ _ bs hb
theorem Good.ck{d:T_api_Document}{p:T_api_Profile}{l:List Int}(g:Good d p l){t:Int}(ht:0≤t∧t≤5184000):ckB d p l t=0:=by
 unfold ckB;rw[if_neg (fun q=>q g.dc),if_neg (fun q=>q g.pc),if_neg (fun q=>q g.sc),if_neg (by omega),if_neg (by have:=g.num;omega)]
theorem Good.bs{d:T_api_Document}{p:T_api_Profile}{l:List Int}(g:Good d p l){t:Int}(ht:0≤t∧t≤5184000):bnS d p l t=(bnT d p l t,0)∧BdsOK (2 * d.Events.length+1) (bnT d p l t):=by
 obtain⟨bs,hb⟩:=g.bn t;have hT:bnT d p l t=bs:=by unfold bnT;rw[hb];rfl
 refine⟨?_,by rw[hT];exact bnR_ok g.z (g.ck ht) hb⟩;unfold bnS;rw[if_neg (fun q=>q (g.ck ht)),hb,hT];rfl
def okT (d:T_api_Document)(p:T_api_Profile)(l:List Int)(t:Int):Prop:=NoNeg (· ∈ eds (bnT d p l t))
theorem numN(d:T_api_Document)(h:d.Events.length≤255):IntKind.i64.wrap (IntKind.i64.wrap (2 * (d.Events.length:Int))+1)=((2 * d.Events.length+1:Nat):Int):=by
 rw[wr64 (x:=2 * (d.Events.length:Int)) (by omega),wr64 (by omega)];omega
theorem plan1_eq{d:T_api_Document}{p:T_api_Profile}{l:List Int}(g:Good d p l){t:Int}(ht:0≤t∧t≤5184000) :
  (okT d p l t∧g_repair_Plan_1 t d p l ((2 * d.Events.length+1:Nat):Int)=some (sol (2 * d.Events.length+1) (bnT d p l t),true))∨(¬ okT d p l t∧g_repair_Plan_1 t d p l ((2 * d.Events.length+1:Nat):Int)=some ([],false)):=by
 obtain⟨h1,h2⟩:=g.bs ht
 unfold g_repair_Plan_1
 rw[bounds_eq g.z,h1]
 simp only[Option.bind_some]
 rcases solve_eq h2 with⟨a,b⟩|⟨a,out,b,_⟩
 ·rw[b];exact .inl ⟨a,rfl⟩
 ·rw[b];exact .inr ⟨a,rfl⟩
theorem mid_eq{i j:Nat}(h:i+j≤10368000):IntKind.i64.wrap (Int.fdiv (IntKind.u64.wrap (IntKind.i64.wrap ((i:Int)+(j:Int)))) 2)=(((i+j) / 2:Nat):Int):=by
 rw[wr64 (x:=(i:Int)+j) (by omega)]
 have hu:IntKind.u64.wrap ((i:Int)+(j:Int))=(i:Int)+(j:Int):=by
  show((i:Int)+(j:Int)) % 18446744073709551616=_
  omega
 rw[hu,Int.fdiv_eq_ediv_of_nonneg _ (by omega),wr64 (by omega)]
 omega
theorem search_eq{d:T_api_Document}{p:T_api_Profile}{l:List Int}(g:Good d p l){tol:Int}(ht:0≤tol∧tol≤5184000)(hok:okT d p l tol) :
  ∃ r:Int,g_sort_Search tol d p l ((2 * d.Events.length+1:Nat):Int)=some r∧0≤r∧r≤tol∧okT d p l r∧(r=0∨¬ okT d p l (r - 1)):=by
 obtain⟨T,rfl⟩:=Int.eq_ofNat_of_zero_le ht.1
 obtain⟨r,hr,hp⟩:=iter_post (step:=g_sort_Search_s1 d p l ((2 * d.Events.length+1:Nat):Int)) (fun x=>∃ i j:Nat,x=((i:Int),(j:Int))∧i≤j∧j≤T∧okT d p l (j:Int)∧((i:Int)=0∨¬ okT d p l ((i:Int) - 1))) (fun x=>(x.2 - x.1).toNat) (fun r=>0≤r∧r≤(T:Int)∧okT d p l r∧(r=0∨¬ okT d p l (r - 1))) (x:=(0,(T:Int))) ⟨0,T,rfl,by omega,by omega,hok,.inl rfl⟩ (by dsimp only;omega) (by
  rintro x ⟨i,j,rfl,h1,h2,h3,h4⟩
  unfold g_sort_Search_s1
  dsimp only
  by_cases q:i < j
  ·left
   rw[if_pos (by simpa using q),mid_eq (by omega)]
   have hm1:i≤(i+j) / 2:=by omega
   have hm2:(i+j) / 2 < j:=by omega
   generalize (i+j) / 2=m at hm1 hm2
   unfold g_repair_Plan_2
   rcases plan1_eq g (t:=(m:Int)) ⟨by omega,by omega⟩ with⟨a,b⟩|⟨a,b⟩
   ·rw[b]
    simp only[Option.bind_some,if_true]
    exact⟨_,rfl,⟨i,m,rfl,hm1,by omega,a,h4⟩,by dsimp only;omega⟩
   ·rw[b]
    simp only[Option.bind_some,Bool.false_eq_true,if_false]
    rw[wr64 (x:=(m:Int)+1) (by omega)]
    exact⟨_,rfl,⟨m+1,j,by simp,by omega,h2,h3,.inr (by rw[show((m+1:Nat):Int) - 1=(m:Int) by omega];exact a)⟩,by dsimp only;omega⟩
  ·right
   rw[if_neg (by simpa using q)]
   obtain rfl:i=j:=by omega
   exact⟨_,rfl,by omega,by omega,h3,h4⟩)
 unfold g_sort_Search
 rw[hr]
 exact⟨r,rfl,hp⟩
def bAt (bs:List T_api_Bound)(i:Int):T_api_Bound:=bs.getD i.toNat ⟨0,0,0,0,0,0⟩
theorem pl1_eq(r7:List T_api_Bound × Int)(x:List Int)(out:List Int)(e:Int)(ho:out.length≤1000)(hi:∀ i ∈ out,0≤i∧i < (r7.1.length:Int)):iter (g_repair_Plan_s1 r7 (x,out,e)) (0,[])=some (out.map (bAt r7.1)):=by
 have:=iter_run (step:=g_repair_Plan_s1 r7 (x,out,e)) out (by omega) (fun i (s:List T_api_Bound)=>(i,s)) (fun s i=>.inr (s++[bAt r7.1 i])) id (fun i s=>s.length=i) (s0:=[]) rfl
  (fun i hi' s hs=>.inr ⟨_,rfl,by
   have hq:=hi _ (List.getElem_mem hi')
   unfold g_repair_Plan_s1
   dsimp only
   rw[if_pos (by simpa using hi'),atI_nat hi',wr64 (x:=(i:Int)+1) (by omega)]
   simp only[Option.bind_some]
   generalize out[i]=k at hq
   obtain⟨k,rfl⟩:=Int.eq_ofNat_of_zero_le hq.1
   have hk:k < r7.1.length:=by omega
   rw[atI_nat hk]
   simp only[Option.bind_some]
   rw[if_pos (by omega),show bAt r7.1 (k:Int)=r7.1[k] from by simp[bAt,List.getD,hk]],by simp[hs]⟩)
  (fun s hs=>by unfold g_repair_Plan_s1;dsimp only;rw[if_neg (by simp)];rfl)
 have hid:∀ (t:List Int) (s:List T_api_Bound),runF (fun(s:List T_api_Bound) (i:Int)=>(.inr (s++[bAt r7.1 i]):List T_api_Bound ⊕ List T_api_Bound)) id s t=s++t.map (bAt r7.1):=by
  intro t
  induction t with
  | nil=>intro s;simp[runF]
  | cons a t ih=>intro s;simp only[runF];rw[ih];simp
 rw[hid,List.nil_append] at this
 exact this
def spS (x:List Int)(i:Nat):T_api_Span:=⟨x.getD (2 * i+1) 0 - x.getD 0 0,x.getD (2 * i+2) 0 - x.getD 0 0⟩
def shF (x:List Int)(s:List T_api_Shift)(a:T_api_Event × Nat):List T_api_Shift:=if(spS x a.2).In≠a.1.Span.In∨(spS x a.2).Out≠a.1.Span.Out then s++[⟨a.1.ID,(spS x a.2).In,(spS x a.2).Out⟩] else s
def shS (d:T_api_Document)(x:List Int):List T_api_Shift:=runF (fun s a=>.inr (shF x s a)) id [] d.Events.zipIdx
theorem shF_len(x:List Int)(s:List T_api_Shift)(a:T_api_Event × Nat):(shF x s a).length≤s.length+1:=by unfold shF;split<;>simp
theorem shS_len(d:T_api_Document)(x:List Int):(shS d x).length≤d.Events.length:=by
 have:∀ (t:List (T_api_Event × Nat)) (s:List T_api_Shift),(runF (fun(s:List T_api_Shift) a=>(.inr (shF x s a):List T_api_Shift ⊕ List T_api_Shift)) id s t).length≤s.length+t.length:=by
  intro t
  induction t with
  | nil=>intro s;simp[runF]
  | cons a t ih =>
   intro s
   simp only[runF]
   have h1:=ih (shF x s a)
   have h2:=shF_len x s a
   simp only[List.length_cons]
   omega
 have h:=this d.Events.zipIdx []
 simp only[List.length_nil,List.length_zipIdx,Nat.zero_add] at h
 exact h
theorem pl2_eq{d:T_api_Document}(hn:d.Events.length≤255){x:List Int}{b:Bool}{K:Int}(hK:K≤2100000)(hx:Bd (2 * d.Events.length+1) K x):iter (g_repair_Plan_s2 d (x,b)) (0,[])=some (shS d x):=by
 have hlz:d.Events.zipIdx.length=d.Events.length:=List.length_zipIdx
 refine iter_run (step:=g_repair_Plan_s2 d (x,b)) d.Events.zipIdx (by omega) (fun i (s:List T_api_Shift)=>(i,s)) (fun s a=>.inr (shF x s a)) id (fun i s=>s.length≤i) (s0:=[]) (by simp)
  (fun i hi s hs=>.inr ⟨_,rfl,?_,by have:=shF_len x s d.Events.zipIdx[i];omega⟩)
  (fun s hs=>by unfold g_repair_Plan_s2;dsimp only;rw[if_neg (by rw[hlz];simp)];rfl)
 have hi':i < d.Events.length:=by omega
 rw[show d.Events.zipIdx[i]=(d.Events[i],i) from by simp[List.getElem_zipIdx]]
 have hl:=hx.1
 have h1:=hx.2 (2 * i+1) (by omega)
 have h2:=hx.2 (2 * i+2) (by omega)
 have h0:=hx.2 0 (by omega)
 unfold g_repair_Plan_s2 shF spS
 dsimp only
 rw[if_pos (by simpa using hi'),atI_nat hi',wr64 (x:=(i:Int)+1) (by omega),wr64 (x:=2 * (i:Int)) (by omega),wr64 (x:=2 * (i:Int)+1) (by omega),wr64 (x:=2 * (i:Int)+2) (by omega),atI_getD (k:=2 * (i:Int)+1) (by omega) (by omega),atI_getD (k:=0) (by omega) (by omega),atI_getD (k:=2 * (i:Int)+2) (by omega) (by omega)]
 simp only[Option.bind_some]
 rw[show(2 * (i:Int)+1).toNat=2 * i+1 by omega,show(2 * (i:Int)+2).toNat=2 * i+2 by omega,show(0:Int).toNat=0 from rfl]
 generalize x.getD (2 * i+1) 0=a1 at *
 generalize x.getD (2 * i+2) 0=a2 at *
 generalize x.getD 0 0=a0 at *
 rw[wr64 (x:=a1 - a0) (by omega),wr64 (x:=a2 - a0) (by omega)]
 have hc:(s.length+1) * 24≤140737488355328:=by omega
 by_cases q1:a1 - a0=d.Events[i].Span.In
 ·by_cases q2:a2 - a0=d.Events[i].Span.Out
  ·simp[q1,q2]
  ·simp[q1,q2,hc]
 ·simp[q1,hc]
theorem sol_bd{n:Nat}{l:List T_api_Bound}(hl:BdsOK n l):Bd n (((n - 1:Nat):Int) * 4000) (sol n l):=rnds_bd hl (n - 1)
theorem plan_eq{d:T_api_Document}{p:T_api_Profile}{l:List Int}(h:TaskZ d p l)(hn:d.Events.length≤19)(tol:Int) :
  ((bnS d p l tol).2≠0∧g_repair_Plan d p l tol=some (⟨docN,[],0,[]⟩,(bnS d p l tol).2)) ∨
  (Good d p l∧(0≤tol∧tol≤5184000)∧¬ okT d p l tol∧∃ out,g_repair_Plan d p l tol=some (⟨docN,[],0,out.map (bAt (bnT d p l tol))⟩,16)∧(out=[]∨∃ k,0 < k∧k≤2 * d.Events.length+1∧Least (· ∈ eds (bnT d p l tol)) k∧CfOK (bnT d p l tol) k out)) ∨
  (Good d p l∧(0≤tol∧tol≤5184000)∧okT d p l tol∧∃ r:Int,0≤r∧r≤tol∧okT d p l r∧(r=0∨¬ okT d p l (r - 1))∧∃ A:T_api_Document × Int,g_repair_Apply d (shS d (sol (2 * d.Events.length+1) (bnT d p l r)))=some A∧g_repair_Plan d p l tol=some (⟨A.1,shS d (sol (2 * d.Events.length+1) (bnT d p l r)),r,[]⟩,A.2)):=by
 unfold g_repair_Plan
 rw[bounds_eq h]
 simp only[Option.bind_some]
 by_cases h0:(bnS d p l tol).2=0
 ·obtain⟨g,ht⟩:=good_of h h0
  obtain⟨h1,h2⟩:=g.bs ht
  have hcd:g_document_Check d=some 0:=by rw[(dcS_eq d h.doc).1,g.dc]
  have hD:=(dcS_eq d h.doc).2 g.dc
  rw[h1]
  simp only[bne_self_eq_false,Bool.false_eq_true,if_false]
  rw[numN d g.num]
  rcases solve_eq h2 with⟨a,b⟩|⟨a,out,b,hout⟩
  ·right;right
   rw[b]
   simp only[Option.bind_some,bne_self_eq_false,Bool.false_eq_true,if_false]
   obtain⟨r,hr,r0,r1,r2,r3⟩:=search_eq g ht a
   rw[hr]
   simp only[Option.bind_some]
   have hrr:0≤r∧r≤5184000:=by omega
   rcases plan1_eq g hrr with⟨c1,c2⟩|⟨c1,c2⟩
   ·rw[c2]
    simp only[Option.bind_some]
    obtain⟨k1,k2⟩:=g.bs hrr
    have hsb:=sol_bd k2
    rw[pl2_eq g.num (by omega) hsb]
    simp only[Option.bind_some]
    have hsl:=shS_len d (sol (2 * d.Events.length+1) (bnT d p l r))
    obtain⟨A,hA⟩:∃ A,g_repair_Apply d (shS d (sol (2 * d.Events.length+1) (bnT d p l r)))=some A:=by
     rcases apply_eq d h.doc hcd hD hn (shS d (sol (2 * d.Events.length+1) (bnT d p l r))) (by omega) with⟨e,_,q⟩|⟨ev,r,_,q,_⟩<;>exact⟨_,q⟩
    rw[hA]
    exact⟨g,ht,a,r,r0,r1,r2,r3,A,hA,rfl⟩
   ·exact absurd r2 c1
  ·right;left
   rw[b]
   simp only[Option.bind_some]
   rw[if_pos (by decide)]
   have hidx:out.length≤1000∧∀ i ∈ out,0≤i∧i < ((bnT d p l tol).length:Int):=by
    rcases hout with rfl|⟨k,k0,k1,_,hc⟩
    ·simp
    ·exact⟨by rw[hc.len];have:=g.num;omega,hc.idx⟩
   rw[pl1_eq (bnT d p l tol,0) [] out 16 hidx.1 hidx.2]
   exact⟨g,ht,a,out,rfl,hout⟩
 ·left
  rw[if_pos (by rw[bne_iff_ne];exact h0)]
  exact⟨h0,rfl⟩
theorem Wlk.chain{p:Ed→Prop}{u v:Nat}{L:List Ed}(h:Wlk p u v L):(∀ i (hi:i+1 < L.length),L[i+1].i=L[i].j)∧(∀ h0:0 < L.length,L[0].i=u∧(L[L.length - 1]'(by omega)).j=v):=by
 induction h with
 | nil u=>exact⟨fun i hi=>by simp at hi,fun h0=>by simp at h0⟩
 | @cons e v L he hw ih =>
  refine⟨fun i hi=>?_,fun _=>⟨rfl,?_⟩⟩
  ·cases i with
   | zero =>
    simp only[List.length_cons] at hi
    simpa using(ih.2 (by omega)).1
   | succ i=>simpa using ih.1 i (by simpa using hi)
  ·by_cases hL:L=[]
   ·subst hL;simpa using hw.nil_eq
   ·have hpos:=List.length_pos_iff.2 hL
    have:=(ih.2 hpos).2
    simp only[List.length_cons,Nat.add_sub_cancel]
    rw[List.getElem_cons]
    rw[dif_neg (by omega)]
    exact this
def cfl (bs:List T_api_Bound)(out:List Int):List T_api_Bound:=out.map (bAt bs)
theorem bAt_mem{bs:List T_api_Bound}{i:Int}(h:0≤i∧i < (bs.length:Int)):bAt bs i ∈ bs:=by
 obtain⟨i,rfl⟩:=Int.eq_ofNat_of_zero_le h.1;have hi:i < bs.length:=by omega
 simp[bAt,List.getD,hi]
theorem ed_bAt{bs:List T_api_Bound}{i:Int}(h:0≤i∧i < (bs.length:Int)):eAt bs i=ed (bAt bs i):=by
 obtain⟨i,rfl⟩:=Int.eq_ofNat_of_zero_le h.1;have hi:i < bs.length:=by omega
 rw[eAt_nat hi];simp[bAt,List.getD,hi]
theorem cfl_eds{bs:List T_api_Bound}{out:List Int}(h:∀ i ∈ out,0≤i∧i < (bs.length:Int)):eds (cfl bs out)=out.map (eAt bs):=by
 unfold eds cfl;rw[List.map_map];exact List.map_congr_left fun i hi=>(ed_bAt (h i hi)).symm
theorem cfl_ok{n:Nat}{bs:List T_api_Bound}(hb:BdsOK n bs){out:List Int}(h:∀ i ∈ out,0≤i∧i < (bs.length:Int))(hl:out.length≤4000):BdsOK n (cfl bs out) :=
 ⟨hb.n1,hb.n2,by unfold cfl;simpa using hl,fun b hm=>by
  obtain⟨i,hi,rfl⟩:=List.mem_map.1 hm
  exact hb.bd _ (bAt_mem (h i hi))⟩
theorem sumE_take{L:List Ed}{i:Nat}(h:i < L.length):sumE (L.take (i+1))=sumE (L.take i)+L[i].c:=by
 rw[List.take_succ_eq_append_getElem h,sumE_app];simp[sumE]
theorem refutes_eq{n:Nat}{l:List T_api_Bound}(hl:BdsOK n l)(h0:0 < l.length)(hn:l.length≤n){u:Nat}(hw:Wlk (· ∈ eds l) u u (eds l))(hs:sumE (eds l) < 0):g_diffcon_Refutes n l ((List.range l.length).map Int.ofNat)=some 0:=by
 have hn2:=hl.n2
 have hol:((List.range l.length).map Int.ofNat).length=l.length:=by simp
 have hat:∀ i,i < l.length→atI ((List.range l.length).map Int.ofNat) (i:Int)=some (i:Int):=fun i hi=>by
  rw[atI_nat (by rw[hol];exact hi)]
  simp
 have hel:(eds l).length=l.length:=List.length_map ..
 have heg:∀ i (hi:i < l.length),(eds l)[i]'(by rw[hel];exact hi)=ed l[i]:=fun i hi=>by simp[eds]
 obtain⟨hc1,hc2⟩:=hw.chain
 obtain⟨hf,hla⟩:=hc2 (by omega)
 have hb:∀ i (hi:i < l.length),_:=fun i hi=>hl.bd l[i] (List.getElem_mem hi)
 unfold g_diffcon_Refutes
 rw[dcCheck_eq hl]
 simp only[Option.bind_some,hol,bne_self_eq_false,Bool.false_eq_true,if_false]
 have a1:((l.length:Int) == 0)=false:=by simp;intro h;subst h;simp at h0
 have a2:¬ (n:Int) < (l.length:Int):=by omega
 simp only[a1,a2,decide_false,Bool.false_eq_true,if_false,Option.bind_some]
 obtain⟨e,he,rfl⟩:=iter_cnt (step:=g_diffcon_Refutes_s1 l ((List.range l.length).map Int.ofNat)) l.length (by omega) (fun _=>True) (fun e=>e=.inr ()) trivial (fun i hi _=>by
  unfold g_diffcon_Refutes_s1
  rw[if_pos (by rw[hol];simpa using hi),hat i hi,wr64 (x:=(i:Int)+1) (by omega)]
  simp only[Option.bind_some]
  have b1:¬ (i:Int) < 0:=by omega
  have b2:¬ (l.length:Int)≤(i:Int):=by omega
  simp only[b1,b2,decide_false,Bool.false_eq_true,if_false]
  exact .inl ⟨by first|rfl|trivial,trivial⟩) (fun _=>by
  unfold g_diffcon_Refutes_s1
  exact⟨_,by rw[if_neg (by rw[hol];simp)],rfl⟩)
 rw[he]
 simp only[Option.bind_some]
 rw[wr64 (by omega),show((l.length:Int) - 1)=((l.length - 1:Nat):Int) by omega,hat _ (by omega)]
 simp only[Option.bind_some]
 rw[atI_nat (show l.length - 1 < l.length by omega)]
 simp only[Option.bind_some]
 have hsb:∀ i,i≤l.length→-(4000 * 1099511627776)≤sumE ((eds l).take i)∧sumE ((eds l).take i)≤4000 * 1099511627776:=by
  intro i hi
  have:=sumE_bd hl.cc ((eds l).take i) (fun e he=>List.mem_of_mem_take he)
  have h2:((eds l).take i).length≤4000:=by rw[List.length_take];have:=hl.len;omega
  have h3:((((eds l).take i).length:Nat):Int) * 1099511627776≤4000 * 1099511627776:=Int.mul_le_mul_of_nonneg_right (by omega) (by decide)
  omega
 have key:iter (g_diffcon_Refutes_s2 l ((List.range l.length).map Int.ofNat)) ((l[l.length - 1]'(by omega)).J,0,0)=some (.inr (sumE (eds l))):=by
  refine iter_of (fun x e=>∃ i:Nat,x.2.2=(i:Int)∧i≤l.length∧x.2.1=sumE ((eds l).take i)∧(∀ hi:i < l.length,x.1=l[i].I)∧e=.inr (sumE (eds l))) (fun x=>l.length - x.2.2.toNat) ?_ (x:=((l[l.length - 1]'(by omega)).J,0,0)) ⟨0,rfl,by omega,rfl,fun hi=>?_,rfl⟩ (by dsimp only;omega)
  ·rintro⟨at_,sum,x⟩ e ⟨i,h1,hi,h2,h3,rfl⟩
   dsimp only at h1 h2 h3
   subst h1 h2
   unfold g_diffcon_Refutes_s2
   dsimp only
   by_cases h:i < l.length
   ·left
    have hs1:=hsb (i+1) (by omega)
    rw[sumE_take (by rw[hel];exact h),heg i h] at hs1
    have hs2:-9223372036854775808≤sumE ((eds l).take i)+l[i].C∧sumE ((eds l).take i)+l[i].C≤9223372036854775807:=by
     have e:(ed l[i]).c=l[i].C:=rfl
     rw[e] at hs1
     omega
    rw[if_pos (by rw[hol];simpa using h),hat i h,wr64 (x:=(i:Int)+1) (by omega)]
    simp only[Option.bind_some]
    rw[atI_nat h]
    simp only[Option.bind_some]
    rw[h3 h,if_neg (by simp),wr64 (x:=sumE ((eds l).take i)+l[i].C) hs2]
    refine⟨_,rfl,⟨i+1,by simp,by omega,?_,fun hi2=>?_,by first|rfl|trivial⟩,by dsimp only;omega⟩
    ·dsimp only
     rw[sumE_take (by rw[hel];exact h),heg i h]
     rfl
    ·dsimp only
     have:=hc1 i (by rw[hel];exact hi2)
     rw[heg i h,heg (i+1) hi2] at this
     unfold ed at this
     simp only at this
     have p1:=hb i h
     have p2:=hb (i+1) hi2
     omega
   ·right
    obtain rfl:i=l.length:=by omega
    rw[if_neg (by rw[hol];simp),show(eds l).take l.length=eds l from by rw[← hel];exact List.take_length ..]
  ·have p1:=hb 0 h0
   have p2:=hb (l.length - 1) (by omega)
   rw[heg 0 h0] at hf
   have hq:(eds l)[(eds l).length - 1]'(by omega)=ed (l[l.length - 1]'(by omega)):=by simp[eds]
   rw[hq] at hla
   unfold ed at hf hla
   simp only at hf hla
   dsimp only
   omega
 rw[key]
 simp only[Option.bind_some]
 rw[if_neg (by simpa using hs)]
theorem nodup_len{α:Type}:∀ (L M:List α),L.Nodup→(∀ x ∈ L,x ∈ M)→L.length≤M.length
 | [],M,_,_=>Nat.zero_le _
 | a::L,M,hd,hs=>by
  classical
  have ha:a ∈ M:=hs a (by simp)
  rw[List.nodup_cons] at hd
  have ih:=nodup_len L (M.erase a) hd.2 fun x hx=>by
   have hne:x≠a:=fun e=>hd.1 (e ▸ hx)
   exact(List.mem_erase_of_ne hne).2 (hs x (by simp[hx]))
  rw[List.length_erase_of_mem ha] at ih
  have:=List.length_pos_of_mem ha
  simp only[List.length_cons]
  omega
theorem nodup_map{α β:Type}(f:α→β):∀ L:List α,(L.map f).Nodup→L.Nodup
 | [],_=>List.nodup_nil
 | a::L,h=>by
  rw[List.map_cons,List.nodup_cons] at h
  exact List.nodup_cons.2 ⟨fun ha=>h.1 (List.mem_map.2 ⟨a,ha,rfl⟩),nodup_map f L h.2⟩
theorem cyc_least{p:Ed→Prop}:∀ (k:Nat),Cyc p k→∃ m,Cyc p m∧Least p m:=by
 intro k
 induction k using Nat.strongRecOn with
 | _ k ih =>
  intro h
  by_cases hl:Least p k
  ·exact⟨k,h,hl⟩
  ·obtain⟨j,hj⟩:=Classical.not_forall.1 hl
   obtain⟨hjk,hc⟩:=Classical.not_imp.1 hj
   exact ih j hjk (Classical.not_not.1 hc)
theorem few_noneg{p:Ed→Prop}{M:List Ed}{k:Nat}(hl:Least p k)(hs:∀ e ∈ M,p e)(hlen:M.length < k):NoNeg (· ∈ M):=by
 intro u L w;refine Classical.byContradiction fun hneg=>?_;have hc:Cyc (· ∈ M) L.length:=⟨u,L,w,rfl,by omega⟩;obtain⟨m,⟨v,K,wk,hk,hkn⟩,hm⟩:=cyc_least _ hc;have hnd:=cyc_simple (p:=(· ∈ M)) (by rw[hk];exact hm) wk hkn;have hKd:K.Nodup:=nodup_map _ _ hnd;have hKM:∀ e ∈ K,e ∈ M:=wk.mem;have h1:=nodup_len K M hKd hKM;refine hl m (by omega) ⟨v,K,wk.mono fun e he _=>hs e (hKM e he),hk,hkn⟩
open Go.RowKit
def g_strings_Contains2(s t:List UInt8):Option Bool:=if s.length < 4294967281 then some (Lib.contains s t) else none
theorem a_strings_Contains2(I:World→Prop)(hI:Stab I)(hShp:∀ w,I w→Shp w)(s t:List UInt8){r:Bool}(h:g_strings_Contains2 s t=some r):AFun Tryz.prog I 241 [.str s,.str t] (.bool r):=by
 obtain⟨hs,h⟩:=ite_on h
 obtain rfl:=Option.some.inj h
 refine AFun.of_calls (v:=.bool (Lib.contains s t)) (by kernel_rfl) (fun w F=>.bool _) ?_
 intro w F args hIw _ hl hr
 match args,hl with
 | [v,u],_ =>
  obtain⟨rfl,_⟩:=rep_str1 (hr 0 v _ rfl rfl)
  obtain⟨rfl,_⟩:=rep_str1 (hr 1 u _ rfl rfl)
  obtain⟨m,hm⟩:=hShp w hIw
  refine(Tryz.strings_Contains ⟨s.toArray⟩ ⟨t.toArray⟩ m w (by simpa[ByteArray.size] using hs) hm).mono ?_
  rintro e w' ⟨rfl,rfl⟩
  exact⟨rfl,Below.refl _ _⟩
theorem a_Join(I:World→Prop)(l:List (List UInt8))(sep:List UInt8)(hne:l≠[])(h1:l.length≤140737488355328)(h2:(Lib.join l sep).length≤140737488355328):AFun Tryz.prog I 55 [.sl (l.map D.str),.str sep] (.str (Lib.join l sep)):=by
 refine AFun.of_calls (v:=.string ⟨(Lib.join l sep).toArray⟩) (by kernel_rfl) (fun w F=>.str _ (by unfold maxLen;omega)) ?_
 intro w F args hI hfb hl hr
 match args,hl with
 | [v1,v2],_ =>
  obtain⟨rfl,_⟩:=rep_str1 (hr 1 v2 _ rfl rfl)
  have hv:=hr 0 v1 _ rfl rfl
  generalize hxs:l.map D.str=xs at hv
  cases hv with
  | sl0 A c hm=>exact absurd (List.map_eq_nil_iff.1 hxs) hne
  | sl b off k c _ vals hc hm hk hlv hone hF hcell hrep =>
   subst hxs
   rw[flat_strs] at hlv hrep
   have hpos:0 < vals.length:=by rw[hlv,List.length_map];exact List.length_pos_iff.2 hne
   have hb:b < w.heap.size:=hfb b (off+0) (hF 0 hpos)
   have hmm:(l.map fun s=>(⟨s.toArray⟩:ByteArray)).map (·.data.toList)=l:=by rw[List.map_map];exact List.map_id'' (fun s=>by simp) l
   have:=Tryz.strings_Join b off c (l.map fun s=>(⟨s.toArray⟩:ByteArray)) ⟨sep.toArray⟩ w (fun j x hx=>by
    simp only[List.getElem?_map] at hx
    cases hj:l[j]? with
    | none=>rw[hj] at hx;simp at hx
    | some s =>
     rw[hj] at hx
     simp at hx
     subst hx
     have hjl:j < vals.length:=by rw[hlv,List.length_map];exact(List.getElem?_eq_some_iff.1 hj).1
     have hv:=hrep j _ (.str s) (List.getElem?_eq_getElem hjl) (by simp[hj])
     obtain⟨hv,_⟩:=rep_str1 hv
     rw[hcell j _ (List.getElem?_eq_getElem hjl),hv]) hb (by simpa using h1) (by simpa using hc) (by rw[hmm];exact h2)
   rw[hmm] at this
   simpa using this
def g_strings_Join(l:List (List UInt8))(sep:List UInt8):Option (List UInt8):=if l.length≤140737488355328∧(Lib.join l sep).length≤140737488355328 then some (Lib.join l sep) else none
theorem a_strings_Join(I:World→Prop)(hI:Stab I)(l:List (List UInt8))(sep:List UInt8){r:List UInt8}(h:g_strings_Join l sep=some r):AFun Tryz.prog I 55 [.sl (l.map D.str),.str sep] (.str r):=by
 unfold g_strings_Join at h
 obtain⟨hc,h⟩:=ite_on h
 obtain rfl:=Option.some.inj h
 by_cases hne:l=[]
 ·subst hne
  refine AFun.of_calls (v:=.string ⟨#[]⟩) (by kernel_rfl) (fun w F=>?_) ?_
  ·have:(Lib.join ([]:List (List UInt8)) sep)=[]:=rfl
   rw[this]
   exact .str [] (by simp)
  ·intro w F args hI hfb hl hr
   match args,hl with
   | [v1,v2],_ =>
    obtain⟨rfl,_⟩:=rep_str1 (hr 1 v2 _ rfl rfl)
    have hv:=hr 0 v1 _ rfl rfl
    simp only[List.map_nil] at hv
    cases hv with
    | sl0 A c hm =>
     refine(Tryz.strings_Join_none A c _ w).mono ?_
     rintro e w' ⟨rfl,rfl⟩
     exact⟨rfl,Below.refl _ _⟩
    | sl b off k c _ vals hc hm hk hlv hone hF hcell hrep =>
     refine(Tryz.strings_Join_none _ c _ w).mono ?_
     rintro e w' ⟨rfl,rfl⟩
     exact⟨rfl,Below.refl _ _⟩
 ·exact a_Join I l sep hne hc.1 hc.2
abbrev Tab(w : World) : Prop := Lib.TabIs Tryz.prog w "internal/strconv.uint64pow10" .u64 Lib.pow10Tab
theorem gTab : Tryz.prog.globalNamed "internal/strconv.uint64pow10" = some 3 := by kernel_rfl
theorem tab_below_at{w w' : World}(h : Tab w)(hb : w'.heap[3]? = w.heap[3]?) : Tab w' := by
  unfold Tab Lib.TabIs World.var? at h ⊢
  rw [gTab] at h ⊢
  simp only [Option.bind_some] at h ⊢
  rw [hb]
  exact h
theorem tab_lt{w : World}(h : Tab w) : 3 < w.heap.size := by
  rcases Nat.lt_or_ge 3 w.heap.size with h1 | h1
  · exact h1
  · exfalso
    have h2 := h.cell gTab 0 (by decide)
    simp [World.cell?, Array.getElem?_eq_none h1] at h2
theorem tab_below{w w' : World}(h : Tab w)(hb : Below w.heap.size w w') : Tab w' := tab_below_at h (hb.block _ (tab_lt h))
def g_strconv_FormatInt(n b:Int):Option (List UInt8):=if b=10 then some (Lib.itoa n) else none
theorem a_strconv_FormatInt(I:World→Prop)(hI:Stab I)(hTab:∀ w,I w→Tab w)(n b:Int){r:List UInt8}(h:g_strconv_FormatInt n b=some r):AFun Tryz.prog I 160 [.int .i64 n,.int .i64 b] (.str r):=by
 obtain⟨rfl,h⟩:=ite_on h
 obtain rfl:=Option.some.inj h
 refine AFun.sized (by kernel_rfl) fun hz=>?_
 simp only[List.mem_cons,List.not_mem_nil,or_false,forall_eq_or_imp,forall_eq,Sz_i64] at hz
 obtain⟨⟨h0,h1⟩,_⟩:=hz
 refine AFun.of_calls (v:=.string ⟨(Lib.itoa n).toArray⟩) (by kernel_rfl) (fun w F=>.str _ (by have:=Lib.itoa_length_le n h0 h1;unfold maxLen;omega)) ?_
 intro w F args hIw _ hl hr
 match args,hl with
 | [v,u],_ =>
  obtain rfl:=rep_int1 (hr 0 v _ rfl rfl)
  obtain rfl:=rep_int1 (hr 1 u _ rfl rfl)
  refine(Tryz.strconv_FormatInt_10 n h0 h1 w (hTab w hIw)).mono ?_
  rintro e w' ⟨rfl,k,os,rfl⟩
  refine⟨rfl,rfl,rfl,rfl,?_,fun i hi=>?_⟩
  ·simp[Go.Sort.grow]
  ·simp[Go.Sort.grow,Array.getElem?_append,hi]
def PIv (w:World):Prop:=(∃ te pe,w.cell? ⟨4,0,none⟩=some (.iface te pe))∧∃ te pe,w.cell? ⟨5,0,none⟩=some (.iface te pe)
theorem stabPIv:Stab PIv:=fun _ _ ⟨⟨a,b,h⟩,⟨c,d,k⟩⟩ hb=>⟨⟨a,b,cell_below h hb⟩,⟨c,d,cell_below k hb⟩⟩
section
variable {P:Program}{I:World→Prop}{f:FuncId}{ds:List D}
theorem AFun.of_vals(he:enterable P f=true)(d:D)
  (h:∀ (w:World) (F:Nat→Nat→Prop) (args:List Value),I w→FB (cF F) w→args.length=ds.length→(∀ (i:Nat) v d,args[i]? = some v→ds[i]? = some d→Rep w (cF F) v d)→Calls P f args.toArray w fun e w'=>∃ v,e=.returned v∧Below w.heap.size w w'∧∀ F,Rep w' (cF F) v d):AFun P I f ds d:=by
 refine⟨he,fun w F args hI hfb hl hr=>?_⟩
 refine(h w F args hI hfb hl hr).mono ?_
 rintro e w' ⟨v,rfl,hb,hv⟩
 exact⟨v,F,rfl,hb,⟨fun _ _ h=>h,fun b o hF=>hb.block b (hfb b o hF),fun _ h=>h,fun _ _=>rfl⟩,fun b o hF=>Nat.lt_of_lt_of_le (hfb b o hF) hb.size,fun _ _ h=>.inl h,hv F⟩
end
theorem rep_tup2{w:World}{C:Cx}{u v:Value}{d e:D}(h:Rep w C u d)(k:Rep w C v e):Rep w C (.tuple #[u,v]) (.tup [d,e]):=by
 refine .tup [u,v] [d,e] rfl fun i x y hx hy=>?_
 match i,hx,hy with
 | 0,hx,hy=>simp at hx hy;subst hx hy;exact h
 | 1,hx,hy=>simp at hx hy;subst hx hy;exact k
 | (n+2),hx,hy=>simp at hx
def g_strings_CutPrefix(s p:List UInt8):Option (List UInt8 × Bool):=some (Lib.trimPrefix s p,Lib.hasPrefix s p)
theorem trimPrefix_len(s p:List UInt8):(Lib.trimPrefix s p).length≤s.length:=by
 unfold Lib.trimPrefix;split
 ·simp
 exact Nat.le_refl _
theorem a_strings_CutPrefix(I:World→Prop)(hI:Stab I)(s p:List UInt8){r:List UInt8 × Bool}(h:g_strings_CutPrefix s p=some r):AFun Tryz.prog I 189 [.str s,.str p] (.tup [.str r.1,.bool r.2]):=by
 obtain rfl:=Option.some.inj h
 refine AFun.of_vals (by kernel_rfl) _ ?_
 intro w F args hIw _ hl hr
 match args,hl with
 | [v,u],_ =>
  obtain⟨rfl,hs⟩:=rep_str1 (hr 0 v _ rfl rfl)
  obtain⟨rfl,_⟩:=rep_str1 (hr 1 u _ rfl rfl)
  refine(Tryz.strings_CutPrefix ⟨s.toArray⟩ ⟨p.toArray⟩ w).mono ?_
  rintro e w' ⟨rfl,rfl⟩
  exact⟨_,rfl,Below.refl _ _,fun F=>rep_tup2 (.str _ (by have:=trimPrefix_len s p;simpa using Nat.le_trans this hs)) (.bool _)⟩
def g_strconv_ParseInt(s:List UInt8)(b n:Int):Option (Int × Bool):=if b=10∧n=64∧s.length≤281474976710656 then(match Lib.parseIntB 64 s with
 | .ok v=>some (v,false)
 | .range=>some (Lib.intSat 64 s,true)
 | _=>some (0,true)) else none
theorem parseIntB_range(s:List UInt8)(v:Int)(h:Lib.parseIntB 64 s=.ok v):-9223372036854775808≤v∧v≤9223372036854775807:=by
 unfold Lib.parseIntB at h;split at h
 ·cases h
 simp only at h;split at h
 ·cases h
 ·cases h
 rename_i u _
 split at h
 ·cases h
 split at h
 ·cases h
 rename_i h1 h2
 injection h with h;subst h;split<;>simp_all<;>omega
theorem a_strconv_ParseInt(I:World→Prop)(hI:Stab I)(hPIv:∀ w,I w→PIv w)(s:List UInt8)(b n:Int){r:Int × Bool}(h:g_strconv_ParseInt s b n=some r):AFun Tryz.prog I 190 [.str s,.int .i64 b,.int .i64 n] (.tup [.int .i64 r.1,.err r.2]):=by
 unfold g_strconv_ParseInt at h
 replace h:=ite_on h
 obtain⟨hc,h⟩:=h
 obtain⟨rfl,rfl,h1⟩:=hc
 refine AFun.of_vals (by kernel_rfl) _ ?_
 intro w F args hIw _ hl hr
 match args,hl with
 | [v,u,x],_ =>
  obtain⟨rfl,hs⟩:=rep_str1 (hr 0 v _ rfl rfl)
  obtain rfl:=rep_int1 (hr 1 u _ rfl rfl)
  obtain rfl:=rep_int1 (hr 2 x _ rfl rfl)
  obtain⟨⟨ts,ps,hs1⟩,⟨tr,pr,hr1⟩⟩:=hPIv w hIw
  cases hp:Lib.parseIntB 64 s
  ·rename_i v
   rw[hp] at h
   obtain rfl:=Option.some.inj h
   refine(Tryz.strconv_ParseInt_10_at64_ok ⟨s.toArray⟩ (by simp[ByteArray.size];omega) v hp w).mono ?_
   rintro e w' ⟨rfl,hw⟩
   refine⟨_,rfl,?_,fun F=>rep_tup2 (.int _ _ (parseIntB_range s v hp)) .err0⟩
   rcases hw with rfl|⟨t,rfl⟩
   ·exact Below.refl _ _
   ·exact⟨rfl,rfl,rfl,by rw[Lib.bytesWorld_size];omega,fun j hj=>Lib.bytesWorld_at_old _ _ _ j hj⟩
  ·rw[hp] at h
   obtain rfl:=Option.some.inj h
   refine(Tryz.strconv_ParseInt_10_at64_syntax ⟨s.toArray⟩ (by simpa[ByteArray.size] using h1) hp _ w hs1 (.inr ⟨_,_,rfl⟩)).mono ?_
   rintro e w' ⟨N,rfl,_,_,hb⟩
   exact⟨_,rfl,hb,fun F=>rep_tup2 (.int _ _ (by decide)) (.err1 _ _)⟩
  ·rw[hp] at h
   obtain rfl:=Option.some.inj h
   refine(Tryz.strconv_ParseInt_10_at64_range ⟨s.toArray⟩ (by simpa[ByteArray.size] using h1) hp _ w hr1 (.inr ⟨_,_,rfl⟩)).mono ?_
   rintro e w' ⟨N,rfl,_,_,hb⟩
   exact⟨_,rfl,hb,fun F=>rep_tup2 (.int _ _ (by show inR _ (Lib.intSat 64 s);unfold Lib.intSat inR;split<;>simp[kLo,kHi])) (.err1 _ _)⟩
structure GX where
 i0:World
 w0:World
 C0:Cx
 B:Bx
 n0:Nat
 N:Nat
 hM:∀ k,B.M k→i0.heap.size≤k
 bI:Below i0.heap.size i0 w0
 fr:∀ id,n0≤id→id < N→¬ C0.live id
structure RX(I:World→Prop)(G:GX)(L:Nat→Prop)(S:AS)(C:Cx)(a:Act)(w:World):Prop where
 ok:StOK C w a G.B S
 inv:I G.i0
 below:BelM G.B.M G.w0 w
 new:∀ b o,C.F b o→G.C0.F b o∨G.B.M b
 ext:Ext G.C0 G.w0 C w
 defers:a.defers=[]
 size:a.tmps.size=S.nt
 live:∀ id,C.live id→G.C0.live id∨L id
theorem RX.belI{I:World→Prop}{G:GX}{L:Nat→Prop}{S:AS}{C:Cx}{a:Act}{w:World}(h:RX I G L S C a w):Below G.i0.heap.size G.i0 w :=
 ⟨h.below.os.trans G.bI.os,h.below.tape.trans G.bI.tape,h.below.output.trans G.bI.output,Nat.le_trans G.bI.size h.below.size,fun k hk =>
  (h.below.block k (Nat.lt_of_lt_of_le hk G.bI.size) (fun hm=>by have:=G.hM k hm;omega)).trans (G.bI.block k hk)⟩
def XOK (P:Program)(I:World→Prop)(f:FuncId)(ds:List D)(H:Nat→Option Blk)(n m:Nat)(d:D)(H':Nat→Option Blk):Prop :=
 enterable P f=true∧∀ (i0 w:World) (C:Cx) (B:Bx) (args:List Value),I i0→Below i0.heap.size i0 w→(∀ k,B.M k→i0.heap.size≤k)→HOK C w B H→FB C w→(∀ g,w.heap.size≤g→B.M g)→(∀ id,n≤id→id < m→¬ C.live id)→args.length=ds.length →
  (∀ (i:Nat) v d,args[i]? = some v→ds[i]? = some d→Rep w C v d) →
  Calls P f args.toArray w fun e w'=>∃ v C',e=.returned v∧BelM B.M w w'∧Ext C w C' w'∧Rep w' C' v d∧HOK C' w' B H'∧FB C' w'∧(∀ id,C'.live id→C.live id∨n≤id∧id < m)∧∀ b o,C'.F b o→C.F b o∨B.M b
theorem XOK.of{P:Program}{I:World→Prop}{f:FuncId}{ds:List D}{H:Nat→Option Blk}{n:Nat}{d:D}{eff:Eff}(h:CallOK P I f ds H n d eff):XOK P I f ds H n (n+1) d (appEff H eff):=by
 refine⟨h.1,fun i0 w C B args hI hb hM hH hF hB hfr hl hr=>?_⟩
 refine(h.2 i0 w C B args hI hb hM hH hF hB (hfr n (Nat.le_refl _) (by omega)) hl hr).mono ?_
 rintro e w' ⟨v,C',h1,h2,h3,h4,h5,h6,h7,h8⟩
 exact⟨v,C',h1,h2,h3,h4,h5,h6,fun j hl=>(h7 j hl).imp id fun h=>by omega,h8⟩
theorem XOK.pure{P:Program}{I:World→Prop}(hstab:Stab I){f:FuncId}{ds ds':List D}{H:Nat→Option Blk}{n:Nat}{d:D}{eff:Eff}(hp:purDs H ds=some (ds',eff))(h:AFun P I f ds' d):XOK P I f ds H n n d (appEff H eff):=by
 refine⟨h.1,fun i0 w C B args hI hb hM hH hF hB hfr hl hr=>?_⟩
 obtain⟨C1,hP,hvl,hvr⟩:=purDs_sound (w:=w) (B:=B) ds args C H ds' eff hH hF hl hr hp
 refine(h.2 w C1.F args (hstab _ _ hI hb) hP.fb hvl (fun i v d hv hd=>(hvr i v d hv hd).1)).mono ?_
 rintro e w' ⟨v,F',rfl,hb',hext,hfb,hnew,hrep⟩
 have he2:Ext C1 w ⟨F',C1.σ,C1.live⟩ w':=⟨hext.F,hext.blk,fun _ h=>h,fun _ _=>rfl⟩
 refine⟨v,⟨F',C1.σ,C1.live⟩,rfl,BelM.of hb',hP.ext.trans he2,hrep.ext ⟨fun _ _ h=>h,fun _ _ _=>rfl,fun _ h=>h.elim,fun _ h=>h.elim⟩,?_,hfb,fun id h=>.inl (by have:C1.live id:=h;rwa[hP.live] at this),fun b o h=>?_⟩
 ·refine⟨fun id b h=>?_,hP.ok.own,hP.ok.pin,fun id id' b b' h h' hne g hg hg'=>hP.ok.apart id id' b b' h h' hne g hg hg'⟩
  obtain⟨k1,k2⟩:=hP.ok.rep id b h
  refine⟨k1,k2.keep k1 he2 (fun g hg=>hb'.block g (k2.lt g hg).2) (fun g o hg ho=>?_)⟩
  rcases hnew g o ho with h1|h1
  ·exact h1
  ·have:=(k2.lt g hg).2;omega
 ·rcases hnew b o h with h1|h1
  ·exact hP.new b o h1
  ·exact .inr (hB b h1)
def StXZ (P:Program)(I:World→Prop)(ops:Array Oper)(o:Oper)(S:AS)(n m:Nat)(d:D)(H':Nat→Option Blk):Prop :=
 (awant ops S.env o=some false∧d=.undef∧H'=S.heap) ∨
 (awant ops S.env o=some true∧((∃ f ds,acallee S o.op=some (f,ds)∧XOK P I f ds S.heap n m d H') ∨
  (acallee S o.op=none∧∃ eff,n < m∧H'=appEff S.heap eff∧∀ (C:Cx) (a:Act) (w:World) (B:Bx),StOK C w a B S→¬ C.live n→OpOK P o a w C B S.heap n d eff)))
def AS.stepH(S:AS)(o:Oper)(d:D)(H':Nat→Option Blk):AS :=
 { S with env:=(match o.dst with|some t=>upd S.env t d|none=>S.env),heap:=H' }
section
variable {P:Program}{I:World→Prop}{G:GX}{L:Nat→Prop}{S:AS}{C:Cx}{a:Act}{w:World}{ops:Array Oper}{Q:Exit→Act→World→Prop}
theorem RX.next{C':Cx}{w':World}{o:Oper}{v:Value}{d:D}{H':Nat→Option Blk}{L':Nat→Prop}(hR:RX I G L S C a w)(hb:BelM G.B.M w w')(e:Ext C w C' w')(hr:Rep w' C' v d)(hH:HOK C' w' G.B H')(hF:FB C' w')
  (hn:∀ b o,C'.F b o→C.F b o∨G.B.M b) (hl:∀ id,C'.live id→C.live id∨L' id) (hL:∀ id,L id→L' id) (hd:∀ t,o.dst=some t→t < a.tmps.size):RX I G L' (S.stepH o d H') C' (a.put o.dst v) w' where
 ok:=⟨hR.ok.env.put e hr hd,hH,hF,fun g hg=>hR.ok.base g (Nat.le_trans hb.size hg)⟩
 inv:=hR.inv
 below:=hR.below.trans hb
 new:=fun b o h=>(hn b o h).elim (hR.new b o) .inr
 ext:=hR.ext.trans e
 defers:=by rw[put_defers];exact hR.defers
 size:=by rw[put_size];exact hR.size
 live:=fun j h=>(hl j h).elim (fun h=>(hR.live j h).imp id (hL j)) .inr
theorem wanted_repX(hR:RX I G L S C a w){o:Oper}{r:Bool}(hd:dstsOk ops S.nt=true)(h:awant ops S.env o=some r):Region.wanted o (yielded ops a.tmps)=r:=by
 unfold awant at h
 unfold Region.wanted
 cases hg:o.guard with
 | none=>rw[hg] at h;simpa using h
 | some jw =>
  obtain⟨j,want⟩:=jw
  rw[hg] at h
  simp only at h ⊢
  unfold yielded
  have hgd:gdst ops j=(ops[j]?).bind (fun o:Oper=>o.dst):=by unfold gdst;cases ops[j]?<;>rfl
  rw[hgd] at h
  cases hj:(ops[j]?).bind (fun o:Oper=>o.dst) with
  | none=>rw[hj] at h;simp at h;subst h;simp
  | some t =>
   rw[hj] at h
   simp only[Option.bind_some] at h ⊢
   exact yielded_rep hR.ok.env (by rw[hR.size];exact dstsOk_at hd hj) h
theorem stX_sound(hR:RX I G L S C a w)(hd:dstsOk ops S.nt=true){i n m:Nat}{o:Oper}(ho:ops[i]? = some o)(hn:∀ id,n≤id→id < m→¬ G.C0.live id∧¬ L id){d:D}{H':Nat→Option Blk}(h:StXZ P I ops o S n m d H'){K':Act→World→Prop}
  (hK:∀ C' a' w',RX I G (fun id=>L id∨n≤id∧id < m) (S.stepH o d H') C' a' w'→K' a' w'):wpOp P ops Q i K' a w:=by
 have hdst:∀ t,o.dst=some t→t < a.tmps.size:=fun t ht=>by rw[hR.size];exact dstsOk_at hd (j:=i) (by rw[ho];simpa using ht)
 have hfr:∀ id,n≤id→id < m→¬ C.live id:=fun id h1 h2 hl=>(hR.live id hl).elim (hn id h1 h2).1 (hn id h1 h2).2
 unfold wpOp
 rw[ho]
 simp only
 rcases h with⟨hw,rfl,rfl⟩|⟨hw,h⟩
 ·rw[wanted_repX hR hd hw]
  simp only[Bool.false_eq_true,if_false]
  exact hK C _ w (hR.next (BelM.refl _ _) (Ext.refl _ _) .undef hR.ok.heap hR.ok.fb (fun _ _ h=>.inl h) (fun id h=>.inl h) (fun id h=>.inl h) hdst)
 ·rw[wanted_repX hR hd hw]
  simp only[if_true]
  left
  rcases h with⟨f,ds,hc,hent,hA⟩|⟨hc,eff,hnm,rfl,hop⟩
  ·obtain⟨vs,hrun,hvl,hvr⟩:=callee_run (w:=w) hR.ok.env hc hent
   unfold Oper.wp
   rw[hrun]
   simp only[Oper.upon]
   refine(hA G.i0 w C G.B vs hR.inv hR.belI G.hM hR.ok.heap hR.ok.fb hR.ok.base hfr hvl hvr).mono ?_
   rintro e w' ⟨v,C',rfl,hb,hext,hrep,hH,hfb,hl,hnew⟩
   exact hK C' _ w' (hR.next (o:=o) hb hext hrep hH hfb hnew (fun id h=>(hl id h).imp (fun h=>h) .inr) (fun id h=>.inl h) hdst)
  ·obtain⟨nx,v,w',C',hrun,hnx,hb,hext,hrep,hH,hfb,hl,hnew⟩:=hop C a w G.B hR.ok (hfr n (Nat.le_refl _) hnm)
   unfold Oper.wp
   rw[hrun]
   have hrel:=hR.next (o:=o) (L':=fun id=>L id∨n≤id∧id < m) hb hext hrep hH hfb hnew (fun id h=>(hl id h).imp (fun h=>h) fun h=>.inr (by omega)) (fun id h=>.inl h) hdst
   rcases hnx with rfl|⟨rfl,rfl⟩
   ·exact hK C' _ w' hrel
   ·exact hK C' _ w' hrel
end
inductive Tr(α:Type) where
 | nil
 | node (l:Tr α) (v:Option α) (r:Tr α)
def Tr.get{α:Type}:Tr α→Nat→Option α
 | .nil,_=>none
 | .node l v r,n=>match n with
  | 0=>v
  | m+1=>match Nat.beq (m % 2) 0 with
   | true=>l.get (m / 2)
   | false=>r.get (m / 2)
def Tr.set{α:Type}:Nat→Tr α→Nat→Option α→Tr α
 | 0,t,_,_=>t
 | f+1,.nil,n,x=>match n with
  | 0=>.node .nil x .nil
  | m+1=>match Nat.beq (m % 2) 0 with
   | true=>.node (Tr.set f .nil (m / 2) x) none .nil
   | false=>.node .nil none (Tr.set f .nil (m / 2) x)
 | f+1,.node l v r,n,x=>match n with
  | 0=>.node l x r
  | m+1=>match Nat.beq (m % 2) 0 with
   | true=>.node (Tr.set f l (m / 2) x) v r
   | false=>.node l v (Tr.set f r (m / 2) x)
theorem Tr.get_set{α:Type}(x:Option α):∀ (f:Nat) (t:Tr α) (n k:Nat),n+1 < 2 ^ f→(Tr.set f t n x).get k=if k=n then x else t.get k
 | 0,t,n,k,h=>by simp at h
 | f+1,t,n,k,h=>by
  have ih:=Tr.get_set x f
  have hp:2 ^ (f+1)=2 * 2 ^ f:=by rw[Nat.pow_succ,Nat.mul_comm]
  cases t with
  | nil =>
   cases n with
   | zero =>
    cases k with
    | zero=>simp[Tr.set,Tr.get]
    | succ k=>simp only[Tr.set,Tr.get];split<;>simp[Tr.get]
   | succ m =>
    have hm:m / 2+1 < 2 ^ f:=by omega
    cases k with
    | zero=>simp only[Tr.set];split<;>simp[Tr.get]
    | succ j =>
     by_cases he:j=m
     ·subst he
      cases hb:Nat.beq (j % 2) 0<;>simp only[Tr.set,hb,Tr.get,ih _ _ _ hm,if_true]
     ·rw[if_neg (show ¬ j+1=m+1 by omega)]
      cases hb:Nat.beq (m % 2) 0<;>cases hc:Nat.beq (j % 2) 0<;>simp only[Tr.set,hb,Tr.get,hc,ih _ _ _ hm]
      ·have h1:=Nat.ne_of_beq_eq_false hb
       have h2:=Nat.ne_of_beq_eq_false hc
       rw[if_neg (by omega)]
      ·have h1:=Nat.eq_of_beq_eq_true hb
       have h2:=Nat.eq_of_beq_eq_true hc
       rw[if_neg (by omega)]
  | node l v r =>
   cases n with
   | zero =>
    cases k with
    | zero=>simp[Tr.set,Tr.get]
    | succ k=>simp only[Tr.set,Tr.get];split<;>simp
   | succ m =>
    have hm:m / 2+1 < 2 ^ f:=by omega
    cases k with
    | zero=>simp only[Tr.set];split<;>simp[Tr.get]
    | succ j =>
     by_cases he:j=m
     ·subst he
      cases hb:Nat.beq (j % 2) 0<;>simp only[Tr.set,hb,Tr.get,ih _ _ _ hm,if_true]
     ·rw[if_neg (show ¬ j+1=m+1 by omega)]
      cases hb:Nat.beq (m % 2) 0<;>cases hc:Nat.beq (j % 2) 0<;>simp only[Tr.set,hb,Tr.get,hc,ih _ _ _ hm]
      ·have h1:=Nat.ne_of_beq_eq_false hb
       have h2:=Nat.ne_of_beq_eq_false hc
       rw[if_neg (by omega)]
      ·have h1:=Nat.eq_of_beq_eq_true hb
       have h2:=Nat.eq_of_beq_eq_true hc
       rw[if_neg (by omega)]
def small(n:Nat):Bool:=Nat.blt n 1000000
theorem small_lt{n:Nat}(h:small n=true):n+1 < 2 ^ 20:=by
 unfold small at h
 rw[Nat.blt_eq] at h
 have:(2:Nat) ^ 20=1048576:=by decide
 omega
def putT {α:Type}(t:Tr α)(n:Nat)(x:Option α):Option (Tr α):=match small n with
 | true=>some (Tr.set 20 t n x)
 | false=>none
theorem putT_get{α:Type}{t t':Tr α}{n:Nat}{x:Option α}(h:putT t n x=some t')(k:Nat):t'.get k=if k=n then x else t.get k:=by
 unfold putT at h
 split at h
 ·rename_i hs
  simp only[Option.some.injEq] at h
  subst h
  exact Tr.get_set x 20 t n k (small_lt hs)
 ·cases h
def appTr(t:Tr Blk):Eff→Option (Tr Blk)
 | []=>some t
 | (id,b)::rest=>match putT t id b with
  | some t'=>appTr t' rest
  | none=>none
theorem appTr_get:∀ (eff:Eff) {t t':Tr Blk},appTr t eff=some t'→t'.get=appEff t.get eff
 | [],t,t',h=>by simp only[appTr,Option.some.injEq] at h;subst h;rfl
 | (id,b)::rest,t,t',h=>by
  simp only[appTr] at h
  cases h1:putT t id b with
  | none=>rw[h1] at h;cases h
  | some t1 =>
   rw[h1] at h
   simp only at h
   have h2:=appTr_get rest h
   rw[h2,appEff]
   congr 1
   funext k
   rw[putT_get h1]
   rfl
structure ES where
 env:Tr D
 heap:Tr Blk
 n:Nat
 lg:List Nat
def envT (t:Tr D)(k:Nat):D:=match t.get k with
 | some d=>d
 | none=>.any
def ES.as(s:ES)(nt:Nat):AS:=⟨envT s.env,s.heap.get,s.n,nt⟩
abbrev CallF:=FuncId→List D→Tr Blk→Nat→Option (D × Tr Blk × Nat × List Nat)
def putE (o:Oper)(s:ES)(d:D)(h:Tr Blk)(n:Nat)(l:List Nat):Option ES:=match o.dst with
 | some t=>match putT s.env t (some d) with
  | some e=>some ⟨e,h,n,l⟩
  | none=>none
 | none=>some ⟨s.env,h,n,l⟩
theorem putE_as{o:Oper}{s s':ES}{d:D}{h:Tr Blk}{n nt:Nat}{l:List Nat}(hp:putE o s d h n l=some s'):s'.as nt={ (s.as nt).stepH o d h.get with next:=n }∧s'.n=n∧s'.heap=h∧s'.lg=l:=by
 unfold putE at hp
 cases ho:o.dst with
 | none =>
  rw[ho] at hp
  simp only[Option.some.injEq] at hp
  subst hp
  exact⟨by simp[ES.as,AS.stepH,ho],rfl,rfl,rfl⟩
 | some t =>
  rw[ho] at hp
  simp only at hp
  cases h1:putT s.env t (some d) with
  | none=>rw[h1] at hp;cases hp
  | some e =>
   rw[h1] at hp
   simp only[Option.some.injEq] at hp
   subst hp
   refine⟨?_,rfl,rfl,rfl⟩
   simp only[ES.as,AS.stepH,ho]
   congr 1
   funext k
   unfold envT
   rw[putT_get h1]
   simp only[upd]
   by_cases hk:k=t
   ·rw[if_pos hk,if_pos hk]
   ·rw[if_neg hk,if_neg hk]
abbrev OpF:=Op→Nat→AS→Option (D × Eff)
def evO (E:OpF)(cf:CallF)(nt:Nat)(ops:Array Oper)(o:Oper)(s:ES):Option ES :=
 match awant ops (envT s.env) o with
 | none=>none
 | some false=>putE o s .undef s.heap s.n s.lg
 | some true=>match acallee (s.as nt) o.op with
  | some (f,ds)=>match cf f ds s.heap s.n with
   | some (d,h,n,l)=>putE o s d h n (l++s.lg)
   | none=>none
  | none=>match E o.op s.n (s.as nt) with
   | some (d,eff)=>match appTr s.heap eff with
    | some h=>putE o s d h (s.n+1) (eff.map (·.1)++s.lg)
    | none=>none
   | none=>none
def evOs (E:OpF)(cf:CallF)(nt:Nat)(ops:Array Oper):List Oper→ES→Option ES
 | [],s=>some s
 | o::l,s=>match evO E cf nt ops o s with
  | some s'=>evOs E cf nt ops l s'
  | none=>none
def evLoop(b:ES→Option (AExit × ES)):Nat→ES→Option (AExit × ES)
 | 0,_=>none
 | k+1,s=>match b s with
  | some (.normal,s')=>evLoop b k s'
  | r=>r
def evC (E:OpF)(cf:CallF)(df:Nat→Array Oper→ES→Option ES)(lf nt:Nat):Code→ES→Option (AExit × ES)
 | .skip,s=>some (.normal,s)
 | .label _,s=>some (.normal,s)
 | .region _ ops false,s=>match evOs E cf nt ops ops.toList s with
  | some s'=>some (.normal,s')
  | none=>none
 | .region _ ops true,s=>match df nt ops s with
  | some s'=>some (.normal,s')
  | none=>none
 | .seq x y,s=>match evC E cf df lf nt x s with
  | some (.normal,s')=>evC E cf df lf nt y s'
  | r=>r
 | .cond c x y,s=>match (s.as nt).val c with
  | .bool true=>evC E cf df lf nt x s
  | .bool false=>evC E cf df lf nt y s
  | _=>none
 | .block id c,s=>match evC E cf df lf nt c s with
  | some (.exit id',s')=>match Nat.beq id' id with
   | true=>some (.normal,s')
   | false=>some (.exit id',s')
  | r=>r
 | .exit id,s=>some (.exit id,s)
 | .ret,s=>some (.ret,s)
 | .loop c,s=>evLoop (evC E cf df lf nt c) lf s
 | _,_=>none
def argT:List D→Nat→Tr D→Option (Tr D)
 | [],_,t=>some t
 | d::ds,i,t=>match putT t i (some d) with
  | some t'=>argT ds (i+1) t'
  | none=>none
def evFn (P:Program)(E:OpF)(cf:CallF)(df:Nat→Array Oper→ES→Option ES)(lf:Nat):CallF:=fun f ds h n =>
 match P.funcs[f]? with
 | some fn=>match fn.body with
  | some c=>match (fn.name != "runtime.NumGoroutine")&&decide (ds.length≤fn.ntmps)&&codeOk fn.ntmps c,argT ds 0 .nil with
   | true,some e=>match evC E cf df lf fn.ntmps c ⟨e,h,n,[]⟩ with
    | some (.normal,s)=>match resD P (s.as fn.ntmps) fn.results.toList with
     | some rs=>some (mkRes rs,s.heap,s.n,s.lg)
     | none=>none
    | some (.ret,s)=>match resD P (s.as fn.ntmps) fn.results.toList with
     | some rs=>some (mkRes rs,s.heap,s.n,s.lg)
     | none=>none
    | _=>none
   | _,_=>none
  | none=>none
 | none=>none
def evF (P:Program)(E:OpF)(X:CallF)(df:CallF→Nat→Array Oper→ES→Option ES)(lf:Nat):Nat→CallF
 | 0=>fun _ _ _ _=>none
 | k+1=>fun f ds h n=>match X f ds h n with
  | some r=>some r
  | none=>evFn P E (evF P E X df lf k) (df (evF P E X df lf k)) lf f ds h n
def OpSound(P:Program)(E:OpF):Prop:=∀ (o:Oper) n S d eff,E o.op n S=some (d,eff)→∀ (C:Cx) (a:Act) (w:World) (B:Bx),StOK C w a B S→¬ C.live n→OpOK P o a w C B S.heap n d eff
def CallSound(P:Program)(I:World→Prop)(cf:CallF):Prop:=∀ f ds h n d h' m l,cf f ds h n=some (d,h',m,l)→n≤m∧XOK P I f ds h.get n m d h'.get∧∀ id,id ∉ l→h'.get id=h.get id
def Mo (s s':ES):Prop:=s.n≤s'.n∧∀ id,id ∉ s'.lg→id ∉ s.lg∧s'.heap.get id=s.heap.get id
theorem Mo.refl(s:ES):Mo s s:=⟨Nat.le_refl _,fun _ h=>⟨h,rfl⟩⟩
theorem Mo.trans{a b c:ES}(h:Mo a b)(k:Mo b c):Mo a c:=⟨Nat.le_trans h.1 k.1,fun id hi=>⟨(h.2 id (k.2 id hi).1).1,(k.2 id hi).2.trans (h.2 id (k.2 id hi).1).2⟩⟩
def Rg (n m:Nat):Nat→Prop:=fun id=>n≤id∧id < m
def DrawSound(P:Program)(I:World→Prop)(df:Nat→Array Oper→ES→Option ES):Prop:=∀ nt ops s s',df nt ops s=some s'→Mo s s'∧∀ (G:GX) (C:Cx) (a:Act) (w:World) (rid:Nat) (Q:Exit→Act→World→Prop),s'.n≤G.N→G.n0≤s.n→dstsOk ops nt=true →
 RX I G (Rg G.n0 s.n) (s.as nt) C a w→(∀ C' a' w',RX I G (Rg G.n0 s'.n) (s'.as nt) C' a' w'→Q .normal a' w')→(Code.region rid ops true).wp P Q a w
section
variable {P:Program}{I:World→Prop}{E:OpF}{cf:CallF}{df:Nat→Array Oper→ES→Option ES}{lf nt:Nat}{G:GX}{L:Nat→Prop}{C:Cx}{a:Act}{w:World}{ops:Array Oper}{Q:Exit→Act→World→Prop}
theorem RX.nx{S:AS}{n:Nat}(h:RX I G L S C a w):RX I G L { S with next:=n } C a w :=
 ⟨⟨h.ok.env,h.ok.heap,h.ok.fb,h.ok.base⟩,h.inv,h.below,h.new,h.ext,h.defers,h.size,h.live⟩
theorem RX.widen{S:AS}{L':Nat→Prop}(h:RX I G L S C a w)(hl:∀ id,L id→L' id):RX I G L' S C a w :=
 ⟨h.ok,h.inv,h.below,h.new,h.ext,h.defers,h.size,fun j hj=>(h.live j hj).imp (fun h=>h) (hl j)⟩
theorem evO_rel(hE:OpSound P E)(hcf:CallSound P I cf){o:Oper}{s s':ES}(h:evO E cf nt ops o s=some s'):Mo s s'∧∃ d H',StXZ P I ops o (s.as nt) s.n s'.n d H'∧s'.as nt={ (s.as nt).stepH o d H' with next:=s'.n }:=by
 unfold evO at h
 cases hw:awant ops (envT s.env) o with
 | none=>rw[hw] at h;cases h
 | some r =>
  rw[hw] at h
  cases r with
  | false =>
   simp only at h
   obtain⟨h1,h2,h3,h4⟩:=putE_as (nt:=nt) h
   refine⟨⟨by omega,fun id hi=>⟨by rw[h4] at hi;exact hi,by rw[h3]⟩⟩,_,_,.inl ⟨hw,rfl,rfl⟩,?_⟩
   rw[h2];exact h1
  | true =>
   simp only at h
   cases hc:acallee (s.as nt) o.op with
   | some fds =>
    obtain⟨f,ds⟩:=fds
    rw[hc] at h
    simp only at h
    cases hf:cf f ds s.heap s.n with
    | none=>rw[hf] at h;cases h
    | some r =>
     obtain⟨d,hh,m,l⟩:=r
     rw[hf] at h
     simp only at h
     obtain⟨h1,h2,k3,k4⟩:=putE_as (nt:=nt) h
     obtain⟨h3,h4,h5⟩:=hcf f ds s.heap s.n d hh m l hf
     refine⟨⟨by omega,fun id hi=>?_⟩,d,hh.get,.inr ⟨hw,.inl ⟨f,ds,hc,by rw[h2];exact h4⟩⟩,?_⟩
     ·rw[k4,List.mem_append] at hi
      exact⟨fun h=>hi (.inr h),by rw[k3];exact h5 id fun h=>hi (.inl h)⟩
     rw[h2];exact h1
   | none =>
    rw[hc] at h
    simp only at h
    cases he:E o.op s.n (s.as nt) with
    | none=>rw[he] at h;cases h
    | some r =>
     obtain⟨d,eff⟩:=r
     rw[he] at h
     simp only at h
     cases ha:appTr s.heap eff with
     | none=>rw[ha] at h;cases h
     | some hh =>
      rw[ha] at h
      simp only at h
      obtain⟨h1,h2,k3,k4⟩:=putE_as (nt:=nt) h
      refine⟨⟨by omega,fun id hi=>?_⟩,d,hh.get,.inr ⟨hw,.inr ⟨hc,eff,by omega,appTr_get eff ha,fun C a w B hS hn=>hE o _ _ d eff he C a w B hS hn⟩⟩,?_⟩
      ·rw[k4,List.mem_append] at hi
       refine⟨fun h=>hi (.inr h),?_⟩
       rw[k3,appTr_get eff ha]
       exact appEff_notin _ _ _ fun p hp he=>hi (.inl (List.mem_map.2 ⟨p,hp,he⟩))
      ·rw[h2];exact h1
theorem evOs_mono(hE:OpSound P E)(hcf:CallSound P I cf):∀ (l:List Oper) (s s':ES),evOs E cf nt ops l s=some s'→Mo s s'
 | [],s,s',h=>by simp only[evOs,Option.some.injEq] at h;subst h;exact Mo.refl _
 | o::l,s,s',h=>by
  simp only[evOs] at h
  cases h1:evO E cf nt ops o s with
  | none=>rw[h1] at h;cases h
  | some s1 =>
   rw[h1] at h
   exact(evO_rel hE hcf h1).1.trans (evOs_mono hE hcf l s1 s' h)
theorem evOs_sound(hE:OpSound P E)(hcf:CallSound P I cf)(hd:dstsOk ops nt=true)(s':ES)(hN:s'.n≤G.N)(hK:∀ C' a' w',RX I G (Rg G.n0 s'.n) (s'.as nt) C' a' w'→Q .normal a' w') :
  ∀ (rest:List Oper) (i:Nat) (s:ES) (C:Cx) (a:Act) (w:World),ops.toList.drop i=rest→evOs E cf nt ops rest s=some s'→G.n0≤s.n→RX I G (Rg G.n0 s.n) (s.as nt) C a w→wpOps P ops Q (List.range' i rest.length) a w:=by
 intro rest
 induction rest with
 | nil =>
  intro i s C a w _ h _ hR
  simp only[evOs,Option.some.injEq] at h
  subst h
  simp only[List.length_nil,List.range'_zero,wpOps]
  exact hK C a w hR
 | cons o rest ih =>
  intro i s C a w hdrop h hn0 hR
  have hoi:ops[i]? = some o:=by
   have:(ops.toList.drop i)[0]? = some o:=by rw[hdrop];rfl
   simpa using this
  have hdrop':ops.toList.drop (i+1)=rest:=by rw[← List.drop_drop,hdrop];rfl
  simp only[evOs] at h
  cases h1:evO E cf nt ops o s with
  | none=>rw[h1] at h;cases h
  | some s1 =>
   rw[h1] at h
   simp only at h
   obtain⟨⟨hm1,_⟩,d,H',hst,has⟩:=evO_rel hE hcf h1
   have hm2:=(evOs_mono hE hcf rest s1 s' h).1
   rw[List.length_cons,List.range'_succ,wpOps_cons]
   refine stX_sound hR hd hoi (fun id h1 h2=>⟨G.fr id (by omega) (by omega),fun h=>by unfold Rg at h;omega⟩) hst ?_
   intro C' a' w' hR'
   refine ih (i+1) s1 C' a' w' hdrop' h (by omega) ?_
   rw[has]
   exact(hR'.widen fun id hl=>by unfold Rg at *;omega).nx
def XX (I:World→Prop)(G:GX)(nt:Nat)(x:AExit)(s:ES)(e:Exit)(a:Act)(w:World):Prop :=
 ∃ C,RX I G (Rg G.n0 s.n) (s.as nt) C a w∧match x with
  | .normal=>e=.normal
  | .exit id=>e=.exit id
  | .ret=>e=.ret
  | .goto l=>e=.goto l
theorem evLoop_mono{b:ES→Option (AExit × ES)}(hb:∀ s x s',b s=some (x,s')→Mo s s'):∀ (k:Nat) (s:ES) (x:AExit) (s':ES),evLoop b k s=some (x,s')→Mo s s'
 | 0,_,_,_,h=>by cases h
 | k+1,s,x,s',h=>by
  simp only[evLoop] at h
  cases h1:b s with
  | none=>rw[h1] at h;cases h
  | some r =>
   obtain⟨x1,s1⟩:=r
   rw[h1] at h
   cases x1 with
   | normal=>exact(hb _ _ _ h1).trans (evLoop_mono hb k s1 x s' h)
   | exit id=>simp only[Option.some.injEq,Prod.mk.injEq] at h;rw[← h.2];exact hb _ _ _ h1
   | ret=>simp only[Option.some.injEq,Prod.mk.injEq] at h;rw[← h.2];exact hb _ _ _ h1
   | goto l=>simp only[Option.some.injEq,Prod.mk.injEq] at h;rw[← h.2];exact hb _ _ _ h1
theorem evC_mono(hE:OpSound P E)(hcf:CallSound P I cf)(hdf:DrawSound P I df):∀ (c:Code) (s:ES) (x:AExit) (s':ES),evC E cf df lf nt c s=some (x,s')→Mo s s':=by
 intro c
 induction c with
 | skip=>intro s x s' h;simp only[evC,Option.some.injEq,Prod.mk.injEq] at h;rw[h.2];exact Mo.refl _
 | label l=>intro s x s' h;simp only[evC,Option.some.injEq,Prod.mk.injEq] at h;rw[h.2];exact Mo.refl _
 | exit id=>intro s x s' h;simp only[evC,Option.some.injEq,Prod.mk.injEq] at h;rw[h.2];exact Mo.refl _
 | ret=>intro s x s' h;simp only[evC,Option.some.injEq,Prod.mk.injEq] at h;rw[h.2];exact Mo.refl _
 | region id ops dr =>
  intro s x s' h
  cases dr with
  | false =>
   simp only[evC] at h
   cases h1:evOs E cf nt ops ops.toList s with
   | none=>rw[h1] at h;cases h
   | some s1=>rw[h1] at h;simp only[Option.some.injEq,Prod.mk.injEq] at h;rw[← h.2];exact evOs_mono hE hcf _ _ _ h1
  | true =>
   simp only[evC] at h
   cases h1:df nt ops s with
   | none=>rw[h1] at h;cases h
   | some s1=>rw[h1] at h;simp only[Option.some.injEq,Prod.mk.injEq] at h;rw[← h.2];exact(hdf _ _ _ _ h1).1
 | seq c1 c2 ih1 ih2 =>
  intro s x s' h
  simp only[evC] at h
  cases h1:evC E cf df lf nt c1 s with
  | none=>rw[h1] at h;cases h
  | some r =>
   obtain⟨x1,s1⟩:=r
   rw[h1] at h
   cases x1 with
   | normal=>exact(ih1 _ _ _ h1).trans (ih2 _ _ _ h)
   | exit id=>simp only[Option.some.injEq,Prod.mk.injEq] at h;rw[← h.2];exact ih1 _ _ _ h1
   | ret=>simp only[Option.some.injEq,Prod.mk.injEq] at h;rw[← h.2];exact ih1 _ _ _ h1
   | goto l=>simp only[Option.some.injEq,Prod.mk.injEq] at h;rw[← h.2];exact ih1 _ _ _ h1
 | cond c c1 c2 ih1 ih2 =>
  intro s x s' h
  simp only[evC] at h
  split at h
  ·exact ih1 _ _ _ h
  ·exact ih2 _ _ _ h
  ·cases h
 | block id c ih =>
  intro s x s' h
  simp only[evC] at h
  split at h
  ·rename_i id' s1 h1
   split at h
   ·simp only[Option.some.injEq,Prod.mk.injEq] at h;rw[← h.2];exact ih _ _ _ h1
   ·simp only[Option.some.injEq,Prod.mk.injEq] at h;rw[← h.2];exact ih _ _ _ h1
  ·exact ih _ _ _ h
 | loop c ih =>
  intro s x s' h
  simp only[evC] at h
  exact evLoop_mono ih _ _ _ _ h
 | rangeFunc f ps x y ihx ihy=>intro s x s' h;cases h
 | scope b ih=>intro s x s' h;cases h
 | goto l=>intro s x s' h;cases h
 | refuse why=>intro s x s' h;cases h
theorem evC_sound(hE:OpSound P E)(hcf:CallSound P I cf)(hdf:DrawSound P I df):∀ (c:Code) (s:ES) (x:AExit) (s':ES) (C:Cx) (a:Act) (w:World),codeOk nt c=true→evC E cf df lf nt c s=some (x,s')→s'.n≤G.N→G.n0≤s.n→RX I G (Rg G.n0 s.n) (s.as nt) C a w→c.wp P (XX I G nt x s') a w:=by
 intro c
 induction c with
 | skip=>intro s x s' C a w hok h hN hn hR;simp only[evC,Option.some.injEq,Prod.mk.injEq] at h;obtain⟨rfl,rfl⟩:=h;exact wp_skip ⟨C,hR,rfl⟩
 | label l=>intro s x s' C a w hok h hN hn hR;simp only[evC,Option.some.injEq,Prod.mk.injEq] at h;obtain⟨rfl,rfl⟩:=h;exact wp_label ⟨C,hR,rfl⟩
 | exit id=>intro s x s' C a w hok h hN hn hR;simp only[evC,Option.some.injEq,Prod.mk.injEq] at h;obtain⟨rfl,rfl⟩:=h;exact wp_exit ⟨C,hR,rfl⟩
 | ret=>intro s x s' C a w hok h hN hn hR;simp only[evC,Option.some.injEq,Prod.mk.injEq] at h;obtain⟨rfl,rfl⟩:=h;exact wp_ret ⟨C,hR,rfl⟩
 | region id ops dr =>
  intro s x s' C a w hok h hN hn hR
  cases dr with
  | false =>
   simp only[evC] at h
   cases h1:evOs E cf nt ops ops.toList s with
   | none=>rw[h1] at h;cases h
   | some s1 =>
    rw[h1] at h
    simp only[Option.some.injEq,Prod.mk.injEq] at h
    obtain⟨rfl,rfl⟩:=h
    refine wp_region ?_
    rw[List.range_eq_range']
    have:=evOs_sound (Q:=XX I G nt .normal s1) hE hcf hok s1 hN (fun C' a' w' hr=>⟨C',hr,rfl⟩) ops.toList 0 s C a w (by simp) h1 hn hR
    simpa using this
  | true =>
   simp only[evC] at h
   cases h1:df nt ops s with
   | none=>rw[h1] at h;cases h
   | some s1 =>
    rw[h1] at h
    simp only[Option.some.injEq,Prod.mk.injEq] at h
    obtain⟨rfl,rfl⟩:=h
    exact(hdf _ _ _ _ h1).2 G C a w id _ hN hn hok hR fun C' a' w' hr=>⟨C',hr,rfl⟩
 | seq c1 c2 ih1 ih2 =>
  intro s x s' C a w hok h hN hn hR
  simp only[evC] at h
  simp only[codeOk,Bool.and_eq_true] at hok
  cases h1:evC E cf df lf nt c1 s with
  | none=>rw[h1] at h;cases h
  | some r =>
   obtain⟨x1,s1⟩:=r
   rw[h1] at h
   have hm1:=(evC_mono hE hcf hdf c1 s x1 s1 h1).1
   cases x1 with
   | normal =>
    have hm2:=(evC_mono hE hcf hdf c2 s1 x s' h).1
    refine wp_seq (wp_mono (ih1 s .normal s1 C a w hok.1 h1 (by omega) hn hR) ?_)
    rintro e a' w' ⟨C',hR',rfl⟩
    simp only[Exit.then]
    exact ih2 s1 x s' C' a' w' hok.2 h hN (by omega) hR'
   | exit id =>
    simp only[Option.some.injEq,Prod.mk.injEq] at h
    obtain⟨rfl,rfl⟩:=h
    refine wp_seq (wp_mono (ih1 s _ s1 C a w hok.1 h1 hN hn hR) ?_)
    rintro e a' w' ⟨C',hR',rfl⟩
    exact⟨C',hR',rfl⟩
   | ret =>
    simp only[Option.some.injEq,Prod.mk.injEq] at h
    obtain⟨rfl,rfl⟩:=h
    refine wp_seq (wp_mono (ih1 s _ s1 C a w hok.1 h1 hN hn hR) ?_)
    rintro e a' w' ⟨C',hR',rfl⟩
    exact⟨C',hR',rfl⟩
   | goto l =>
    simp only[Option.some.injEq,Prod.mk.injEq] at h
    obtain⟨rfl,rfl⟩:=h
    refine wp_seq (wp_mono (ih1 s _ s1 C a w hok.1 h1 hN hn hR) ?_)
    rintro e a' w' ⟨C',hR',rfl⟩
    exact⟨C',hR',rfl⟩
 | cond c c1 c2 ih1 ih2 =>
  intro s x s' C a w hok h hN hn hR
  simp only[evC] at h
  simp only[codeOk,Bool.and_eq_true] at hok
  have hc:=hR.ok.env.val c
  split at h
  ·rename_i hv
   rw[hv] at hc
   generalize hu:a.eval c=u at hc
   cases hc
   refine wp_cond hu ?_
   simp only[if_true]
   exact ih1 s x s' C a w hok.1 h hN hn hR
  ·rename_i hv
   rw[hv] at hc
   generalize hu:a.eval c=u at hc
   cases hc
   refine wp_cond hu ?_
   simp only[Bool.false_eq_true,if_false]
   exact ih2 s x s' C a w hok.2 h hN hn hR
  ·cases h
 | block id c ih =>
  intro s x s' C a w hok h hN hn hR
  simp only[evC] at h
  cases h1:evC E cf df lf nt c s with
  | none=>rw[h1] at h;cases h
  | some r =>
   obtain⟨x1,s1⟩:=r
   rw[h1] at h
   cases x1 with
   | exit id' =>
    simp only at h
    cases hb:Nat.beq id' id with
    | true =>
     rw[hb] at h
     simp only[Option.some.injEq,Prod.mk.injEq] at h
     obtain⟨rfl,rfl⟩:=h
     refine wp_block (wp_mono (ih s _ s1 C a w hok h1 hN hn hR) ?_)
     rintro e a' w' ⟨C',hR',rfl⟩
     simp only[Exit.inBlock,Nat.eq_of_beq_eq_true hb,if_true]
     exact⟨C',hR',rfl⟩
    | false =>
     rw[hb] at h
     simp only[Option.some.injEq,Prod.mk.injEq] at h
     obtain⟨rfl,rfl⟩:=h
     refine wp_block (wp_mono (ih s _ s1 C a w hok h1 hN hn hR) ?_)
     rintro e a' w' ⟨C',hR',rfl⟩
     simp only[Exit.inBlock,if_neg (Nat.ne_of_beq_eq_false hb)]
     exact⟨C',hR',rfl⟩
   | normal =>
    simp only[Option.some.injEq,Prod.mk.injEq] at h
    obtain⟨rfl,rfl⟩:=h
    refine wp_block (wp_mono (ih s _ s1 C a w hok h1 hN hn hR) ?_)
    rintro e a' w' ⟨C',hR',rfl⟩
    exact⟨C',hR',rfl⟩
   | ret =>
    simp only[Option.some.injEq,Prod.mk.injEq] at h
    obtain⟨rfl,rfl⟩:=h
    refine wp_block (wp_mono (ih s _ s1 C a w hok h1 hN hn hR) ?_)
    rintro e a' w' ⟨C',hR',rfl⟩
    exact⟨C',hR',rfl⟩
   | goto l =>
    simp only[Option.some.injEq,Prod.mk.injEq] at h
    obtain⟨rfl,rfl⟩:=h
    refine wp_block (wp_mono (ih s _ s1 C a w hok h1 hN hn hR) ?_)
    rintro e a' w' ⟨C',hR',rfl⟩
    exact⟨C',hR',rfl⟩
 | loop c ih =>
  intro s x s' C a w hok h hN hn hR
  simp only[evC] at h
  have key:∀ (k:Nat) (s:ES) (C:Cx) (a:Act) (w:World),evLoop (evC E cf df lf nt c) k s=some (x,s')→G.n0≤s.n→RX I G (Rg G.n0 s.n) (s.as nt) C a w →
    ∀ b kk cs,∃ e a' w',XX I G nt x s' e a' w'∧Arrives P (lone (b.at a (.code c::.inLoop c::kk)) cs w) b kk cs e a' w':=by
   intro k
   induction k with
   | zero=>intro s C a w h;cases h
   | succ k ihk =>
    intro s C a w h hn hR b kk cs
    simp only[evLoop] at h
    cases h1:evC E cf df lf nt c s with
    | none=>rw[h1] at h;cases h
    | some r =>
     obtain⟨x1,s1⟩:=r
     rw[h1] at h
     have hm1:=(evC_mono hE hcf hdf c s x1 s1 h1).1
     cases x1 with
     | normal =>
      have hm2:=(evLoop_mono (evC_mono hE hcf hdf c) k s1 x s' h).1
      obtain⟨e,a₁,w₁,⟨C1,hR1,rfl⟩,harr⟩:=ih s .normal s1 C a w hok h1 (by omega) hn hR b (.inLoop c::kk) cs
      obtain⟨e₂,a₂,w₂,hq₂,harr₂⟩:=ihk s1 C1 a₁ w₁ h (by omega) hR1 b kk cs
      exact⟨e₂,a₂,w₂,hq₂,.of_steps (Steps.trans harr (.one step_inLoop)) harr₂⟩
     | exit id =>
      simp only[Option.some.injEq,Prod.mk.injEq] at h
      obtain⟨rfl,rfl⟩:=h
      obtain⟨e,a₁,w₁,⟨C1,hR1,rfl⟩,harr⟩:=ih s _ s1 C a w hok h1 hN hn hR b (.inLoop c::kk) cs
      exact⟨_,a₁,w₁,⟨C1,hR1,rfl⟩,.pass (x:=.inLoop c) rfl (fun _ _=>.inl (by simp)) harr⟩
     | ret =>
      simp only[Option.some.injEq,Prod.mk.injEq] at h
      obtain⟨rfl,rfl⟩:=h
      obtain⟨e,a₁,w₁,⟨C1,hR1,rfl⟩,harr⟩:=ih s _ s1 C a w hok h1 hN hn hR b (.inLoop c::kk) cs
      exact⟨_,a₁,w₁,⟨C1,hR1,rfl⟩,.pass (x:=.inLoop c) rfl (fun _ _=>.inl (by simp)) harr⟩
     | goto l =>
      simp only[Option.some.injEq,Prod.mk.injEq] at h
      obtain⟨rfl,rfl⟩:=h
      obtain⟨e,a₁,w₁,⟨C1,hR1,rfl⟩,harr⟩:=ih s _ s1 C a w hok h1 hN hn hR b (.inLoop c::kk) cs
      exact⟨_,a₁,w₁,⟨C1,hR1,rfl⟩,.pass (x:=.inLoop c) rfl (fun _ _=>.inl (by simp)) harr⟩
  intro b kk cs
  obtain⟨e,a',w',hq,harr⟩:=key lf s C a w h hn hR b kk cs
  exact⟨e,a',w',hq,.of_steps (.one step_loop) harr⟩
 | rangeFunc f ps x y ihx ihy=>intro s x s' C a w hok h;cases h
 | scope b ih=>intro s x s' C a w hok h;cases h
 | goto l=>intro s x s' C a w hok h;cases h
 | refuse why=>intro s x s' C a w hok h;cases h
end
section
variable {P:Program}{I:World→Prop}{E:OpF}{cf:CallF}{df:Nat→Array Oper→ES→Option ES}{lf nt:Nat}{C:Cx}{a:Act}{w:World}
theorem argT_get:∀ (ds:List D) (i:Nat) (t t':Tr D),argT ds i t=some t'→∀ k,envT t' k=if i≤k∧k < i+ds.length then ds.getD (k - i) .any else envT t k
 | [],i,t,t',h,k=>by
  simp only[argT,Option.some.injEq] at h
  subst h
  rw[if_neg (by rintro⟨h1,h2⟩;simp at h2;omega)]
 | d::ds,i,t,t',h,k=>by
  simp only[argT] at h
  cases h1:putT t i (some d) with
  | none=>rw[h1] at h;cases h
  | some t1 =>
   rw[h1] at h
   simp only at h
   rw[argT_get ds (i+1) t1 t' h k]
   have e1:envT t1 k=if k=i then d else envT t k:=by
    unfold envT
    rw[putT_get h1]
    by_cases hk:k=i
    ·rw[if_pos hk,if_pos hk]
    ·rw[if_neg hk,if_neg hk]
   rw[e1]
   simp only[List.length_cons]
   by_cases h2:i+1≤k∧k < i+1+ds.length
   ·rw[if_pos h2,if_pos (by omega)]
    have:k - i=(k - (i+1))+1:=by omega
    rw[this,List.getD_cons_succ]
   ·rw[if_neg h2]
    by_cases hk:k=i
    ·subst hk
     rw[if_pos rfl,if_pos (by omega)]
     simp
    ·rw[if_neg hk,if_neg (by omega)]
theorem evFn_sound(hE:OpSound P E)(hcf:CallSound P I cf)(hdf:DrawSound P I df):CallSound P I (evFn P E cf df lf):=by
 intro f ds h n d h' m l hv
 unfold evFn at hv
 cases hf:P.funcs[f]? with
 | none=>rw[hf] at hv;cases hv
 | some fn =>
 rw[hf] at hv
 simp only at hv
 cases hb:fn.body with
 | none=>rw[hb] at hv;cases hv
 | some c =>
 rw[hb] at hv
 simp only at hv
 split at hv
 case h_2=>cases hv
 rename_i e hcond harg
 simp only[Bool.and_eq_true,bne_iff_ne,ne_eq,decide_eq_true_eq] at hcond
 obtain⟨⟨hnm,hlen⟩,hok⟩:=hcond
 have main:∀ (x:AExit) (s:ES) (rs:List D),(x=.normal∨x=.ret)→evC E cf df lf fn.ntmps c ⟨e,h,n,[]⟩=some (x,s)→resD P (s.as fn.ntmps) fn.results.toList=some rs→n≤s.n∧XOK P I f ds h.get n s.n (mkRes rs) s.heap.get∧∀ id,id ∉ s.lg→s.heap.get id=h.get id:=by
  intro x s rs hx hev hres
  have hm:=evC_mono (nt:=fn.ntmps) (lf:=lf) hE hcf hdf c ⟨e,h,n,[]⟩ x s hev
  refine⟨hm.1,⟨by simp[enterable,hf,hb,hnm],fun i0 w C B args hI hbel hM hH hF hB hfr hl hr=>?_⟩,fun id hi=>(hm.2 id hi).2⟩
  refine calls_of_wp hf hb ?_
  have hsz:args.toArray.size=ds.length:=by simpa using hl
  let G:GX:=⟨i0,w,C,B,n,s.n,hM,hbel,hfr⟩
  have hR:RX I G (Rg n n) ((⟨e,h,n,[]⟩:ES).as fn.ntmps) C { tmps:=args.toArray++Array.replicate (fn.ntmps - args.toArray.size) Go.undef,defers:=[] } w:=by
   refine⟨⟨fun t=>?_,hH,hF,hB⟩,hI,BelM.refl _ _,fun b o h=>.inl h,Ext.refl _ _,rfl,?_,fun id h=>.inl h⟩
   ·simp only[ES.as]
    rw[argT_get ds 0 .nil e harg t]
    by_cases ht:t < ds.length
    ·rw[if_pos (by omega),Nat.sub_zero,show ds.getD t .any=ds[t] by simp[List.getD,ht]]
     have ha:t < args.length:=by omega
     have:(args.toArray++Array.replicate (fn.ntmps - args.toArray.size) Go.undef).getD t Go.undef=args[t]:=by
      simp[Array.getD_eq_getD_getElem?,Array.getElem?_append,ha]
     rw[this]
     exact hr t _ _ (List.getElem?_eq_getElem ha) (List.getElem?_eq_getElem ht)
    ·rw[if_neg (by omega)]
     exact .any _
   ·simp[ES.as];omega
  refine wp_mono (evC_sound (G:=G) (lf:=lf) hE hcf hdf c ⟨e,h,n,[]⟩ x s C _ w hok hev (Nat.le_refl _) (Nat.le_refl _) hR) ?_
  rintro ex a' w' ⟨C',hR',hq⟩
  have fin:a'.defers=[]∧∃ v,(results fn a'.tmps).run P w'=.ok v w'∧(∃ v' C',Ending.returned v=.returned v'∧BelM B.M w w'∧Ext C w C' w'∧Rep w' C' v' (mkRes rs)∧HOK C' w' B s.heap.get∧FB C' w'∧(∀ id,C'.live id→C.live id∨n≤id∧id < s.n)∧∀ b o,C'.F b o→C.F b o∨B.M b):=by
   refine⟨hR'.defers,?_⟩
   obtain⟨vs,hr1,hl1,hv1⟩:=resD_run (P:=P) (G:=(⟨i0,w,C.F,B,hM,hbel⟩:Gh)) hR'.ok fn.results.toList rs hres
   refine⟨if h:vs.toArray.size=1 then vs.toArray[0] else .tuple vs.toArray,?_,_,C',rfl,hR'.below,hR'.ext,?_,hR'.ok.heap,hR'.ok.fb,hR'.live,hR'.new⟩
   ·rw[results_eq,Array.mapM_eq_mapM_toList]
    simp only[Sem.run_bind,Sem.run_map,hr1]
    rfl
   ·exact mkRes_rep hl1 hv1
  rcases hx with rfl|rfl<;>· simp only at hq;subst hq;exact fin
 split at hv
 ·rename_i s hev
  split at hv
  ·rename_i rs hres
   simp only[Option.some.injEq,Prod.mk.injEq] at hv
   obtain⟨rfl,rfl,rfl,rfl⟩:=hv
   exact main .normal s rs (.inl rfl) hev hres
  ·cases hv
 ·rename_i s hev
  split at hv
  ·rename_i rs hres
   simp only[Option.some.injEq,Prod.mk.injEq] at hv
   obtain⟨rfl,rfl,rfl,rfl⟩:=hv
   exact main .ret s rs (.inr rfl) hev hres
  ·cases hv
 ·cases hv
theorem evF_sound{X:CallF}{df:CallF→Nat→Array Oper→ES→Option ES}(hE:OpSound P E)(hX:CallSound P I X)(hdf:∀ cf,CallSound P I cf→DrawSound P I (df cf)):∀ k,CallSound P I (evF P E X df lf k)
 | 0=>fun f ds h n d h' m l hv=>by cases hv
 | k+1=>by
  intro f ds h n d h' m l hv
  simp only[evF] at hv
  split at hv
  ·rename_i r hx
   simp only[Option.some.injEq] at hv
   subst hv
   exact hX f ds h n d h' m l hx
  ·exact evFn_sound hE (evF_sound hE hX hdf k) (hdf _ (evF_sound hE hX hdf k)) f ds h n d h' m l hv
theorem XOK.toFun(hstab:Stab I){f:FuncId}{n m:Nat}{b:Bool}{H':Nat→Option Blk}(h:XOK P I f [] (fun _=>none) n m (.bool b) H'):AFun P I f [] (.bool b):=by
 refine⟨h.1,fun w F args hI hfb hl hr=>?_⟩
 refine(h.2 w w (cF F) ⟨fun k=>w.heap.size≤k,fun _=>Go.undef⟩ args hI (Below.refl _ _) (fun _ h=>h) ⟨fun id b h=>(by cases h),fun id b h=>(by cases h),fun id k cs h=>(by cases h),fun id id' b b' h=>(by cases h)⟩ hfb (fun _ h=>h) (fun _ _ _ h=>h) hl hr).mono ?_
 rintro e w' ⟨v,C',rfl,hb,hext,hrep,hH,hfb',hl',hnew⟩
 refine⟨v,C'.F,rfl,hb.to,hext.cF,hfb',hnew,?_⟩
 cases hrep
 exact .bool _
end
section
variable {P:Program}{I:World→Prop}
theorem appEff_log(H H':Nat→Option Blk)(l:List Nat)(hl:∀ id,id ∉ l→H' id=H id):appEff H (l.map fun id=>(id,H' id))=H':=by
 have key:∀ (l:List Nat) (H:Nat→Option Blk) (id:Nat),appEff H (l.map fun id=>(id,H' id)) id=if id ∈ l then H' id else H id:=by
  intro l
  induction l with
  | nil=>intro H id;simp[appEff]
  | cons i l ih =>
   intro H id
   simp only[List.map_cons,appEff,ih,List.mem_cons]
   by_cases h1:id ∈ l
   ·rw[if_pos h1,if_pos (.inr h1)]
   ·rw[if_neg h1]
    simp only[upd]
    by_cases h2:id=i
    ·rw[if_pos h2,if_pos (.inl h2),h2]
    ·rw[if_neg h2,if_neg (by rintro(h|h)<;>contradiction)]
 funext id
 rw[key]
 split
 ·rfl
 ·rename_i h;exact(hl id h).symm
theorem XOK.frame{f:FuncId}{ds:List D}{H0 H':Nat→Option Blk}{n m:Nat}{d:D}{eff:Eff}(h:XOK P I f ds H0 n m d (appEff H0 eff))(hs:∀ id b,H0 id=some b→H' id=some b)(he:∀ p ∈ eff,(H0 p.1).isSome=true∨n≤p.1∧p.1 < m):XOK P I f ds H' n m d (appEff H' eff):=by
 refine⟨h.1,fun i0 w C B args hI hbel hM hH hF hB hfr hl hr=>?_⟩
 let X:Nat→Prop:=fun k=>∃ id b,H0 id=none∧H' id=some b∧blockOf (C.σ id)=some k
 have hX:∀ k,X k→k < w.heap.size:=by
  rintro k ⟨id,b,_,h2,h3⟩
  exact((hH.rep id b h2).2.lt k h3).2
 have hH0:HOK C w ⟨fun k=>B.M k∧¬ X k,B.p⟩ H0:=by
  refine⟨fun id b hb=>hH.rep id b (hs id b hb),fun id b hb g hg=>⟨hH.own id b (hs id b hb) g hg,?_⟩,fun id k cs hb=>hH.pin id k cs (hs id _ hb),fun id id' b b' hb hb'=>hH.apart id id' b b' (hs id b hb) (hs id' b' hb')⟩
  rintro⟨id',b',h1,h2,h3⟩
  have hne:id≠id':=by rintro rfl;rw[hb] at h1;cases h1
  exact hH.apart id id' b b' (hs id b hb) h2 hne g hg h3
 refine(h.2 i0 w C ⟨fun k=>B.M k∧¬ X k,B.p⟩ args hI hbel (fun k hk=>hM k hk.1) hH0 hF (fun g hg=>⟨hB g hg,fun hx=>by have:=hX g hx;omega⟩) hfr hl hr).mono ?_
 rintro e w' ⟨v,C',rfl,hb',hext,hrep,hH1,hF1,hl1,hn1⟩
 have hin:∀ id,(∃ p ∈ eff,p.1=id)→appEff H' eff id=appEff H0 eff id:=fun id hx=>appEff_in eff H' H0 id hx
 have hout:∀ id,(¬ ∃ p ∈ eff,p.1=id)→appEff H' eff id=H' id∧appEff H0 eff id=H0 id:=fun id hx=>⟨appEff_notin eff H' id fun p hp he=>hx ⟨p,hp,he⟩,appEff_notin eff H0 id fun p hp he=>hx ⟨p,hp,he⟩⟩
 -- each block is one of the call's, or was there besides
 have both:∀ id b,appEff H' eff id=some b→appEff H0 eff id=some b∨(H0 id=none∧H' id=some b):=by
  intro id b hb
  by_cases hx:∃ p ∈ eff,p.1=id
  ·rw[hin id hx] at hb;exact .inl hb
  ·obtain⟨h1,h2⟩:=hout id hx
   rw[h1] at hb
   cases h0:H0 id with
   | none=>exact .inr ⟨rfl,hb⟩
   | some b0 =>
    have:=hs id b0 h0
    rw[hb] at this
    rw[h2,h0,← this]
    exact .inl rfl
 have xblk:∀ id b,H0 id=none→H' id=some b→∀ g,blockOf (C'.σ id)=some g→X g:=by
  intro id b h0 h1 g hg
  rw[hext.σ id (hH.rep id b h1).1] at hg
  exact⟨id,b,h0,h1,hg⟩
 refine⟨v,C',rfl,⟨hb'.os,hb'.tape,hb'.output,hb'.size,fun k hk hm=>hb'.block k hk fun hx=>hm hx.1⟩,hext,hrep,⟨fun id b hb=>?_,fun id b hb g hg=>?_,fun id k cs hb=>?_,fun id id' b b' hb hb' hne g hg hg'=>?_⟩,hF1,hl1,fun b o ho=>(hn1 b o ho).imp (fun h=>h) fun h=>h.1⟩
 ·rcases both id b hb with hb|⟨h0,h1⟩
  ·exact hH1.rep id b hb
  ·obtain⟨k1,k2⟩:=hH.rep id b h1
   refine⟨hext.live id k1,k2.keep k1 hext (fun g hg=>hb'.block g (k2.lt g hg).2 fun hx=>hx.2 ⟨id,b,h0,h1,hg⟩) fun g o hg ho=>?_⟩
   rcases hn1 g o ho with h2|h2
   ·exact h2
   ·exact absurd ⟨id,b,h0,h1,hg⟩ h2.2
 ·rcases both id b hb with hb|⟨h0,h1⟩
  ·exact(hH1.own id b hb g hg).1
  ·rw[hext.σ id (hH.rep id b h1).1] at hg
   exact hH.own id b h1 g hg
 ·rcases both id _ hb with hb|⟨h0,h1⟩
  ·exact hH1.pin id k cs hb
  ·rw[hext.σ id (hH.rep id _ h1).1]
   exact hH.pin id k cs h1
 ·rcases both id b hb with hb|⟨h0,h1⟩<;>rcases both id' b' hb' with hb'|⟨h0',h1'⟩
  ·exact hH1.apart id id' b b' hb hb' hne g hg hg'
  ·exact(hH1.own id b hb g hg).2 (xblk id' b' h0' h1' g hg')
  ·exact(hH1.own id' b' hb' g hg').2 (xblk id b h0 h1 g hg)
  ·rw[hext.σ id (hH.rep id b h1).1] at hg
   rw[hext.σ id' (hH.rep id' b' h1').1] at hg'
   exact hH.apart id id' b b' h1 h1' hne g hg hg'
end
def ownB (rg:Nat→Nat)(i id:Nat):Bool:=Nat.ble (rg i) id&&Nat.blt id (rg (i+1))
theorem ownB_iff{rg:Nat→Nat}{i id:Nat}:ownB rg i id=true ↔ rg i≤id∧id < rg (i+1):=by
 unfold ownB
 rw[Bool.and_eq_true,Nat.ble_eq,Nat.blt_eq]
def lightB(rg:Nat→Nat)(i:Nat)(eff:Eff):Bool:=eff.all fun p=>ownB rg i p.1
def effInB(ops:Array Oper)(rg:Nat→Nat)(i:Nat)(eff:Eff):Bool:=eff.all fun p=>Nat.blt p.1 (rg 0)||Nat.ble (rg ops.size) p.1||ownB rg i p.1||(List.range i).any fun j=>ownB rg j p.1&&((aheads ops).getD i 0).testBit j
def ordBZ(ops:Array Oper)(i j:Nat):Bool:=((aheads ops).getD (max j i) 0).testBit (min j i)
def apartB(rg:Nat→Nat)(i:Nat)(eff:Eff):Option (List Nat)→Bool
 | none=>false
 | some l=>eff.all fun p=>ownB rg i p.1||l.all fun q=>!(Nat.beq q p.1)
def effRB(ops:Array Oper)(rg:Nat→Nat)(rd:Nat→Option (List Nat))(i:Nat)(eff:Eff):Bool:=lightB rg i eff||(effInB ops rg i eff&&(List.range ops.size).all fun j=>Nat.beq j i||(ordBZ ops i j||apartB rg i eff (rd j)))
section
variable {P:Program}{I:World→Prop}{ops:Array Oper}{S:AS}{tr:Nat→D × Eff}{rg:Nat→Nat}
theorem rg_mono(hm:∀ i,i < ops.size→rg i≤rg (i+1)):∀ i j,i≤j→j≤ops.size→rg i≤rg j:=by
 intro i j hij hj
 induction j with
 | zero=>obtain rfl:i=0:=(by omega);exact Nat.le_refl _
 | succ j ih =>
  by_cases h:i=j+1
  ·subst h;exact Nat.le_refl _
  ·exact Nat.le_trans (ih (by omega) (by omega)) (hm j (by omega))
theorem own_one(hm:∀ i,i < ops.size→rg i≤rg (i+1)){i j id:Nat}(hi:i < ops.size)(hj:j < ops.size)(h1:rg i≤id∧id < rg (i+1))(h2:rg j≤id∧id < rg (j+1)):i=j:=by
 rcases Nat.lt_trichotomy i j with h|h|h
 ·have:=rg_mono hm (i+1) j (by omega) (by omega);omega
 ·exact h
 ·have:=rg_mono hm (j+1) i (by omega) (by omega);omega
theorem stX_heapN{X Y:Nat→Bool}{id:Nat}:∀ m,(∀ i,i < m→∀ p ∈ (tr i).2,p.1=id→X i=Y i)→(stX ops S tr X m).heap id=(stX ops S tr Y m).heap id
 | 0,_=>rfl
 | m+1,h=>by
  have ih:=stX_heapN (X:=X) (Y:=Y) m (fun i hi=>h i (by omega))
  simp only[stX]
  cases ho:ops[m]? with
  | none=>exact ih
  | some o =>
   simp only
   by_cases hid:∃ p ∈ (tr m).2,p.1=id
   ·obtain⟨p,hp,hpe⟩:=hid
    rw[h m (by omega) p hp hpe]
    split
    ·simp only[AS.step];exact appEff_congr _ _ _ id ih
    ·exact ih
   ·have hstep:∀ S1:AS,(S1.step o (tr m).1 (tr m).2).heap id=S1.heap id:=by
     intro S1
     simp only[AS.step]
     exact appEff_notin _ _ id fun p hp hpe=>hid ⟨p,hp,hpe⟩
    split<;>split<;>simp only[hstep,ih]
end
def OpMono(E:OpF):Prop:=∀ (S S':AS) (op:Op) nid d eff,quietOp op=true→(∀ x ∈ op.operands.toList,S'.val x=S.val x)→(heapy op=true→∀ x ∈ op.operands.toList,Sub S.heap S'.heap (S.val x).ids)→E op nid S=some (d,eff)→E op nid S'=some (d,eff)
def XAny (P:Program)(I:World→Prop)(f:FuncId)(ds:List D)(H0:Nat→Option Blk)(n m:Nat)(d:D)(eff:Eff):Prop:=∀ H',(∀ id b,H0 id=some b→H' id=some b)→XOK P I f ds H' n m d (appEff H' eff)
def St2 (P:Program)(I:World→Prop)(E:OpF)(ops:Array Oper)(o:Oper)(S:AS)(A:Prop)(n m:Nat)(d:D)(eff:Eff)(rd:Option (List Nat)):Prop :=
 (awant ops S.env o=some false∧d=.undef∧eff=[]) ∨
 (awant ops S.env o=some true∧((acallee S o.op=none∧E o.op n S=some (d,eff)∧n < m∧(heapy o.op=true→∃ l,rd=some l∧∀ x ∈ o.op.operands.toList,∀ id ∈ (S.val x).ids,id ∈ l)) ∨
  ∃ f ds H0,acallee S o.op=some (f,ds)∧XAny P I f ds H0 n m d eff∧(H0=(fun _=>none)∨(H0=S.heap∧A∧rd=none))))
theorem same_seenX{S S':AS}{ops:Array Oper}{o:Oper}(he:∀ t ∈ o.looksAt ops,S'.env t=S.env t):(∀ x ∈ o.op.operands.toList,S'.val x=S.val x)∧awant ops S'.env o=awant ops S.env o∧acallee S' o.op=acallee S o.op:=by
 have hops:∀ x ∈ o.op.operands.toList,S'.val x=S.val x:=by
  intro x hx
  cases x with
  | tmp t=>exact he t (by unfold Oper.looksAt;exact List.mem_append_left _ (List.mem_filterMap.2 ⟨_,hx,rfl⟩))
  | _=>rfl
 refine⟨hops,?_,?_⟩
 ·unfold awant
  cases hg:o.guard with
  | none=>rfl
  | some jw =>
   obtain⟨j,want⟩:=jw
   simp only
   cases hj:gdst ops j with
   | none=>rfl
   | some t =>
    simp only
    rw[he t]
    unfold Oper.looksAt
    refine List.mem_append_right _ ?_
    rw[hg]
    unfold gdst at hj
    cases ho:ops[j]? with
    | none=>rw[ho] at hj;simp at hj
    | some oj=>rw[ho] at hj;simp[ho];simpa using hj
 ·unfold acallee
  cases hop:o.op<;>try rfl
  rename_i c
  simp only
  cases hcal:c.callee<;>try rfl
  rename_i f
  simp only
  rw[hop] at hops
  have h1:=hops f (by simp[Op.operands,Call.operands,hcal])
  have h2:c.args.toList.map S'.val=c.args.toList.map S.val:=map_val fun x hx=>hops x (by simp[Op.operands,Call.operands,hcal];exact .inr (by simpa using hx))
  rw[h1,h2]
theorem const_ids{S:AS}{x:Operand}{id:Nat}(h:∀ t,x≠.tmp t)(hid:id ∈ (S.val x).ids):False:=by
 cases x with
 | tmp t=>exact h t rfl
 | const v =>
  have c1:∀ v,(cD1 v).ids1=[]:=by
   intro v;unfold cD1;split<;>(try split)<;>rfl
  simp only[AS.val] at hid
  unfold cD at hid
  split at hid
  ·split at hid
   ·simp only[D.ids,List.mem_flatMap,List.mem_map] at hid
    obtain⟨_,⟨v',_,rfl⟩,hid⟩:=hid
    rw[c1] at hid;cases hid
   ·simp[D.ids,D.ids1] at hid
  ·have:(cD1 v).ids=[]:=by
    have:=c1 v
    unfold cD1 at this ⊢
    split<;>(try split)<;>rfl
   rw[this] at hid;cases hid
 | global g=>simp[AS.val,D.ids,D.ids1] at hid
 | func f=>simp[AS.val,D.ids,D.ids1] at hid
section
variable {P:Program}{I:World→Prop}{E:OpF}{ops:Array Oper}{S:AS}{tr:Nat→D × Eff}{rg:Nat→Nat}{rd:Nat→Option (List Nat)}
set_option maxHeartbeats 4000000 in
theorem draw_anyX{G:GX}{Q:Exit→Act→World→Prop}(hE:OpSound P E)(hEm:OpMono E)(hd:dstsOk ops S.nt=true)(hok:drawOk ops=true)(heff:∀ i,i < ops.size→effRB ops rg rd i (tr i).2=true)
  (hrw:∀ i,i < ops.size→∀ l,rd i=some l→∀ p ∈ (tr i).2,p.1 ∈ l)
  (hm:∀ i,i < ops.size→rg i≤rg (i+1)) (hn0:G.n0≤rg 0) (hN:rg ops.size≤G.N) (hS:∀ id b,S.heap id=some b→¬ (rg 0≤id∧id < rg ops.size))
  (hT:∀ i o,ops[i]? = some o→St2 P I E ops o (stX ops S tr (fun _=>true) i) (∀ j,j < i→(tr j).2≠[]→((aheads ops).getD i 0).testBit j=true) (rg i) (rg (i+1)) (tr i).1 (tr i).2 (rd i))
  (hQ:∀ C a w,RX I G (Rg G.n0 (rg ops.size)) (stX ops S tr (fun _=>true) ops.size) C a w→Q .normal a w) :
  ∀ (fuel:Nat) (listed:Array Bool) (C:Cx) (a:Act) (w:World),listed.size=ops.size→(∀ j o,ops[j]? = some o→listed.getD j false=true→∀ e ∈ edgesOf o,listed.getD e false=true)→(listed.toList.filter (fun b=>!b)).length≤fuel →
   RX I G (fun id=>Rg G.n0 (rg 0) id∨∃ i,i < ops.size∧listed.getD i false=true∧rg i≤id∧id < rg (i+1)) (stX ops S tr (fun i=>listed.getD i false) ops.size) C a w→wpAny P .any ops Q fuel listed a w:=by
 -- the static conditions
 simp only[drawOk,Bool.and_eq_true] at hok
 obtain⟨hok1,hok2⟩:=hok
 have quiet:∀ j o,ops[j]? = some o→quietOp o.op=true∧∀ e ∈ edgesOf o,e < j:=by
  intro j o ho
  have hm:(o,j) ∈ ops.toList.zipIdx:=by
   rw[List.mem_zipIdx_iff_getElem?];simpa using ho
  have:=List.all_eq_true.1 hok1 (o,j) hm
  simp only[Bool.and_eq_true,List.all_eq_true,decide_eq_true_eq] at this
  exact this
 have order:∀ i j oi oj t,ops[i]? = some oi→ops[j]? = some oj→i≠j→oi.dst=some t→(t ∈ oj.looksAt ops∨oj.dst=some t)→((aheads ops).getD (max i j) 0).testBit (min i j)=true:=by
  intro i j oi oj t hi hj hne hdst ht
  have hm:(oj,j) ∈ ops.toList.zipIdx:=by rw[List.mem_zipIdx_iff_getElem?];simpa using hj
  have hm':(oi,i) ∈ ops.toList.zipIdx:=by rw[List.mem_zipIdx_iff_getElem?];simpa using hi
  have:=List.all_eq_true.1 (List.all_eq_true.1 hok2 (oj,j) hm) (oi,i) hm'
  simp only[hdst,Bool.or_eq_true,Bool.and_eq_true,beq_iff_eq,Bool.not_eq_true',bne_iff_ne,ne_eq] at this
  rcases this with h|h|h
  ·exact absurd h hne
  ·rcases ht with ht|ht
   ·have:(oj.looksAt ops).contains t=true:=by simpa using ht
    rw[this] at h;simp at h
   ·exact absurd ht h.2
  ·exact h
 have T_dst:∀ j o,ops[j]? = some o→j < ops.size:=by
  intro j o ho
  rcases Nat.lt_or_ge j ops.size with h|h
  ·exact h
  ·rw[Array.getElem?_eq_none h] at ho;cases ho
 have heavy:∀ i,i < ops.size→lightB rg i (tr i).2=false→effInB ops rg i (tr i).2=true∧∀ j,j < ops.size→j≠i→((aheads ops).getD (max j i) 0).testBit (min j i)=true∨apartB rg i (tr i).2 (rd j)=true:=by
  intro i hlt hi
  have:=heff i hlt
  unfold effRB at this
  rw[hi,Bool.false_or,Bool.and_eq_true,List.all_eq_true] at this
  refine⟨this.1,fun j hj hne=>?_⟩
  have h:=this.2 j (List.mem_range.2 hj)
  rw[Bool.or_eq_true,Bool.or_eq_true,Nat.beq_eq] at h
  rcases h with h|h|h
  ·exact absurd h hne
  ·exact .inl h
  ·exact .inr h
 have hvord:∀ i j,i < ops.size→j < ops.size→j≠i→∀ p ∈ (tr i).2,¬ (rg i≤p.1∧p.1 < rg (i+1))→(∀ l,rd j=some l→p.1 ∈ l)→((aheads ops).getD (max j i) 0).testBit (min j i)=true:=by
  intro i j hi hj hne p hp hno hin
  have hl:lightB rg i (tr i).2=false:=by
   cases h:lightB rg i (tr i).2 with
   | false=>rfl
   | true=>exact absurd (ownB_iff.1 (List.all_eq_true.1 h p hp)) hno
  rcases(heavy i hi hl).2 j hj hne with h|h
  ·exact h
  ·exfalso
   cases hr:rd j with
   | none=>rw[hr] at h;cases h
   | some l =>
    rw[hr] at h
    have h1:=List.all_eq_true.1 h p hp
    rw[Bool.or_eq_true] at h1
    rcases h1 with h1|h1
    ·exact hno (ownB_iff.1 h1)
    ·have:=List.all_eq_true.1 h1 p.1 (hin l hr)
     simp at this
 have rgm:=rg_mono hm
 have efflight:∀ i,lightB rg i (tr i).2=true→∀ p ∈ (tr i).2,rg i≤p.1∧p.1 < rg (i+1):=fun i he p hp=>ownB_iff.1 (List.all_eq_true.1 he p hp)
 have effin:∀ i,i < ops.size→∀ p ∈ (tr i).2,¬ (rg 0≤p.1∧p.1 < rg ops.size)∨(rg i≤p.1∧p.1 < rg (i+1))∨∃ j,j < i∧(rg j≤p.1∧p.1 < rg (j+1))∧((aheads ops).getD i 0).testBit j=true:=by
  intro i hi p hp
  cases he:lightB rg i (tr i).2 with
  | false =>
   have:=List.all_eq_true.1 (heavy i hi he).1 p hp
   simp only[Bool.or_eq_true,List.any_eq_true,Bool.and_eq_true,List.mem_range] at this
   rcases this with((h|h)|h)|⟨j,h1,h2,h3⟩
   ·rw[Nat.blt_eq] at h;exact .inl (by omega)
   ·rw[Nat.ble_eq] at h;exact .inl (by omega)
   ·exact .inr (.inl (ownB_iff.1 h))
   ·exact .inr (.inr ⟨j,h1,ownB_iff.1 h2,h3⟩)
  | true=>exact .inr (.inl (efflight i he p hp))
 -- ids of a later range are not there yet
 have fresh:∀ j i id,j≤i→i < ops.size→rg i≤id→id < rg (i+1)→∀ m,m≤ops.size→(stX ops S tr (fun i=>decide (i < j)) m).heap id=S.heap id:=by
  intro j i id hji hi h1 h2 m
  induction m with
  | zero=>intro _;rfl
  | succ m ihm =>
   intro hms
   simp only[stX]
   cases hom:ops[m]? with
   | none=>exact ihm (by omega)
   | some om =>
    simp only
    split
    ·rename_i hmj
     have hm':m < j:=by simpa using hmj
     simp only[AS.step]
     rw[appEff_notin _ _ _ (fun p hp hpe=>?_)]
     ·exact ihm (by omega)
     ·have g1:=rgm 0 i (by omega) (by omega)
      have g2:=rgm (i+1) ops.size (by omega) (Nat.le_refl _)
      rcases effin m (by omega) p hp with h|h|⟨j',hj',h,_⟩
      ·omega
      ·have:=own_one (i:=m) (j:=i) (id:=id) hm (by omega) hi (by rw[hpe] at h;exact h) ⟨h1,h2⟩;omega
      ·have:=own_one (i:=j') (j:=i) (id:=id) hm (by omega) hi (by rw[hpe] at h;exact h) ⟨h1,h2⟩;omega
    ·exact ihm (by omega)
 intro fuel
 have alldone:∀ (listed:Array Bool) (C:Cx) (a:Act) (w:World),(∀ i,i < ops.size→listed.getD i false=true)→RX I G (fun id=>Rg G.n0 (rg 0) id∨∃ i,i < ops.size∧listed.getD i false=true∧rg i≤id∧id < rg (i+1)) (stX ops S tr (fun i=>listed.getD i false) ops.size) C a w→Q .normal a w:=by
  intro listed C a w hall hR
  have hst:stX ops S tr (fun i=>listed.getD i false) ops.size=stX ops S tr (fun _=>true) ops.size :=
   AS.ext2 (fun t=>stX_env _ fun i o hi _ _=>hall i hi) (fun id=>stX_heapN _ (fun i hi _ _ _=>hall i hi)) (by rw[(stX_next _ _).1,(stX_next _ _).1]) (by rw[(stX_next _ _).2,(stX_next _ _).2])
  refine hQ C a w ?_
  rw[hst] at hR
  refine hR.widen fun id hl=>?_
  unfold Rg at *
  have g0:=rgm 0 ops.size (by omega) (Nat.le_refl _)
  rcases hl with h|⟨i,hi,_,h1,h2⟩
  ·omega
  ·have g1:=rgm 0 i (by omega) (by omega)
   have g2:=rgm (i+1) ops.size (by omega) (Nat.le_refl _)
   omega
 induction fuel with
 | zero =>
  intro listed C a w hsz hcl hfu hR
  have hall:∀ i,i < ops.size→listed.getD i false=true:=by
   intro i hi
   have hnil:listed.toList.filter (fun b=>!b)=[]:=List.eq_nil_of_length_eq_zero (by omega)
   rw[List.filter_eq_nil_iff] at hnil
   have hlt:i < listed.size:=by omega
   have:=hnil listed[i] (by simp)
   simpa[Array.getD,hlt] using this
  refine⟨?_,alldone listed C a w hall hR⟩
  cases hr:Region.ready .any ops listed with
  | nil=>rfl
  | cons j rest =>
   have hj:j ∈ Region.ready .any ops listed:=by rw[hr];simp
   obtain⟨o,ho,h1,_⟩:=mem_ready'.1 hj
   have h2:=hall j (T_dst j o ho)
   have hlt:j < listed.size:=by have:=T_dst j o ho;omega
   simp[Array.getD,hlt] at h1 h2
   rw[h1] at h2;cases h2
 | succ fuel ih =>
  intro listed C a w hsz hcl hfu hR
  refine⟨fun hr=>?_,fun j hj=>?_⟩
  ·-- nothing is ready: all are done
   have hall:∀ i,i < ops.size→listed.getD i false=true:=by
    intro i
    induction i using Nat.strongRecOn with
    | _ i ihi =>
     intro hi
     cases hb:listed.getD i false with
     | true=>rfl
     | false =>
      exfalso
      have ho:ops[i]? = some ops[i]:=Array.getElem?_eq_getElem hi
      have hlt:i < listed.size:=by omega
      have:i ∈ Region.ready .any ops listed:=mem_ready'.2 ⟨_,ho,by simpa[Array.getD,hlt] using hb,fun e he=>ihi e ((quiet i _ ho).2 e he) (by have:=(quiet i _ ho).2 e he;omega)⟩
      rw[hr] at this
      cases this
   exact alldone listed C a w hall hR
  ·obtain⟨o,ho,hl0,hed⟩:=mem_ready'.1 hj
   have hjlt:=T_dst j o ho
   have hjl:j < listed.size:=by omega
   have hjX:listed.getD j false=false:=by simpa[Array.getD,hjl] using hl0
   -- what lies ahead of j is done; what lies behind it is not
   have done:∀ i,((aheads ops).getD j 0).testBit i=true→listed.getD i false=true:=fun i hb=>aheads_spec (fun i=>listed.getD i false=true) hcl j o ho hed i hb
   have notdone:∀ i oi,ops[i]? = some oi→((aheads ops).getD i 0).testBit j=true→listed.getD i false=false:=by
    intro i oi hi hb
    cases hx:listed.getD i false with
    | false=>rfl
    | true =>
     have:=aheads_spec (fun i=>listed.getD i false=true) hcl i oi hi (hcl i oi hi hx) j hb
     rw[hjX] at this;cases this
   have agree:∀ t,(t ∈ o.looksAt ops∨o.dst=some t)→∀ i oi,ops[i]? = some oi→oi.dst=some t→i≠j→listed.getD i false=decide (i < j):=by
    intro t ht i oi hi hdst hne
    have hb:=order i j oi o t hi ho hne hdst ht
    by_cases hij:i < j
    ·rw[Nat.max_eq_right (by omega),Nat.min_eq_left (by omega)] at hb
     rw[done i hb,decide_eq_true hij]
    ·rw[Nat.max_eq_left (by omega),Nat.min_eq_right (by omega)] at hb
     rw[notdone i oi hi hb,decide_eq_false hij]
   have hcut:=stX_cut (ops:=ops) (S:=S) (tr:=tr) j ops.size (by omega)
   have henv:∀ t ∈ o.looksAt ops,(stX ops S tr (fun i=>listed.getD i false) ops.size).env t=(stX ops S tr (fun _=>true) j).env t:=by
    intro t ht
    rw[← hcut]
    refine stX_env _ fun i oi _ hi hdst=>?_
    by_cases hne:i=j
    ·subst hne;rw[hjX,decide_eq_false (by omega)]
    ·exact agree t (.inl ht) i oi hi hdst hne
   have hvj:∀ i,i < ops.size→∀ p ∈ (tr i).2,¬ (rg i≤p.1∧p.1 < rg (i+1))→(∀ l,rd j=some l→p.1 ∈ l)→listed.getD i false=decide (i < j):=by
    intro i hi p hp hno hin
    by_cases hne:i=j
    ·subst hne;rw[hjX,decide_eq_false (by omega)]
    ·have hb:=hvord i j hi hjlt (fun e=>hne e.symm) p hp hno hin
     have hoi:ops[i]? = some ops[i]:=Array.getElem?_eq_getElem hi
     by_cases hij:i < j
     ·rw[Nat.max_eq_left (by omega),Nat.min_eq_right (by omega)] at hb
      rw[done i hb,decide_eq_true hij]
     ·rw[Nat.max_eq_right (by omega),Nat.min_eq_left (by omega)] at hb
      rw[notdone i _ hoi hb,decide_eq_false hij]
   have hheap:∀ l,rd j=some l→∀ t ∈ o.looksAt ops,(∀ id ∈ ((stX ops S tr (fun _=>true) j).env t).ids,id ∈ l)→Sub (stX ops S tr (fun _=>true) j).heap (stX ops S tr (fun i=>listed.getD i false) ops.size).heap ((stX ops S tr (fun _=>true) j).env t).ids:=by
    intro l hl t ht hsub id hid b hb
    have hrep:=hR.ok.env t
    rw[henv t ht] at hrep
    have hlive:=hR.live id (hrep.liveS hid)
    rw[← hcut] at hb
    rw[← hb]
    refine stX_heapN _ fun i hi p hp hpe=>?_
    by_cases hown:rg i≤p.1∧p.1 < rg (i+1)
    ·rw[hpe] at hown
     have r1:=rgm 0 i (by omega) (by omega)
     have r2:=rgm (i+1) ops.size (by omega) (Nat.le_refl _)
     rcases hlive with h|h|⟨i',hi',hx,h⟩
     ·exact absurd h (G.fr id (by omega) (by omega))
     ·unfold Rg at h;omega
     ·obtain rfl:i=i':=own_one hm hi hi' hown h
      rw[hx]
      by_cases hij:i < j
      ·rw[decide_eq_true hij]
      ·exfalso
       rw[fresh j i id (by omega) hi hown.1 hown.2 ops.size (Nat.le_refl _)] at hb
       exact hS id b hb (by omega)
    ·exact hvj i hi p hp hown fun l' hl'=>by rw[hl] at hl';injection hl' with hl';rw[← hl',hpe];exact hsub id hid
   have hnt:=(stX_next (ops:=ops) (S:=S) (tr:=tr) (fun i=>listed.getD i false) ops.size).2
   -- the step at the machine's state
   obtain⟨hval,hwant,hcal⟩:=same_seenX (ops:=ops) henv
   have hstep1:StXZ P I ops o (stX ops S tr (fun i=>listed.getD i false) ops.size) (rg j) (rg (j+1)) (tr j).1 (appEff (stX ops S tr (fun i=>listed.getD i false) ops.size).heap (tr j).2):=by
    rcases hT j o ho with⟨h1,h2,h3⟩|⟨h1,h2⟩
    ·exact .inl ⟨by rw[hwant];exact h1,h2,by rw[h3];rfl⟩
    ·refine .inr ⟨by rw[hwant];exact h1,?_⟩
     rcases h2 with⟨h2,h3,h4,h5⟩|⟨f,ds,H0,h2,h3,h4⟩
     ·refine .inr ⟨by rw[hcal];exact h2,(tr j).2,h4,rfl,fun C a w B hSt hn=>hE o _ _ _ _ (hEm _ _ o.op _ _ _ (quiet j o ho).1 hval (fun hp x hx=>?_) h3) C a w B hSt hn⟩
      intro id hid b hb
      obtain⟨l,hl,hsub⟩:=h5 hp
      cases x with
      | tmp t=>exact hheap l hl t (by unfold Oper.looksAt;exact List.mem_append_left _ (List.mem_filterMap.2 ⟨_,hx,rfl⟩)) (hsub _ hx) id hid b hb
      | const v=>exact(const_ids (fun t=>by simp) hid).elim
      | global g=>exact(const_ids (fun t=>by simp) hid).elim
      | func f=>exact(const_ids (fun t=>by simp) hid).elim
     ·refine .inl ⟨f,ds,by rw[hcal];exact h2,h3 _ ?_⟩
      rcases h4 with rfl|⟨rfl,hA⟩
      ·intro id b hb;cases hb
      ·intro id b hb
       rw[← hcut] at hb
       rw[← hb]
       refine stX_heapN _ fun i hi p hp hpe=>?_
       by_cases hij:i < j
       ·rw[decide_eq_true hij]
        exact done i (hA.1 i hij fun h0=>by rw[h0] at hp;cases hp)
       ·by_cases hown:rg i≤p.1∧p.1 < rg (i+1)
        ·exfalso
         rw[hpe] at hown
         rw[fresh j i id (by omega) hi hown.1 hown.2 ops.size (Nat.le_refl _)] at hb
         have r1:=rgm 0 i (by omega) (by omega)
         have r2:=rgm (i+1) ops.size (by omega) (Nat.le_refl _)
         exact hS id b hb (by omega)
        ·exact hvj i hi p hp hown fun l hl=>by rw[hA.2] at hl;cases hl
   refine stX_sound hR (by rw[hnt];exact hd) ho ?_ hstep1 ?_
   ·intro id g1 g2
    have r1:=rgm 0 j (by omega) (by omega)
    have r2:=rgm (j+1) ops.size (by omega) (Nat.le_refl _)
    refine⟨G.fr id (by omega) (by omega),?_⟩
    rintro(h|⟨i,hi,hx,h⟩)
    ·unfold Rg at h;omega
    ·obtain rfl:i=j:=own_one hm hi hjlt h ⟨g1,g2⟩
     rw[hjX] at hx;cases hx
   ·intro C' a' w' hR'
    have hget:∀ i,(listed.setIfInBounds j true).getD i false=if i=j then true else listed.getD i false:=by
     intro i
     by_cases hij:i=j
     ·subst hij;simp[Array.getD,hjl]
     ·rw[if_neg hij];exact getD_set_ne false (fun e=>hij e.symm)
    have hstep:(stX ops S tr (fun i=>listed.getD i false) ops.size).stepH o (tr j).1 (appEff (stX ops S tr (fun i=>listed.getD i false) ops.size).heap (tr j).2)=stX ops S tr (fun i=>(listed.setIfInBounds j true).getD i false) ops.size:=by
     have hcut':=stX_cut (ops:=ops) (S:=S) (tr:=tr) (j+1) ops.size (by omega)
     refine AS.ext2 (fun t=>?_) (fun id=>?_) ?_ ?_
     ·by_cases hdt:o.dst=some t
      ·have h1:(stX ops S tr (fun i=>(listed.setIfInBounds j true).getD i false) ops.size).env t=(stX ops S tr (fun i=>decide (i < j+1)) ops.size).env t:=by
        refine stX_env _ fun i oi _ hi hdst=>?_
        rw[hget]
        by_cases hij:i=j
        ·subst hij;simp
        ·rw[if_neg hij,agree t (.inr hdt) i oi hi hdst hij]
         by_cases h:i < j
         ·rw[decide_eq_true h,decide_eq_true (by omega)]
         ·rw[decide_eq_false h,decide_eq_false (by omega)]
       rw[h1,hcut']
       simp[stX,ho,AS.step,AS.stepH,hdt,upd]
      ·have h1:(stX ops S tr (fun i=>(listed.setIfInBounds j true).getD i false) ops.size).env t=(stX ops S tr (fun i=>listed.getD i false) ops.size).env t:=by
        refine stX_env _ fun i oi _ hi hdst=>?_
        rw[hget]
        by_cases hij:i=j
        ·subst hij;rw[ho] at hi;injection hi with hi;subst hi;exact absurd hdst hdt
        ·rw[if_neg hij]
       rw[h1]
       simp only[AS.stepH]
       cases hdst:o.dst with
       | none=>rfl
       | some t'=>simp only[upd];rw[if_neg (fun e=>hdt (by rw[hdst,e]))]
     ·-- what j does to blocks commutes with what was done ahead of it
      simp only[AS.stepH]
      refine(stX_comm (X:=fun i=>listed.getD i false) (X':=fun i=>(listed.setIfInBounds j true).getD i false) hget hjX ho ?_ id ops.size (by omega) (Nat.le_refl _)).symm
      intro m hjm hms hxm p hp q hq hpq
      have hmj:m≠j:=by omega
      have hom:ops[m]? = some ops[m]:=Array.getElem?_eq_getElem hms
      have nob:((aheads ops).getD m 0).testBit j=true→False:=fun hb=>by
       have:=notdone m _ hom hb
       rw[hxm] at this;cases this
      have r1:=rgm 0 j (by omega) (by omega)
      have r2:=rgm (j+1) ops.size (by omega) (Nat.le_refl _)
      have r3:=rgm 0 m (by omega) (by omega)
      have r4:=rgm (m+1) ops.size (by omega) (Nat.le_refl _)
      by_cases hpj:rg j≤p.1∧p.1 < rg (j+1)
      ·rcases effin m hms q hq with h|h|⟨j',hj',h,hb⟩
       ·omega
       ·have:=own_one (i:=j) (j:=m) (id:=p.1) hm hjlt hms hpj (by rw[hpq];exact h);omega
       ·have:=own_one (i:=j) (j:=j') (id:=p.1) hm hjlt (by omega) hpj (by rw[hpq];exact h)
        subst this
        exact nob hb
      ·by_cases hqm:rg m≤q.1∧q.1 < rg (m+1)
       ·rcases effin j hjlt p hp with h|h|⟨j',hj',h,hb⟩
        ·omega
        ·exact hpj h
        ·have:=own_one (i:=j') (j:=m) (id:=p.1) hm (by omega) hms h (by rw[hpq];exact hqm);omega
       ·have hb:=hvord m j hms hjlt (by omega) q hq hqm fun l hl=>by rw[← hpq];exact hrw j hjlt l hl p hp
        rw[Nat.max_eq_right (by omega),Nat.min_eq_left (by omega)] at hb
        exact nob hb
     ·simp only[AS.stepH];rw[(stX_next _ _).1,(stX_next _ _).1]
     ·simp only[AS.stepH];rw[(stX_next _ _).2,(stX_next _ _).2]
    rw[hstep] at hR'
    refine ih (listed.setIfInBounds j true) C' a' w' (by simpa using hsz) ?_ ?_ ?_
    ·intro j' o' ho' hx e he
     rw[hget] at hx ⊢
     by_cases hej:e=j
     ·simp[hej]
     ·rw[if_neg hej]
      by_cases hjj:j'=j
      ·subst hjj;rw[ho] at ho';injection ho' with ho';subst ho';exact hed e he
      ·rw[if_neg hjj] at hx;exact hcl j' o' ho' hx e he
    ·-- one fewer is left
     have hcount:∀ (l:List Bool) (j:Nat),l[j]? = some false→((l.set j true).filter (fun b=>!b)).length+1=(l.filter (fun b=>!b)).length:=by
      intro l
      induction l with
      | nil=>intro j h;simp at h
      | cons b l ihl =>
       intro j h
       cases j with
       | zero=>simp at h;subst h;simp
       | succ j =>
        simp only[List.getElem?_cons_succ] at h
        have:=ihl j h
        cases b<;>simp at this ⊢<;>omega
     have:=hcount listed.toList j (by simpa[Array.getD,hjl] using hjX)
     simp only[Array.toList_setIfInBounds]
     omega
    ·refine hR'.widen fun id hl=>?_
     rcases hl with(h|⟨i,hi,hx,h⟩)|h
     ·exact .inl h
     ·exact .inr ⟨i,hi,by rw[hget];split<;>simp_all,h⟩
     ·exact .inr ⟨j,hjlt,by rw[hget];simp,h⟩
end
def logE (h:Tr Blk)(l:List Nat):Eff:=l.map fun id=>(id,h.get id)
def inB (n m id:Nat):Bool:=Nat.ble n id&&Nat.blt id m
theorem inB_iff{n m id:Nat}:inB n m id=true ↔ n≤id∧id < m:=by
 unfold inB
 rw[Bool.and_eq_true,Nat.ble_eq,Nat.blt_eq]
def retD (x:Option ES)(d:D)(eff:Eff)(rd:Option (List Nat)):Option (ES × D × Eff × Option (List Nat)):=match x with
 | some s=>some (s,d,eff,rd)
 | none=>none
def opIds(S:AS)(o:Oper):List Nat:=match heapy o.op with
 | true=>o.op.operands.toList.flatMap fun x=>(S.val x).ids
 | false=>[]
def stepE(E:OpF)(cf:CallF)(nt:Nat)(ops:Array Oper)(i:Nat)(prev:List Nat)(o:Oper)(s:ES):Option (ES × D × Eff × Option (List Nat)) :=
 match awant ops (envT s.env) o with
 | none=>none
 | some false=>retD (putE o s .undef s.heap s.n s.lg) .undef [] (some [])
 | some true=>match acallee (s.as nt) o.op with
  | none=>match E o.op s.n (s.as nt) with
   | some (d,eff)=>match appTr s.heap eff with
    | some h=>retD (putE o s d h (s.n+1) (eff.map (·.1)++s.lg)) d eff (some (opIds (s.as nt) o++eff.map (·.1)))
    | none=>none
   | none=>none
  | some (f,ds)=>match ds.flatMap D.ids with
   | []=>match cf f ds .nil s.n with
    | some (d,_,n,[])=>retD (putE o s d s.heap n s.lg) d [] (some [])
    | some (d,h,n,l)=>match l.all (inB s.n n),appTr s.heap (logE h l) with
     | true,some h'=>retD (putE o s d h' n (l++s.lg)) d (logE h l) (some l)
     | _,_=>none
    | none=>none
   | _::_=>match cf f ds s.heap s.n with
    | some (d,h,n,l)=>match l.all (fun id=>(s.heap.get id).isSome||inB s.n n id)&&prev.all (fun j=>((aheads ops).getD i 0).testBit j) with
     | true=>retD (putE o s d h n (l++s.lg)) d (logE h l) none
     | false=>none
    | none=>none
def nextP(i:Nat)(prev:List Nat):Eff→List Nat
 | []=>prev
 | _::_=>i::prev
def runE (E:OpF)(cf:CallF)(nt:Nat)(ops:Array Oper):List Oper→Nat→List Nat→ES→Option (ES × List (D × Eff × Nat × Option (List Nat)))
 | [],_,_,s=>some (s,[])
 | o::l,i,prev,s=>match stepE E cf nt ops i prev o s with
  | some (s',d,eff,rd)=>match runE E cf nt ops l (i+1) (nextP i prev eff) s' with
   | some (s'',T)=>some (s'',(d,eff,s'.n,rd)::T)
   | none=>none
  | none=>none
def trT (T:List (D × Eff × Nat × Option (List Nat)))(i:Nat):D × Eff:=match T[i]? with
 | some x=>(x.1,x.2.1)
 | none=>(.any,[])
def rgT (base:Nat)(T:List (D × Eff × Nat × Option (List Nat))):Nat→Nat
 | 0=>base
 | i+1=>match T[i]? with
  | some x=>x.2.2.1
  | none=>0
def rdT (T:List (D × Eff × Nat × Option (List Nat)))(i:Nat):Option (List Nat):=match T[i]? with
 | some x=>x.2.2.2
 | none=>none
def evD (E:OpF)(cf:CallF)(nt:Nat)(ops:Array Oper)(s:ES):Option ES:=match drawOk ops with
 | true=>match runE E cf nt ops ops.toList 0 [] s with
  | some (s',T)=>match (List.range ops.size).all (fun i=>effRB ops (rgT s.n T) (rdT T) i (trT T i).2) with
   | true=>some s'
   | false=>none
  | none=>none
 | false=>none
section
variable {P:Program}{I:World→Prop}{E:OpF}{cf:CallF}{nt:Nat}{ops:Array Oper}
theorem logE_app{H:Nat→Option Blk}{h:Tr Blk}{l:List Nat}(hl:∀ id,id ∉ l→h.get id=H id):appEff H (logE h l)=h.get:=appEff_log H h.get l hl
theorem retD_some{x:Option ES}{d d':D}{eff eff':Eff}{rd rd':Option (List Nat)}{s:ES}(h:retD x d eff rd=some (s,d',eff',rd')):x=some s∧d=d'∧eff=eff'∧rd=rd':=by
 cases x with
 | none=>cases h
 | some s1=>simp only[retD,Option.some.injEq,Prod.mk.injEq] at h;obtain⟨rfl,rfl,rfl,rfl⟩:=h;exact⟨rfl,rfl,rfl,rfl⟩
theorem logE_mem{h:Tr Blk}{l:List Nat}{p:Nat × Option Blk}(hp:p ∈ logE h l):p.1 ∈ l:=by
 obtain⟨id,hid,rfl⟩:=List.mem_map.1 hp;exact hid
theorem stepE_rel(hE:OpSound P E)(hcf:CallSound P I cf){i:Nat}{prev:List Nat}{o:Oper}{s s':ES}{d:D}{eff:Eff}{rd:Option (List Nat)}(h:stepE E cf nt ops i prev o s=some (s',d,eff,rd)) :
  Mo s s'∧St2 P I E ops o (s.as nt) (∀ j ∈ prev,((aheads ops).getD i 0).testBit j=true) s.n s'.n d eff rd∧(∀ l,rd=some l→∀ p ∈ eff,p.1 ∈ l)∧s'.as nt={ (s.as nt).step o d eff with next:=s'.n }:=by
 unfold stepE at h
 have fin:∀ {hh:Tr Blk} {n:Nat} {l:List Nat},putE o s d hh n l=some s'→hh.get=appEff s.heap.get eff→s'.as nt={ (s.as nt).step o d eff with next:=s'.n }:=by
  intro hh n l hp he
  obtain⟨h1,h2,_,_⟩:=putE_as (nt:=nt) hp
  rw[h2,h1,he]
  rfl
 cases hw:awant ops (envT s.env) o with
 | none=>rw[hw] at h;cases h
 | some r =>
  rw[hw] at h
  cases r with
  | false =>
   simp only at h
   obtain⟨hp,rfl,rfl,rfl⟩:=retD_some h
   obtain⟨h1,h2,h3,h4⟩:=putE_as (nt:=nt) hp
   exact⟨⟨by omega,fun id hi=>⟨by rw[h4] at hi;exact hi,by rw[h3]⟩⟩,.inl ⟨hw,rfl,rfl⟩,fun l _ p hp=>by(cases hp),fin hp rfl⟩
  | true =>
   simp only at h
   cases hc:acallee (s.as nt) o.op with
   | none =>
    rw[hc] at h
    simp only at h
    cases he:E o.op s.n (s.as nt) with
    | none=>rw[he] at h;cases h
    | some r =>
     obtain⟨d0,eff0⟩:=r
     rw[he] at h
     simp only at h
     cases ha:appTr s.heap eff0 with
     | none=>rw[ha] at h;cases h
     | some hh =>
      rw[ha] at h
      simp only at h
      obtain⟨hp,rfl,rfl,rfl⟩:=retD_some h
      obtain⟨h1,h2,h3,h4⟩:=putE_as (nt:=nt) hp
      refine⟨⟨by omega,fun id hi=>?_⟩,.inr ⟨hw,.inl ⟨hc,he,by omega,fun hh=>⟨_,rfl,fun x hx id hid=>List.mem_append_left _ (by unfold opIds;rw[hh];exact List.mem_flatMap.2 ⟨x,hx,hid⟩)⟩⟩⟩,fun l hl p hp=>by(injection hl with hl;rw[← hl];exact List.mem_append_right _ (List.mem_map.2 ⟨p,hp,rfl⟩)),fin hp (appTr_get eff0 ha)⟩
      rw[h4,List.mem_append] at hi
      refine⟨fun h=>hi (.inr h),?_⟩
      rw[h3,appTr_get eff0 ha]
      exact appEff_notin _ _ _ fun p hp he=>hi (.inl (List.mem_map.2 ⟨p,hp,he⟩))
   | some fds =>
    obtain⟨f,ds⟩:=fds
    rw[hc] at h
    simp only at h
    split at h
    ·-- no own blocks among the arguments
     split at h
     ·rename_i d0 h0 n0 hf
      obtain⟨hp,rfl,rfl,rfl⟩:=retD_some h
      obtain⟨k1,k2,k3⟩:=hcf f ds .nil s.n d0 h0 n0 [] hf
      obtain⟨h1,h2,h3,h4⟩:=putE_as (nt:=nt) hp
      have hg:h0.get=fun _=>none:=funext fun id=>k3 id (by simp)
      refine⟨⟨by omega,fun id hi=>⟨by rw[h4] at hi;exact hi,by rw[h3]⟩⟩,.inr ⟨hw,.inr ⟨f,ds,fun _=>none,hc,fun H' hs=>?_,.inl rfl⟩⟩,fun l _ p hp=>by(cases hp),fin hp rfl⟩
      rw[h2]
      refine XOK.frame (eff:=[]) (H0:=fun _=>none) ?_ hs (fun p hp=>by cases hp)
      rw[hg] at k2
      exact k2
     ·rename_i d0 h0 n0 l0 hne hf
      split at h
      ·rename_i h1' hall happ
       obtain⟨hp,rfl,rfl,rfl⟩:=retD_some h
       obtain⟨k1,k2,k3⟩:=hcf f ds .nil s.n d0 h0 n0 l0 hf
       obtain⟨h1,h2,h3,h4⟩:=putE_as (nt:=nt) hp
       have hin:∀ p ∈ logE h0 l0,s.n≤p.1∧p.1 < n0:=fun p hp=>inB_iff.1 (List.all_eq_true.1 hall p.1 (logE_mem hp))
       refine⟨⟨by omega,fun id hi=>?_⟩,.inr ⟨hw,.inr ⟨f,ds,fun _=>none,hc,fun H' hs=>?_,.inl rfl⟩⟩,fun l hl p hp=>by(injection hl with hl;rw[← hl];exact logE_mem hp),fin hp (appTr_get _ happ)⟩
       ·rw[h4,List.mem_append] at hi
        refine⟨fun h=>hi (.inr h),?_⟩
        rw[h3,appTr_get _ happ]
        exact appEff_notin _ _ _ fun p hp he=>hi (.inl (by rw[← he];exact logE_mem hp))
       ·rw[h2]
        refine XOK.frame (eff:=logE h0 l0) (H0:=fun _=>none) ?_ hs (fun p hp=>.inr (hin p hp))
        rw[logE_app (H:=fun _=>none) (fun id hi=>k3 id hi)]
        exact k2
      ·cases h
     ·cases h
    ·rename_i x xs hx
     split at h
     ·rename_i d0 h0 n0 l0 hf
      split at h
      ·rename_i hall
       obtain⟨hp,rfl,rfl,rfl⟩:=retD_some h
       obtain⟨k1,k2,k3⟩:=hcf f ds s.heap s.n d0 h0 n0 l0 hf
       obtain⟨h1,h2,h3,h4⟩:=putE_as (nt:=nt) hp
       rw[Bool.and_eq_true,List.all_eq_true,List.all_eq_true] at hall
       refine⟨⟨by omega,fun id hi=>?_⟩,.inr ⟨hw,.inr ⟨f,ds,s.heap.get,hc,fun H' hs=>?_,.inr ⟨rfl,hall.2,rfl⟩⟩⟩,fun l hl=>by(cases hl),fin hp (logE_app (fun id hi=>k3 id hi)).symm⟩
       ·rw[h4,List.mem_append] at hi
        exact⟨fun h=>hi (.inr h),by rw[h3];exact k3 id fun h=>hi (.inl h)⟩
       ·rw[h2]
        refine XOK.frame (eff:=logE h0 l0) (H0:=s.heap.get) ?_ hs (fun p hp=>?_)
        ·rw[logE_app (fun id hi=>k3 id hi)]
         exact k2
        ·have:=hall.1 p.1 (logE_mem hp)
         rw[Bool.or_eq_true] at this
         exact this.imp (fun h=>h) fun h=>inB_iff.1 h
      ·cases h
     ·cases h
theorem St2.next{S:AS}{o:Oper}{A A':Prop}{n m k:Nat}{d:D}{eff:Eff}{rd:Option (List Nat)}(hEm:OpMono E)(hq:quietOp o.op=true)(hA:A→A')(h:St2 P I E ops o { S with next:=k } A n m d eff rd):St2 P I E ops o S A' n m d eff rd:=by
 rcases h with h|⟨h1,h2⟩
 ·exact .inl h
 ·refine .inr ⟨h1,?_⟩
  rcases h2 with⟨h2,h3,h4,h5⟩|⟨f,ds,H0,h2,h3,h4⟩
  ·exact .inl ⟨h2,hEm { S with next:=k } S o.op _ _ _ hq (fun _ _=>rfl) (fun _ _ _ _ _ _ h=>h) h3,h4,h5⟩
  ·exact .inr ⟨f,ds,H0,h2,h3,h4.imp (fun h=>h) fun h=>⟨h.1,hA h.2.1,h.2.2⟩⟩
theorem runE_trace(hE:OpSound P E)(hEm:OpMono E)(hcf:CallSound P I cf)(hq:∀ (i:Nat) (o:Oper),ops[i]? = some o→quietOp o.op=true){S:AS}{tr:Nat→D × Eff}{rg:Nat→Nat}{rd:Nat→Option (List Nat)} :
  ∀ (l:List Oper) (i:Nat) (prev:List Nat) (s s':ES) (T:List (D × Eff × Nat × Option (List Nat))),ops.toList.drop i=l→runE E cf nt ops l i prev s=some (s',T)→(∀ k x,T[k]? = some x→tr (i+k)=(x.1,x.2.1)∧rg (i+k+1)=x.2.2.1∧rd (i+k)=x.2.2.2)→rg i=s.n →
   s.as nt={ stX ops S tr (fun _=>true) i with next:=s.n }→(∀ j,j < i→(tr j).2≠[]→j ∈ prev)→i≤ops.size →
   Mo s s'∧s'.as nt={ stX ops S tr (fun _=>true) ops.size with next:=s'.n }∧rg ops.size=s'.n∧(∀ (k:Nat) (o:Oper),i≤k→ops[k]? = some o→rg k≤rg (k+1)∧St2 P I E ops o (stX ops S tr (fun _=>true) k) (∀ j,j < k→(tr j).2≠[]→((aheads ops).getD k 0).testBit j=true) (rg k) (rg (k+1)) (tr k).1 (tr k).2 (rd k)∧∀ l,rd k=some l→∀ p ∈ (tr k).2,p.1 ∈ l):=by
 intro l
 induction l with
 | nil =>
  intro i prev s s' T hd h hT hrg has hprev hi
  simp only[runE,Option.some.injEq,Prod.mk.injEq] at h
  obtain⟨rfl,rfl⟩:=h
  obtain rfl:i=ops.size:=by have:=congrArg List.length hd;simp at this;omega
  refine⟨Mo.refl _,has,hrg,fun k o hk ho=>?_⟩
  exfalso
  rw[Array.getElem?_eq_none hk] at ho;cases ho
 | cons o l ih =>
  intro i prev s s' T hd h hT hrg has hprev hi
  have hoi:ops[i]? = some o:=by
   have:(ops.toList.drop i)[0]? = some o:=by rw[hd];rfl
   simpa using this
  have hd':ops.toList.drop (i+1)=l:=by rw[← List.drop_drop,hd];rfl
  have hi':i+1≤ops.size:=by have:=congrArg List.length hd;simp at this;omega
  simp only[runE] at h
  cases h1:stepE E cf nt ops i prev o s with
  | none=>rw[h1] at h;cases h
  | some r =>
   obtain⟨s1,d,eff,rd0⟩:=r
   rw[h1] at h
   simp only at h
   cases h2:runE E cf nt ops l (i+1) (nextP i prev eff) s1 with
   | none=>rw[h2] at h;cases h
   | some r =>
    obtain⟨s2,T1⟩:=r
    rw[h2] at h
    simp only[Option.some.injEq,Prod.mk.injEq] at h
    obtain⟨rfl,rfl⟩:=h
    obtain⟨hmo,hst,hrw,has1⟩:=stepE_rel (P:=P) (I:=I) hE hcf h1
    obtain⟨t0,t1,t2⟩:=hT 0 (d,eff,s1.n,rd0) rfl
    simp only[Nat.add_zero] at t0 t1 t2
    have hX:stX ops S tr (fun _=>true) (i+1)=(stX ops S tr (fun _=>true) i).step o d eff:=by
     simp[stX,hoi,t0]
    obtain⟨m1,m2,m3,m4⟩:=ih (i+1) (nextP i prev eff) s1 s2 T1 hd' h2 (fun k x hx=>by
     have:=hT (k+1) x hx
     rw[show i+(k+1)=i+1+k by omega] at this
     exact this) t1 (by rw[has1,hX,has];rfl) (fun j hj hne=>by
     by_cases hji:j=i
     ·subst hji
      rw[t0] at hne
      cases eff with
      | nil=>exact absurd rfl hne
      | cons p e=>exact List.mem_cons_self
     ·have:=hprev j (by omega) hne
      cases eff with
      | nil=>exact this
      | cons p e=>exact List.mem_cons_of_mem _ this) hi'
    refine⟨hmo.trans m1,m2,m3,fun k ok hk hok=>?_⟩
    by_cases hki:k=i
    ·subst hki
     rw[hoi] at hok;injection hok with hok;subst hok
     refine⟨by rw[hrg,t1];exact hmo.1,?_⟩
     rw[has] at hst
     rw[hrg,t1,t0,t2]
     exact⟨hst.next hEm (hq k _ hoi) fun hA j hj hne=>hA j (hprev j hj hne),hrw⟩
    ·exact m4 k ok (by omega) hok
theorem runE_len:∀ (l:List Oper) (i:Nat) (prev:List Nat) (s s':ES) (T:List (D × Eff × Nat × Option (List Nat))),runE E cf nt ops l i prev s=some (s',T)→T.length=l.length
 | [],i,prev,s,s',T,h=>by simp only[runE,Option.some.injEq,Prod.mk.injEq] at h;rw[← h.2];rfl
 | o::l,i,prev,s,s',T,h=>by
  simp only[runE] at h
  cases h1:stepE E cf nt ops i prev o s with
  | none=>rw[h1] at h;cases h
  | some r =>
   obtain⟨s1,d,eff,rd0⟩:=r
   rw[h1] at h
   simp only at h
   cases h2:runE E cf nt ops l (i+1) (nextP i prev eff) s1 with
   | none=>rw[h2] at h;cases h
   | some r =>
    obtain⟨s2,T1⟩:=r
    rw[h2] at h
    simp only[Option.some.injEq,Prod.mk.injEq] at h
    obtain⟨rfl,rfl⟩:=h
    simp[runE_len l _ _ _ _ _ h2]
theorem evD_sound(hE:OpSound P E)(hEm:OpMono E)(hmix:P.follows .mixedOrders=true)(hcf:CallSound P I cf):DrawSound P I (evD E cf):=by
 intro nt ops s s' h
 unfold evD at h
 split at h
 case h_2=>cases h
 rename_i hok
 split at h
 case h_2=>cases h
 rename_i s1 T hrun
 split at h
 case h_2=>cases h
 rename_i hchk
 simp only[Option.some.injEq] at h
 subst h
 have hc1:=List.all_eq_true.1 hchk
 have hquiet:∀ (i:Nat) (o:Oper),ops[i]? = some o→quietOp o.op=true:=by
  intro j o ho
  have hm:(o,j) ∈ ops.toList.zipIdx:=by rw[List.mem_zipIdx_iff_getElem?];simpa using ho
  have h1:=hok
  simp only[drawOk,Bool.and_eq_true] at h1
  have:=List.all_eq_true.1 h1.1 (o,j) hm
  simp only[Bool.and_eq_true] at this
  exact this.1
 have hlen:=runE_len (E:=E) (cf:=cf) (nt:=nt) (ops:=ops) _ _ _ _ _ _ hrun
 obtain⟨hmo,has,hrg,hst⟩:=runE_trace (P:=P) (I:=I) (S:=s.as nt) (tr:=trT T) (rg:=rgT s.n T) (rd:=rdT T) hE hEm hcf hquiet ops.toList 0 [] s s1 T (by simp) hrun (fun k x hx=>by
  simp only[Nat.zero_add]
  exact⟨by simp[trT,hx],by simp[rgT,hx],by simp[rdT,hx]⟩) rfl rfl (fun j hj=>by omega) (Nat.zero_le _)
 refine⟨hmo,fun G C a w rid Q hN hn0 hd hR hK=>?_⟩
 refine wp_region_any hmix ?_
 have hR':RX I G (Rg G.n0 s.n) (s.as nt) C a { w with drawn:=w.drawn+1 }:=by
  have hcell:∀ b o,C.F b o→({ w with drawn:=w.drawn+1 }:World).heap[b]? = w.heap[b]?:=fun _ _ _=>rfl
  have he:Ext C w C { w with drawn:=w.drawn+1 }:=⟨fun _ _ h=>h,hcell,fun _ h=>h,fun _ _=>rfl⟩
  refine⟨⟨fun t=>(hR.ok.env t).ext he,⟨fun id b hb=>?_,hR.ok.heap.own,hR.ok.heap.pin,hR.ok.heap.apart⟩,hR.ok.fb,hR.ok.base⟩,hR.inv,⟨hR.below.os,hR.below.tape,hR.below.output,hR.below.size,hR.below.block⟩,hR.new,hR.ext.trans he,hR.defers,hR.size,hR.live⟩
  obtain⟨k1,k2⟩:=hR.ok.heap.rep id b hb
  exact⟨k1,k2.keep k1 he (fun _ _=>rfl) (fun _ _ _ h=>h)⟩
 have hnone:∀ i,(Array.replicate ops.size false).getD i false=false:=by
  intro i
  rw[Array.getD_eq_getD_getElem?,Array.getElem?_replicate]
  split<;>rfl
 have hst0:∀ m,stX ops (s.as nt) (trT T) (fun i=>(Array.replicate ops.size false).getD i false) m=s.as nt:=by
  intro m
  rw[show(fun i=>(Array.replicate ops.size false).getD i false)=fun _=>false from funext hnone]
  induction m with
  | zero=>rfl
  | succ m ihm =>
   simp only[stX,ihm,Bool.false_eq_true,if_false]
   cases ops[m]?<;>rfl
 refine draw_anyX (rg:=rgT s.n T) (rd:=rdT T) hE hEm hd hok (fun i hi=>hc1 i (List.mem_range.2 hi)) (fun i hi=>(hst i ops[i] (Nat.zero_le _) (Array.getElem?_eq_getElem hi)).2.2) (fun i hi=>(hst i ops[i] (Nat.zero_le _) (Array.getElem?_eq_getElem hi)).1) hn0 (by rw[hrg];exact hN) (fun id b hb=>?_) (fun i o ho=>(hst i o (Nat.zero_le _) ho).2.1) (fun C' a' w' hr=>?_) ops.size (Array.replicate ops.size false) C a _ (by simp) (fun j o _ hx=>by rw[hnone] at hx;cases hx) (by simp[List.filter_replicate]) (by
  rw[hst0]
  exact hR'.widen fun id hl=>.inl hl)
 ·rintro⟨h1,h2⟩
  have h1':s.n≤id:=h1
  rw[hrg] at h2
  rcases hR'.live id (hR'.ok.heap.rep id b hb).1 with h|h
  ·exact G.fr id (by omega) (by omega) h
  ·unfold Rg at h;omega
 ·refine hK C' a' w' ?_
  rw[has]
  rw[hrg] at hr
  exact hr.nx
end
end Go.Proofs.YtejeinnfompgpaaGreatDoor
