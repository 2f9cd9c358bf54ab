/- Texts of one proof, put together (Shelf, Gs, Base, Bld2, GB, EA, EB, EC, FwOw, GCl, GSm). No condition but those that each theorem states. -/
import Derived.Test.YtobglplholhkcaaGreatDoorS3
import Derived.Shelf.Strings.Builder1
import Derived.Shelf.Strings.BuilderF
import Derived.Shelf.Strings.BuilderK
import Derived.Shelf.Utf8.RuneCount
import Derived.Shelf.Strings.Search1
import Derived.Shelf.Strings.Search2
import Derived.Shelf.Strings.Search3
import Derived.Shelf.LaysM
import Derived.Shelf.Strings.Shaped
import Derived.Shelf.Strings.RuneCount
import Derived.Shelf.Strings.BuilderCap
import Derived.Shelf.Unicode.ValidAny
import Derived.Test.YtobglplholhkcaaGreatDoorProg
import Derived.Lib.RuneCount
import Derived.WalkKit
import Derived.WalkSpells
import Derived.WalkLawsBesides
import Derived.KernelRfl
import Derived.BigQuiet
import Derived.Deep.QuietTactic
import Derived.Deep.DeepCutAuto
import Derived.Deep.Draws
import Derived.Lib.Hide
import Derived.Lib.Builder
import Derived.Lib.AppendStr
import Derived.Lib.Walk
import Derived.Lib.SliceRun
set_option linter.unusedSimpArgs false
set_option linter.unusedVariables false
namespace Go.Proofs
open Go.Shelf
def Tryz.lays169_ren:Go.Shelf.Ren:=⟨fun|169=>130|n=>n,fun|70=>174|9=>9|0=>0|72=>177|37=>175|127=>203|3=>3|5=>5|n=>n,fun|n=>n⟩
theorem Tryz.lays169:Go.Proofs.Lays.n169 Tryz.prog Tryz.lays169_ren:={
 mixed:=by kernel_rfl
 f169:=Tryz.func130.trans (congrArg some (by kernel_rfl))
 t0:=Tryz.underlying0
 a0:=Tryz.isAgg0
 z0:=Tryz.sizeOf0
 v0:=Tryz.zeroValue0
 t3:=Tryz.underlying3
 a3:=Tryz.isAgg3
 z3:=Tryz.sizeOf3
 v3:=Tryz.zeroValue3
 t9:=Tryz.underlying9
 a9:=Tryz.isAgg9
 z9:=Tryz.sizeOf9
 v9:=Tryz.zeroValue9
 t37:=Tryz.underlying175
 a37:=Tryz.isAgg175
 z37:=Tryz.sizeOf175
 v37:=Tryz.zeroValue175
 t70:=Tryz.underlying174
 a70:=Tryz.isAgg174
 z70:=Tryz.sizeOf174
 v70:=Tryz.zeroValue174
 t72:=Tryz.underlying177
 a72:=Tryz.isAgg177
 z72:=Tryz.sizeOf177
 v72:=Tryz.zeroValue177
 t127:=Tryz.underlying203
 a127:=Tryz.isAgg203
 z127:=Tryz.sizeOf203
 v127:=Tryz.zeroValue203 }
theorem Tryz.Builder_Extra_169:Builder.Extra Tryz.prog Tryz.lays169_ren:={
 sizeBuilder:=by kernel_rfl
 liesBuilder:=by kernel_rfl
 t5:=Tryz.underlying5
 a5:=Tryz.isAgg5
 z5:=Tryz.sizeOf5
 v5:=Tryz.zeroValue5
 infoByte:=by kernel_rfl
 cellsByte:=by kernel_rfl
 sizeByte:=by kernel_rfl
 neB5:=by decide }
open Go.RowKit in
def Tryz.lays195_ren:Go.Shelf.Ren:=⟨fun|195=>178|n=>n,fun|9=>9|3=>3|0=>0|4=>4|n=>n,fun|n=>n⟩
theorem Tryz.lays195:Go.Proofs.Lays.n195 Tryz.prog Tryz.lays195_ren:={
 mixed:=by kernel_rfl
 f195:=Tryz.func178.trans (congrArg some (by kernel_rfl))
 t0:=Tryz.underlying0
 a0:=Tryz.isAgg0
 z0:=Tryz.sizeOf0
 v0:=Tryz.zeroValue0
 t3:=Tryz.underlying3
 a3:=Tryz.isAgg3
 z3:=Tryz.sizeOf3
 v3:=Tryz.zeroValue3
 t4:=Tryz.underlying4
 a4:=Tryz.isAgg4
 z4:=Tryz.sizeOf4
 v4:=Tryz.zeroValue4
 t9:=Tryz.underlying9
 a9:=Tryz.isAgg9
 z9:=Tryz.sizeOf9
 v9:=Tryz.zeroValue9 }
open Go.RowKit in
theorem Tryz.utf8_RuneCountInString(s:ByteArray)(w:World)(hs:s.size < 9223372036854775807) :
  Calls Tryz.prog 178 #[.string s] w fun e w'=>e=.returned (.int .i64 (Lib.runeCount s))/\∃ pos,w'=w.iter s pos:=Any.utf8_RuneCountInString Tryz.lays195 s w hs
def Tryz.lays144_ren:Go.Shelf.Ren:=⟨fun|144=>153|143=>173|219=>177|217=>180|225=>181|224=>182|267=>183|266=>184|314=>185|n=>n,fun|9=>9|4=>4|3=>3|5=>5|46=>147|146=>217|51=>216|n=>n,fun|1=>2|n=>n⟩
theorem Tryz.lays144:Go.Proofs.Lays.n144 Tryz.prog Tryz.lays144_ren:={
 mixed:=by kernel_rfl
 f143:=Tryz.func173.trans (congrArg some (by kernel_rfl))
 f144:=Tryz.func153.trans (congrArg some (by kernel_rfl))
 f217:=Tryz.func180.trans (congrArg some (by kernel_rfl))
 f219:=Tryz.func177.trans (congrArg some (by kernel_rfl))
 f224:=Tryz.func182.trans (congrArg some (by kernel_rfl))
 f225:=Tryz.func181.trans (congrArg some (by kernel_rfl))
 f266:=Tryz.func184.trans (congrArg some (by kernel_rfl))
 f267:=Tryz.func183.trans (congrArg some (by kernel_rfl))
 f314:=Tryz.func185.trans (congrArg some (by kernel_rfl))
 t3:=Tryz.underlying3
 a3:=Tryz.isAgg3
 z3:=Tryz.sizeOf3
 v3:=Tryz.zeroValue3
 t4:=Tryz.underlying4
 a4:=Tryz.isAgg4
 z4:=Tryz.sizeOf4
 v4:=Tryz.zeroValue4
 t5:=Tryz.underlying5
 a5:=Tryz.isAgg5
 z5:=Tryz.sizeOf5
 v5:=Tryz.zeroValue5
 t9:=Tryz.underlying9
 a9:=Tryz.isAgg9
 z9:=Tryz.sizeOf9
 v9:=Tryz.zeroValue9
 t46:=Tryz.underlying147
 a46:=Tryz.isAgg147
 z46:=Tryz.sizeOf147
 v46:=Tryz.zeroValue147
 t51:=Tryz.underlying216
 a51:=Tryz.isAgg216
 z51:=Tryz.sizeOf216
 v51:=Tryz.zeroValue216
 t146:=Tryz.underlying217
 a146:=Tryz.isAgg217
 z146:=Tryz.sizeOf217
 v146:=Tryz.zeroValue217
 g1:=by kernel_rfl }
open Go.RowKit Go.Lib in
theorem Tryz.strings_Contains(s sub:ByteArray)(m:Int)(w:World)(hs:s.size < 4294967281)(hm:w.cell? ⟨2,0,none⟩=some (.int .i64 m)) :
  Calls Tryz.prog 153 #[.string s,.string sub] w fun e w'=>e=.returned (.bool (Lib.contains s.data.toList sub.data.toList))/\w'=w:=Any.strings_Contains Tryz.lays144 s sub m w hs hm
def Tryz.laysValid_ren:Go.Shelf.Ren:=⟨fun|196=>119|259=>159|n=>n,fun|9=>9|4=>4|3=>3|5=>5|12=>12|119=>197|0=>0|46=>147|139=>200|138=>199|53=>211|n=>n,fun|3=>0|4=>1|n=>n⟩
theorem Tryz.laysValid:Go.Proofs.Lays.n196 Tryz.prog Tryz.laysValid_ren:={
 mixed:=by kernel_rfl
 f196:=Tryz.func119.trans (congrArg some (by kernel_rfl))
 f259:=Tryz.func159.trans (congrArg some (by kernel_rfl))
 t0:=Tryz.underlying0
 a0:=Tryz.isAgg0
 z0:=Tryz.sizeOf0
 v0:=Tryz.zeroValue0
 t3:=Tryz.underlying3
 a3:=Tryz.isAgg3
 z3:=Tryz.sizeOf3
 v3:=Tryz.zeroValue3
 t4:=Tryz.underlying4
 a4:=Tryz.isAgg4
 z4:=Tryz.sizeOf4
 v4:=Tryz.zeroValue4
 t5:=Tryz.underlying5
 a5:=Tryz.isAgg5
 z5:=Tryz.sizeOf5
 v5:=Tryz.zeroValue5
 t9:=Tryz.underlying9
 a9:=Tryz.isAgg9
 z9:=Tryz.sizeOf9
 v9:=Tryz.zeroValue9
 t12:=Tryz.underlying12
 a12:=Tryz.isAgg12
 z12:=Tryz.sizeOf12
 v12:=Tryz.zeroValue12
 t46:=Tryz.underlying147
 a46:=Tryz.isAgg147
 z46:=Tryz.sizeOf147
 v46:=Tryz.zeroValue147
 t53:=Tryz.underlying211
 a53:=Tryz.isAgg211
 z53:=Tryz.sizeOf211
 v53:=Tryz.zeroValue211
 t119:=Tryz.underlying197
 a119:=Tryz.isAgg197
 z119:=Tryz.sizeOf197
 t138:=Tryz.underlying199
 a138:=Tryz.isAgg199
 z138:=Tryz.sizeOf199
 v138:=Tryz.zeroValue199
 t139:=Tryz.underlying200
 a139:=Tryz.isAgg200
 z139:=Tryz.sizeOf200
 v139:=Tryz.zeroValue200
 g3:=by kernel_rfl
 g4:=by kernel_rfl }
open Go.RowKit in
theorem Tryz.utf8_ValidString(s:ByteArray)(w:World)(hs:s.size<=9223372036854775807)(hT:Lib.Utf8Tabs 0 1 w) :
  Calls Tryz.prog 119 #[.string s] w fun e w'=>e=.returned (.bool (Lib.validD s.data.toList))/\Below w.heap.size w w':=Any.utf8_ValidString Tryz.laysValid s w hs hT
end Go.Proofs
namespace Go.Proofs.YtobglplholhkcaaGreatDoor
open Go.RowKit
set_option maxRecDepth 100000
def U8T (w:World):Prop:=Lib.Utf8Tabs 0 1 w
def Z34 (s:List UInt8):Option Bool:=some (Lib.validD s)
theorem Z74(I:World->Prop)(hI:Stab I)(hU8T:∀ w,I w->U8T w)(s:List UInt8){r:Bool}(h:Z34 s=some r):AFun Tryz.prog I 119 [.str s] (.bool r):=by
 obtain rfl:=Option.some.inj h
 refine AFun.of_calls (v:=.bool (Lib.validD s)) (by kernel_rfl) (fun w F=>.bool _) ?_
 intro w F args hIw _ hl hr
 match args,hl with
 | [v],_ =>
  obtain⟨rfl,hm⟩:=Z7B (hr 0 v _ rfl rfl)
  exact Tryz.utf8_ValidString ⟨s.toArray⟩ w (by rw[Z5m];unfold maxLen at hm;omega) (hU8T w hIw)
def Z0U (s:List UInt8):Option Int:=if s.length < 9223372036854775807 then some (Lib.runeCountL s:Int) else none
theorem ZaD(s:ByteArray):∀ (fuel pos:Nat),Lib.runeCountFrom s fuel pos<=fuel:=by
 intro fuel
 induction fuel with
 | zero=>intro pos;simp[Lib.runeCountFrom]
 | succ n ih =>
  intro pos
  simp only[Lib.runeCountFrom]
  split
  ·have:=ih (pos+(Utf8.decode s pos).2);omega
  ·omega
theorem Z68(I:World->Prop)(hI:Stab I)(s:List UInt8){r:Int}(h:Z0U s=some r):AFun Tryz.prog I 178 [.str s] (.int .i64 r):=by
 obtain⟨hs,h⟩:=Zo h
 obtain rfl:=Option.some.inj h
 refine AFun.of_calls (v:=.int .i64 (Lib.runeCountL s:Int)) (by kernel_rfl) (fun w F=>.int _ _ ?_) ?_
 ·have:=ZaD ⟨s.toArray⟩ (⟨s.toArray⟩:ByteArray).size 0
  rw[Z5m] at this
  unfold Lib.runeCountL Lib.runeCount inR;simp only[kLo,kHi];rw[Z5m];omega
 ·intro w F args hIw _ hl hr
  match args,hl with
  | [v],_ =>
   obtain⟨rfl,hm⟩:=Z7B (hr 0 v _ rfl rfl)
   refine(Tryz.utf8_RuneCountInString ⟨s.toArray⟩ w (by rw[Z5m];exact hs)).mono ?_
   rintro e w' ⟨rfl,pos,rfl⟩
   exact⟨rfl,rfl,rfl,rfl,by simp[World.iter],fun k hk=>Below.heap_alloc w _ k hk⟩
theorem ZfI{w w':World}{g:Nat}{v:Value}(h:w.cell? ⟨g,0,none⟩=some v)(hb:Below w.heap.size w w'):w'.cell? ⟨g,0,none⟩=some v:=by
 have hlt:g < w.heap.size:=by
  rcases Nat.lt_or_ge g w.heap.size with h1|h1
  ·exact h1
  ·simp[World.cell?,Array.getElem?_eq_none h1] at h
 rw[World.cell?_of_block (hb.block g hlt)]
 exact h
def Shp (w:World):Prop:=∃ m,w.cell? ⟨2,0,none⟩=some (.int .i64 m)
theorem ZjY:Stab Shp:=fun _ _ ⟨m,h⟩ hb=>⟨m,ZfI h hb⟩
def Z1R (s t:List UInt8):Option Bool:=if s.length < 4294967281 then some (Lib.contains s t) else none
theorem Z9a(I:World->Prop)(hI:Stab I)(hShp:∀ w,I w->Shp w)(s t:List UInt8){r:Bool}(h:Z1R s t=some r):AFun Tryz.prog I 153 [.str s,.str t] (.bool r):=by
 obtain⟨hs,h⟩:=Zo h
 obtain rfl:=Option.some.inj h
 refine AFun.of_calls (v:=.bool (Lib.contains s t)) (by kernel_rfl) (fun w F=>.bool _) ?_
 intro w F args hIw _ hl hr
 match args,hl with
 | [v,u],_ =>
  obtain⟨rfl,_⟩:=Z7B (hr 0 v _ rfl rfl)
  obtain⟨rfl,_⟩:=Z7B (hr 1 u _ rfl rfl)
  obtain⟨m,hm⟩:=hShp w hIw
  refine(Tryz.strings_Contains ⟨s.toArray⟩ ⟨t.toArray⟩ m w (by rw[Z5m];exact hs) hm).mono ?_
  rintro e w' ⟨rfl,rfl⟩
  exact⟨rfl,Below.refl _ _⟩
def RdL {α:Type}(enc:α->List Value)(k:Nat)(w:World)(B:Nat)(A:Option Addr)(L:List α):Prop :=
 L=[]\/∃ b off,A=some ⟨b,off,none⟩/\b < B/\∀ i x,L[i]? = some x->∀ j v,(enc x)[j]? = some v->w.cell? ⟨b,off+i * k+j,none⟩=some v
section
variable {α:Type}{enc:α->List Value}{k:Nat}{w w':World}{B B':Nat}{A:Option Addr}{L:List α}
theorem RdL.nil:RdL enc k w B A []:=.inl rfl
theorem RdL.at_(h:RdL enc k w B A L)(hn:0 < L.length):∃ b off,A=some ⟨b,off,none⟩/\b < B/\∀ i x,L[i]? = some x->∀ j v,(enc x)[j]? = some v->w.cell? ⟨b,off+i * k+j,none⟩=some v:=by
 rcases h with rfl|h
 ·simp at hn
 exact h
theorem RdL.keep(h:RdL enc k w B A L)(hk:∀ p:Addr,p.block < B->w'.cell? p=w.cell? p):RdL enc k w' B A L:=by
 rcases h with h|⟨b,off,e,hb,hc⟩
 ·exact .inl h
 exact .inr ⟨b,off,e,hb,fun i x hx j v hv=>(hk _ hb).trans (hc i x hx j v hv)⟩
theorem RdL.below(h:RdL enc k w B A L)(hb:Below B w w'):RdL enc k w' B A L:=h.keep fun _ hp=>hb.cell hp
theorem RdL.of_own{base:Nat}{e:TypeId}{n c:Nat}{xs:List Value}(h:w.ownsRow base e k (.slice A n c) n xs)(hx:∀ i x,L[i]? = some x->∀ j v,(enc x)[j]? = some v->xs[i * k+j]? = some v)(hn:n=L.length):RdL enc k w w.heap.size A L:=by
 by_cases h0:L=[]
 ·exact .inl h0
 have hp:0 < n:=by rw[hn];exact List.length_pos_iff.2 h0
 rcases h.2 with⟨hv,h1⟩|⟨g,cap,cur,hv,hg,hh,_,_,_,_⟩
 ·omega
 have hA:A=some ⟨g,0,none⟩:=by injection hv
 subst hA;refine .inr ⟨g,0,rfl,(h.lt g rfl).2,fun i x hi j v hv'=>?_⟩;have:=h.cells (g:=g) rfl _ v (hx i x hi j v hv');rw[<- this];congr 1;unfold Addr.add;split
 ·rename_i e0
  rw[show 0+i * k+j=0 by omega]
 simp
end
def encI (x:Int):List Value:=[.int .i64 x]
def RdI (w:World)(B:Nat)(A:Option Addr)(L:List Int):Prop:=RdL encI 1 w B A L
theorem RdI.at_{w:World}{B:Nat}{A:Option Addr}{L:List Int}(h:RdI w B A L)(hn:0 < L.length):∃ b off,A=some ⟨b,off,none⟩/\b < B/\∀ i (hi:i < L.length),w.cell? ⟨b,off+i,none⟩=some (.int .i64 L[i]):=by
 obtain⟨b,off,e,hb,hc⟩:=RdL.at_ h hn;refine⟨b,off,e,hb,fun i hi=>?_⟩;have:=hc i _ (List.getElem?_eq_getElem hi) 0 (.int .i64 L[i]) rfl;simpa using this
theorem RdI.below{w w':World}{B:Nat}{A:Option Addr}{L:List Int}(h:RdI w B A L)(hb:Below B w w'):RdI w' B A L:=RdL.below h hb
theorem ZfT(P:List Int):∀ i x,P[i]? = some x->∀ j v,(encI x)[j]? = some v->(P.map (Value.int .i64))[i * 1+j]? = some v:=by
 intro i x h j v hv
 cases j with
 | zero=>simp[encI] at hv;subst hv;simp[h]
 | succ j=>simp[encI] at hv
theorem RdI.of_own{w:World}{base:Nat}{e:TypeId}{n c:Nat}{A:Option Addr}{P:List Int}(h:w.ownsRow base e 1 (.slice A n c) n (P.map (Value.int .i64)))(hn:n=P.length):RdI w w.heap.size A P :=
 RdL.of_own h (ZfT P) hn
theorem ZiT:(Tryz.prog.info? 177).map (·.size)=some 2:=by kernel_rfl
theorem Zl2:liesAt Tryz.prog Tryz.prog.depth 177 (2 / Tryz.prog.cellsOf 177) 0 177 1=true:=by kernel_rfl
theorem Zgv:(Tryz.prog.info? 5).map (fun i=>(i.zero,i.size,i.bytes))=some (some (.int .u8 0),1,1):=by kernel_rfl
set_option maxHeartbeats 1000000 in
set_option maxRecDepth 100000 in
theorem ZbJ(b:Nat)(w:World)(h0:w.cell? ⟨b,0,none⟩=some (.pointer (some ⟨b,0,none⟩))) :
  Calls Tryz.prog 162 #[.pointer (some ⟨b,0,none⟩)] w fun e w'=>e=.returned (.tuple #[])/\w=w':=by
 obtain⟨j,hj,_⟩:=Option.map_eq_some_iff.1 ZiT
 go_enter Tryz.func162,Tryz.ntmps162
 go_wp2
 rw[Lib.run_neq_ptr_same w _ Tryz.underlying174 hj]
 go_wp2
 go_end0
 exact⟨rfl,rfl⟩
set_option maxHeartbeats 1000000 in
set_option maxRecDepth 100000 in
theorem Zb2(b:Nat)(w:World)(h0:w.cell? ⟨b,0,none⟩=some (.pointer none))(hsh:w.shape? b=some (177,2))(hfz:w.frozen? ⟨b,0,none⟩=false) :
  Calls Tryz.prog 162 #[.pointer (some ⟨b,0,none⟩)] w fun e w'=>e=.returned (.tuple #[])/\w.setCell ⟨b,0,none⟩ (.pointer (some ⟨b,0,none⟩))=w':=by
 obtain⟨j,hj,hjs⟩:=Option.map_eq_some_iff.1 ZiT
 go_enter Tryz.func162,Tryz.ntmps162
 go_wp2
 rw[Lib.run_to_unsafe w ⟨b,0,none⟩ Tryz.underlying174 Tryz.underlying212 hj (by rw[hjs];decide) hsh (Nat.zero_lt_succ 1)]
 simp only[Result.andThen]
 rw[Oper.upon_value]
 go_wp2
 rw[run_callFunc_extern Tryz.func175 (by kernel_rfl) (by kernel_rfl) (by kernel_rfl) (e:=Extern.AbiNoEscape.same) (by kernel_rfl)]
 rw[Lib.run_noEscape]
 simp only[Result.andThen]
 rw[Oper.upon_value]
 go_wp2
 rw[Lib.run_from_unsafe w ⟨b,0,none⟩ Tryz.underlying212 Tryz.underlying174 hj hsh Zl2]
 simp only[Result.andThen]
 rw[Oper.upon_value]
 go_wp2
 go_end0
 exact⟨rfl,rfl⟩
section
variable {P:Program}{w:World}
theorem Zan(t u ty e:TypeId)(i:TypeInfo)(ht:P.underlying t=some (.slice e))(hu:P.underlying u=some .string)(hi:P.info? e=some i)(hz:i.zero=some (.int .u8 0))(hsize:i.size=1)(hby:i.bytes=1)
  (v:Value) (n:Nat) (xs:List Value) (hown:w.ownsRow 0 e 1 v n xs) (s:ByteArray) (h63:n+s.size<=maxLen) (hbytes:n+s.size<=140737488355328) {v':Value} {w':World} (h:(Builtin.append_ #[t,u] ty #[v,.string s]).run P w=.ok v' w') :
  (∀ g,v'.ownBlock=some g->w.heap.size<=g)\/v'.ownBlock=v.ownBlock:=by
 have hsmall:n+s.size<=9223372036854775807:=by simp only[maxLen] at h63;omega
 have hxl:xs.length=n:=by simpa using hown.1
 rcases hown.2 with⟨rfl,rfl⟩|⟨g,cap,cur,rfl,hbg,hg,hnc,hcm,hcs,htake⟩
 ·by_cases hm:s.size=0
  ·have hf:=Lib.run_firstCells_string (P:=P) (w:=w) 1 s
   rw[hm] at hf
   have hr:(Builtin.append_ #[t,u] ty #[.slice none 0 0,.string s]).run P w=.ok (.slice none 0 0) w:=by
    simp[Builtin.append_,run_underlying ht,run_underlying hu,sizeOf,typeInfo,hi,hsize,Builtin.lenOf,hm,hf]
   rw[hr] at h
   injection h with h1 h2
   subst h1
   exact .inr rfl
  ·rw[run_append_nil_string (P:=P) w t u ty e i (.int .u8 0) ht hu hi hz s (by omega) (by omega) (by rw[hby];omega)] at h
   injection h with h1 h2
   subst h1
   exact .inl fun g hg=>by simp[Value.ownBlock] at hg;omega
 ·by_cases hroom:n+s.size<=cap
  ·have hcs':cur.size=cap:=by simpa using hcs
   rw[Lib.run_append_room_string (P:=P) w t u ty e i ht hu hi hsize g n cap cur hg s hroom (by omega)] at h
   injection h with h1 h2
   subst h1
   exact .inr rfl
  ·have holds:∀ j u,xs[j]? = some u->w.cell? ((⟨g,0,none⟩:Addr).add j)=some u:=hown.cells (g:=g) rfl
   rw[Lib.run_append_grow_string (P:=P) w t u ty e i (.int .u8 0) ht hu hi hz ⟨g,0,none⟩ n cap xs (by rw[hsize];simpa using hxl) holds s (by omega) (by omega) (by rw[hby];exact growslice_fits (by omega) (by omega))] at h
   injection h with h1 h2
   subst h1
   exact .inl fun g hg=>by simp[Value.ownBlock] at hg;omega
theorem Z9C{ops:Array Oper}{rest:List Oper}{o:Oper}{a:Act}{Q:Exit->Act->World->Prop}(hgd:o.guard=none)(sl x:Operand)(t u:TypeId)
  (ho:o.op=.call { callee:=.builtin .append,args:=#[sl,x],argTypes:=#[t,u] }) (e:TypeId) (i:TypeInfo) (ht:P.underlying t=some (.slice e)) (hu:P.underlying u=some .string) (hi:P.info? e=some i) (hz:i.zero=some (.int .u8 0))
  (hsize:i.size=1) (hby:i.bytes=1) (v:Value) (n:Nat) (xs:List Value) (hs:a.eval sl=v) (hown:w.ownsRow 0 e 1 v n xs) (s:ByteArray) (hx:a.eval x=.string s) (h63:n+s.size<=maxLen) (hbytes:n+s.size<=140737488355328)
  (h:∀ v' w',w'.ownsRow 0 e 1 v' (n+s.size) (xs++Lib.strCells s)->w.grownBy w' v.ownBlock->((∀ g,v'.ownBlock=some g->w.heap.size<=g)\/v'.ownBlock=v.ownBlock)->wpList P ops Q rest (a.put o.dst v') w'):wpList P ops Q (o::rest) a w:=by
 refine wpList_plain hgd fun K hK=>?_
 obtain⟨v',w',hr,h2,h3,_⟩:=Lib.run_append_own_string (P:=P) w 0 t u o.type e i ht hu hi hz hsize hby v n xs hown s h63 hbytes (Nat.zero_le _)
 have hw:=Zan (P:=P) t u o.type e i ht hu hi hz hsize hby v n xs hown s h63 hbytes hr
 unfold Oper.wp execOp
 simp only[ho,resolve,invoke,builtin,Sem.run_bind,Sem.run_pure,Result.andThen_ok,List.map_toArray,List.map_cons,List.map_nil,hs,hx,hr]
 exact hK _ _ (h v' w' h2 h3 hw)
end
def ZfB (b:Nat)(v:Value)(w:World):Prop:=∃ p,(p=.pointer none\/p=.pointer (some ⟨b,0,none⟩))/\w.heap[b]? = some (.cells #[p,v] 177 (0,0))
theorem ZcX(b:Nat)(v:Value)(w:World)(h:ZfB b v w):Calls Tryz.prog 162 #[.pointer (some ⟨b,0,none⟩)] w fun e w'=>e=.returned (.tuple #[]) /\
  w'.heap[b]? = some (.cells #[.pointer (some ⟨b,0,none⟩),v] 177 (0,0))/\w'.heap.size=w.heap.size/\w'.os=w.os/\w'.tape=w.tape/\w'.output=w.output/\∀ k,k≠b->w'.heap[k]? = w.heap[k]?:=by
 obtain⟨p,hp,hb⟩:=h
 rcases hp with rfl|rfl
 ·refine(Zb2 b w (by rw[Lib.cell_of_heap hb];rfl) (by simp[World.shape?,hb]) (Lib.frozen_of_heap hb 0)).mono ?_
  rintro e w' ⟨rfl,rfl⟩
  exact⟨rfl,by simp[World.setCell,Array.getElem?_modify,hb],by simp[World.setCell],rfl,rfl,rfl,fun k hk=>Below.heap_setCell w ⟨b,0,none⟩ _ k hk⟩
 ·refine(ZbJ b w (by rw[Lib.cell_of_heap hb];rfl)).mono ?_
  rintro e w' ⟨rfl,rfl⟩
  exact⟨rfl,hb,rfl,rfl,rfl,rfl,fun _ _=>rfl⟩
set_option maxHeartbeats 2000000 in
set_option maxRecDepth 100000 in
theorem ZiS(b:Nat)(v:Value)(bs:List Value)(s:ByteArray)(w:World)(h:ZfB b v w)(hown:w.ownsRow 0 5 1 v bs.length bs)(hne:v.ownBlock≠some b)(hlen:bs.length+s.size<=140737488355328) :
  Calls Tryz.prog 129 #[.pointer (some ⟨b,0,none⟩),.string s] w fun e w'=>e=.returned (.tuple #[.int .i64 s.size,.nilIface]) /\
   ∃ v',w'.heap[b]? = some (.cells #[.pointer (some ⟨b,0,none⟩),v'] 177 (0,0))/\w'.ownsRow 0 5 1 v' (bs.length+s.size) (bs++Lib.strCells s)/\v'.ownBlock≠some b /\
    ((∀ g,v'.ownBlock=some g->w.heap.size<=g)\/v'.ownBlock=v.ownBlock)/\BelM (fun k=>w.heap.size<=k\/k=b\/v.ownBlock=some k) w w':=by
 obtain⟨i0,hi,hz0,hz1,hz2⟩:=info_parts Zgv
 have hltb:b < w.heap.size:=by obtain⟨p,_,hb⟩:=h;exact(Array.getElem?_eq_some_iff.1 hb).1
 go_enter Tryz.func129,Tryz.ntmps129
 go_wp2_with (go_at_call 162;refine(ZcX b v _ h).mono ?_)
 rintro e w1 ⟨rfl,hbk,hsz,hos,htp,hou,ho1⟩
 have HO1:=Lib.hid ho1
 have HS:=Lib.hid hsz
 have HX:=Lib.hid (And.intro hos (And.intro htp hou))
 clear ho1 hsz hos htp hou
 have hown1:w1.ownsRow 0 5 1 v bs.length bs:=by
  refine⟨hown.1,?_⟩
  rcases hown.2 with h0|⟨g,cap,cur,h1,h2,h3,h4⟩
  ·exact .inl h0
  ·exact .inr ⟨g,cap,cur,h1,h2,(HO1.out g (fun e=>hne (by rw[h1,e];rfl))).trans h3,h4⟩
 have c0:w1.cell? ⟨b,0,none⟩=some (.pointer (some ⟨b,0,none⟩)):=by rw[Lib.cell_of_heap hbk];rfl
 have c1:w1.cell? ⟨b,1,none⟩=some v:=by rw[Lib.cell_of_heap hbk];rfl
 go_wp2_with (at_builtin;refine Z9C rfl _ _ 175 9 rfl 5 i0 Tryz.underlying175 Tryz.underlying9 hi hz0 hz1 hz2 _ _ _ rfl hown1 s rfl ?c3 ?c4 ?_)
 case c3=>unfold maxLen;omega
 case c4=>omega
 intro v' w2 hown' hgrow hwh
 have hlt:b < w1.heap.size:=by rw[HS.out];exact hltb
 have hb2:w2.heap[b]? = some (.cells #[.pointer (some ⟨b,0,none⟩),v] 177 (0,0)):=by
  rw[hgrow.block b hlt (fun e=>hne e.symm)]
  exact hbk
 have d0:w2.cell? ⟨b,0,none⟩=some (.pointer (some ⟨b,0,none⟩)):=by rw[Lib.cell_of_heap hb2];rfl
 have d1:w2.cell? ⟨b,1,none⟩=some v:=by rw[Lib.cell_of_heap hb2];rfl
 have f1:w2.frozen? ⟨b,1,none⟩=false:=Lib.frozen_of_heap hb2 1
 have hne':v'.ownBlock≠some b:=by
  intro e
  rcases hwh with h1|h1
  ·have:=h1 b e;omega
  ·exact hne (h1 ▸ e)
 have HW:=Lib.hid hwh
 have HN:=Lib.hid hne'
 have HG:=Lib.hid hgrow
 clear hwh hne'
 obtain⟨ao,n',cap,rfl⟩:∃ ao n' cap,v'=.slice ao n' cap:=by
  rcases hown'.2 with⟨hv,_⟩|⟨g,cap,cur,hv,_⟩
  ·exact⟨_,_,_,hv⟩
  ·exact⟨_,_,_,hv⟩
 go_wp2
 go_ret2
 refine⟨rfl,.slice ao n' cap,?_,?_,HN.out,?_,?_⟩
 ·simp[World.setCell,Array.getElem?_modify,hb2]
 ·refine⟨hown'.1,?_⟩
  rcases hown'.2 with h0|⟨g,cap',cur,h1,h2,h3,h4⟩
  ·exact .inl h0
  ·exact .inr ⟨g,cap',cur,h1,h2,(Below.heap_setCell _ _ _ _ (fun e=>HN.out (by rw[h1,e];rfl))).trans h3,h4⟩
 ·rw[HS.out] at HW;exact HW.out
 ·have hX:=HX.out
  refine⟨HG.out.os.trans hX.1,HG.out.tape.trans hX.2.1,HG.out.output.trans hX.2.2,?_,fun k hk hm=>?_⟩
  ·have:=HG.out.size;rw[HS.out] at this;simpa[World.setCell] using this
  ·have hkb:k≠b:=fun e=>hm (.inr (.inl e))
   rw[Below.heap_setCell _ _ _ _ hkb,HG.out.block k (by rw[HS.out];exact hk) (fun e=>hm (.inr (.inr e.symm))),HO1.out k hkb]
def toI (l:List UInt8):List Int:=l.map fun b=>(b.toNat:Int)
theorem Zbt(l:List UInt8):(toI l).length=l.length:=by simp[toI]
theorem Zeh{w:World}{C:Cx}(s:List UInt8):RepL C w (Lib.strCells ⟨s.toArray⟩) (((toI s).map (D.int .u8)).flatMap D.cells):=by
 rw[Z9l]
 have e:Lib.strCells ⟨s.toArray⟩=s.map fun b=>Value.int .u8 b.toNat:=by simp[Lib.strCells]
 rw[e]
 refine⟨by simp[toI],fun v hv=>?_,fun i v d hv hd=>?_⟩
 ·obtain⟨b,_,rfl⟩:=List.mem_map.1 hv;rfl
 ·simp only[toI,List.getElem?_map] at hv hd
  cases hs:s[i]? with
  | none=>rw[hs] at hv;simp at hv
  | some b =>
   rw[hs] at hv hd
   simp at hv hd
   subst hv hd
   exact .int _ _ (by have:=b.toNat_lt;unfold inR;simp only[kLo,kHi];omega)
theorem ZfQ(l:List Int):∀ x ∈ l.map (D.int .u8),x.cells.length=1:=by
 intro x hx;obtain⟨n,_,rfl⟩:=List.mem_map.1 hx;rfl
theorem ZiK{w:World}{C:Cx}{v:Value}{id:Nat}(h:Rep w C v (.sp id)){g:Nat}(hs:C.σ id=.pointer (some ⟨g,0,none⟩)):v=.pointer none\/v=.pointer (some ⟨g,0,none⟩):=by
 cases h with
 | sp0 _ _=>exact .inl rfl
 | sp1 _ g' _ h'=>rw[hs] at h';injection h' with h';injection h' with h';injection h' with h';subst h';exact .inr rfl
theorem Zc1{w:World}{C:Cx}{id g:Nat}{d:D}(hs:C.σ id=.pointer (some ⟨g,0,none⟩))(h:BRep C w 0 id (.bbox 177 [.sp id,d])):∃ v,ZfB g v w/\Rep w C v d/\∀ o,¬ C.F g o:=by
 obtain⟨g',vs,q1,q2,q3,q4,q5⟩:=h
 rw[hs] at q1;injection q1 with q1;injection q1 with q1;injection q1 with q1
 subst q1
 have hl:=q4.len
 obtain⟨p,v,hvs⟩:∃ p v,vs=#[p,v]:=by
  obtain⟨l⟩:=vs
  match l,hl with
  | [p,v],_=>exact⟨p,v,rfl⟩
 subst hvs
 exact⟨v,⟨p,ZiK (q4.rep 0 p _ rfl rfl) hs,q3⟩,q4.rep 1 v _ rfl rfl,q5⟩
theorem Zln(I:World->Prop)(id nid:Nat)(s:List UInt8)(l:List Int)(H:Nat->Option Blk)(d:D)(eff:Eff)(hid:H id=some (.bbox 177 [.sp id,d]))(hlen:l.length+s.length<=140737488355328)(hne:nid≠id)
  (hd:(d=.nils/\l=[]/\eff=[(nid,some (.vec 5 1 ((l++toI s).map (D.int .u8)) false)),(id,some (.bbox 177 [.sp id,.own nid (l.length+s.length)]))]) \/
   ∃ id2,d=.own id2 l.length/\H id2=some (.vec 5 1 (l.map (D.int .u8)) false)/\id2≠id/\eff=[(id2,none),(nid,some (.vec 5 1 ((l++toI s).map (D.int .u8)) false)),(id,some (.bbox 177 [.sp id,.own nid (l.length+s.length)]))]) :
  Zi Tryz.prog I 129 [.ptr id 0,.str s] H nid (.tup [.int .i64 s.length,.err false]) eff:=by
 refine⟨by kernel_rfl,fun i0 w C B args hI hb0 hM hH hF hbase hn hal hrep=>?_⟩
 obtain⟨a0,a1,rfl⟩:∃ a0 a1,args=[a0,a1]:=by
  match args,hal with
  | [a,b],_=>exact⟨a,b,rfl⟩
 have r0:=hrep 0 a0 _ rfl rfl
 have r1:=hrep 1 a1 _ rfl rfl
 clear hrep
 obtain⟨rfl,hsl⟩:=Z7B r1
 cases r0 with
 | ptr _ _ g hlid hσ =>
 obtain⟨k0,k1⟩:=hH.rep id _ hid
 obtain⟨v,hB,hv,hnoF⟩:=Zc1 hσ k1
 have hgM:B.M g:=hH.own id _ hid g (by rw[hσ];rfl)
 have hglt:g < w.heap.size:=by obtain⟨p,_,hb⟩:=hB;exact(Array.getElem?_eq_some_iff.1 hb).1
 -- the row
 obtain⟨vals,hown,hvals,hvne,hvM,hvF⟩:∃ vals,w.ownsRow 0 5 1 v vals.length vals/\vals.length=l.length/\v.ownBlock≠some g/\(∀ k,v.ownBlock=some k->B.M k)/\(∀ k o,v.ownBlock=some k->¬ C.F k o):=by
  rcases hd with⟨rfl,rfl,_⟩|⟨id2,rfl,h2,h3,_⟩
  ·cases hv
   exact⟨[],World.ownsRow_nil _ _ _ _,rfl,by simp[Value.ownBlock],by simp[Value.ownBlock],by simp[Value.ownBlock]⟩
  ·cases hv with
   | own _ _ c A hl2 hm2 hσ2 =>
    obtain⟨_,vals,q1,q2,q3,q4⟩:=hH.rep id2 _ h2
    rw[hσ2] at q1
    have hvl:vals.length=l.length:=by have:=q1.1;simpa using this
    refine⟨vals,by rw[hvl];simpa using q1,hvl,fun e=>?_,fun k hk=>hH.own id2 _ h2 k (by rw[hσ2,Z3m];exact hk),fun k o hk hF'=>?_⟩
    ·exact hH.apart id2 id _ _ h2 hid h3 g (by rw[hσ2,Z3m];exact e) (by rw[hσ];rfl)
    ·have:=((q4 k (by rw[hσ2];exact hk)).1 o hF').1;cases this
 have hssz:(⟨s.toArray⟩:ByteArray).size=s.length:=Z5m s
 refine(ZiS g v vals ⟨s.toArray⟩ w hB hown hvne (by rw[hvals,hssz];exact hlen)).mono ?_
 rintro e w' ⟨rfl,v',e1,e2,e3,e4,e5⟩
 rw[hssz,hvals] at e2
 have hbel:BelM B.M w w':=⟨e5.os,e5.tape,e5.output,e5.size,fun k hk hm=>e5.block k hk (by
  rintro(h|h|h)
  ·omega
  ·exact hm (h ▸ hgM)
  ·exact hm (hvM k h))⟩
 -- outside the two blocks nothing has changed
 have hout:∀ k,k < w.heap.size->k≠g->v.ownBlock≠some k->w'.heap[k]? = w.heap[k]?:=fun k hk h1 h2=>e5.block k hk (by rintro(h|h|h);omega;exact h1 h;exact h2 h)
 have hFk:∀ b o,C.F b o->w'.heap[b]? = w.heap[b]?:=fun b o hb=>hout b (hF b o hb) (fun e=>hnoF o (e ▸ hb)) (fun e=>hvF b o e hb)
 have ee:=Cx.new_ext (C:=C) (w:=w) (w':=w') hn v' hFk
 have hs2:(C.new nid v').σ nid=v':=by simp[Cx.new,upd]
 have hσ':(C.new nid v').σ id=.pointer (some ⟨g,0,none⟩):=by rw[ee.σ id hlid];exact hσ
 obtain⟨A',c',rfl⟩:∃ A' c',v'=.slice A' (l.length+s.length) c':=by
  rcases e2.2 with⟨h1,h2⟩|⟨g',cap,cur,h1,_⟩
  ·exact⟨none,0,by rw[h1,h2]⟩
  ·exact⟨_,_,h1⟩
 have hlm:l.length+s.length<=maxLen:=by unfold maxLen;omega
 have hnewF:∀ k,(Value.slice A' (l.length+s.length) c').ownBlock=some k->∀ o,¬ C.F k o:=by
  intro k hk o hb
  rcases e4 with h|h
  ·have:=h k hk;have:=hF k o hb;omega
  ·exact hvF k o (h ▸ hk) hb
 -- the row's new block stands for the new list
 have hvec:∀ (q3:RepL (cF C.F) w vals ((l.map (D.int .u8)).flatMap D.cells)),BRep (C.new nid (.slice A' (l.length+s.length) c')) w' 0 nid (.vec 5 1 ((l++toI s).map (D.int .u8)) false):=by
  intro q3
  refine⟨vals++Lib.strCells ⟨s.toArray⟩,?_,ZfQ _,?_,?_⟩
  ·rw[hs2];simpa[Zbt] using e2
  ·rw[List.map_append,List.flatMap_append]
   exact(q3.ext ee.cF).append (Zeh s)
  ·intro k hk
   rw[hs2] at hk
   exact⟨fun o ho=>absurd ho (hnewF k hk o),fun h=>by cases h⟩
 have hbox:BRep (C.new nid (.slice A' (l.length+s.length) c')) w' 0 id (.bbox 177 [.sp id,.own nid (l.length+s.length)]):=by
  refine⟨g,#[.pointer (some ⟨g,0,none⟩),.slice A' (l.length+s.length) c'],hσ',Nat.zero_le _,e1,?_,hnoF⟩
  have x1:Rep w' (C.new nid (.slice A' (l.length+s.length) c')) (.pointer (some ⟨g,0,none⟩)) (.sp id):=.sp1 id g (Or.inl hlid) hσ'
  have x2:Rep w' (C.new nid (.slice A' (l.length+s.length) c')) (.slice A' (l.length+s.length) c') (.own nid (l.length+s.length)):=.own nid _ c' A' (Or.inr rfl) hlm hs2
  exact(RepL.one1 rfl x1).append (RepL.one1 rfl x2)
 -- everything else is as it was
 have hrest:∀ j bj,j≠id->(∀ k,Zj (C.σ j)=some k->v.ownBlock≠some k)->H j=some bj->(C.new nid (.slice A' (l.length+s.length) c')).live j/\BRep (C.new nid (.slice A' (l.length+s.length) c')) w' 0 j bj:=by
  intro j bj hj hv hb
  obtain⟨h1,h2⟩:=hH.rep j bj hb
  exact⟨.inl h1,h2.keep h1 ee (fun k hk=>hout k (h2.lt k hk).2 (fun e=>hH.apart j id _ _ hb hid hj k hk (by rw[hσ,e];rfl)) (hv k hk)) (fun k o _ h=>h)⟩
 have hrepr:Rep w' (C.new nid (.slice A' (l.length+s.length) c')) (.tuple #[.int .i64 ((⟨s.toArray⟩:ByteArray).size:Int),.nilIface]) (.tup [.int .i64 s.length,.err false]):=by
  rw[hssz]
  refine .tup [.int .i64 s.length,.nilIface] _ rfl ?_
  intro i v d hv hd
  match i with
  | 0=>simp at hv hd;subst hv hd;exact .int _ _ (by unfold inR;simp only[kLo,kHi];omega)
  | 1=>simp at hv hd;subst hv hd;exact .err0
  | i+2=>simp at hv
 have hdead:∀ b,H nid≠some b:=fun b hb=>hn (hH.rep nid b hb).1
 have hfin:∀ H',(∀ j,j≠id->j≠nid->∀ b,H' j=some b->H j=some b/\∀ k,Zj (C.σ j)=some k->v.ownBlock≠some k)->H' nid=some (.vec 5 1 ((l++toI s).map (D.int .u8)) false)->H' id=some (.bbox 177 [.sp id,.own nid (l.length+s.length)]) ->
   RepL (cF C.F) w vals ((l.map (D.int .u8)).flatMap D.cells)->HOK (C.new nid (.slice A' (l.length+s.length) c')) w' B H':=by
  intro H' hold hnew hnb q3
  have bσ:∀ j b,j≠id->j≠nid->H' j=some b->(C.new nid (.slice A' (l.length+s.length) c')).σ j=C.σ j:=fun j b h1 h2 h3=>ee.σ j (hH.rep j b (hold j h1 h2 b h3).1).1
  have bnid:∀ k,Zj (Value.slice A' (l.length+s.length) c')=some k->w.heap.size<=k\/v.ownBlock=some k:=by
   intro k hk
   rw[Z3m] at hk
   rcases e4 with h|h
   ·exact .inl (h k hk)
   ·exact .inr (h ▸ hk)
  have apn:∀ j b,j≠id->j≠nid->H' j=some b->∀ k,Zj (C.σ j)=some k->Zj (Value.slice A' (l.length+s.length) c')≠some k:=by
   intro j b h1 h2 h3 k hk hk2
   obtain⟨h4,h5⟩:=hold j h1 h2 b h3
   rcases bnid k hk2 with h|h
   ·have:=((hH.rep j b h4).2.lt k hk).2;omega
   ·exact h5 k hk h
  have apb:∀ j b,j≠id->j≠nid->H' j=some b->∀ k,Zj (C.σ j)=some k->k≠g:=by
   intro j b h1 h2 h3 k hk e
   exact hH.apart j id b _ (hold j h1 h2 b h3).1 hid h1 k hk (by rw[hσ,e];rfl)
  have apnb:∀ k,Zj (Value.slice A' (l.length+s.length) c')=some k->k≠g:=by
   intro k hk e
   rcases bnid k hk with h|h
   ·omega
   ·exact hvne (e ▸ h)
  refine⟨fun j b hj=>?_,fun j b hj k hk=>?_,fun j k cs hj=>?_,fun j j' b b' hj hj' hjj k hk hk'=>?_⟩
  ·by_cases h1:j=id
   ·subst h1;rw[hnb] at hj;injection hj with hj;subst hj;exact⟨.inl hlid,hbox⟩
   ·by_cases h2:j=nid
    ·subst h2;rw[hnew] at hj;injection hj with hj;subst hj;exact⟨.inr rfl,hvec q3⟩
    ·obtain⟨h3,h4⟩:=hold j h1 h2 b hj
     exact hrest j b h1 h4 h3
  ·by_cases h1:j=id
   ·subst h1;rw[hσ'] at hk;simp[Zj] at hk;subst hk;exact hgM
   ·by_cases h2:j=nid
    ·subst h2
     rw[hs2] at hk
     rcases bnid k hk with h|h
     ·exact hbase k h
     ·exact hvM k h
    ·rw[bσ j b h1 h2 hj] at hk
     exact hH.own j b (hold j h1 h2 b hj).1 k hk
  ·by_cases h1:j=id
   ·subst h1;rw[hnb] at hj;cases hj
   ·by_cases h2:j=nid
    ·subst h2;rw[hnew] at hj;cases hj
    ·rw[bσ j _ h1 h2 hj];exact hH.pin j k cs (hold j h1 h2 _ hj).1
  ·by_cases h1:j=id
   ·subst h1
    rw[hσ'] at hk;simp[Zj] at hk;subst hk
    by_cases h2:j'=nid
    ·subst h2;rw[hs2] at hk';exact apnb _ hk' rfl
    ·rw[bσ j' b' (fun e=>hjj e.symm) h2 hj'] at hk'
     exact apb j' b' (fun e=>hjj e.symm) h2 hj' _ hk' rfl
   ·by_cases h2:j=nid
    ·subst h2
     rw[hs2] at hk
     by_cases h3:j'=id
     ·subst h3;rw[hσ'] at hk';simp[Zj] at hk';subst hk';exact apnb _ hk rfl
     ·rw[bσ j' b' h3 (fun e=>hjj e.symm) hj'] at hk'
      exact apn j' b' h3 (fun e=>hjj e.symm) hj' k hk' hk
    ·rw[bσ j b h1 h2 hj] at hk
     by_cases h3:j'=id
     ·subst h3;rw[hσ'] at hk';simp[Zj] at hk';subst hk';exact apb j b h1 h2 hj _ hk rfl
     ·by_cases h4:j'=nid
      ·subst h4;rw[hs2] at hk';exact apn j b h1 h2 hj k hk hk'
      ·rw[bσ j' b' h3 h4 hj'] at hk'
       exact hH.apart j j' b b' (hold j h1 h2 b hj).1 (hold j' h3 h4 b' hj').1 hjj k hk hk'
 refine⟨_,C.new nid (.slice A' (l.length+s.length) c'),rfl,hbel,ee,hrepr,?_,fun b o h=>Nat.lt_of_lt_of_le (hF b o h) e5.size,fun _ h=>h,fun _ _ h=>.inl h⟩
 rcases hd with⟨rfl,rfl,rfl⟩|⟨id2,rfl,h2,h3,rfl⟩
 ·cases hv
  have hvn:vals=[]:=List.eq_nil_of_length_eq_zero hvals
  refine hfin _ (fun j h1 h2 b hb=>?_) (by simp[Z9,upd,hne]) (by simp[Z9,upd]) (by rw[hvn];exact RepL.nil)
  simp[Z9,upd,h1,h2] at hb
  exact⟨hb,by simp[Value.ownBlock]⟩
 ·cases hv with
  | own _ _ c A hl2 hm2 hσ2 =>
   obtain⟨_,vals2,q1,q2,q3,q4⟩:=hH.rep id2 _ h2
   rw[hσ2] at q1
   have hn2:nid≠id2:=fun e=>hdead _ (e ▸ h2)
   have hvv:vals2=vals:=by
    rcases q1.2 with⟨r1,r2⟩|⟨g1,cap1,cur1,r1,r2,r3,r4,r5,r6,r7⟩
    ·have r2':l.length=0:=by simpa using r2
     rw[List.eq_nil_of_length_eq_zero (l:=vals) (by omega),List.eq_nil_of_length_eq_zero (l:=vals2) (by have:=q1.1;simp at this;omega)]
    ·rcases hown.2 with⟨t1,t2⟩|⟨g2,cap2,cur2,t1,t2,t3,t4,t5,t6,t7⟩
     ·rw[t1] at r1;cases r1
     ·rw[r1] at t1;injection t1 with t1 _ _;injection t1 with t1;injection t1 with t1
      subst t1
      rw[r3] at t3;injection t3 with t3;injection t3 with t3
      subst t3
      rw[<- r7,<- t7];simp[hvals]
   refine hfin _ (fun j h1 h2' b hb=>?_) (by simp[Z9,upd,hne]) (by simp[Z9,upd]) (by rw[<- hvv];exact q3)
   by_cases hj2:j=id2
   ·subst hj2;simp[Z9,upd,h1,h2'] at hb
   ·simp[Z9,upd,h1,h2',hj2] at hb
    exact⟨hb,fun k hk hk2=>hH.apart j id2 _ _ hb h2 hj2 k hk (by rw[hσ2,Z3m];exact hk2)⟩
theorem ZbH(I:World->Prop){id nid id2 n:Nat}{s:List UInt8}{l:List Int}{H:Nat->Option Blk}(hid:H id=some (.bbox 177 [.sp id,.own id2 n]))(h2:H id2=some (.vec 5 1 (l.map (D.int .u8)) false))(hn:n=l.length)(hlen:l.length+s.length<=140737488355328)(hne:nid≠id) :
  Zi Tryz.prog I 129 [.ptr id 0,.str s] H nid (.tup [.int .i64 s.length,.err false]) [(id2,none),(nid,some (.vec 5 1 ((l++toI s).map (D.int .u8)) false)),(id,some (.bbox 177 [.sp id,.own nid (l++toI s).length]))]:=by
 subst hn
 exact Zln I id nid s l H _ _ hid hlen hne (.inr ⟨id2,rfl,h2,fun e=>(by rw[e,hid] at h2;cases h2),by simp[Zbt]⟩)
set_option maxHeartbeats 2000000 in
theorem ZcV(b g cap:Nat)(p:Value)(cur:Array Value)(l:List UInt8)(w:World)(h0:l≠[])(hbk:w.heap[b]? = some (.cells #[p,.slice (some ⟨g,0,none⟩) l.length cap] 177 (0,0)))
  (hown:w.ownsRow 0 5 1 (.slice (some ⟨g,0,none⟩) l.length cap) l.length (Lib.byteCells l)) :
  Calls Tryz.prog 130 #[.pointer (some ⟨b,0,none⟩)] w fun e w'=>e=.returned (.string ⟨l.toArray⟩)/\BelM (fun k=>w.heap.size<=k\/k=g) w w':=by
 have hl0:l.length≠0:=by simpa using h0
 obtain⟨cur,hg,hnc,hcm,hcs⟩:∃ cur,w.heap[g]? = some (.cells cur 5 (0,0))/\l.length<=cap/\cap<=maxLen/\cur.size=cap * 1:=by
  rcases hown.2 with⟨_,hz⟩|⟨g',cap',cur,hv,_,h1,h2,h3,h4,_⟩
  ·exact absurd hz hl0
  ·injection hv with hv1 _ hv2;injection hv1 with hv1;injection hv1 with hv1
   subst hv1 hv2;exact⟨cur,h1,h2,h3,h4⟩
 have c1:w.drew.cell? ⟨b,1,none⟩=some (.slice (some ⟨g,0,none⟩) l.length cap):=by
  have:w.drew.heap[b]? = some (.cells #[p,.slice (some ⟨g,0,none⟩) l.length cap] 177 (0,0)):=hbk
  rw[Lib.cell_of_heap this];rfl
 have hSD:(Builtin.unsafeSliceData_ #[175] 203 #[.slice (some ⟨g,0,none⟩) l.length cap]).run Tryz.prog w.drew=.ok (.pointer (some ⟨g,0,none⟩)) w.drew :=
  Lib.run_unsafeSliceData_row _ _ _ _ _ _ (by omega)
 have hUS:(Builtin.unsafeString_ #[203,3] 9 #[.pointer (some ⟨g,0,none⟩),.int .i64 l.length]).run Tryz.prog w.drew=.ok (.string ⟨l.toArray⟩) (w.drew.freeze ⟨g,0,none⟩ l.length):=by
  refine Lib.run_unsafeString_row w.drew 203 3 9 5 Tryz.underlying203 (by kernel_rfl) g cur.size (by have hg':w.drew.heap[g]? = some (.cells cur 5 (0,0)):=hg;simp[World.shape?,hg']) l h0 (by omega) (by unfold maxLen at hcm;omega) ?_
  intro j x hx
  exact hown.cells (g:=g) rfl j (.int .u8 x.toNat) (by simp[Lib.byteCells,hx])
 have mixed:Tryz.prog.follows .mixedOrders=true:=by kernel_rfl
 have hbf:=Lib.below_freeze (Below.drew (Below.refl g w)) (p:=⟨g,0,none⟩) (Nat.le_refl _) l.length
 have hoth:∀ k,k≠g->(w.drew.freeze ⟨g,0,none⟩ l.length).heap[k]? = w.heap[k]?:=by
  intro k hk
  simp only[World.freeze,hl0,if_false]
  rw[Array.getElem?_modify]
  simp only[Ne.symm hk,if_false]
  rfl
 have HB:=Lib.hid (And.intro hbf hoth)
 clear hbf hoth
 go_enter Tryz.func130,Tryz.ntmps130
 go_wp2
 go_region_o
 all_goals (go_wp2;go_ret;exact⟨rfl,HB.out.1.os,HB.out.1.tape,HB.out.1.output,HB.out.1.size,fun k _ hm=>HB.out.2 k (fun e=>hm (.inr e))⟩)
theorem ZfG{P:Program}{C:Cx}{w w':World}{B:Bx}{H:Nat->Option Blk}{nid:Nat}{l:List UInt8}(hH:HOK C w B H)(hF:FB C w)(hb:Below w.heap.size w w')(hl:l.length<=maxLen) :
  ∃ v C',Ending.returned (.string ⟨l.toArray⟩)=.returned v/\BelM B.M w w'/\Ext C w C' w'/\Rep w' C' v (.str l)/\HOK C' w' B (Z9 H [])/\FB C' w'/\(∀ id,C'.live id->C.live id\/id=nid)/\∀ b o,C'.F b o->C.F b o\/B.M b:=by
 have ee:Ext C w C w':=⟨fun _ _ h=>h,fun b o h=>hb.block b (hF b o h),fun _ h=>h,fun _ _=>rfl⟩
 refine⟨_,C,rfl,BelM.of hb,ee,.str l hl,⟨fun id b h=>?_,hH.own,hH.pin,hH.apart⟩,fun b o h=>Nat.lt_of_lt_of_le (hF b o h) hb.size,fun _ h=>.inl h,fun _ _ h=>.inl h⟩
 obtain⟨k1,k2⟩:=hH.rep id b h
 exact⟨k1,k2.keep k1 ee (fun g hg=>hb.block g (k2.lt g hg).2) (fun _ _ _ h=>h)⟩
theorem ZcW{w:World}{C:Cx}{vals:List Value}{l:List Int}(h:RepL C w vals ((l.map (D.int .u8)).flatMap D.cells)):vals=Lib.byteCells (ZR l):=by
 rw[Z9l] at h
 have e:=Zd2 h
 rw[e]
 simp only[Lib.byteCells,ZR,List.map_map]
 apply List.map_congr_left
 intro n hn
 obtain⟨i,hi⟩:=List.getElem?_of_mem hn
 have hv:vals[i]? = some (.int .u8 n):=by rw[e];simp[hi]
 have:=h.rep i _ (.int .u8 n) hv (by simp[hi])
 cases this with
 | int _ _ hr =>
  unfold inR at hr;simp only[kLo,kHi] at hr
  simp only[Function.comp,UInt8.toNat_ofNat']
  congr 1;omega
theorem Zgx(I:World->Prop){id nid id2 n:Nat}{l:List Int}{H:Nat->Option Blk}(hid:H id=some (.bbox 177 [.sp id,.own id2 n]))(h2:H id2=some (.vec 5 1 (l.map (D.int .u8)) false))(hn:n=l.length) :
  Zi Tryz.prog I 130 [.ptr id 0] H nid (.str (ZR l)) [(id2,none),(id,none)]:=by
 subst hn
 refine⟨by kernel_rfl,fun i0 w C B args hI hb0 hM hH hF hbase hn hal hrep=>?_⟩
 obtain⟨a0,rfl⟩:∃ a0,args=[a0]:=by
  match args,hal with
  | [a],_=>exact⟨a,rfl⟩
 have r0:=hrep 0 a0 _ rfl rfl
 cases r0 with
 | ptr _ _ g hlid hσ =>
 obtain⟨k0,k1⟩:=hH.rep id _ hid
 obtain⟨v,⟨p,hp,hB⟩,hv,hnoF⟩:=Zc1 hσ k1
 have hdrop:HOK C w B (Z9 H [(id2,none),(id,none)]):=(hH.drop id2).drop id
 have plain:∀ w',Below w.heap.size w w'->ZR l=[]->∃ v C',Ending.returned (.string ⟨#[]⟩)=.returned v/\BelM B.M w w'/\Ext C w C' w'/\Rep w' C' v (.str (ZR l))/\HOK C' w' B (Z9 H [(id2,none),(id,none)])/\FB C' w'/\(∀ id,C'.live id->C.live id\/id=nid)/\∀ b o,C'.F b o->C.F b o\/B.M b:=by
  intro w' hb he
  rw[he]
  obtain⟨v,C',x⟩:=ZfG (P:=Tryz.prog) (l:=[]) (nid:=nid) hdrop hF hb (by simp)
  exact⟨v,C',x⟩
 cases hv with
 | own _ _ c A hl2 hm2 hσ2 =>
  obtain⟨_,vals,q1,q2,q3,q4⟩:=hH.rep id2 _ h2
  rw[hσ2] at q1
  have hvals:=ZcW q3
  have hbl:(ZR l).length=l.length:=by simp[ZR]
  rcases q1.2 with⟨r1,r2⟩|⟨g1,cap1,cur1,r1,r2,r3,r4,r5,r6,r7⟩
  ·injection r1 with r1 _ r3
   subst r1 r3
   have hl0:l.length=0:=by simpa using r2
   rw[hl0] at hB
   refine(Any.Builder_String_nil Tryz.lays169 Tryz.Builder_Extra_169 w.heap.size g p w hB).mono ?_
   rintro e w' ⟨rfl,hb⟩
   exact plain w' hb (List.eq_nil_of_length_eq_zero (by omega))
  ·injection r1 with r1 _ r8
   subst r1 r8
   by_cases hl0:l.length=0
   ·rw[hl0] at hB
    by_cases hc0:c=0
    ·subst hc0
     refine(Any.Builder_String_noroom Tryz.lays169 Tryz.Builder_Extra_169 w.heap.size g g1 p cur1 w (Nat.le_refl _) hB r3).mono ?_
     rintro e w' ⟨rfl,hb⟩
     exact plain w' hb (List.eq_nil_of_length_eq_zero (by omega))
    ·refine(Any.Builder_String_room Tryz.lays169 Tryz.Builder_Extra_169 w.heap.size g g1 c p w hc0 hB).mono ?_
     rintro e w' ⟨rfl,hb⟩
     exact plain w' hb (List.eq_nil_of_length_eq_zero (by omega))
   ·have hb1:w.heap[g]? = some (.cells #[p,.slice (some ⟨g1,0,none⟩) (ZR l).length c] 177 (0,0)):=by rw[hbl];exact hB
    have ho1:w.ownsRow 0 5 1 (.slice (some ⟨g1,0,none⟩) (ZR l).length c) (ZR l).length (Lib.byteCells (ZR l)):=by rw[hbl,<- hvals];simpa using q1
    refine(ZcV g g1 c p cur1 (ZR l) w (fun e=>hl0 (by rw[<- hbl,e];rfl)) hb1 ho1).mono ?_
    rintro e w' ⟨rfl,hb⟩
    have hg1M:B.M g1:=hH.own id2 _ h2 g1 (by rw[hσ2];rfl)
    have hnoF1:∀ o,¬ C.F g1 o:=fun o ho=>by have:=((q4 g1 (by rw[hσ2];rfl)).1 o ho).1;cases this
    have hsame:∀ k,k < w.heap.size->k≠g1->w'.heap[k]? = w.heap[k]?:=fun k hk h1=>hb.block k hk (by rintro(h|h);omega;exact h1 h)
    have ee:Ext C w C w':=⟨fun _ _ h=>h,fun b o h=>hsame b (hF b o h) (fun e=>hnoF1 o (e ▸ h)),fun _ h=>h,fun _ _=>rfl⟩
    have hbm:BelM B.M w w':=⟨hb.os,hb.tape,hb.output,hb.size,fun k hk hm=>hsame k hk (fun e=>hm (e ▸ hg1M))⟩
    refine⟨_,C,rfl,hbm,ee,.str _ (by rw[hbl];exact hm2),⟨fun j b h=>?_,hdrop.own,hdrop.pin,hdrop.apart⟩,fun b o h=>Nat.lt_of_lt_of_le (hF b o h) hb.size,fun _ h=>.inl h,fun _ _ h=>.inl h⟩
    by_cases h3:j=id
    ·subst h3;simp[Z9,upd] at h
    ·by_cases h4:j=id2
     ·subst h4;simp[Z9,upd,h3] at h
     ·have h5:H j=some b:=by simpa[Z9,upd,h3,h4] using h
      obtain⟨t1,t2⟩:=hH.rep j b h5
      exact⟨t1,t2.keep t1 ee (fun k hk=>hsame k (t2.lt k hk).2 (fun e=>hH.apart j id2 _ _ h5 h2 h4 k hk (by rw[hσ2,e];rfl))) (fun _ _ _ h=>h)⟩
set_option maxHeartbeats 10000000
structure ZM where
 name_:List UInt8
 ticks_:Int
 nominal_:Int
 drop_:Bool
 deriving DecidableEq
theorem La{G:Prop}(g:G:=by cases h;exact en ⟨rfl,wk []⟩):G:=g
theorem Lb{G:Prop}(g:G:=by refine es<|xr ?_;cases h;exact en fr):G:=g
theorem Lc{G:Prop}(g:G:=by refine xt<|xs<|rz ?_;refine es<|xr<|er ?_;cases h;exact en fr):G:=g
theorem Ld{G:Prop}(g:G:=by refine zz ?_;subst E J;exact La):G:=g
theorem Le{G:Prop}(g:G:=by refine xf<|xx<|ee ?_;exact La):G:=g
theorem Lf{G:Prop}(g:G:=by refine xt<|xs<|rz ?_;refine es<|xr<|br<|er ?_;cases h;exact en fr):G:=g
theorem Lg{G:Prop}(g:G:=by refine bh<|es<|xs<|rz ?_;exact Lb):G:=g
theorem Lh{G:Prop}(g:G:=by refine xt<|xs<|rz ?_;refine es<|xr<|er<|br<|er ?_;exact La):G:=g
theorem Li{G:Prop}(g:G:=by refine br<|er ?_;cases h;exact en fr):G:=g
theorem Lj{G:Prop}(g:G:=by refine zz ?_;subst E J;exact Lb):G:=g
theorem Lk{G:Prop}(g:G:=by refine xt<|xs<|rz ?_;refine es<|xr<|br<|er ?_;exact La):G:=g
theorem Ll{G:Prop}(g:G:=by refine xf<|xk<|bn<|es<|rz ?_;exact La):G:=g
theorem Lm{G:Prop}(g:G:=by refine xt<|xs<|rz ?_;refine es<|xr<|br<|br<|er ?_;exact La):G:=g
theorem Ln{G:Prop}(g:G:=by refine bn<|es<|rz ?_;exact La):G:=g
theorem Lo{G:Prop}(g:G:=by refine es<|xs<|rz ?_;exact Lb):G:=g
theorem Lp{G:Prop}(g:G:=by have k:=And.intro (of_decide_eq_false k.1) k.2;refine zz ?_;subst E J;refine es<|xs<|xf<|xx<|ee ?_;exact La):G:=g
theorem Lq{G:Prop}(g:G:=by refine zz ?_;subst E J;cases h;exact en ⟨rfl,wk [(0,some 4)]⟩):G:=g
theorem Lr{G:Prop}(g:G:=by refine zz ?_;subst E J;cases h;exact en ⟨rfl,wk [(0,some 3)]⟩):G:=g
theorem Ls{G:Prop}(g:G:=by refine xt<|xs<|rz ?_;refine es<|xr<|br ?_;exact La):G:=g
theorem Lt{G:Prop}(g:G:=by refine zz ?_;subst E J;refine es<|xt<|xs<|rz ?_;refine es<|xr<|er ?_;cases h;exact en fr):G:=g
theorem Lu{G:Prop}(g:G:=by refine zz ?_;subst E J;cases h;exact en ⟨rfl,wk [(3,some 6)]⟩):G:=g
theorem Lv{G:Prop}(g:G:=by cases h;exact en ⟨rfl,wk [(0,some 1)]⟩):G:=g
theorem Lw{G:Prop}(g:G:=by refine zz ?_;refine hd<|zz ?_;subst E J;exact Ln):G:=g
theorem Lx{G:Prop}(g:G:=by cases h;exact en ⟨rfl,wk [(1,some 9)]⟩):G:=g
theorem Ly{G:Prop}(g:G:=by refine zz ?_;subst E J;refine es<|xf<|xk<|bn<|es<|rz ?_;exact La):G:=g
theorem Lz{G:Prop}(g:G:=by subst E J;exact Lb):G:=g
theorem LA{G:Prop}(g:G:=by refine xs<|rz ?_;exact Lo):G:=g
theorem LB{G:Prop}(g:G:=by refine xt<|xs<|rz ?_;refine es<|xr<|er<|br ?_;exact La):G:=g
theorem LC{G:Prop}(g:G:=by refine bn ?_;exact La):G:=g
theorem LD{G:Prop}(g:G:=by refine zz ?_;subst E J;cases h;exact en ⟨rfl,wk [(1,some 4)]⟩):G:=g
theorem LE{G:Prop}(g:G:=by refine bh<|es<|xs<|rz ?_;refine es<|xr ?_;cases h;exact en (fI 0)):G:=g
theorem LF{G:Prop}(g:G:=by refine xf<|xk<|bn<|es<|xs<|rz ?_;exact Lb):G:=g
theorem LG{G:Prop}(g:G:=by refine xt<|xx<|ee<|bh<|es<|rz ?_;exact La):G:=g
theorem LH{G:Prop}(g:G:=by refine xt<|xs<|rz ?_;refine es<|xr<|br<|er<|br<|er ?_;exact La):G:=g
theorem LI{G:Prop}(g:G:=by refine zz ?_;subst E J;exact Ln):G:=g
theorem LJ{G:Prop}(g:G:=by refine es<|xr<|er ?_;cases h;exact en fr):G:=g
theorem LK{G:Prop}(g:G:=by refine bh<|bn<|es<|rz ?_;exact La):G:=g
theorem LL{G:Prop}(g:G:=by refine xf<|xk<|es<|xs<|rz ?_;exact Lb):G:=g
theorem LM{G:Prop}(g:G:=by refine zz ?_;subst E J;refine es<|xf<|xk<|bn ?_;exact La):G:=g
theorem LN{G:Prop}(g:G:=by refine xf<|xk<|bn<|bn<|es<|rz ?_;exact La):G:=g
theorem LO{G:Prop}(g:G:=by subst E J;exact La):G:=g
theorem LP{G:Prop}(g:G:=by refine xf<|xk<|bn ?_;exact La):G:=g
theorem LQ{G:Prop}(g:G:=by subst E J;exact Lo):G:=g
theorem LR{G:Prop}(g:G:=by refine zz ?_;subst E J;exact Lx):G:=g
theorem LS{G:Prop}(g:G:=by cases h;exact en (fI 0)):G:=g
def ZM.d (x:ZM):D:=.agg [.str x.name_,.int .i64 x.ticks_,.int .i64 x.nominal_,.bool x.drop_]
structure Z3 where
 Name:List UInt8
 Top:Int
 Height:Int
 Left:Int
 Width:Int
 Align:Int
 Bottom:Bool
 deriving DecidableEq
def Z3.d (x:Z3):D:=.agg [.str x.Name,.int .i64 x.Top,.int .i64 x.Height,.int .i64 x.Left,.int .i64 x.Width,.int .u8 x.Align,.bool x.Bottom]
structure Ze where
 In:Int
 Out:Int
 deriving DecidableEq
def Ze.d (x:Ze):D:=.agg [.int .i64 x.In,.int .i64 x.Out]
structure Zw where
 Color:Int
 Italic:Bool
 Underline:Bool
 deriving DecidableEq
def Zw.d (x:Zw):D:=.agg [.int .u8 x.Color,.bool x.Italic,.bool x.Underline]
structure Zd where
 Text:List UInt8
 Style:Zw
 Ruby:List UInt8
 deriving DecidableEq
def Zd.d (x:Zd):D:=.agg [.str x.Text,.int .u8 x.Style.Color,.bool x.Style.Italic,.bool x.Style.Underline,.str x.Ruby]
structure Z6 where
 Runs:List Zd
 deriving DecidableEq
def Z6.d (x:Z6):D:=.agg [.sl (x.Runs.map Zd.d)]
structure Z0 where
 ID:Int
 Span:Ze
 Region:List UInt8
 Kind:Int
 Speaker:List UInt8
 Rows:List Z6
 deriving DecidableEq
def Z0.d (x:Z0):D:=.agg [.int .i64 x.ID,.int .i64 x.Span.In,.int .i64 x.Span.Out,.str x.Region,.int .u8 x.Kind,.str x.Speaker,.sl (x.Rows.map Z6.d)]
structure Z4 where
 ID:Int
 Event:Int
 From:Int
 To:Int
 Author:List UInt8
 Text:List UInt8
 Done:Bool
 Lost:Bool
 deriving DecidableEq
def Z4.d (x:Z4):D:=.agg [.int .i64 x.ID,.int .i64 x.Event,.int .i64 x.From,.int .i64 x.To,.str x.Author,.str x.Text,.bool x.Done,.bool x.Lost]
structure Z2 where
 Title:List UInt8
 Lang:List UInt8
 Rate:Int
 Drop:Bool
 Last:Int
 Regions:List Z3
 Events:List Z0
 Comments:List Z4
 deriving DecidableEq
def Z2.d (x:Z2):D:=.agg [.str x.Title,.str x.Lang,.int .u8 x.Rate,.bool x.Drop,.int .i64 x.Last,.sl (x.Regions.map Z3.d),.sl (x.Events.map Z0.d),.sl (x.Comments.map Z4.d)]
structure Zn where
 Row:Int
 Col:Int
 Len:Int
 deriving DecidableEq
def Zn.d (x:Zn):D:=.agg [.int .i64 x.Row,.int .i64 x.Col,.int .i64 x.Len]
theorem Z0s:(∀ x,ZM.d x=.agg [.str x.name_,.int .i64 x.ticks_,.int .i64 x.nominal_,.bool x.drop_])/\(∀ x,Z3.d x=.agg [.str x.Name,.int .i64 x.Top,.int .i64 x.Height,.int .i64 x.Left,.int .i64 x.Width,.int .u8 x.Align,.bool x.Bottom])/\(∀ x,Ze.d x=.agg [.int .i64 x.In,.int .i64 x.Out])/\(∀ x,Zw.d x=.agg [.int .u8 x.Color,.bool x.Italic,.bool x.Underline])/\(∀ x,Zd.d x=.agg [.str x.Text,.int .u8 x.Style.Color,.bool x.Style.Italic,.bool x.Style.Underline,.str x.Ruby])/\(∀ x,Z6.d x=.agg [.sl (x.Runs.map Zd.d)])/\(∀ x,Z0.d x=.agg [.int .i64 x.ID,.int .i64 x.Span.In,.int .i64 x.Span.Out,.str x.Region,.int .u8 x.Kind,.str x.Speaker,.sl (x.Rows.map Z6.d)])/\(∀ x,Z4.d x=.agg [.int .i64 x.ID,.int .i64 x.Event,.int .i64 x.From,.int .i64 x.To,.str x.Author,.str x.Text,.bool x.Done,.bool x.Lost])/\(∀ x,Z2.d x=.agg [.str x.Title,.str x.Lang,.int .u8 x.Rate,.bool x.Drop,.int .i64 x.Last,.sl (x.Regions.map Z3.d),.sl (x.Events.map Z0.d),.sl (x.Comments.map Z4.d)])/\(∀ x,Zn.d x=.agg [.int .i64 x.Row,.int .i64 x.Col,.int .i64 x.Len]):=⟨fun _=>rfl,fun _=>rfl,fun _=>rfl,fun _=>rfl,fun _=>rfl,fun _=>rfl,fun _=>rfl,fun _=>rfl,fun _=>rfl,fun _=>rfl⟩
def Z47 (s_0:List UInt8)(r_1:Int)(x7:Int × Nat):Option (Nx (Int × Nat) (Int ⊕ Unit)) :=
 (if(decide (x7.2 < s_0.length)) then(if((Z0F s_0 x7.2) == r_1) then(some (.out (.inl x7.1))) else(some (.go ((IntKind.i64.wrap (x7.1+1)),(x7.2+Z0q s_0 x7.2))))) else(some (.out (.inr ()))))
def Z5o (s_0:List UInt8)(r_1:Int):Option (Int) :=
 ((iter (Z47 s_0 r_1) (0,0)).bind fun e8=>(match e8 with|Sum.inl e8=>(some e8)|Sum.inr (e8)=>(some (-1))))
theorem ZaJ{I:World->Prop}(hI:Stab I){s_0:List UInt8}{r_1:Int}{r:Int}(h:Z5o s_0 r_1=some r):AFun Tryz.prog I 160 [.str s_0,.int .i32 r_1] (.int .i64 r):=by
 have dd:=Z0s;have k:=True.intro;have q:=k;have rs:=Tryz.results160;unfold Z5o at h;refine .en hI Tryz.func160 Tryz.ntmps160 ?_;refine xs<|rz ?_;refine es<|xs<|rz ?_;refine es<|xs<|xs<|rz ?_;refine es<|xb ?_;obtain⟨e8,h0,h⟩:=bs h;refine Zb (fun x7=>⟨envL [(1,.int .i32 r_1),(5,.int .i64 x7.1),(9,.ptr 0 0)],Z5 [(0,.iter s_0 x7.2)],1,19⟩) (fun w=>match w with|Sum.inl _=>.ret|Sum.inr (_)=>.exit 0) (fun w=>match w with|Sum.inl e8=>⟨envL [(4,.int .i64 e8)],Z5 [],0,19⟩|Sum.inr (e8)=>⟨envL [],Z5 [],0,19⟩) h0 (wk [(0,some 3)]) (by intro w;rcases w with w|w<;>simp) ?_ ?_
 ·clear h;intro x7 y h;unfold Z47 at h;refine xs<|rK fun K _ E J=>zz ?_;obtain⟨k,h⟩|⟨k,h⟩:=iK k h
  ·have k:=And.intro (of_decide_eq_true k.1) k.2;refine zz ?_;subst E J;refine es<|xs<|xt<|xk<|es<|xb<|xs<|rz ?_;refine es<|xs<|xs<|rz ?_;refine es ?_;obtain⟨k,h⟩|⟨k,h⟩:=iK k h
   ·exact LB
   refine xf<|xk<|es<|rz ?_;exact LC
  exact Lp
 rcases e8 with e8|e8
 ·try dsimp only at h ⊢
  exact Li
 try dsimp only at h ⊢
 exact Lg
def Z2H (r_0:Int):Option (Int) :=
 (((if(decide (32<=r_0)) then(some (decide (r_0<=126))) else(some false)):Option (Bool)).bind fun v5=>(if v5 then(some (IntKind.i64.wrap (IntKind.i32.wrap (r_0 - 32)))) else((Z5o [32,33,34,35,36,37,38,39,40,41,42,43,44,45,46,47,48,49,50,51,52,53,54,55,56,57,58,59,60,61,62,63,64,65,66,67,68,69,70,71,72,73,74,75,76,77,78,79,80,81,82,83,84,85,86,87,88,89,90,91,92,93,94,95,96,97,98,99,100,101,102,103,104,105,106,107,108,109,110,111,112,113,114,115,116,117,118,119,120,121,122,123,124,125,126,194,161,194,162,194,163,194,164,194,165,194,166,194,167,194,169,194,171,194,174,194,176,194,183,194,187,194,189,194,191,195,128,195,129,195,130,195,131,195,132,195,133,195,134,195,135,195,136,195,137,195,138,195,139,195,140,195,141,195,142,195,143,195,145,195,146,195,147,195,148,195,149,195,150,195,152,195,153,195,154,195,155,195,156,195,159,195,160,195,161,195,162,195,163,195,164,195,165,195,166,195,167,195,168,195,169,195,170,195,171,195,172,195,173,195,174,195,175,195,177,195,178,195,179,195,180,195,181,195,182,195,184,195,185,195,186,195,187,195,188,197,146,197,147,226,128,148,226,128,152,226,128,153,226,128,156,226,128,157,226,128,162,226,128,166,226,132,162,226,153,170] r_0).bind fun r0=>(some r0))))
theorem ZaI{I:World->Prop}(hI:Stab I){r_0:Int}{r:Int}(h:Z2H r_0=some r):AFun Tryz.prog I 120 [.int .i32 r_0] (.int .i64 r):=by
 have dd:=Z0s;have k:=True.intro;have q:=k;have rs:=Tryz.results120;unfold Z2H at h;refine .en hI Tryz.func120 Tryz.ntmps120 ?_;refine xs<|rz ?_;refine es<|xs ?_;obtain⟨v5,h8,h⟩:=bs h;refine Zk (fun v5=>⟨envL [(0,.int .i32 r_0),(8,.bool v5)],Z5 [],0,14⟩) h8 ?_ ?_
 ·clear h;intro v5 h;refine rK fun K _ E J=>zz ?_;obtain⟨k,h⟩|⟨k,h⟩:=iK k h
  ·exact Ld
  exact Ld
 obtain⟨k,h⟩|⟨k,h⟩:=iK k h
 ·exact Lc
 refine xf<|xk<|es<|xs<|rK fun K _ E J=>zz ?_;obtain⟨r0,h0,h⟩:=bs h;refine cw (ZaJ hI h0)<|zz ?_;exact Lz
def Z5A (s_0:List UInt8)(x0:Nat):Option (Nx (Nat) (Unit ⊕ Unit)) :=
 (if(decide (x0 < s_0.length)) then((Z2H (Z0F s_0 x0)).bind fun r0=>(if(decide (r0 < 0)) then(some (.out (.inl ()))) else(some (.go (x0+Z0q s_0 x0))))) else(some (.out (.inr ()))))
def ZT (s_0:List UInt8):Option (Bool) :=
 ((Z34 s_0).bind fun r7=>(if r7 then((iter (Z5A s_0) 0).bind fun e0=>(match e0 with|Sum.inl e0=>(some false)|Sum.inr (e0)=>(some true))) else(some false)))
theorem Z1V{I:World->Prop}(hI:Stab I)(hU8T:∀ w,I w->U8T w){s_0:List UInt8}{r:Bool}(h:ZT s_0=some r):AFun Tryz.prog I 75 [.str s_0] (.bool r):=by
 have dd:=Z0s;have k:=True.intro;have q:=k;have rs:=Tryz.results75;unfold ZT at h;refine .en hI Tryz.func75 Tryz.ntmps75 ?_;refine xs<|rz ?_;refine es<|xs<|xs<|rK fun K _ E J=>zz ?_;obtain⟨r7,h8,h⟩:=bs h;refine cw (Z74 I hI hU8T s_0 h8)<|zz ?_;subst E J;refine es ?_;obtain⟨k,h⟩|⟨k,h⟩:=iK k h
 ·refine xf<|xk<|es<|xs<|xs<|rz ?_;refine es<|xb ?_;obtain⟨e0,h0,h⟩:=bs h;refine Zb (fun x0=>⟨envL [(9,.ptr 0 0)],Z5 [(0,.iter s_0 x0)],1,16⟩) (fun w=>match w with|Sum.inl _=>.ret|Sum.inr (_)=>.exit 0) (fun w=>match w with|Sum.inl e0=>⟨envL [(2,.bool false)],Z5 [],0,16⟩|Sum.inr (e0)=>⟨envL [],Z5 [],0,16⟩) h0 (wk [(0,some 5)]) (by intro w;rcases w with w|w<;>simp) ?_ ?_
  ·clear h;intro x0 y h;unfold Z5A at h;refine xs<|rK fun K _ E J=>zz ?_;obtain⟨k,h⟩|⟨k,h⟩:=iK k h
   ·have k:=And.intro (of_decide_eq_true k.1) k.2;refine zz ?_;subst E J;refine es<|xs<|xt<|xk<|es<|xb<|xs<|rz ?_;refine es<|xs<|rK fun K _ E J=>zz ?_;obtain⟨r0,h1,h⟩:=bs h;refine cw (ZaI hI h1)<|zz ?_;subst E J;refine es ?_;obtain⟨k,h⟩|⟨k,h⟩:=iK k h
    ·exact Ls
    exact LP
   exact Lp
  rcases e0 with e0|e0
  ·try dsimp only at h ⊢
   exact Li
  try dsimp only at h ⊢
  exact Lg
 exact Lc
def Z4d (s_0:List UInt8)(x0:Int):Option (Nx (Int) (Unit ⊕ Unit)) :=
 (if(decide (x0 < (s_0.length:Int))) then((atI s_0 x0).bind fun b0=>(((if(decide ((b0.toNat:Int) < 65)) then(if(decide ((b0.toNat:Int) < 48)) then(if((b0.toNat:Int) != 95) then(some ((b0.toNat:Int) != 45)) else(some false)) else(if(decide (57 < (b0.toNat:Int))) then(if((b0.toNat:Int) != 95) then(some ((b0.toNat:Int) != 45)) else(some false)) else(some false))) else(if(decide (90 < (b0.toNat:Int))) then(if(decide ((b0.toNat:Int) < 48)) then(if((b0.toNat:Int) != 95) then(some ((b0.toNat:Int) != 45)) else(some false)) else(if(decide (57 < (b0.toNat:Int))) then(if((b0.toNat:Int) != 95) then(some ((b0.toNat:Int) != 45)) else(some false)) else(some false))) else(some false))):Option (Bool)).bind fun v0=>(if v0 then(some (.out (.inl ()))) else(some (.go (IntKind.i64.wrap (x0+1))))))) else(some (.out (.inr ()))))
def Z0N (s_0:List UInt8):Option (Bool) :=
 (((if(decide ((s_0.length:Int) < 1)) then(some true) else(if(decide (16 < (s_0.length:Int))) then(some true) else((atI s_0 0).bind fun b0=>(if(decide ((b0.toNat:Int) < 65)) then(some true) else(some (decide (90 < (b0.toNat:Int)))))))):Option (Bool)).bind fun v9=>(if v9 then(some false) else((iter (Z4d s_0) 0).bind fun e0=>(match e0 with|Sum.inl e0=>(some false)|Sum.inr (e0)=>(some true)))))
theorem Z4v{I:World->Prop}(hI:Stab I){s_0:List UInt8}{r:Bool}(h:Z0N s_0=some r):AFun Tryz.prog I 73 [.str s_0] (.bool r):=by
 have dd:=Z0s;have k:=True.intro;have q:=k;have rs:=Tryz.results73;unfold Z0N at h;refine .en hI Tryz.func73 Tryz.ntmps73 ?_;refine xs<|rz ?_;refine es<|xs ?_;obtain⟨v9,h0,h⟩:=bs h;refine Zk (fun v9=>⟨envL [(0,.str s_0),(22,.bool v9)],Z5 [],0,54⟩) h0 ?_ ?_
 ·clear h;intro v9 h;refine rK fun K _ E J=>zz ?_;obtain⟨k,h⟩|⟨k,h⟩:=iK k h
  ·exact Ld
  refine zz ?_;obtain⟨k,h⟩|⟨k,h⟩:=iK k h
  ·exact Ld
  refine zz ?_;obtain⟨b0,q,h⟩:=bK q h;refine zz ?_;obtain⟨k,h⟩|⟨k,h⟩:=iK k h
  ·exact Ld
  exact Ld
 obtain⟨k,h⟩|⟨k,h⟩:=iK k h
 ·exact Lc
 refine xf<|xk<|es<|xs<|xs<|rz ?_;refine es<|xb ?_;obtain⟨e0,h1,h⟩:=bs h;refine Zb (fun x0=>⟨envL [(0,.str s_0),(24,.int .i64 (s_0.length:Int)),(25,.int .i64 x0)],Z5 [],0,54⟩) (fun w=>match w with|Sum.inl _=>.ret|Sum.inr (_)=>.exit 0) (fun w=>match w with|Sum.inl e0=>⟨envL [(2,.bool false)],Z5 [],0,54⟩|Sum.inr (e0)=>⟨envL [],Z5 [],0,54⟩) h1 (wk []) (by intro w;rcases w with w|w<;>simp) ?_ ?_
 ·clear h;intro x0 y h;unfold Z4d at h;refine xs<|rz ?_;refine es<|xs ?_;obtain⟨k,h⟩|⟨k,h⟩:=iK k h
  ·refine xt<|xk<|es<|xs<|xb<|xs<|rz ?_;refine es<|xs<|rK fun K _ E J=>zz ?_;obtain⟨b1,q,h⟩:=bK q h;refine zz ?_;subst E J;refine es ?_;obtain⟨v0,h2,h⟩:=bs h;refine Zk (fun v0=>⟨envL [(0,.str s_0),(24,.int .i64 (s_0.length:Int)),(25,.int .i64 x0),(52,.bool v0)],Z5 [],0,54⟩) h2 ?_ ?_
   ·clear h;intro v0 h;refine rK fun K _ E J=>zz ?_;obtain⟨k,h⟩|⟨k,h⟩:=iK k h
    ·refine zz ?_;obtain⟨k,h⟩|⟨k,h⟩:=iK k h
     ·refine zz ?_;obtain⟨k,h⟩|⟨k,h⟩:=iK k h
      ·exact Ld
      exact Ld
     refine zz ?_;obtain⟨k,h⟩|⟨k,h⟩:=iK k h
     ·refine zz ?_;obtain⟨k,h⟩|⟨k,h⟩:=iK k h
      ·exact Ld
      exact Ld
     exact Ld
    refine zz ?_;obtain⟨k,h⟩|⟨k,h⟩:=iK k h
    ·refine zz ?_;obtain⟨k,h⟩|⟨k,h⟩:=iK k h
     ·refine zz ?_;obtain⟨k,h⟩|⟨k,h⟩:=iK k h
      ·exact Ld
      exact Ld
     refine zz ?_;obtain⟨k,h⟩|⟨k,h⟩:=iK k h
     ·refine zz ?_;obtain⟨k,h⟩|⟨k,h⟩:=iK k h
      ·exact Ld
      exact Ld
     exact Ld
    exact Ld
   obtain⟨k,h⟩|⟨k,h⟩:=iK k h
   ·exact Lk
   exact Ll
  exact Le
 rcases e0 with e0|e0
 ·try dsimp only at h ⊢
  exact Li
 try dsimp only at h ⊢
 exact Lg
def Z5c (r_0:Int):Option (ZM) :=
 (if(decide (8<=(IntKind.i64.wrap r_0))) then(some (ZM.mk [] 0 0 false)) else(if r_0 == 0 then(some (ZM.mk [] 0 0 false)) else(if r_0 == 1 then(some (ZM.mk [50,51,46,57,55,54] 5005 24 false)) else(if r_0 == 2 then(some (ZM.mk [50,52] 5000 24 false)) else(if r_0 == 3 then(some (ZM.mk [50,53] 4800 25 false)) else(if r_0 == 4 then(some (ZM.mk [50,57,46,57,55] 4004 30 true)) else(if r_0 == 5 then(some (ZM.mk [51,48] 4000 30 false)) else(if r_0 == 6 then(some (ZM.mk [53,48] 2400 50 false)) else(if r_0 == 7 then(some (ZM.mk [53,57,46,57,52] 2002 60 true)) else none)))))))))
theorem Z73{I:World->Prop}(hI:Stab I){r_0:Int}{r:ZM}(h:Z5c r_0=some r):AFun Tryz.prog I 128 [.int .u8 r_0] (ZM.d r):=by
 have dd:=Z0s;have k:=True.intro;have q:=k;have rs:=Tryz.results128;unfold Z5c at h;refine .en hI Tryz.func128 Tryz.ntmps128 ?_;refine xs<|rz ?_;refine es<|xs<|rz ?_;refine es<|xs<|xs<|rz ?_;refine es ?_;obtain⟨k,h⟩|⟨k,h⟩:=iK k h
 ·exact Lc
 refine xf<|xk<|es<|xs<|rK fun K _ E J=>zz ?_;rcases Z4H h with⟨k0,h⟩|⟨_,h⟩
 ·have k:=And.intro (eq_of_beq k0) k;exact Lj
 rcases Z4H h with⟨k1,h⟩|⟨_,h⟩
 ·have k:=And.intro (eq_of_beq k1) k;exact Lj
 rcases Z4H h with⟨k2,h⟩|⟨_,h⟩
 ·have k:=And.intro (eq_of_beq k2) k;exact Lj
 rcases Z4H h with⟨k3,h⟩|⟨_,h⟩
 ·have k:=And.intro (eq_of_beq k3) k;exact Lj
 rcases Z4H h with⟨k4,h⟩|⟨_,h⟩
 ·have k:=And.intro (eq_of_beq k4) k;exact Lj
 rcases Z4H h with⟨k5,h⟩|⟨_,h⟩
 ·have k:=And.intro (eq_of_beq k5) k;exact Lj
 rcases Z4H h with⟨k6,h⟩|⟨_,h⟩
 ·have k:=And.intro (eq_of_beq k6) k;exact Lj
 rcases Z4H h with⟨k7,h⟩|⟨_,h⟩
 ·have k:=And.intro (eq_of_beq k7) k;exact Lj
 cases h
def Z2v (r_0:Int):Option (Bool) :=
 ((Z5c r_0).bind fun r7=>(some (decide (0 < r7.ticks_))))
theorem Z7s{I:World->Prop}(hI:Stab I){r_0:Int}{r:Bool}(h:Z2v r_0=some r):AFun Tryz.prog I 86 [.int .u8 r_0] (.bool r):=by
 have dd:=Z0s;have k:=True.intro;have q:=k;have rs:=Tryz.results86;unfold Z2v at h;refine .en hI Tryz.func86 Tryz.ntmps86 ?_;refine xs<|rz ?_;refine es<|xs<|rK fun K _ E J=>zz ?_;obtain⟨r7,h8,h⟩:=bs h;refine cw (Z73 hI h8)<|zz ?_;exact Lz
def Z5F (r_0:Int):Option (Bool) :=
 ((Z5c r_0).bind fun r7=>(some r7.drop_))
theorem Z9b{I:World->Prop}(hI:Stab I){r_0:Int}{r:Bool}(h:Z5F r_0=some r):AFun Tryz.prog I 148 [.int .u8 r_0] (.bool r):=by
 have dd:=Z0s;have k:=True.intro;have q:=k;have rs:=Tryz.results148;unfold Z5F at h;refine .en hI Tryz.func148 Tryz.ntmps148 ?_;refine xs<|rz ?_;refine es<|xs<|rK fun K _ E J=>zz ?_;obtain⟨r7,h8,h⟩:=bs h;refine cw (Z73 hI h8)<|zz ?_;exact Lz
def Z13 (r_0:Int)(drop_1:Bool):Option (Int) :=
 ((Z2v r_0).bind fun r0=>(if r0 then(if drop_1 then((Z5F r_0).bind fun r1=>(if r1 then(some 0) else(some 13))) else(some 0)) else(some 13)))
theorem ZaP{I:World->Prop}(hI:Stab I){r_0:Int}{drop_1:Bool}{r:Int}(h:Z13 r_0 drop_1=some r):AFun Tryz.prog I 108 [.int .u8 r_0,.bool drop_1] (.int .i64 r):=by
 have dd:=Z0s;have k:=True.intro;have q:=k;have rs:=Tryz.results108;unfold Z13 at h;refine .en hI Tryz.func108 Tryz.ntmps108 ?_;refine xs<|rz ?_;refine es<|xs<|xs<|rK fun K _ E J=>zz ?_;obtain⟨r0,h0,h⟩:=bs h;refine cw (Z7s hI h0)<|zz ?_;obtain⟨k,h⟩|⟨k,h⟩:=iK k h
 ·refine zz ?_;obtain⟨k,h⟩|⟨k,h⟩:=iK k h
  ·refine zz ?_;obtain⟨r1,h1,h⟩:=bs h;refine cw (Z9b hI h1)<|zz ?_;subst E J;refine es ?_;obtain⟨k,h⟩|⟨k,h⟩:=iK k h
   ·exact LL
   exact Lc
  refine zz ?_;subst E J;refine es<|xf<|xk<|es<|xs<|rz ?_;exact Lb
 exact Lt
def Z0r (d_0:Z2):Option (Int) :=
 ((((ZT d_0.Title).bind fun r0=>(if r0 then(if(decide (400 < (d_0.Title.length:Int))) then(some (.out 9)) else(if(d_0.Lang == ([]:List UInt8)) then(some (.go ())) else((Z0N d_0.Lang).bind fun r1=>(if r1 then(some (.go ())) else(some (.out 5)))))) else(some (.out 10)))):Option (Nx (Unit) (Int))).bind fun w0=>match w0 with|.go v0=>((Z13 d_0.Rate d_0.Drop).bind fun r2=>(if(r2 != 0) then(some r2) else(if(decide (d_0.Last < 0)) then(some 2) else(if(decide (1099511627776 < d_0.Last)) then(some 2) else(some 0)))))|.out e0=>(some e0))
theorem Z9W{I:World->Prop}(hI:Stab I)(hU8T:∀ w,I w->U8T w){d_0:Z2}{r:Int}(h:Z0r d_0=some r):AFun Tryz.prog I 58 [Z2.d d_0] (.int .i64 r):=by
 have dd:=Z0s;have k:=True.intro;have q:=k;have rs:=Tryz.results58;unfold Z0r at h;refine .en hI Tryz.func58 Tryz.ntmps58 ?_;refine xs<|rz ?_;refine es ?_;obtain⟨w0,h0,h⟩:=bs h;refine Zbf (fun v0=>⟨envL [(1,.ptr 0 0)],Z5 [(0,.box none [.str d_0.Title,.str d_0.Lang,.int .u8 d_0.Rate,.bool d_0.Drop,.int .i64 d_0.Last,.sl (d_0.Regions.map Z3.d),.sl (d_0.Events.map Z0.d),.sl (d_0.Comments.map Z4.d)])],1,40⟩) (fun _=>.ret) (fun e0=>⟨envL [(2,.int .i64 e0)],Z5 [],0,40⟩) h0 (by intro w;simp) ?_ ?_ ?_
 ·clear h;intro w0 h;refine xb<|xs<|rK fun K _ E J=>zz ?_;obtain⟨r0,h1,h⟩:=bs h;refine cw (Z1V hI hU8T h1)<|zz ?_;subst E J;refine es ?_;obtain⟨k,h⟩|⟨k,h⟩:=iK k h
  ·refine xf<|xs<|rz ?_;refine es ?_;obtain⟨k,h⟩|⟨k,h⟩:=iK k h
   ·exact Ls
   refine xf<|xs<|rK fun K _ E J=>zz ?_;obtain⟨k,h⟩|⟨k,h⟩:=iK k h
   ·exact LM
   refine zz ?_;obtain⟨r1,h2,h⟩:=bs h;refine cw (Z4v hI h2)<|zz ?_;subst E J;refine es ?_;obtain⟨k,h⟩|⟨k,h⟩:=iK k h
   ·exact LP
   exact Ls
  exact Ls
 ·rintro v0 rfl;dsimp only at h;refine xs<|xs<|rK fun K _ E J=>zz ?_;obtain⟨r2,h3,h⟩:=bs h;refine cw (ZaP hI h3)<|zz ?_;subst E J;refine es<|xs<|rz ?_;refine es ?_;obtain⟨k,h⟩|⟨k,h⟩:=iK k h
  ·exact Lc
  refine xf<|xk<|es<|xs<|xs<|rK fun K _ E J=>zz ?_;obtain⟨k,h⟩|⟨k,h⟩:=iK k h
  ·exact Lt
  refine zz ?_;subst E J;refine es ?_;obtain⟨k,h⟩|⟨k,h⟩:=iK k h
  ·exact Lc
  exact LL
 rintro e0 rfl;dsimp only at h;cases h;exact en fr
def Z2d (n_0:Int)(low_1:Int)(high_2:Int):Option (Bool) :=
 (if(decide (low_1<=n_0)) then(some (decide (n_0<=high_2))) else(some false))
theorem Z62{I:World->Prop}(hI:Stab I){n_0:Int}{low_1:Int}{high_2:Int}{r:Bool}(h:Z2d n_0 low_1 high_2=some r):AFun Tryz.prog I 149 [.int .i64 n_0,.int .i64 low_1,.int .i64 high_2] (.bool r):=by
 have dd:=Z0s;have k:=True.intro;have q:=k;have rs:=Tryz.results149;unfold Z2d at h;refine .en hI Tryz.func149 Tryz.ntmps149 ?_;refine xs<|rz ?_;refine es<|xs<|rK fun K _ E J=>zz ?_;obtain⟨k,h⟩|⟨k,h⟩:=iK k h
 ·exact Lj
 exact Lj
def Z1Q (r_0:Z3):Option (Int) :=
 ((Z0N r_0.Name).bind fun r0=>(if r0 then((((Z2d r_0.Top 0 14).bind fun r1=>(if r1 then((Z2d r_0.Height 1 (IntKind.i64.wrap (15 - r_0.Top))).bind fun r2=>(if r2 then((Z2d r_0.Left 0 31).bind fun r3=>(if r3 then((Z2d r_0.Width 1 (IntKind.i64.wrap (32 - r_0.Left))).bind fun r4=>(some (!r4))) else(some true))) else(some true))) else(some true))):Option (Bool)).bind fun v0=>(if v0 then(some 2) else(if(decide (r_0.Align < 1)) then(some 3) else(if(decide (3 < r_0.Align)) then(some 3) else(some 0))))) else(some 5)))
theorem Z85{I:World->Prop}(hI:Stab I){r_0:Z3}{r:Int}(h:Z1Q r_0=some r):AFun Tryz.prog I 109 [Z3.d r_0] (.int .i64 r):=by
 have dd:=Z0s;have k:=True.intro;have q:=k;have rs:=Tryz.results109;unfold Z1Q at h;refine .en hI Tryz.func109 Tryz.ntmps109 ?_;refine xs<|rz ?_;refine es<|xs<|xb<|xs<|rK fun K _ E J=>zz ?_;obtain⟨r0,h0,h⟩:=bs h;refine cw (Z4v hI h0)<|zz ?_;subst E J;refine es ?_;obtain⟨k,h⟩|⟨k,h⟩:=iK k h
 ·refine xf ?_;obtain⟨v0,h1,h⟩:=bs h;refine Zk (fun v0=>⟨envL [(1,.ptr 0 0),(8,.bool v0)],Z5 [(0,.box none [.str r_0.Name,.int .i64 r_0.Top,.int .i64 r_0.Height,.int .i64 r_0.Left,.int .i64 r_0.Width,.int .u8 r_0.Align,.bool r_0.Bottom])],1,46⟩) h1 ?_ ?_
  ·clear h;intro v0 h;refine rK fun K _ E J=>zz ?_;obtain⟨r1,h2,h⟩:=bs h;refine cw (Z62 hI h2)<|zz ?_;obtain⟨k,h⟩|⟨k,h⟩:=iK k h
   ·refine zz ?_;obtain⟨r2,h3,h⟩:=bs h;refine cw (Z62 hI h3)<|zz ?_;obtain⟨k,h⟩|⟨k,h⟩:=iK k h
    ·refine zz ?_;obtain⟨r3,h4,h⟩:=bs h;refine cw (Z62 hI h4)<|zz ?_;obtain⟨k,h⟩|⟨k,h⟩:=iK k h
     ·refine zz ?_;obtain⟨r4,h5,h⟩:=bs h;refine cw (Z62 hI h5)<|zz ?_;exact LO
     exact Ld
    exact Ld
   exact Ld
  obtain⟨k,h⟩|⟨k,h⟩:=iK k h
  ·exact Lf
  refine xf<|xs<|rK fun K _ E J=>zz ?_;obtain⟨k,h⟩|⟨k,h⟩:=iK k h
  ·refine zz ?_;subst E J;refine es<|xt<|xs<|rz ?_;refine es<|xr<|br<|er ?_;cases h;exact en fr
  refine zz ?_;subst E J;refine es ?_;obtain⟨k,h⟩|⟨k,h⟩:=iK k h
  ·exact Lf
  exact LF
 exact Lf
def Z0P (l_0:List Z3)(x0:Int):Option (Nx (Int) (Int ⊕ Unit)) :=
 (if(decide (x0 < (l_0.length:Int))) then((atI l_0 x0).bind fun y0=>((Z1Q y0).bind fun r0=>(if(r0 != 0) then(some (.out (.inl r0))) else(((if(decide (0 < x0)) then((atI l_0 (IntKind.i64.wrap (x0 - 1))).bind fun y1=>(some (y0.Name == y1.Name))) else(some false)):Option (Bool)).bind fun v0=>(if v0 then(some (.out (.inl 7))) else(if(decide (0 < x0)) then((atI l_0 (IntKind.i64.wrap (x0 - 1))).bind fun y2=>(if(Op.bytesLess y0.Name y2.Name) then(some (.out (.inl 8))) else(some (.go (IntKind.i64.wrap (x0+1)))))) else(some (.go (IntKind.i64.wrap (x0+1)))))))))) else(some (.out (.inr ()))))
def Z0S (l_0:List Z3):Option (Int) :=
 (if(decide (16 < (l_0.length:Int))) then(some 9) else((iter (Z0P l_0) 0).bind fun e0=>(match e0 with|Sum.inl e0=>(some e0)|Sum.inr (e0)=>(some 0))))
theorem Z99{I:World->Prop}(hI:Stab I){l_0:List Z3}{r:Int}(h:Z0S l_0=some r):AFun Tryz.prog I 59 [.sl (l_0.map Z3.d)] (.int .i64 r):=by
 have dd:=Z0s;have k:=True.intro;have q:=k;have rs:=Tryz.results59;unfold Z0S at h;refine .en hI Tryz.func59 Tryz.ntmps59 ?_;refine xs<|rz ?_;refine es<|xs<|xs<|rz ?_;refine es ?_;obtain⟨k,h⟩|⟨k,h⟩:=iK k h
 ·exact Lc
 refine xf<|xk<|es<|xs<|xs<|rz ?_;refine es<|xb ?_;obtain⟨e0,h0,h⟩:=bs h;refine Zb (fun x0=>⟨envL [(0,.sl (l_0.map Z3.d)),(9,.sl (l_0.map Z3.d)),(10,.int .i64 (l_0.length:Int)),(11,.int .i64 x0)],Z5 [],0,48⟩) (fun w=>match w with|Sum.inl _=>.ret|Sum.inr (_)=>.exit 0) (fun w=>match w with|Sum.inl e0=>⟨envL [(2,.int .i64 e0)],Z5 [],0,48⟩|Sum.inr (e0)=>⟨envL [],Z5 [],0,48⟩) h0 (wk []) (by intro w;rcases w with w|w<;>simp) ?_ ?_
 ·clear h;intro x0 y h;unfold Z0P at h;refine xs<|rz ?_;refine es<|xs ?_;obtain⟨k,h⟩|⟨k,h⟩:=iK k h
  ·refine xt<|xk<|es<|xs<|xb<|xs<|rK fun K _ E J=>zz ?_;obtain⟨y0,q,h⟩:=bK q h;refine zz ?_;subst E J;refine es<|xs<|xs<|rK fun K _ E J=>zz ?_;obtain⟨r0,h1,h⟩:=bs h;refine cw (Z85 hI h1)<|zz ?_;subst E J;refine es<|xs<|rz ?_;refine es ?_;obtain⟨k,h⟩|⟨k,h⟩:=iK k h
   ·exact Lh
   refine xf<|xk<|es<|xs ?_;obtain⟨v0,h2,h⟩:=bs h;refine Zk (fun v0=>⟨envL [(0,.sl (l_0.map Z3.d)),(3,.int .i64 x0),(4,.ptr 0 0),(9,.sl (l_0.map Z3.d)),(10,.int .i64 (l_0.length:Int)),(11,.int .i64 x0),(33,.bool v0)],Z5 [(0,.box none [.str y0.Name,.int .i64 y0.Top,.int .i64 y0.Height,.int .i64 y0.Left,.int .i64 y0.Width,.int .u8 y0.Align,.bool y0.Bottom])],1,48⟩) h2 ?_ ?_
   ·clear h;intro v0 h;refine rD hI fun K _ E J=>zz ?_;obtain⟨k,h⟩|⟨k,h⟩:=iK k h
    ·refine zz ?_;obtain⟨y1,q,h⟩:=bK q h;exact Lq
    exact Lq
   obtain⟨k,h⟩|⟨k,h⟩:=iK k h
   ·exact Lh
   refine xf<|xk<|es<|xs<|rD hI fun K _ E J=>zz ?_;obtain⟨k,h⟩|⟨k,h⟩:=iK k h
   ·refine zz ?_;obtain⟨y2,q,h⟩:=bK q h;refine zz ?_;subst E J;refine es ?_;obtain⟨k,h⟩|⟨k,h⟩:=iK k h
    ·exact Lk
    exact Ll
   exact Ly
  exact Le
 rcases e0 with e0|e0
 ·try dsimp only at h ⊢
  exact Li
 try dsimp only at h ⊢
 exact Lg
def Z1C  : Option (Z3) :=
 (some (Z3.mk [] 11 4 0 32 2 true))
theorem Z7r{I:World->Prop}(hI:Stab I) {r:Z3}(h:Z1C  = some r):AFun Tryz.prog I 150 [] (Z3.d r):=by
 have dd:=Z0s;have k:=True.intro;have q:=k;have rs:=Tryz.results150;unfold Z1C at h;refine .en hI Tryz.func150 Tryz.ntmps150 ?_;exact LA
def Z3F (l_0:List Z3)(name_1:List UInt8)(x0:Int):Option (Nx (Int) (((List UInt8) × Int × Int × Int × Int × Int × Bool) ⊕ Unit)) :=
 (if(decide (x0 < (l_0.length:Int))) then((atI l_0 x0).bind fun y0=>(if(y0.Name == name_1) then(some (.out (.inl (y0.Name,y0.Top,y0.Height,y0.Left,y0.Width,y0.Align,y0.Bottom)))) else(some (.go (IntKind.i64.wrap (x0+1)))))) else(some (.out (.inr ()))))
def Z2c (l_0:List Z3)(name_1:List UInt8):Option (Z3 × Bool) :=
 (if(name_1 == ([]:List UInt8)) then((Z1C).bind fun r0=>(some (r0,true))) else((iter (Z3F l_0 name_1) 0).bind fun e0=>(match e0 with|Sum.inl e0=>(some ((Z3.mk e0.1 e0.2.1 e0.2.2.1 e0.2.2.2.1 e0.2.2.2.2.1 e0.2.2.2.2.2.1 e0.2.2.2.2.2.2),true))|Sum.inr (e0)=>(some ((Z3.mk [] 0 0 0 0 0 false),false)))))
theorem ZcO{I:World->Prop}(hI:Stab I){l_0:List Z3}{name_1:List UInt8}{r:Z3 × Bool}(h:Z2c l_0 name_1=some r):AFun Tryz.prog I 110 [.sl (l_0.map Z3.d),.str name_1] (.tup [Z3.d r.1,.bool r.2]):=by
 have dd:=Z0s;have k:=True.intro;have q:=k;have rs:=Tryz.results110;unfold Z2c at h;refine .en hI Tryz.func110 Tryz.ntmps110 ?_;refine xs<|rz ?_;refine es<|xs<|xs<|rz ?_;refine es ?_;obtain⟨k,h⟩|⟨k,h⟩:=iK k h
 ·refine xt<|xs<|rK fun K _ E J=>zz ?_;obtain⟨r0,h0,h⟩:=bs h;refine cw (Z7r hI h0)<|zz ?_;subst E J;exact LJ
 refine xf<|xk<|es<|xs<|xs<|rz ?_;refine es<|xb ?_;obtain⟨e0,h1,h⟩:=bs h;refine Zb (fun x0=>⟨envL [(1,.str name_1),(4,.ptr 0 0),(11,.sl (l_0.map Z3.d)),(12,.int .i64 (l_0.length:Int)),(13,.int .i64 x0)],Z5 [(0,.box none [.str [],.int .i64 0,.int .i64 0,.int .i64 0,.int .i64 0,.int .u8 0,.bool false])],1,24⟩) (fun w=>match w with|Sum.inl _=>.ret|Sum.inr (_)=>.exit 0) (fun w=>match w with|Sum.inl e0=>⟨envL [(4,.ptr 0 0),(5,.bool true)],Z5 [(0,.box none [.str e0.1,.int .i64 e0.2.1,.int .i64 e0.2.2.1,.int .i64 e0.2.2.2.1,.int .i64 e0.2.2.2.2.1,.int .u8 e0.2.2.2.2.2.1,.bool e0.2.2.2.2.2.2])],1,24⟩|Sum.inr (e0)=>⟨envL [(4,.ptr 0 0)],Z5 [(0,.box none [.str [],.int .i64 0,.int .i64 0,.int .i64 0,.int .i64 0,.int .u8 0,.bool false])],1,24⟩) h1 (wk []) (by intro w;rcases w with w|w<;>simp) ?_ ?_
 ·clear h;intro x0 y h;unfold Z3F at h;refine xs<|rz ?_;refine es<|xs ?_;obtain⟨k,h⟩|⟨k,h⟩:=iK k h
  ·refine xt<|xk<|es<|xs<|xb<|xs<|rK fun K _ E J=>zz ?_;obtain⟨y0,q,h⟩:=bK q h;refine zz ?_;subst E J;refine es<|xs<|rz ?_;refine es ?_;obtain⟨k,h⟩|⟨k,h⟩:=iK k h
   ·exact Lk
   exact Ll
  exact Le
 rcases e0 with e0|e0
 ·try dsimp only at h ⊢
  exact Li
 try dsimp only at h ⊢
 exact Lg
def Z30 (s_0:Ze):Option (Bool) :=
 (if(decide (0<=s_0.In)) then(if(decide (s_0.In < s_0.Out)) then(some (decide (s_0.Out<=5184000))) else(some false)) else(some false))
theorem Zcx{I:World->Prop}(hI:Stab I){s_0:Ze}{r:Bool}(h:Z30 s_0=some r):AFun Tryz.prog I 111 [Ze.d s_0] (.bool r):=by
 have dd:=Z0s;have k:=True.intro;have q:=k;have rs:=Tryz.results111;unfold Z30 at h;refine .en hI Tryz.func111 Tryz.ntmps111 ?_;refine xs<|rz ?_;refine es<|xs<|rK fun K _ E J=>zz ?_;obtain⟨k,h⟩|⟨k,h⟩:=iK k h
 ·refine zz ?_;obtain⟨k,h⟩|⟨k,h⟩:=iK k h
  ·exact Lj
  exact Lj
 exact Lj
def Z75  : Option ((List (List UInt8))) :=
 (some [[68,73,65,76,79,71,85,69],[83,79,85,78,68],[84,73,84,76,69],[77,85,83,73,67]])
theorem Zcw{I:World->Prop}(hI:Stab I) {r:(List (List UInt8))}(h:Z75  = some r):AFun Tryz.prog I 151 [] (.sl (r.map D.str)):=by
 have dd:=Z0s;have k:=True.intro;have q:=k;have rs:=Tryz.results151;unfold Z75 at h;refine .en hI Tryz.func151 Tryz.ntmps151 ?_;exact LA
def Z18 (k_0:Int):Option ((List UInt8)) :=
 (((if(decide (k_0 < 1)) then(some true) else(some (decide (4 < k_0)))):Option (Bool)).bind fun v5=>(if v5 then(some []) else((Z75).bind fun r0=>((atI r0 (IntKind.u8.wrap (k_0 - 1))).bind fun y0=>(some y0)))))
theorem Zac{I:World->Prop}(hI:Stab I){k_0:Int}{r:(List UInt8)}(h:Z18 k_0=some r):AFun Tryz.prog I 112 [.int .u8 k_0] (.str r):=by
 have dd:=Z0s;have k:=True.intro;have q:=k;have rs:=Tryz.results112;unfold Z18 at h;refine .en hI Tryz.func112 Tryz.ntmps112 ?_;refine xs<|rz ?_;refine es<|xs ?_;obtain⟨v5,h8,h⟩:=bs h;refine Zk (fun v5=>⟨envL [(0,.int .u8 k_0),(8,.bool v5)],Z5 [],0,14⟩) h8 ?_ ?_
 ·clear h;intro v5 h;refine rK fun K _ E J=>zz ?_;obtain⟨k,h⟩|⟨k,h⟩:=iK k h
  ·exact Ld
  exact Ld
 obtain⟨k,h⟩|⟨k,h⟩:=iK k h
 ·exact Lc
 refine xf<|xk<|es<|xs<|rK fun K _ E J=>zz ?_;obtain⟨r0,h0,h⟩:=bs h;refine cw (Zcw hI h0)<|zz ?_;obtain⟨y0,q,h⟩:=bK q h;exact Lj
def Z42 (s_0:Zw):Option (Bool) :=
 (some (decide (s_0.Color<=6)))
theorem ZcT{I:World->Prop}(hI:Stab I){s_0:Zw}{r:Bool}(h:Z42 s_0=some r):AFun Tryz.prog I 171 [Zw.d s_0] (.bool r):=by
 have dd:=Z0s;have k:=True.intro;have q:=k;have rs:=Tryz.results171;unfold Z42 at h;refine .en hI Tryz.func171 Tryz.ntmps171 ?_;exact LA
def Z5b (a_0:Zd)(b_1:Zd):Option (Bool) :=
 (if((a_0.Style.Color == b_1.Style.Color)&&((a_0.Style.Italic == b_1.Style.Italic)&&(a_0.Style.Underline == b_1.Style.Underline))) then(if(a_0.Ruby == ([]:List UInt8)) then(some (b_1.Ruby == ([]:List UInt8))) else(some false)) else(some false))
theorem ZcU{I:World->Prop}(hI:Stab I){a_0:Zd}{b_1:Zd}{r:Bool}(h:Z5b a_0 b_1=some r):AFun Tryz.prog I 172 [Zd.d a_0,Zd.d b_1] (.bool r):=by
 have dd:=Z0s;have k:=True.intro;have q:=k;have rs:=Tryz.results172;unfold Z5b at h;refine .en hI Tryz.func172 Tryz.ntmps172 ?_;refine xs<|rz ?_;refine es<|xs<|rK fun K _ E J=>zz ?_;obtain⟨k,h⟩|⟨k,h⟩:=iK k h
 ·refine zz ?_;obtain⟨k,h⟩|⟨k,h⟩:=iK k h
  ·exact Lj
  exact Lj
 exact Lj
def Z0D (Zr:Z6)(x0:Int):Option (Nx (Int) (Int ⊕ Unit)) :=
 (if(decide (x0 < (Zr.Runs.length:Int))) then((atI Zr.Runs x0).bind fun y0=>((ZT y0.Text).bind fun r0=>(if r0 then(if(y0.Text == ([]:List UInt8)) then(some (.out (.inl 4))) else((Z42 y0.Style).bind fun r1=>(if r1 then((ZT y0.Ruby).bind fun r2=>(if r2 then(if(decide (0 < x0)) then((atI Zr.Runs (IntKind.i64.wrap (x0 - 1))).bind fun y1=>((Z5b y1 y0).bind fun r3=>(if r3 then(some (.out (.inl 8))) else(some (.go (IntKind.i64.wrap (x0+1))))))) else(some (.go (IntKind.i64.wrap (x0+1))))) else(some (.out (.inl 10))))) else(some (.out (.inl 12)))))) else(some (.out (.inl 10)))))) else(some (.out (.inr ()))))
def Z0J (Zr:Z6):Option (Int) :=
 (if(decide (16 < (Zr.Runs.length:Int))) then(some 9) else((iter (Z0D Zr) 0).bind fun e0=>(match e0 with|Sum.inl e0=>(some e0)|Sum.inr (e0)=>(some 0))))
theorem ZcR{I:World->Prop}(hI:Stab I)(hU8T:∀ w,I w->U8T w){Zr:Z6}{r:Int}(h:Z0J Zr=some r):AFun Tryz.prog I 152 [Z6.d Zr] (.int .i64 r):=by
 have dd:=Z0s;have k:=True.intro;have q:=k;have rs:=Tryz.results152;unfold Z0J at h;refine .en hI Tryz.func152 Tryz.ntmps152 ?_;refine xs<|rz ?_;refine es<|xs<|xs<|rz ?_;refine es ?_;obtain⟨k,h⟩|⟨k,h⟩:=iK k h
 ·exact Lc
 refine xf<|xk<|es<|xs<|xs<|rz ?_;refine es<|xb ?_;obtain⟨e0,h0,h⟩:=bs h;refine Zb (fun x0=>⟨envL [(1,.ptr 0 0),(10,.sl (Zr.Runs.map Zd.d)),(11,.int .i64 (Zr.Runs.length:Int)),(12,.int .i64 x0)],Z5 [(0,.box none [.sl (Zr.Runs.map Zd.d)])],1,50⟩) (fun w=>match w with|Sum.inl _=>.ret|Sum.inr (_)=>.exit 0) (fun w=>match w with|Sum.inl e0=>⟨envL [(2,.int .i64 e0)],Z5 [],0,50⟩|Sum.inr (e0)=>⟨envL [],Z5 [],0,50⟩) h0 (wk []) (by intro w;rcases w with w|w<;>simp) ?_ ?_
 ·clear h;intro x0 y h;unfold Z0D at h;refine xs<|rz ?_;refine es<|xs ?_;obtain⟨k,h⟩|⟨k,h⟩:=iK k h
  ·refine xt<|xk<|es<|xs<|xb<|xs<|rK fun K _ E J=>zz ?_;obtain⟨y0,q,h⟩:=bK q h;refine zz ?_;subst E J;refine es<|xb<|xs<|rK fun K _ E J=>zz ?_;obtain⟨r0,h1,h⟩:=bs h;refine cw (Z1V hI hU8T h1)<|zz ?_;subst E J;refine es ?_;obtain⟨k,h⟩|⟨k,h⟩:=iK k h
   ·refine xf<|xs<|rz ?_;refine es ?_;obtain⟨k,h⟩|⟨k,h⟩:=iK k h
    ·exact Lm
    refine xf<|xs<|rK fun K _ E J=>zz ?_;obtain⟨r1,h2,h⟩:=bs h;refine cw (ZcT hI h2)<|zz ?_;subst E J;refine es ?_;obtain⟨k,h⟩|⟨k,h⟩:=iK k h
    ·refine xf<|xs<|rK fun K _ E J=>zz ?_;obtain⟨r2,h3,h⟩:=bs h;refine cw (Z1V hI hU8T h3)<|zz ?_;subst E J;refine es ?_;obtain⟨k,h⟩|⟨k,h⟩:=iK k h
     ·refine xf<|xs<|rD hI fun K _ E J=>zz ?_;obtain⟨k,h⟩|⟨k,h⟩:=iK k h
      ·refine zz ?_;obtain⟨y1,q,h⟩:=bK q h;refine zz ?_;obtain⟨r3,h4,h⟩:=bs h;refine cd (ZcU hI h4)<|zz ?_;subst E J;refine es ?_;obtain⟨k,h⟩|⟨k,h⟩:=iK k h
       ·exact Lm
       exact LN
      refine zz ?_;subst E J;refine es<|xf<|xk<|bn<|bn<|es<|rz ?_;exact La
     exact Lm
    exact Lm
   exact Lm
  exact Le
 rcases e0 with e0|e0
 ·try dsimp only at h ⊢
  exact Li
 try dsimp only at h ⊢
 exact Lg
def Z1E (Zr:Z6)(x7:Int × (List Int)):Option (Nx (Int × (List Int)) ((List Int))) :=
 (if(decide (x7.1 < (Zr.Runs.length:Int))) then((atI Zr.Runs x7.1).bind fun y0=>(if x7.2.length+y0.Text.length<=140737488355328 then(some (.go ((IntKind.i64.wrap (x7.1+1)),(x7.2++toI y0.Text)))) else none)) else(some (.out x7.2)))
def Z2e (Zr:Z6):Option ((List UInt8)) :=
 ((iter (Z1E Zr) (0,[])).bind fun e8=>(some (ZR e8)))
theorem Z8T{I:World->Prop}(hI:Stab I){Zr:Z6}{r:(List UInt8)}(h:Z2e Zr=some r):AFun Tryz.prog I 91 [Z6.d Zr] (.str r):=by
 have dd:=Z0s;have k:=True.intro;have q:=k;have rs:=Tryz.results91;unfold Z2e at h;refine .en hI Tryz.func91 Tryz.ntmps91 ?_;refine xs<|rz ?_;refine es<|xs<|rz ?_;refine es<|xs<|xs<|rz ?_;refine es<|xb ?_;obtain⟨e8,h0,h⟩:=bs h;refine Zb (fun x7=>⟨envL [(3,.ptr 0 0),(7,.sl (Zr.Runs.map Zd.d)),(8,.int .i64 (Zr.Runs.length:Int)),(9,.int .i64 x7.1)],Z5 [(0,.bbox 177 [.sp 0,.own 1 x7.2.length]),(1,.vec 5 1 (x7.2.map (D.int .u8)) false)],2,18⟩) (fun _=>.exit 0) (fun e8=>⟨envL [(3,.ptr 0 0)],Z5 [(0,.bbox 177 [.sp 0,.own 1 e8.length]),(1,.vec 5 1 (e8.map (D.int .u8)) false)],2,18⟩) h0 (wk [(0,some 2),(1,none)]) (by intro w;simp) ?_ ?_
 ·clear h;intro x7 y h;unfold Z1E at h;refine xs<|rz ?_;refine es<|xs ?_;obtain⟨k,h⟩|⟨k,h⟩:=iK k h
  ·refine xt<|xk<|es<|xs<|xb<|xs<|rK fun K _ E J=>zz ?_;obtain⟨y0,q,h⟩:=bK q h;refine zz ?_;subst E J;refine es<|rK fun K _ E J=>zz ?_;obtain⟨h1,h⟩:=Zo h;refine eW.intro (ZbH I (id:=0) (nid:=9) (id2:=1) (n:=x7.2.length) (s:=y0.Text) (l:=x7.2) fz fz fs h1 (by decide)) fi rfl<|zz ?_;subst E J;refine bn<|es<|rz ?_;exact Lx
  exact Le
 refine bh<|es<|xs<|rK fun K _ E J=>zz ?_;refine eW.intro (Zgx I (id:=0) (nid:=2) (id2:=1) (n:=e8.length) (l:=e8) fz fz fs) fi rfl<|zz ?_;exact Lz
def Z2Z (s_0:List UInt8):Option (Int) :=
 ((ZT s_0).bind fun r7=>(if r7 then((Z0U s_0).bind fun r0=>(some r0)) else(some (-1))))
theorem Zcu{I:World->Prop}(hI:Stab I)(hU8T:∀ w,I w->U8T w){s_0:List UInt8}{r:Int}(h:Z2Z s_0=some r):AFun Tryz.prog I 174 [.str s_0] (.int .i64 r):=by
 have dd:=Z0s;have k:=True.intro;have q:=k;have rs:=Tryz.results174;unfold Z2Z at h;refine .en hI Tryz.func174 Tryz.ntmps174 ?_;refine xs<|rz ?_;refine es<|xs<|xs<|rK fun K _ E J=>zz ?_;obtain⟨r7,h8,h⟩:=bs h;refine cw (Z1V hI hU8T h8)<|zz ?_;subst E J;refine es ?_;obtain⟨k,h⟩|⟨k,h⟩:=iK k h
 ·refine xf<|xk<|es<|xs<|rK fun K _ E J=>zz ?_;obtain⟨r0,h0,h⟩:=bs h;refine cw (Z68 I hI s_0 h0)<|zz ?_;exact Lz
 exact Lc
def Z3s (Zr:Z6)(x7:Int × Int):Option (Nx (Int × Int) (Unit ⊕ Int)) :=
 (if(decide (x7.2 < (Zr.Runs.length:Int))) then((atI Zr.Runs x7.2).bind fun y0=>((Z2Z y0.Text).bind fun r0=>(if(decide (r0 < 0)) then(some (.out (.inl ()))) else(some (.go ((IntKind.i64.wrap (x7.1+r0)),(IntKind.i64.wrap (x7.2+1)))))))) else(some (.out (.inr x7.1))))
def Z1U (Zr:Z6):Option (Int) :=
 ((iter (Z3s Zr) (0,0)).bind fun e8=>(match e8 with|Sum.inl e8=>(some (-1))|Sum.inr (e8)=>(some e8)))
theorem Za1{I:World->Prop}(hI:Stab I)(hU8T:∀ w,I w->U8T w){Zr:Z6}{r:Int}(h:Z1U Zr=some r):AFun Tryz.prog I 154 [Z6.d Zr] (.int .i64 r):=by
 have dd:=Z0s;have k:=True.intro;have q:=k;have rs:=Tryz.results154;unfold Z1U at h;refine .en hI Tryz.func154 Tryz.ntmps154 ?_;refine xs<|rz ?_;refine es<|xs<|rz ?_;refine es<|xs<|xs<|rz ?_;refine es<|xb ?_;obtain⟨e8,h0,h⟩:=bs h;refine Zb (fun x7=>⟨envL [(3,.int .i64 x7.1),(8,.sl (Zr.Runs.map Zd.d)),(9,.int .i64 (Zr.Runs.length:Int)),(10,.int .i64 x7.2)],Z5 [],0,24⟩) (fun w=>match w with|Sum.inl _=>.ret|Sum.inr (_)=>.exit 0) (fun w=>match w with|Sum.inl e8=>⟨envL [(2,.int .i64 (-1))],Z5 [],0,24⟩|Sum.inr (e8)=>⟨envL [(3,.int .i64 e8)],Z5 [],0,24⟩) h0 (wk []) (by intro w;rcases w with w|w<;>simp) ?_ ?_
 ·clear h;intro x7 y h;unfold Z3s at h;refine xs<|rz ?_;refine es<|xs ?_;obtain⟨k,h⟩|⟨k,h⟩:=iK k h
  ·refine xt<|xk<|es<|xs<|xb<|xs<|rK fun K _ E J=>zz ?_;obtain⟨y0,q,h⟩:=bK q h;refine zz ?_;subst E J;refine es<|xs<|rK fun K _ E J=>zz ?_;obtain⟨r0,h1,h⟩:=bs h;refine cw (Zcu hI hU8T h1)<|zz ?_;subst E J;refine es<|xs<|xs<|rz ?_;refine es ?_;obtain⟨k,h⟩|⟨k,h⟩:=iK k h
   ·exact Lh
   refine xf<|xk<|es<|rz ?_;exact Ln
  exact Le
 rcases e8 with e8|e8
 ·try dsimp only at h ⊢
  exact Li
 try dsimp only at h ⊢
 exact Lg
def Z3n (r_0:Z6):Option (Int) :=
 ((Z0J r_0).bind fun r7=>(if(r7 != 0) then(some r7) else((Z2e r_0).bind fun r0=>(((if(r0 == ([]:List UInt8)) then(some true) else((atI r0 0).bind fun b0=>(if((b0.toNat:Int) == 32) then(some true) else((atI r0 (IntKind.i64.wrap ((r0.length:Int) - 1))).bind fun b1=>(if((b1.toNat:Int) == 32) then(some true) else((Z1R r0 [32,32]).bind fun r1=>(some r1))))))):Option (Bool)).bind fun v0=>(if v0 then(some 4) else((Z1U r_0).bind fun r2=>(if(decide (32 < r2)) then(some 11) else(some 0))))))))
theorem Zen{I:World->Prop}(hI:Stab I)(hShp:∀ w,I w->Shp w)(hU8T:∀ w,I w->U8T w){r_0:Z6}{r:Int}(h:Z3n r_0=some r):AFun Tryz.prog I 113 [Z6.d r_0] (.int .i64 r):=by
 have dd:=Z0s;have k:=True.intro;have q:=k;have rs:=Tryz.results113;unfold Z3n at h;refine .en hI Tryz.func113 Tryz.ntmps113 ?_;refine xs<|rz ?_;refine es<|xs<|xs<|rK fun K _ E J=>zz ?_;obtain⟨r7,h8,h⟩:=bs h;refine cw (ZcR hI hU8T h8)<|zz ?_;subst E J;refine es<|xs<|rz ?_;refine es ?_;obtain⟨k,h⟩|⟨k,h⟩:=iK k h
 ·exact Lc
 refine xf<|xk<|es<|xs<|rK fun K _ E J=>zz ?_;obtain⟨r0,h0,h⟩:=bs h;refine cw (Z8T hI h0)<|zz ?_;subst E J;refine es<|xs ?_;obtain⟨v0,h1,h⟩:=bs h;refine Zk (fun v0=>⟨envL [(1,.ptr 0 0),(30,.bool v0)],Z5 [(0,.box none [.sl (r_0.Runs.map Zd.d)])],1,34⟩) h1 ?_ ?_
 ·clear h;intro v0 h;refine rK fun K _ E J=>zz ?_;obtain⟨k,h⟩|⟨k,h⟩:=iK k h
  ·exact Ld
  refine zz ?_;obtain⟨b0,q,h⟩:=bK q h;refine zz ?_;obtain⟨k,h⟩|⟨k,h⟩:=iK k h
  ·exact Ld
  refine zz ?_;obtain⟨b1,q,h⟩:=bK q h;refine zz ?_;obtain⟨k,h⟩|⟨k,h⟩:=iK k h
  ·exact Ld
  refine zz ?_;obtain⟨r1,h2,h⟩:=bs h;refine cw (Z9a I hI hShp r0 [32,32] h2)<|zz ?_;exact LO
 obtain⟨k,h⟩|⟨k,h⟩:=iK k h
 ·exact Lc
 refine xf<|xk<|es<|xs<|xs<|rK fun K _ E J=>zz ?_;obtain⟨r2,h3,h⟩:=bs h;refine cw (Za1 hI hU8T h3)<|zz ?_;subst E J;refine es ?_;obtain⟨k,h⟩|⟨k,h⟩:=iK k h
 ·exact Lc
 exact LL
def Z08 (e_0:Z0)(x7:(List Int) × Int):Option (Nx ((List Int) × Int) ((List Int))) :=
 (if(decide (x7.2 < (e_0.Rows.length:Int))) then((atI e_0.Rows x7.2).bind fun y0=>((Z1U y0).bind fun r0=>(if(x7.1.length+1) * 8<=140737488355328 then(some (.go ((x7.1++[r0]),(IntKind.i64.wrap (x7.2+1))))) else none))) else(some (.out x7.1)))
def Z1r (e_0:Z0):Option ((List Int)) :=
 ((iter (Z08 e_0) ([],0)).bind fun e8=>(some e8))
theorem Z96{I:World->Prop}(hI:Stab I)(hU8T:∀ w,I w->U8T w){e_0:Z0}{r:(List Int)}(h:Z1r e_0=some r):AFun Tryz.prog I 115 [Z0.d e_0] (.sl (r.map (D.int .i64))):=by
 have dd:=Z0s;have k:=True.intro;have q:=k;have rs:=Tryz.results115;unfold Z1r at h;refine .en hI Tryz.func115 Tryz.ntmps115 ?_;refine xs<|rz ?_;refine es<|xs<|rz ?_;refine es<|xs<|xs<|rz ?_;refine es<|xb ?_;obtain⟨e8,h0,h⟩:=bs h;refine Zb (fun x7=>⟨envL [(3,.own 0 x7.1.length),(7,.sl (e_0.Rows.map Z6.d)),(8,.int .i64 (e_0.Rows.length:Int)),(9,.int .i64 x7.2)],Z5 [(0,.vec 3 1 (x7.1.map (D.int .i64)) false)],1,20⟩) (fun _=>.exit 0) (fun e8=>⟨envL [(3,.own 0 e8.length)],Z5 [(0,.vec 3 1 (e8.map (D.int .i64)) false)],1,20⟩) h0 (wk [(0,none)]) (by intro w;simp) ?_ ?_
 ·clear h;intro x7 y h;unfold Z08 at h;refine xs<|rz ?_;refine es<|xs ?_;obtain⟨k,h⟩|⟨k,h⟩:=iK k h
  ·refine xt<|xk<|es<|xs<|xb<|xs<|rK fun K _ E J=>zz ?_;obtain⟨y0,q,h⟩:=bK q h;refine zz ?_;subst E J;refine es<|rK fun K _ E J=>zz ?_;obtain⟨r0,h1,h⟩:=bs h;refine cw (Za1 hI hU8T h1)<|zz ?_;obtain⟨h2,h⟩:=Zo h;have h3:x7.1.length+1<=9223372036854775807:=by omega
   try simp only[Nat.reduceLeDiff] at h3
   have q:=And.intro @h3<|And.intro @h2<|q;refine zz ?_;subst E J;refine bn<|es<|rz ?_;cases h;exact en ⟨rfl,wk [(0,some 10)]⟩
  exact Le
 exact Lg
def Z1n (r_0:Z3):Option (Bool) :=
 ((Z1C).bind fun r0=>(if((r_0.Name == r0.Name)&&((r_0.Top == r0.Top)&&((r_0.Height == r0.Height)&&((r_0.Left == r0.Left)&&((r_0.Width == r0.Width)&&((r_0.Align == r0.Align)&&(r_0.Bottom == r0.Bottom))))))) then(some true) else((Z1Q r_0).bind fun r1=>(some (r1 == 0)))))
theorem ZaW{I:World->Prop}(hI:Stab I){r_0:Z3}{r:Bool}(h:Z1n r_0=some r):AFun Tryz.prog I 155 [Z3.d r_0] (.bool r):=by
 have dd:=Z0s;have k:=True.intro;have q:=k;have rs:=Tryz.results155;unfold Z1n at h;refine .en hI Tryz.func155 Tryz.ntmps155 ?_;refine xs<|rz ?_;refine es<|xs<|rD hI fun K _ E J=>zz ?_;obtain⟨r0,h0,h⟩:=bs h;refine cd (Z7r hI h0)<|zz ?_;obtain⟨k,h⟩|⟨k,h⟩:=iK k h
 ·exact Lj
 refine zz ?_;obtain⟨r1,h1,h⟩:=bs h;refine cd (Z85 hI h1)<|zz ?_;exact Lz
def Z1k (r_0:Z3)(lens_1:List Int)(x0:(List Zn) × Int):Option (Nx ((List Zn) × Int) (Int ⊕ ((List Zn)))) :=
 (if(decide (x0.2 < (lens_1.length:Int))) then((atI lens_1 x0.2).bind fun y0=>(if(decide (y0 < 0)) then(some (.out (.inl 2))) else(if(decide (r_0.Width < y0)) then(some (.out (.inl 11))) else(if(r_0.Align == 3) then(if(x0.1.length+1) * 24<=140737488355328 then(some (.go ((x0.1++[(Zn.mk (IntKind.i64.wrap ((IntKind.i64.wrap (r_0.Top+(IntKind.i64.wrap (r_0.Height - (lens_1.length:Int)))))+x0.2)) (IntKind.i64.wrap (r_0.Left+(IntKind.i64.wrap (r_0.Width - y0)))) y0)]),(IntKind.i64.wrap (x0.2+1))))) else none) else(if(r_0.Align == 2) then(if(x0.1.length+1) * 24<=140737488355328 then(some (.go ((x0.1++[(Zn.mk (IntKind.i64.wrap ((IntKind.i64.wrap (r_0.Top+(IntKind.i64.wrap (r_0.Height - (lens_1.length:Int)))))+x0.2)) (IntKind.i64.wrap (r_0.Left+(IntKind.i64.wrap (Int.tdiv (IntKind.i64.wrap (r_0.Width - y0)) 2)))) y0)]),(IntKind.i64.wrap (x0.2+1))))) else none) else(if(x0.1.length+1) * 24<=140737488355328 then(some (.go ((x0.1++[(Zn.mk (IntKind.i64.wrap ((IntKind.i64.wrap (r_0.Top+(IntKind.i64.wrap (r_0.Height - (lens_1.length:Int)))))+x0.2)) r_0.Left y0)]),(IntKind.i64.wrap (x0.2+1))))) else none)))))) else(some (.out (.inr x0.1))))
def Z1l (r_0:Z3)(lens_1:List Int)(x0:(List Zn) × Int):Option (Nx ((List Zn) × Int) (Int ⊕ ((List Zn)))) :=
 (if(decide (x0.2 < (lens_1.length:Int))) then((atI lens_1 x0.2).bind fun y0=>(if(decide (y0 < 0)) then(some (.out (.inl 2))) else(if(decide (r_0.Width < y0)) then(some (.out (.inl 11))) else(if(r_0.Align == 3) then(if(x0.1.length+1) * 24<=140737488355328 then(some (.go ((x0.1++[(Zn.mk (IntKind.i64.wrap (r_0.Top+x0.2)) (IntKind.i64.wrap (r_0.Left+(IntKind.i64.wrap (r_0.Width - y0)))) y0)]),(IntKind.i64.wrap (x0.2+1))))) else none) else(if(r_0.Align == 2) then(if(x0.1.length+1) * 24<=140737488355328 then(some (.go ((x0.1++[(Zn.mk (IntKind.i64.wrap (r_0.Top+x0.2)) (IntKind.i64.wrap (r_0.Left+(IntKind.i64.wrap (Int.tdiv (IntKind.i64.wrap (r_0.Width - y0)) 2)))) y0)]),(IntKind.i64.wrap (x0.2+1))))) else none) else(if(x0.1.length+1) * 24<=140737488355328 then(some (.go ((x0.1++[(Zn.mk (IntKind.i64.wrap (r_0.Top+x0.2)) r_0.Left y0)]),(IntKind.i64.wrap (x0.2+1))))) else none)))))) else(some (.out (.inr x0.1))))
def Z2s (r_0:Z3)(lens_1:List Int):Option ((List Zn) × Int) :=
 ((Z1n r_0).bind fun r0=>(if r0 then(if(decide (r_0.Height < (lens_1.length:Int))) then(some ([],9)) else(if r_0.Bottom then((iter (Z1k r_0 lens_1) ([],0)).bind fun e0=>(match e0 with|Sum.inl e0=>(some ([],e0))|Sum.inr (e0)=>(some (e0,0)))) else((iter (Z1l r_0 lens_1) ([],0)).bind fun e1=>(match e1 with|Sum.inl e1=>(some ([],e1))|Sum.inr (e1)=>(some (e1,0)))))) else(some ([],1))))
theorem ZbB{I:World->Prop}(hI:Stab I){r_0:Z3}{lens_1:List Int}{r:(List Zn) × Int}(h:Z2s r_0 lens_1=some r):AFun Tryz.prog I 114 [Z3.d r_0,.sl (lens_1.map (D.int .i64))] (.tup [.sl (r.1.map Zn.d),.int .i64 r.2]):=by
 have dd:=Z0s;have k:=True.intro;have q:=k;have rs:=Tryz.results114;unfold Z2s at h;refine .en hI Tryz.func114 Tryz.ntmps114 ?_;refine xs<|rz ?_;refine es<|xs<|xb<|xs<|rK fun K _ E J=>zz ?_;obtain⟨r0,h0,h⟩:=bs h;refine cw (ZaW hI h0)<|zz ?_;subst E J;refine es ?_;obtain⟨k,h⟩|⟨k,h⟩:=iK k h
 ·refine xf<|xs<|rz ?_;refine es ?_;obtain⟨k,h⟩|⟨k,h⟩:=iK k h
  ·exact Lf
  refine xf<|xk<|bn<|es<|xs<|rz ?_;refine es<|xs<|xs<|rz ?_;refine es ?_;obtain⟨k,h⟩|⟨k,h⟩:=iK k h
  ·refine xt<|rz ?_;refine es<|xs<|rz ?_;refine es<|xs<|xs<|rz ?_;refine es<|xb ?_;obtain⟨e0,h1,h⟩:=bs h;refine Zb (fun x0=>⟨envL [(2,.ptr 0 0),(6,.int .i64 (IntKind.i64.wrap (r_0.Top+(IntKind.i64.wrap (r_0.Height - (lens_1.length:Int)))))),(7,.own 1 x0.1.length),(32,.sl (lens_1.map (D.int .i64))),(33,.int .i64 (lens_1.length:Int)),(34,.int .i64 x0.2)],Z5 [(0,.box none [.str r_0.Name,.int .i64 r_0.Top,.int .i64 r_0.Height,.int .i64 r_0.Left,.int .i64 r_0.Width,.int .u8 r_0.Align,.bool r_0.Bottom]),(1,.vec 194 3 (x0.1.map Zn.d) false)],2,81⟩) (fun w=>match w with|Sum.inl _=>.ret|Sum.inr (_)=>.exit 1) (fun w=>match w with|Sum.inl e0=>⟨envL [(4,.nils),(5,.int .i64 e0)],Z5 [],0,81⟩|Sum.inr (e0)=>⟨envL [(7,.own 0 e0.length)],Z5 [(0,.vec 194 3 (e0.map Zn.d) false)],1,81⟩) h1 (wk [(1,none)]) (by intro w;rcases w with w|w<;>simp) ?_ ?_
   ·clear h;intro x0 y h;unfold Z1k at h;refine xs<|rz ?_;refine es<|xs ?_;obtain⟨k,h⟩|⟨k,h⟩:=iK k h
    ·refine xt<|xk<|es<|xs<|xb<|xs<|rK fun K _ E J=>zz ?_;obtain⟨y0,q,h⟩:=bK q h;refine zz ?_;subst E J;refine es<|xs<|xs<|rz ?_;refine es ?_;obtain⟨k,h⟩|⟨k,h⟩:=iK k h
     ·exact Lh
     refine xf<|xk<|es<|xs<|xs<|rz ?_;refine es ?_;obtain⟨k,h⟩|⟨k,h⟩:=iK k h
     ·exact Lh
     refine xf<|xk<|es<|xs<|rz ?_;refine es<|xs<|xs<|rz ?_;refine es<|xb<|xs<|rz ?_;refine es ?_;obtain⟨k,h⟩|⟨k,h⟩:=iK k h
     ·refine xt<|rz ?_;refine bn<|es<|rK fun K _ E J=>zz ?_;obtain⟨h2,h⟩:=Zo h;have h3:x0.1.length+1<=9223372036854775807:=by omega
      try simp only[Nat.reduceLeDiff] at h3
      have q:=And.intro @h3<|And.intro @h2<|q;refine zz ?_;subst E J;refine bn<|es<|rz ?_;cases h;exact en ⟨rfl,wk [(1,some 39)]⟩
     refine xf<|xs<|rz ?_;refine es ?_;obtain⟨k,h⟩|⟨k,h⟩:=iK k h
     ·refine xt<|rz ?_;refine bn<|es<|rK fun K _ E J=>zz ?_;obtain⟨h4,h⟩:=Zo h;have h5:x0.1.length+1<=9223372036854775807:=by omega
      try simp only[Nat.reduceLeDiff] at h5
      have q:=And.intro @h5<|And.intro @h4<|q;refine zz ?_;subst E J;refine bn<|es<|rz ?_;cases h;exact en ⟨rfl,wk [(1,some 42)]⟩
     refine xf<|xk<|bn<|es<|rK fun K _ E J=>zz ?_;obtain⟨h6,h⟩:=Zo h;have h7:x0.1.length+1<=9223372036854775807:=by omega
     try simp only[Nat.reduceLeDiff] at h7
     have q:=And.intro @h7<|And.intro @h6<|q;refine zz ?_;subst E J;refine bn<|es<|rz ?_;cases h;exact en ⟨rfl,wk [(1,some 32)]⟩
    refine xf<|xx<|ee ?_;exact Lv
   rcases e0 with e0|e0
   ·try dsimp only at h ⊢
    exact Li
   try dsimp only at h ⊢
   exact Lg
  refine xf<|xk<|es<|xs<|rz ?_;refine es<|xs<|xs<|rz ?_;refine es<|xb ?_;obtain⟨e1,h8,h⟩:=bs h;refine Zb (fun x1=>⟨envL [(2,.ptr 0 0),(6,.int .i64 r_0.Top),(7,.own 1 x1.1.length),(32,.sl (lens_1.map (D.int .i64))),(33,.int .i64 (lens_1.length:Int)),(34,.int .i64 x1.2)],Z5 [(0,.box none [.str r_0.Name,.int .i64 r_0.Top,.int .i64 r_0.Height,.int .i64 r_0.Left,.int .i64 r_0.Width,.int .u8 r_0.Align,.bool r_0.Bottom]),(1,.vec 194 3 (x1.1.map Zn.d) false)],2,81⟩) (fun w=>match w with|Sum.inl _=>.ret|Sum.inr (_)=>.exit 1) (fun w=>match w with|Sum.inl e1=>⟨envL [(4,.nils),(5,.int .i64 e1)],Z5 [],0,81⟩|Sum.inr (e1)=>⟨envL [(7,.own 0 e1.length)],Z5 [(0,.vec 194 3 (e1.map Zn.d) false)],1,81⟩) h8 (wk [(1,none)]) (by intro w;rcases w with w|w<;>simp) ?_ ?_
  ·clear h;intro x1 y h;unfold Z1l at h;refine xs<|rz ?_;refine es<|xs ?_;obtain⟨k,h⟩|⟨k,h⟩:=iK k h
   ·refine xt<|xk<|es<|xs<|xb<|xs<|rK fun K _ E J=>zz ?_;obtain⟨y1,q,h⟩:=bK q h;refine zz ?_;subst E J;refine es<|xs<|xs<|rz ?_;refine es ?_;obtain⟨k,h⟩|⟨k,h⟩:=iK k h
    ·exact Lh
    refine xf<|xk<|es<|xs<|xs<|rz ?_;refine es ?_;obtain⟨k,h⟩|⟨k,h⟩:=iK k h
    ·exact Lh
    refine xf<|xk<|es<|xs<|rz ?_;refine es<|xs<|xs<|rz ?_;refine es<|xb<|xs<|rz ?_;refine es ?_;obtain⟨k,h⟩|⟨k,h⟩:=iK k h
    ·refine xt<|rz ?_;refine bn<|es<|rK fun K _ E J=>zz ?_;obtain⟨h9,h⟩:=Zo h;have h10:x1.1.length+1<=9223372036854775807:=by omega
     try simp only[Nat.reduceLeDiff] at h10
     have q:=And.intro @h10<|And.intro @h9<|q;refine zz ?_;subst E J;refine bn<|es<|rz ?_;cases h;exact en ⟨rfl,wk [(1,some 39)]⟩
    refine xf<|xs<|rz ?_;refine es ?_;obtain⟨k,h⟩|⟨k,h⟩:=iK k h
    ·refine xt<|rz ?_;refine bn<|es<|rK fun K _ E J=>zz ?_;obtain⟨h11,h⟩:=Zo h;have h12:x1.1.length+1<=9223372036854775807:=by omega
     try simp only[Nat.reduceLeDiff] at h12
     have q:=And.intro @h12<|And.intro @h11<|q;refine zz ?_;subst E J;refine bn<|es<|rz ?_;cases h;exact en ⟨rfl,wk [(1,some 42)]⟩
    refine xf<|xk<|bn<|es<|rK fun K _ E J=>zz ?_;obtain⟨h13,h⟩:=Zo h;have h14:x1.1.length+1<=9223372036854775807:=by omega
    try simp only[Nat.reduceLeDiff] at h14
    have q:=And.intro @h14<|And.intro @h13<|q;refine zz ?_;subst E J;refine bn<|es<|rz ?_;cases h;exact en ⟨rfl,wk [(1,some 32)]⟩
   refine xf<|xx<|ee ?_;exact Lv
  rcases e1 with e1|e1
  ·try dsimp only at h ⊢
   exact Li
  try dsimp only at h ⊢
  exact Lg
 exact Lf
def Z00 (e_0:Z0)(x0:Int):Option (Nx (Int) (Int ⊕ Unit)) :=
 (if(decide (x0 < (e_0.Rows.length:Int))) then((atI e_0.Rows x0).bind fun y0=>((Z3n y0).bind fun r0=>(if(r0 != 0) then(some (.out (.inl r0))) else(some (.go (IntKind.i64.wrap (x0+1))))))) else(some (.out (.inr ()))))
def Z0c (e_0:Z0)(regions_1:List Z3):Option (Int) :=
 ((Z2c regions_1 e_0.Region).bind fun r7=>(((if(decide (e_0.ID < 1)) then(some true) else(if(decide (1099511627776 < e_0.ID)) then(some true) else((Z30 e_0.Span).bind fun r0=>(some (!r0))))):Option (Bool)).bind fun v0=>(if v0 then(some 2) else(if r7.2 then((Z18 e_0.Kind).bind fun r1=>(if(r1 == ([]:List UInt8)) then(some 3) else(((if(e_0.Speaker == ([]:List UInt8)) then(some false) else((Z0N e_0.Speaker).bind fun r2=>(some (!r2)))):Option (Bool)).bind fun v1=>(if v1 then(some 5) else(((if((e_0.Rows.length:Int) == 0) then(some true) else(some (decide (4 < (e_0.Rows.length:Int))))):Option (Bool)).bind fun v2=>(if v2 then(some 9) else((iter (Z00 e_0) 0).bind fun e0=>(match e0 with|Sum.inl e0=>(some e0)|Sum.inr (e0)=>((Z1r e_0).bind fun r3=>((Z2s r7.1 r3).bind fun r4=>(some r4.2))))))))))) else(some 6)))))
theorem Zcv{I:World->Prop}(hI:Stab I)(hShp:∀ w,I w->Shp w)(hU8T:∀ w,I w->U8T w){e_0:Z0}{regions_1:List Z3}{r:Int}(h:Z0c e_0 regions_1=some r):AFun Tryz.prog I 60 [Z0.d e_0,.sl (regions_1.map Z3.d)] (.int .i64 r):=by
 have dd:=Z0s;have k:=True.intro;have q:=k;have rs:=Tryz.results60;unfold Z0c at h;refine .en hI Tryz.func60 Tryz.ntmps60 ?_;refine xs<|rz ?_;refine es<|xs<|rK fun K _ E J=>zz ?_;obtain⟨r7,h8,h⟩:=bs h;refine cw (ZcO hI h8)<|zz ?_;subst E J;refine es<|xs<|xb ?_;obtain⟨v0,h0,h⟩:=bs h;refine Zk (fun v0=>⟨envL [(2,.ptr 0 0),(5,.ptr 1 0),(6,.bool r7.2),(19,.bool v0)],Z5 [(0,.box none [.int .i64 e_0.ID,.int .i64 e_0.Span.In,.int .i64 e_0.Span.Out,.str e_0.Region,.int .u8 e_0.Kind,.str e_0.Speaker,.sl (e_0.Rows.map Z6.d)]),(1,.box none [.str r7.1.Name,.int .i64 r7.1.Top,.int .i64 r7.1.Height,.int .i64 r7.1.Left,.int .i64 r7.1.Width,.int .u8 r7.1.Align,.bool r7.1.Bottom])],2,84⟩) h0 ?_ ?_
 ·clear h;intro v0 h;refine rK fun K _ E J=>zz ?_;obtain⟨k,h⟩|⟨k,h⟩:=iK k h
  ·exact LR
  refine zz ?_;obtain⟨k,h⟩|⟨k,h⟩:=iK k h
  ·exact LR
  refine zz ?_;obtain⟨r0,h1,h⟩:=bs h;refine cw (Zcx hI h1)<|zz ?_;subst E J;exact Lx
 obtain⟨k,h⟩|⟨k,h⟩:=iK k h
 ·exact Lf
 refine xf<|xs<|rz ?_;refine es ?_;obtain⟨k,h⟩|⟨k,h⟩:=iK k h
 ·refine xf<|xs<|rK fun K _ E J=>zz ?_;obtain⟨r1,h2,h⟩:=bs h;refine cw (Zac hI h2)<|zz ?_;subst E J;refine es ?_;obtain⟨k,h⟩|⟨k,h⟩:=iK k h
  ·exact Lf
  refine xf ?_;obtain⟨v1,h3,h⟩:=bs h;refine Zk (fun v1=>⟨envL [(2,.ptr 0 0),(5,.ptr 1 0),(42,.bool v1)],Z5 [(0,.box none [.int .i64 e_0.ID,.int .i64 e_0.Span.In,.int .i64 e_0.Span.Out,.str e_0.Region,.int .u8 e_0.Kind,.str e_0.Speaker,.sl (e_0.Rows.map Z6.d)]),(1,.box none [.str r7.1.Name,.int .i64 r7.1.Top,.int .i64 r7.1.Height,.int .i64 r7.1.Left,.int .i64 r7.1.Width,.int .u8 r7.1.Align,.bool r7.1.Bottom])],2,84⟩) h3 ?_ ?_
  ·clear h;intro v1 h;refine rK fun K _ E J=>zz ?_;obtain⟨k,h⟩|⟨k,h⟩:=iK k h
   ·exact Ld
   refine zz ?_;obtain⟨r2,h4,h⟩:=bs h;refine cw (Z4v hI h4)<|zz ?_;exact LO
  obtain⟨k,h⟩|⟨k,h⟩:=iK k h
  ·exact Lf
  refine xf ?_;obtain⟨v2,h5,h⟩:=bs h;refine Zk (fun v2=>⟨envL [(2,.ptr 0 0),(5,.ptr 1 0),(52,.bool v2)],Z5 [(0,.box none [.int .i64 e_0.ID,.int .i64 e_0.Span.In,.int .i64 e_0.Span.Out,.str e_0.Region,.int .u8 e_0.Kind,.str e_0.Speaker,.sl (e_0.Rows.map Z6.d)]),(1,.box none [.str r7.1.Name,.int .i64 r7.1.Top,.int .i64 r7.1.Height,.int .i64 r7.1.Left,.int .i64 r7.1.Width,.int .u8 r7.1.Align,.bool r7.1.Bottom])],2,84⟩) h5 ?_ ?_
  ·clear h;intro v2 h;refine rK fun K _ E J=>zz ?_;obtain⟨k,h⟩|⟨k,h⟩:=iK k h
   ·exact Ld
   exact Ld
  obtain⟨k,h⟩|⟨k,h⟩:=iK k h
  ·exact Lf
  refine xf<|xk<|bn<|es<|xs<|xs<|rz ?_;refine es<|xb ?_;obtain⟨e0,h6,h⟩:=bs h;refine Zb (fun x0=>⟨envL [(2,.ptr 0 0),(5,.ptr 1 0),(64,.sl (e_0.Rows.map Z6.d)),(65,.int .i64 (e_0.Rows.length:Int)),(66,.int .i64 x0)],Z5 [(0,.box none [.int .i64 e_0.ID,.int .i64 e_0.Span.In,.int .i64 e_0.Span.Out,.str e_0.Region,.int .u8 e_0.Kind,.str e_0.Speaker,.sl (e_0.Rows.map Z6.d)]),(1,.box none [.str r7.1.Name,.int .i64 r7.1.Top,.int .i64 r7.1.Height,.int .i64 r7.1.Left,.int .i64 r7.1.Width,.int .u8 r7.1.Align,.bool r7.1.Bottom])],2,84⟩) (fun w=>match w with|Sum.inl _=>.ret|Sum.inr (_)=>.exit 1) (fun w=>match w with|Sum.inl e0=>⟨envL [(4,.int .i64 e0)],Z5 [],0,84⟩|Sum.inr (e0)=>⟨envL [(2,.ptr 0 0),(5,.ptr 1 0)],Z5 [(0,.box none [.int .i64 e_0.ID,.int .i64 e_0.Span.In,.int .i64 e_0.Span.Out,.str e_0.Region,.int .u8 e_0.Kind,.str e_0.Speaker,.sl (e_0.Rows.map Z6.d)]),(1,.box none [.str r7.1.Name,.int .i64 r7.1.Top,.int .i64 r7.1.Height,.int .i64 r7.1.Left,.int .i64 r7.1.Width,.int .u8 r7.1.Align,.bool r7.1.Bottom])],2,84⟩) h6 (wk []) (by intro w;rcases w with w|w<;>simp) ?_ ?_
  ·clear h;intro x0 y h;unfold Z00 at h;refine xs<|rz ?_;refine es<|xs ?_;obtain⟨k,h⟩|⟨k,h⟩:=iK k h
   ·refine xt<|xk<|es<|xs<|xb<|xs<|rK fun K _ E J=>zz ?_;obtain⟨y0,q,h⟩:=bK q h;refine zz ?_;subst E J;refine es<|xs<|rK fun K _ E J=>zz ?_;obtain⟨r3,h7,h⟩:=bs h;refine cw (Zen hI hShp hU8T h7)<|zz ?_;subst E J;refine es<|xs<|rz ?_;refine es ?_;obtain⟨k,h⟩|⟨k,h⟩:=iK k h
    ·exact Lk
    exact Ll
   exact Le
  rcases e0 with e0|e0
  ·try dsimp only at h ⊢
   exact Li
  try dsimp only at h ⊢
  refine bh<|es<|xs<|rD hI fun K _ E J=>zz ?_;obtain⟨r4,h9,h⟩:=bs h;refine cd (Z96 hI hU8T h9)<|zz ?_;obtain⟨r5,h10,h⟩:=bs h;refine cd (ZbB hI h10)<|zz ?_;exact LQ
 exact Lf
def Z3a (x_0:Int):Option (Bool) :=
 (some (x_0 != x_0))
theorem Z77{I:World->Prop}(hI:Stab I){x_0:Int}{r:Bool}(h:Z3a x_0=some r):AFun Tryz.prog I 144 [.int .i64 x_0] (.bool r):=by
 have dd:=Z0s;have k:=True.intro;have q:=k;have rs:=Tryz.results144;unfold Z3a at h;refine .en hI Tryz.func144 Tryz.ntmps144 ?_;exact LA
def Z0G (x_0:Int)(y_1:Int):Option (Int) :=
 ((Z3a x_0).bind fun r7=>((Z3a y_1).bind fun r0=>(if r7 then(if r0 then(some 0) else(some (-1))) else(if r0 then(some 1) else(if(decide (x_0 < y_1)) then(some (-1)) else(if(decide (y_1 < x_0)) then(some 1) else(some 0)))))))
theorem Z3N{I:World->Prop}(hI:Stab I){x_0:Int}{y_1:Int}{r:Int}(h:Z0G x_0 y_1=some r):AFun Tryz.prog I 105 [.int .i64 x_0,.int .i64 y_1] (.int .i64 r):=by
 have dd:=Z0s;have k:=True.intro;have q:=k;have rs:=Tryz.results105;unfold Z0G at h;refine .en hI Tryz.func105 Tryz.ntmps105 ?_;refine xs<|rz ?_;refine es<|xs<|rK fun K _ E J=>zz ?_;obtain⟨r7,h8,h⟩:=bs h;refine cw (Z77 hI h8)<|zz ?_;subst E J;refine es<|xs<|rK fun K _ E J=>zz ?_;obtain⟨r0,h0,h⟩:=bs h;refine cw (Z77 hI h0)<|zz ?_;subst E J;refine es<|xs<|xs<|rz ?_;refine es ?_;obtain⟨k,h⟩|⟨k,h⟩:=iK k h
 ·refine xt<|xs<|xs<|rz ?_;refine es ?_;obtain⟨k,h⟩|⟨k,h⟩:=iK k h
  ·refine xt<|xs<|rz ?_;refine es<|xr<|er<|er ?_;cases h;exact en fr
  refine xf<|xk<|es<|xs<|rz ?_;exact LJ
 refine xf<|xk<|es<|xs<|xs<|rz ?_;refine es ?_;obtain⟨k,h⟩|⟨k,h⟩:=iK k h
 ·exact Lc
 refine xf<|xk<|es<|xs<|xs<|rz ?_;refine es ?_;obtain⟨k,h⟩|⟨k,h⟩:=iK k h
 ·exact Lc
 refine xf<|xk<|es<|xs<|xs<|rz ?_;refine es ?_;obtain⟨k,h⟩|⟨k,h⟩:=iK k h
 ·exact Lc
 exact LL
def Z1Y (vals_0:List Int)(x7:Int):Option (Nx (Int) (Int ⊕ Unit)) :=
 (if(decide (x7 < (vals_0.length:Int))) then((atI vals_0 x7).bind fun y0=>(if(y0 != 0) then(some (.out (.inl y0))) else(some (.go (IntKind.i64.wrap (x7+1)))))) else(some (.out (.inr ()))))
def Z4z (vals_0:List Int):Option (Int) :=
 ((iter (Z1Y vals_0) 0).bind fun e8=>(match e8 with|Sum.inl e8=>(some e8)|Sum.inr (e8)=>(some 0)))
theorem Z91{I:World->Prop}(hI:Stab I){vals_0:List Int}{r:Int}(h:Z4z vals_0=some r):AFun Tryz.prog I 104 [.sl (vals_0.map (D.int .i64))] (.int .i64 r):=by
 have dd:=Z0s;have k:=True.intro;have q:=k;have rs:=Tryz.results104;unfold Z4z at h;refine .en hI Tryz.func104 Tryz.ntmps104 ?_;refine xs<|rz ?_;refine es<|xs<|rz ?_;refine es<|xs<|xs<|rz ?_;refine es<|xb ?_;obtain⟨e8,h0,h⟩:=bs h;refine Zb (fun x7=>⟨envL [(3,.int .i64 0),(6,.sl (vals_0.map (D.int .i64))),(7,.int .i64 (vals_0.length:Int)),(8,.int .i64 x7)],Z5 [],0,18⟩) (fun w=>match w with|Sum.inl _=>.ret|Sum.inr (_)=>.exit 0) (fun w=>match w with|Sum.inl e8=>⟨envL [(2,.int .i64 e8)],Z5 [],0,18⟩|Sum.inr (e8)=>⟨envL [(3,.int .i64 0)],Z5 [],0,18⟩) h0 (wk []) (by intro w;rcases w with w|w<;>simp) ?_ ?_
 ·clear h;intro x7 y h;unfold Z1Y at h;refine xs<|rz ?_;refine es<|xs ?_;obtain⟨k,h⟩|⟨k,h⟩:=iK k h
  ·refine xt<|xk<|es<|xs<|xb<|xs<|rK fun K _ E J=>zz ?_;obtain⟨y0,q,h⟩:=bK q h;refine zz ?_;subst E J;refine es<|xs<|rz ?_;refine es ?_;obtain⟨k,h⟩|⟨k,h⟩:=iK k h
   ·exact Lk
   exact Ll
  exact Le
 rcases e8 with e8|e8
 ·try dsimp only at h ⊢
  exact Li
 try dsimp only at h ⊢
 exact Lg
def Z4A (a_0:Z0)(b_1:Z0):Option (Bool) :=
 ((Z0G a_0.Span.In b_1.Span.In).bind fun r0=>((Z0G a_0.ID b_1.ID).bind fun r1=>((Z4z [r0,r1]).bind fun r2=>(some (decide (r2 < 0))))))
theorem Zda{I:World->Prop}(hI:Stab I){a_0:Z0}{b_1:Z0}{r:Bool}(h:Z4A a_0 b_1=some r):AFun Tryz.prog I 61 [Z0.d a_0,Z0.d b_1] (.bool r):=by
 have dd:=Z0s;have k:=True.intro;have q:=k;have rs:=Tryz.results61;unfold Z4A at h;refine .en hI Tryz.func61 Tryz.ntmps61 ?_;refine xs<|rz ?_;refine es<|xs<|rD hI fun K _ E J=>zz ?_;obtain⟨r0,h0,h⟩:=bs h;refine cd (Z3N hI h0)<|zz ?_;obtain⟨r1,h1,h⟩:=bs h;refine cd (Z3N hI h1)<|zz ?_;obtain⟨r2,h2,h⟩:=bs h;refine cd (Z91 hI h2)<|zz ?_;exact Lz
def Z1f (r9:(List Int))(x0:Int × Int):Option (Nx (Int × Int) (Unit ⊕ Int)) :=
 (if(decide (x0.2 < (r9.length:Int))) then((atI r9 x0.2).bind fun y0=>(if(decide (y0 < 0)) then(some (.out (.inl ()))) else(some (.go ((IntKind.i64.wrap (x0.1+y0)),(IntKind.i64.wrap (x0.2+1))))))) else(some (.out (.inr x0.1))))
def Z1T (e_0:Z0):Option (Int) :=
 ((Z1r e_0).bind fun r9=>((iter (Z1f r9) ((if 0 > (IntKind.i64.wrap ((e_0.Rows.length:Int) - 1)) then 0 else(IntKind.i64.wrap ((e_0.Rows.length:Int) - 1))),0)).bind fun e0=>(match e0 with|Sum.inl e0=>(some (-1))|Sum.inr (e0)=>(some e0))))
theorem Zem{I:World->Prop}(hI:Stab I)(hU8T:∀ w,I w->U8T w){e_0:Z0}{r:Int}(h:Z1T e_0=some r):AFun Tryz.prog I 156 [Z0.d e_0] (.int .i64 r):=by
 have dd:=Z0s;have k:=True.intro;have q:=k;have rs:=Tryz.results156;unfold Z1T at h;refine .en hI Tryz.func156 Tryz.ntmps156 ?_;refine xs<|rz ?_;refine es<|xs<|rz ?_;refine es<|xs<|xs<|rK fun K _ E J=>zz ?_;obtain⟨r9,h0,h⟩:=bs h;refine cw (Z96 hI hU8T h0)<|zz ?_;subst E J;refine es<|xb ?_;obtain⟨e0,h1,h⟩:=bs h;refine Zb (fun x0=>⟨envL [(3,.int .i64 x0.1),(12,.sl (r9.map (D.int .i64))),(13,.int .i64 (r9.length:Int)),(14,.int .i64 x0.2)],Z5 [],0,25⟩) (fun w=>match w with|Sum.inl _=>.ret|Sum.inr (_)=>.exit 0) (fun w=>match w with|Sum.inl e0=>⟨envL [(2,.int .i64 (-1))],Z5 [],0,25⟩|Sum.inr (e0)=>⟨envL [(3,.int .i64 e0)],Z5 [],0,25⟩) h1 (wk []) (by intro w;rcases w with w|w<;>simp) ?_ ?_
 ·clear h;intro x0 y h;unfold Z1f at h;refine xs<|rz ?_;refine es<|xs ?_;obtain⟨k,h⟩|⟨k,h⟩:=iK k h
  ·refine xt<|xk<|es<|xs<|xb<|xs<|rK fun K _ E J=>zz ?_;obtain⟨y0,q,h⟩:=bK q h;refine zz ?_;subst E J;refine es<|xs<|xs<|rz ?_;refine es ?_;obtain⟨k,h⟩|⟨k,h⟩:=iK k h
   ·exact Lh
   refine xf<|xk<|es<|rz ?_;exact Ln
  exact Le
 rcases e0 with e0|e0
 ·try dsimp only at h ⊢
  exact Li
 try dsimp only at h ⊢
 exact Lg
def ZY (d_0:Z2)(c_1:Z4)(events_2:MI Int):Option (Int) :=
 (if(decide (c_1.Event < 1)) then(some 2) else(if(decide (d_0.Last < c_1.Event)) then(some 2) else(if c_1.Lost then(((if(c_1.From != 0) then(some true) else(some (c_1.To != 0))):Option (Bool)).bind fun v0=>(if v0 then(some 2) else(some 0))) else(if(events_2.ks.contains c_1.Event) then(if(decide (c_1.From < 0)) then(some 2) else(if(decide (c_1.To<=c_1.From)) then(some 2) else((atI d_0.Events (Z2g events_2.ks events_2.vs c_1.Event 0)).bind fun y0=>((Z1T y0).bind fun r0=>(if(decide (r0 < c_1.To)) then(some 2) else(some 0)))))) else(some 6)))))
theorem Z6z{I:World->Prop}(hI:Stab I)(hU8T:∀ w,I w->U8T w){d_0:Z2}{c_1:Z4}{events_2:MI Int}{r:Int}(h:ZY d_0 c_1 events_2=some r):AFun Tryz.prog I 116 [Z2.d d_0,Z4.d c_1,.mp .i64 events_2.ks (events_2.vs.map (D.int .i64))] (.int .i64 r):=by
 have dd:=Z0s;have k:=True.intro;have q:=k;have rs:=Tryz.results116;unfold ZY at h;refine .en hI Tryz.func116 Tryz.ntmps116 ?_;refine xs<|rz ?_;refine es<|xs<|xs<|rK fun K _ E J=>zz ?_;obtain⟨k,h⟩|⟨k,h⟩:=iK k h
 ·exact Lt
 refine zz ?_;subst E J;refine es ?_;obtain⟨k,h⟩|⟨k,h⟩:=iK k h
 ·exact Lc
 refine xf<|xk<|es<|xs<|xs<|rz ?_;refine es ?_;obtain⟨k,h⟩|⟨k,h⟩:=iK k h
 ·refine xt<|xs ?_;obtain⟨v0,h0,h⟩:=bs h;refine Zk (fun v0=>⟨envL [(28,.bool v0)],Z5 [],0,59⟩) h0 ?_ ?_
  ·clear h;intro v0 h;refine rK fun K _ E J=>zz ?_;obtain⟨k,h⟩|⟨k,h⟩:=iK k h
   ·exact Ld
   exact Ld
  obtain⟨k,h⟩|⟨k,h⟩:=iK k h
  ·refine xt<|xs<|rz ?_;refine es<|xr<|er<|er ?_;cases h;exact en fr
  refine xf<|xk<|es<|xs<|rz ?_;exact LJ
 refine xf<|xk<|es<|xs<|rz ?_;refine es<|xs<|xs<|rz ?_;refine es ?_;obtain⟨k,h⟩|⟨k,h⟩:=iK k h
 ·refine xf<|xk<|es<|xs<|xs<|rD hI fun K _ E J=>zz ?_;obtain⟨k,h⟩|⟨k,h⟩:=iK k h
  ·exact Lt
  refine zz ?_;obtain⟨k,h⟩|⟨k,h⟩:=iK k h
  ·exact Lt
  refine zz ?_;obtain⟨y0,q,h⟩:=bK q h;refine zz ?_;obtain⟨r0,h1,h⟩:=bs h;refine cd (Zem hI hU8T h1)<|zz ?_;subst E J;refine es ?_;obtain⟨k,h⟩|⟨k,h⟩:=iK k h
  ·exact Lc
  exact LL
 exact Lc
def ZS (d_0:Z2)(events_1:MI Int)(x0:Int):Option (Nx (Int) (Int ⊕ Unit)) :=
 (if(decide (x0 < (d_0.Comments.length:Int))) then((atI d_0.Comments x0).bind fun y0=>(if(decide (y0.ID < 1)) then(some (.out (.inl 2))) else(if(decide (d_0.Last < y0.ID)) then(some (.out (.inl 2))) else(if(decide (0 < x0)) then((atI d_0.Comments (IntKind.i64.wrap (x0 - 1))).bind fun y1=>(if(decide (y0.ID<=y1.ID)) then(some (.out (.inl 8))) else(if(events_1.ks.contains y0.ID) then(some (.out (.inl 7))) else((ZY d_0 y0 events_1).bind fun r0=>(if(r0 != 0) then(some (.out (.inl r0))) else((Z0N y0.Author).bind fun r1=>(if r1 then((ZT y0.Text).bind fun r2=>(if r2 then(if(y0.Text == ([]:List UInt8)) then(some (.out (.inl 4))) else(if(decide (400 < (y0.Text.length:Int))) then(some (.out (.inl 9))) else(some (.go (IntKind.i64.wrap (x0+1)))))) else(some (.out (.inl 10))))) else(some (.out (.inl 5)))))))))) else(if(events_1.ks.contains y0.ID) then(some (.out (.inl 7))) else((ZY d_0 y0 events_1).bind fun r3=>(if(r3 != 0) then(some (.out (.inl r3))) else((Z0N y0.Author).bind fun r4=>(if r4 then((ZT y0.Text).bind fun r5=>(if r5 then(if(y0.Text == ([]:List UInt8)) then(some (.out (.inl 4))) else(if(decide (400 < (y0.Text.length:Int))) then(some (.out (.inl 9))) else(some (.go (IntKind.i64.wrap (x0+1)))))) else(some (.out (.inl 10))))) else(some (.out (.inl 5)))))))))))) else(some (.out (.inr ()))))
def Z0b (d_0:Z2)(events_1:MI Int):Option (Int) :=
 (if(decide (64 < (d_0.Comments.length:Int))) then(some 9) else((iter (ZS d_0 events_1) 0).bind fun e0=>(match e0 with|Sum.inl e0=>(some e0)|Sum.inr (e0)=>(some 0))))
theorem Z8Z{I:World->Prop}(hI:Stab I)(hU8T:∀ w,I w->U8T w){d_0:Z2}{events_1:MI Int}{r:Int}(h:Z0b d_0 events_1=some r):AFun Tryz.prog I 62 [Z2.d d_0,.mp .i64 events_1.ks (events_1.vs.map (D.int .i64))] (.int .i64 r):=by
 have dd:=Z0s;have k:=True.intro;have q:=k;have rs:=Tryz.results62;unfold Z0b at h;refine .en hI Tryz.func62 Tryz.ntmps62 ?_;refine xs<|rz ?_;refine es<|xs<|xs<|rz ?_;refine es ?_;obtain⟨k,h⟩|⟨k,h⟩:=iK k h
 ·exact Lc
 refine xf<|xk<|es<|xs<|xs<|rz ?_;refine es<|xb ?_;obtain⟨e0,h0,h⟩:=bs h;refine Zb (fun x0=>⟨envL [(1,.mp .i64 events_1.ks (events_1.vs.map (D.int .i64))),(2,.ptr 0 0),(15,.sl (d_0.Comments.map Z4.d)),(16,.int .i64 (d_0.Comments.length:Int)),(17,.int .i64 x0)],Z5 [(0,.box none [.str d_0.Title,.str d_0.Lang,.int .u8 d_0.Rate,.bool d_0.Drop,.int .i64 d_0.Last,.sl (d_0.Regions.map Z3.d),.sl (d_0.Events.map Z0.d),.sl (d_0.Comments.map Z4.d)])],1,84⟩) (fun w=>match w with|Sum.inl _=>.ret|Sum.inr (_)=>.exit 0) (fun w=>match w with|Sum.inl e0=>⟨envL [(4,.int .i64 e0)],Z5 [],0,84⟩|Sum.inr (e0)=>⟨envL [],Z5 [],0,84⟩) h0 (wk []) (by intro w;rcases w with w|w<;>simp) ?_ ?_
 ·clear h;intro x0 y h;unfold ZS at h;refine xs<|rz ?_;refine es<|xs ?_;obtain⟨k,h⟩|⟨k,h⟩:=iK k h
  ·refine xt<|xk<|es<|xs<|xb<|xs<|rK fun K _ E J=>zz ?_;obtain⟨y0,q,h⟩:=bK q h;refine zz ?_;subst E J;refine es<|xs<|rz ?_;refine es<|xs<|xb<|xs<|rK fun K _ E J=>zz ?_;obtain⟨k,h⟩|⟨k,h⟩:=iK k h
   ·refine zz ?_;subst E J;refine es<|xt<|xs<|rz ?_;refine es<|xr<|br<|er<|br<|er ?_;exact La
   refine zz ?_;subst E J;refine es ?_;obtain⟨k,h⟩|⟨k,h⟩:=iK k h
   ·exact LH
   refine xf<|xs<|rD hI fun K _ E J=>zz ?_;obtain⟨k,h⟩|⟨k,h⟩:=iK k h
   ·refine zz ?_;obtain⟨y1,q,h⟩:=bK q h;refine zz ?_;subst E J;refine es ?_;obtain⟨k,h⟩|⟨k,h⟩:=iK k h
    ·exact LH
    refine xf<|xs<|rz ?_;refine es ?_;obtain⟨k,h⟩|⟨k,h⟩:=iK k h
    ·exact LH
    refine xf<|xk<|bn<|es<|xs<|xs<|rK fun K _ E J=>zz ?_;obtain⟨r0,h1,h⟩:=bs h;refine cw (Z6z hI hU8T h1)<|zz ?_;subst E J;refine es<|xs<|rz ?_;refine es ?_;obtain⟨k,h⟩|⟨k,h⟩:=iK k h
    ·exact Lh
    refine xf<|xk<|es<|xb<|xs<|rK fun K _ E J=>zz ?_;obtain⟨r1,h2,h⟩:=bs h;refine cw (Z4v hI h2)<|zz ?_;subst E J;refine es ?_;obtain⟨k,h⟩|⟨k,h⟩:=iK k h
    ·refine xf<|xs<|rK fun K _ E J=>zz ?_;obtain⟨r2,h3,h⟩:=bs h;refine cw (Z1V hI hU8T h3)<|zz ?_;subst E J;refine es ?_;obtain⟨k,h⟩|⟨k,h⟩:=iK k h
     ·refine xf<|xs<|rz ?_;refine es ?_;obtain⟨k,h⟩|⟨k,h⟩:=iK k h
      ·exact Lm
      refine xf<|xs<|rz ?_;refine es ?_;obtain⟨k,h⟩|⟨k,h⟩:=iK k h
      ·exact Lm
      exact LN
     exact Lm
    exact Lm
   refine zz ?_;subst E J;refine es<|xf<|xs<|rz ?_;refine es ?_;obtain⟨k,h⟩|⟨k,h⟩:=iK k h
   ·exact LH
   refine xf<|xk<|bn<|es<|xs<|xs<|rK fun K _ E J=>zz ?_;obtain⟨r3,h4,h⟩:=bs h;refine cw (Z6z hI hU8T h4)<|zz ?_;subst E J;refine es<|xs<|rz ?_;refine es ?_;obtain⟨k,h⟩|⟨k,h⟩:=iK k h
   ·exact Lh
   refine xf<|xk<|es<|xb<|xs<|rK fun K _ E J=>zz ?_;obtain⟨r4,h5,h⟩:=bs h;refine cw (Z4v hI h5)<|zz ?_;subst E J;refine es ?_;obtain⟨k,h⟩|⟨k,h⟩:=iK k h
   ·refine xf<|xs<|rK fun K _ E J=>zz ?_;obtain⟨r5,h6,h⟩:=bs h;refine cw (Z1V hI hU8T h6)<|zz ?_;subst E J;refine es ?_;obtain⟨k,h⟩|⟨k,h⟩:=iK k h
    ·refine xf<|xs<|rz ?_;refine es ?_;obtain⟨k,h⟩|⟨k,h⟩:=iK k h
     ·exact Lm
     refine xf<|xs<|rz ?_;refine es ?_;obtain⟨k,h⟩|⟨k,h⟩:=iK k h
     ·exact Lm
     exact LN
    exact Lm
   exact Lm
  exact Le
 rcases e0 with e0|e0
 ·try dsimp only at h ⊢
  exact Li
 try dsimp only at h ⊢
 exact Lg
def Z0a (d_0:Z2)(x0:Int × (List Int) × (List Int)):Option (Nx (Int × (List Int) × (List Int)) (Int ⊕ ((List Int) × (List Int)))) :=
 (if(decide (x0.1 < (d_0.Events.length:Int))) then((atI d_0.Events x0.1).bind fun y0=>((Z0c y0 d_0.Regions).bind fun r0=>(if(r0 != 0) then(some (.out (.inl r0))) else(((if(decide (d_0.Last < y0.ID)) then(some (.out 2)) else(if(decide (0 < x0.1)) then((atI d_0.Events (IntKind.i64.wrap (x0.1 - 1))).bind fun y1=>((Z4A y1 y0).bind fun r1=>(if r1 then(if(x0.2.1.contains y0.ID) then(some (.out 7)) else(some (.go ()))) else(some (.out 8))))) else(if(x0.2.1.contains y0.ID) then(some (.out 7)) else(some (.go ()))))):Option (Nx (Unit) (Int))).bind fun w0=>match w0 with|.go v0=>(some (.go ((IntKind.i64.wrap (x0.1+1)),(putK x0.2.1 y0.ID),(putV x0.2.1 x0.2.2 y0.ID x0.1))))|.out e0=>(some (.out (.inl e0))))))) else(some (.out (.inr (x0.2.1,x0.2.2)))))
def Zq (d_0:Z2):Option (Int) :=
 ((Z0r d_0).bind fun r7=>(if(r7 != 0) then(some r7) else((Z0S d_0.Regions).bind fun r0=>(if(r0 != 0) then(some r0) else(if(decide (400 < (d_0.Events.length:Int))) then(some 9) else((iter (Z0a d_0) (0,([]:List Int),([]:List Int))).bind fun e0=>(match e0 with|Sum.inl e0=>(some e0)|Sum.inr (e0)=>((Z0b d_0 (MI.mk e0.1 e0.2)).bind fun r1=>(some r1)))))))))
theorem Z7o{I:World->Prop}(hI:Stab I)(hShp:∀ w,I w->Shp w)(hU8T:∀ w,I w->U8T w){d_0:Z2}{r:Int}(h:Zq d_0=some r):AFun Tryz.prog I 23 [Z2.d d_0] (.int .i64 r):=by
 have dd:=Z0s;have k:=True.intro;have q:=k;have rs:=Tryz.results23;unfold Zq at h;refine .en hI Tryz.func23 Tryz.ntmps23 ?_;refine xs<|rz ?_;refine es<|xs<|xs<|rK fun K _ E J=>zz ?_;obtain⟨r7,h8,h⟩:=bs h;refine cw (Z9W hI hU8T h8)<|zz ?_;subst E J;refine es<|xs<|rz ?_;refine es ?_;obtain⟨k,h⟩|⟨k,h⟩:=iK k h
 ·exact Lc
 refine xf<|xk<|es<|xs<|xs<|rK fun K _ E J=>zz ?_;obtain⟨r0,h0,h⟩:=bs h;refine cw (Z99 hI h0)<|zz ?_;subst E J;refine es<|xs<|rz ?_;refine es ?_;obtain⟨k,h⟩|⟨k,h⟩:=iK k h
 ·exact Lc
 refine xf<|xk<|es<|xs<|xs<|rz ?_;refine es ?_;obtain⟨k,h⟩|⟨k,h⟩:=iK k h
 ·exact Lc
 refine xf<|xk<|es<|xs<|rz ?_;refine es<|xs<|xs<|rz ?_;refine es<|xb ?_;obtain⟨e0,h1,h⟩:=bs h;refine Zb (fun x0=>⟨envL [(1,.ptr 0 0),(5,.omp 1),(28,.sl (d_0.Events.map Z0.d)),(29,.int .i64 (d_0.Events.length:Int)),(30,.int .i64 x0.1)],Z5 [(0,.box none [.str d_0.Title,.str d_0.Lang,.int .u8 d_0.Rate,.bool d_0.Drop,.int .i64 d_0.Last,.sl (d_0.Regions.map Z3.d),.sl (d_0.Events.map Z0.d),.sl (d_0.Comments.map Z4.d)]),(1,.mp .i64 x0.2.1 (x0.2.2.map (D.int .i64)) false)],2,79⟩) (fun w=>match w with|Sum.inl _=>.ret|Sum.inr (_)=>.exit 0) (fun w=>match w with|Sum.inl e0=>⟨envL [(2,.int .i64 e0)],Z5 [],0,79⟩|Sum.inr (e0)=>⟨envL [(1,.ptr 0 0),(5,.omp 1)],Z5 [(0,.box none [.str d_0.Title,.str d_0.Lang,.int .u8 d_0.Rate,.bool d_0.Drop,.int .i64 d_0.Last,.sl (d_0.Regions.map Z3.d),.sl (d_0.Events.map Z0.d),.sl (d_0.Comments.map Z4.d)]),(1,.mp .i64 e0.1 (e0.2.map (D.int .i64)) false)],2,79⟩) h1 (wk [(1,some 17)]) (by intro w;rcases w with w|w<;>simp) ?_ ?_
 ·clear h;intro x0 y h;unfold Z0a at h;refine xs<|rz ?_;refine es<|xs ?_;obtain⟨k,h⟩|⟨k,h⟩:=iK k h
  ·refine xt<|xk<|es<|xs<|xb<|xs<|rK fun K _ E J=>zz ?_;obtain⟨y0,q,h⟩:=bK q h;refine zz ?_;subst E J;refine es<|xs<|xs<|rK fun K _ E J=>zz ?_;obtain⟨r1,h2,h⟩:=bs h;refine cw (Zcv hI hShp hU8T h2)<|zz ?_;subst E J;refine es<|xs<|rz ?_;refine es ?_;obtain⟨k,h⟩|⟨k,h⟩:=iK k h
   ·exact Lh
   refine xf<|xk<|es<|xs<|rz ?_;refine es ?_;obtain⟨w0,h3,h⟩:=bs h;refine Zbf (fun v0=>⟨envL [(1,.ptr 0 0),(5,.omp 1),(6,.int .i64 x0.1),(7,.ptr 2 0),(28,.sl (d_0.Events.map Z0.d)),(29,.int .i64 (d_0.Events.length:Int)),(30,.int .i64 x0.1)],Z5 [(0,.box none [.str d_0.Title,.str d_0.Lang,.int .u8 d_0.Rate,.bool d_0.Drop,.int .i64 d_0.Last,.sl (d_0.Regions.map Z3.d),.sl (d_0.Events.map Z0.d),.sl (d_0.Comments.map Z4.d)]),(1,.mp .i64 x0.2.1 (x0.2.2.map (D.int .i64)) false),(2,.box none [.int .i64 y0.ID,.int .i64 y0.Span.In,.int .i64 y0.Span.Out,.str y0.Region,.int .u8 y0.Kind,.str y0.Speaker,.sl (y0.Rows.map Z6.d)])],3,79⟩) (fun _=>.ret) (fun e1=>⟨envL [(2,.int .i64 e1)],Z5 [],0,79⟩) h3 (by intro w;simp) ?_ ?_ ?_
   ·clear h;intro w0 h;refine xb<|xs<|rz ?_;refine es ?_;obtain⟨k,h⟩|⟨k,h⟩:=iK k h
    ·exact Ls
    refine xf<|xs<|rD hI fun K _ E J=>zz ?_;obtain⟨k,h⟩|⟨k,h⟩:=iK k h
    ·refine zz ?_;obtain⟨y1,q,h⟩:=bK q h;refine zz ?_;obtain⟨r2,h4,h⟩:=bs h;refine cd (Zda hI h4)<|zz ?_;subst E J;refine es ?_;obtain⟨k,h⟩|⟨k,h⟩:=iK k h
     ·refine xf<|xs<|rz ?_;refine es ?_;obtain⟨k,h⟩|⟨k,h⟩:=iK k h
      ·exact Ls
      refine xf<|xk<|bn ?_;cases h;exact en ⟨rfl,wk [(2,some 6)]⟩
     exact Ls
    refine zz ?_;subst E J;refine es<|xf<|xs<|rz ?_;refine es ?_;obtain⟨k,h⟩|⟨k,h⟩:=iK k h
    ·exact Ls
    refine xf<|xk<|bn ?_;cases h;exact en ⟨rfl,wk [(2,some 6)]⟩
   ·rintro v0 rfl;dsimp only at h;refine rz ?_;exact Ln
   rintro e1 rfl;dsimp only at h;refine br<|er ?_;exact La
  exact Le
 rcases e0 with e0|e0
 ·try dsimp only at h ⊢
  exact Li
 try dsimp only at h ⊢
 refine bh<|es<|xs<|rK fun K _ E J=>zz ?_;obtain⟨r3,h5,h⟩:=bs h;refine cw (Z8Z hI hU8T h5)<|zz ?_;exact Lz
structure Z7 where
 Name:List UInt8
 Reading:Int
 MinFrames:Int
 MaxFrames:Int
 MinGap:Int
 ShotBefore:Int
 ShotAfter:Int
 Rows:Int
 Cols:Int
 Forbidden:List UInt8
 SafeTop:Int
 SafeBottom:Int
 SafeLeft:Int
 SafeRight:Int
 deriving DecidableEq
def Z7.d (x:Z7):D:=.agg [.str x.Name,.int .i64 x.Reading,.int .i64 x.MinFrames,.int .i64 x.MaxFrames,.int .i64 x.MinGap,.int .i64 x.ShotBefore,.int .i64 x.ShotAfter,.int .i64 x.Rows,.int .i64 x.Cols,.str x.Forbidden,.int .i64 x.SafeTop,.int .i64 x.SafeBottom,.int .i64 x.SafeLeft,.int .i64 x.SafeRight]
structure Zh where
 n_:Int
 lo_:Int
 hi_:Int
 deriving DecidableEq
def Zh.d (x:Zh):D:=.agg [.int .i64 x.n_,.int .i64 x.lo_,.int .i64 x.hi_]
structure Z1 where
 I:Int
 J:Int
 C:Int
 Rule:Int
 ID:Int
 Other:Int
 deriving DecidableEq
def Z1.d (x:Z1):D:=.agg [.int .i64 x.I,.int .i64 x.J,.int .i64 x.C,.int .u8 x.Rule,.int .i64 x.ID,.int .i64 x.Other]
theorem Z2G:(∀ x,Z7.d x=.agg [.str x.Name,.int .i64 x.Reading,.int .i64 x.MinFrames,.int .i64 x.MaxFrames,.int .i64 x.MinGap,.int .i64 x.ShotBefore,.int .i64 x.ShotAfter,.int .i64 x.Rows,.int .i64 x.Cols,.str x.Forbidden,.int .i64 x.SafeTop,.int .i64 x.SafeBottom,.int .i64 x.SafeLeft,.int .i64 x.SafeRight])/\(∀ x,Zh.d x=.agg [.int .i64 x.n_,.int .i64 x.lo_,.int .i64 x.hi_])/\(∀ x,Z3.d x=.agg [.str x.Name,.int .i64 x.Top,.int .i64 x.Height,.int .i64 x.Left,.int .i64 x.Width,.int .u8 x.Align,.bool x.Bottom])/\(∀ x,Ze.d x=.agg [.int .i64 x.In,.int .i64 x.Out])/\(∀ x,Zw.d x=.agg [.int .u8 x.Color,.bool x.Italic,.bool x.Underline])/\(∀ x,Zd.d x=.agg [.str x.Text,.int .u8 x.Style.Color,.bool x.Style.Italic,.bool x.Style.Underline,.str x.Ruby])/\(∀ x,Z6.d x=.agg [.sl (x.Runs.map Zd.d)])/\(∀ x,Z0.d x=.agg [.int .i64 x.ID,.int .i64 x.Span.In,.int .i64 x.Span.Out,.str x.Region,.int .u8 x.Kind,.str x.Speaker,.sl (x.Rows.map Z6.d)])/\(∀ x,Z4.d x=.agg [.int .i64 x.ID,.int .i64 x.Event,.int .i64 x.From,.int .i64 x.To,.str x.Author,.str x.Text,.bool x.Done,.bool x.Lost])/\(∀ x,Z2.d x=.agg [.str x.Title,.str x.Lang,.int .u8 x.Rate,.bool x.Drop,.int .i64 x.Last,.sl (x.Regions.map Z3.d),.sl (x.Events.map Z0.d),.sl (x.Comments.map Z4.d)])/\(∀ x,ZM.d x=.agg [.str x.name_,.int .i64 x.ticks_,.int .i64 x.nominal_,.bool x.drop_])/\(∀ x,Z1.d x=.agg [.int .i64 x.I,.int .i64 x.J,.int .i64 x.C,.int .u8 x.Rule,.int .i64 x.ID,.int .i64 x.Other]):=⟨fun _=>rfl,fun _=>rfl,fun _=>rfl,fun _=>rfl,fun _=>rfl,fun _=>rfl,fun _=>rfl,fun _=>rfl,fun _=>rfl,fun _=>rfl,fun _=>rfl,fun _=>rfl⟩
def Z5j (p_0:Z7)(x7:Int × (List Zh)):Option (Nx (Int × (List Zh)) ((List Zh))) :=
 (if(decide (x7.1 < 4)) then((atI [p_0.SafeTop,p_0.SafeBottom,p_0.SafeLeft,p_0.SafeRight] x7.1).bind fun y0=>(if(x7.2.length+1) * 24<=140737488355328 then(some (.go ((IntKind.i64.wrap (x7.1+1)),(x7.2++[(Zh.mk y0 0 31)])))) else none)) else(some (.out x7.2)))
def Z3u (p_0:Z7):Option ((List Zh)) :=
 ((iter (Z5j p_0) (0,[(Zh.mk p_0.Reading 1 10000),(Zh.mk p_0.MinFrames 1 5184000),(Zh.mk p_0.MaxFrames 1 5184000),(Zh.mk p_0.MinGap 0 1000),(Zh.mk p_0.ShotBefore 0 1000),(Zh.mk p_0.ShotAfter 0 1000),(Zh.mk p_0.Rows 1 4),(Zh.mk p_0.Cols 1 32)])).bind fun e8=>(some e8))
theorem Zad{I:World->Prop}(hI:Stab I){p_0:Z7}{r:(List Zh)}(h:Z3u p_0=some r):AFun Tryz.prog I 74 [Z7.d p_0] (.sl (r.map Zh.d)):=by
 have dd:=Z2G;have k:=True.intro;have q:=k;have rs:=Tryz.results74;unfold Z3u at h;refine .en hI Tryz.func74 Tryz.ntmps74 ?_;refine xs<|rz ?_;refine es<|xs<|rz ?_;refine es<|xs<|xs<|rz ?_;refine es<|xb ?_;obtain⟨e8,h0,h⟩:=bs h;refine Zb (fun x7=>⟨envL [(3,.own 0 x7.2.length),(39,.own 1 4),(40,.int .i64 4),(41,.int .i64 x7.1)],Z5 [(0,.vec 134 3 (x7.2.map Zh.d) false),(1,.vec 3 1 ([p_0.SafeTop,p_0.SafeBottom,p_0.SafeLeft,p_0.SafeRight].map (D.int .i64)) false)],2,52⟩) (fun _=>.exit 0) (fun e8=>⟨envL [(3,.own 0 e8.length)],Z5 [(0,.vec 134 3 (e8.map Zh.d) false)],1,52⟩) h0 (wk [(0,some 26),(1,some 36)]) (by intro w;simp) ?_ ?_
 ·clear h;intro x7 y h;unfold Z5j at h;refine xs<|rz ?_;refine es<|xs ?_;obtain⟨k,h⟩|⟨k,h⟩:=iK k h
  ·refine xt<|xk<|es<|xs<|xb<|xs<|rK fun K _ E J=>zz ?_;obtain⟨y0,h1,h⟩:=bind_some h;obtain⟨h2,h3,h4⟩:=Z6A h1;have h4:=h4 (D.int .i64);simp only[List.map_cons,List.map_nil,dd] at h4;have h3:x7.1 < 4:=by simpa using h3
   have q:=And.intro h2<|And.intro h3<|And.intro @h4 q;refine zz ?_;subst E J;refine es<|rK fun K _ E J=>zz ?_;obtain⟨h5,h⟩:=Zo h;have h6:x7.2.length+1<=9223372036854775807:=by omega
   try simp only[Nat.reduceLeDiff] at h6
   have q:=And.intro @h6<|And.intro @h5<|q;refine zz ?_;subst E J;refine bn<|es<|rz ?_;cases h;exact en ⟨rfl,wk [(0,some 10)]⟩
  exact Le
 exact Lg
def Z1O (r0:(List Zh))(x0:Int):Option (Nx (Int) (Unit ⊕ Unit)) :=
 (if(decide (x0 < (r0.length:Int))) then((atI r0 x0).bind fun y0=>(if(decide (y0.n_ < y0.lo_)) then(some (.out (.inl ()))) else(if(decide (y0.hi_ < y0.n_)) then(some (.out (.inl ()))) else(some (.go (IntKind.i64.wrap (x0+1))))))) else(some (.out (.inr ()))))
def Z4e (p_0:Z7)(x0:Int × Nat):Option (Nx (Int × Nat) (Unit ⊕ Unit)) :=
 (if(decide (x0.2 < p_0.Forbidden.length)) then(if(decide ((Z0F p_0.Forbidden x0.2)<=x0.1)) then(some (.out (.inl ()))) else(some (.go ((Z0F p_0.Forbidden x0.2),(x0.2+Z0q p_0.Forbidden x0.2))))) else(some (.out (.inr ()))))
def Z2L (p_0:Z7):Option (Int) :=
 ((Z0N p_0.Name).bind fun r7=>(if r7 then((Z3u p_0).bind fun r0=>((iter (Z1O r0) 0).bind fun e0=>(match e0 with|Sum.inl e0=>(some 2)|Sum.inr (e0)=>(((if(decide (15<=(IntKind.i64.wrap (p_0.SafeTop+p_0.SafeBottom)))) then(some true) else(some (decide (32<=(IntKind.i64.wrap (p_0.SafeLeft+p_0.SafeRight)))))):Option (Bool)).bind fun v0=>(if v0 then(some 2) else(if(decide (p_0.MaxFrames < p_0.MinFrames)) then(some 8) else((ZT p_0.Forbidden).bind fun r1=>(if r1 then((iter (Z4e p_0) (-1,0)).bind fun e1=>(match e1 with|Sum.inl e1=>(some 8)|Sum.inr (e1)=>(some 0))) else(some 10))))))))) else(some 5)))
theorem Z7I{I:World->Prop}(hI:Stab I)(hU8T:∀ w,I w->U8T w){p_0:Z7}{r:Int}(h:Z2L p_0=some r):AFun Tryz.prog I 31 [Z7.d p_0] (.int .i64 r):=by
 have dd:=Z2G;have k:=True.intro;have q:=k;have rs:=Tryz.results31;unfold Z2L at h;refine .en hI Tryz.func31 Tryz.ntmps31 ?_;refine xs<|rz ?_;refine es<|xs<|xs<|rK fun K _ E J=>zz ?_;obtain⟨r7,h8,h⟩:=bs h;refine cw (Z4v hI h8)<|zz ?_;subst E J;refine es ?_;obtain⟨k,h⟩|⟨k,h⟩:=iK k h
 ·refine xf<|xk<|es<|xs<|xs<|rK fun K _ E J=>zz ?_;obtain⟨r0,h0,h⟩:=bs h;refine cw (Zad hI h0)<|zz ?_;subst E J;refine es<|xb ?_;obtain⟨e0,h1,h⟩:=bs h;refine Zb (fun x0=>⟨envL [(1,.ptr 0 0),(13,.sl (r0.map Zh.d)),(14,.int .i64 (r0.length:Int)),(15,.int .i64 x0)],Z5 [(0,.box none [.str p_0.Name,.int .i64 p_0.Reading,.int .i64 p_0.MinFrames,.int .i64 p_0.MaxFrames,.int .i64 p_0.MinGap,.int .i64 p_0.ShotBefore,.int .i64 p_0.ShotAfter,.int .i64 p_0.Rows,.int .i64 p_0.Cols,.str p_0.Forbidden,.int .i64 p_0.SafeTop,.int .i64 p_0.SafeBottom,.int .i64 p_0.SafeLeft,.int .i64 p_0.SafeRight])],1,68⟩) (fun w=>match w with|Sum.inl _=>.ret|Sum.inr (_)=>.exit 0) (fun w=>match w with|Sum.inl e0=>⟨envL [(2,.int .i64 2)],Z5 [],0,68⟩|Sum.inr (e0)=>⟨envL [(1,.ptr 0 0)],Z5 [(0,.box none [.str p_0.Name,.int .i64 p_0.Reading,.int .i64 p_0.MinFrames,.int .i64 p_0.MaxFrames,.int .i64 p_0.MinGap,.int .i64 p_0.ShotBefore,.int .i64 p_0.ShotAfter,.int .i64 p_0.Rows,.int .i64 p_0.Cols,.str p_0.Forbidden,.int .i64 p_0.SafeTop,.int .i64 p_0.SafeBottom,.int .i64 p_0.SafeLeft,.int .i64 p_0.SafeRight])],1,68⟩) h1 (wk []) (by intro w;rcases w with w|w<;>simp) ?_ ?_
  ·clear h;intro x0 y h;unfold Z1O at h;refine xs<|rz ?_;refine es<|xs ?_;obtain⟨k,h⟩|⟨k,h⟩:=iK k h
   ·refine xt<|xk<|es<|xs<|xb<|xs<|rK fun K _ E J=>zz ?_;obtain⟨y0,q,h⟩:=bK q h;refine zz ?_;subst E J;refine es<|xs<|rK fun K _ E J=>zz ?_;obtain⟨k,h⟩|⟨k,h⟩:=iK k h
    ·refine zz ?_;subst E J;refine es<|xt<|xs<|rz ?_;refine es<|xr<|br<|er ?_;exact La
    refine zz ?_;subst E J;refine es ?_;obtain⟨k,h⟩|⟨k,h⟩:=iK k h
    ·exact Lk
    exact Ll
   exact Le
  rcases e0 with e0|e0
  ·try dsimp only at h ⊢
   exact Li
  try dsimp only at h ⊢
  refine bh<|es<|xs<|xb ?_;obtain⟨v0,h2,h⟩:=bs h;refine Zk (fun v0=>⟨envL [(1,.ptr 0 0),(32,.bool v0)],Z5 [(0,.box none [.str p_0.Name,.int .i64 p_0.Reading,.int .i64 p_0.MinFrames,.int .i64 p_0.MaxFrames,.int .i64 p_0.MinGap,.int .i64 p_0.ShotBefore,.int .i64 p_0.ShotAfter,.int .i64 p_0.Rows,.int .i64 p_0.Cols,.str p_0.Forbidden,.int .i64 p_0.SafeTop,.int .i64 p_0.SafeBottom,.int .i64 p_0.SafeLeft,.int .i64 p_0.SafeRight])],1,68⟩) h2 ?_ ?_
  ·clear h;intro v0 h;refine rK fun K _ E J=>zz ?_;obtain⟨k,h⟩|⟨k,h⟩:=iK k h
   ·exact Ld
   exact Ld
  obtain⟨k,h⟩|⟨k,h⟩:=iK k h
  ·exact Lf
  refine xf<|xs<|rz ?_;refine es ?_;obtain⟨k,h⟩|⟨k,h⟩:=iK k h
  ·exact Lf
  refine xf<|xs<|rK fun K _ E J=>zz ?_;obtain⟨r1,h3,h⟩:=bs h;refine cw (Z1V hI hU8T h3)<|zz ?_;subst E J;refine es ?_;obtain⟨k,h⟩|⟨k,h⟩:=iK k h
  ·refine xf<|xk<|bn<|es<|xs<|rz ?_;refine es<|xs<|xs<|rz ?_;refine es<|xb ?_;obtain⟨e1,h4,h⟩:=bs h;refine Zb (fun x1=>⟨envL [(5,.int .i32 x1.1),(60,.ptr 0 0)],Z5 [(0,.iter p_0.Forbidden x1.2)],1,68⟩) (fun w=>match w with|Sum.inl _=>.ret|Sum.inr (_)=>.exit 3) (fun w=>match w with|Sum.inl e1=>⟨envL [(2,.int .i64 8)],Z5 [],0,68⟩|Sum.inr (e1)=>⟨envL [],Z5 [],0,68⟩) h4 (wk [(0,some 15)]) (by intro w;rcases w with w|w<;>simp) ?_ ?_
   ·clear h;intro x1 y h;unfold Z4e at h;refine xs<|rK fun K _ E J=>zz ?_;obtain⟨k,h⟩|⟨k,h⟩:=iK k h
    ·have k:=And.intro (of_decide_eq_true k.1) k.2;refine zz ?_;subst E J;refine es<|xs<|xt<|xk<|es<|xb<|xs<|rz ?_;refine es<|xs<|xs<|rz ?_;refine es ?_;obtain⟨k,h⟩|⟨k,h⟩:=iK k h
     ·exact LB
     refine xf<|xk<|es<|rz ?_;exact LC
    exact Lp
   rcases e1 with e1|e1
   ·try dsimp only at h ⊢
    exact Li
   try dsimp only at h ⊢
   exact Lg
  exact Lf
 exact Lc
def Z3H (l_0:List Int)(x0:Int):Option (Nx (Int) (Int ⊕ Unit)) :=
 (if(decide (x0 < (l_0.length:Int))) then((atI l_0 x0).bind fun y0=>(((if(decide (y0 < 1)) then(some true) else(some (decide (5184000 < y0)))):Option (Bool)).bind fun v0=>(if v0 then(some (.out (.inl 2))) else(if(decide (0 < x0)) then((atI l_0 (IntKind.i64.wrap (x0 - 1))).bind fun y1=>(if(decide (y0<=y1)) then(some (.out (.inl 8))) else(some (.go (IntKind.i64.wrap (x0+1)))))) else(some (.go (IntKind.i64.wrap (x0+1)))))))) else(some (.out (.inr ()))))
def Z0w (l_0:List Int):Option (Int) :=
 (if(decide (400 < (l_0.length:Int))) then(some 9) else((iter (Z3H l_0) 0).bind fun e0=>(match e0 with|Sum.inl e0=>(some e0)|Sum.inr (e0)=>(some 0))))
theorem Z72{I:World->Prop}(hI:Stab I){l_0:List Int}{r:Int}(h:Z0w l_0=some r):AFun Tryz.prog I 32 [.sl (l_0.map (D.int .i64))] (.int .i64 r):=by
 have dd:=Z2G;have k:=True.intro;have q:=k;have rs:=Tryz.results32;unfold Z0w at h;refine .en hI Tryz.func32 Tryz.ntmps32 ?_;refine xs<|rz ?_;refine es<|xs<|xs<|rz ?_;refine es ?_;obtain⟨k,h⟩|⟨k,h⟩:=iK k h
 ·exact Lc
 refine xf<|xk<|es<|xs<|xs<|rz ?_;refine es<|xb ?_;obtain⟨e0,h0,h⟩:=bs h;refine Zb (fun x0=>⟨envL [(0,.sl (l_0.map (D.int .i64))),(8,.sl (l_0.map (D.int .i64))),(9,.int .i64 (l_0.length:Int)),(10,.int .i64 x0)],Z5 [],0,33⟩) (fun w=>match w with|Sum.inl _=>.ret|Sum.inr (_)=>.exit 0) (fun w=>match w with|Sum.inl e0=>⟨envL [(2,.int .i64 e0)],Z5 [],0,33⟩|Sum.inr (e0)=>⟨envL [],Z5 [],0,33⟩) h0 (wk []) (by intro w;rcases w with w|w<;>simp) ?_ ?_
 ·clear h;intro x0 y h;unfold Z3H at h;refine xs<|rz ?_;refine es<|xs ?_;obtain⟨k,h⟩|⟨k,h⟩:=iK k h
  ·refine xt<|xk<|es<|xs<|xb<|xs<|rK fun K _ E J=>zz ?_;obtain⟨y0,q,h⟩:=bK q h;refine zz ?_;subst E J;refine es<|xs ?_;obtain⟨v0,h1,h⟩:=bs h;refine Zk (fun v0=>⟨envL [(0,.sl (l_0.map (D.int .i64))),(3,.int .i64 x0),(4,.int .i64 y0),(8,.sl (l_0.map (D.int .i64))),(9,.int .i64 (l_0.length:Int)),(10,.int .i64 x0),(20,.bool v0)],Z5 [],0,33⟩) h1 ?_ ?_
   ·clear h;intro v0 h;refine rK fun K _ E J=>zz ?_;obtain⟨k,h⟩|⟨k,h⟩:=iK k h
    ·exact Ld
    exact Ld
   obtain⟨k,h⟩|⟨k,h⟩:=iK k h
   ·exact Lh
   refine xf<|xk<|es<|xs<|rK fun K _ E J=>zz ?_;obtain⟨k,h⟩|⟨k,h⟩:=iK k h
   ·refine zz ?_;obtain⟨y1,q,h⟩:=bK q h;refine zz ?_;subst E J;refine es ?_;obtain⟨k,h⟩|⟨k,h⟩:=iK k h
    ·exact Lk
    exact Ll
   exact Ly
  exact Le
 rcases e0 with e0|e0
 ·try dsimp only at h ⊢
  exact Li
 try dsimp only at h ⊢
 exact Lg
def Z4G (d_0:Z2)(p_1:Z7)(l_2:List Int)(tol_3:Int):Option (Int) :=
 ((Zq d_0).bind fun r7=>(if(r7 != 0) then(some r7) else((Z2L p_1).bind fun r0=>(if(r0 != 0) then(some r0) else((Z0w l_2).bind fun r1=>(if(r1 != 0) then(some r1) else(((if(decide (tol_3 < 0)) then(some true) else(some (decide (5184000 < tol_3)))):Option (Bool)).bind fun v0=>(if v0 then(some 2) else(if(decide (255 < (d_0.Events.length:Int))) then(some 9) else(some 0))))))))))
theorem ZbD{I:World->Prop}(hI:Stab I)(hShp:∀ w,I w->Shp w)(hU8T:∀ w,I w->U8T w){d_0:Z2}{p_1:Z7}{l_2:List Int}{tol_3:Int}{r:Int}(h:Z4G d_0 p_1 l_2 tol_3=some r):AFun Tryz.prog I 37 [Z2.d d_0,Z7.d p_1,.sl (l_2.map (D.int .i64)),.int .i64 tol_3] (.int .i64 r):=by
 have dd:=Z2G;have k:=True.intro;have q:=k;have rs:=Tryz.results37;unfold Z4G at h;refine .en hI Tryz.func37 Tryz.ntmps37 ?_;refine xs<|rz ?_;refine es<|xs<|xs<|rK fun K _ E J=>zz ?_;obtain⟨r7,h8,h⟩:=bs h;refine cw (Z7o hI hShp hU8T h8)<|zz ?_;subst E J;refine es<|xs<|rz ?_;refine es ?_;obtain⟨k,h⟩|⟨k,h⟩:=iK k h
 ·exact Lc
 refine xf<|xk<|es<|xs<|xs<|rK fun K _ E J=>zz ?_;obtain⟨r0,h0,h⟩:=bs h;refine cw (Z7I hI hU8T h0)<|zz ?_;subst E J;refine es<|xs<|rz ?_;refine es ?_;obtain⟨k,h⟩|⟨k,h⟩:=iK k h
 ·exact Lc
 refine xf<|xk<|es<|xs<|xs<|rK fun K _ E J=>zz ?_;obtain⟨r1,h1,h⟩:=bs h;refine cw (Z72 hI h1)<|zz ?_;subst E J;refine es<|xs<|rz ?_;refine es ?_;obtain⟨k,h⟩|⟨k,h⟩:=iK k h
 ·exact Lc
 refine xf<|xk<|es<|xs<|xb ?_;obtain⟨v0,h2,h⟩:=bs h;refine Zk (fun v0=>⟨envL [(4,.ptr 0 0),(27,.bool v0)],Z5 [(0,.box none [.str d_0.Title,.str d_0.Lang,.int .u8 d_0.Rate,.bool d_0.Drop,.int .i64 d_0.Last,.sl (d_0.Regions.map Z3.d),.sl (d_0.Events.map Z0.d),.sl (d_0.Comments.map Z4.d)])],1,39⟩) h2 ?_ ?_
 ·clear h;intro v0 h;refine rK fun K _ E J=>zz ?_;obtain⟨k,h⟩|⟨k,h⟩:=iK k h
  ·exact Ld
  exact Ld
 obtain⟨k,h⟩|⟨k,h⟩:=iK k h
 ·exact Lf
 refine xf<|xs<|rz ?_;refine es ?_;obtain⟨k,h⟩|⟨k,h⟩:=iK k h
 ·exact Lf
 exact LF
def Z1o (r0:(List UInt8))(x0:Int × Nat):Option (Nx (Int × Nat) (Int)) :=
 (if(decide (x0.2 < r0.length)) then(if((Z0F r0 x0.2) != 32) then(some (.go ((IntKind.i64.wrap (x0.1+1)),(x0.2+Z0q r0 x0.2)))) else(some (.go (x0.1,(x0.2+Z0q r0 x0.2))))) else(some (.out x0.1)))
def Z11 (e_0:Z0)(x7:Int × Int):Option (Nx (Int × Int) (Int)) :=
 (if(decide (x7.2 < (e_0.Rows.length:Int))) then((atI e_0.Rows x7.2).bind fun y0=>((Z2e y0).bind fun r0=>((iter (Z1o r0) (x7.1,0)).bind fun e0=>(some (.go (e0,(IntKind.i64.wrap (x7.2+1)))))))) else(some (.out x7.1)))
def Z1c (e_0:Z0):Option (Int) :=
 ((iter (Z11 e_0) (0,0)).bind fun e8=>(some e8))
theorem Zaj{I:World->Prop}(hI:Stab I){e_0:Z0}{r:Int}(h:Z1c e_0=some r):AFun Tryz.prog I 39 [Z0.d e_0] (.int .i64 r):=by
 have dd:=Z2G;have k:=True.intro;have q:=k;have rs:=Tryz.results39;unfold Z1c at h;refine .en hI Tryz.func39 Tryz.ntmps39 ?_;refine xs<|rz ?_;refine es<|xs<|rz ?_;refine es<|xs<|xs<|rz ?_;refine es<|xb ?_;obtain⟨e8,h0,h⟩:=bs h;refine Zb (fun x7=>⟨envL [(3,.int .i64 x7.1),(9,.sl (e_0.Rows.map Z6.d)),(10,.int .i64 (e_0.Rows.length:Int)),(11,.int .i64 x7.2)],Z5 [],0,27⟩) (fun _=>.exit 0) (fun e8=>⟨envL [(3,.int .i64 e8)],Z5 [],0,27⟩) h0 (wk []) (by intro w;simp) ?_ ?_
 ·clear h;intro x7 y h;unfold Z11 at h;refine xs<|rz ?_;refine es<|xs ?_;obtain⟨k,h⟩|⟨k,h⟩:=iK k h
  ·refine xt<|xk<|es<|xs<|xb<|xs<|rK fun K _ E J=>zz ?_;obtain⟨y0,q,h⟩:=bK q h;refine zz ?_;subst E J;refine es<|xs<|rK fun K _ E J=>zz ?_;obtain⟨r0,h1,h⟩:=bs h;refine cw (Z8T hI h1)<|zz ?_;subst E J;refine es<|xb ?_;obtain⟨e0,h2,h⟩:=bs h;refine Zb (fun x0=>⟨envL [(3,.int .i64 x0.1),(9,.sl (e_0.Rows.map Z6.d)),(10,.int .i64 (e_0.Rows.length:Int)),(11,.int .i64 x7.2),(17,.ptr 0 0)],Z5 [(0,.iter r0 x0.2)],1,27⟩) (fun _=>.exit 2) (fun e0=>⟨envL [(3,.int .i64 e0),(9,.sl (e_0.Rows.map Z6.d)),(10,.int .i64 (e_0.Rows.length:Int)),(11,.int .i64 x7.2)],Z5 [],0,27⟩) h2 (wk [(0,some 7)]) (by intro w;simp) ?_ ?_
   ·clear h;intro x0 y h;unfold Z1o at h;refine xs<|rK fun K _ E J=>zz ?_;obtain⟨k,h⟩|⟨k,h⟩:=iK k h
    ·have k:=And.intro (of_decide_eq_true k.1) k.2;refine zz ?_;subst E J;refine es<|xs<|xt<|xk<|es<|xb<|xs<|rz ?_;refine es<|xs<|rz ?_;refine es ?_;obtain⟨k,h⟩|⟨k,h⟩:=iK k h
     ·refine xt<|rz ?_;exact LC
     exact LP
    exact Lp
   exact LK
  exact Le
 exact Lg
def Z2o (n_0:Int)(lo_1:Int)(hi_2:Int):Option (Bool) :=
 (if(decide (lo_1<=n_0)) then(some (decide (n_0<=hi_2))) else(some false))
theorem Z7p{I:World->Prop}(hI:Stab I){n_0:Int}{lo_1:Int}{hi_2:Int}{r:Bool}(h:Z2o n_0 lo_1 hi_2=some r):AFun Tryz.prog I 87 [.int .i64 n_0,.int .i64 lo_1,.int .i64 hi_2] (.bool r):=by
 have dd:=Z2G;have k:=True.intro;have q:=k;have rs:=Tryz.results87;unfold Z2o at h;refine .en hI Tryz.func87 Tryz.ntmps87 ?_;refine xs<|rz ?_;refine es<|xs<|rK fun K _ E J=>zz ?_;obtain⟨k,h⟩|⟨k,h⟩:=iK k h
 ·exact Lj
 exact Lj
def Z5M (chars_0:Int):Option (Int) :=
 (some (IntKind.i64.wrap ((IntKind.i64.wrap (chars_0 * 100)) * 120000)))
theorem Zbx{I:World->Prop}(hI:Stab I){chars_0:Int}{r:Int}(h:Z5M chars_0=some r):AFun Tryz.prog I 89 [.int .i64 chars_0] (.int .i64 r):=by
 have dd:=Z2G;have k:=True.intro;have q:=k;have rs:=Tryz.results89;unfold Z5M at h;refine .en hI Tryz.func89 Tryz.ntmps89 ?_;exact LA
def Z3J (r_0:Int):Option (Int) :=
 ((Z5c r_0).bind fun r7=>(some r7.ticks_))
theorem Zam{I:World->Prop}(hI:Stab I){r_0:Int}{r:Int}(h:Z3J r_0=some r):AFun Tryz.prog I 90 [.int .u8 r_0] (.int .i64 r):=by
 have dd:=Z2G;have k:=True.intro;have q:=k;have rs:=Tryz.results90;unfold Z3J at h;refine .en hI Tryz.func90 Tryz.ntmps90 ?_;refine xs<|rz ?_;refine es<|xs<|rK fun K _ E J=>zz ?_;obtain⟨r7,h8,h⟩:=bs h;refine cw (Z73 hI h8)<|zz ?_;exact Lz
def Z6s (a_0:Int)(b_1:Int):Option (Int) :=
 (if ¬ b_1=0 then(some (IntKind.i64.wrap (Int.tdiv (IntKind.i64.wrap ((IntKind.i64.wrap (a_0+b_1)) - 1)) b_1))) else none)
theorem Zdc{I:World->Prop}(hI:Stab I){a_0:Int}{b_1:Int}{r:Int}(h:Z6s a_0 b_1=some r):AFun Tryz.prog I 88 [.int .i64 a_0,.int .i64 b_1] (.int .i64 r):=by
 have dd:=Z2G;have k:=True.intro;have q:=k;have rs:=Tryz.results88;unfold Z6s at h;refine .en hI Tryz.func88 Tryz.ntmps88 ?_;refine xs<|rz ?_;refine es<|xs<|rK fun K _ E J=>zz ?_;obtain⟨q,h⟩:=oK q h;exact Lj
def Z3v (rate_0:Int)(chars_1:Int)(limit_2:Int):Option (Int × Int) :=
 ((Z2v rate_0).bind fun r7=>(if r7 then((((Z2o chars_1 0 10000).bind fun r0=>(if r0 then((Z2o limit_2 1 10000).bind fun r1=>(some (!r1))) else(some true))):Option (Bool)).bind fun v0=>(if v0 then(some (0,2)) else((Z5M chars_1).bind fun r2=>((Z3J rate_0).bind fun r3=>((Z6s r2 (IntKind.i64.wrap (limit_2 * r3))).bind fun r4=>(some (r4,0))))))) else(some (0,3))))
theorem Zae{I:World->Prop}(hI:Stab I){rate_0:Int}{chars_1:Int}{limit_2:Int}{r:Int × Int}(h:Z3v rate_0 chars_1 limit_2=some r):AFun Tryz.prog I 38 [.int .u8 rate_0,.int .i64 chars_1,.int .i64 limit_2] (.tup [.int .i64 r.1,.int .i64 r.2]):=by
 have dd:=Z2G;have k:=True.intro;have q:=k;have rs:=Tryz.results38;unfold Z3v at h;refine .en hI Tryz.func38 Tryz.ntmps38 ?_;refine xs<|rz ?_;refine es<|xs<|xs<|rK fun K _ E J=>zz ?_;obtain⟨r7,h8,h⟩:=bs h;refine cw (Z7s hI h8)<|zz ?_;subst E J;refine es ?_;obtain⟨k,h⟩|⟨k,h⟩:=iK k h
 ·refine xf<|xk<|es<|xs ?_;obtain⟨v0,h0,h⟩:=bs h;refine Zk (fun v0=>⟨envL [(0,.int .u8 rate_0),(1,.int .i64 chars_1),(2,.int .i64 limit_2),(18,.bool v0)],Z5 [],0,26⟩) h0 ?_ ?_
  ·clear h;intro v0 h;refine rK fun K _ E J=>zz ?_;obtain⟨r0,h1,h⟩:=bs h;refine cw (Z7p hI h1)<|zz ?_;obtain⟨k,h⟩|⟨k,h⟩:=iK k h
   ·refine zz ?_;obtain⟨r1,h2,h⟩:=bs h;refine cw (Z7p hI h2)<|zz ?_;exact LO
   exact Ld
  obtain⟨k,h⟩|⟨k,h⟩:=iK k h
  ·exact Lc
  refine xf<|xk<|es<|xs<|rK fun K _ E J=>zz ?_;obtain⟨r2,h3,h⟩:=bs h;refine cw (Zbx hI h3)<|zz ?_;obtain⟨r3,h4,h⟩:=bs h;refine cw (Zam hI h4)<|zz ?_;obtain⟨r4,h5,h⟩:=bs h;refine cw (Zdc hI h5)<|zz ?_;exact Lz
 exact Lc
def Z1v (f_0:Int):Option (Bool) :=
 (if(decide (0<=f_0)) then(some (decide (f_0<=5184000))) else(some false))
theorem Z63{I:World->Prop}(hI:Stab I){f_0:Int}{r:Bool}(h:Z1v f_0=some r):AFun Tryz.prog I 122 [.int .i64 f_0] (.bool r):=by
 have dd:=Z2G;have k:=True.intro;have q:=k;have rs:=Tryz.results122;unfold Z1v at h;refine .en hI Tryz.func122 Tryz.ntmps122 ?_;refine xs<|rz ?_;refine es<|xs<|rK fun K _ E J=>zz ?_;obtain⟨k,h⟩|⟨k,h⟩:=iK k h
 ·exact Lj
 exact Lj
def Z3r (l_0:List Int)(f_1:Int)(before_2:Int)(after_3:Int):Option (Bool) :=
 ((Z0w l_0).bind fun r0=>(if(r0 == 0) then((Z1v f_1).bind fun r1=>(if r1 then((Z1v before_2).bind fun r2=>(if r2 then((Z1v after_3).bind fun r3=>(some r3)) else(some false))) else(some false))) else(some false)))
theorem ZbE{I:World->Prop}(hI:Stab I){l_0:List Int}{f_1:Int}{before_2:Int}{after_3:Int}{r:Bool}(h:Z3r l_0 f_1 before_2 after_3=some r):AFun Tryz.prog I 121 [.sl (l_0.map (D.int .i64)),.int .i64 f_1,.int .i64 before_2,.int .i64 after_3] (.bool r):=by
 have dd:=Z2G;have k:=True.intro;have q:=k;have rs:=Tryz.results121;unfold Z3r at h;refine .en hI Tryz.func121 Tryz.ntmps121 ?_;refine xs<|rz ?_;refine es<|xs<|rK fun K _ E J=>zz ?_;obtain⟨r0,h0,h⟩:=bs h;refine cw (Z72 hI h0)<|zz ?_;obtain⟨k,h⟩|⟨k,h⟩:=iK k h
 ·refine zz ?_;obtain⟨r1,h1,h⟩:=bs h;refine cw (Z63 hI h1)<|zz ?_;obtain⟨k,h⟩|⟨k,h⟩:=iK k h
  ·refine zz ?_;obtain⟨r2,h2,h⟩:=bs h;refine cw (Z63 hI h2)<|zz ?_;obtain⟨k,h⟩|⟨k,h⟩:=iK k h
   ·refine zz ?_;obtain⟨r3,h3,h⟩:=bs h;refine cw (Z63 hI h3)<|zz ?_;exact Lz
   exact Lj
  exact Lj
 exact Lj
def Z1p (l_0:List Int)(f_1:Int)(before_2:Int)(after_3:Int)(x5:Int):Option (Nx (Int) (Int ⊕ Unit)) :=
 (if(decide (x5 < (l_0.length:Int))) then((atI l_0 x5).bind fun y0=>(((if(decide ((IntKind.i64.wrap (y0 - before_2)) < f_1)) then(if(decide (f_1 < y0)) then(some true) else(if(decide (y0 < f_1)) then(some (decide (f_1 < (IntKind.i64.wrap (y0+after_3))))) else(some false))) else(if(decide (y0 < f_1)) then(some (decide (f_1 < (IntKind.i64.wrap (y0+after_3))))) else(some false))):Option (Bool)).bind fun v0=>(if v0 then(some (.out (.inl y0))) else(some (.go (IntKind.i64.wrap (x5+1))))))) else(some (.out (.inr ()))))
def Z1D (l_0:List Int)(f_1:Int)(before_2:Int)(after_3:Int):Option (Int × Bool) :=
 ((iter (Z1p l_0 f_1 before_2 after_3) 0).bind fun e6=>(match e6 with|Sum.inl e6=>(some (e6,true))|Sum.inr (e6)=>(some (0,false))))
theorem Zak{I:World->Prop}(hI:Stab I){l_0:List Int}{f_1:Int}{before_2:Int}{after_3:Int}{r:Int × Bool}(h:Z1D l_0 f_1 before_2 after_3=some r):AFun Tryz.prog I 123 [.sl (l_0.map (D.int .i64)),.int .i64 f_1,.int .i64 before_2,.int .i64 after_3] (.tup [.int .i64 r.1,.bool r.2]):=by
 have dd:=Z2G;have k:=True.intro;have q:=k;have rs:=Tryz.results123;unfold Z1D at h;refine .en hI Tryz.func123 Tryz.ntmps123 ?_;refine xs<|rz ?_;refine es<|xs<|xs<|rz ?_;refine es<|xb ?_;obtain⟨e6,h0,h⟩:=bs h;refine Zb (fun x5=>⟨envL [(1,.int .i64 f_1),(2,.int .i64 before_2),(3,.int .i64 after_3),(12,.sl (l_0.map (D.int .i64))),(13,.int .i64 (l_0.length:Int)),(14,.int .i64 x5)],Z5 [],0,42⟩) (fun w=>match w with|Sum.inl _=>.ret|Sum.inr (_)=>.exit 0) (fun w=>match w with|Sum.inl e6=>⟨envL [(8,.int .i64 e6),(9,.bool true)],Z5 [],0,42⟩|Sum.inr (e6)=>⟨envL [],Z5 [],0,42⟩) h0 (wk []) (by intro w;rcases w with w|w<;>simp) ?_ ?_
 ·clear h;intro x5 y h;unfold Z1p at h;refine xs<|rz ?_;refine es<|xs ?_;obtain⟨k,h⟩|⟨k,h⟩:=iK k h
  ·refine xt<|xk<|es<|xs<|xb<|xs<|rK fun K _ E J=>zz ?_;obtain⟨y0,q,h⟩:=bK q h;refine zz ?_;subst E J;refine es ?_;obtain⟨v0,h1,h⟩:=bs h;refine Zk (fun v0=>⟨envL [(1,.int .i64 f_1),(2,.int .i64 before_2),(3,.int .i64 after_3),(11,.int .i64 y0),(12,.sl (l_0.map (D.int .i64))),(13,.int .i64 (l_0.length:Int)),(14,.int .i64 x5),(39,.bool v0)],Z5 [],0,42⟩) h1 ?_ ?_
   ·clear h;intro v0 h;refine rK fun K _ E J=>zz ?_;obtain⟨k,h⟩|⟨k,h⟩:=iK k h
    ·refine zz ?_;obtain⟨k,h⟩|⟨k,h⟩:=iK k h
     ·exact Ld
     refine zz ?_;obtain⟨k,h⟩|⟨k,h⟩:=iK k h
     ·exact Ld
     exact Ld
    refine zz ?_;obtain⟨k,h⟩|⟨k,h⟩:=iK k h
    ·exact Ld
    exact Ld
   obtain⟨k,h⟩|⟨k,h⟩:=iK k h
   ·exact Lk
   exact Ll
  exact Le
 rcases e6 with e6|e6
 ·try dsimp only at h ⊢
  exact Li
 try dsimp only at h ⊢
 exact Lg
def Z0W (n_0:Int):Option (Int) :=
 (some (if(IntKind.i64.wrap (0 - n_0)) > n_0 then(IntKind.i64.wrap (0 - n_0)) else n_0))
theorem Z6j{I:World->Prop}(hI:Stab I){n_0:Int}{r:Int}(h:Z0W n_0=some r):AFun Tryz.prog I 124 [.int .i64 n_0] (.int .i64 r):=by
 have dd:=Z2G;have k:=True.intro;have q:=k;have rs:=Tryz.results124;unfold Z0W at h;refine .en hI Tryz.func124 Tryz.ntmps124 ?_;exact LA
def Z2V (l_0:List Int)(before_2:Int)(after_3:Int)(x0:Int × (List Int)):Option (Nx (Int × (List Int)) ((List Int))) :=
 (if(decide (x0.1 < (l_0.length:Int))) then((atI l_0 x0.1).bind fun y0=>(if(x0.2.length+3) * 8<=140737488355328 then(some (.go ((IntKind.i64.wrap (x0.1+1)),(x0.2++[(IntKind.i64.wrap (y0 - before_2)),y0,(IntKind.i64.wrap (y0+after_3))])))) else none)) else(some (.out x0.2)))
def Z21 (l_0:List Int)(f_1:Int)(before_2:Int)(after_3:Int)(e0:(List Int))(x0:Int × Bool × Int):Option (Nx (Int × Bool × Int) (Int × Bool)) :=
 (if(decide (x0.2.2 < ((e0.length:Nat):Int))) then((atI e0 x0.2.2).bind fun y0=>((Z1v y0).bind fun r0=>(if r0 then((Z1D l_0 y0 before_2 after_3).bind fun r1=>(if r1.2 then(some (.go (x0.1,x0.2.1,(IntKind.i64.wrap (x0.2.2+1))))) else(((if x0.2.1 then((Z0W (IntKind.i64.wrap (y0 - f_1))).bind fun r2=>((Z0W (IntKind.i64.wrap (x0.1 - f_1))).bind fun r3=>(if(decide (r2 < r3)) then(some true) else((Z0W (IntKind.i64.wrap (y0 - f_1))).bind fun r4=>((Z0W (IntKind.i64.wrap (x0.1 - f_1))).bind fun r5=>(if(r4 == r5) then(some (decide (y0 < x0.1))) else(some false))))))) else(some true)):Option (Bool)).bind fun v0=>(if v0 then(some (.go (y0,true,(IntKind.i64.wrap (x0.2.2+1))))) else(some (.go (x0.1,x0.2.1,(IntKind.i64.wrap (x0.2.2+1))))))))) else(some (.go (x0.1,x0.2.1,(IntKind.i64.wrap (x0.2.2+1)))))))) else(some (.out (x0.1,x0.2.1))))
def Z20 (l_0:List Int)(f_1:Int)(before_2:Int)(after_3:Int):Option (Int × Bool) :=
 ((Z3r l_0 f_1 before_2 after_3).bind fun r7=>(if r7 then((iter (Z2V l_0 before_2 after_3) (0,[f_1])).bind fun e0=>((iter (Z21 l_0 f_1 before_2 after_3 e0) (0,false,0)).bind fun e1=>(some (e1.1,e1.2)))) else(some (0,false))))
theorem Zdj{I:World->Prop}(hI:Stab I){l_0:List Int}{f_1:Int}{before_2:Int}{after_3:Int}{r:Int × Bool}(h:Z20 l_0 f_1 before_2 after_3=some r):AFun Tryz.prog I 76 [.sl (l_0.map (D.int .i64)),.int .i64 f_1,.int .i64 before_2,.int .i64 after_3] (.tup [.int .i64 r.1,.bool r.2]):=by
 have dd:=Z2G;have k:=True.intro;have q:=k;have rs:=Tryz.results76;unfold Z20 at h;refine .en hI Tryz.func76 Tryz.ntmps76 ?_;refine xs<|rz ?_;refine es<|xs<|xs<|rK fun K _ E J=>zz ?_;obtain⟨r7,h8,h⟩:=bs h;refine cw (ZbE hI h8)<|zz ?_;subst E J;refine es ?_;obtain⟨k,h⟩|⟨k,h⟩:=iK k h
 ·refine xf<|xk<|es<|xs<|rz ?_;refine es<|xs<|xs<|rz ?_;refine es<|xb ?_;obtain⟨e0,h0,h⟩:=bs h;refine Zb (fun x0=>⟨envL [(0,.sl (l_0.map (D.int .i64))),(1,.int .i64 f_1),(2,.int .i64 before_2),(3,.int .i64 after_3),(10,.own 0 x0.2.length),(27,.sl (l_0.map (D.int .i64))),(28,.int .i64 (l_0.length:Int)),(29,.int .i64 x0.1)],Z5 [(0,.vec 2 1 (x0.2.map (D.int .i64)) false)],1,95⟩) (fun _=>.exit 0) (fun e0=>⟨envL [(0,.sl (l_0.map (D.int .i64))),(1,.int .i64 f_1),(2,.int .i64 before_2),(3,.int .i64 after_3),(10,.own 0 e0.length)],Z5 [(0,.vec 2 1 (e0.map (D.int .i64)) false)],1,95⟩) h0 (wk [(0,some 9)]) (by intro w;simp) ?_ ?_
  ·clear h;intro x0 y h;unfold Z2V at h;refine xs<|rz ?_;refine es<|xs ?_;obtain⟨k,h⟩|⟨k,h⟩:=iK k h
   ·refine xt<|xk<|es<|xs<|xb<|xs<|rK fun K _ E J=>zz ?_;obtain⟨y0,q,h⟩:=bK q h;refine zz ?_;subst E J;refine es<|rK fun K _ E J=>zz ?_;obtain⟨h1,h⟩:=Zo h;have h2:x0.2.length+3<=9223372036854775807:=by omega
    try simp only[Nat.reduceLeDiff] at h2
    have q:=And.intro @h2<|And.intro @h1<|q;refine zz ?_;subst E J;refine bn<|es<|rz ?_;cases h;exact en ⟨rfl,wk [(0,some 14)]⟩
   exact Le
  refine bh<|es<|xs<|rz ?_;refine es<|xs<|xs<|rz ?_;refine es<|xb ?_;obtain⟨e1,h3,h⟩:=bs h;refine Zb (fun x1=>⟨envL [(0,.sl (l_0.map (D.int .i64))),(1,.int .i64 f_1),(2,.int .i64 before_2),(3,.int .i64 after_3),(13,.int .i64 x1.1),(14,.bool x1.2.1),(44,.own 0 e0.length),(45,.int .i64 ((e0.length:Nat):Int)),(46,.int .i64 x1.2.2)],Z5 [(0,.vec 2 1 (e0.map (D.int .i64)) false)],1,95⟩) (fun _=>.exit 2) (fun e1=>⟨envL [(13,.int .i64 e1.1),(14,.bool e1.2)],Z5 [],0,95⟩) h3 (wk []) (by intro w;simp) ?_ ?_
  ·clear h;intro x1 y h;unfold Z21 at h;refine xs<|rz ?_;refine es<|xs ?_;obtain⟨k,h⟩|⟨k,h⟩:=iK k h
   ·refine xt<|xk<|es<|xs<|xb<|xs<|rK fun K _ E J=>zz ?_;obtain⟨y1,q,h⟩:=oN q h;refine zz ?_;subst E J;refine es<|xs<|xs<|rK fun K _ E J=>zz ?_;obtain⟨r0,h4,h⟩:=bs h;refine cw (Z63 hI h4)<|zz ?_;subst E J;refine es ?_;obtain⟨k,h⟩|⟨k,h⟩:=iK k h
    ·refine xf<|xk<|es<|xs<|xs<|rK fun K _ E J=>zz ?_;obtain⟨r1,h5,h⟩:=bs h;refine cw (Zak hI h5)<|zz ?_;subst E J;refine es<|xs<|rz ?_;refine es ?_;obtain⟨k,h⟩|⟨k,h⟩:=iK k h
     ·exact LG
     refine xf<|xk<|es ?_;obtain⟨v0,h6,h⟩:=bs h;refine Zk (fun v0=>⟨envL [(0,.sl (l_0.map (D.int .i64))),(1,.int .i64 f_1),(2,.int .i64 before_2),(3,.int .i64 after_3),(13,.int .i64 x1.1),(14,.bool x1.2.1),(16,.int .i64 y1),(44,.own 0 e0.length),(45,.int .i64 ((e0.length:Nat):Int)),(46,.int .i64 x1.2.2),(90,.bool v0)],Z5 [(0,.vec 2 1 (e0.map (D.int .i64)) false)],1,95⟩) h6 ?_ ?_
     ·clear h;intro v0 h;refine rK fun K _ E J=>zz ?_;obtain⟨k,h⟩|⟨k,h⟩:=iK k h
      ·refine zz ?_;obtain⟨r2,h7,h⟩:=bs h;refine cw (Z6j hI h7)<|zz ?_;obtain⟨r3,h9,h⟩:=bs h;refine cw (Z6j hI h9)<|zz ?_;obtain⟨k,h⟩|⟨k,h⟩:=iK k h
       ·exact Ld
       refine zz ?_;obtain⟨r4,h10,h⟩:=bs h;refine cw (Z6j hI h10)<|zz ?_;obtain⟨r5,h11,h⟩:=bs h;refine cw (Z6j hI h11)<|zz ?_;obtain⟨k,h⟩|⟨k,h⟩:=iK k h
       ·exact Ld
       exact Ld
      exact Ld
     obtain⟨k,h⟩|⟨k,h⟩:=iK k h
     ·refine xt<|rz ?_;exact Ln
     exact Ll
    exact LG
   exact Le
  exact Lg
 exact Lc
def Z2U (from_0:Int)(below_1:Int)(a_2:Int)(a_3:Ze):Option (Int × Ze) :=
 (if(decide (below_1<=from_0)) then(some (a_2,a_3)) else(if(decide (below_1<=a_2)) then(if(decide (a_2 < from_0)) then(some (a_2,(Ze.mk (if below_1 > a_3.In then below_1 else a_3.In) (if from_0 < a_3.Out then from_0 else a_3.Out)))) else(some (a_2,(Ze.mk (if below_1 > a_3.In then below_1 else a_3.In) a_3.Out)))) else(if(decide (a_2 < from_0)) then(some (a_2,(Ze.mk a_3.In (if from_0 < a_3.Out then from_0 else a_3.Out)))) else(some (a_2,a_3)))))
theorem Z7N{I:World->Prop}(hI:Stab I){H:Nat->Option Blk}{nid:Nat}{i0 i1:Nat}{p0 p1:Option Nat}{from_0:Int}{below_1:Int}{a_2:Int}{a_3:Ze}{r:Int × Ze}(h:Z2U from_0 below_1 a_2 a_3=some r)(b0:H i0=some (.box p0 [.int .i64 a_2]))(b1:H i1=some (.box p1 [.int .i64 a_3.In,.int .i64 a_3.Out]))(hne:[i0,i1].Nodup):Zi Tryz.prog I 77 [.int .i64 from_0,.int .i64 below_1,.ptr i0 0,.ptr i1 0] H nid (.tup []) [(i0,some (.box p0 [.int .i64 r.1])),(i1,some (.box p1 [.int .i64 r.2.In,.int .i64 r.2.Out]))]:=by
 refine Zi.intro (is:=[(i0,p0),(i1,p1)]) (css:=[[.int .i64 a_2],[.int .i64 a_3.In,.int .i64 a_3.Out]]) (ds0:=[.int .i64 from_0,.int .i64 below_1,.ptr 0 0,.ptr 1 0]) (pl:=[(2,none),(3,none)]) hI Tryz.func77 rfl (by decide) (by simp[Tryz.f77]) (by kernel_rfl) rfl rfl rfl rfl (Zba ⟨⟨b0,rfl⟩,⟨⟨b1,rfl⟩,trivial⟩⟩) hne ?_;have dd:=Z2G;have k:=True.intro;have q:=k;have rs:=Tryz.results77;unfold Z2U at h;simp only[Z7f,List.length_cons,List.length_nil,Nat.zero_add,Nat.reduceAdd,Tryz.ntmps77,Z2G];refine xs<|xs<|rz ?_;refine es ?_;obtain⟨k,h⟩|⟨k,h⟩:=iK k h
 ·refine xt<|xr<|er ?_;cases h;exact en fp
 refine xf<|xk<|es<|xs<|xs<|rz ?_;refine es ?_;obtain⟨k,h⟩|⟨k,h⟩:=iK k h
 ·refine xt<|rz ?_;refine es<|xs<|rz ?_;refine es ?_;obtain⟨k,h⟩|⟨k,h⟩:=iK k h
  ·refine xt<|rz ?_;cases h;exact en fp
  refine xf<|xk ?_;cases h;exact en fp
 refine xf<|xk<|es<|xs<|rz ?_;refine es ?_;obtain⟨k,h⟩|⟨k,h⟩:=iK k h
 ·refine xt<|rz ?_;cases h;exact en fp
 refine xf<|xk ?_;cases h;exact en fp
def Z3G (l_0:List Int)(p_2:Z7)(x0:Int × Int × Int × Int):Option (Nx (Int × Int × Int × Int) (Int × Int)) :=
 (if(decide (x0.1 < (l_0.length:Int))) then((atI l_0 x0.1).bind fun y0=>((Z2U (IntKind.i64.wrap ((IntKind.i64.wrap (y0 - p_2.ShotBefore))+1)) y0 x0.2.2.2 (Ze.mk x0.2.1 x0.2.2.1)).bind fun r0=>((Z2U (IntKind.i64.wrap (y0+1)) (IntKind.i64.wrap (y0+p_2.ShotAfter)) r0.1 r0.2).bind fun r1=>(some (.go ((IntKind.i64.wrap (x0.1+1)),r1.2.In,r1.2.Out,r1.1)))))) else(some (.out (x0.2.1,x0.2.2.1))))
def Z41 (l_0:List Int)(frame_1:Int)(p_2:Z7):Option (Ze × Int) :=
 ((Z20 l_0 frame_1 p_2.ShotBefore p_2.ShotAfter).bind fun r7=>(if r7.2 then((iter (Z3G l_0 p_2) (0,0,5184001,r7.1)).bind fun e0=>(some ((Ze.mk e0.1 e0.2),0))) else(some ((Ze.mk 0 0),6))))
theorem Z8S{I:World->Prop}(hI:Stab I){l_0:List Int}{frame_1:Int}{p_2:Z7}{r:Ze × Int}(h:Z41 l_0 frame_1 p_2=some r):AFun Tryz.prog I 33 [.sl (l_0.map (D.int .i64)),.int .i64 frame_1,Z7.d p_2] (.tup [Ze.d r.1,.int .i64 r.2]):=by
 have dd:=Z2G;have k:=True.intro;have q:=k;have rs:=Tryz.results33;unfold Z41 at h;refine .en hI Tryz.func33 Tryz.ntmps33 ?_;refine xs<|rz ?_;refine es<|xs<|rK fun K _ E J=>zz ?_;obtain⟨r7,h8,h⟩:=bs h;refine cw (Zdj hI h8)<|zz ?_;subst E J;refine es<|xs<|xs<|rz ?_;refine es ?_;obtain⟨k,h⟩|⟨k,h⟩:=iK k h
 ·refine xf<|xk<|es<|xs<|rz ?_;refine es<|xs<|rz ?_;refine es<|xs<|xs<|rz ?_;refine es<|xb ?_;obtain⟨e0,h0,h⟩:=bs h;refine Zb (fun x0=>⟨envL [(5,.ptr 0 0),(6,.ptr 1 0),(10,.ptr 2 0),(11,.fn 77 [.ptr 3 0,.ptr 2 0]),(29,.sl (l_0.map (D.int .i64))),(30,.int .i64 (l_0.length:Int)),(31,.int .i64 x0.1)],Z5 [(0,.box none [.str p_2.Name,.int .i64 p_2.Reading,.int .i64 p_2.MinFrames,.int .i64 p_2.MaxFrames,.int .i64 p_2.MinGap,.int .i64 p_2.ShotBefore,.int .i64 p_2.ShotAfter,.int .i64 p_2.Rows,.int .i64 p_2.Cols,.str p_2.Forbidden,.int .i64 p_2.SafeTop,.int .i64 p_2.SafeBottom,.int .i64 p_2.SafeLeft,.int .i64 p_2.SafeRight]),(1,.box none [.int .i64 0,.int .i64 0]),(2,.box none [.int .i64 x0.2.1,.int .i64 x0.2.2.1]),(3,.box none [.int .i64 x0.2.2.2])],4,53⟩) (fun _=>.exit 0) (fun e0=>⟨envL [(6,.ptr 0 0),(10,.ptr 1 0)],Z5 [(0,.box none [.int .i64 0,.int .i64 0]),(1,.box none [.int .i64 e0.1,.int .i64 e0.2])],2,53⟩) h0 (wk [(2,some 19),(3,some 13)]) (by intro w;simp) ?_ ?_
  ·clear h;intro x0 y h;unfold Z3G at h;refine xs<|rz ?_;refine es<|xs ?_;obtain⟨k,h⟩|⟨k,h⟩:=iK k h
   ·refine xt<|xk<|es<|xs<|xb<|xs<|rK fun K _ E J=>zz ?_;obtain⟨y0,q,h⟩:=bK q h;refine zz ?_;subst E J;refine es<|xs<|rK fun K _ E J=>zz ?_;obtain⟨r0,h1,h⟩:=bs h;refine eW.intro (Z7N hI (nid:=15) (i0:=3) (p0:=none) (i1:=2) (p1:=none) h1 fz fz (by decide)) fi rfl<|zz ?_;subst E J;refine es<|rK fun K _ E J=>zz ?_;obtain⟨r1,h2,h⟩:=bs h;refine eW.intro (Z7N hI (nid:=23) (i0:=3) (p0:=none) (i1:=2) (p1:=none) h2 fz fz (by decide)) fi rfl<|zz ?_;subst E J;exact Ln
   refine xf<|xx<|ee ?_;cases h;exact en ⟨rfl,wk [(0,some 1),(1,some 2)]⟩
  exact Lg
 exact Lc
def Z2T (out_0:List Z1)(v_1:Int)(lo_2:Int)(hi_3:Int)(rule_4:Int)(id_5:Int):Option ((List Z1)) :=
 (if(out_0.length+2) * 48<=140737488355328 then(some (out_0++[(Z1.mk v_1 0 (IntKind.i64.wrap (0 - lo_2)) rule_4 id_5 0),(Z1.mk 0 v_1 hi_3 rule_4 id_5 0)])) else none)
theorem Z7M{I:World->Prop}(hI:Stab I){H:Nat->Option Blk}{nid i0:Nat}{out_0:List Z1}{v_1:Int}{lo_2:Int}{hi_3:Int}{rule_4:Int}{id_5:Int}{r:(List Z1)}(h:Z2T out_0 v_1 lo_2 hi_3 rule_4 id_5=some r)(b0:H i0=some (.vec 47 6 (out_0.map Z1.d) false)):Zi Tryz.prog I 40 [.own i0 out_0.length,.int .i64 v_1,.int .i64 lo_2,.int .i64 hi_3,.int .u8 rule_4,.int .i64 id_5] H nid (.own nid r.length) [(i0,none),(nid,some (.vec 47 6 (r.map Z1.d) false))]:=by
 refine Zi.row (is:=[i0]) (bs:=[.vec 47 6 (out_0.map Z1.d) false]) (ds0:=[.own 0 out_0.length,.int .i64 v_1,.int .i64 lo_2,.int .i64 hi_3,.int .u8 rule_4,.int .i64 id_5]) hI Tryz.func40 rfl (by decide) (by simp[Tryz.f40]) (by kernel_rfl) rfl rfl ⟨⟨b0,_,_,_,rfl⟩,trivial⟩ (by simp) ?_;have dd:=Z2G;have k:=True.intro;have q:=k;have rs:=Tryz.results40;unfold Z2T at h;simp only[Z7g,List.length_cons,List.length_nil,Nat.zero_add,Nat.reduceAdd,Tryz.ntmps40,dd];refine xs<|rz ?_;refine es<|xs<|rK fun K _ E J=>zz ?_;obtain⟨h7,h⟩:=Zo h;have h8:out_0.length+2<=9223372036854775807:=by omega
 try simp only[Nat.reduceLeDiff] at h8
 have q:=And.intro @h8<|And.intro @h7<|q;refine zz ?_;subst E J;refine es<|xr ?_;cases h;exact en fv
def Z1a (p_1:Z7)(l_2:List Int)(x0:(List Z1) × Int)(y0:Z0)(x1:Int × (List Z1)):Option (Nx (Int × (List Z1)) (Int ⊕ ((List Z1)))) :=
 (if(decide (x1.1 < 2)) then(((if x1.1 == 0 then(some (y0.Span.In,0)) else(if x1.1 == 1 then(some (y0.Span.Out,1)) else none)):Option (Int × Int)).bind fun v0=>((Z41 l_2 v0.1 p_1).bind fun r0=>(if(r0.2 != 0) then(some (.out (.inl r0.2))) else((Z2T x1.2 (IntKind.i64.wrap ((IntKind.i64.wrap ((IntKind.i64.wrap (2 * x0.2))+1))+x1.1)) r0.1.In (IntKind.i64.wrap (r0.1.Out - 1)) 6 y0.ID).bind fun r1=>(some (.go ((IntKind.i64.wrap (v0.2+1)),r1))))))) else(some (.out (.inr x1.2))))
def Z1b (tol_3:Int)(x0:(List Z1) × Int)(y0:Z0)(x1:Int × (List Z1)):Option (Nx (Int × (List Z1)) ((List Z1))) :=
 (if(decide (x1.1 < 2)) then(((if x1.1 == 0 then(some (y0.Span.In,0)) else(if x1.1 == 1 then(some (y0.Span.Out,1)) else none)):Option (Int × Int)).bind fun v0=>((Z2T x1.2 (IntKind.i64.wrap ((IntKind.i64.wrap ((IntKind.i64.wrap (2 * x0.2))+1))+x1.1)) (IntKind.i64.wrap (v0.1 - tol_3)) (IntKind.i64.wrap (v0.1+tol_3)) 11 y0.ID).bind fun r0=>(some (.go ((IntKind.i64.wrap (v0.2+1)),r0))))) else(some (.out x1.2)))
def Z19 (d_0:Z2)(p_1:Z7)(l_2:List Int)(tol_3:Int)(x0:(List Z1) × Int):Option (Nx ((List Z1) × Int) (Int ⊕ ((List Z1)))) :=
 (if(decide (x0.2 < (d_0.Events.length:Int))) then((atI d_0.Events x0.2).bind fun y0=>((Z1c y0).bind fun r0=>((Z3v d_0.Rate r0 p_1.Reading).bind fun r1=>(if(x0.1.length+3) * 48<=140737488355328 then((iter (Z1a p_1 l_2 x0 y0) (0,(x0.1++[(Z1.mk (IntKind.i64.wrap ((IntKind.i64.wrap (2 * x0.2))+2)) (IntKind.i64.wrap ((IntKind.i64.wrap (2 * x0.2))+1)) (IntKind.i64.wrap (0 - r1.1)) 1 y0.ID 0),(Z1.mk (IntKind.i64.wrap ((IntKind.i64.wrap (2 * x0.2))+2)) (IntKind.i64.wrap ((IntKind.i64.wrap (2 * x0.2))+1)) (IntKind.i64.wrap (0 - p_1.MinFrames)) 2 y0.ID 0),(Z1.mk (IntKind.i64.wrap ((IntKind.i64.wrap (2 * x0.2))+1)) (IntKind.i64.wrap ((IntKind.i64.wrap (2 * x0.2))+2)) p_1.MaxFrames 3 y0.ID 0)]))).bind fun e0=>(match e0 with|Sum.inl e0=>(some (.out (.inl e0)))|Sum.inr (e0)=>((iter (Z1b tol_3 x0 y0) (0,e0)).bind fun e1=>(if(decide ((IntKind.i64.wrap (x0.2+1)) < (d_0.Events.length:Int))) then((atI d_0.Events (IntKind.i64.wrap (x0.2+1))).bind fun y1=>(if(e1.length+1) * 48<=140737488355328 then(some (.go ((e1++[(Z1.mk (IntKind.i64.wrap ((IntKind.i64.wrap ((IntKind.i64.wrap (2 * x0.2))+2))+1)) (IntKind.i64.wrap ((IntKind.i64.wrap (2 * x0.2))+2)) (IntKind.i64.wrap (0 - p_1.MinGap)) 4 y0.ID y1.ID)]),(IntKind.i64.wrap (x0.2+1))))) else none)) else(some (.go (e1,(IntKind.i64.wrap (x0.2+1))))))))) else none)))) else(some (.out (.inr x0.1))))
def Z2S (d_0:Z2)(p_1:Z7)(l_2:List Int)(tol_3:Int):Option ((List Z1) × Int) :=
 ((Z4G d_0 p_1 l_2 tol_3).bind fun r7=>(if(r7 != 0) then(some ([],r7)) else((iter (Z19 d_0 p_1 l_2 tol_3) ([],0)).bind fun e0=>(match e0 with|Sum.inl e0=>(some ([],e0))|Sum.inr (e0)=>(some (e0,0))))))
theorem Z7K{I:World->Prop}(hI:Stab I)(hShp:∀ w,I w->Shp w)(hU8T:∀ w,I w->U8T w){d_0:Z2}{p_1:Z7}{l_2:List Int}{tol_3:Int}{r:(List Z1) × Int}(h:Z2S d_0 p_1 l_2 tol_3=some r):AFun Tryz.prog I 14 [Z2.d d_0,Z7.d p_1,.sl (l_2.map (D.int .i64)),.int .i64 tol_3] (.tup [.sl (r.1.map Z1.d),.int .i64 r.2]):=by
 have dd:=Z2G;have k:=True.intro;have q:=k;have rs:=Tryz.results14;unfold Z2S at h;refine .en hI Tryz.func14 Tryz.ntmps14 ?_;refine xs<|rz ?_;refine es<|xs<|xs<|rK fun K _ E J=>zz ?_;obtain⟨r7,h8,h⟩:=bs h;refine cw (ZbD hI hShp hU8T h8)<|zz ?_;subst E J;refine es<|xs<|rz ?_;refine es ?_;obtain⟨k,h⟩|⟨k,h⟩:=iK k h
 ·exact Lc
 refine xf<|xk<|es<|xs<|rz ?_;refine es<|xs<|xs<|rz ?_;refine es<|xb ?_;obtain⟨e0,h0,h⟩:=bs h;refine Zb (fun x0=>⟨envL [(2,.sl (l_2.map (D.int .i64))),(3,.int .i64 tol_3),(4,.ptr 0 0),(5,.ptr 1 0),(11,.own 2 x0.1.length),(33,.sl (d_0.Events.map Z0.d)),(34,.int .i64 (d_0.Events.length:Int)),(35,.int .i64 x0.2)],Z5 [(0,.box none [.str d_0.Title,.str d_0.Lang,.int .u8 d_0.Rate,.bool d_0.Drop,.int .i64 d_0.Last,.sl (d_0.Regions.map Z3.d),.sl (d_0.Events.map Z0.d),.sl (d_0.Comments.map Z4.d)]),(1,.box none [.str p_1.Name,.int .i64 p_1.Reading,.int .i64 p_1.MinFrames,.int .i64 p_1.MaxFrames,.int .i64 p_1.MinGap,.int .i64 p_1.ShotBefore,.int .i64 p_1.ShotAfter,.int .i64 p_1.Rows,.int .i64 p_1.Cols,.str p_1.Forbidden,.int .i64 p_1.SafeTop,.int .i64 p_1.SafeBottom,.int .i64 p_1.SafeLeft,.int .i64 p_1.SafeRight]),(2,.vec 47 6 (x0.1.map Z1.d) false)],3,167⟩) (fun w=>match w with|Sum.inl _=>.ret|Sum.inr (_)=>.exit 0) (fun w=>match w with|Sum.inl e0=>⟨envL [(8,.nils),(9,.int .i64 e0)],Z5 [],0,167⟩|Sum.inr (e0)=>⟨envL [(11,.own 0 e0.length)],Z5 [(0,.vec 47 6 (e0.map Z1.d) false)],1,167⟩) h0 (wk [(2,none)]) (by intro w;rcases w with w|w<;>simp) ?_ ?_
 ·clear h;intro x0 y h;unfold Z19 at h;refine xs<|rz ?_;refine es<|xs ?_;obtain⟨k,h⟩|⟨k,h⟩:=iK k h
  ·refine xt<|xk<|es<|xs<|xb<|xs<|rK fun K _ E J=>zz ?_;obtain⟨y0,q,h⟩:=bK q h;refine zz ?_;subst E J;refine es<|xs<|rz ?_;refine es<|xs<|rD hI fun K _ E J=>zz ?_;obtain⟨r0,h1,h⟩:=bs h;refine cd (Zaj hI h1)<|zz ?_;obtain⟨r1,h2,h⟩:=bs h;refine cd (Zae hI h2)<|zz ?_;subst E J;refine es<|xs<|rK fun K _ E J=>zz ?_;obtain⟨h3,h⟩:=Zo h;have h4:x0.1.length+3<=9223372036854775807:=by omega
   try simp only[Nat.reduceLeDiff] at h4
   have q:=And.intro @h4<|And.intro @h3<|q;refine zz ?_;subst E J;refine es<|xs<|xs<|rz ?_;refine es<|xb ?_;obtain⟨e1,h5,h⟩:=bs h;refine Zb (fun x1=>⟨envL [(2,.sl (l_2.map (D.int .i64))),(3,.int .i64 tol_3),(4,.ptr 0 0),(5,.ptr 1 0),(11,.own 2 x1.2.length),(12,.int .i64 x0.2),(13,.ptr 3 0),(14,.int .i64 (IntKind.i64.wrap ((IntKind.i64.wrap (2 * x0.2))+1))),(15,.int .i64 (IntKind.i64.wrap ((IntKind.i64.wrap (2 * x0.2))+2))),(33,.sl (d_0.Events.map Z0.d)),(34,.int .i64 (d_0.Events.length:Int)),(35,.int .i64 x0.2),(87,.agg [.int .i64 y0.Span.In,.int .i64 y0.Span.Out]),(88,.int .i64 x1.1)],Z5 [(0,.box none [.str d_0.Title,.str d_0.Lang,.int .u8 d_0.Rate,.bool d_0.Drop,.int .i64 d_0.Last,.sl (d_0.Regions.map Z3.d),.sl (d_0.Events.map Z0.d),.sl (d_0.Comments.map Z4.d)]),(1,.box none [.str p_1.Name,.int .i64 p_1.Reading,.int .i64 p_1.MinFrames,.int .i64 p_1.MaxFrames,.int .i64 p_1.MinGap,.int .i64 p_1.ShotBefore,.int .i64 p_1.ShotAfter,.int .i64 p_1.Rows,.int .i64 p_1.Cols,.str p_1.Forbidden,.int .i64 p_1.SafeTop,.int .i64 p_1.SafeBottom,.int .i64 p_1.SafeLeft,.int .i64 p_1.SafeRight]),(2,.vec 47 6 (x1.2.map Z1.d) false),(3,.box none [.int .i64 y0.ID,.int .i64 y0.Span.In,.int .i64 y0.Span.Out,.str y0.Region,.int .u8 y0.Kind,.str y0.Speaker,.sl (y0.Rows.map Z6.d)])],4,167⟩) (fun w=>match w with|Sum.inl _=>.ret|Sum.inr (_)=>.exit 2) (fun w=>match w with|Sum.inl e1=>⟨envL [(8,.nils),(9,.int .i64 e1)],Z5 [],0,167⟩|Sum.inr (e1)=>⟨envL [(2,.sl (l_2.map (D.int .i64))),(3,.int .i64 tol_3),(4,.ptr 0 0),(5,.ptr 1 0),(11,.own 2 e1.length),(12,.int .i64 x0.2),(13,.ptr 3 0),(14,.int .i64 (IntKind.i64.wrap ((IntKind.i64.wrap (2 * x0.2))+1))),(15,.int .i64 (IntKind.i64.wrap ((IntKind.i64.wrap (2 * x0.2))+2))),(33,.sl (d_0.Events.map Z0.d)),(34,.int .i64 (d_0.Events.length:Int)),(35,.int .i64 x0.2)],Z5 [(0,.box none [.str d_0.Title,.str d_0.Lang,.int .u8 d_0.Rate,.bool d_0.Drop,.int .i64 d_0.Last,.sl (d_0.Regions.map Z3.d),.sl (d_0.Events.map Z0.d),.sl (d_0.Comments.map Z4.d)]),(1,.box none [.str p_1.Name,.int .i64 p_1.Reading,.int .i64 p_1.MinFrames,.int .i64 p_1.MaxFrames,.int .i64 p_1.MinGap,.int .i64 p_1.ShotBefore,.int .i64 p_1.ShotAfter,.int .i64 p_1.Rows,.int .i64 p_1.Cols,.str p_1.Forbidden,.int .i64 p_1.SafeTop,.int .i64 p_1.SafeBottom,.int .i64 p_1.SafeLeft,.int .i64 p_1.SafeRight]),(2,.vec 47 6 (e1.map Z1.d) false),(3,.box none [.int .i64 y0.ID,.int .i64 y0.Span.In,.int .i64 y0.Span.Out,.str y0.Region,.int .u8 y0.Kind,.str y0.Speaker,.sl (y0.Rows.map Z6.d)])],4,167⟩) h5 (wk [(2,some 54),(3,some 7)]) (by intro w;rcases w with w|w<;>simp) ?_ ?_
   ·clear h;intro x1 y h;unfold Z1a at h;refine xs<|rz ?_;refine es<|xs ?_;obtain⟨k,h⟩|⟨k,h⟩:=iK k h
    ·refine xt<|xk<|es<|xs<|xb ?_;obtain⟨v0,h6,h⟩:=bs h;refine Zk (fun v0=>⟨envL [(2,.sl (l_2.map (D.int .i64))),(3,.int .i64 tol_3),(4,.ptr 0 0),(5,.ptr 1 0),(11,.own 2 x1.2.length),(12,.int .i64 x0.2),(13,.ptr 3 0),(14,.int .i64 (IntKind.i64.wrap ((IntKind.i64.wrap (2 * x0.2))+1))),(15,.int .i64 (IntKind.i64.wrap ((IntKind.i64.wrap (2 * x0.2))+2))),(18,.int .i64 x1.1),(19,.int .i64 v0.1),(33,.sl (d_0.Events.map Z0.d)),(34,.int .i64 (d_0.Events.length:Int)),(35,.int .i64 x0.2),(87,.agg [.int .i64 y0.Span.In,.int .i64 y0.Span.Out]),(88,.int .i64 v0.2)],Z5 [(0,.box none [.str d_0.Title,.str d_0.Lang,.int .u8 d_0.Rate,.bool d_0.Drop,.int .i64 d_0.Last,.sl (d_0.Regions.map Z3.d),.sl (d_0.Events.map Z0.d),.sl (d_0.Comments.map Z4.d)]),(1,.box none [.str p_1.Name,.int .i64 p_1.Reading,.int .i64 p_1.MinFrames,.int .i64 p_1.MaxFrames,.int .i64 p_1.MinGap,.int .i64 p_1.ShotBefore,.int .i64 p_1.ShotAfter,.int .i64 p_1.Rows,.int .i64 p_1.Cols,.str p_1.Forbidden,.int .i64 p_1.SafeTop,.int .i64 p_1.SafeBottom,.int .i64 p_1.SafeLeft,.int .i64 p_1.SafeRight]),(2,.vec 47 6 (x1.2.map Z1.d) false),(3,.box none [.int .i64 y0.ID,.int .i64 y0.Span.In,.int .i64 y0.Span.Out,.str y0.Region,.int .u8 y0.Kind,.str y0.Speaker,.sl (y0.Rows.map Z6.d)])],4,167⟩) h6 ?_ ?_
     ·clear h;intro v0 h;refine rK fun K _ E J=>zz ?_;rcases Z4H h with⟨k0,h⟩|⟨_,h⟩
      ·have k:=And.intro (eq_of_beq k0) k;exact Ld
      rcases Z4H h with⟨k1,h⟩|⟨_,h⟩
      ·have k:=And.intro (eq_of_beq k1) k;exact Ld
      cases h
     refine xs<|rK fun K _ E J=>zz ?_;obtain⟨r2,h7,h⟩:=bs h;refine cw (Z8S hI h7)<|zz ?_;subst E J;refine es<|xs<|xs<|rz ?_;refine es ?_;obtain⟨k,h⟩|⟨k,h⟩:=iK k h
     ·exact Lh
     refine xf<|xk<|es<|rK fun K _ E J=>zz ?_;obtain⟨r3,h9,h⟩:=bs h;refine cW.introR (Z7M hI (nid:=27) (i0:=2) h9 fz) fs rfl<|zz ?_;subst E J;refine bn<|es<|rz ?_;cases h;exact en ⟨rfl,wk [(2,some 27)]⟩
    exact Le
   rcases e1 with e1|e1
   ·try dsimp only at h ⊢
    refine br<|er<|br<|er ?_;exact La
   try dsimp only at h ⊢
   refine bh<|es<|xs<|xs<|rz ?_;refine es<|xb ?_;obtain⟨e2,h10,h⟩:=bs h;refine Zb (fun x2=>⟨envL [(2,.sl (l_2.map (D.int .i64))),(3,.int .i64 tol_3),(4,.ptr 0 0),(5,.ptr 1 0),(11,.own 2 x2.2.length),(12,.int .i64 x0.2),(13,.ptr 3 0),(14,.int .i64 (IntKind.i64.wrap ((IntKind.i64.wrap (2 * x0.2))+1))),(15,.int .i64 (IntKind.i64.wrap ((IntKind.i64.wrap (2 * x0.2))+2))),(33,.sl (d_0.Events.map Z0.d)),(34,.int .i64 (d_0.Events.length:Int)),(35,.int .i64 x0.2),(121,.agg [.int .i64 y0.Span.In,.int .i64 y0.Span.Out]),(122,.int .i64 x2.1)],Z5 [(0,.box none [.str d_0.Title,.str d_0.Lang,.int .u8 d_0.Rate,.bool d_0.Drop,.int .i64 d_0.Last,.sl (d_0.Regions.map Z3.d),.sl (d_0.Events.map Z0.d),.sl (d_0.Comments.map Z4.d)]),(1,.box none [.str p_1.Name,.int .i64 p_1.Reading,.int .i64 p_1.MinFrames,.int .i64 p_1.MaxFrames,.int .i64 p_1.MinGap,.int .i64 p_1.ShotBefore,.int .i64 p_1.ShotAfter,.int .i64 p_1.Rows,.int .i64 p_1.Cols,.str p_1.Forbidden,.int .i64 p_1.SafeTop,.int .i64 p_1.SafeBottom,.int .i64 p_1.SafeLeft,.int .i64 p_1.SafeRight]),(2,.vec 47 6 (x2.2.map Z1.d) false),(3,.box none [.int .i64 y0.ID,.int .i64 y0.Span.In,.int .i64 y0.Span.Out,.str y0.Region,.int .u8 y0.Kind,.str y0.Speaker,.sl (y0.Rows.map Z6.d)])],4,167⟩) (fun _=>.exit 4) (fun e2=>⟨envL [(2,.sl (l_2.map (D.int .i64))),(3,.int .i64 tol_3),(4,.ptr 0 0),(5,.ptr 1 0),(11,.own 2 e2.length),(12,.int .i64 x0.2),(13,.ptr 3 0),(15,.int .i64 (IntKind.i64.wrap ((IntKind.i64.wrap (2 * x0.2))+2))),(33,.sl (d_0.Events.map Z0.d)),(34,.int .i64 (d_0.Events.length:Int)),(35,.int .i64 x0.2)],Z5 [(0,.box none [.str d_0.Title,.str d_0.Lang,.int .u8 d_0.Rate,.bool d_0.Drop,.int .i64 d_0.Last,.sl (d_0.Regions.map Z3.d),.sl (d_0.Events.map Z0.d),.sl (d_0.Comments.map Z4.d)]),(1,.box none [.str p_1.Name,.int .i64 p_1.Reading,.int .i64 p_1.MinFrames,.int .i64 p_1.MaxFrames,.int .i64 p_1.MinGap,.int .i64 p_1.ShotBefore,.int .i64 p_1.ShotAfter,.int .i64 p_1.Rows,.int .i64 p_1.Cols,.str p_1.Forbidden,.int .i64 p_1.SafeTop,.int .i64 p_1.SafeBottom,.int .i64 p_1.SafeLeft,.int .i64 p_1.SafeRight]),(2,.vec 47 6 (e2.map Z1.d) false),(3,.box none [.int .i64 y0.ID,.int .i64 y0.Span.In,.int .i64 y0.Span.Out,.str y0.Region,.int .u8 y0.Kind,.str y0.Speaker,.sl (y0.Rows.map Z6.d)])],4,167⟩) h10 (wk []) (by intro w;simp) ?_ ?_
   ·clear h;intro x2 y h;unfold Z1b at h;refine xs<|rz ?_;refine es<|xs ?_;obtain⟨k,h⟩|⟨k,h⟩:=iK k h
    ·refine xt<|xk<|es<|xs<|xb ?_;obtain⟨v1,h11,h⟩:=bs h;refine Zk (fun v1=>⟨envL [(2,.sl (l_2.map (D.int .i64))),(3,.int .i64 tol_3),(4,.ptr 0 0),(5,.ptr 1 0),(11,.own 2 x2.2.length),(12,.int .i64 x0.2),(13,.ptr 3 0),(14,.int .i64 (IntKind.i64.wrap ((IntKind.i64.wrap (2 * x0.2))+1))),(15,.int .i64 (IntKind.i64.wrap ((IntKind.i64.wrap (2 * x0.2))+2))),(22,.int .i64 x2.1),(23,.int .i64 v1.1),(33,.sl (d_0.Events.map Z0.d)),(34,.int .i64 (d_0.Events.length:Int)),(35,.int .i64 x0.2),(121,.agg [.int .i64 y0.Span.In,.int .i64 y0.Span.Out]),(122,.int .i64 v1.2)],Z5 [(0,.box none [.str d_0.Title,.str d_0.Lang,.int .u8 d_0.Rate,.bool d_0.Drop,.int .i64 d_0.Last,.sl (d_0.Regions.map Z3.d),.sl (d_0.Events.map Z0.d),.sl (d_0.Comments.map Z4.d)]),(1,.box none [.str p_1.Name,.int .i64 p_1.Reading,.int .i64 p_1.MinFrames,.int .i64 p_1.MaxFrames,.int .i64 p_1.MinGap,.int .i64 p_1.ShotBefore,.int .i64 p_1.ShotAfter,.int .i64 p_1.Rows,.int .i64 p_1.Cols,.str p_1.Forbidden,.int .i64 p_1.SafeTop,.int .i64 p_1.SafeBottom,.int .i64 p_1.SafeLeft,.int .i64 p_1.SafeRight]),(2,.vec 47 6 (x2.2.map Z1.d) false),(3,.box none [.int .i64 y0.ID,.int .i64 y0.Span.In,.int .i64 y0.Span.Out,.str y0.Region,.int .u8 y0.Kind,.str y0.Speaker,.sl (y0.Rows.map Z6.d)])],4,167⟩) h11 ?_ ?_
     ·clear h;intro v1 h;refine rK fun K _ E J=>zz ?_;rcases Z4H h with⟨k2,h⟩|⟨_,h⟩
      ·have k:=And.intro (eq_of_beq k2) k;exact Ld
      rcases Z4H h with⟨k3,h⟩|⟨_,h⟩
      ·have k:=And.intro (eq_of_beq k3) k;exact Ld
      cases h
     refine rK fun K _ E J=>zz ?_;obtain⟨r4,h12,h⟩:=bs h;refine cW.introR (Z7M hI (nid:=16) (i0:=2) h12 fz) fs rfl<|zz ?_;subst E J;refine bn<|es<|rz ?_;cases h;exact en ⟨rfl,wk [(2,some 16)]⟩
    exact Le
   refine bh<|es<|xs<|rz ?_;refine es ?_;obtain⟨k,h⟩|⟨k,h⟩:=iK k h
   ·refine xt<|rD hI fun K _ E J=>zz ?_;obtain⟨y1,q,h⟩:=bK q h;refine zz ?_;obtain⟨h13,h⟩:=Zo h;have h14:e2.length+1<=9223372036854775807:=by omega
    try simp only[Nat.reduceLeDiff] at h14
    have q:=And.intro @h14<|And.intro @h13<|q;refine zz ?_;refine hd<|zz ?_;subst E J;refine bn<|es<|rz ?_;cases h;exact en ⟨rfl,wk [(2,some 28)]⟩
   exact Ll
  refine xf<|xx<|ee ?_;cases h;exact en ⟨rfl,wk [(0,some 2)]⟩
 rcases e0 with e0|e0
 ·try dsimp only at h ⊢
  exact Li
 try dsimp only at h ⊢
 exact Lg
def Za (x:List Int):D:=.sl (x.map (D.int .i64))
theorem Z9G:(∀ x,Z1.d x=.agg [.int .i64 x.I,.int .i64 x.J,.int .i64 x.C,.int .u8 x.Rule,.int .i64 x.ID,.int .i64 x.Other])/\(∀ x:List Int,Za x=.sl (x.map (D.int .i64))):=⟨fun _=>rfl,fun _=>rfl⟩
def Z2B (n_0:Int)(l_1:List Z1)(x0:Int):Option (Nx (Int) (Int ⊕ Unit)) :=
 (if(decide (x0 < (l_1.length:Int))) then((atI l_1 x0).bind fun y0=>(((if(decide (y0.I < 0)) then(some true) else(if(decide (n_0<=y0.I)) then(some true) else(if(decide (y0.J < 0)) then(some true) else(some (decide (n_0<=y0.J)))))):Option (Bool)).bind fun v0=>(if v0 then(some (.out (.inl 1))) else(if(decide (y0.C < (-1099511627776))) then(some (.out (.inl 2))) else(if(decide (1099511627776 < y0.C)) then(some (.out (.inl 2))) else(some (.go (IntKind.i64.wrap (x0+1))))))))) else(some (.out (.inr ()))))
def Z48 (n_0:Int)(l_1:List Z1):Option (Int) :=
 (((if(decide (n_0 < 1)) then(some true) else(some (decide (512 < n_0)))):Option (Bool)).bind fun v5=>(if v5 then(some 2) else(if(decide (4000 < (l_1.length:Int))) then(some 9) else((iter (Z2B n_0 l_1) 0).bind fun e0=>(match e0 with|Sum.inl e0=>(some e0)|Sum.inr (e0)=>(some 0))))))
theorem ZaK{I:World->Prop}(hI:Stab I){n_0:Int}{l_1:List Z1}{r:Int}(h:Z48 n_0 l_1=some r):AFun Tryz.prog I 69 [.int .i64 n_0,.sl (l_1.map Z1.d)] (.int .i64 r):=by
 have dd:=Z9G;have k:=True.intro;have q:=k;have rs:=Tryz.results69;unfold Z48 at h;refine .en hI Tryz.func69 Tryz.ntmps69 ?_;refine xs<|rz ?_;refine es<|xs ?_;obtain⟨v5,h8,h⟩:=bs h;refine Zk (fun v5=>⟨envL [(0,.int .i64 n_0),(1,.sl (l_1.map Z1.d)),(12,.bool v5)],Z5 [],0,51⟩) h8 ?_ ?_
 ·clear h;intro v5 h;refine rK fun K _ E J=>zz ?_;obtain⟨k,h⟩|⟨k,h⟩:=iK k h
  ·exact Ld
  exact Ld
 obtain⟨k,h⟩|⟨k,h⟩:=iK k h
 ·exact Lc
 refine xf<|xk<|es<|xs<|xs<|rz ?_;refine es ?_;obtain⟨k,h⟩|⟨k,h⟩:=iK k h
 ·exact Lc
 refine xf<|xk<|es<|xs<|xs<|rz ?_;refine es<|xb ?_;obtain⟨e0,h0,h⟩:=bs h;refine Zb (fun x0=>⟨envL [(0,.int .i64 n_0),(16,.sl (l_1.map Z1.d)),(17,.int .i64 (l_1.length:Int)),(18,.int .i64 x0)],Z5 [],0,51⟩) (fun w=>match w with|Sum.inl _=>.ret|Sum.inr (_)=>.exit 0) (fun w=>match w with|Sum.inl e0=>⟨envL [(4,.int .i64 e0)],Z5 [],0,51⟩|Sum.inr (e0)=>⟨envL [],Z5 [],0,51⟩) h0 (wk []) (by intro w;rcases w with w|w<;>simp) ?_ ?_
 ·clear h;intro x0 y h;unfold Z2B at h;refine xs<|rz ?_;refine es<|xs ?_;obtain⟨k,h⟩|⟨k,h⟩:=iK k h
  ·refine xt<|xk<|es<|xs<|xb<|xs<|rK fun K _ E J=>zz ?_;obtain⟨y0,q,h⟩:=bK q h;refine zz ?_;subst E J;refine es<|xs ?_;obtain⟨v0,h1,h⟩:=bs h;refine Zk (fun v0=>⟨envL [(0,.int .i64 n_0),(6,.ptr 0 0),(16,.sl (l_1.map Z1.d)),(17,.int .i64 (l_1.length:Int)),(18,.int .i64 x0),(41,.bool v0)],Z5 [(0,.box none [.int .i64 y0.I,.int .i64 y0.J,.int .i64 y0.C,.int .u8 y0.Rule,.int .i64 y0.ID,.int .i64 y0.Other])],1,51⟩) h1 ?_ ?_
   ·clear h;intro v0 h;refine rK fun K _ E J=>zz ?_;obtain⟨k,h⟩|⟨k,h⟩:=iK k h
    ·exact Lr
    refine zz ?_;obtain⟨k,h⟩|⟨k,h⟩:=iK k h
    ·exact Lr
    refine zz ?_;obtain⟨k,h⟩|⟨k,h⟩:=iK k h
    ·exact Lr
    exact Lr
   obtain⟨k,h⟩|⟨k,h⟩:=iK k h
   ·exact Lh
   refine xf<|xk<|es<|xs<|rK fun K _ E J=>zz ?_;obtain⟨k,h⟩|⟨k,h⟩:=iK k h
   ·refine zz ?_;subst E J;refine es<|xt<|xs<|rz ?_;refine es<|xr<|br<|er ?_;exact La
   refine zz ?_;subst E J;refine es ?_;obtain⟨k,h⟩|⟨k,h⟩:=iK k h
   ·exact Lk
   exact Ll
  exact Le
 rcases e0 with e0|e0
 ·try dsimp only at h ⊢
  exact Li
 try dsimp only at h ⊢
 exact Lg
def Z1e (l_0:List Z1)(x0:Bool × Int × (List Int)):Option (Nx (Bool × Int × (List Int)) ((List Int) × Bool)) :=
 (if(decide (x0.2.1 < (l_0.length:Int))) then((atI l_0 x0.2.1).bind fun y0=>((((atI x0.2.2 y0.I).bind fun y1=>(if(y1 != 1152921504606846976) then((atI x0.2.2 y0.J).bind fun y2=>(some (decide ((IntKind.i64.wrap (y1+y0.C)) < y2)))) else(some false))):Option (Bool)).bind fun v0=>(if v0 then((atI x0.2.2 y0.I).bind fun y3=>((atI x0.2.2 y0.J).bind fun y4=>((setI x0.2.2 y0.J (IntKind.i64.wrap (y3+y0.C))).bind fun m0=>(some (.go (true,(IntKind.i64.wrap (x0.2.1+1)),m0)))))) else(some (.go (x0.1,(IntKind.i64.wrap (x0.2.1+1)),x0.2.2)))))) else(some (.out (x0.2.2,x0.1))))
def Z3h (l_0:List Z1)(x_1:List Int)(x5:Int × (List Int)):Option (Nx (Int × (List Int)) (((List Int)) ⊕ ((List Int)))) :=
 (if(decide (x5.1 < (IntKind.i64.wrap (((x_1.length:Nat):Int)+1)))) then((iter (Z1e l_0) (false,0,x5.2)).bind fun e0=>(if e0.2 then(some (.go ((IntKind.i64.wrap (x5.1+1)),e0.1))) else(some (.out (.inl e0.1))))) else(some (.out (.inr x5.2))))
def Z22 (l_0:List Z1)(x_1:List Int):Option (Bool × (List Int)) :=
 ((iter (Z3h l_0 x_1) (0,x_1)).bind fun e6=>(match e6 with|Sum.inl e6=>(some (true,e6))|Sum.inr (e6)=>(some (false,e6))))
theorem Z9U{I:World->Prop}(hI:Stab I){H:Nat->Option Blk}{nid i0:Nat}{pn:Option Value}{l_0:List Z1}{x_1:List Int}{r:Bool × (List Int)}(h:Z22 l_0 x_1=some r)(b0:H i0=some (rowB pn 2 1 (x_1.map (D.int .i64)))):Zi Tryz.prog I 70 [.sl (l_0.map Z1.d),.own i0 x_1.length] H nid (.bool r.1) [(i0,some (rowB pn 2 1 (r.2.map (D.int .i64))))]:=by
 refine Zi.inrow (i0:=i0) (ds0:=[.sl (l_0.map Z1.d),.own 0 x_1.length]) hI Tryz.func70 rfl (by decide) (by simp[Tryz.f70]) (by kernel_rfl) rfl rfl b0 fun uv=>?_;have dd:=Z9G;have k:=True.intro;have q:=k;have rs:=Tryz.results70;unfold Z22 at h;simp only[List.length_cons,List.length_nil,Nat.zero_add,Nat.reduceAdd,Tryz.ntmps70,dd];refine xs<|rz ?_;refine es<|xs<|xs<|rz ?_;refine es<|xb ?_;obtain⟨e6,h0,h⟩:=bs h;refine Zb (fun x5=>⟨envL [(0,.sl (l_0.map Z1.d)),(1,.own 0 x5.2.length),(10,.int .i64 (IntKind.i64.wrap (((x_1.length:Nat):Int)+1))),(11,.int .i64 x5.1)],Z5 [(0,.lrow uv 2 1 (x5.2.map (D.int .i64)))],1,57⟩) (fun w=>match w with|Sum.inl _=>.ret|Sum.inr (_)=>.exit 0) (fun w=>match w with|Sum.inl e6=>⟨envL [(1,.own 0 e6.length),(4,.bool true)],Z5 [(0,.lrow uv 2 1 (e6.map (D.int .i64)))],1,57⟩|Sum.inr (e6)=>⟨envL [(1,.own 0 e6.length)],Z5 [(0,.lrow uv 2 1 (e6.map (D.int .i64)))],1,57⟩) h0 (wk []) (by intro w;rcases w with w|w<;>simp) ?_ ?_
 ·clear h;intro x5 y h;unfold Z3h at h;refine xs<|rz ?_;refine es<|xs ?_;obtain⟨k,h⟩|⟨k,h⟩:=iK k h
  ·refine xt<|xk<|es<|xs<|xb<|xs<|rz ?_;refine es<|xs<|xs<|rz ?_;refine es<|xb ?_;obtain⟨e0,h1,h⟩:=bs h;refine Zb (fun x0=>⟨envL [(0,.sl (l_0.map Z1.d)),(1,.own 0 x0.2.2.length),(5,.bool x0.1),(10,.int .i64 (IntKind.i64.wrap (((x_1.length:Nat):Int)+1))),(11,.int .i64 x5.1),(13,.sl (l_0.map Z1.d)),(14,.int .i64 (l_0.length:Int)),(15,.int .i64 x0.2.1)],Z5 [(0,.lrow uv 2 1 (x0.2.2.map (D.int .i64)))],1,57⟩) (fun _=>.exit 2) (fun e0=>⟨envL [(0,.sl (l_0.map Z1.d)),(1,.own 0 e0.1.length),(5,.bool e0.2),(10,.int .i64 (IntKind.i64.wrap (((x_1.length:Nat):Int)+1))),(11,.int .i64 x5.1)],Z5 [(0,.lrow uv 2 1 (e0.1.map (D.int .i64)))],1,57⟩) h1 (wk []) (by intro w;simp) ?_ ?_
   ·clear h;intro x0 y h;unfold Z1e at h;refine xs<|rz ?_;refine es<|xs ?_;obtain⟨k,h⟩|⟨k,h⟩:=iK k h
    ·refine xt<|xk<|es<|xs<|xb<|xs<|rK fun K _ E J=>zz ?_;obtain⟨y0,q,h⟩:=bK q h;refine zz ?_;subst E J;refine es ?_;obtain⟨v0,h2,h⟩:=bs h;refine Zk (fun v0=>⟨envL [(0,.sl (l_0.map Z1.d)),(1,.own 0 x0.2.2.length),(5,.bool x0.1),(7,.ptr 1 0),(10,.int .i64 (IntKind.i64.wrap (((x_1.length:Nat):Int)+1))),(11,.int .i64 x5.1),(13,.sl (l_0.map Z1.d)),(14,.int .i64 (l_0.length:Int)),(15,.int .i64 x0.2.1),(40,.bool v0)],Z5 [(0,.lrow uv 2 1 (x0.2.2.map (D.int .i64))),(1,.box none [.int .i64 y0.I,.int .i64 y0.J,.int .i64 y0.C,.int .u8 y0.Rule,.int .i64 y0.ID,.int .i64 y0.Other])],2,57⟩) h2 ?_ ?_
     ·clear h;intro v0 h;refine rD hI fun K _ E J=>zz ?_;obtain⟨y1,q,h⟩:=oN q h;refine zz ?_;obtain⟨k,h⟩|⟨k,h⟩:=iK k h
      ·refine zz ?_;obtain⟨y2,q,h⟩:=oN q h;exact LD
      exact LD
     obtain⟨k,h⟩|⟨k,h⟩:=iK k h
     ·refine xt<|xs<|rD hI fun K _ E J=>zz ?_;obtain⟨y3,q,h⟩:=oN q h;refine zz ?_;obtain⟨y4,q,h⟩:=oN q h;refine zz ?_;obtain⟨m0,h3,h⟩:=bind_some h;obtain⟨h4,h5,h6,h7⟩:=Z0l h3;have h7:=h7 (D.int .i64);try simp only[sevalprocAttr,List.map_nil,dd] at h7
      have q:=And.intro @h4<|And.intro @h5<|And.intro @h6<|And.intro @h7<|q;refine zz ?_;refine hd<|zz ?_;subst E J;refine es<|rz ?_;exact Ln
     exact Ll
    exact Le
   refine bh<|es<|xs<|rz ?_;refine es ?_;obtain⟨k,h⟩|⟨k,h⟩:=iK k h
   ·exact Ll
   exact Lk
  exact Le
 rcases e6 with e6|e6
 ·try dsimp only at h ⊢
  refine br<|er ?_;exact LS
 try dsimp only at h ⊢
 exact LE
def Z12 (l_0:List Z1)(x_1:List Int):Option (Bool × (List Int)):=(Z22 l_0 x_1).bind fun r=>if r.2.length=x_1.length then some r else none
theorem Z8W{l_0:List Z1}{x_1:List Int}{r:Bool × (List Int)}(h:Z12 l_0 x_1=some r):x_1.length=r.2.length:=by
 unfold Z12 at h;obtain⟨x,_,h⟩:=bs h;obtain⟨h1,h⟩:=Zo h;cases h;exact h1.symm
theorem Z93{l_0:List Z1}{x_1:List Int}{r:Bool × (List Int)}(h:Z12 l_0 x_1=some r):Z22 l_0 x_1=some r:=by
 unfold Z12 at h;obtain⟨x,h0,h⟩:=bs h;obtain⟨h1,h⟩:=Zo h;cases h;exact h0
theorem ZaL{I:World->Prop}(hI:Stab I){H:Nat->Option Blk}{nid i0:Nat}{l_0:List Z1}{x_1:List Int}{r:Bool × (List Int)}(h:Z12 l_0 x_1=some r)(b0:H i0=some (.vec 2 1 (x_1.map (D.int .i64)) false)):Zi Tryz.prog I 70 [.sl (l_0.map Z1.d),.own i0 x_1.length] H nid (.bool r.1) [(i0,some (.vec 2 1 (r.2.map (D.int .i64)) false))] :=
 Z9U hI (pn:=none) (Z93 h) b0
def Z1K (m0:List (List Int))(x0:Int × (List Int)):Option (Nx (Int × (List Int)) ((List Int))) :=
 (if(decide (x0.1 < ((m0.length:Nat):Int))) then((atI x0.2 x0.1).bind fun y0=>((setI x0.2 x0.1 1152921504606846976).bind fun m1=>(some (.go ((IntKind.i64.wrap (x0.1+1)),m1))))) else(some (.out x0.2)))
def Z1J (n_0:Int)(m0:List (List Int))(x0:Int × (List (List Int))):Option (Nx (Int × (List (List Int))) ((List (List Int)))) :=
 (if(decide (x0.1 < ((m0.length:Nat):Int))) then((mkI 8 n_0 (0:Int)).bind fun m1=>((atI x0.2 x0.1).bind fun y0=>((iter (Z1K m0) (0,m1)).bind fun e0=>((atI e0 x0.1).bind fun y1=>((setI e0 x0.1 0).bind fun m2=>(some (.go ((IntKind.i64.wrap (x0.1+1)),(x0.2.set x0.1.toNat m2))))))))) else(some (.out x0.2)))
def Z1M (m0:List (List Int))(x0:Int × (List Int)):Option (Nx (Int × (List Int)) ((List Int))) :=
 (if(decide (x0.1 < ((m0.length:Nat):Int))) then((atI x0.2 x0.1).bind fun y0=>((setI x0.2 x0.1 1152921504606846976).bind fun m1=>(some (.go ((IntKind.i64.wrap (x0.1+1)),m1))))) else(some (.out x0.2)))
def Z15 (l_1:List Z1)(y0:List Int)(x0:Int × (List Int)):Option (Nx (Int × (List Int)) ((List Int))) :=
 (if(decide (x0.1 < (l_1.length:Int))) then((atI l_1 x0.1).bind fun y1=>((atI y0 y1.I).bind fun y2=>(if(y2 != 1152921504606846976) then((atI x0.2 y1.J).bind fun y3=>((setI x0.2 y1.J (if(IntKind.i64.wrap (y2+y1.C)) < y3 then(IntKind.i64.wrap (y2+y1.C)) else y3)).bind fun m0=>(some (.go ((IntKind.i64.wrap (x0.1+1)),m0))))) else(some (.go ((IntKind.i64.wrap (x0.1+1)),x0.2)))))) else(some (.out x0.2)))
def Z1L (n_0:Int)(l_1:List Z1)(m0:List (List Int))(x0:Int × (List (List Int)))(x1:Int × (List (List Int))):Option (Nx (Int × (List (List Int))) (Unit ⊕ ((List (List Int))))) :=
 (if(decide (x1.1 < ((x0.2.length:Nat):Int))) then((atI x1.2 x1.1).bind fun y0=>((mkI 8 n_0 (0:Int)).bind fun m1=>((iter (Z1M m0) (0,m1)).bind fun e0=>((iter (Z15 l_1 y0) (0,e0)).bind fun e1=>((atI e1 x1.1).bind fun y1=>(if(decide (y1 < 0)) then(some (.out (.inl ()))) else(some (.go ((IntKind.i64.wrap (x1.1+1)),(x1.2.set x1.1.toNat e1)))))))))) else(some (.out (.inr x1.2))))
def Z2J (n_0:Int)(l_1:List Z1)(m0:List (List Int))(x0:Int × (List (List Int))):Option (Nx (Int × (List (List Int))) (Int ⊕ Unit)) :=
 (if(decide (x0.1<=n_0)) then((iter (Z1L n_0 l_1 m0 x0) (0,x0.2)).bind fun e0=>(match e0 with|Sum.inl e0=>(some (.out (.inl x0.1)))|Sum.inr (e0)=>(some (.go ((IntKind.i64.wrap (x0.1+1)),e0))))) else(some (.out (.inr ()))))
def Z1I (n_0:Int)(l_1:List Z1):Option (Int) :=
 ((mkI 24 n_0 ([]:List Int)).bind fun m0=>((iter (Z1J n_0 m0) (0,m0)).bind fun e0=>((iter (Z2J n_0 l_1 m0) (1,e0)).bind fun e1=>(match e1 with|Sum.inl e1=>(some e1)|Sum.inr (e1)=>(some 0)))))
theorem Z94{I:World->Prop}(hI:Stab I){n_0:Int}{l_1:List Z1}{r:Int}(h:Z1I n_0 l_1=some r):AFun Tryz.prog I 72 [.int .i64 n_0,.sl (l_1.map Z1.d)] (.int .i64 r):=by
 have dd:=Z9G;have k:=True.intro;have q:=k;have rs:=Tryz.results72;unfold Z1I at h;refine .en hI Tryz.func72 Tryz.ntmps72 ?_;refine xs<|rz ?_;refine es<|xs<|rK fun K _ E J=>zz ?_;obtain⟨m0,h0,h⟩:=bind_some h;obtain⟨h1,h2,h3,h4,h5⟩:=Z5I h0;have h5:=h5 Za;try simp only[sevalprocAttr,List.map_nil,Int.toNat_natCast,dd] at h4 h5
 have q:=And.intro @h1<|And.intro @h2<|And.intro @h3<|And.intro @h4<|And.intro @h5<|q;refine zz ?_;subst E J;refine es<|xs<|xs<|rz ?_;refine es<|xb ?_;obtain⟨e0,h6,h⟩:=bs h;refine Zb (fun x0=>⟨envL [(0,.int .i64 n_0),(1,.sl (l_1.map Z1.d)),(5,.own 0 x0.2.length),(18,.int .i64 ((m0.length:Nat):Int)),(19,.int .i64 x0.1)],Z5 [(0,.vec 22 1 (x0.2.map Za) false)],1,114⟩) (fun _=>.exit 0) (fun e0=>⟨envL [(0,.int .i64 n_0),(1,.sl (l_1.map Z1.d)),(5,.own 0 e0.length)],Z5 [(0,.vec 22 1 (e0.map Za) false)],1,114⟩) h6 (wk [(0,some 2)]) (by intro w;simp) ?_ ?_
 ·clear h;intro x0 y h;unfold Z1J at h;refine xs<|rz ?_;refine es<|xs ?_;obtain⟨k,h⟩|⟨k,h⟩:=iK k h
  ·refine xt<|xk<|es<|xs<|xb<|xs<|rz ?_;refine es<|xs<|rK fun K _ E J=>zz ?_;obtain⟨m1,h7,h⟩:=bind_some h;obtain⟨h8,h9,h10,h11,h12⟩:=Z5I h7;have h12:=h12 (D.int .i64);try simp only[sevalprocAttr,List.map_nil,Int.toNat_natCast,dd] at h11 h12
   rw[h4] at h11;rw[<- h11] at h12;have k:=And.intro h11.symm k;have q:=And.intro @h8<|And.intro @h9<|And.intro @h10<|And.intro @h12<|q;refine zz ?_;obtain⟨y0,q,h⟩:=oN q h;refine zz ?_;have h19:x0.1.toNat < x0.2.length:=by omega
   have q:=And.intro @h19<|q;refine zz ?_;subst E J;refine es<|xs<|xs<|rK fun K _ E J=>zz ?_;have h20:=Z8a (f:=Za) (L:=x0.2) (i:=x0.1.toNat) (x:=.own 7 m0.length) (by omega);have q:=And.intro @h20<|q;refine zz ?_;subst E J;refine es<|xb ?_;obtain⟨e1,h21,h⟩:=bs h;refine Zb (fun x1=>⟨envL [(0,.int .i64 n_0),(1,.sl (l_1.map Z1.d)),(5,.own 0 x0.2.length),(6,.int .i64 x0.1),(18,.int .i64 ((m0.length:Nat):Int)),(19,.int .i64 x0.1),(31,.int .i64 ((m0.length:Nat):Int)),(32,.int .i64 x1.1)],Z5 [(0,.mat 22 1 ((x0.2.map Za).set x0.1.toNat (.own 1 x1.2.length))),(1,.vec 2 1 (x1.2.map (D.int .i64)) false)],2,114⟩) (fun _=>.exit 2) (fun e1=>⟨envL [(0,.int .i64 n_0),(1,.sl (l_1.map Z1.d)),(5,.own 0 x0.2.length),(6,.int .i64 x0.1),(18,.int .i64 ((m0.length:Nat):Int)),(19,.int .i64 x0.1)],Z5 [(0,.mat 22 1 ((x0.2.map Za).set x0.1.toNat (.own 1 e1.length))),(1,.vec 2 1 (e1.map (D.int .i64)) false)],2,114⟩) h21 (wk [(1,some 7)]) (by intro w;simp) ?_ ?_
   ·clear h;intro x1 y h;unfold Z1K at h;refine xs<|rz ?_;refine es<|xs ?_;obtain⟨k,h⟩|⟨k,h⟩:=iK k h
    ·refine xt<|xk<|es<|xs<|xb<|xs<|rz ?_;refine es<|rK fun K _ E J=>zz ?_;have h22:=Z8a (f:=Za) (L:=x0.2) (i:=x0.1.toNat) (x:=.own 1 x1.2.length) (by omega);have q:=And.intro @h22<|q;refine zz ?_;obtain⟨y1,q,h⟩:=oN q h;refine zz ?_;obtain⟨m2,h23,h⟩:=bind_some h;obtain⟨h24,h25,h26,h27⟩:=Z0l h23;have h27:=h27 (D.int .i64);try simp only[sevalprocAttr,List.map_nil,dd] at h27
     have q:=And.intro @h24<|And.intro @h25<|And.intro @h26<|And.intro @h27<|q;exact LI
    exact Le
   refine bh<|es<|rK fun K _ E J=>zz ?_;have h28:=Z8a (f:=Za) (L:=x0.2) (i:=x0.1.toNat) (x:=.own 1 e1.length) (by omega);have q:=And.intro @h28<|q;refine zz ?_;obtain⟨y2,q,h⟩:=oN q h;refine zz ?_;obtain⟨m3,h29,h⟩:=bind_some h;obtain⟨h30,h31,h32,h33⟩:=Z0l h29;have h33:=h33 (D.int .i64);try simp only[sevalprocAttr,List.map_nil,dd] at h33
   have q:=And.intro @h30<|And.intro @h31<|And.intro @h32<|And.intro @h33<|q;refine zz ?_;subst E J;refine bn<|es<|rz ?_;cases h;exact en ⟨rfl,((Wk.closeM (id:=0) (j:=1) (i:=x0.1.toNat) (f:=Za) (L:=x0.2) fz (by omega) fz fs (by decide) (fun _=>rfl)).trans (wk []))⟩
  exact Le
 refine bh<|es<|xs<|xs<|rz ?_;refine es<|xb ?_;obtain⟨e2,h34,h⟩:=bs h;refine Zb (fun x2=>⟨envL [(0,.int .i64 n_0),(1,.sl (l_1.map Z1.d)),(5,.own 0 x2.2.length),(8,.int .i64 x2.1)],Z5 [(0,.vec 22 1 (x2.2.map Za) false)],1,114⟩) (fun w=>match w with|Sum.inl _=>.ret|Sum.inr (_)=>.exit 4) (fun w=>match w with|Sum.inl e2=>⟨envL [(4,.int .i64 e2)],Z5 [],0,114⟩|Sum.inr (e2)=>⟨envL [],Z5 [],0,114⟩) h34 (wk []) (by intro w;rcases w with w|w<;>simp) ?_ ?_
 ·clear h;intro x2 y h;unfold Z2J at h;refine xs<|xs<|rz ?_;refine es ?_;obtain⟨k,h⟩|⟨k,h⟩:=iK k h
  ·refine xt<|xk<|es<|xs<|xb<|xs<|rz ?_;refine es<|xb ?_;obtain⟨e3,h35,h⟩:=bs h;refine Zb (fun x3=>⟨envL [(0,.int .i64 n_0),(1,.sl (l_1.map Z1.d)),(5,.own 0 x3.2.length),(8,.int .i64 x2.1),(54,.own 0 x3.2.length),(55,.int .i64 ((x2.2.length:Nat):Int)),(56,.int .i64 x3.1)],Z5 [(0,.vec 22 1 (x3.2.map Za) false)],1,114⟩) (fun w=>match w with|Sum.inl _=>.ret|Sum.inr (_)=>.exit 6) (fun w=>match w with|Sum.inl e3=>⟨envL [(4,.int .i64 x2.1)],Z5 [],0,114⟩|Sum.inr (e3)=>⟨envL [(0,.int .i64 n_0),(1,.sl (l_1.map Z1.d)),(5,.own 0 e3.length),(8,.int .i64 x2.1)],Z5 [(0,.vec 22 1 (e3.map Za) false)],1,114⟩) h35 (wk []) (by intro w;rcases w with w|w<;>simp) ?_ ?_
   ·clear h;intro x3 y h;unfold Z1L at h;refine xs<|rz ?_;refine es<|xs ?_;obtain⟨k,h⟩|⟨k,h⟩:=iK k h
    ·refine xt<|xk<|es<|xs<|xb<|xs<|rK fun K _ E J=>zz ?_;obtain⟨y3,q,h⟩:=oN q h;refine zz ?_;subst E J;refine es<|xs<|rK fun K _ E J=>zz ?_;obtain⟨m4,h36,h⟩:=bind_some h;obtain⟨h37,h38,h39,h40,h41⟩:=Z5I h36;have h41:=h41 (D.int .i64);try simp only[sevalprocAttr,List.map_nil,Int.toNat_natCast,dd] at h40 h41
     rw[h4] at h40;rw[<- h40] at h41;have k:=And.intro h40.symm k;have q:=And.intro @h37<|And.intro @h38<|And.intro @h39<|And.intro @h41<|q;refine zz ?_;subst E J;refine es<|xs<|xs<|rz ?_;refine es<|xb ?_;obtain⟨e4,h42,h⟩:=bs h;refine Zb (fun x4=>⟨envL [(0,.int .i64 n_0),(1,.sl (l_1.map Z1.d)),(5,.own 0 x3.2.length),(8,.int .i64 x2.1),(9,.int .i64 x3.1),(10,.sl (y3.map (D.int .i64))),(11,.own 1 x4.2.length),(54,.own 0 x3.2.length),(55,.int .i64 ((x2.2.length:Nat):Int)),(56,.int .i64 x3.1),(64,.int .i64 ((m0.length:Nat):Int)),(65,.int .i64 x4.1)],Z5 [(0,.vec 22 1 (x3.2.map Za) false),(1,.vec 2 1 (x4.2.map (D.int .i64)) false)],2,114⟩) (fun _=>.exit 8) (fun e4=>⟨envL [(0,.int .i64 n_0),(1,.sl (l_1.map Z1.d)),(5,.own 0 x3.2.length),(8,.int .i64 x2.1),(9,.int .i64 x3.1),(10,.sl (y3.map (D.int .i64))),(11,.own 1 e4.length),(54,.own 0 x3.2.length),(55,.int .i64 ((x2.2.length:Nat):Int)),(56,.int .i64 x3.1)],Z5 [(0,.vec 22 1 (x3.2.map Za) false),(1,.vec 2 1 (e4.map (D.int .i64)) false)],2,114⟩) h42 (wk [(1,some 8)]) (by intro w;simp) ?_ ?_
     ·clear h;intro x4 y h;unfold Z1M at h;refine xs<|rz ?_;refine es<|xs ?_;obtain⟨k,h⟩|⟨k,h⟩:=iK k h
      ·refine xt<|xk<|es<|xs<|xb<|xs<|rz ?_;refine es<|rK fun K _ E J=>zz ?_;obtain⟨y4,q,h⟩:=oN q h;refine zz ?_;obtain⟨m5,h43,h⟩:=bind_some h;obtain⟨h44,h45,h46,h47⟩:=Z0l h43;have h47:=h47 (D.int .i64);try simp only[sevalprocAttr,List.map_nil,dd] at h47
       have q:=And.intro @h44<|And.intro @h45<|And.intro @h46<|And.intro @h47<|q;exact LI
      exact Le
     refine bh<|es<|xs<|xs<|rz ?_;refine es<|xb ?_;obtain⟨e5,h48,h⟩:=bs h;refine Zb (fun x5=>⟨envL [(0,.int .i64 n_0),(1,.sl (l_1.map Z1.d)),(5,.own 0 x3.2.length),(8,.int .i64 x2.1),(9,.int .i64 x3.1),(10,.sl (y3.map (D.int .i64))),(11,.own 1 x5.2.length),(54,.own 0 x3.2.length),(55,.int .i64 ((x2.2.length:Nat):Int)),(56,.int .i64 x3.1),(72,.sl (l_1.map Z1.d)),(73,.int .i64 (l_1.length:Int)),(74,.int .i64 x5.1)],Z5 [(0,.vec 22 1 (x3.2.map Za) false),(1,.vec 2 1 (x5.2.map (D.int .i64)) false)],2,114⟩) (fun _=>.exit 10) (fun e5=>⟨envL [(0,.int .i64 n_0),(1,.sl (l_1.map Z1.d)),(5,.own 0 x3.2.length),(8,.int .i64 x2.1),(9,.int .i64 x3.1),(11,.own 1 e5.length),(54,.own 0 x3.2.length),(55,.int .i64 ((x2.2.length:Nat):Int)),(56,.int .i64 x3.1)],Z5 [(0,.vec 22 1 (x3.2.map Za) false),(1,.vec 2 1 (e5.map (D.int .i64)) false)],2,114⟩) h48 (wk []) (by intro w;simp) ?_ ?_
     ·clear h;intro x5 y h;unfold Z15 at h;refine xs<|rz ?_;refine es<|xs ?_;obtain⟨k,h⟩|⟨k,h⟩:=iK k h
      ·refine xt<|xk<|es<|xs<|xb<|xs<|rK fun K _ E J=>zz ?_;obtain⟨y5,q,h⟩:=bK q h;refine zz ?_;subst E J;refine es<|xs<|rK fun K _ E J=>zz ?_;obtain⟨y6,q,h⟩:=bK q h;refine zz ?_;subst E J;refine es ?_;obtain⟨k,h⟩|⟨k,h⟩:=iK k h
       ·refine xt<|rD hI fun K _ E J=>zz ?_;obtain⟨y7,q,h⟩:=oN q h;refine zz ?_;obtain⟨m6,h49,h⟩:=bind_some h;obtain⟨h50,h51,h52,h53⟩:=Z0l h49;have h53:=h53 (D.int .i64);try simp only[sevalprocAttr,List.map_nil,dd] at h53
        have q:=And.intro @h50<|And.intro @h51<|And.intro @h52<|And.intro @h53<|q;exact Lw
       exact Ll
      exact Le
     refine bh<|es<|xs<|rK fun K _ E J=>zz ?_;have h54:x3.1.toNat < x3.2.length:=by omega
     have q:=And.intro @h54<|q;refine zz ?_;subst E J;refine es<|xs<|rK fun K _ E J=>zz ?_;obtain⟨y8,q,h⟩:=oN q h;refine zz ?_;subst E J;refine es ?_;obtain⟨k,h⟩|⟨k,h⟩:=iK k h
     ·exact Lk
     refine xf<|xk<|bn<|es<|rz ?_;cases h;exact en ⟨rfl,((Wk.closeM (id:=0) (j:=1) (i:=x3.1.toNat) (f:=Za) (L:=x3.2) fz (by omega) fz fs (by decide) (fun _=>rfl)).trans (wk []))⟩
    exact Le
   rcases e3 with e3|e3
   ·try dsimp only at h ⊢
    refine br<|br<|er ?_;exact La
   try dsimp only at h ⊢
   exact LK
  exact Le
 rcases e2 with e2|e2
 ·try dsimp only at h ⊢
  exact Li
 try dsimp only at h ⊢
 exact Lg
def Z2C (m0:List Int)(x0:Int × (List Int)):Option (Nx (Int × (List Int)) ((List Int))) :=
 (if(decide (x0.1 < ((m0.length:Nat):Int))) then((atI x0.2 x0.1).bind fun y0=>((setI x0.2 x0.1 1152921504606846976).bind fun m1=>(some (.go ((IntKind.i64.wrap (x0.1+1)),m1))))) else(some (.out x0.2)))
def Z1H (x0:Int × (List (List Int)))(z0:List Z1)(x1:Int × (List Int)):Option (Nx (Int × (List Int)) ((List Int))) :=
 (if(decide (x1.1 < (z0.length:Int))) then((atI z0 x1.1).bind fun y0=>((atI x0.2 (IntKind.i64.wrap (x0.1 - 1))).bind fun y1=>(if ¬ (IntKind.i64.wrap (x0.1 - 1))=x0.1 then((atI y1 y0.J).bind fun y2=>(if(y2 != 1152921504606846976) then((atI x1.2 y0.I).bind fun y3=>((setI x1.2 y0.I (if(IntKind.i64.wrap (y0.C+y2)) < y3 then(IntKind.i64.wrap (y0.C+y2)) else y3)).bind fun m0=>(some (.go ((IntKind.i64.wrap (x1.1+1)),m0))))) else(some (.go ((IntKind.i64.wrap (x1.1+1)),x1.2))))) else none))) else(some (.out x1.2)))
def Z49 (n_0:Int)(l_1:List Z1)(first_2:Int)(to_4:Int)(m0:List (List Int))(x0:Int × (List (List Int))):Option (Nx (Int × (List (List Int))) ((List (List Int)))) :=
 (if(decide (x0.1 < ((m0.length:Nat):Int))) then((mkI 8 n_0 (0:Int)).bind fun m1=>((atI x0.2 x0.1).bind fun y0=>((iter (Z2C m1) (0,m1)).bind fun e0=>(if(x0.1 == 0) then((atI x0.2 0).bind fun y1=>((atI e0 to_4).bind fun y2=>((setI e0 to_4 0).bind fun m2=>(some (.go ((IntKind.i64.wrap (x0.1+1)),(x0.2.set x0.1.toNat m2))))))) else((subL l_1 (IntKind.i64.wrap (first_2+1))).bind fun z0=>((iter (Z1H x0 z0) (0,e0)).bind fun e1=>(some (.go ((IntKind.i64.wrap (x0.1+1)),(x0.2.set x0.1.toNat e1)))))))))) else(some (.out x0.2)))
def Z2I (n_0:Int)(l_1:List Z1)(first_2:Int)(size_3:Int)(to_4:Int):Option ((List (List Int))) :=
 ((mkI 24 size_3 ([]:List Int)).bind fun m0=>((iter (Z49 n_0 l_1 first_2 to_4 m0) (0,m0)).bind fun e0=>(some e0)))
theorem ZaM{I:World->Prop}(hI:Stab I){n_0:Int}{l_1:List Z1}{first_2:Int}{size_3:Int}{to_4:Int}{r:(List (List Int))}(h:Z2I n_0 l_1 first_2 size_3 to_4=some r):AFun Tryz.prog I 118 [.int .i64 n_0,.sl (l_1.map Z1.d),.int .i64 first_2,.int .i64 size_3,.int .i64 to_4] (.sl (r.map Za)):=by
 have dd:=Z9G;have k:=True.intro;have q:=k;have rs:=Tryz.results118;unfold Z2I at h;refine .en hI Tryz.func118 Tryz.ntmps118 ?_;refine xs<|rz ?_;refine es<|xs<|rK fun K _ E J=>zz ?_;obtain⟨m0,h0,h⟩:=bind_some h;obtain⟨h1,h2,h3,h4,h5⟩:=Z5I h0;have h5:=h5 Za;try simp only[sevalprocAttr,List.map_nil,Int.toNat_natCast,dd] at h4 h5
 have q:=And.intro @h1<|And.intro @h2<|And.intro @h3<|And.intro @h4<|And.intro @h5<|q;refine zz ?_;subst E J;refine es<|xs<|xs<|rz ?_;refine es<|xb ?_;obtain⟨e0,h6,h⟩:=bs h;refine Zb (fun x0=>⟨envL [(0,.int .i64 n_0),(1,.sl (l_1.map Z1.d)),(2,.int .i64 first_2),(4,.int .i64 to_4),(11,.own 0 x0.2.length),(19,.int .i64 ((m0.length:Nat):Int)),(20,.int .i64 x0.1)],Z5 [(0,.vec 22 1 (x0.2.map Za) false)],1,100⟩) (fun _=>.exit 0) (fun e0=>⟨envL [(11,.own 0 e0.length)],Z5 [(0,.vec 22 1 (e0.map Za) false)],1,100⟩) h6 (wk [(0,some 2)]) (by intro w;simp) ?_ ?_
 ·clear h;intro x0 y h;unfold Z49 at h;refine xs<|rz ?_;refine es<|xs ?_;obtain⟨k,h⟩|⟨k,h⟩:=iK k h
  ·refine xt<|xk<|es<|xs<|xb<|xs<|rz ?_;refine es<|xs<|rK fun K _ E J=>zz ?_;obtain⟨m1,h7,h⟩:=bind_some h;obtain⟨h8,h9,h10,h11,h12⟩:=Z5I h7;have h12:=h12 (D.int .i64);try simp only[sevalprocAttr,List.map_nil,Int.toNat_natCast,dd] at h11 h12
   have q:=And.intro @h8<|And.intro @h9<|And.intro @h10<|And.intro @h11<|And.intro @h12<|q;refine zz ?_;obtain⟨y0,q,h⟩:=oN q h;refine zz ?_;have h19:x0.1.toNat < x0.2.length:=by omega
   have q:=And.intro @h19<|q;refine zz ?_;subst E J;refine es<|xs<|xs<|rK fun K _ E J=>zz ?_;have h20:=Z8a (f:=Za) (L:=x0.2) (i:=x0.1.toNat) (x:=.own 7 m1.length) (by omega);have q:=And.intro @h20<|q;refine zz ?_;subst E J;refine es<|xb ?_;obtain⟨e1,h21,h⟩:=bs h;refine Zb (fun x1=>⟨envL [(0,.int .i64 n_0),(1,.sl (l_1.map Z1.d)),(2,.int .i64 first_2),(4,.int .i64 to_4),(11,.own 0 x0.2.length),(12,.int .i64 x0.1),(19,.int .i64 ((m0.length:Nat):Int)),(20,.int .i64 x0.1),(32,.int .i64 ((m1.length:Nat):Int)),(33,.int .i64 x1.1)],Z5 [(0,.mat 22 1 ((x0.2.map Za).set x0.1.toNat (.own 1 x1.2.length))),(1,.vec 2 1 (x1.2.map (D.int .i64)) false)],2,100⟩) (fun _=>.exit 2) (fun e1=>⟨envL [(0,.int .i64 n_0),(1,.sl (l_1.map Z1.d)),(2,.int .i64 first_2),(4,.int .i64 to_4),(11,.own 0 x0.2.length),(12,.int .i64 x0.1),(19,.int .i64 ((m0.length:Nat):Int)),(20,.int .i64 x0.1)],Z5 [(0,.mat 22 1 ((x0.2.map Za).set x0.1.toNat (.own 1 e1.length))),(1,.vec 2 1 (e1.map (D.int .i64)) false)],2,100⟩) h21 (wk [(1,some 7)]) (by intro w;simp) ?_ ?_
   ·clear h;intro x1 y h;unfold Z2C at h;refine xs<|rz ?_;refine es<|xs ?_;obtain⟨k,h⟩|⟨k,h⟩:=iK k h
    ·refine xt<|xk<|es<|xs<|xb<|xs<|rz ?_;refine es<|rK fun K _ E J=>zz ?_;have h22:=Z8a (f:=Za) (L:=x0.2) (i:=x0.1.toNat) (x:=.own 1 x1.2.length) (by omega);have q:=And.intro @h22<|q;refine zz ?_;obtain⟨y1,q,h⟩:=oN q h;refine zz ?_;obtain⟨m2,h23,h⟩:=bind_some h;obtain⟨h24,h25,h26,h27⟩:=Z0l h23;have h27:=h27 (D.int .i64);try simp only[sevalprocAttr,List.map_nil,dd] at h27
     have q:=And.intro @h24<|And.intro @h25<|And.intro @h26<|And.intro @h27<|q;exact LI
    exact Le
   refine bh<|es<|xs<|xs<|rz ?_;refine es ?_;obtain⟨k,h⟩|⟨k,h⟩:=iK k h
   ·refine xt<|xs<|rK fun K _ E J=>zz ?_;obtain⟨y2,h28,h⟩:=bind_some h;obtain⟨h29,h30,h31⟩:=Z6A h28;try simp only[Int.reduceToNat,Int.toNat_zero,Int.toNat_one] at h31
    have q:=And.intro h29<|And.intro h30<|And.intro @h31 q;have h32:=Zjw (f:=Za) (L:=x0.2) (i:=x0.1) (m:=0) (x:=.own 1 e1.length) (by have:=k;simp only[beq_iff_eq] at this;omega) (by omega);have q:=And.intro @h32<|q;refine zz ?_;obtain⟨y3,q,h⟩:=oN q h;refine zz ?_;obtain⟨m3,h33,h⟩:=bind_some h;obtain⟨h34,h35,h36,h37⟩:=Z0l h33;have h37:=h37 (D.int .i64);try simp only[sevalprocAttr,List.map_nil,dd] at h37
    have q:=And.intro @h34<|And.intro @h35<|And.intro @h36<|And.intro @h37<|q;refine zz ?_;subst E J;refine es<|xx<|ee<|bh<|es<|rz ?_;cases h;exact en ⟨rfl,((Wk.closeM (id:=0) (j:=1) (i:=x0.1.toNat) (f:=Za) (L:=x0.2) fz (by omega) fz fs (by decide) (fun _=>rfl)).trans (wk []))⟩
   refine xf<|xk<|es<|xs<|rK fun K _ E J=>zz ?_;obtain⟨z0,h38,h⟩:=bind_some h;obtain⟨⟨h39,h40⟩,h41⟩:=Zcp h38;have q:=And.intro @h39<|And.intro @h40<|q;try simp -implicitDefEqProofs only[vt,vm,sevalprocAttr,dd,k,q] at h41
   have q:=And.intro @h41<|q;refine zz ?_;subst E J;refine es<|xb ?_;obtain⟨e2,h42,h⟩:=bs h;refine Zb (fun x2=>⟨envL [(0,.int .i64 n_0),(1,.sl (l_1.map Z1.d)),(2,.int .i64 first_2),(4,.int .i64 to_4),(11,.own 0 x0.2.length),(12,.int .i64 x0.1),(19,.int .i64 ((m0.length:Nat):Int)),(20,.int .i64 x0.1),(53,.sl (z0.map Z1.d)),(54,.int .i64 (z0.length:Int)),(55,.int .i64 x2.1)],Z5 [(0,.mat 22 1 ((x0.2.map Za).set x0.1.toNat (.own 1 x2.2.length))),(1,.vec 2 1 (x2.2.map (D.int .i64)) false)],2,100⟩) (fun _=>.exit 4) (fun e2=>⟨envL [(0,.int .i64 n_0),(1,.sl (l_1.map Z1.d)),(2,.int .i64 first_2),(4,.int .i64 to_4),(11,.own 0 x0.2.length),(19,.int .i64 ((m0.length:Nat):Int)),(20,.int .i64 x0.1)],Z5 [(0,.mat 22 1 ((x0.2.map Za).set x0.1.toNat (.own 1 e2.length))),(1,.vec 2 1 (e2.map (D.int .i64)) false)],2,100⟩) h42 (wk []) (by intro w;simp) ?_ ?_
   ·clear h;intro x2 y h;unfold Z1H at h;refine xs<|rz ?_;refine es<|xs ?_;obtain⟨k,h⟩|⟨k,h⟩:=iK k h
    ·refine xt<|xk<|es<|xs<|xb<|xs<|rK fun K _ E J=>zz ?_;obtain⟨y4,q,h⟩:=bK q h;refine zz ?_;subst E J;refine es<|xs<|rD hI fun K _ E J=>zz ?_;obtain⟨y5,q,h⟩:=oN q h;obtain⟨h43,h⟩:=Zo h;have h44:=Zku (i:=x0.1.toNat) (x:=.own 1 x2.2.length) (q.1.2.2 Za) (by omega);have q:=And.intro @h44<|q;refine zz ?_;obtain⟨y6,q,h⟩:=bK q h;refine zz ?_;subst E J;refine es ?_;obtain⟨k,h⟩|⟨k,h⟩:=iK k h
     ·refine xt<|rD hI fun K _ E J=>zz ?_;have h45:=Z8a (f:=Za) (L:=x0.2) (i:=x0.1.toNat) (x:=.own 1 x2.2.length) (by omega);have q:=And.intro @h45<|q;refine zz ?_;obtain⟨y7,q,h⟩:=oN q h;refine zz ?_;obtain⟨m4,h46,h⟩:=bind_some h;obtain⟨h47,h48,h49,h50⟩:=Z0l h46;have h50:=h50 (D.int .i64);try simp only[sevalprocAttr,List.map_nil,dd] at h50
      have q:=And.intro @h47<|And.intro @h48<|And.intro @h49<|And.intro @h50<|q;exact Lw
     exact Ll
    exact Le
   refine bh<|bn<|es<|rz ?_;cases h;exact en ⟨rfl,((Wk.closeM (id:=0) (j:=1) (i:=x0.1.toNat) (f:=Za) (L:=x0.2) fz (by omega) fz fs (by decide) (fun _=>rfl)).trans (wk []))⟩
  exact Le
 exact Lg
def Z0M (l_1:List Z1)(r0:(List (List Int)))(x0:Int × Int × Int × (List Int))(x1:Int):Option (Nx (Int) ((List Int) × Int × Int)) :=
 (if(decide (x1 < (l_1.length:Int))) then((atI l_1 x1).bind fun y0=>(((if(y0.I == x0.1) then((atI r0 x0.2.2.1).bind fun y1=>((atI y1 y0.J).bind fun y2=>(if(y2 != 1152921504606846976) then(some (decide ((IntKind.i64.wrap ((IntKind.i64.wrap (x0.2.1+y0.C))+y2)) < 0))) else(some false)))) else(some false)):Option (Bool)).bind fun v0=>(if v0 then(if(x0.2.2.2.length+1) * 8<=140737488355328 then(some (.out ((x0.2.2.2++[x1]),y0.J,(IntKind.i64.wrap (x0.2.1+y0.C))))) else none) else(some (.go (IntKind.i64.wrap (x1+1))))))) else(some (.out (x0.2.2.2,x0.1,x0.2.1))))
def Z0L (l_1:List Z1)(x5:Int)(r0:(List (List Int)))(x0:Int × Int × Int × (List Int)):Option (Nx (Int × Int × Int × (List Int)) ((List Int))) :=
 (if(decide (0<=x0.2.2.1)) then((iter (Z0M l_1 r0 x0) (IntKind.i64.wrap (x5+1))).bind fun e0=>(some (.go (e0.2.1,e0.2.2,(IntKind.i64.wrap (x0.2.2.1 - 1)),e0.1)))) else(some (.out x0.2.2.2)))
def Z07 (n_0:Int)(l_1:List Z1)(size_2:Int)(x5:Int):Option (Nx (Int) (((List Int)) ⊕ Unit)) :=
 (if(decide (x5 < (l_1.length:Int))) then((atI l_1 x5).bind fun y0=>((Z2I n_0 l_1 x5 size_2 y0.I).bind fun r0=>((((atI r0 (IntKind.i64.wrap (size_2 - 1))).bind fun y1=>((atI y1 y0.J).bind fun y2=>(if(y2 == 1152921504606846976) then(some true) else(some (decide (0<=(IntKind.i64.wrap (y0.C+y2)))))))):Option (Bool)).bind fun v0=>(if v0 then(some (.go (IntKind.i64.wrap (x5+1)))) else((iter (Z0L l_1 x5 r0) (y0.J,y0.C,(IntKind.i64.wrap (size_2 - 2)),[x5])).bind fun e0=>(some (.out (.inl e0)))))))) else(some (.out (.inr ()))))
def Z05 (n_0:Int)(l_1:List Z1)(size_2:Int):Option ((List Int)) :=
 ((iter (Z07 n_0 l_1 size_2) 0).bind fun e6=>(match e6 with|Sum.inl e6=>(some e6)|Sum.inr (e6)=>(some [])))
theorem Z92{I:World->Prop}(hI:Stab I){n_0:Int}{l_1:List Z1}{size_2:Int}{r:(List Int)}(h:Z05 n_0 l_1 size_2=some r):AFun Tryz.prog I 71 [.int .i64 n_0,.sl (l_1.map Z1.d),.int .i64 size_2] (.sl (r.map (D.int .i64))):=by
 have dd:=Z9G;have k:=True.intro;have q:=k;have rs:=Tryz.results71;unfold Z05 at h;refine .en hI Tryz.func71 Tryz.ntmps71 ?_;refine xs<|rz ?_;refine es<|xs<|xs<|rz ?_;refine es<|xb ?_;obtain⟨e6,h0,h⟩:=bs h;refine Zb (fun x5=>⟨envL [(0,.int .i64 n_0),(1,.sl (l_1.map Z1.d)),(2,.int .i64 size_2),(16,.sl (l_1.map Z1.d)),(17,.int .i64 (l_1.length:Int)),(18,.int .i64 x5)],Z5 [],0,122⟩) (fun w=>match w with|Sum.inl _=>.ret|Sum.inr (_)=>.exit 0) (fun w=>match w with|Sum.inl e6=>⟨envL [(6,.own 0 e6.length)],Z5 [(0,.vec 3 1 (e6.map (D.int .i64)) false)],1,122⟩|Sum.inr (e6)=>⟨envL [],Z5 [],0,122⟩) h0 (wk []) (by intro w;rcases w with w|w<;>simp) ?_ ?_
 ·clear h;intro x5 y h;unfold Z07 at h;refine xs<|rz ?_;refine es<|xs ?_;obtain⟨k,h⟩|⟨k,h⟩:=iK k h
  ·refine xt<|xk<|es<|xs<|xb<|xs<|rK fun K _ E J=>zz ?_;obtain⟨y0,q,h⟩:=bK q h;refine zz ?_;subst E J;refine es<|xs<|rK fun K _ E J=>zz ?_;obtain⟨r0,h1,h⟩:=bs h;refine cw (ZaM hI h1)<|zz ?_;subst E J;refine es<|xs ?_;obtain⟨v0,h2,h⟩:=bs h;refine Zk (fun v0=>⟨envL [(0,.int .i64 n_0),(1,.sl (l_1.map Z1.d)),(2,.int .i64 size_2),(7,.int .i64 x5),(8,.ptr 0 0),(9,.sl (r0.map Za)),(16,.sl (l_1.map Z1.d)),(17,.int .i64 (l_1.length:Int)),(18,.int .i64 x5),(54,.bool v0)],Z5 [(0,.box none [.int .i64 y0.I,.int .i64 y0.J,.int .i64 y0.C,.int .u8 y0.Rule,.int .i64 y0.ID,.int .i64 y0.Other])],1,122⟩) h2 ?_ ?_
   ·clear h;intro v0 h;refine rD hI fun K _ E J=>zz ?_;obtain⟨y1,q,h⟩:=bK q h;refine zz ?_;obtain⟨y2,q,h⟩:=bK q h;refine zz ?_;obtain⟨k,h⟩|⟨k,h⟩:=iK k h
    ·exact Lq
    exact Lq
   obtain⟨k,h⟩|⟨k,h⟩:=iK k h
   ·exact LG
   refine xf<|xk<|es<|xs<|rz ?_;refine es<|xs<|rd hI ?_;refine es<|xs<|xs<|rz ?_;refine es<|xb ?_;obtain⟨e0,h3,h⟩:=bs h;refine Zb (fun x0=>⟨envL [(1,.sl (l_1.map Z1.d)),(7,.int .i64 x5),(9,.sl (r0.map Za)),(10,.own 0 x0.2.2.2.length),(11,.int .i64 x0.1),(12,.int .i64 x0.2.1),(13,.int .i64 x0.2.2.1)],Z5 [(0,.vec 3 1 (x0.2.2.2.map (D.int .i64)) false)],1,122⟩) (fun _=>.exit 2) (fun e0=>⟨envL [(10,.own 0 e0.length)],Z5 [(0,.vec 3 1 (e0.map (D.int .i64)) false)],1,122⟩) h3 (wk [(0,some 2)]) (by intro w;simp) ?_ ?_
   ·clear h;intro x0 y h;unfold Z0L at h;refine xs<|xs<|rz ?_;refine es ?_;obtain⟨k,h⟩|⟨k,h⟩:=iK k h
    ·refine xt<|xk<|es<|xs<|xb<|xs<|rz ?_;refine es<|xb ?_;obtain⟨e1,h4,h⟩:=bs h;refine Zb (fun x1=>⟨envL [(1,.sl (l_1.map Z1.d)),(7,.int .i64 x5),(9,.sl (r0.map Za)),(10,.own 0 x0.2.2.2.length),(11,.int .i64 x0.1),(12,.int .i64 x0.2.1),(13,.int .i64 x0.2.2.1),(14,.int .i64 x1)],Z5 [(0,.vec 3 1 (x0.2.2.2.map (D.int .i64)) false)],1,122⟩) (fun _=>.exit 4) (fun e1=>⟨envL [(1,.sl (l_1.map Z1.d)),(7,.int .i64 x5),(9,.sl (r0.map Za)),(10,.own 0 e1.1.length),(11,.int .i64 e1.2.1),(12,.int .i64 e1.2.2),(13,.int .i64 x0.2.2.1)],Z5 [(0,.vec 3 1 (e1.1.map (D.int .i64)) false)],1,122⟩) h4 (wk []) (by intro w;simp) ?_ ?_
     ·clear h;intro x1 y h;unfold Z0M at h;refine xs<|xs<|rz ?_;refine es ?_;obtain⟨k,h⟩|⟨k,h⟩:=iK k h
      ·refine xt<|xk<|es<|xs<|xb<|xs<|rK fun K _ E J=>zz ?_;obtain⟨y3,q,h⟩:=bK q h;refine zz ?_;subst E J;refine es ?_;obtain⟨v1,h5,h⟩:=bs h;refine Zk (fun v1=>⟨envL [(1,.sl (l_1.map Z1.d)),(7,.int .i64 x5),(9,.sl (r0.map Za)),(10,.own 0 x0.2.2.2.length),(11,.int .i64 x0.1),(12,.int .i64 x0.2.1),(13,.int .i64 x0.2.2.1),(14,.int .i64 x1),(15,.ptr 1 0),(109,.bool v1)],Z5 [(0,.vec 3 1 (x0.2.2.2.map (D.int .i64)) false),(1,.box none [.int .i64 y3.I,.int .i64 y3.J,.int .i64 y3.C,.int .u8 y3.Rule,.int .i64 y3.ID,.int .i64 y3.Other])],2,122⟩) h5 ?_ ?_
       ·clear h;intro v1 h;refine rD hI fun K _ E J=>zz ?_;obtain⟨k,h⟩|⟨k,h⟩:=iK k h
        ·refine zz ?_;obtain⟨y4,q,h⟩:=bK q h;refine zz ?_;obtain⟨y5,q,h⟩:=bK q h;refine zz ?_;obtain⟨k,h⟩|⟨k,h⟩:=iK k h
         ·exact LR
         exact LR
        exact LR
       obtain⟨k,h⟩|⟨k,h⟩:=iK k h
       ·refine xt<|xs<|rK fun K _ E J=>zz ?_;obtain⟨h6,h⟩:=Zo h;have h7:x0.2.2.2.length+1<=9223372036854775807:=by omega
        try simp only[Nat.reduceLeDiff] at h7
        have q:=And.intro @h7<|And.intro @h6<|q;refine zz ?_;subst E J;refine es<|xs<|rd hI ?_;refine es<|xx<|bm<|ee ?_;cases h;exact en ⟨rfl,wk [(0,some 5)]⟩
       exact Ll
      exact Le
     exact LK
    exact Le
   refine bh<|es<|xs<|rz ?_;refine es<|xr<|br<|er ?_;exact La
  exact Le
 rcases e6 with e6|e6
 ·try dsimp only at h ⊢
  exact Li
 try dsimp only at h ⊢
 exact Lg
def Z0m (n_0:Int)(l_1:List Z1):Option ((List Int) × (List Int) × Int) :=
 ((Z48 n_0 l_1).bind fun r7=>(if(r7 != 0) then(some ([],[],r7)) else((mkI 8 n_0 (0:Int)).bind fun m0=>((Z12 l_1 m0).bind fun r0=>(if r0.1 then(some (r0.2,[],0)) else((Z1I n_0 l_1).bind fun r1=>((Z05 n_0 l_1 r1).bind fun r2=>(some ([],r2,16)))))))))
theorem Z7F{I:World->Prop}(hI:Stab I){n_0:Int}{l_1:List Z1}{r:(List Int) × (List Int) × Int}(h:Z0m n_0 l_1=some r):AFun Tryz.prog I 26 [.int .i64 n_0,.sl (l_1.map Z1.d)] (.tup [.sl (r.1.map (D.int .i64)),.sl (r.2.1.map (D.int .i64)),.int .i64 r.2.2]):=by
 have dd:=Z9G;have k:=True.intro;have q:=k;have rs:=Tryz.results26;unfold Z0m at h;refine .en hI Tryz.func26 Tryz.ntmps26 ?_;refine xs<|rz ?_;refine es<|xs<|xs<|rK fun K _ E J=>zz ?_;obtain⟨r7,h8,h⟩:=bs h;refine cw (ZaK hI h8)<|zz ?_;subst E J;refine es<|xs<|rz ?_;refine es ?_;obtain⟨k,h⟩|⟨k,h⟩:=iK k h
 ·exact Lc
 refine xf<|xk<|es<|xs<|rK fun K _ E J=>zz ?_;obtain⟨m0,h0,h⟩:=bind_some h;obtain⟨h1,h2,h3,h4,h5⟩:=Z5I h0;have h5:=h5 (D.int .i64);try simp only[sevalprocAttr,List.map_nil,Int.toNat_natCast,dd] at h4 h5
 have q:=And.intro @h1<|And.intro @h2<|And.intro @h3<|And.intro @h4<|And.intro @h5<|q;refine zz ?_;subst E J;refine es<|xs<|xs<|rK fun K _ E J=>zz ?_;obtain⟨r0,h6,h⟩:=bs h;have q:=And.intro (Z8W h6) q;refine cW.introR (ZaL hI (nid:=14) (i0:=10) h6 fz) fs rfl<|zz ?_;subst E J;refine es ?_;obtain⟨k,h⟩|⟨k,h⟩:=iK k h
 ·exact Lc
 refine xf<|xk<|es<|xs<|rK fun K _ E J=>zz ?_;obtain⟨r1,h7,h⟩:=bs h;refine cw (Z94 hI h7)<|zz ?_;obtain⟨r2,h9,h⟩:=bs h;refine cw (Z92 hI h9)<|zz ?_;exact Lz
section
variable {P:Program}{I:World->Prop}{f:FuncId}{ds:List D}
theorem AFun.of_own{e:TypeId}{k:Nat}{xs:List D}(h:∀ (H:Nat->Option Blk) (nid:Nat),Zi P I f ds H nid (.own nid xs.length) [(nid,some (.vec e k xs false))]):AFun P I f ds (.sl xs):=by
 refine⟨(h (fun _=>none) 0).1,fun w F args hI hF hl hr=>?_⟩;have hc:=(h (fun _=>none) 0).2 w w (cF F) ⟨fun g=>w.heap.size<=g,fun _=>Go.undef⟩ args hI (Below.refl _ _) (fun _ h=>h) ⟨fun id b h=>(by cases h),fun id b h=>(by cases h),fun id k cs h=>(by cases h),fun id id' b b' h=>(by cases h)⟩ hF (fun _ h=>h) (fun h=>h) hl hr;refine hc.mono ?_;rintro e' w' ⟨v,C',rfl,hb,he,hv,hH,hFB,_,hn⟩;have hi:Z9 (fun _=>none) [(0,some (Blk.vec e k xs false))] 0=some (.vec e k xs false):=by simp[Z9,upd]
 obtain⟨C'',hP,hs⟩:=Z7l hH hFB hi;refine⟨v,C''.F,rfl,hb.to,(he.trans hP.ext).cF,hP.fb,fun b o hbo=>?_,hs v hv⟩;rcases hP.new b o hbo with h1|h1
 ·exact hn b o h1
 exact .inr h1
theorem Zi.of_run{e:TypeId}{k:Nat}{xs:List D}{v0:Value->Prop}(he:Z1G P f=true)(hk:∀ x ∈ xs,x.cells.length=k)(hm:xs.length<=maxLen)
  (h:∀ (w:World) (F:Nat->Nat->Prop) (args:List Value),I w->FB (cF F) w->args.length=ds.length->(∀ (i:Nat) v d,args[i]? = some v->ds[i]? = some d->Rep w (cF F) v d) ->
   ∃ vals,RepL (cF F) w vals (xs.flatMap D.cells)/\Calls P f args.toArray w fun e' w'=>∃ v,e'=.returned v/\w'.ownsRow w.heap.size e k v xs.length vals/\Below w.heap.size w w')
  (hds:∀ d ∈ ds,∃ d',purD (fun _=>none) d=some (d',[])/\d'=d) (hst:Stab I) {H:Nat->Option Blk} {nid:Nat}:Zi P I f ds H nid (.own nid xs.length) [(nid,some (.vec e k xs false))]:=by
 refine⟨he,fun i0 w C B args hI hb0 hM hH hF hbase hnid hal hrep=>?_⟩
 have hF2:FB (cF C.F) w:=hF
 have hrep2:∀ (i:Nat) v d,args[i]? = some v->ds[i]? = some d->Rep w (cF C.F) v d:=by
  intro i v d hv hd
  obtain⟨d',h1,rfl⟩:=hds d (List.mem_of_getElem? hd)
  exact(Zce h1 (hrep i v _ hv hd)).1
 obtain⟨vals,hR,hc⟩:=h w C.F args (hst i0 w hI hb0) hF2 hal hrep2
 refine hc.mono ?_
 rintro e' w' ⟨v,rfl,hown,hbl⟩
 let C2:Cx:=⟨C.F,fun id=>if id=nid then v else C.σ id,fun id=>C.live id\/id=nid⟩
 have hσ2:∀ id,C.live id->C2.σ id=C.σ id:=fun id hid=>by
  have:id≠nid:=fun e=>hnid (e ▸ hid)
  simp only[C2,if_neg this]
 have hσn:C2.σ nid=v:=by simp only[C2,if_true]
 have hblk:∀ b o,C.F b o->w'.heap[b]? = w.heap[b]?:=fun b o hbo=>hbl.block b (hF b o hbo)
 have hee:Ext C w C2 w':=⟨fun _ _ h=>h,hblk,fun _ h=>.inl h,hσ2⟩
 have hlt:∀ g,Zj v=some g->w.heap.size<=g:=by
  intro g hg
  rcases hown.2 with⟨h0,_⟩|⟨g',cap,cur,hv,hB,_⟩
  ·rw[h0] at hg;simp[Zj] at hg
  ·rw[hv] at hg;simp[Zj] at hg;omega
 have hnoid:H nid=none:=by
  cases hn2:H nid with
  | none=>rfl
  | some b=>exact absurd (hH.rep _ _ hn2).1 hnid
 have hcase:∀ id b,Z9 H [(nid,some (Blk.vec e k xs false))] id=some b->(id=nid/\b=.vec e k xs false)\/(id≠nid/\H id=some b):=by
  intro id b hb'
  simp only[Z9,upd] at hb'
  split at hb'
  ·rename_i hid;injection hb' with hb';exact .inl ⟨hid,hb'.symm⟩
  ·rename_i hid;exact .inr ⟨hid,hb'⟩
 refine⟨v,C2,rfl,BelM.of hbl,hee,?_,?_,fun b o h=>Nat.lt_of_lt_of_le (hF b o h) hbl.size,fun _ h=>h,fun _ _ h=>.inl h⟩
 ·rcases hown.2 with⟨h0,h1⟩|⟨g',cap,cur,hv,hB,_⟩
  ·rw[h0] at hσn ⊢
   rw[h1] at hm ⊢
   exact .own nid 0 0 none (.inr rfl) hm hσn
  ·rw[hv] at hσn ⊢
   exact .own nid _ _ _ (.inr rfl) hm hσn
 ·refine⟨fun id b hb'=>?_,fun id b hb' g hg=>?_,fun id kk cs hb'=>?_,fun id id' b b' hb' hb'' hne2 g hg hg'=>?_⟩
  ·rcases hcase id b hb' with⟨rfl,rfl⟩|⟨hid,h4⟩
   ·refine⟨.inr rfl,vals,?_,hk,hR.ext (Ext.cF hee),fun g hg=>?_⟩
    ·rw[hσn]
     refine⟨hown.1,?_⟩
     rcases hown.2 with h5|⟨g5,cap5,cur5,a5,b5,c5⟩
     ·exact .inl h5
     ·exact .inr ⟨g5,cap5,cur5,a5,Nat.zero_le _,c5⟩
    ·have hgl:w.heap.size<=g:=by
      rw[hσn] at hg
      refine hlt g ?_
      cases hv:v<;>rw[hv] at hg<;>simp[Value.ownBlock] at hg
      rename_i A _ _
      cases A with
      | none=>simp at hg
      | some A=>simpa[Value.ownBlock,Zj] using hg
     exact⟨fun o ho=>absurd (hF g o ho) (by omega),fun q=>by cases q⟩
   ·obtain⟨k1,k2⟩:=hH.rep id b h4
    exact⟨.inl k1,k2.keep k1 hee (fun g hg=>hbl.block g (k2.lt g hg).2) (fun g o _ h=>h)⟩
  ·rcases hcase id b hb' with⟨rfl,rfl⟩|⟨hid,h4⟩
   ·rw[hσn] at hg;exact hbase g (hlt g hg)
   ·rw[hσ2 id (hH.rep _ _ h4).1] at hg
    exact hH.own _ _ h4 g hg
  ·rcases hcase id _ hb' with⟨_,h4⟩|⟨hid,h4⟩
   ·cases h4
   ·rw[hσ2 id (hH.rep _ _ h4).1]
    exact hH.pin id kk cs h4
  ·rcases hcase id b hb' with⟨rfl,rfl⟩|⟨hid,h4⟩
   ·rw[hσn] at hg
    rcases hcase id' b' hb'' with⟨rfl,rfl⟩|⟨hid',h4'⟩
    ·exact hne2 rfl
    ·rw[hσ2 id' (hH.rep _ _ h4').1] at hg'
     have:=((hH.rep _ _ h4').2.lt g hg').2
     have:=hlt g hg
     omega
   ·rw[hσ2 id (hH.rep _ _ h4).1] at hg
    rcases hcase id' b' hb'' with⟨rfl,rfl⟩|⟨hid',h4'⟩
    ·rw[hσn] at hg'
     have:=((hH.rep _ _ h4).2.lt g hg).2
     have:=hlt g hg'
     omega
    ·rw[hσ2 id' (hH.rep _ _ h4').1] at hg'
     exact hH.apart _ _ _ _ h4 h4' hne2 g hg hg'
end
set_option maxHeartbeats 4000000
theorem Z7D{w:World}{C:Cx}{v:Value}{xs:List D}{k:Nat}(h:Rep w C v (.sl xs))(hne:xs≠[])(hk:∀ x ∈ xs,x.cells.length=k) :
  ∃ b off c vals,v=.slice (some ⟨b,off,none⟩) xs.length c/\vals.length=xs.length * k/\(∀ u ∈ vals,u.oneCell'=true)/\(∀ j u,vals[j]? = some u->w.cell? ((⟨b,off,none⟩:Addr).add j)=some u)/\RepL (cF C.F) w vals (xs.flatMap D.cells)/\xs.length<=maxLen:=by
 cases h with
 | sl0 A c hm=>exact absurd rfl hne
 | sl b off k' c _ vals hc hm hk' hlv hone hF hcell hrep =>
  refine⟨b,off,c,vals,rfl,?_,hone,fun j u hj=>?_,⟨hlv,hone,hrep⟩,Nat.le_trans hc hm⟩
  ·rw[hlv]
   have:∀ (l:List D),(∀ x ∈ l,x.cells.length=k)->(l.flatMap D.cells).length=l.length * k:=by
    intro l
    induction l with
    | nil=>intro _;simp
    | cons x l ih=>intro hl;rw[List.flatMap_cons,List.length_append,hl x (by simp),ih (fun y hy=>hl y (by simp[hy])),List.length_cons,Nat.succ_mul];omega
   exact this xs hk
  ·rw[Addr.add_lit];exact hcell j u hj
theorem Zez:(Tryz.prog.info? 102).map (fun i=>(i.zero,i.size,i.bytes))=some (some (Value.agg #[Value.string ⟨#[]⟩,Value.int .i64 0,Value.int .i64 0,Value.int .i64 0,Value.int .i64 0,Value.int .u8 0,Value.bool false]),7,56):=by kernel_rfl
theorem Z7C(ad:Addr)(n c:Nat)(vals:List Value)(w:World)(hl:vals.length=n * 7)(hone:∀ u ∈ vals,u.oneCell'=true)(hcell:∀ j u,vals[j]? = some u->w.cell? (ad.add j)=some u)(hn:n<=maxLen)(hbig:n * 56<=140737488355328) :
  Calls Tryz.prog 63 #[.slice (some ad) n c] w fun e w'=>∃ v',e=.returned v'/\w'.ownsRow w.heap.size 102 7 v' n vals/\Below w.heap.size w w':=by
 obtain⟨i0,hi,hz0,hz1,hz2⟩:=info_parts Zez
 have tS:Tryz.prog.underlying 33=some (.slice 102):=Tryz.underlying33
 have qS:∀ (w:World) (a:Option Addr) (n c n' c':Nat),(binOp .eql 33 (.slice a n c) (.slice none n' c')).run Tryz.prog w=.ok (.bool a.isNone) w:=fun w a n c n' c'=>Lib.run_eql_slice_nil w _ _ a n c n' c' tS
 have uS:∀ w,Sem.run Tryz.prog (underlying 33) w=.ok (TypeDesc.slice 102) w:=run_underlying tS
 have A1:Aside (∀ j u,vals[j]? = some u->w.cell? (ad.add j)=some u):=hcell
 have A2:Aside (∀ u ∈ vals,u.oneCell'=true):=hone
 have A3:Aside (vals.length=n * 7):=hl
 clear hcell hone hl
 go_enter Tryz.func63,Tryz.ntmps63
 go_wp2_with (at_builtin;refine wpList_append_own _ rfl _ _ 33 rfl w.heap.size 102 i0 (Value.agg #[Value.string ⟨#[]⟩,Value.int .i64 0,Value.int .i64 0,Value.int .i64 0,Value.int .i64 0,Value.int .u8 0,Value.bool false]) 7 56 tS hi hz0 hz1 hz2 rfl (by decide) _ _ _ rfl (World.ownsRow_made w #[] 0 (Nat.le_refl _) (Nat.zero_le _) rfl) ad n c vals rfl A3.out ?qc2 A2.out (by omega) (by omega) (by simp) ?_)
 case qc2 =>
  intro j u hj
  exact Lib.cell?_alloc_some _ (A1.out j u hj)
 intro v' w1 hown hgrow hnil
 go_wp2
 go_ret
 exact⟨v',rfl,by simpa using hown,((Below.refl _ w).alloc (Nat.le_refl _) _).grown hgrow (by simp) (by intro k hk;simp[Value.ownBlock] at hk;omega)⟩
theorem Za0(n c:Nat)(w:World):Calls Tryz.prog 63 #[.slice none n c] w fun e w'=>e=.returned (.slice none 0 0)/\w'=w:=by
 have tS:Tryz.prog.underlying 33=some (.slice 102):=Tryz.underlying33;have qS:∀ (w:World) (a:Option Addr) (n c n' c':Nat),(binOp .eql 33 (.slice a n c) (.slice none n' c')).run Tryz.prog w=.ok (.bool a.isNone) w:=fun w a n c n' c'=>Lib.run_eql_slice_nil w _ _ a n c n' c' tS;go_enter Tryz.func63,Tryz.ntmps63;go_wp2;go_ret;exact⟨rfl,rfl⟩
def ZB (s:List Z3):Option (List Z3):=if s.length * 56<=140737488355328 then some s else none
def Z0n (s:List Z3):Option (List Z3):=if s.isEmpty then none else ZB s
theorem Z4Y{I:World->Prop}(hI:Stab I){H:Nat->Option Blk}{nid:Nat}{s r:List Z3}(h:Z0n s=some r):Zi Tryz.prog I 63 [.sl (s.map Z3.d)] H nid (.own nid r.length) [(nid,some (.vec 102 7 (r.map Z3.d) false))]:=by
 unfold Z0n at h
 split at h
 ·cases h
 rename_i hne
 unfold ZB at h
 obtain⟨hb,h⟩:=Zo h
 cases h
 have hne':s.map Z3.d≠[]:=by simpa using hne
 have hk:∀ x ∈ s.map Z3.d,x.cells.length=7:=fun x hx=>by obtain⟨y,_,rfl⟩:=List.mem_map.1 hx;rfl
 have hm:(s.map Z3.d).length<=maxLen:=by rw[List.length_map];unfold maxLen;omega
 have:=Zi.of_run (P:=Tryz.prog) (I:=I) (f:=63) (ds:=[.sl (s.map Z3.d)]) (e:=102) (k:=7) (xs:=s.map Z3.d) (v0:=fun _=>True) (H:=H) (nid:=nid) (by kernel_rfl) hk hm (fun w F args hIw hfb hl hr=>?_) (fun d hd=>by
  simp only[List.mem_singleton] at hd
  subst hd
  exact⟨_,rfl,rfl⟩) hI
 ·simpa using this
 ·match args,hl with
  | [v],_ =>
   obtain⟨b,off,c,vals,rfl,h1,h2,h3,h4,h5⟩:=Z7D (hr 0 v _ rfl rfl) hne' hk
   refine⟨vals,h4,?_⟩
   refine Z7C ⟨b,off,none⟩ _ c vals w h1 h2 h3 h5 (by rw[List.length_map];exact hb)
theorem Z2x{I:World->Prop}(hI:Stab I){s r:List Z3}(h:ZB s=some r):AFun Tryz.prog I 63 [.sl (s.map Z3.d)] (.sl (r.map Z3.d)):=by
 by_cases hs:s=[]
 ·subst hs
  cases h
  refine⟨by kernel_rfl,fun w F args hIw hfb hl hr=>?_⟩
  match args,hl with
  | [v],_ =>
   have key:∃ A c,v=.slice A 0 c:=by
    have hv:=hr 0 v _ rfl rfl
    generalize hx:([]:List Z3).map Z3.d=xs at hv
    simp at hx
    subst hx
    cases hv with
    | sl0 A c hm=>exact⟨A,c,rfl⟩
    | sl b off k' c _ vals hc hm hk' hlv hone hF hcell hrep=>exact⟨_,c,rfl⟩
   obtain⟨A,c,rfl⟩:=key
   cases A with
   | none =>
    refine(Za0 0 c w).mono ?_
    rintro e w' ⟨rfl,rfl⟩
    exact⟨_,F,rfl,Below.refl _ _,Ext.refl _ _,hfb,fun _ _ h=>.inl h,.sl0 none 0 (Nat.zero_le _)⟩
   | some ad =>
    refine(Z7C ad 0 c [] w rfl (by simp) (by simp) (Nat.zero_le _) (by omega)).mono ?_
    rintro e w' ⟨v',rfl,hown,hb⟩
    have hx:∃ A c,v'=.slice A 0 c/\c<=maxLen:=by
     rcases hown.2 with⟨h0,_⟩|⟨g',cap,cur,hv,_,_,_,h5,_⟩
     ·exact⟨none,0,h0,Nat.zero_le _⟩
     ·exact⟨_,cap,hv,h5⟩
    obtain⟨A',c',rfl,hc'⟩:=hx
    exact⟨_,F,rfl,hb,⟨fun _ _ h=>h,fun b o h=>hb.block b (hfb b o h),fun _ h=>h.elim,fun _ h=>h.elim⟩,fun b o h=>Nat.lt_of_lt_of_le (hfb b o h) hb.size,fun _ _ h=>.inl h,.sl0 A' c' hc'⟩
 ·have hw:Z0n s=some r:=by
   unfold Z0n
   rw[if_neg (by simpa using hs)]
   exact h
  refine AFun.of_own (e:=102) (k:=7) fun H nid=>?_
  have:=Z4Y (I:=I) hI (H:=H) (nid:=nid) hw
  simpa using this
theorem ZdE:(Tryz.prog.info? 107).map (fun i=>(i.zero,i.size,i.bytes))=some (some (Value.agg #[Value.int .i64 0,Value.int .i64 0,Value.int .i64 0,Value.int .i64 0,Value.string ⟨#[]⟩,Value.string ⟨#[]⟩,Value.bool false,Value.bool false]),8,72):=by kernel_rfl
theorem Z79(ad:Addr)(n c:Nat)(vals:List Value)(w:World)(hl:vals.length=n * 8)(hone:∀ u ∈ vals,u.oneCell'=true)(hcell:∀ j u,vals[j]? = some u->w.cell? (ad.add j)=some u)(hn:n<=maxLen)(hbig:n * 72<=140737488355328) :
  Calls Tryz.prog 64 #[.slice (some ad) n c] w fun e w'=>∃ v',e=.returned v'/\w'.ownsRow w.heap.size 107 8 v' n vals/\Below w.heap.size w w':=by
 obtain⟨i0,hi,hz0,hz1,hz2⟩:=info_parts ZdE
 have tS:Tryz.prog.underlying 35=some (.slice 107):=Tryz.underlying35
 have qS:∀ (w:World) (a:Option Addr) (n c n' c':Nat),(binOp .eql 35 (.slice a n c) (.slice none n' c')).run Tryz.prog w=.ok (.bool a.isNone) w:=fun w a n c n' c'=>Lib.run_eql_slice_nil w _ _ a n c n' c' tS
 have uS:∀ w,Sem.run Tryz.prog (underlying 35) w=.ok (TypeDesc.slice 107) w:=run_underlying tS
 have A1:Aside (∀ j u,vals[j]? = some u->w.cell? (ad.add j)=some u):=hcell
 have A2:Aside (∀ u ∈ vals,u.oneCell'=true):=hone
 have A3:Aside (vals.length=n * 8):=hl
 clear hcell hone hl
 go_enter Tryz.func64,Tryz.ntmps64
 go_wp2_with (at_builtin;refine wpList_append_own _ rfl _ _ 35 rfl w.heap.size 107 i0 (Value.agg #[Value.int .i64 0,Value.int .i64 0,Value.int .i64 0,Value.int .i64 0,Value.string ⟨#[]⟩,Value.string ⟨#[]⟩,Value.bool false,Value.bool false]) 8 72 tS hi hz0 hz1 hz2 rfl (by decide) _ _ _ rfl (World.ownsRow_made w #[] 0 (Nat.le_refl _) (Nat.zero_le _) rfl) ad n c vals rfl A3.out ?qc2 A2.out (by omega) (by omega) (by simp) ?_)
 case qc2 =>
  intro j u hj
  exact Lib.cell?_alloc_some _ (A1.out j u hj)
 intro v' w1 hown hgrow hnil
 go_wp2
 go_ret
 exact⟨v',rfl,by simpa using hown,((Below.refl _ w).alloc (Nat.le_refl _) _).grown hgrow (by simp) (by intro k hk;simp[Value.ownBlock] at hk;omega)⟩
theorem Z9x(n c:Nat)(w:World):Calls Tryz.prog 64 #[.slice none n c] w fun e w'=>e=.returned (.slice none 0 0)/\w'=w:=by
 have tS:Tryz.prog.underlying 35=some (.slice 107):=Tryz.underlying35;have qS:∀ (w:World) (a:Option Addr) (n c n' c':Nat),(binOp .eql 35 (.slice a n c) (.slice none n' c')).run Tryz.prog w=.ok (.bool a.isNone) w:=fun w a n c n' c'=>Lib.run_eql_slice_nil w _ _ a n c n' c' tS;go_enter Tryz.func64,Tryz.ntmps64;go_wp2;go_ret;exact⟨rfl,rfl⟩
def Zy (s:List Z4):Option (List Z4):=if s.length * 72<=140737488355328 then some s else none
def Z0e (s:List Z4):Option (List Z4):=if s.isEmpty then none else Zy s
theorem Z4J{I:World->Prop}(hI:Stab I){H:Nat->Option Blk}{nid:Nat}{s r:List Z4}(h:Z0e s=some r):Zi Tryz.prog I 64 [.sl (s.map Z4.d)] H nid (.own nid r.length) [(nid,some (.vec 107 8 (r.map Z4.d) false))]:=by
 unfold Z0e at h
 split at h
 ·cases h
 rename_i hne
 unfold Zy at h
 obtain⟨hb,h⟩:=Zo h
 cases h
 have hne':s.map Z4.d≠[]:=by simpa using hne
 have hk:∀ x ∈ s.map Z4.d,x.cells.length=8:=fun x hx=>by obtain⟨y,_,rfl⟩:=List.mem_map.1 hx;rfl
 have hm:(s.map Z4.d).length<=maxLen:=by rw[List.length_map];unfold maxLen;omega
 have:=Zi.of_run (P:=Tryz.prog) (I:=I) (f:=64) (ds:=[.sl (s.map Z4.d)]) (e:=107) (k:=8) (xs:=s.map Z4.d) (v0:=fun _=>True) (H:=H) (nid:=nid) (by kernel_rfl) hk hm (fun w F args hIw hfb hl hr=>?_) (fun d hd=>by
  simp only[List.mem_singleton] at hd
  subst hd
  exact⟨_,rfl,rfl⟩) hI
 ·simpa using this
 ·match args,hl with
  | [v],_ =>
   obtain⟨b,off,c,vals,rfl,h1,h2,h3,h4,h5⟩:=Z7D (hr 0 v _ rfl rfl) hne' hk
   refine⟨vals,h4,?_⟩
   refine Z79 ⟨b,off,none⟩ _ c vals w h1 h2 h3 h5 (by rw[List.length_map];exact hb)
theorem Z2h{I:World->Prop}(hI:Stab I){s r:List Z4}(h:Zy s=some r):AFun Tryz.prog I 64 [.sl (s.map Z4.d)] (.sl (r.map Z4.d)):=by
 by_cases hs:s=[]
 ·subst hs
  cases h
  refine⟨by kernel_rfl,fun w F args hIw hfb hl hr=>?_⟩
  match args,hl with
  | [v],_ =>
   have key:∃ A c,v=.slice A 0 c:=by
    have hv:=hr 0 v _ rfl rfl
    generalize hx:([]:List Z4).map Z4.d=xs at hv
    simp at hx
    subst hx
    cases hv with
    | sl0 A c hm=>exact⟨A,c,rfl⟩
    | sl b off k' c _ vals hc hm hk' hlv hone hF hcell hrep=>exact⟨_,c,rfl⟩
   obtain⟨A,c,rfl⟩:=key
   cases A with
   | none =>
    refine(Z9x 0 c w).mono ?_
    rintro e w' ⟨rfl,rfl⟩
    exact⟨_,F,rfl,Below.refl _ _,Ext.refl _ _,hfb,fun _ _ h=>.inl h,.sl0 none 0 (Nat.zero_le _)⟩
   | some ad =>
    refine(Z79 ad 0 c [] w rfl (by simp) (by simp) (Nat.zero_le _) (by omega)).mono ?_
    rintro e w' ⟨v',rfl,hown,hb⟩
    have hx:∃ A c,v'=.slice A 0 c/\c<=maxLen:=by
     rcases hown.2 with⟨h0,_⟩|⟨g',cap,cur,hv,_,_,_,h5,_⟩
     ·exact⟨none,0,h0,Nat.zero_le _⟩
     ·exact⟨_,cap,hv,h5⟩
    obtain⟨A',c',rfl,hc'⟩:=hx
    exact⟨_,F,rfl,hb,⟨fun _ _ h=>h,fun b o h=>hb.block b (hfb b o h),fun _ h=>h.elim,fun _ h=>h.elim⟩,fun b o h=>Nat.lt_of_lt_of_le (hfb b o h) hb.size,fun _ _ h=>.inl h,.sl0 A' c' hc'⟩
 ·have hw:Z0e s=some r:=by
   unfold Z0e
   rw[if_neg (by simpa using hs)]
   exact h
  refine AFun.of_own (e:=107) (k:=8) fun H nid=>?_
  have:=Z4J (I:=I) hI (H:=H) (nid:=nid) hw
  simpa using this
theorem ZfR:(Tryz.prog.info? 64).map (fun i=>(i.zero,i.size,i.bytes))=some (some (Value.agg #[Value.int .i64 0,Value.int .i64 0,Value.int .i64 0,Value.string ⟨#[]⟩,Value.int .u8 0,Value.string ⟨#[]⟩,Value.slice none 0 0]),7,88):=by kernel_rfl
theorem Z7W(ad:Addr)(n c:Nat)(vals:List Value)(w:World)(hl:vals.length=n * 7)(hone:∀ u ∈ vals,u.oneCell'=true)(hcell:∀ j u,vals[j]? = some u->w.cell? (ad.add j)=some u)(hn:n<=maxLen)(hbig:n * 88<=140737488355328) :
  Calls Tryz.prog 65 #[.slice (some ad) n c] w fun e w'=>∃ v',e=.returned v'/\w'.ownsRow w.heap.size 64 7 v' n vals/\Below w.heap.size w w':=by
 obtain⟨i0,hi,hz0,hz1,hz2⟩:=info_parts ZfR
 have tS:Tryz.prog.underlying 34=some (.slice 64):=Tryz.underlying34
 have qS:∀ (w:World) (a:Option Addr) (n c n' c':Nat),(binOp .eql 34 (.slice a n c) (.slice none n' c')).run Tryz.prog w=.ok (.bool a.isNone) w:=fun w a n c n' c'=>Lib.run_eql_slice_nil w _ _ a n c n' c' tS
 have uS:∀ w,Sem.run Tryz.prog (underlying 34) w=.ok (TypeDesc.slice 64) w:=run_underlying tS
 have A1:Aside (∀ j u,vals[j]? = some u->w.cell? (ad.add j)=some u):=hcell
 have A2:Aside (∀ u ∈ vals,u.oneCell'=true):=hone
 have A3:Aside (vals.length=n * 7):=hl
 clear hcell hone hl
 go_enter Tryz.func65,Tryz.ntmps65
 go_wp2_with (at_builtin;refine wpList_append_own _ rfl _ _ 34 rfl w.heap.size 64 i0 (Value.agg #[Value.int .i64 0,Value.int .i64 0,Value.int .i64 0,Value.string ⟨#[]⟩,Value.int .u8 0,Value.string ⟨#[]⟩,Value.slice none 0 0]) 7 88 tS hi hz0 hz1 hz2 rfl (by decide) _ _ _ rfl (World.ownsRow_made w #[] 0 (Nat.le_refl _) (Nat.zero_le _) rfl) ad n c vals rfl A3.out ?qc2 A2.out (by omega) (by omega) (by simp) ?_)
 case qc2 =>
  intro j u hj
  exact Lib.cell?_alloc_some _ (A1.out j u hj)
 intro v' w1 hown hgrow hnil
 go_wp2
 go_ret
 exact⟨v',rfl,by simpa using hown,((Below.refl _ w).alloc (Nat.le_refl _) _).grown hgrow (by simp) (by intro k hk;simp[Value.ownBlock] at hk;omega)⟩
theorem ZaC(n c:Nat)(w:World):Calls Tryz.prog 65 #[.slice none n c] w fun e w'=>e=.returned (.slice none 0 0)/\w'=w:=by
 have tS:Tryz.prog.underlying 34=some (.slice 64):=Tryz.underlying34;have qS:∀ (w:World) (a:Option Addr) (n c n' c':Nat),(binOp .eql 34 (.slice a n c) (.slice none n' c')).run Tryz.prog w=.ok (.bool a.isNone) w:=fun w a n c n' c'=>Lib.run_eql_slice_nil w _ _ a n c n' c' tS;go_enter Tryz.func65,Tryz.ntmps65;go_wp2;go_ret;exact⟨rfl,rfl⟩
def ZE (s:List Z0):Option (List Z0):=if s.length * 88<=140737488355328 then some s else none
def Zl (s:List Z0):Option (List Z0):=if s.isEmpty then none else ZE s
theorem Z14{I:World->Prop}(hI:Stab I){H:Nat->Option Blk}{nid:Nat}{s r:List Z0}(h:Zl s=some r):Zi Tryz.prog I 65 [.sl (s.map Z0.d)] H nid (.own nid r.length) [(nid,some (.vec 64 7 (r.map Z0.d) false))]:=by
 unfold Zl at h
 split at h
 ·cases h
 rename_i hne
 unfold ZE at h
 obtain⟨hb,h⟩:=Zo h
 cases h
 have hne':s.map Z0.d≠[]:=by simpa using hne
 have hk:∀ x ∈ s.map Z0.d,x.cells.length=7:=fun x hx=>by obtain⟨y,_,rfl⟩:=List.mem_map.1 hx;rfl
 have hm:(s.map Z0.d).length<=maxLen:=by rw[List.length_map];unfold maxLen;omega
 have:=Zi.of_run (P:=Tryz.prog) (I:=I) (f:=65) (ds:=[.sl (s.map Z0.d)]) (e:=64) (k:=7) (xs:=s.map Z0.d) (v0:=fun _=>True) (H:=H) (nid:=nid) (by kernel_rfl) hk hm (fun w F args hIw hfb hl hr=>?_) (fun d hd=>by
  simp only[List.mem_singleton] at hd
  subst hd
  exact⟨_,rfl,rfl⟩) hI
 ·simpa using this
 ·match args,hl with
  | [v],_ =>
   obtain⟨b,off,c,vals,rfl,h1,h2,h3,h4,h5⟩:=Z7D (hr 0 v _ rfl rfl) hne' hk
   refine⟨vals,h4,?_⟩
   refine Z7W ⟨b,off,none⟩ _ c vals w h1 h2 h3 h5 (by rw[List.length_map];exact hb)
theorem Z36{I:World->Prop}(hI:Stab I){s r:List Z0}(h:ZE s=some r):AFun Tryz.prog I 65 [.sl (s.map Z0.d)] (.sl (r.map Z0.d)):=by
 by_cases hs:s=[]
 ·subst hs
  cases h
  refine⟨by kernel_rfl,fun w F args hIw hfb hl hr=>?_⟩
  match args,hl with
  | [v],_ =>
   have key:∃ A c,v=.slice A 0 c:=by
    have hv:=hr 0 v _ rfl rfl
    generalize hx:([]:List Z0).map Z0.d=xs at hv
    simp at hx
    subst hx
    cases hv with
    | sl0 A c hm=>exact⟨A,c,rfl⟩
    | sl b off k' c _ vals hc hm hk' hlv hone hF hcell hrep=>exact⟨_,c,rfl⟩
   obtain⟨A,c,rfl⟩:=key
   cases A with
   | none =>
    refine(ZaC 0 c w).mono ?_
    rintro e w' ⟨rfl,rfl⟩
    exact⟨_,F,rfl,Below.refl _ _,Ext.refl _ _,hfb,fun _ _ h=>.inl h,.sl0 none 0 (Nat.zero_le _)⟩
   | some ad =>
    refine(Z7W ad 0 c [] w rfl (by simp) (by simp) (Nat.zero_le _) (by omega)).mono ?_
    rintro e w' ⟨v',rfl,hown,hb⟩
    have hx:∃ A c,v'=.slice A 0 c/\c<=maxLen:=by
     rcases hown.2 with⟨h0,_⟩|⟨g',cap,cur,hv,_,_,_,h5,_⟩
     ·exact⟨none,0,h0,Nat.zero_le _⟩
     ·exact⟨_,cap,hv,h5⟩
    obtain⟨A',c',rfl,hc'⟩:=hx
    exact⟨_,F,rfl,hb,⟨fun _ _ h=>h,fun b o h=>hb.block b (hfb b o h),fun _ h=>h.elim,fun _ h=>h.elim⟩,fun b o h=>Nat.lt_of_lt_of_le (hfb b o h) hb.size,fun _ _ h=>.inl h,.sl0 A' c' hc'⟩
 ·have hw:Zl s=some r:=by
   unfold Zl
   rw[if_neg (by simpa using hs)]
   exact h
  refine AFun.of_own (e:=64) (k:=7) fun H nid=>?_
  have:=Z14 (I:=I) hI (H:=H) (nid:=nid) hw
  simpa using this
theorem ZhY:(Tryz.prog.info? 129).map (fun i=>(i.zero,i.size,i.bytes))=some (some (Value.agg #[Value.slice none 0 0]),1,24):=by kernel_rfl
theorem Z8U(ad:Addr)(n c:Nat)(vals:List Value)(w:World)(hl:vals.length=n * 1)(hone:∀ u ∈ vals,u.oneCell'=true)(hcell:∀ j u,vals[j]? = some u->w.cell? (ad.add j)=some u)(hn:n<=maxLen)(hbig:n * 24<=140737488355328) :
  Calls Tryz.prog 157 #[.slice (some ad) n c] w fun e w'=>∃ v',e=.returned v'/\w'.ownsRow w.heap.size 129 1 v' n vals/\Below w.heap.size w w':=by
 obtain⟨i0,hi,hz0,hz1,hz2⟩:=info_parts ZhY
 have tS:Tryz.prog.underlying 62=some (.slice 129):=Tryz.underlying62
 have qS:∀ (w:World) (a:Option Addr) (n c n' c':Nat),(binOp .eql 62 (.slice a n c) (.slice none n' c')).run Tryz.prog w=.ok (.bool a.isNone) w:=fun w a n c n' c'=>Lib.run_eql_slice_nil w _ _ a n c n' c' tS
 have uS:∀ w,Sem.run Tryz.prog (underlying 62) w=.ok (TypeDesc.slice 129) w:=run_underlying tS
 have A1:Aside (∀ j u,vals[j]? = some u->w.cell? (ad.add j)=some u):=hcell
 have A2:Aside (∀ u ∈ vals,u.oneCell'=true):=hone
 have A3:Aside (vals.length=n * 1):=hl
 clear hcell hone hl
 go_enter Tryz.func157,Tryz.ntmps157
 go_wp2_with (at_builtin;refine wpList_append_own _ rfl _ _ 62 rfl w.heap.size 129 i0 (Value.agg #[Value.slice none 0 0]) 1 24 tS hi hz0 hz1 hz2 rfl (by decide) _ _ _ rfl (World.ownsRow_made w #[] 0 (Nat.le_refl _) (Nat.zero_le _) rfl) ad n c vals rfl A3.out ?qc2 A2.out (by omega) (by omega) (by simp) ?_)
 case qc2 =>
  intro j u hj
  exact Lib.cell?_alloc_some _ (A1.out j u hj)
 intro v' w1 hown hgrow hnil
 go_wp2
 go_ret
 exact⟨v',rfl,by simpa using hown,((Below.refl _ w).alloc (Nat.le_refl _) _).grown hgrow (by simp) (by intro k hk;simp[Value.ownBlock] at hk;omega)⟩
theorem ZbR(n c:Nat)(w:World):Calls Tryz.prog 157 #[.slice none n c] w fun e w'=>e=.returned (.slice none 0 0)/\w'=w:=by
 have tS:Tryz.prog.underlying 62=some (.slice 129):=Tryz.underlying62;have qS:∀ (w:World) (a:Option Addr) (n c n' c':Nat),(binOp .eql 62 (.slice a n c) (.slice none n' c')).run Tryz.prog w=.ok (.bool a.isNone) w:=fun w a n c n' c'=>Lib.run_eql_slice_nil w _ _ a n c n' c' tS;go_enter Tryz.func157,Tryz.ntmps157;go_wp2;go_ret;exact⟨rfl,rfl⟩
def Z09 (s:List Z6):Option (List Z6):=if s.length * 24<=140737488355328 then some s else none
def ZJ (s:List Z6):Option (List Z6):=if s.isEmpty then none else Z09 s
theorem Z3l{I:World->Prop}(hI:Stab I){H:Nat->Option Blk}{nid:Nat}{s r:List Z6}(h:ZJ s=some r):Zi Tryz.prog I 157 [.sl (s.map Z6.d)] H nid (.own nid r.length) [(nid,some (.vec 129 1 (r.map Z6.d) false))]:=by
 unfold ZJ at h
 split at h
 ·cases h
 rename_i hne
 unfold Z09 at h
 obtain⟨hb,h⟩:=Zo h
 cases h
 have hne':s.map Z6.d≠[]:=by simpa using hne
 have hk:∀ x ∈ s.map Z6.d,x.cells.length=1:=fun x hx=>by obtain⟨y,_,rfl⟩:=List.mem_map.1 hx;rfl
 have hm:(s.map Z6.d).length<=maxLen:=by rw[List.length_map];unfold maxLen;omega
 have:=Zi.of_run (P:=Tryz.prog) (I:=I) (f:=157) (ds:=[.sl (s.map Z6.d)]) (e:=129) (k:=1) (xs:=s.map Z6.d) (v0:=fun _=>True) (H:=H) (nid:=nid) (by kernel_rfl) hk hm (fun w F args hIw hfb hl hr=>?_) (fun d hd=>by
  simp only[List.mem_singleton] at hd
  subst hd
  exact⟨_,rfl,rfl⟩) hI
 ·simpa using this
 ·match args,hl with
  | [v],_ =>
   obtain⟨b,off,c,vals,rfl,h1,h2,h3,h4,h5⟩:=Z7D (hr 0 v _ rfl rfl) hne' hk
   refine⟨vals,h4,?_⟩
   refine Z8U ⟨b,off,none⟩ _ c vals w h1 h2 h3 h5 (by rw[List.length_map];exact hb)
theorem Z6k{I:World->Prop}(hI:Stab I){s r:List Z6}(h:Z09 s=some r):AFun Tryz.prog I 157 [.sl (s.map Z6.d)] (.sl (r.map Z6.d)):=by
 by_cases hs:s=[]
 ·subst hs
  cases h
  refine⟨by kernel_rfl,fun w F args hIw hfb hl hr=>?_⟩
  match args,hl with
  | [v],_ =>
   have key:∃ A c,v=.slice A 0 c:=by
    have hv:=hr 0 v _ rfl rfl
    generalize hx:([]:List Z6).map Z6.d=xs at hv
    simp at hx
    subst hx
    cases hv with
    | sl0 A c hm=>exact⟨A,c,rfl⟩
    | sl b off k' c _ vals hc hm hk' hlv hone hF hcell hrep=>exact⟨_,c,rfl⟩
   obtain⟨A,c,rfl⟩:=key
   cases A with
   | none =>
    refine(ZbR 0 c w).mono ?_
    rintro e w' ⟨rfl,rfl⟩
    exact⟨_,F,rfl,Below.refl _ _,Ext.refl _ _,hfb,fun _ _ h=>.inl h,.sl0 none 0 (Nat.zero_le _)⟩
   | some ad =>
    refine(Z8U ad 0 c [] w rfl (by simp) (by simp) (Nat.zero_le _) (by omega)).mono ?_
    rintro e w' ⟨v',rfl,hown,hb⟩
    have hx:∃ A c,v'=.slice A 0 c/\c<=maxLen:=by
     rcases hown.2 with⟨h0,_⟩|⟨g',cap,cur,hv,_,_,_,h5,_⟩
     ·exact⟨none,0,h0,Nat.zero_le _⟩
     ·exact⟨_,cap,hv,h5⟩
    obtain⟨A',c',rfl,hc'⟩:=hx
    exact⟨_,F,rfl,hb,⟨fun _ _ h=>h,fun b o h=>hb.block b (hfb b o h),fun _ h=>h.elim,fun _ h=>h.elim⟩,fun b o h=>Nat.lt_of_lt_of_le (hfb b o h) hb.size,fun _ _ h=>.inl h,.sl0 A' c' hc'⟩
 ·have hw:ZJ s=some r:=by
   unfold ZJ
   rw[if_neg (by simpa using hs)]
   exact h
  refine AFun.of_own (e:=129) (k:=1) fun H nid=>?_
  have:=Z3l (I:=I) hI (H:=H) (nid:=nid) hw
  simpa using this
theorem ZhZ:(Tryz.prog.info? 126).map (fun i=>(i.zero,i.size,i.bytes))=some (some (Value.agg #[Value.string ⟨#[]⟩,Value.int .u8 0,Value.bool false,Value.bool false,Value.string ⟨#[]⟩]),5,40):=by kernel_rfl
theorem Z8V(ad:Addr)(n c:Nat)(vals:List Value)(w:World)(hl:vals.length=n * 5)(hone:∀ u ∈ vals,u.oneCell'=true)(hcell:∀ j u,vals[j]? = some u->w.cell? (ad.add j)=some u)(hn:n<=maxLen)(hbig:n * 40<=140737488355328) :
  Calls Tryz.prog 158 #[.slice (some ad) n c] w fun e w'=>∃ v',e=.returned v'/\w'.ownsRow w.heap.size 126 5 v' n vals/\Below w.heap.size w w':=by
 obtain⟨i0,hi,hz0,hz1,hz2⟩:=info_parts ZhZ
 have tS:Tryz.prog.underlying 127=some (.slice 126):=Tryz.underlying127
 have qS:∀ (w:World) (a:Option Addr) (n c n' c':Nat),(binOp .eql 127 (.slice a n c) (.slice none n' c')).run Tryz.prog w=.ok (.bool a.isNone) w:=fun w a n c n' c'=>Lib.run_eql_slice_nil w _ _ a n c n' c' tS
 have uS:∀ w,Sem.run Tryz.prog (underlying 127) w=.ok (TypeDesc.slice 126) w:=run_underlying tS
 have A1:Aside (∀ j u,vals[j]? = some u->w.cell? (ad.add j)=some u):=hcell
 have A2:Aside (∀ u ∈ vals,u.oneCell'=true):=hone
 have A3:Aside (vals.length=n * 5):=hl
 clear hcell hone hl
 go_enter Tryz.func158,Tryz.ntmps158
 go_wp2_with (at_builtin;refine wpList_append_own _ rfl _ _ 127 rfl w.heap.size 126 i0 (Value.agg #[Value.string ⟨#[]⟩,Value.int .u8 0,Value.bool false,Value.bool false,Value.string ⟨#[]⟩]) 5 40 tS hi hz0 hz1 hz2 rfl (by decide) _ _ _ rfl (World.ownsRow_made w #[] 0 (Nat.le_refl _) (Nat.zero_le _) rfl) ad n c vals rfl A3.out ?qc2 A2.out (by omega) (by omega) (by simp) ?_)
 case qc2 =>
  intro j u hj
  exact Lib.cell?_alloc_some _ (A1.out j u hj)
 intro v' w1 hown hgrow hnil
 go_wp2
 go_ret
 exact⟨v',rfl,by simpa using hown,((Below.refl _ w).alloc (Nat.le_refl _) _).grown hgrow (by simp) (by intro k hk;simp[Value.ownBlock] at hk;omega)⟩
theorem ZbS(n c:Nat)(w:World):Calls Tryz.prog 158 #[.slice none n c] w fun e w'=>e=.returned (.slice none 0 0)/\w'=w:=by
 have tS:Tryz.prog.underlying 127=some (.slice 126):=Tryz.underlying127;have qS:∀ (w:World) (a:Option Addr) (n c n' c':Nat),(binOp .eql 127 (.slice a n c) (.slice none n' c')).run Tryz.prog w=.ok (.bool a.isNone) w:=fun w a n c n' c'=>Lib.run_eql_slice_nil w _ _ a n c n' c' tS;go_enter Tryz.func158,Tryz.ntmps158;go_wp2;go_ret;exact⟨rfl,rfl⟩
def ZU (s:List Zd):Option (List Zd):=if s.length * 40<=140737488355328 then some s else none
def ZA (s:List Zd):Option (List Zd):=if s.isEmpty then none else ZU s
theorem Z1q{I:World->Prop}(hI:Stab I){H:Nat->Option Blk}{nid:Nat}{s r:List Zd}(h:ZA s=some r):Zi Tryz.prog I 158 [.sl (s.map Zd.d)] H nid (.own nid r.length) [(nid,some (.vec 126 5 (r.map Zd.d) false))]:=by
 unfold ZA at h
 split at h
 ·cases h
 rename_i hne
 unfold ZU at h
 obtain⟨hb,h⟩:=Zo h
 cases h
 have hne':s.map Zd.d≠[]:=by simpa using hne
 have hk:∀ x ∈ s.map Zd.d,x.cells.length=5:=fun x hx=>by obtain⟨y,_,rfl⟩:=List.mem_map.1 hx;rfl
 have hm:(s.map Zd.d).length<=maxLen:=by rw[List.length_map];unfold maxLen;omega
 have:=Zi.of_run (P:=Tryz.prog) (I:=I) (f:=158) (ds:=[.sl (s.map Zd.d)]) (e:=126) (k:=5) (xs:=s.map Zd.d) (v0:=fun _=>True) (H:=H) (nid:=nid) (by kernel_rfl) hk hm (fun w F args hIw hfb hl hr=>?_) (fun d hd=>by
  simp only[List.mem_singleton] at hd
  subst hd
  exact⟨_,rfl,rfl⟩) hI
 ·simpa using this
 ·match args,hl with
  | [v],_ =>
   obtain⟨b,off,c,vals,rfl,h1,h2,h3,h4,h5⟩:=Z7D (hr 0 v _ rfl rfl) hne' hk
   refine⟨vals,h4,?_⟩
   refine Z8V ⟨b,off,none⟩ _ c vals w h1 h2 h3 h5 (by rw[List.length_map];exact hb)
theorem Z43{I:World->Prop}(hI:Stab I){s r:List Zd}(h:ZU s=some r):AFun Tryz.prog I 158 [.sl (s.map Zd.d)] (.sl (r.map Zd.d)):=by
 by_cases hs:s=[]
 ·subst hs
  cases h
  refine⟨by kernel_rfl,fun w F args hIw hfb hl hr=>?_⟩
  match args,hl with
  | [v],_ =>
   have key:∃ A c,v=.slice A 0 c:=by
    have hv:=hr 0 v _ rfl rfl
    generalize hx:([]:List Zd).map Zd.d=xs at hv
    simp at hx
    subst hx
    cases hv with
    | sl0 A c hm=>exact⟨A,c,rfl⟩
    | sl b off k' c _ vals hc hm hk' hlv hone hF hcell hrep=>exact⟨_,c,rfl⟩
   obtain⟨A,c,rfl⟩:=key
   cases A with
   | none =>
    refine(ZbS 0 c w).mono ?_
    rintro e w' ⟨rfl,rfl⟩
    exact⟨_,F,rfl,Below.refl _ _,Ext.refl _ _,hfb,fun _ _ h=>.inl h,.sl0 none 0 (Nat.zero_le _)⟩
   | some ad =>
    refine(Z8V ad 0 c [] w rfl (by simp) (by simp) (Nat.zero_le _) (by omega)).mono ?_
    rintro e w' ⟨v',rfl,hown,hb⟩
    have hx:∃ A c,v'=.slice A 0 c/\c<=maxLen:=by
     rcases hown.2 with⟨h0,_⟩|⟨g',cap,cur,hv,_,_,_,h5,_⟩
     ·exact⟨none,0,h0,Nat.zero_le _⟩
     ·exact⟨_,cap,hv,h5⟩
    obtain⟨A',c',rfl,hc'⟩:=hx
    exact⟨_,F,rfl,hb,⟨fun _ _ h=>h,fun b o h=>hb.block b (hfb b o h),fun _ h=>h.elim,fun _ h=>h.elim⟩,fun b o h=>Nat.lt_of_lt_of_le (hfb b o h) hb.size,fun _ _ h=>.inl h,.sl0 A' c' hc'⟩
 ·have hw:ZA s=some r:=by
   unfold ZA
   rw[if_neg (by simpa using hs)]
   exact h
  refine AFun.of_own (e:=126) (k:=5) fun H nid=>?_
  have:=Z1q (I:=I) hI (H:=H) (nid:=nid) hw
  simpa using this
def Z0H (data:List Z0)(a m b:Int):Option (List Z0):=none
theorem Z2i{data:List Z0}{a m b:Int}{r:List Z0}(h:Z0H data a m b=some r):data.length=r.length:=by cases h
theorem Z2y{I:World->Prop}(hI:Stab I){H:Nat->Option Blk}{nid i0:Nat}{u:Value}{data:List Z0}{a m b:Int}{r:List Z0}(h:Z0H data a m b=some r)(b0:H i0=some (.lrow u 64 7 (data.map Z0.d))) :
  Zi Tryz.prog I 169 [.own i0 data.length,.int .i64 a,.int .i64 m,.int .i64 b,.fn 103 []] H nid (.tup []) [(i0,some (.lrow u 64 7 (r.map Z0.d)))]:=by cases h
end Go.Proofs.YtobglplholhkcaaGreatDoor
