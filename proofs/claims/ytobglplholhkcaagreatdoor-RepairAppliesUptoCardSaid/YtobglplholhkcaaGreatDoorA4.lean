/- Texts of one proof, put together (Shelf, Gs, Base, Bld2, GB, EA, EB, EC, FwOw). No condition but those that each theorem states. -/
import Derived.Test.YtobglplholhkcaaGreatDoorA3
import Derived.Shelf.Strings.Builder1
import Derived.Shelf.Strings.BuilderF
import Derived.Shelf.Strings.BuilderK
import Derived.Shelf.Utf8.RuneCount
import Derived.Shelf.Strings.Search1
import Derived.Shelf.Strings.Search2
import Derived.Shelf.Strings.Search3
import Derived.Shelf.LaysM
import Derived.Shelf.Strings.Shaped
import Derived.Shelf.Strings.RuneCount
import Derived.Shelf.Strings.BuilderCap
import Derived.Shelf.Unicode.ValidAny
import Derived.Test.YtobglplholhkcaaGreatDoorProg
import Derived.Lib.RuneCount
import Derived.WalkKit
import Derived.WalkSpells
import Derived.WalkLawsBesides
import Derived.KernelRfl
import Derived.BigQuiet
import Derived.Deep.QuietTactic
import Derived.Deep.DeepCutAuto
import Derived.Deep.Draws
import Derived.Lib.Hide
import Derived.Lib.Builder
import Derived.Lib.AppendStr
set_option linter.unusedSimpArgs false
set_option linter.unusedVariables false
namespace Go.Proofs
open Go.Shelf
def Tryz.lays169_ren:Go.Shelf.Ren:=⟨fun|169=>130|n=>n,fun|70=>174|9=>9|0=>0|72=>177|37=>175|127=>203|3=>3|5=>5|n=>n,fun|n=>n⟩
theorem Tryz.lays169:Go.Proofs.Lays.n169 Tryz.prog Tryz.lays169_ren:={
 mixed:=by kernel_rfl
 f169:=Tryz.func130.trans (congrArg some (by kernel_rfl))
 t0:=Tryz.underlying0
 a0:=Tryz.isAgg0
 z0:=Tryz.sizeOf0
 v0:=Tryz.zeroValue0
 t3:=Tryz.underlying3
 a3:=Tryz.isAgg3
 z3:=Tryz.sizeOf3
 v3:=Tryz.zeroValue3
 t9:=Tryz.underlying9
 a9:=Tryz.isAgg9
 z9:=Tryz.sizeOf9
 v9:=Tryz.zeroValue9
 t37:=Tryz.underlying175
 a37:=Tryz.isAgg175
 z37:=Tryz.sizeOf175
 v37:=Tryz.zeroValue175
 t70:=Tryz.underlying174
 a70:=Tryz.isAgg174
 z70:=Tryz.sizeOf174
 v70:=Tryz.zeroValue174
 t72:=Tryz.underlying177
 a72:=Tryz.isAgg177
 z72:=Tryz.sizeOf177
 v72:=Tryz.zeroValue177
 t127:=Tryz.underlying203
 a127:=Tryz.isAgg203
 z127:=Tryz.sizeOf203
 v127:=Tryz.zeroValue203 }
theorem Tryz.Builder_Extra_169:Builder.Extra Tryz.prog Tryz.lays169_ren:={
 sizeBuilder:=by kernel_rfl
 liesBuilder:=by kernel_rfl
 t5:=Tryz.underlying5
 a5:=Tryz.isAgg5
 z5:=Tryz.sizeOf5
 v5:=Tryz.zeroValue5
 infoByte:=by kernel_rfl
 cellsByte:=by kernel_rfl
 sizeByte:=by kernel_rfl
 neB5:=by decide }
open Go.RowKit in
def Tryz.lays195_ren:Go.Shelf.Ren:=⟨fun|195=>178|n=>n,fun|9=>9|3=>3|0=>0|4=>4|n=>n,fun|n=>n⟩
theorem Tryz.lays195:Go.Proofs.Lays.n195 Tryz.prog Tryz.lays195_ren:={
 mixed:=by kernel_rfl
 f195:=Tryz.func178.trans (congrArg some (by kernel_rfl))
 t0:=Tryz.underlying0
 a0:=Tryz.isAgg0
 z0:=Tryz.sizeOf0
 v0:=Tryz.zeroValue0
 t3:=Tryz.underlying3
 a3:=Tryz.isAgg3
 z3:=Tryz.sizeOf3
 v3:=Tryz.zeroValue3
 t4:=Tryz.underlying4
 a4:=Tryz.isAgg4
 z4:=Tryz.sizeOf4
 v4:=Tryz.zeroValue4
 t9:=Tryz.underlying9
 a9:=Tryz.isAgg9
 z9:=Tryz.sizeOf9
 v9:=Tryz.zeroValue9 }
open Go.RowKit in
theorem Tryz.utf8_RuneCountInString (s:ByteArray) (w:World) (hs:s.size < 9223372036854775807) :
  Calls Tryz.prog 178 #[.string s] w fun e w'=>e=.returned (.int .i64 (Lib.runeCount s))∧∃ pos,w'=w.iter s pos:=Any.utf8_RuneCountInString Tryz.lays195 s w hs
def Tryz.lays144_ren:Go.Shelf.Ren:=⟨fun|144=>153|143=>173|219=>177|217=>180|225=>181|224=>182|267=>183|266=>184|314=>185|n=>n,fun|9=>9|4=>4|3=>3|5=>5|46=>147|146=>217|51=>216|n=>n,fun|1=>2|n=>n⟩
theorem Tryz.lays144:Go.Proofs.Lays.n144 Tryz.prog Tryz.lays144_ren:={
 mixed:=by kernel_rfl
 f143:=Tryz.func173.trans (congrArg some (by kernel_rfl))
 f144:=Tryz.func153.trans (congrArg some (by kernel_rfl))
 f217:=Tryz.func180.trans (congrArg some (by kernel_rfl))
 f219:=Tryz.func177.trans (congrArg some (by kernel_rfl))
 f224:=Tryz.func182.trans (congrArg some (by kernel_rfl))
 f225:=Tryz.func181.trans (congrArg some (by kernel_rfl))
 f266:=Tryz.func184.trans (congrArg some (by kernel_rfl))
 f267:=Tryz.func183.trans (congrArg some (by kernel_rfl))
 f314:=Tryz.func185.trans (congrArg some (by kernel_rfl))
 t3:=Tryz.underlying3
 a3:=Tryz.isAgg3
 z3:=Tryz.sizeOf3
 v3:=Tryz.zeroValue3
 t4:=Tryz.underlying4
 a4:=Tryz.isAgg4
 z4:=Tryz.sizeOf4
 v4:=Tryz.zeroValue4
 t5:=Tryz.underlying5
 a5:=Tryz.isAgg5
 z5:=Tryz.sizeOf5
 v5:=Tryz.zeroValue5
 t9:=Tryz.underlying9
 a9:=Tryz.isAgg9
 z9:=Tryz.sizeOf9
 v9:=Tryz.zeroValue9
 t46:=Tryz.underlying147
 a46:=Tryz.isAgg147
 z46:=Tryz.sizeOf147
 v46:=Tryz.zeroValue147
 t51:=Tryz.underlying216
 a51:=Tryz.isAgg216
 z51:=Tryz.sizeOf216
 v51:=Tryz.zeroValue216
 t146:=Tryz.underlying217
 a146:=Tryz.isAgg217
 z146:=Tryz.sizeOf217
 v146:=Tryz.zeroValue217
 g1:=by kernel_rfl }
open Go.RowKit Go.Lib in
theorem Tryz.strings_Contains (s sub:ByteArray) (m:Int) (w:World) (hs:s.size < 4294967281) (hm:w.cell? ⟨2,0,none⟩=some (.int .i64 m)) :
  Calls Tryz.prog 153 #[.string s,.string sub] w fun e w'=>e=.returned (.bool (Lib.contains s.data.toList sub.data.toList))∧w'=w:=Any.strings_Contains Tryz.lays144 s sub m w hs hm
def Tryz.laysValid_ren:Go.Shelf.Ren:=⟨fun|196=>119|259=>159|n=>n,fun|9=>9|4=>4|3=>3|5=>5|12=>12|119=>197|0=>0|46=>147|139=>200|138=>199|53=>211|n=>n,fun|3=>0|4=>1|n=>n⟩
theorem Tryz.laysValid:Go.Proofs.Lays.n196 Tryz.prog Tryz.laysValid_ren:={
 mixed:=by kernel_rfl
 f196:=Tryz.func119.trans (congrArg some (by kernel_rfl))
 f259:=Tryz.func159.trans (congrArg some (by kernel_rfl))
 t0:=Tryz.underlying0
 a0:=Tryz.isAgg0
 z0:=Tryz.sizeOf0
 v0:=Tryz.zeroValue0
 t3:=Tryz.underlying3
 a3:=Tryz.isAgg3
 z3:=Tryz.sizeOf3
 v3:=Tryz.zeroValue3
 t4:=Tryz.underlying4
 a4:=Tryz.isAgg4
 z4:=Tryz.sizeOf4
 v4:=Tryz.zeroValue4
 t5:=Tryz.underlying5
 a5:=Tryz.isAgg5
 z5:=Tryz.sizeOf5
 v5:=Tryz.zeroValue5
 t9:=Tryz.underlying9
 a9:=Tryz.isAgg9
 z9:=Tryz.sizeOf9
 v9:=Tryz.zeroValue9
 t12:=Tryz.underlying12
 a12:=Tryz.isAgg12
 z12:=Tryz.sizeOf12
 v12:=Tryz.zeroValue12
 t46:=Tryz.underlying147
 a46:=Tryz.isAgg147
 z46:=Tryz.sizeOf147
 v46:=Tryz.zeroValue147
 t53:=Tryz.underlying211
 a53:=Tryz.isAgg211
 z53:=Tryz.sizeOf211
 v53:=Tryz.zeroValue211
 t119:=Tryz.underlying197
 a119:=Tryz.isAgg197
 z119:=Tryz.sizeOf197
 t138:=Tryz.underlying199
 a138:=Tryz.isAgg199
 z138:=Tryz.sizeOf199
 v138:=Tryz.zeroValue199
 t139:=Tryz.underlying200
 a139:=Tryz.isAgg200
 z139:=Tryz.sizeOf200
 v139:=Tryz.zeroValue200
 g3:=by kernel_rfl
 g4:=by kernel_rfl }
open Go.RowKit in
theorem Tryz.utf8_ValidString (s:ByteArray) (w:World) (hs:s.size≤9223372036854775807) (hT:Lib.Utf8Tabs 0 1 w) :
  Calls Tryz.prog 119 #[.string s] w fun e w'=>e=.returned (.bool (Lib.validD s.data.toList))∧Below w.heap.size w w':=Any.utf8_ValidString Tryz.laysValid s w hs hT
end Go.Proofs
namespace Go.Proofs.YtobglplholhkcaaGreatDoor
open Go.RowKit
set_option maxRecDepth 100000
def U8T (w:World):Prop:=Lib.Utf8Tabs 0 1 w
def g_unicode_utf8_ValidString (s:List UInt8):Option Bool:=some (Lib.validD s)
theorem a_unicode_utf8_ValidString (I:World→Prop) (hI:Stab I) (hU8T:∀ w,I w→U8T w) (s:List UInt8) {r:Bool} (h:g_unicode_utf8_ValidString s=some r):AFun Tryz.prog I 119 [.str s] (.bool r):=by
 obtain rfl:=Option.some.inj h
 refine AFun.of_calls (v:=.bool (Lib.validD s)) (by kernel_rfl) (fun w F=>.bool _) ?_
 intro w F args hIw _ hl hr
 match args,hl with
 | [v],_ =>
  obtain⟨rfl,hm⟩:=rep_str1 (hr 0 v _ rfl rfl)
  exact Tryz.utf8_ValidString ⟨s.toArray⟩ w (by rw[bsize];unfold maxLen at hm;omega) (hU8T w hIw)
def g_unicode_utf8_RuneCountInString (s:List UInt8):Option Int:=if s.length < 9223372036854775807 then some (Lib.runeCountL s:Int) else none
theorem runeCountFrom_le (s:ByteArray):∀ (fuel pos:Nat),Lib.runeCountFrom s fuel pos≤fuel:=by
 intro fuel
 induction fuel with
 | zero=>intro pos;simp[Lib.runeCountFrom]
 | succ n ih =>
  intro pos
  simp only[Lib.runeCountFrom]
  split
  ·have:=ih (pos+(Utf8.decode s pos).2);omega
  ·omega
theorem a_unicode_utf8_RuneCountInString (I:World→Prop) (hI:Stab I) (s:List UInt8) {r:Int} (h:g_unicode_utf8_RuneCountInString s=some r):AFun Tryz.prog I 178 [.str s] (.int .i64 r):=by
 obtain⟨hs,h⟩:=ite_on h
 obtain rfl:=Option.some.inj h
 refine AFun.of_calls (v:=.int .i64 (Lib.runeCountL s:Int)) (by kernel_rfl) (fun w F=>.int _ _ ?_) ?_
 ·have:=runeCountFrom_le ⟨s.toArray⟩ (⟨s.toArray⟩:ByteArray).size 0
  rw[bsize] at this
  unfold Lib.runeCountL Lib.runeCount inR;simp only[kLo,kHi];rw[bsize];omega
 ·intro w F args hIw _ hl hr
  match args,hl with
  | [v],_ =>
   obtain⟨rfl,hm⟩:=rep_str1 (hr 0 v _ rfl rfl)
   refine(Tryz.utf8_RuneCountInString ⟨s.toArray⟩ w (by rw[bsize];exact hs)).mono ?_
   rintro e w' ⟨rfl,pos,rfl⟩
   exact⟨rfl,rfl,rfl,rfl,by simp[World.iter],fun k hk=>Below.heap_alloc w _ k hk⟩
theorem cell_below {w w':World} {g:Nat} {v:Value} (h:w.cell? ⟨g,0,none⟩=some v) (hb:Below w.heap.size w w'):w'.cell? ⟨g,0,none⟩=some v:=by
 have hlt:g < w.heap.size:=by
  rcases Nat.lt_or_ge g w.heap.size with h1|h1
  ·exact h1
  ·simp[World.cell?,Array.getElem?_eq_none h1] at h
 rw[World.cell?_of_block (hb.block g hlt)]
 exact h
def Shp (w:World):Prop:=∃ m,w.cell? ⟨2,0,none⟩=some (.int .i64 m)
theorem stabShp:Stab Shp:=fun _ _ ⟨m,h⟩ hb=>⟨m,cell_below h hb⟩
def g_strings_Contains (s t:List UInt8):Option Bool:=if s.length < 4294967281 then some (Lib.contains s t) else none
theorem a_strings_Contains (I:World→Prop) (hI:Stab I) (hShp:∀ w,I w→Shp w) (s t:List UInt8) {r:Bool} (h:g_strings_Contains s t=some r):AFun Tryz.prog I 153 [.str s,.str t] (.bool r):=by
 obtain⟨hs,h⟩:=ite_on h
 obtain rfl:=Option.some.inj h
 refine AFun.of_calls (v:=.bool (Lib.contains s t)) (by kernel_rfl) (fun w F=>.bool _) ?_
 intro w F args hIw _ hl hr
 match args,hl with
 | [v,u],_ =>
  obtain⟨rfl,_⟩:=rep_str1 (hr 0 v _ rfl rfl)
  obtain⟨rfl,_⟩:=rep_str1 (hr 1 u _ rfl rfl)
  obtain⟨m,hm⟩:=hShp w hIw
  refine(Tryz.strings_Contains ⟨s.toArray⟩ ⟨t.toArray⟩ m w (by rw[bsize];exact hs) hm).mono ?_
  rintro e w' ⟨rfl,rfl⟩
  exact⟨rfl,Below.refl _ _⟩
def RdL {α:Type} (enc:α→List Value) (k:Nat) (w:World) (B:Nat) (A:Option Addr) (L:List α):Prop :=
 L=[]∨∃ b off,A=some ⟨b,off,none⟩∧b < B∧∀ i x,L[i]? = some x→∀ j v,(enc x)[j]? = some v→w.cell? ⟨b,off+i * k+j,none⟩=some v
section
variable {α:Type} {enc:α→List Value} {k:Nat} {w w':World} {B B':Nat} {A:Option Addr} {L:List α}
theorem RdL.nil:RdL enc k w B A []:=.inl rfl
theorem RdL.keep (h:RdL enc k w B A L) (hk:∀ p:Addr,p.block < B→w'.cell? p=w.cell? p):RdL enc k w' B A L:=by
 rcases h with h|⟨b,off,e,hb,hc⟩
 ·exact .inl h
 ·exact .inr ⟨b,off,e,hb,fun i x hx j v hv=>(hk _ hb).trans (hc i x hx j v hv)⟩
theorem RdL.below (h:RdL enc k w B A L) (hb:Below B w w'):RdL enc k w' B A L:=h.keep fun _ hp=>hb.cell hp
theorem RdL.of_own {base:Nat} {e:TypeId} {n c:Nat} {xs:List Value} (h:w.ownsRow base e k (.slice A n c) n xs) (hx:∀ i x,L[i]? = some x→∀ j v,(enc x)[j]? = some v→xs[i * k+j]? = some v) (hn:n=L.length):RdL enc k w w.heap.size A L:=by
 by_cases h0:L=[]
 ·exact .inl h0
 ·have hp:0 < n:=by rw[hn];exact List.length_pos_iff.2 h0
  rcases h.2 with⟨hv,h1⟩|⟨g,cap,cur,hv,hg,hh,_,_,_,_⟩
  ·omega
  ·have hA:A=some ⟨g,0,none⟩:=by injection hv
   subst hA
   refine .inr ⟨g,0,rfl,(h.lt g rfl).2,fun i x hi j v hv'=>?_⟩
   have:=h.cells (g:=g) rfl _ v (hx i x hi j v hv')
   rw[← this]
   congr 1
   unfold Addr.add
   split
   ·rename_i e0
    rw[show 0+i * k+j=0 by omega]
   ·simp
end
def encI (x:Int):List Value:=[.int .i64 x]
def RdI (w:World) (B:Nat) (A:Option Addr) (L:List Int):Prop:=RdL encI 1 w B A L
theorem RdI.below {w w':World} {B:Nat} {A:Option Addr} {L:List Int} (h:RdI w B A L) (hb:Below B w w'):RdI w' B A L:=RdL.below h hb
theorem ints_cells (P:List Int):∀ i x,P[i]? = some x→∀ j v,(encI x)[j]? = some v→(P.map (Value.int .i64))[i * 1+j]? = some v:=by
 intro i x h j v hv
 cases j with
 | zero=>simp[encI] at hv;subst hv;simp[h]
 | succ j=>simp[encI] at hv
theorem RdI.of_own {w:World} {base:Nat} {e:TypeId} {n c:Nat} {A:Option Addr} {P:List Int} (h:w.ownsRow base e 1 (.slice A n c) n (P.map (Value.int .i64))) (hn:n=P.length):RdI w w.heap.size A P :=
 RdL.of_own h (ints_cells P) hn
theorem bSize:(Tryz.prog.info? 177).map (·.size)=some 2:=by kernel_rfl
theorem bLies:liesAt Tryz.prog Tryz.prog.depth 177 (2 / Tryz.prog.cellsOf 177) 0 177 1=true:=by kernel_rfl
theorem byte_info:(Tryz.prog.info? 5).map (fun i=>(i.zero,i.size,i.bytes))=some (some (.int .u8 0),1,1):=by kernel_rfl
set_option maxHeartbeats 1000000 in
set_option maxRecDepth 100000 in
theorem copyCheck_used (b:Nat) (w:World) (h0:w.cell? ⟨b,0,none⟩=some (.pointer (some ⟨b,0,none⟩))) :
  Calls Tryz.prog 162 #[.pointer (some ⟨b,0,none⟩)] w fun e w'=>e=.returned (.tuple #[])∧w=w':=by
 obtain⟨j,hj,_⟩:=Option.map_eq_some_iff.1 bSize
 go_enter Tryz.func162,Tryz.ntmps162
 go_wp2
 rw[Lib.run_neq_ptr_same w _ Tryz.underlying174 hj]
 go_wp2
 go_end0
 exact⟨rfl,rfl⟩
set_option maxHeartbeats 1000000 in
set_option maxRecDepth 100000 in
theorem copyCheck_fresh (b:Nat) (w:World) (h0:w.cell? ⟨b,0,none⟩=some (.pointer none)) (hsh:w.shape? b=some (177,2)) (hfz:w.frozen? ⟨b,0,none⟩=false) :
  Calls Tryz.prog 162 #[.pointer (some ⟨b,0,none⟩)] w fun e w'=>e=.returned (.tuple #[])∧w.setCell ⟨b,0,none⟩ (.pointer (some ⟨b,0,none⟩))=w':=by
 obtain⟨j,hj,hjs⟩:=Option.map_eq_some_iff.1 bSize
 go_enter Tryz.func162,Tryz.ntmps162
 go_wp2
 rw[Lib.run_to_unsafe w ⟨b,0,none⟩ Tryz.underlying174 Tryz.underlying212 hj (by rw[hjs];decide) hsh (Nat.zero_lt_succ 1)]
 simp only[Result.andThen]
 rw[Oper.upon_value]
 go_wp2
 rw[run_callFunc_extern Tryz.func175 (by kernel_rfl) (by kernel_rfl) (by kernel_rfl) (e:=Extern.AbiNoEscape.same) (by kernel_rfl)]
 rw[Lib.run_noEscape]
 simp only[Result.andThen]
 rw[Oper.upon_value]
 go_wp2
 rw[Lib.run_from_unsafe w ⟨b,0,none⟩ Tryz.underlying212 Tryz.underlying174 hj hsh bLies]
 simp only[Result.andThen]
 rw[Oper.upon_value]
 go_wp2
 go_end0
 exact⟨rfl,rfl⟩
section
variable {P:Program} {w:World}
theorem append_str_where (t u ty e:TypeId) (i:TypeInfo) (ht:P.underlying t=some (.slice e)) (hu:P.underlying u=some .string) (hi:P.info? e=some i) (hz:i.zero=some (.int .u8 0)) (hsize:i.size=1) (hby:i.bytes=1)
  (v:Value) (n:Nat) (xs:List Value) (hown:w.ownsRow 0 e 1 v n xs) (s:ByteArray) (h63:n+s.size≤maxLen) (hbytes:n+s.size≤140737488355328) {v':Value} {w':World} (h:(Builtin.append_ #[t,u] ty #[v,.string s]).run P w=.ok v' w') :
  (∀ g,v'.ownBlock=some g→w.heap.size≤g)∨v'.ownBlock=v.ownBlock:=by
 have hsmall:n+s.size≤9223372036854775807:=by simp only[maxLen] at h63;omega
 have hxl:xs.length=n:=by simpa using hown.1
 rcases hown.2 with⟨rfl,rfl⟩|⟨g,cap,cur,rfl,hbg,hg,hnc,hcm,hcs,htake⟩
 ·by_cases hm:s.size=0
  ·have hf:=Lib.run_firstCells_string (P:=P) (w:=w) 1 s
   rw[hm] at hf
   have hr:(Builtin.append_ #[t,u] ty #[.slice none 0 0,.string s]).run P w=.ok (.slice none 0 0) w:=by
    simp[Builtin.append_,run_underlying ht,run_underlying hu,sizeOf,typeInfo,hi,hsize,Builtin.lenOf,hm,hf]
   rw[hr] at h
   injection h with h1 h2
   subst h1
   exact .inr rfl
  ·rw[run_append_nil_string (P:=P) w t u ty e i (.int .u8 0) ht hu hi hz s (by omega) (by omega) (by rw[hby];omega)] at h
   injection h with h1 h2
   subst h1
   exact .inl fun g hg=>by simp[Value.ownBlock] at hg;omega
 ·by_cases hroom:n+s.size≤cap
  ·have hcs':cur.size=cap:=by simpa using hcs
   rw[Lib.run_append_room_string (P:=P) w t u ty e i ht hu hi hsize g n cap cur hg s hroom (by omega)] at h
   injection h with h1 h2
   subst h1
   exact .inr rfl
  ·have holds:∀ j u,xs[j]? = some u→w.cell? ((⟨g,0,none⟩:Addr).add j)=some u:=hown.cells (g:=g) rfl
   rw[Lib.run_append_grow_string (P:=P) w t u ty e i (.int .u8 0) ht hu hi hz ⟨g,0,none⟩ n cap xs (by rw[hsize];simpa using hxl) holds s (by omega) (by omega) (by rw[hby];exact growslice_fits (by omega) (by omega))] at h
   injection h with h1 h2
   subst h1
   exact .inl fun g hg=>by simp[Value.ownBlock] at hg;omega
theorem wpList_append_str2 {ops:Array Oper} {rest:List Oper} {o:Oper} {a:Act} {Q:Exit→Act→World→Prop} (hgd:o.guard=none) (sl x:Operand) (t u:TypeId)
  (ho:o.op=.call { callee:=.builtin .append,args:=#[sl,x],argTypes:=#[t,u] }) (e:TypeId) (i:TypeInfo) (ht:P.underlying t=some (.slice e)) (hu:P.underlying u=some .string) (hi:P.info? e=some i) (hz:i.zero=some (.int .u8 0))
  (hsize:i.size=1) (hby:i.bytes=1) (v:Value) (n:Nat) (xs:List Value) (hs:a.eval sl=v) (hown:w.ownsRow 0 e 1 v n xs) (s:ByteArray) (hx:a.eval x=.string s) (h63:n+s.size≤maxLen) (hbytes:n+s.size≤140737488355328)
  (h:∀ v' w',w'.ownsRow 0 e 1 v' (n+s.size) (xs++Lib.strCells s)→w.grownBy w' v.ownBlock→((∀ g,v'.ownBlock=some g→w.heap.size≤g)∨v'.ownBlock=v.ownBlock)→wpList P ops Q rest (a.put o.dst v') w'):wpList P ops Q (o::rest) a w:=by
 refine wpList_plain hgd fun K hK=>?_
 obtain⟨v',w',hr,h2,h3,_⟩:=Lib.run_append_own_string (P:=P) w 0 t u o.type e i ht hu hi hz hsize hby v n xs hown s h63 hbytes (Nat.zero_le _)
 have hw:=append_str_where (P:=P) t u o.type e i ht hu hi hz hsize hby v n xs hown s h63 hbytes hr
 unfold Oper.wp execOp
 simp only[ho,resolve,invoke,builtin,Sem.run_bind,Sem.run_pure,Result.andThen_ok,List.map_toArray,List.map_cons,List.map_nil,hs,hx,hr]
 exact hK _ _ (h v' w' h2 h3 hw)
end
def BldAt (b:Nat) (v:Value) (w:World):Prop:=∃ p,(p=.pointer none∨p=.pointer (some ⟨b,0,none⟩))∧w.heap[b]? = some (.cells #[p,v] 177 (0,0))
theorem copyCheck_bld (b:Nat) (v:Value) (w:World) (h:BldAt b v w):Calls Tryz.prog 162 #[.pointer (some ⟨b,0,none⟩)] w fun e w'=>e=.returned (.tuple #[]) ∧
  w'.heap[b]? = some (.cells #[.pointer (some ⟨b,0,none⟩),v] 177 (0,0))∧w'.heap.size=w.heap.size∧w'.os=w.os∧w'.tape=w.tape∧w'.output=w.output∧∀ k,k≠b→w'.heap[k]? = w.heap[k]?:=by
 obtain⟨p,hp,hb⟩:=h
 rcases hp with rfl|rfl
 ·refine(copyCheck_fresh b w (by rw[Lib.cell_of_heap hb];rfl) (by simp[World.shape?,hb]) (Lib.frozen_of_heap hb 0)).mono ?_
  rintro e w' ⟨rfl,rfl⟩
  exact⟨rfl,by simp[World.setCell,Array.getElem?_modify,hb],by simp[World.setCell],rfl,rfl,rfl,fun k hk=>Below.heap_setCell w ⟨b,0,none⟩ _ k hk⟩
 ·refine(copyCheck_used b w (by rw[Lib.cell_of_heap hb];rfl)).mono ?_
  rintro e w' ⟨rfl,rfl⟩
  exact⟨rfl,hb,rfl,rfl,rfl,rfl,fun _ _=>rfl⟩
set_option maxHeartbeats 2000000 in
set_option maxRecDepth 100000 in
theorem writeStr (b:Nat) (v:Value) (bs:List Value) (s:ByteArray) (w:World) (h:BldAt b v w) (hown:w.ownsRow 0 5 1 v bs.length bs) (hne:v.ownBlock≠some b) (hlen:bs.length+s.size≤140737488355328) :
  Calls Tryz.prog 129 #[.pointer (some ⟨b,0,none⟩),.string s] w fun e w'=>e=.returned (.tuple #[.int .i64 s.size,.nilIface]) ∧
   ∃ v',w'.heap[b]? = some (.cells #[.pointer (some ⟨b,0,none⟩),v'] 177 (0,0))∧w'.ownsRow 0 5 1 v' (bs.length+s.size) (bs++Lib.strCells s)∧v'.ownBlock≠some b ∧
    ((∀ g,v'.ownBlock=some g→w.heap.size≤g)∨v'.ownBlock=v.ownBlock)∧BelM (fun k=>w.heap.size≤k∨k=b∨v.ownBlock=some k) w w':=by
 obtain⟨i0,hi,hz0,hz1,hz2⟩:=info_parts byte_info
 have hltb:b < w.heap.size:=by obtain⟨p,_,hb⟩:=h;exact(Array.getElem?_eq_some_iff.1 hb).1
 go_enter Tryz.func129,Tryz.ntmps129
 go_wp2_with (go_at_call 162;refine(copyCheck_bld b v _ h).mono ?_)
 rintro e w1 ⟨rfl,hbk,hsz,hos,htp,hou,ho1⟩
 have HO1:=Lib.hid ho1
 have HS:=Lib.hid hsz
 have HX:=Lib.hid (And.intro hos (And.intro htp hou))
 clear ho1 hsz hos htp hou
 have hown1:w1.ownsRow 0 5 1 v bs.length bs:=by
  refine⟨hown.1,?_⟩
  rcases hown.2 with h0|⟨g,cap,cur,h1,h2,h3,h4⟩
  ·exact .inl h0
  ·exact .inr ⟨g,cap,cur,h1,h2,(HO1.out g (fun e=>hne (by rw[h1,e];rfl))).trans h3,h4⟩
 have c0:w1.cell? ⟨b,0,none⟩=some (.pointer (some ⟨b,0,none⟩)):=by rw[Lib.cell_of_heap hbk];rfl
 have c1:w1.cell? ⟨b,1,none⟩=some v:=by rw[Lib.cell_of_heap hbk];rfl
 go_wp2_with (at_builtin;refine wpList_append_str2 rfl _ _ 175 9 rfl 5 i0 Tryz.underlying175 Tryz.underlying9 hi hz0 hz1 hz2 _ _ _ rfl hown1 s rfl ?c3 ?c4 ?_)
 case c3=>unfold maxLen;omega
 case c4=>omega
 intro v' w2 hown' hgrow hwh
 have hlt:b < w1.heap.size:=by rw[HS.out];exact hltb
 have hb2:w2.heap[b]? = some (.cells #[.pointer (some ⟨b,0,none⟩),v] 177 (0,0)):=by
  rw[hgrow.block b hlt (fun e=>hne e.symm)]
  exact hbk
 have d0:w2.cell? ⟨b,0,none⟩=some (.pointer (some ⟨b,0,none⟩)):=by rw[Lib.cell_of_heap hb2];rfl
 have d1:w2.cell? ⟨b,1,none⟩=some v:=by rw[Lib.cell_of_heap hb2];rfl
 have f1:w2.frozen? ⟨b,1,none⟩=false:=Lib.frozen_of_heap hb2 1
 have hne':v'.ownBlock≠some b:=by
  intro e
  rcases hwh with h1|h1
  ·have:=h1 b e;omega
  ·exact hne (h1 ▸ e)
 have HW:=Lib.hid hwh
 have HN:=Lib.hid hne'
 have HG:=Lib.hid hgrow
 clear hwh hne'
 obtain⟨ao,n',cap,rfl⟩:∃ ao n' cap,v'=.slice ao n' cap:=by
  rcases hown'.2 with⟨hv,_⟩|⟨g,cap,cur,hv,_⟩
  ·exact⟨_,_,_,hv⟩
  ·exact⟨_,_,_,hv⟩
 go_wp2
 go_ret2
 refine⟨rfl,.slice ao n' cap,?_,?_,HN.out,?_,?_⟩
 ·simp[World.setCell,Array.getElem?_modify,hb2]
 ·refine⟨hown'.1,?_⟩
  rcases hown'.2 with h0|⟨g,cap',cur,h1,h2,h3,h4⟩
  ·exact .inl h0
  ·exact .inr ⟨g,cap',cur,h1,h2,(Below.heap_setCell _ _ _ _ (fun e=>HN.out (by rw[h1,e];rfl))).trans h3,h4⟩
 ·rw[HS.out] at HW;exact HW.out
 ·have hX:=HX.out
  refine⟨HG.out.os.trans hX.1,HG.out.tape.trans hX.2.1,HG.out.output.trans hX.2.2,?_,fun k hk hm=>?_⟩
  ·have:=HG.out.size;rw[HS.out] at this;simpa[World.setCell] using this
  ·have hkb:k≠b:=fun e=>hm (.inr (.inl e))
   rw[Below.heap_setCell _ _ _ _ hkb,HG.out.block k (by rw[HS.out];exact hk) (fun e=>hm (.inr (.inr e.symm))),HO1.out k hkb]
def toI (l:List UInt8):List Int:=l.map fun b=>(b.toNat:Int)
theorem toI_length (l:List UInt8):(toI l).length=l.length:=by simp[toI]
theorem strCells_rep {w:World} {C:Cx} (s:List UInt8):RepL C w (Lib.strCells ⟨s.toArray⟩) (((toI s).map (D.int .u8)).flatMap D.cells):=by
 rw[flatU8]
 have e:Lib.strCells ⟨s.toArray⟩=s.map fun b=>Value.int .u8 b.toNat:=by simp[Lib.strCells]
 rw[e]
 refine⟨by simp[toI],fun v hv=>?_,fun i v d hv hd=>?_⟩
 ·obtain⟨b,_,rfl⟩:=List.mem_map.1 hv;rfl
 ·simp only[toI,List.getElem?_map] at hv hd
  cases hs:s[i]? with
  | none=>rw[hs] at hv;simp at hv
  | some b =>
   rw[hs] at hv hd
   simp at hv hd
   subst hv hd
   exact .int _ _ (by have:=b.toNat_lt;unfold inR;simp only[kLo,kHi];omega)
theorem flatU8_len (l:List Int):∀ x ∈ l.map (D.int .u8),x.cells.length=1:=by
 intro x hx;obtain⟨n,_,rfl⟩:=List.mem_map.1 hx;rfl
theorem sp_cases {w:World} {C:Cx} {v:Value} {id:Nat} (h:Rep w C v (.sp id)) {g:Nat} (hs:C.σ id=.pointer (some ⟨g,0,none⟩)):v=.pointer none∨v=.pointer (some ⟨g,0,none⟩):=by
 cases h with
 | sp0 _ _=>exact .inl rfl
 | sp1 _ g' _ h'=>rw[hs] at h';injection h' with h';injection h' with h';injection h' with h';subst h';exact .inr rfl
theorem bld_block {w:World} {C:Cx} {id g:Nat} {d:D} (hs:C.σ id=.pointer (some ⟨g,0,none⟩)) (h:BRep C w 0 id (.bbox 177 [.sp id,d])):∃ v,BldAt g v w∧Rep w C v d∧∀ o,¬ C.F g o:=by
 obtain⟨g',vs,q1,q2,q3,q4,q5⟩:=h
 rw[hs] at q1;injection q1 with q1;injection q1 with q1;injection q1 with q1
 subst q1
 have hl:=q4.len
 obtain⟨p,v,hvs⟩:∃ p v,vs=#[p,v]:=by
  obtain⟨l⟩:=vs
  match l,hl with
  | [p,v],_=>exact⟨p,v,rfl⟩
 subst hvs
 exact⟨v,⟨p,sp_cases (q4.rep 0 p _ rfl rfl) hs,q3⟩,q4.rep 1 v _ rfl rfl,q5⟩
theorem wrote (I:World→Prop) (id nid:Nat) (s:List UInt8) (l:List Int) (H:Nat→Option Blk) (d:D) (eff:Eff) (hid:H id=some (.bbox 177 [.sp id,d])) (hlen:l.length+s.length≤140737488355328) (hne:nid≠id)
  (hd:(d=.nils∧l=[]∧eff=[(nid,some (.vec 5 1 ((l++toI s).map (D.int .u8)) false)),(id,some (.bbox 177 [.sp id,.own nid (l.length+s.length)]))]) ∨
   ∃ id2,d=.own id2 l.length∧H id2=some (.vec 5 1 (l.map (D.int .u8)) false)∧id2≠id∧eff=[(id2,none),(nid,some (.vec 5 1 ((l++toI s).map (D.int .u8)) false)),(id,some (.bbox 177 [.sp id,.own nid (l.length+s.length)]))]) :
  CallOK Tryz.prog I 129 [.ptr id 0,.str s] H nid (.tup [.int .i64 s.length,.err false]) eff:=by
 refine⟨by kernel_rfl,fun i0 w C B args hI hb0 hM hH hF hbase hn hal hrep=>?_⟩
 obtain⟨a0,a1,rfl⟩:∃ a0 a1,args=[a0,a1]:=by
  match args,hal with
  | [a,b],_=>exact⟨a,b,rfl⟩
 have r0:=hrep 0 a0 _ rfl rfl
 have r1:=hrep 1 a1 _ rfl rfl
 clear hrep
 obtain⟨rfl,hsl⟩:=rep_str1 r1
 cases r0 with
 | ptr _ _ g hlid hσ =>
 obtain⟨k0,k1⟩:=hH.rep id _ hid
 obtain⟨v,hB,hv,hnoF⟩:=bld_block hσ k1
 have hgM:B.M g:=hH.own id _ hid g (by rw[hσ];rfl)
 have hglt:g < w.heap.size:=by obtain⟨p,_,hb⟩:=hB;exact(Array.getElem?_eq_some_iff.1 hb).1
 -- the row
 obtain⟨vals,hown,hvals,hvne,hvM,hvF⟩:∃ vals,w.ownsRow 0 5 1 v vals.length vals∧vals.length=l.length∧v.ownBlock≠some g∧(∀ k,v.ownBlock=some k→B.M k)∧(∀ k o,v.ownBlock=some k→¬ C.F k o):=by
  rcases hd with⟨rfl,rfl,_⟩|⟨id2,rfl,h2,h3,_⟩
  ·cases hv
   exact⟨[],World.ownsRow_nil _ _ _ _,rfl,by simp[Value.ownBlock],by simp[Value.ownBlock],by simp[Value.ownBlock]⟩
  ·cases hv with
   | own _ _ c A hl2 hm2 hσ2 =>
    obtain⟨_,vals,q1,q2,q3,q4⟩:=hH.rep id2 _ h2
    rw[hσ2] at q1
    have hvl:vals.length=l.length:=by have:=q1.1;simpa using this
    refine⟨vals,by rw[hvl];simpa using q1,hvl,fun e=>?_,fun k hk=>hH.own id2 _ h2 k (by rw[hσ2,blockOf_own];exact hk),fun k o hk hF'=>?_⟩
    ·exact hH.apart id2 id _ _ h2 hid h3 g (by rw[hσ2,blockOf_own];exact e) (by rw[hσ];rfl)
    ·have:=((q4 k (by rw[hσ2];exact hk)).1 o hF').1;cases this
 have hssz:(⟨s.toArray⟩:ByteArray).size=s.length:=bsize s
 refine(writeStr g v vals ⟨s.toArray⟩ w hB hown hvne (by rw[hvals,hssz];exact hlen)).mono ?_
 rintro e w' ⟨rfl,v',e1,e2,e3,e4,e5⟩
 rw[hssz,hvals] at e2
 have hbel:BelM B.M w w':=⟨e5.os,e5.tape,e5.output,e5.size,fun k hk hm=>e5.block k hk (by
  rintro(h|h|h)
  ·omega
  ·exact hm (h ▸ hgM)
  ·exact hm (hvM k h))⟩
 -- outside the two blocks nothing has changed
 have hout:∀ k,k < w.heap.size→k≠g→v.ownBlock≠some k→w'.heap[k]? = w.heap[k]?:=fun k hk h1 h2=>e5.block k hk (by rintro(h|h|h);omega;exact h1 h;exact h2 h)
 have hFk:∀ b o,C.F b o→w'.heap[b]? = w.heap[b]?:=fun b o hb=>hout b (hF b o hb) (fun e=>hnoF o (e ▸ hb)) (fun e=>hvF b o e hb)
 have ee:=Cx.new_ext (C:=C) (w:=w) (w':=w') hn v' hFk
 have hs2:(C.new nid v').σ nid=v':=by simp[Cx.new,upd]
 have hσ':(C.new nid v').σ id=.pointer (some ⟨g,0,none⟩):=by rw[ee.σ id hlid];exact hσ
 obtain⟨A',c',rfl⟩:∃ A' c',v'=.slice A' (l.length+s.length) c':=by
  rcases e2.2 with⟨h1,h2⟩|⟨g',cap,cur,h1,_⟩
  ·exact⟨none,0,by rw[h1,h2]⟩
  ·exact⟨_,_,h1⟩
 have hlm:l.length+s.length≤maxLen:=by unfold maxLen;omega
 have hnewF:∀ k,(Value.slice A' (l.length+s.length) c').ownBlock=some k→∀ o,¬ C.F k o:=by
  intro k hk o hb
  rcases e4 with h|h
  ·have:=h k hk;have:=hF k o hb;omega
  ·exact hvF k o (h ▸ hk) hb
 -- the row's new block stands for the new list
 have hvec:∀ (q3:RepL (cF C.F) w vals ((l.map (D.int .u8)).flatMap D.cells)),BRep (C.new nid (.slice A' (l.length+s.length) c')) w' 0 nid (.vec 5 1 ((l++toI s).map (D.int .u8)) false):=by
  intro q3
  refine⟨vals++Lib.strCells ⟨s.toArray⟩,?_,flatU8_len _,?_,?_⟩
  ·rw[hs2];simpa[toI_length] using e2
  ·rw[List.map_append,List.flatMap_append]
   exact(q3.ext ee.cF).append (strCells_rep s)
  ·intro k hk
   rw[hs2] at hk
   exact⟨fun o ho=>absurd ho (hnewF k hk o),fun h=>by cases h⟩
 have hbox:BRep (C.new nid (.slice A' (l.length+s.length) c')) w' 0 id (.bbox 177 [.sp id,.own nid (l.length+s.length)]):=by
  refine⟨g,#[.pointer (some ⟨g,0,none⟩),.slice A' (l.length+s.length) c'],hσ',Nat.zero_le _,e1,?_,hnoF⟩
  have x1:Rep w' (C.new nid (.slice A' (l.length+s.length) c')) (.pointer (some ⟨g,0,none⟩)) (.sp id):=.sp1 id g (Or.inl hlid) hσ'
  have x2:Rep w' (C.new nid (.slice A' (l.length+s.length) c')) (.slice A' (l.length+s.length) c') (.own nid (l.length+s.length)):=.own nid _ c' A' (Or.inr rfl) hlm hs2
  exact(RepL.one1 rfl x1).append (RepL.one1 rfl x2)
 -- everything else is as it was
 have hrest:∀ j bj,j≠id→(∀ k,blockOf (C.σ j)=some k→v.ownBlock≠some k)→H j=some bj→(C.new nid (.slice A' (l.length+s.length) c')).live j∧BRep (C.new nid (.slice A' (l.length+s.length) c')) w' 0 j bj:=by
  intro j bj hj hv hb
  obtain⟨h1,h2⟩:=hH.rep j bj hb
  exact⟨.inl h1,h2.keep h1 ee (fun k hk=>hout k (h2.lt k hk).2 (fun e=>hH.apart j id _ _ hb hid hj k hk (by rw[hσ,e];rfl)) (hv k hk)) (fun k o _ h=>h)⟩
 have hrepr:Rep w' (C.new nid (.slice A' (l.length+s.length) c')) (.tuple #[.int .i64 ((⟨s.toArray⟩:ByteArray).size:Int),.nilIface]) (.tup [.int .i64 s.length,.err false]):=by
  rw[hssz]
  refine .tup [.int .i64 s.length,.nilIface] _ rfl ?_
  intro i v d hv hd
  match i with
  | 0=>simp at hv hd;subst hv hd;exact .int _ _ (by unfold inR;simp only[kLo,kHi];omega)
  | 1=>simp at hv hd;subst hv hd;exact .err0
  | i+2=>simp at hv
 have hdead:∀ b,H nid≠some b:=fun b hb=>hn (hH.rep nid b hb).1
 have hfin:∀ H',(∀ j,j≠id→j≠nid→∀ b,H' j=some b→H j=some b∧∀ k,blockOf (C.σ j)=some k→v.ownBlock≠some k)→H' nid=some (.vec 5 1 ((l++toI s).map (D.int .u8)) false)→H' id=some (.bbox 177 [.sp id,.own nid (l.length+s.length)]) →
   RepL (cF C.F) w vals ((l.map (D.int .u8)).flatMap D.cells)→HOK (C.new nid (.slice A' (l.length+s.length) c')) w' B H':=by
  intro H' hold hnew hnb q3
  have bσ:∀ j b,j≠id→j≠nid→H' j=some b→(C.new nid (.slice A' (l.length+s.length) c')).σ j=C.σ j:=fun j b h1 h2 h3=>ee.σ j (hH.rep j b (hold j h1 h2 b h3).1).1
  have bnid:∀ k,blockOf (Value.slice A' (l.length+s.length) c')=some k→w.heap.size≤k∨v.ownBlock=some k:=by
   intro k hk
   rw[blockOf_own] at hk
   rcases e4 with h|h
   ·exact .inl (h k hk)
   ·exact .inr (h ▸ hk)
  have apn:∀ j b,j≠id→j≠nid→H' j=some b→∀ k,blockOf (C.σ j)=some k→blockOf (Value.slice A' (l.length+s.length) c')≠some k:=by
   intro j b h1 h2 h3 k hk hk2
   obtain⟨h4,h5⟩:=hold j h1 h2 b h3
   rcases bnid k hk2 with h|h
   ·have:=((hH.rep j b h4).2.lt k hk).2;omega
   ·exact h5 k hk h
  have apb:∀ j b,j≠id→j≠nid→H' j=some b→∀ k,blockOf (C.σ j)=some k→k≠g:=by
   intro j b h1 h2 h3 k hk e
   exact hH.apart j id b _ (hold j h1 h2 b h3).1 hid h1 k hk (by rw[hσ,e];rfl)
  have apnb:∀ k,blockOf (Value.slice A' (l.length+s.length) c')=some k→k≠g:=by
   intro k hk e
   rcases bnid k hk with h|h
   ·omega
   ·exact hvne (e ▸ h)
  refine⟨fun j b hj=>?_,fun j b hj k hk=>?_,fun j k cs hj=>?_,fun j j' b b' hj hj' hjj k hk hk'=>?_⟩
  ·by_cases h1:j=id
   ·subst h1;rw[hnb] at hj;injection hj with hj;subst hj;exact⟨.inl hlid,hbox⟩
   ·by_cases h2:j=nid
    ·subst h2;rw[hnew] at hj;injection hj with hj;subst hj;exact⟨.inr rfl,hvec q3⟩
    ·obtain⟨h3,h4⟩:=hold j h1 h2 b hj
     exact hrest j b h1 h4 h3
  ·by_cases h1:j=id
   ·subst h1;rw[hσ'] at hk;simp[blockOf] at hk;subst hk;exact hgM
   ·by_cases h2:j=nid
    ·subst h2
     rw[hs2] at hk
     rcases bnid k hk with h|h
     ·exact hbase k h
     ·exact hvM k h
    ·rw[bσ j b h1 h2 hj] at hk
     exact hH.own j b (hold j h1 h2 b hj).1 k hk
  ·by_cases h1:j=id
   ·subst h1;rw[hnb] at hj;cases hj
   ·by_cases h2:j=nid
    ·subst h2;rw[hnew] at hj;cases hj
    ·rw[bσ j _ h1 h2 hj];exact hH.pin j k cs (hold j h1 h2 _ hj).1
  ·by_cases h1:j=id
   ·subst h1
    rw[hσ'] at hk;simp[blockOf] at hk;subst hk
    by_cases h2:j'=nid
    ·subst h2;rw[hs2] at hk';exact apnb _ hk' rfl
    ·rw[bσ j' b' (fun e=>hjj e.symm) h2 hj'] at hk'
     exact apb j' b' (fun e=>hjj e.symm) h2 hj' _ hk' rfl
   ·by_cases h2:j=nid
    ·subst h2
     rw[hs2] at hk
     by_cases h3:j'=id
     ·subst h3;rw[hσ'] at hk';simp[blockOf] at hk';subst hk';exact apnb _ hk rfl
     ·rw[bσ j' b' h3 (fun e=>hjj e.symm) hj'] at hk'
      exact apn j' b' h3 (fun e=>hjj e.symm) hj' k hk' hk
    ·rw[bσ j b h1 h2 hj] at hk
     by_cases h3:j'=id
     ·subst h3;rw[hσ'] at hk';simp[blockOf] at hk';subst hk';exact apb j b h1 h2 hj _ hk rfl
     ·by_cases h4:j'=nid
      ·subst h4;rw[hs2] at hk';exact apn j b h1 h2 hj k hk hk'
      ·rw[bσ j' b' h3 h4 hj'] at hk'
       exact hH.apart j j' b b' (hold j h1 h2 b hj).1 (hold j' h3 h4 b' hj').1 hjj k hk hk'
 refine⟨_,C.new nid (.slice A' (l.length+s.length) c'),rfl,hbel,ee,hrepr,?_,fun b o h=>Nat.lt_of_lt_of_le (hF b o h) e5.size,fun _ h=>h,fun _ _ h=>.inl h⟩
 rcases hd with⟨rfl,rfl,rfl⟩|⟨id2,rfl,h2,h3,rfl⟩
 ·cases hv
  have hvn:vals=[]:=List.eq_nil_of_length_eq_zero hvals
  refine hfin _ (fun j h1 h2 b hb=>?_) (by simp[appEff,upd,hne]) (by simp[appEff,upd]) (by rw[hvn];exact RepL.nil)
  simp[appEff,upd,h1,h2] at hb
  exact⟨hb,by simp[Value.ownBlock]⟩
 ·cases hv with
  | own _ _ c A hl2 hm2 hσ2 =>
   obtain⟨_,vals2,q1,q2,q3,q4⟩:=hH.rep id2 _ h2
   rw[hσ2] at q1
   have hn2:nid≠id2:=fun e=>hdead _ (e ▸ h2)
   have hvv:vals2=vals:=by
    rcases q1.2 with⟨r1,r2⟩|⟨g1,cap1,cur1,r1,r2,r3,r4,r5,r6,r7⟩
    ·have r2':l.length=0:=by simpa using r2
     rw[List.eq_nil_of_length_eq_zero (l:=vals) (by omega),List.eq_nil_of_length_eq_zero (l:=vals2) (by have:=q1.1;simp at this;omega)]
    ·rcases hown.2 with⟨t1,t2⟩|⟨g2,cap2,cur2,t1,t2,t3,t4,t5,t6,t7⟩
     ·rw[t1] at r1;cases r1
     ·rw[r1] at t1;injection t1 with t1 _ _;injection t1 with t1;injection t1 with t1
      subst t1
      rw[r3] at t3;injection t3 with t3;injection t3 with t3
      subst t3
      rw[← r7,← t7];simp[hvals]
   refine hfin _ (fun j h1 h2' b hb=>?_) (by simp[appEff,upd,hne]) (by simp[appEff,upd]) (by rw[← hvv];exact q3)
   by_cases hj2:j=id2
   ·subst hj2;simp[appEff,upd,h1,h2'] at hb
   ·simp[appEff,upd,h1,h2',hj2] at hb
    exact⟨hb,fun k hk hk2=>hH.apart j id2 _ _ hb h2 hj2 k hk (by rw[hσ2,blockOf_own];exact hk2)⟩
theorem c_WriteString1 (I:World→Prop) {id nid id2 n:Nat} {s:List UInt8} {l:List Int} {H:Nat→Option Blk} (hid:H id=some (.bbox 177 [.sp id,.own id2 n])) (h2:H id2=some (.vec 5 1 (l.map (D.int .u8)) false)) (hn:n=l.length) (hlen:l.length+s.length≤140737488355328) (hne:nid≠id) :
  CallOK Tryz.prog I 129 [.ptr id 0,.str s] H nid (.tup [.int .i64 s.length,.err false]) [(id2,none),(nid,some (.vec 5 1 ((l++toI s).map (D.int .u8)) false)),(id,some (.bbox 177 [.sp id,.own nid (l++toI s).length]))]:=by
 subst hn
 exact wrote I id nid s l H _ _ hid hlen hne (.inr ⟨id2,rfl,h2,fun e=>(by rw[e,hid] at h2;cases h2),by simp[toI_length]⟩)
set_option maxHeartbeats 2000000 in
theorem bldString_row (b g cap:Nat) (p:Value) (cur:Array Value) (l:List UInt8) (w:World) (h0:l≠[]) (hbk:w.heap[b]? = some (.cells #[p,.slice (some ⟨g,0,none⟩) l.length cap] 177 (0,0)))
  (hown:w.ownsRow 0 5 1 (.slice (some ⟨g,0,none⟩) l.length cap) l.length (Lib.byteCells l)) :
  Calls Tryz.prog 130 #[.pointer (some ⟨b,0,none⟩)] w fun e w'=>e=.returned (.string ⟨l.toArray⟩)∧BelM (fun k=>w.heap.size≤k∨k=g) w w':=by
 have hl0:l.length≠0:=by simpa using h0
 obtain⟨cur,hg,hnc,hcm,hcs⟩:∃ cur,w.heap[g]? = some (.cells cur 5 (0,0))∧l.length≤cap∧cap≤maxLen∧cur.size=cap * 1:=by
  rcases hown.2 with⟨_,hz⟩|⟨g',cap',cur,hv,_,h1,h2,h3,h4,_⟩
  ·exact absurd hz hl0
  ·injection hv with hv1 _ hv2;injection hv1 with hv1;injection hv1 with hv1
   subst hv1 hv2;exact⟨cur,h1,h2,h3,h4⟩
 have c1:w.drew.cell? ⟨b,1,none⟩=some (.slice (some ⟨g,0,none⟩) l.length cap):=by
  have:w.drew.heap[b]? = some (.cells #[p,.slice (some ⟨g,0,none⟩) l.length cap] 177 (0,0)):=hbk
  rw[Lib.cell_of_heap this];rfl
 have hSD:(Builtin.unsafeSliceData_ #[175] 203 #[.slice (some ⟨g,0,none⟩) l.length cap]).run Tryz.prog w.drew=.ok (.pointer (some ⟨g,0,none⟩)) w.drew :=
  Lib.run_unsafeSliceData_row _ _ _ _ _ _ (by omega)
 have hUS:(Builtin.unsafeString_ #[203,3] 9 #[.pointer (some ⟨g,0,none⟩),.int .i64 l.length]).run Tryz.prog w.drew=.ok (.string ⟨l.toArray⟩) (w.drew.freeze ⟨g,0,none⟩ l.length):=by
  refine Lib.run_unsafeString_row w.drew 203 3 9 5 Tryz.underlying203 (by kernel_rfl) g cur.size (by have hg':w.drew.heap[g]? = some (.cells cur 5 (0,0)):=hg;simp[World.shape?,hg']) l h0 (by omega) (by unfold maxLen at hcm;omega) ?_
  intro j x hx
  exact hown.cells (g:=g) rfl j (.int .u8 x.toNat) (by simp[Lib.byteCells,hx])
 have mixed:Tryz.prog.follows .mixedOrders=true:=by kernel_rfl
 have hbf:=Lib.below_freeze (Below.drew (Below.refl g w)) (p:=⟨g,0,none⟩) (Nat.le_refl _) l.length
 have hoth:∀ k,k≠g→(w.drew.freeze ⟨g,0,none⟩ l.length).heap[k]? = w.heap[k]?:=by
  intro k hk
  simp only[World.freeze,hl0,if_false]
  rw[Array.getElem?_modify]
  simp only[Ne.symm hk,if_false]
  rfl
 have HB:=Lib.hid (And.intro hbf hoth)
 clear hbf hoth
 go_enter Tryz.func130,Tryz.ntmps130
 go_wp2
 go_region_o
 all_goals (go_wp2;go_ret;exact⟨rfl,HB.out.1.os,HB.out.1.tape,HB.out.1.output,HB.out.1.size,fun k _ hm=>HB.out.2 k (fun e=>hm (.inr e))⟩)
theorem callString {P:Program} {C:Cx} {w w':World} {B:Bx} {H:Nat→Option Blk} {nid:Nat} {l:List UInt8} (hH:HOK C w B H) (hF:FB C w) (hb:Below w.heap.size w w') (hl:l.length≤maxLen) :
  ∃ v C',Ending.returned (.string ⟨l.toArray⟩)=.returned v∧BelM B.M w w'∧Ext C w C' w'∧Rep w' C' v (.str l)∧HOK C' w' B (appEff H [])∧FB C' w'∧(∀ id,C'.live id→C.live id∨id=nid)∧∀ b o,C'.F b o→C.F b o∨B.M b:=by
 have ee:Ext C w C w':=⟨fun _ _ h=>h,fun b o h=>hb.block b (hF b o h),fun _ h=>h,fun _ _=>rfl⟩
 refine⟨_,C,rfl,BelM.of hb,ee,.str l hl,⟨fun id b h=>?_,hH.own,hH.pin,hH.apart⟩,fun b o h=>Nat.lt_of_lt_of_le (hF b o h) hb.size,fun _ h=>.inl h,fun _ _ h=>.inl h⟩
 obtain⟨k1,k2⟩:=hH.rep id b h
 exact⟨k1,k2.keep k1 ee (fun g hg=>hb.block g (k2.lt g hg).2) (fun _ _ _ h=>h)⟩
theorem byteCells_toI {w:World} {C:Cx} {vals:List Value} {l:List Int} (h:RepL C w vals ((l.map (D.int .u8)).flatMap D.cells)):vals=Lib.byteCells (bytesOf l):=by
 rw[flatU8] at h
 have e:=repU8 h
 rw[e]
 simp only[Lib.byteCells,bytesOf,List.map_map]
 apply List.map_congr_left
 intro n hn
 obtain⟨i,hi⟩:=List.getElem?_of_mem hn
 have hv:vals[i]? = some (.int .u8 n):=by rw[e];simp[hi]
 have:=h.rep i _ (.int .u8 n) hv (by simp[hi])
 cases this with
 | int _ _ hr =>
  unfold inR at hr;simp only[kLo,kHi] at hr
  simp only[Function.comp,UInt8.toNat_ofNat']
  congr 1;omega
theorem c_String1 (I:World→Prop) {id nid id2 n:Nat} {l:List Int} {H:Nat→Option Blk} (hid:H id=some (.bbox 177 [.sp id,.own id2 n])) (h2:H id2=some (.vec 5 1 (l.map (D.int .u8)) false)) (hn:n=l.length) :
  CallOK Tryz.prog I 130 [.ptr id 0] H nid (.str (bytesOf l)) [(id2,none),(id,none)]:=by
 subst hn
 refine⟨by kernel_rfl,fun i0 w C B args hI hb0 hM hH hF hbase hn hal hrep=>?_⟩
 obtain⟨a0,rfl⟩:∃ a0,args=[a0]:=by
  match args,hal with
  | [a],_=>exact⟨a,rfl⟩
 have r0:=hrep 0 a0 _ rfl rfl
 cases r0 with
 | ptr _ _ g hlid hσ =>
 obtain⟨k0,k1⟩:=hH.rep id _ hid
 obtain⟨v,⟨p,hp,hB⟩,hv,hnoF⟩:=bld_block hσ k1
 have hdrop:HOK C w B (appEff H [(id2,none),(id,none)]):=(hH.drop id2).drop id
 have plain:∀ w',Below w.heap.size w w'→bytesOf l=[]→∃ v C',Ending.returned (.string ⟨#[]⟩)=.returned v∧BelM B.M w w'∧Ext C w C' w'∧Rep w' C' v (.str (bytesOf l))∧HOK C' w' B (appEff H [(id2,none),(id,none)])∧FB C' w'∧(∀ id,C'.live id→C.live id∨id=nid)∧∀ b o,C'.F b o→C.F b o∨B.M b:=by
  intro w' hb he
  rw[he]
  obtain⟨v,C',x⟩:=callString (P:=Tryz.prog) (l:=[]) (nid:=nid) hdrop hF hb (by simp)
  exact⟨v,C',x⟩
 cases hv with
 | own _ _ c A hl2 hm2 hσ2 =>
  obtain⟨_,vals,q1,q2,q3,q4⟩:=hH.rep id2 _ h2
  rw[hσ2] at q1
  have hvals:=byteCells_toI q3
  have hbl:(bytesOf l).length=l.length:=by simp[bytesOf]
  rcases q1.2 with⟨r1,r2⟩|⟨g1,cap1,cur1,r1,r2,r3,r4,r5,r6,r7⟩
  ·injection r1 with r1 _ r3
   subst r1 r3
   have hl0:l.length=0:=by simpa using r2
   rw[hl0] at hB
   refine(Any.Builder_String_nil Tryz.lays169 Tryz.Builder_Extra_169 w.heap.size g p w hB).mono ?_
   rintro e w' ⟨rfl,hb⟩
   exact plain w' hb (List.eq_nil_of_length_eq_zero (by omega))
  ·injection r1 with r1 _ r8
   subst r1 r8
   by_cases hl0:l.length=0
   ·rw[hl0] at hB
    by_cases hc0:c=0
    ·subst hc0
     refine(Any.Builder_String_noroom Tryz.lays169 Tryz.Builder_Extra_169 w.heap.size g g1 p cur1 w (Nat.le_refl _) hB r3).mono ?_
     rintro e w' ⟨rfl,hb⟩
     exact plain w' hb (List.eq_nil_of_length_eq_zero (by omega))
    ·refine(Any.Builder_String_room Tryz.lays169 Tryz.Builder_Extra_169 w.heap.size g g1 c p w hc0 hB).mono ?_
     rintro e w' ⟨rfl,hb⟩
     exact plain w' hb (List.eq_nil_of_length_eq_zero (by omega))
   ·have hb1:w.heap[g]? = some (.cells #[p,.slice (some ⟨g1,0,none⟩) (bytesOf l).length c] 177 (0,0)):=by rw[hbl];exact hB
    have ho1:w.ownsRow 0 5 1 (.slice (some ⟨g1,0,none⟩) (bytesOf l).length c) (bytesOf l).length (Lib.byteCells (bytesOf l)):=by rw[hbl,← hvals];simpa using q1
    refine(bldString_row g g1 c p cur1 (bytesOf l) w (fun e=>hl0 (by rw[← hbl,e];rfl)) hb1 ho1).mono ?_
    rintro e w' ⟨rfl,hb⟩
    have hg1M:B.M g1:=hH.own id2 _ h2 g1 (by rw[hσ2];rfl)
    have hnoF1:∀ o,¬ C.F g1 o:=fun o ho=>by have:=((q4 g1 (by rw[hσ2];rfl)).1 o ho).1;cases this
    have hsame:∀ k,k < w.heap.size→k≠g1→w'.heap[k]? = w.heap[k]?:=fun k hk h1=>hb.block k hk (by rintro(h|h);omega;exact h1 h)
    have ee:Ext C w C w':=⟨fun _ _ h=>h,fun b o h=>hsame b (hF b o h) (fun e=>hnoF1 o (e ▸ h)),fun _ h=>h,fun _ _=>rfl⟩
    have hbm:BelM B.M w w':=⟨hb.os,hb.tape,hb.output,hb.size,fun k hk hm=>hsame k hk (fun e=>hm (e ▸ hg1M))⟩
    refine⟨_,C,rfl,hbm,ee,.str _ (by rw[hbl];exact hm2),⟨fun j b h=>?_,hdrop.own,hdrop.pin,hdrop.apart⟩,fun b o h=>Nat.lt_of_lt_of_le (hF b o h) hb.size,fun _ h=>.inl h,fun _ _ h=>.inl h⟩
    by_cases h3:j=id
    ·subst h3;simp[appEff,upd] at h
    ·by_cases h4:j=id2
     ·subst h4;simp[appEff,upd,h3] at h
     ·have h5:H j=some b:=by simpa[appEff,upd,h3,h4] using h
      obtain⟨t1,t2⟩:=hH.rep j b h5
      exact⟨t1,t2.keep t1 ee (fun k hk=>hsame k (t2.lt k hk).2 (fun e=>hH.apart j id2 _ _ h5 h2 h4 k hk (by rw[hσ2,e];rfl))) (fun _ _ _ h=>h)⟩
set_option maxHeartbeats 10000000
structure T_timebase_rate where
 name_:List UInt8
 ticks_:Int
 nominal_:Int
 drop_:Bool
 deriving DecidableEq
def T_timebase_rate.d (x:T_timebase_rate):D:=.agg [.str x.name_,.int .i64 x.ticks_,.int .i64 x.nominal_,.bool x.drop_]
structure T_api_Region where
 Name:List UInt8
 Top:Int
 Height:Int
 Left:Int
 Width:Int
 Align:Int
 Bottom:Bool
 deriving DecidableEq
def T_api_Region.d (x:T_api_Region):D:=.agg [.str x.Name,.int .i64 x.Top,.int .i64 x.Height,.int .i64 x.Left,.int .i64 x.Width,.int .u8 x.Align,.bool x.Bottom]
structure T_api_Span where
 In:Int
 Out:Int
 deriving DecidableEq
def T_api_Span.d (x:T_api_Span):D:=.agg [.int .i64 x.In,.int .i64 x.Out]
structure T_api_Style where
 Color:Int
 Italic:Bool
 Underline:Bool
 deriving DecidableEq
def T_api_Style.d (x:T_api_Style):D:=.agg [.int .u8 x.Color,.bool x.Italic,.bool x.Underline]
structure T_api_Run where
 Text:List UInt8
 Style:T_api_Style
 Ruby:List UInt8
 deriving DecidableEq
def T_api_Run.d (x:T_api_Run):D:=.agg [.str x.Text,.int .u8 x.Style.Color,.bool x.Style.Italic,.bool x.Style.Underline,.str x.Ruby]
structure T_api_Row where
 Runs:List T_api_Run
 deriving DecidableEq
def T_api_Row.d (x:T_api_Row):D:=.agg [.sl (x.Runs.map T_api_Run.d)]
structure T_api_Event where
 ID:Int
 Span:T_api_Span
 Region:List UInt8
 Kind:Int
 Speaker:List UInt8
 Rows:List T_api_Row
 deriving DecidableEq
def T_api_Event.d (x:T_api_Event):D:=.agg [.int .i64 x.ID,.int .i64 x.Span.In,.int .i64 x.Span.Out,.str x.Region,.int .u8 x.Kind,.str x.Speaker,.sl (x.Rows.map T_api_Row.d)]
structure T_api_Comment where
 ID:Int
 Event:Int
 From:Int
 To:Int
 Author:List UInt8
 Text:List UInt8
 Done:Bool
 Lost:Bool
 deriving DecidableEq
def T_api_Comment.d (x:T_api_Comment):D:=.agg [.int .i64 x.ID,.int .i64 x.Event,.int .i64 x.From,.int .i64 x.To,.str x.Author,.str x.Text,.bool x.Done,.bool x.Lost]
structure T_api_Document where
 Title:List UInt8
 Lang:List UInt8
 Rate:Int
 Drop:Bool
 Last:Int
 Regions:List T_api_Region
 Events:List T_api_Event
 Comments:List T_api_Comment
 deriving DecidableEq
def T_api_Document.d (x:T_api_Document):D:=.agg [.str x.Title,.str x.Lang,.int .u8 x.Rate,.bool x.Drop,.int .i64 x.Last,.sl (x.Regions.map T_api_Region.d),.sl (x.Events.map T_api_Event.d),.sl (x.Comments.map T_api_Comment.d)]
structure T_api_Spot where
 Row:Int
 Col:Int
 Len:Int
 deriving DecidableEq
def T_api_Spot.d (x:T_api_Spot):D:=.agg [.int .i64 x.Row,.int .i64 x.Col,.int .i64 x.Len]
theorem dd_EA:(∀ x,T_timebase_rate.d x=.agg [.str x.name_,.int .i64 x.ticks_,.int .i64 x.nominal_,.bool x.drop_])∧(∀ x,T_api_Region.d x=.agg [.str x.Name,.int .i64 x.Top,.int .i64 x.Height,.int .i64 x.Left,.int .i64 x.Width,.int .u8 x.Align,.bool x.Bottom])∧(∀ x,T_api_Span.d x=.agg [.int .i64 x.In,.int .i64 x.Out])∧(∀ x,T_api_Style.d x=.agg [.int .u8 x.Color,.bool x.Italic,.bool x.Underline])∧(∀ x,T_api_Run.d x=.agg [.str x.Text,.int .u8 x.Style.Color,.bool x.Style.Italic,.bool x.Style.Underline,.str x.Ruby])∧(∀ x,T_api_Row.d x=.agg [.sl (x.Runs.map T_api_Run.d)])∧(∀ x,T_api_Event.d x=.agg [.int .i64 x.ID,.int .i64 x.Span.In,.int .i64 x.Span.Out,.str x.Region,.int .u8 x.Kind,.str x.Speaker,.sl (x.Rows.map T_api_Row.d)])∧(∀ x,T_api_Comment.d x=.agg [.int .i64 x.ID,.int .i64 x.Event,.int .i64 x.From,.int .i64 x.To,.str x.Author,.str x.Text,.bool x.Done,.bool x.Lost])∧(∀ x,T_api_Document.d x=.agg [.str x.Title,.str x.Lang,.int .u8 x.Rate,.bool x.Drop,.int .i64 x.Last,.sl (x.Regions.map T_api_Region.d),.sl (x.Events.map T_api_Event.d),.sl (x.Comments.map T_api_Comment.d)])∧(∀ x,T_api_Spot.d x=.agg [.int .i64 x.Row,.int .i64 x.Col,.int .i64 x.Len]):=⟨fun _=>rfl,fun _=>rfl,fun _=>rfl,fun _=>rfl,fun _=>rfl,fun _=>rfl,fun _=>rfl,fun _=>rfl,fun _=>rfl,fun _=>rfl⟩
def g_charset_place_s1 (s_0:List UInt8) (r_1:Int) (x7:Int × Nat):Option (Nx (Int × Nat) (Int ⊕ Unit)) :=
 (if(decide (x7.2 < s_0.length)) then(if((runeAt s_0 x7.2) == r_1) then(some (.out (.inl x7.1))) else(some (.go ((IntKind.i64.wrap (x7.1+1)),(x7.2+widthAt s_0 x7.2))))) else(some (.out (.inr ()))))
def g_charset_place (s_0:List UInt8) (r_1:Int):Option (Int) :=
 ((iter (g_charset_place_s1 s_0 r_1) (0,0)).bind fun e8=>(match e8 with|Sum.inl e8=>(some e8)|Sum.inr (e8)=>(some (-1))))
theorem a_charset_place {I:World→Prop} (hI:Stab I) {s_0:List UInt8} {r_1:Int} {r:Int} (h:g_charset_place s_0 r_1=some r):AFun Tryz.prog I 160 [.str s_0,.int .i32 r_1] (.int .i64 r):=by
 have dd:=dd_EA;have k:=True.intro;have q:=k;have rs:=Tryz.results160
 unfold g_charset_place at h
 refine .en hI Tryz.func160 Tryz.ntmps160 ?_
 refine xs<|rz ?_
 refine es<|xs<|rz ?_
 refine es<|xs<|xs<|rz ?_
 refine es<|xb ?_
 obtain⟨e8,h33,h⟩:=bs h
 refine rb_loop (fun x7=>⟨envL [(1,.int .i32 r_1),(5,.int .i64 x7.1),(9,.ptr 0 0)],heapL [(0,.iter s_0 x7.2)],1,19⟩) (fun w=>match w with|Sum.inl _=>.ret|Sum.inr (_)=>.exit 0) (fun w=>match w with|Sum.inl e8=>⟨envL [(4,.int .i64 e8)],heapL [],0,19⟩|Sum.inr (e8)=>⟨envL [],heapL [],0,19⟩) h33 (wk [(0,some 3)]) (by intro w;rcases w with w|w<;>simp) ?_ ?_
 ·clear h
  intro x7 y h
  unfold g_charset_place_s1 at h
  refine xs<|rK fun K23 RK23 hK23 gK23=>zz ?_
  rcases iK k h with⟨k,h⟩|⟨k,h⟩
  ·have k:=And.intro (of_decide_eq_true k.1) k.2
   refine zz ?_
   subst hK23 gK23
   refine es<|xs<|xt<|xk<|es<|xb<|xs<|rz ?_
   refine es<|xs<|xs<|rz ?_
   refine es ?_
   rcases iK k h with⟨k,h⟩|⟨k,h⟩
   ·refine xt<|xs<|rz ?_
    refine es<|xr<|er<|br ?_
    cases h
    exact en ⟨rfl,wk []⟩
   ·refine xf<|xk<|es<|rz ?_
    refine bn ?_
    cases h
    exact en ⟨rfl,wk []⟩
  ·have k:=And.intro (of_decide_eq_false k.1) k.2
   refine zz ?_
   subst hK23 gK23
   refine es<|xs<|xf<|xx<|ee ?_
   cases h
   exact en ⟨rfl,wk []⟩
 ·rcases e8 with e8|e8
  ·try dsimp only at h ⊢
   refine br<|er ?_
   cases h
   exact en fr
  ·try dsimp only at h ⊢
   refine bh<|es<|xs<|rz ?_
   refine es<|xr ?_
   cases h
   exact en fr
def g_charset_Index (r_0:Int):Option (Int) :=
 (((if(decide (32≤r_0)) then(some (decide (r_0≤126))) else(some false)):Option (Bool)).bind fun v5=>(if v5 then(some (IntKind.i64.wrap (IntKind.i32.wrap (r_0 - 32)))) else((g_charset_place [32,33,34,35,36,37,38,39,40,41,42,43,44,45,46,47,48,49,50,51,52,53,54,55,56,57,58,59,60,61,62,63,64,65,66,67,68,69,70,71,72,73,74,75,76,77,78,79,80,81,82,83,84,85,86,87,88,89,90,91,92,93,94,95,96,97,98,99,100,101,102,103,104,105,106,107,108,109,110,111,112,113,114,115,116,117,118,119,120,121,122,123,124,125,126,194,161,194,162,194,163,194,164,194,165,194,166,194,167,194,169,194,171,194,174,194,176,194,183,194,187,194,189,194,191,195,128,195,129,195,130,195,131,195,132,195,133,195,134,195,135,195,136,195,137,195,138,195,139,195,140,195,141,195,142,195,143,195,145,195,146,195,147,195,148,195,149,195,150,195,152,195,153,195,154,195,155,195,156,195,159,195,160,195,161,195,162,195,163,195,164,195,165,195,166,195,167,195,168,195,169,195,170,195,171,195,172,195,173,195,174,195,175,195,177,195,178,195,179,195,180,195,181,195,182,195,184,195,185,195,186,195,187,195,188,197,146,197,147,226,128,148,226,128,152,226,128,153,226,128,156,226,128,157,226,128,162,226,128,166,226,132,162,226,153,170] r_0).bind fun r16=>(some r16))))
theorem a_charset_Index {I:World→Prop} (hI:Stab I) {r_0:Int} {r:Int} (h:g_charset_Index r_0=some r):AFun Tryz.prog I 120 [.int .i32 r_0] (.int .i64 r):=by
 have dd:=dd_EA;have k:=True.intro;have q:=k;have rs:=Tryz.results120
 unfold g_charset_Index at h
 refine .en hI Tryz.func120 Tryz.ntmps120 ?_
 refine xs<|rz ?_
 refine es<|xs ?_
 obtain⟨v5,h8,h⟩:=bs h
 refine rb_cut (fun v5=>⟨envL [(0,.int .i32 r_0),(8,.bool v5)],heapL [],0,14⟩) h8 ?_ ?_
 ·clear h
  intro v5 h
  refine rK fun K6 RK6 hK6 gK6=>zz ?_
  rcases iK k h with⟨k,h⟩|⟨k,h⟩
  ·refine zz ?_
   subst hK6 gK6
   cases h
   exact en ⟨rfl,wk []⟩
  ·refine zz ?_
   subst hK6 gK6
   cases h
   exact en ⟨rfl,wk []⟩
 ·rcases iK k h with⟨k,h⟩|⟨k,h⟩
  ·refine xt<|xs<|rz ?_
   refine es<|xr<|er ?_
   cases h
   exact en fr
  ·refine xf<|xk<|es<|xs<|rK fun K15 RK15 hK15 gK15=>zz ?_
   obtain⟨r16,h17,h⟩:=bs h
   refine cw (a_charset_place hI h17)<|zz ?_
   subst hK15 gK15
   refine es<|xr ?_
   cases h
   exact en fr
def g_charset_Valid_s1 (s_0:List UInt8) (x12:Nat):Option (Nx (Nat) (Unit ⊕ Unit)) :=
 (if(decide (x12 < s_0.length)) then((g_charset_Index (runeAt s_0 x12)).bind fun r39=>(if(decide (r39 < 0)) then(some (.out (.inl ()))) else(some (.go (x12+widthAt s_0 x12))))) else(some (.out (.inr ()))))
def g_charset_Valid (s_0:List UInt8):Option (Bool) :=
 ((g_unicode_utf8_ValidString s_0).bind fun r7=>(if r7 then((iter (g_charset_Valid_s1 s_0) 0).bind fun e13=>(match e13 with|Sum.inl e13=>(some false)|Sum.inr (e13)=>(some true))) else(some false)))
theorem a_charset_Valid {I:World→Prop} (hI:Stab I) (hU8T:∀ w,I w→U8T w) {s_0:List UInt8} {r:Bool} (h:g_charset_Valid s_0=some r):AFun Tryz.prog I 75 [.str s_0] (.bool r):=by
 have dd:=dd_EA;have k:=True.intro;have q:=k;have rs:=Tryz.results75
 unfold g_charset_Valid at h
 refine .en hI Tryz.func75 Tryz.ntmps75 ?_
 refine xs<|rz ?_
 refine es<|xs<|xs<|rK fun K6 RK6 hK6 gK6=>zz ?_
 obtain⟨r7,h8,h⟩:=bs h
 refine cw (a_unicode_utf8_ValidString I hI hU8T s_0 h8)<|zz ?_
 subst hK6 gK6
 refine es ?_
 rcases iK k h with⟨k,h⟩|⟨k,h⟩
 ·refine xf<|xk<|es<|xs<|xs<|rz ?_
  refine es<|xb ?_
  obtain⟨e13,h44,h⟩:=bs h
  refine rb_loop (fun x12=>⟨envL [(9,.ptr 0 0)],heapL [(0,.iter s_0 x12)],1,16⟩) (fun w=>match w with|Sum.inl _=>.ret|Sum.inr (_)=>.exit 0) (fun w=>match w with|Sum.inl e13=>⟨envL [(2,.bool false)],heapL [],0,16⟩|Sum.inr (e13)=>⟨envL [],heapL [],0,16⟩) h44 (wk [(0,some 5)]) (by intro w;rcases w with w|w<;>simp) ?_ ?_
  ·clear h
   intro x12 y h
   unfold g_charset_Valid_s1 at h
   refine xs<|rK fun K31 RK31 hK31 gK31=>zz ?_
   rcases iK k h with⟨k,h⟩|⟨k,h⟩
   ·have k:=And.intro (of_decide_eq_true k.1) k.2
    refine zz ?_
    subst hK31 gK31
    refine es<|xs<|xt<|xk<|es<|xb<|xs<|rz ?_
    refine es<|xs<|rK fun K38 RK38 hK38 gK38=>zz ?_
    obtain⟨r39,h40,h⟩:=bs h
    refine cw (a_charset_Index hI h40)<|zz ?_
    subst hK38 gK38
    refine es ?_
    rcases iK k h with⟨k,h⟩|⟨k,h⟩
    ·refine xt<|xs<|rz ?_
     refine es<|xr<|br ?_
     cases h
     exact en ⟨rfl,wk []⟩
    ·refine xf<|xk<|bn ?_
     cases h
     exact en ⟨rfl,wk []⟩
   ·have k:=And.intro (of_decide_eq_false k.1) k.2
    refine zz ?_
    subst hK31 gK31
    refine es<|xs<|xf<|xx<|ee ?_
    cases h
    exact en ⟨rfl,wk []⟩
  ·rcases e13 with e13|e13
   ·try dsimp only at h ⊢
    refine br<|er ?_
    cases h
    exact en fr
   ·try dsimp only at h ⊢
    refine bh<|es<|xs<|rz ?_
    refine es<|xr ?_
    cases h
    exact en fr
 ·refine xt<|xs<|rz ?_
  refine es<|xr<|er ?_
  cases h
  exact en fr
def g_lines_Name_s1 (s_0:List UInt8) (x22:Int):Option (Nx (Int) (Unit ⊕ Unit)) :=
 (if(decide (x22 < (s_0.length:Int))) then((atI s_0 x22).bind fun b144=>(((if(decide ((b144.toNat:Int) < 65)) then(if(decide ((b144.toNat:Int) < 48)) then(if((b144.toNat:Int) != 95) then(some ((b144.toNat:Int) != 45)) else(some false)) else(if(decide (57 < (b144.toNat:Int))) then(if((b144.toNat:Int) != 95) then(some ((b144.toNat:Int) != 45)) else(some false)) else(some false))) else(if(decide (90 < (b144.toNat:Int))) then(if(decide ((b144.toNat:Int) < 48)) then(if((b144.toNat:Int) != 95) then(some ((b144.toNat:Int) != 45)) else(some false)) else(if(decide (57 < (b144.toNat:Int))) then(if((b144.toNat:Int) != 95) then(some ((b144.toNat:Int) != 45)) else(some false)) else(some false))) else(some false))):Option (Bool)).bind fun v157=>(if v157 then(some (.out (.inl ()))) else(some (.go (IntKind.i64.wrap (x22+1))))))) else(some (.out (.inr ()))))
def g_lines_Name (s_0:List UInt8):Option (Bool) :=
 (((if(decide ((s_0.length:Int) < 1)) then(some true) else(if(decide (16 < (s_0.length:Int))) then(some true) else((atI s_0 0).bind fun b13=>(if(decide ((b13.toNat:Int) < 65)) then(some true) else(some (decide (90 < (b13.toNat:Int)))))))):Option (Bool)).bind fun v9=>(if v9 then(some false) else((iter (g_lines_Name_s1 s_0) 0).bind fun e23=>(match e23 with|Sum.inl e23=>(some false)|Sum.inr (e23)=>(some true)))))
theorem a_lines_Name {I:World→Prop} (hI:Stab I) {s_0:List UInt8} {r:Bool} (h:g_lines_Name s_0=some r):AFun Tryz.prog I 73 [.str s_0] (.bool r):=by
 have dd:=dd_EA;have k:=True.intro;have q:=k;have rs:=Tryz.results73
 unfold g_lines_Name at h
 refine .en hI Tryz.func73 Tryz.ntmps73 ?_
 refine xs<|rz ?_
 refine es<|xs ?_
 obtain⟨v9,h16,h⟩:=bs h
 refine rb_cut (fun v9=>⟨envL [(0,.str s_0),(22,.bool v9)],heapL [],0,54⟩) h16 ?_ ?_
 ·clear h
  intro v9 h
  refine rK fun K10 RK10 hK10 gK10=>zz ?_
  rcases iK k h with⟨k,h⟩|⟨k,h⟩
  ·refine zz ?_
   subst hK10 gK10
   cases h
   exact en ⟨rfl,wk []⟩
  ·refine zz ?_
   rcases iK k h with⟨k,h⟩|⟨k,h⟩
   ·refine zz ?_
    subst hK10 gK10
    cases h
    exact en ⟨rfl,wk []⟩
   ·refine zz ?_
    obtain⟨b13,q,h⟩:=bK q h
    refine zz ?_
    rcases iK k h with⟨k,h⟩|⟨k,h⟩
    ·refine zz ?_
     subst hK10 gK10
     cases h
     exact en ⟨rfl,wk []⟩
    ·refine zz ?_
     subst hK10 gK10
     cases h
     exact en ⟨rfl,wk []⟩
 ·rcases iK k h with⟨k,h⟩|⟨k,h⟩
  ·refine xt<|xs<|rz ?_
   refine es<|xr<|er ?_
   cases h
   exact en fr
  ·refine xf<|xk<|es<|xs<|xs<|rz ?_
   refine es<|xb ?_
   obtain⟨e23,h174,h⟩:=bs h
   refine rb_loop (fun x22=>⟨envL [(0,.str s_0),(24,.int .i64 (s_0.length:Int)),(25,.int .i64 x22)],heapL [],0,54⟩) (fun w=>match w with|Sum.inl _=>.ret|Sum.inr (_)=>.exit 0) (fun w=>match w with|Sum.inl e23=>⟨envL [(2,.bool false)],heapL [],0,54⟩|Sum.inr (e23)=>⟨envL [],heapL [],0,54⟩) h174 (wk []) (by intro w;rcases w with w|w<;>simp) ?_ ?_
   ·clear h
    intro x22 y h
    unfold g_lines_Name_s1 at h
    refine xs<|rz ?_
    refine es<|xs ?_
    rcases iK k h with⟨k,h⟩|⟨k,h⟩
    ·refine xt<|xk<|es<|xs<|xb<|xs<|rz ?_
     refine es<|xs<|rK fun K143 RK143 hK143 gK143=>zz ?_
     obtain⟨b144,q,h⟩:=bK q h
     refine zz ?_
     subst hK143 gK143
     refine es ?_
     obtain⟨v157,h169,h⟩:=bs h
     refine rb_cut (fun v157=>⟨envL [(0,.str s_0),(24,.int .i64 (s_0.length:Int)),(25,.int .i64 x22),(52,.bool v157)],heapL [],0,54⟩) h169 ?_ ?_
     ·clear h
      intro v157 h
      refine rK fun K158 RK158 hK158 gK158=>zz ?_
      rcases iK k h with⟨k,h⟩|⟨k,h⟩
      ·refine zz ?_
       rcases iK k h with⟨k,h⟩|⟨k,h⟩
       ·refine zz ?_
        rcases iK k h with⟨k,h⟩|⟨k,h⟩
        ·refine zz ?_
         subst hK158 gK158
         cases h
         exact en ⟨rfl,wk []⟩
        ·refine zz ?_
         subst hK158 gK158
         cases h
         exact en ⟨rfl,wk []⟩
       ·refine zz ?_
        rcases iK k h with⟨k,h⟩|⟨k,h⟩
        ·refine zz ?_
         rcases iK k h with⟨k,h⟩|⟨k,h⟩
         ·refine zz ?_
          subst hK158 gK158
          cases h
          exact en ⟨rfl,wk []⟩
         ·refine zz ?_
          subst hK158 gK158
          cases h
          exact en ⟨rfl,wk []⟩
        ·refine zz ?_
         subst hK158 gK158
         cases h
         exact en ⟨rfl,wk []⟩
      ·refine zz ?_
       rcases iK k h with⟨k,h⟩|⟨k,h⟩
       ·refine zz ?_
        rcases iK k h with⟨k,h⟩|⟨k,h⟩
        ·refine zz ?_
         rcases iK k h with⟨k,h⟩|⟨k,h⟩
         ·refine zz ?_
          subst hK158 gK158
          cases h
          exact en ⟨rfl,wk []⟩
         ·refine zz ?_
          subst hK158 gK158
          cases h
          exact en ⟨rfl,wk []⟩
        ·refine zz ?_
         rcases iK k h with⟨k,h⟩|⟨k,h⟩
         ·refine zz ?_
          rcases iK k h with⟨k,h⟩|⟨k,h⟩
          ·refine zz ?_
           subst hK158 gK158
           cases h
           exact en ⟨rfl,wk []⟩
          ·refine zz ?_
           subst hK158 gK158
           cases h
           exact en ⟨rfl,wk []⟩
         ·refine zz ?_
          subst hK158 gK158
          cases h
          exact en ⟨rfl,wk []⟩
       ·refine zz ?_
        subst hK158 gK158
        cases h
        exact en ⟨rfl,wk []⟩
     ·rcases iK k h with⟨k,h⟩|⟨k,h⟩
      ·refine xt<|xs<|rz ?_
       refine es<|xr<|br<|er ?_
       cases h
       exact en ⟨rfl,wk []⟩
      ·refine xf<|xk<|bn<|es<|rz ?_
       cases h
       exact en ⟨rfl,wk []⟩
    ·refine xf<|xx<|ee ?_
     cases h
     exact en ⟨rfl,wk []⟩
   ·rcases e23 with e23|e23
    ·try dsimp only at h ⊢
     refine br<|er ?_
     cases h
     exact en fr
    ·try dsimp only at h ⊢
     refine bh<|es<|xs<|rz ?_
     refine es<|xr ?_
     cases h
     exact en fr
def g_timebase_of (r_0:Int):Option (T_timebase_rate) :=
 (if(decide (8≤(IntKind.i64.wrap r_0))) then(some (T_timebase_rate.mk [] 0 0 false)) else(if r_0 == 0 then(some (T_timebase_rate.mk [] 0 0 false)) else(if r_0 == 1 then(some (T_timebase_rate.mk [50,51,46,57,55,54] 5005 24 false)) else(if r_0 == 2 then(some (T_timebase_rate.mk [50,52] 5000 24 false)) else(if r_0 == 3 then(some (T_timebase_rate.mk [50,53] 4800 25 false)) else(if r_0 == 4 then(some (T_timebase_rate.mk [50,57,46,57,55] 4004 30 true)) else(if r_0 == 5 then(some (T_timebase_rate.mk [51,48] 4000 30 false)) else(if r_0 == 6 then(some (T_timebase_rate.mk [53,48] 2400 50 false)) else(if r_0 == 7 then(some (T_timebase_rate.mk [53,57,46,57,52] 2002 60 true)) else none)))))))))
theorem a_timebase_of {I:World→Prop} (hI:Stab I) {r_0:Int} {r:T_timebase_rate} (h:g_timebase_of r_0=some r):AFun Tryz.prog I 128 [.int .u8 r_0] (T_timebase_rate.d r):=by
 have dd:=dd_EA;have k:=True.intro;have q:=k;have rs:=Tryz.results128
 unfold g_timebase_of at h
 refine .en hI Tryz.func128 Tryz.ntmps128 ?_
 refine xs<|rz ?_
 refine es<|xs<|rz ?_
 refine es<|xs<|xs<|rz ?_
 refine es ?_
 rcases iK k h with⟨k,h⟩|⟨k,h⟩
 ·refine xt<|xs<|rz ?_
  refine es<|xr<|er ?_
  cases h
  exact en fr
 ·refine xf<|xk<|es<|xs<|rK fun K19 RK19 hK19 gK19=>zz ?_
  rcases ite_or h with⟨k20,h⟩|⟨_,h⟩
  ·have k:=And.intro (eq_of_beq k20) k
   refine zz ?_
   subst hK19 gK19
   refine es<|xr ?_
   cases h
   exact en fr
  ·rcases ite_or h with⟨k21,h⟩|⟨_,h⟩
   ·have k:=And.intro (eq_of_beq k21) k
    refine zz ?_
    subst hK19 gK19
    refine es<|xr ?_
    cases h
    exact en fr
   ·rcases ite_or h with⟨k22,h⟩|⟨_,h⟩
    ·have k:=And.intro (eq_of_beq k22) k
     refine zz ?_
     subst hK19 gK19
     refine es<|xr ?_
     cases h
     exact en fr
    ·rcases ite_or h with⟨k23,h⟩|⟨_,h⟩
     ·have k:=And.intro (eq_of_beq k23) k
      refine zz ?_
      subst hK19 gK19
      refine es<|xr ?_
      cases h
      exact en fr
     ·rcases ite_or h with⟨k24,h⟩|⟨_,h⟩
      ·have k:=And.intro (eq_of_beq k24) k
       refine zz ?_
       subst hK19 gK19
       refine es<|xr ?_
       cases h
       exact en fr
      ·rcases ite_or h with⟨k25,h⟩|⟨_,h⟩
       ·have k:=And.intro (eq_of_beq k25) k
        refine zz ?_
        subst hK19 gK19
        refine es<|xr ?_
        cases h
        exact en fr
       ·rcases ite_or h with⟨k26,h⟩|⟨_,h⟩
        ·have k:=And.intro (eq_of_beq k26) k
         refine zz ?_
         subst hK19 gK19
         refine es<|xr ?_
         cases h
         exact en fr
        ·rcases ite_or h with⟨k27,h⟩|⟨_,h⟩
         ·have k:=And.intro (eq_of_beq k27) k
          refine zz ?_
          subst hK19 gK19
          refine es<|xr ?_
          cases h
          exact en fr
         ·cases h
def g_timebase_Valid (r_0:Int):Option (Bool) :=
 ((g_timebase_of r_0).bind fun r7=>(some (decide (0 < r7.ticks_))))
theorem a_timebase_Valid {I:World→Prop} (hI:Stab I) {r_0:Int} {r:Bool} (h:g_timebase_Valid r_0=some r):AFun Tryz.prog I 86 [.int .u8 r_0] (.bool r):=by
 have dd:=dd_EA;have k:=True.intro;have q:=k;have rs:=Tryz.results86
 unfold g_timebase_Valid at h
 refine .en hI Tryz.func86 Tryz.ntmps86 ?_
 refine xs<|rz ?_
 refine es<|xs<|rK fun K6 RK6 hK6 gK6=>zz ?_
 obtain⟨r7,h8,h⟩:=bs h
 refine cw (a_timebase_of hI h8)<|zz ?_
 subst hK6 gK6
 refine es<|xr ?_
 cases h
 exact en fr
def g_timebase_CanDrop (r_0:Int):Option (Bool) :=
 ((g_timebase_of r_0).bind fun r7=>(some r7.drop_))
theorem a_timebase_CanDrop {I:World→Prop} (hI:Stab I) {r_0:Int} {r:Bool} (h:g_timebase_CanDrop r_0=some r):AFun Tryz.prog I 148 [.int .u8 r_0] (.bool r):=by
 have dd:=dd_EA;have k:=True.intro;have q:=k;have rs:=Tryz.results148
 unfold g_timebase_CanDrop at h
 refine .en hI Tryz.func148 Tryz.ntmps148 ?_
 refine xs<|rz ?_
 refine es<|xs<|rK fun K6 RK6 hK6 gK6=>zz ?_
 obtain⟨r7,h8,h⟩:=bs h
 refine cw (a_timebase_of hI h8)<|zz ?_
 subst hK6 gK6
 refine es<|xr ?_
 cases h
 exact en fr
def g_document_rate (r_0:Int) (drop_1:Bool):Option (Int) :=
 ((g_timebase_Valid r_0).bind fun r11=>(if r11 then(if drop_1 then((g_timebase_CanDrop r_0).bind fun r15=>(if r15 then(some 0) else(some 13))) else(some 0)) else(some 13)))
theorem a_document_rate {I:World→Prop} (hI:Stab I) {r_0:Int} {drop_1:Bool} {r:Int} (h:g_document_rate r_0 drop_1=some r):AFun Tryz.prog I 108 [.int .u8 r_0,.bool drop_1] (.int .i64 r):=by
 have dd:=dd_EA;have k:=True.intro;have q:=k;have rs:=Tryz.results108
 unfold g_document_rate at h
 refine .en hI Tryz.func108 Tryz.ntmps108 ?_
 refine xs<|rz ?_
 refine es<|xs<|xs<|rK fun K10 RK10 hK10 gK10=>zz ?_
 obtain⟨r11,h12,h⟩:=bs h
 refine cw (a_timebase_Valid hI h12)<|zz ?_
 rcases iK k h with⟨k,h⟩|⟨k,h⟩
 ·refine zz ?_
  rcases iK k h with⟨k,h⟩|⟨k,h⟩
  ·refine zz ?_
   obtain⟨r15,h16,h⟩:=bs h
   refine cw (a_timebase_CanDrop hI h16)<|zz ?_
   subst hK10 gK10
   refine es ?_
   rcases iK k h with⟨k,h⟩|⟨k,h⟩
   ·refine xf<|xk<|es<|xs<|rz ?_
    refine es<|xr ?_
    cases h
    exact en fr
   ·refine xt<|xs<|rz ?_
    refine es<|xr<|er ?_
    cases h
    exact en fr
  ·refine zz ?_
   subst hK10 gK10
   refine es<|xf<|xk<|es<|xs<|rz ?_
   refine es<|xr ?_
   cases h
   exact en fr
 ·refine zz ?_
  subst hK10 gK10
  refine es<|xt<|xs<|rz ?_
  refine es<|xr<|er ?_
  cases h
  exact en fr
def g_document_header (d_0:T_api_Document):Option (Int) :=
 ((((g_charset_Valid d_0.Title).bind fun r33=>(if r33 then(if(decide (400 < (d_0.Title.length:Int))) then(some (.out 9)) else(if(d_0.Lang == ([]:List UInt8)) then(some (.go ())) else((g_lines_Name d_0.Lang).bind fun r47=>(if r47 then(some (.go ())) else(some (.out 5)))))) else(some (.out 10)))):Option (Nx (Unit) (Int))).bind fun w55=>match w55 with|.go v28=>((g_document_rate d_0.Rate d_0.Drop).bind fun r61=>(if(r61 != 0) then(some r61) else(if(decide (d_0.Last < 0)) then(some 2) else(if(decide (1099511627776 < d_0.Last)) then(some 2) else(some 0)))))|.out e56=>(some e56))
theorem a_document_header {I:World→Prop} (hI:Stab I) (hU8T:∀ w,I w→U8T w) {d_0:T_api_Document} {r:Int} (h:g_document_header d_0=some r):AFun Tryz.prog I 58 [T_api_Document.d d_0] (.int .i64 r):=by
 have dd:=dd_EA;have k:=True.intro;have q:=k;have rs:=Tryz.results58
 unfold g_document_header at h
 refine .en hI Tryz.func58 Tryz.ntmps58 ?_
 refine xs<|rz ?_
 refine es ?_
 obtain⟨w55,h54,h⟩:=bs h
 refine rb_seg (fun v28=>⟨envL [(1,.ptr 0 0)],heapL [(0,.box none [.str d_0.Title,.str d_0.Lang,.int .u8 d_0.Rate,.bool d_0.Drop,.int .i64 d_0.Last,.sl (d_0.Regions.map T_api_Region.d),.sl (d_0.Events.map T_api_Event.d),.sl (d_0.Comments.map T_api_Comment.d)])],1,40⟩) (fun _=>.ret) (fun e56=>⟨envL [(2,.int .i64 e56)],heapL [],0,40⟩) h54 (by intro w;simp) ?_ ?_ ?_
 ·clear h
  intro w55 h
  refine xb<|xs<|rK fun K32 RK32 hK32 gK32=>zz ?_
  obtain⟨r33,h34,h⟩:=bs h
  refine cw (a_charset_Valid hI hU8T h34)<|zz ?_
  subst hK32 gK32
  refine es ?_
  rcases iK k h with⟨k,h⟩|⟨k,h⟩
  ·refine xf<|xs<|rz ?_
   refine es ?_
   rcases iK k h with⟨k,h⟩|⟨k,h⟩
   ·refine xt<|xs<|rz ?_
    refine es<|xr<|br ?_
    cases h
    exact en ⟨rfl,wk []⟩
   ·refine xf<|xs<|rK fun K45 RK45 hK45 gK45=>zz ?_
    rcases iK k h with⟨k,h⟩|⟨k,h⟩
    ·refine zz ?_
     subst hK45 gK45
     refine es<|xf<|xk<|bn ?_
     cases h
     exact en ⟨rfl,wk []⟩
    ·refine zz ?_
     obtain⟨r47,h48,h⟩:=bs h
     refine cw (a_lines_Name hI h48)<|zz ?_
     subst hK45 gK45
     refine es ?_
     rcases iK k h with⟨k,h⟩|⟨k,h⟩
     ·refine xf<|xk<|bn ?_
      cases h
      exact en ⟨rfl,wk []⟩
     ·refine xt<|xs<|rz ?_
      refine es<|xr<|br ?_
      cases h
      exact en ⟨rfl,wk []⟩
  ·refine xt<|xs<|rz ?_
   refine es<|xr<|br ?_
   cases h
   exact en ⟨rfl,wk []⟩
 ·rintro v28 rfl
  dsimp only at h
  refine xs<|xs<|rK fun K60 RK60 hK60 gK60=>zz ?_
  obtain⟨r61,h62,h⟩:=bs h
  refine cw (a_document_rate hI h62)<|zz ?_
  subst hK60 gK60
  refine es<|xs<|rz ?_
  refine es ?_
  rcases iK k h with⟨k,h⟩|⟨k,h⟩
  ·refine xt<|xs<|rz ?_
   refine es<|xr<|er ?_
   cases h
   exact en fr
  ·refine xf<|xk<|es<|xs<|xs<|rK fun K70 RK70 hK70 gK70=>zz ?_
   rcases iK k h with⟨k,h⟩|⟨k,h⟩
   ·refine zz ?_
    subst hK70 gK70
    refine es<|xt<|xs<|rz ?_
    refine es<|xr<|er ?_
    cases h
    exact en fr
   ·refine zz ?_
    subst hK70 gK70
    refine es ?_
    rcases iK k h with⟨k,h⟩|⟨k,h⟩
    ·refine xt<|xs<|rz ?_
     refine es<|xr<|er ?_
     cases h
     exact en fr
    ·refine xf<|xk<|es<|xs<|rz ?_
     refine es<|xr ?_
     cases h
     exact en fr
 ·rintro e56 rfl
  dsimp only at h
  cases h
  exact en fr
def g_region_from (n_0:Int) (low_1:Int) (high_2:Int):Option (Bool) :=
 (if(decide (low_1≤n_0)) then(some (decide (n_0≤high_2))) else(some false))
theorem a_region_from {I:World→Prop} (hI:Stab I) {n_0:Int} {low_1:Int} {high_2:Int} {r:Bool} (h:g_region_from n_0 low_1 high_2=some r):AFun Tryz.prog I 149 [.int .i64 n_0,.int .i64 low_1,.int .i64 high_2] (.bool r):=by
 have dd:=dd_EA;have k:=True.intro;have q:=k;have rs:=Tryz.results149
 unfold g_region_from at h
 refine .en hI Tryz.func149 Tryz.ntmps149 ?_
 refine xs<|rz ?_
 refine es<|xs<|rK fun K5 RK5 hK5 gK5=>zz ?_
 rcases iK k h with⟨k,h⟩|⟨k,h⟩
 ·refine zz ?_
  subst hK5 gK5
  refine es<|xr ?_
  cases h
  exact en fr
 ·refine zz ?_
  subst hK5 gK5
  refine es<|xr ?_
  cases h
  exact en fr
def g_region_Check (r_0:T_api_Region):Option (Int) :=
 ((g_lines_Name r_0.Name).bind fun r54=>(if r54 then((((g_region_from r_0.Top 0 14).bind fun r71=>(if r71 then((g_region_from r_0.Height 1 (IntKind.i64.wrap (15 - r_0.Top))).bind fun r74=>(if r74 then((g_region_from r_0.Left 0 31).bind fun r77=>(if r77 then((g_region_from r_0.Width 1 (IntKind.i64.wrap (32 - r_0.Left))).bind fun r80=>(some (!r80))) else(some true))) else(some true))) else(some true))):Option (Bool)).bind fun v69=>(if v69 then(some 2) else(if(decide (r_0.Align < 1)) then(some 3) else(if(decide (3 < r_0.Align)) then(some 3) else(some 0))))) else(some 5)))
theorem a_region_Check {I:World→Prop} (hI:Stab I) {r_0:T_api_Region} {r:Int} (h:g_region_Check r_0=some r):AFun Tryz.prog I 109 [T_api_Region.d r_0] (.int .i64 r):=by
 have dd:=dd_EA;have k:=True.intro;have q:=k;have rs:=Tryz.results109
 unfold g_region_Check at h
 refine .en hI Tryz.func109 Tryz.ntmps109 ?_
 refine xs<|rz ?_
 refine es<|xs<|xb<|xs<|rK fun K53 RK53 hK53 gK53=>zz ?_
 obtain⟨r54,h55,h⟩:=bs h
 refine cw (a_lines_Name hI h55)<|zz ?_
 subst hK53 gK53
 refine es ?_
 rcases iK k h with⟨k,h⟩|⟨k,h⟩
 ·refine xf ?_
  obtain⟨v69,h82,h⟩:=bs h
  refine rb_cut (fun v69=>⟨envL [(1,.ptr 0 0),(8,.bool v69)],heapL [(0,.box none [.str r_0.Name,.int .i64 r_0.Top,.int .i64 r_0.Height,.int .i64 r_0.Left,.int .i64 r_0.Width,.int .u8 r_0.Align,.bool r_0.Bottom])],1,46⟩) h82 ?_ ?_
  ·clear h
   intro v69 h
   refine rK fun K70 RK70 hK70 gK70=>zz ?_
   obtain⟨r71,h72,h⟩:=bs h
   refine cw (a_region_from hI h72)<|zz ?_
   rcases iK k h with⟨k,h⟩|⟨k,h⟩
   ·refine zz ?_
    obtain⟨r74,h75,h⟩:=bs h
    refine cw (a_region_from hI h75)<|zz ?_
    rcases iK k h with⟨k,h⟩|⟨k,h⟩
    ·refine zz ?_
     obtain⟨r77,h78,h⟩:=bs h
     refine cw (a_region_from hI h78)<|zz ?_
     rcases iK k h with⟨k,h⟩|⟨k,h⟩
     ·refine zz ?_
      obtain⟨r80,h81,h⟩:=bs h
      refine cw (a_region_from hI h81)<|zz ?_
      subst hK70 gK70
      cases h
      exact en ⟨rfl,wk []⟩
     ·refine zz ?_
      subst hK70 gK70
      cases h
      exact en ⟨rfl,wk []⟩
    ·refine zz ?_
     subst hK70 gK70
     cases h
     exact en ⟨rfl,wk []⟩
   ·refine zz ?_
    subst hK70 gK70
    cases h
    exact en ⟨rfl,wk []⟩
  ·rcases iK k h with⟨k,h⟩|⟨k,h⟩
   ·refine xt<|xs<|rz ?_
    refine es<|xr<|br<|er ?_
    cases h
    exact en fr
   ·refine xf<|xs<|rK fun K88 RK88 hK88 gK88=>zz ?_
    rcases iK k h with⟨k,h⟩|⟨k,h⟩
    ·refine zz ?_
     subst hK88 gK88
     refine es<|xt<|xs<|rz ?_
     refine es<|xr<|br<|er ?_
     cases h
     exact en fr
    ·refine zz ?_
     subst hK88 gK88
     refine es ?_
     rcases iK k h with⟨k,h⟩|⟨k,h⟩
     ·refine xt<|xs<|rz ?_
      refine es<|xr<|br<|er ?_
      cases h
      exact en fr
     ·refine xf<|xk<|bn<|es<|xs<|rz ?_
      refine es<|xr ?_
      cases h
      exact en fr
 ·refine xt<|xs<|rz ?_
  refine es<|xr<|br<|er ?_
  cases h
  exact en fr
def g_region_CheckList_s1 (l_0:List T_api_Region) (x10:Int):Option (Nx (Int) (Int ⊕ Unit)) :=
 (if(decide (x10 < (l_0.length:Int))) then((atI l_0 x10).bind fun y149=>((g_region_Check y149).bind fun r155=>(if(r155 != 0) then(some (.out (.inl r155))) else(((if(decide (0 < x10)) then((atI l_0 (IntKind.i64.wrap (x10 - 1))).bind fun y169=>(some (y149.Name == y169.Name))) else(some false)):Option (Bool)).bind fun v166=>(if v166 then(some (.out (.inl 7))) else(if(decide (0 < x10)) then((atI l_0 (IntKind.i64.wrap (x10 - 1))).bind fun y181=>(if(Op.bytesLess y149.Name y181.Name) then(some (.out (.inl 8))) else(some (.go (IntKind.i64.wrap (x10+1)))))) else(some (.go (IntKind.i64.wrap (x10+1)))))))))) else(some (.out (.inr ()))))
def g_region_CheckList (l_0:List T_api_Region):Option (Int) :=
 (if(decide (16 < (l_0.length:Int))) then(some 9) else((iter (g_region_CheckList_s1 l_0) 0).bind fun e11=>(match e11 with|Sum.inl e11=>(some e11)|Sum.inr (e11)=>(some 0))))
theorem a_region_CheckList {I:World→Prop} (hI:Stab I) {l_0:List T_api_Region} {r:Int} (h:g_region_CheckList l_0=some r):AFun Tryz.prog I 59 [.sl (l_0.map T_api_Region.d)] (.int .i64 r):=by
 have dd:=dd_EA;have k:=True.intro;have q:=k;have rs:=Tryz.results59
 unfold g_region_CheckList at h
 refine .en hI Tryz.func59 Tryz.ntmps59 ?_
 refine xs<|rz ?_
 refine es<|xs<|xs<|rz ?_
 refine es ?_
 rcases iK k h with⟨k,h⟩|⟨k,h⟩
 ·refine xt<|xs<|rz ?_
  refine es<|xr<|er ?_
  cases h
  exact en fr
 ·refine xf<|xk<|es<|xs<|xs<|rz ?_
  refine es<|xb ?_
  obtain⟨e11,h188,h⟩:=bs h
  refine rb_loop (fun x10=>⟨envL [(0,.sl (l_0.map T_api_Region.d)),(9,.sl (l_0.map T_api_Region.d)),(10,.int .i64 (l_0.length:Int)),(11,.int .i64 x10)],heapL [],0,48⟩) (fun w=>match w with|Sum.inl _=>.ret|Sum.inr (_)=>.exit 0) (fun w=>match w with|Sum.inl e11=>⟨envL [(2,.int .i64 e11)],heapL [],0,48⟩|Sum.inr (e11)=>⟨envL [],heapL [],0,48⟩) h188 (wk []) (by intro w;rcases w with w|w<;>simp) ?_ ?_
  ·clear h
   intro x10 y h
   unfold g_region_CheckList_s1 at h
   refine xs<|rz ?_
   refine es<|xs ?_
   rcases iK k h with⟨k,h⟩|⟨k,h⟩
   ·refine xt<|xk<|es<|xs<|xb<|xs<|rK fun K148 RK148 hK148 gK148=>zz ?_
    obtain⟨y149,q,h⟩:=bK q h
    refine zz ?_
    subst hK148 gK148
    refine es<|xs<|xs<|rK fun K154 RK154 hK154 gK154=>zz ?_
    obtain⟨r155,h156,h⟩:=bs h
    refine cw (a_region_Check hI h156)<|zz ?_
    subst hK154 gK154
    refine es<|xs<|rz ?_
    refine es ?_
    rcases iK k h with⟨k,h⟩|⟨k,h⟩
    ·refine xt<|xs<|rz ?_
     refine es<|xr<|er<|br<|er ?_
     cases h
     exact en ⟨rfl,wk []⟩
    ·refine xf<|xk<|es<|xs ?_
     obtain⟨v166,h171,h⟩:=bs h
     refine rb_cut (fun v166=>⟨envL [(0,.sl (l_0.map T_api_Region.d)),(3,.int .i64 x10),(4,.ptr 0 0),(9,.sl (l_0.map T_api_Region.d)),(10,.int .i64 (l_0.length:Int)),(11,.int .i64 x10),(33,.bool v166)],heapL [(0,.box none [.str y149.Name,.int .i64 y149.Top,.int .i64 y149.Height,.int .i64 y149.Left,.int .i64 y149.Width,.int .u8 y149.Align,.bool y149.Bottom])],1,48⟩) h171 ?_ ?_
     ·clear h
      intro v166 h
      refine rD hI fun K167 RK167 hK167 gK167=>zz ?_
      rcases iK k h with⟨k,h⟩|⟨k,h⟩
      ·refine zz ?_
       obtain⟨y169,q,h⟩:=bK q h
       refine zz ?_
       subst hK167 gK167
       cases h
       exact en ⟨rfl,wk [(0,some 4)]⟩
      ·refine zz ?_
       subst hK167 gK167
       cases h
       exact en ⟨rfl,wk [(0,some 4)]⟩
     ·rcases iK k h with⟨k,h⟩|⟨k,h⟩
      ·refine xt<|xs<|rz ?_
       refine es<|xr<|er<|br<|er ?_
       cases h
       exact en ⟨rfl,wk []⟩
      ·refine xf<|xk<|es<|xs<|rD hI fun K179 RK179 hK179 gK179=>zz ?_
       rcases iK k h with⟨k,h⟩|⟨k,h⟩
       ·refine zz ?_
        obtain⟨y181,q,h⟩:=bK q h
        refine zz ?_
        subst hK179 gK179
        refine es ?_
        rcases iK k h with⟨k,h⟩|⟨k,h⟩
        ·refine xt<|xs<|rz ?_
         refine es<|xr<|br<|er ?_
         cases h
         exact en ⟨rfl,wk []⟩
        ·refine xf<|xk<|bn<|es<|rz ?_
         cases h
         exact en ⟨rfl,wk []⟩
       ·refine zz ?_
        subst hK179 gK179
        refine es<|xf<|xk<|bn<|es<|rz ?_
        cases h
        exact en ⟨rfl,wk []⟩
   ·refine xf<|xx<|ee ?_
    cases h
    exact en ⟨rfl,wk []⟩
  ·rcases e11 with e11|e11
   ·try dsimp only at h ⊢
    refine br<|er ?_
    cases h
    exact en fr
   ·try dsimp only at h ⊢
    refine bh<|es<|xs<|rz ?_
    refine es<|xr ?_
    cases h
    exact en fr
def g_region_Default  : Option (T_api_Region) :=
 (some (T_api_Region.mk [] 11 4 0 32 2 true))
theorem a_region_Default {I:World→Prop} (hI:Stab I)  {r:T_api_Region} (h:g_region_Default  = some r):AFun Tryz.prog I 150 [] (T_api_Region.d r):=by
 have dd:=dd_EA;have k:=True.intro;have q:=k;have rs:=Tryz.results150
 unfold g_region_Default at h
 refine .en hI Tryz.func150 Tryz.ntmps150 ?_
 refine xs<|rz ?_
 refine es<|xs<|rz ?_
 refine es<|xr ?_
 cases h
 exact en fr
def g_region_Find_s1 (l_0:List T_api_Region) (name_1:List UInt8) (x14:Int):Option (Nx (Int) (((List UInt8) × Int × Int × Int × Int × Int × Bool) ⊕ Unit)) :=
 (if(decide (x14 < (l_0.length:Int))) then((atI l_0 x14).bind fun y89=>(if(y89.Name == name_1) then(some (.out (.inl (y89.Name,y89.Top,y89.Height,y89.Left,y89.Width,y89.Align,y89.Bottom)))) else(some (.go (IntKind.i64.wrap (x14+1)))))) else(some (.out (.inr ()))))
def g_region_Find (l_0:List T_api_Region) (name_1:List UInt8):Option (T_api_Region × Bool) :=
 (if(name_1 == ([]:List UInt8)) then((g_region_Default).bind fun r10=>(some (r10,true))) else((iter (g_region_Find_s1 l_0 name_1) 0).bind fun e15=>(match e15 with|Sum.inl e15=>(some ((T_api_Region.mk e15.1 e15.2.1 e15.2.2.1 e15.2.2.2.1 e15.2.2.2.2.1 e15.2.2.2.2.2.1 e15.2.2.2.2.2.2),true))|Sum.inr (e15)=>(some ((T_api_Region.mk [] 0 0 0 0 0 false),false)))))
theorem a_region_Find {I:World→Prop} (hI:Stab I) {l_0:List T_api_Region} {name_1:List UInt8} {r:T_api_Region × Bool} (h:g_region_Find l_0 name_1=some r):AFun Tryz.prog I 110 [.sl (l_0.map T_api_Region.d),.str name_1] (.tup [T_api_Region.d r.1,.bool r.2]):=by
 have dd:=dd_EA;have k:=True.intro;have q:=k;have rs:=Tryz.results110
 unfold g_region_Find at h
 refine .en hI Tryz.func110 Tryz.ntmps110 ?_
 refine xs<|rz ?_
 refine es<|xs<|xs<|rz ?_
 refine es ?_
 rcases iK k h with⟨k,h⟩|⟨k,h⟩
 ·refine xt<|xs<|rK fun K9 RK9 hK9 gK9=>zz ?_
  obtain⟨r10,h11,h⟩:=bs h
  refine cw (a_region_Default hI h11)<|zz ?_
  subst hK9 gK9
  refine es<|xr<|er ?_
  cases h
  exact en fr
 ·refine xf<|xk<|es<|xs<|xs<|rz ?_
  refine es<|xb ?_
  obtain⟨e15,h97,h⟩:=bs h
  refine rb_loop (fun x14=>⟨envL [(1,.str name_1),(4,.ptr 0 0),(11,.sl (l_0.map T_api_Region.d)),(12,.int .i64 (l_0.length:Int)),(13,.int .i64 x14)],heapL [(0,.box none [.str [],.int .i64 0,.int .i64 0,.int .i64 0,.int .i64 0,.int .u8 0,.bool false])],1,24⟩) (fun w=>match w with|Sum.inl _=>.ret|Sum.inr (_)=>.exit 0) (fun w=>match w with|Sum.inl e15=>⟨envL [(4,.ptr 0 0),(5,.bool true)],heapL [(0,.box none [.str e15.1,.int .i64 e15.2.1,.int .i64 e15.2.2.1,.int .i64 e15.2.2.2.1,.int .i64 e15.2.2.2.2.1,.int .u8 e15.2.2.2.2.2.1,.bool e15.2.2.2.2.2.2])],1,24⟩|Sum.inr (e15)=>⟨envL [(4,.ptr 0 0)],heapL [(0,.box none [.str [],.int .i64 0,.int .i64 0,.int .i64 0,.int .i64 0,.int .u8 0,.bool false])],1,24⟩) h97 (wk []) (by intro w;rcases w with w|w<;>simp) ?_ ?_
  ·clear h
   intro x14 y h
   unfold g_region_Find_s1 at h
   refine xs<|rz ?_
   refine es<|xs ?_
   rcases iK k h with⟨k,h⟩|⟨k,h⟩
   ·refine xt<|xk<|es<|xs<|xb<|xs<|rK fun K88 RK88 hK88 gK88=>zz ?_
    obtain⟨y89,q,h⟩:=bK q h
    refine zz ?_
    subst hK88 gK88
    refine es<|xs<|rz ?_
    refine es ?_
    rcases iK k h with⟨k,h⟩|⟨k,h⟩
    ·refine xt<|xs<|rz ?_
     refine es<|xr<|br<|er ?_
     cases h
     exact en ⟨rfl,wk []⟩
    ·refine xf<|xk<|bn<|es<|rz ?_
     cases h
     exact en ⟨rfl,wk []⟩
   ·refine xf<|xx<|ee ?_
    cases h
    exact en ⟨rfl,wk []⟩
  ·rcases e15 with e15|e15
   ·try dsimp only at h ⊢
    refine br<|er ?_
    cases h
    exact en fr
   ·try dsimp only at h ⊢
    refine bh<|es<|xs<|rz ?_
    refine es<|xr ?_
    cases h
    exact en fr
def g_event_spans (s_0:T_api_Span):Option (Bool) :=
 (if(decide (0≤s_0.In)) then(if(decide (s_0.In < s_0.Out)) then(some (decide (s_0.Out≤5184000))) else(some false)) else(some false))
theorem a_event_spans {I:World→Prop} (hI:Stab I) {s_0:T_api_Span} {r:Bool} (h:g_event_spans s_0=some r):AFun Tryz.prog I 111 [T_api_Span.d s_0] (.bool r):=by
 have dd:=dd_EA;have k:=True.intro;have q:=k;have rs:=Tryz.results111
 unfold g_event_spans at h
 refine .en hI Tryz.func111 Tryz.ntmps111 ?_
 refine xs<|rz ?_
 refine es<|xs<|rK fun K6 RK6 hK6 gK6=>zz ?_
 rcases iK k h with⟨k,h⟩|⟨k,h⟩
 ·refine zz ?_
  rcases iK k h with⟨k,h⟩|⟨k,h⟩
  ·refine zz ?_
   subst hK6 gK6
   refine es<|xr ?_
   cases h
   exact en fr
  ·refine zz ?_
   subst hK6 gK6
   refine es<|xr ?_
   cases h
   exact en fr
 ·refine zz ?_
  subst hK6 gK6
  refine es<|xr ?_
  cases h
  exact en fr
def g_event_kinds  : Option ((List (List UInt8))) :=
 (some [[68,73,65,76,79,71,85,69],[83,79,85,78,68],[84,73,84,76,69],[77,85,83,73,67]])
theorem a_event_kinds {I:World→Prop} (hI:Stab I)  {r:(List (List UInt8))} (h:g_event_kinds  = some r):AFun Tryz.prog I 151 [] (.sl (r.map D.str)):=by
 have dd:=dd_EA;have k:=True.intro;have q:=k;have rs:=Tryz.results151
 unfold g_event_kinds at h
 refine .en hI Tryz.func151 Tryz.ntmps151 ?_
 refine xs<|rz ?_
 refine es<|xs<|rz ?_
 refine es<|xr ?_
 cases h
 exact en fr
def g_event_KindName (k_0:Int):Option ((List UInt8)) :=
 (((if(decide (k_0 < 1)) then(some true) else(some (decide (4 < k_0)))):Option (Bool)).bind fun v5=>(if v5 then(some []) else((g_event_kinds).bind fun r18=>((atI r18 (IntKind.u8.wrap (k_0 - 1))).bind fun y20=>(some y20)))))
theorem a_event_KindName {I:World→Prop} (hI:Stab I) {k_0:Int} {r:(List UInt8)} (h:g_event_KindName k_0=some r):AFun Tryz.prog I 112 [.int .u8 k_0] (.str r):=by
 have dd:=dd_EA;have k:=True.intro;have q:=k;have rs:=Tryz.results112
 unfold g_event_KindName at h
 refine .en hI Tryz.func112 Tryz.ntmps112 ?_
 refine xs<|rz ?_
 refine es<|xs ?_
 obtain⟨v5,h8,h⟩:=bs h
 refine rb_cut (fun v5=>⟨envL [(0,.int .u8 k_0),(8,.bool v5)],heapL [],0,14⟩) h8 ?_ ?_
 ·clear h
  intro v5 h
  refine rK fun K6 RK6 hK6 gK6=>zz ?_
  rcases iK k h with⟨k,h⟩|⟨k,h⟩
  ·refine zz ?_
   subst hK6 gK6
   cases h
   exact en ⟨rfl,wk []⟩
  ·refine zz ?_
   subst hK6 gK6
   cases h
   exact en ⟨rfl,wk []⟩
 ·rcases iK k h with⟨k,h⟩|⟨k,h⟩
  ·refine xt<|xs<|rz ?_
   refine es<|xr<|er ?_
   cases h
   exact en fr
  ·refine xf<|xk<|es<|xs<|rK fun K17 RK17 hK17 gK17=>zz ?_
   obtain⟨r18,h19,h⟩:=bs h
   refine cw (a_event_kinds hI h19)<|zz ?_
   obtain⟨y20,q,h⟩:=bK q h
   refine zz ?_
   subst hK17 gK17
   refine es<|xr ?_
   cases h
   exact en fr
def g_style_Valid (s_0:T_api_Style):Option (Bool) :=
 (some (decide (s_0.Color≤6)))
theorem a_style_Valid {I:World→Prop} (hI:Stab I) {s_0:T_api_Style} {r:Bool} (h:g_style_Valid s_0=some r):AFun Tryz.prog I 171 [T_api_Style.d s_0] (.bool r):=by
 have dd:=dd_EA;have k:=True.intro;have q:=k;have rs:=Tryz.results171
 unfold g_style_Valid at h
 refine .en hI Tryz.func171 Tryz.ntmps171 ?_
 refine xs<|rz ?_
 refine es<|xs<|rz ?_
 refine es<|xr ?_
 cases h
 exact en fr
def g_style_alike (a_0:T_api_Run) (b_1:T_api_Run):Option (Bool) :=
 (if((a_0.Style.Color == b_1.Style.Color)&&((a_0.Style.Italic == b_1.Style.Italic)&&(a_0.Style.Underline == b_1.Style.Underline))) then(if(a_0.Ruby == ([]:List UInt8)) then(some (b_1.Ruby == ([]:List UInt8))) else(some false)) else(some false))
theorem a_style_alike {I:World→Prop} (hI:Stab I) {a_0:T_api_Run} {b_1:T_api_Run} {r:Bool} (h:g_style_alike a_0 b_1=some r):AFun Tryz.prog I 172 [T_api_Run.d a_0,T_api_Run.d b_1] (.bool r):=by
 have dd:=dd_EA;have k:=True.intro;have q:=k;have rs:=Tryz.results172
 unfold g_style_alike at h
 refine .en hI Tryz.func172 Tryz.ntmps172 ?_
 refine xs<|rz ?_
 refine es<|xs<|rK fun K6 RK6 hK6 gK6=>zz ?_
 rcases iK k h with⟨k,h⟩|⟨k,h⟩
 ·refine zz ?_
  rcases iK k h with⟨k,h⟩|⟨k,h⟩
  ·refine zz ?_
   subst hK6 gK6
   refine es<|xr ?_
   cases h
   exact en fr
  ·refine zz ?_
   subst hK6 gK6
   refine es<|xr ?_
   cases h
   exact en fr
 ·refine zz ?_
  subst hK6 gK6
  refine es<|xr ?_
  cases h
  exact en fr
def g_style_Check_s1 (row_0:T_api_Row) (x10:Int):Option (Nx (Int) (Int ⊕ Unit)) :=
 (if(decide (x10 < (row_0.Runs.length:Int))) then((atI row_0.Runs x10).bind fun y297=>((g_charset_Valid y297.Text).bind fun r303=>(if r303 then(if(y297.Text == ([]:List UInt8)) then(some (.out (.inl 4))) else((g_style_Valid y297.Style).bind fun r315=>(if r315 then((g_charset_Valid y297.Ruby).bind fun r322=>(if r322 then(if(decide (0 < x10)) then((atI row_0.Runs (IntKind.i64.wrap (x10 - 1))).bind fun y333=>((g_style_alike y333 y297).bind fun r335=>(if r335 then(some (.out (.inl 8))) else(some (.go (IntKind.i64.wrap (x10+1))))))) else(some (.go (IntKind.i64.wrap (x10+1))))) else(some (.out (.inl 10))))) else(some (.out (.inl 12)))))) else(some (.out (.inl 10)))))) else(some (.out (.inr ()))))
def g_style_Check (row_0:T_api_Row):Option (Int) :=
 (if(decide (16 < (row_0.Runs.length:Int))) then(some 9) else((iter (g_style_Check_s1 row_0) 0).bind fun e11=>(match e11 with|Sum.inl e11=>(some e11)|Sum.inr (e11)=>(some 0))))
theorem a_style_Check {I:World→Prop} (hI:Stab I) (hU8T:∀ w,I w→U8T w) {row_0:T_api_Row} {r:Int} (h:g_style_Check row_0=some r):AFun Tryz.prog I 152 [T_api_Row.d row_0] (.int .i64 r):=by
 have dd:=dd_EA;have k:=True.intro;have q:=k;have rs:=Tryz.results152
 unfold g_style_Check at h
 refine .en hI Tryz.func152 Tryz.ntmps152 ?_
 refine xs<|rz ?_
 refine es<|xs<|xs<|rz ?_
 refine es ?_
 rcases iK k h with⟨k,h⟩|⟨k,h⟩
 ·refine xt<|xs<|rz ?_
  refine es<|xr<|er ?_
  cases h
  exact en fr
 ·refine xf<|xk<|es<|xs<|xs<|rz ?_
  refine es<|xb ?_
  obtain⟨e11,h348,h⟩:=bs h
  refine rb_loop (fun x10=>⟨envL [(1,.ptr 0 0),(10,.sl (row_0.Runs.map T_api_Run.d)),(11,.int .i64 (row_0.Runs.length:Int)),(12,.int .i64 x10)],heapL [(0,.box none [.sl (row_0.Runs.map T_api_Run.d)])],1,50⟩) (fun w=>match w with|Sum.inl _=>.ret|Sum.inr (_)=>.exit 0) (fun w=>match w with|Sum.inl e11=>⟨envL [(2,.int .i64 e11)],heapL [],0,50⟩|Sum.inr (e11)=>⟨envL [],heapL [],0,50⟩) h348 (wk []) (by intro w;rcases w with w|w<;>simp) ?_ ?_
  ·clear h
   intro x10 y h
   unfold g_style_Check_s1 at h
   refine xs<|rz ?_
   refine es<|xs ?_
   rcases iK k h with⟨k,h⟩|⟨k,h⟩
   ·refine xt<|xk<|es<|xs<|xb<|xs<|rK fun K296 RK296 hK296 gK296=>zz ?_
    obtain⟨y297,q,h⟩:=bK q h
    refine zz ?_
    subst hK296 gK296
    refine es<|xb<|xs<|rK fun K302 RK302 hK302 gK302=>zz ?_
    obtain⟨r303,h304,h⟩:=bs h
    refine cw (a_charset_Valid hI hU8T h304)<|zz ?_
    subst hK302 gK302
    refine es ?_
    rcases iK k h with⟨k,h⟩|⟨k,h⟩
    ·refine xf<|xs<|rz ?_
     refine es ?_
     rcases iK k h with⟨k,h⟩|⟨k,h⟩
     ·refine xt<|xs<|rz ?_
      refine es<|xr<|br<|br<|er ?_
      cases h
      exact en ⟨rfl,wk []⟩
     ·refine xf<|xs<|rK fun K314 RK314 hK314 gK314=>zz ?_
      obtain⟨r315,h316,h⟩:=bs h
      refine cw (a_style_Valid hI h316)<|zz ?_
      subst hK314 gK314
      refine es ?_
      rcases iK k h with⟨k,h⟩|⟨k,h⟩
      ·refine xf<|xs<|rK fun K321 RK321 hK321 gK321=>zz ?_
       obtain⟨r322,h323,h⟩:=bs h
       refine cw (a_charset_Valid hI hU8T h323)<|zz ?_
       subst hK321 gK321
       refine es ?_
       rcases iK k h with⟨k,h⟩|⟨k,h⟩
       ·refine xf<|xs<|rD hI fun K331 RK331 hK331 gK331=>zz ?_
        rcases iK k h with⟨k,h⟩|⟨k,h⟩
        ·refine zz ?_
         obtain⟨y333,q,h⟩:=bK q h
         refine zz ?_
         obtain⟨r335,h336,h⟩:=bs h
         refine cd (a_style_alike hI h336)<|zz ?_
         subst hK331 gK331
         refine es ?_
         rcases iK k h with⟨k,h⟩|⟨k,h⟩
         ·refine xt<|xs<|rz ?_
          refine es<|xr<|br<|br<|er ?_
          cases h
          exact en ⟨rfl,wk []⟩
         ·refine xf<|xk<|bn<|bn<|es<|rz ?_
          cases h
          exact en ⟨rfl,wk []⟩
        ·refine zz ?_
         subst hK331 gK331
         refine es<|xf<|xk<|bn<|bn<|es<|rz ?_
         cases h
         exact en ⟨rfl,wk []⟩
       ·refine xt<|xs<|rz ?_
        refine es<|xr<|br<|br<|er ?_
        cases h
        exact en ⟨rfl,wk []⟩
      ·refine xt<|xs<|rz ?_
       refine es<|xr<|br<|br<|er ?_
       cases h
       exact en ⟨rfl,wk []⟩
    ·refine xt<|xs<|rz ?_
     refine es<|xr<|br<|br<|er ?_
     cases h
     exact en ⟨rfl,wk []⟩
   ·refine xf<|xx<|ee ?_
    cases h
    exact en ⟨rfl,wk []⟩
  ·rcases e11 with e11|e11
   ·try dsimp only at h ⊢
    refine br<|er ?_
    cases h
    exact en fr
   ·try dsimp only at h ⊢
    refine bh<|es<|xs<|rz ?_
    refine es<|xr ?_
    cases h
    exact en fr
def g_style_Plain_s1 (row_0:T_api_Row) (x7:Int × (List Int)):Option (Nx (Int × (List Int)) ((List Int))) :=
 (if(decide (x7.1 < (row_0.Runs.length:Int))) then((atI row_0.Runs x7.1).bind fun y67=>(if x7.2.length+y67.Text.length≤140737488355328 then(some (.go ((IntKind.i64.wrap (x7.1+1)),(x7.2++toI y67.Text)))) else none)) else(some (.out x7.2)))
def g_style_Plain (row_0:T_api_Row):Option ((List UInt8)) :=
 ((iter (g_style_Plain_s1 row_0) (0,[])).bind fun e8=>(some (bytesOf e8)))
theorem a_style_Plain {I:World→Prop} (hI:Stab I) {row_0:T_api_Row} {r:(List UInt8)} (h:g_style_Plain row_0=some r):AFun Tryz.prog I 91 [T_api_Row.d row_0] (.str r):=by
 have dd:=dd_EA;have k:=True.intro;have q:=k;have rs:=Tryz.results91
 unfold g_style_Plain at h
 refine .en hI Tryz.func91 Tryz.ntmps91 ?_
 refine xs<|rz ?_
 refine es<|xs<|rz ?_
 refine es<|xs<|xs<|rz ?_
 refine es<|xb ?_
 obtain⟨e8,h72,h⟩:=bs h
 refine rb_loop (fun x7=>⟨envL [(3,.ptr 0 0),(7,.sl (row_0.Runs.map T_api_Run.d)),(8,.int .i64 (row_0.Runs.length:Int)),(9,.int .i64 x7.1)],heapL [(0,.bbox 177 [.sp 0,.own 1 x7.2.length]),(1,.vec 5 1 (x7.2.map (D.int .u8)) false)],2,18⟩) (fun _=>.exit 0) (fun e8=>⟨envL [(3,.ptr 0 0)],heapL [(0,.bbox 177 [.sp 0,.own 1 e8.length]),(1,.vec 5 1 (e8.map (D.int .u8)) false)],2,18⟩) h72 (wk [(0,some 2),(1,none)]) (by intro w;simp) ?_ ?_
 ·clear h
  intro x7 y h
  unfold g_style_Plain_s1 at h
  refine xs<|rz ?_
  refine es<|xs ?_
  rcases iK k h with⟨k,h⟩|⟨k,h⟩
  ·refine xt<|xk<|es<|xs<|xb<|xs<|rK fun K66 RK66 hK66 gK66=>zz ?_
   obtain⟨y67,q,h⟩:=bK q h
   refine zz ?_
   subst hK66 gK66
   refine es<|rK fun K69 RK69 hK69 gK69=>zz ?_
   obtain⟨h70,h⟩:=ite_on h
   refine eW.intro (c_WriteString1 I (id:=0) (nid:=9) (id2:=1) (n:=x7.2.length) (s:=y67.Text) (l:=x7.2) fz fz fs h70 (by decide)) fi rfl<|zz ?_
   subst hK69 gK69
   refine bn<|es<|rz ?_
   cases h
   exact en ⟨rfl,wk [(1,some 9)]⟩
  ·refine xf<|xx<|ee ?_
   cases h
   exact en ⟨rfl,wk []⟩
 ·refine bh<|es<|xs<|rK fun K74 RK74 hK74 gK74=>zz ?_
  refine eW.intro (c_String1 I (id:=0) (nid:=2) (id2:=1) (n:=e8.length) (l:=e8) fz fz fs) fi rfl<|zz ?_
  subst hK74 gK74
  refine es<|xr ?_
  cases h
  exact en fr
def g_charset_Len (s_0:List UInt8):Option (Int) :=
 ((g_charset_Valid s_0).bind fun r7=>(if r7 then((g_unicode_utf8_RuneCountInString s_0).bind fun r14=>(some r14)) else(some (-1))))
theorem a_charset_Len {I:World→Prop} (hI:Stab I) (hU8T:∀ w,I w→U8T w) {s_0:List UInt8} {r:Int} (h:g_charset_Len s_0=some r):AFun Tryz.prog I 174 [.str s_0] (.int .i64 r):=by
 have dd:=dd_EA;have k:=True.intro;have q:=k;have rs:=Tryz.results174
 unfold g_charset_Len at h
 refine .en hI Tryz.func174 Tryz.ntmps174 ?_
 refine xs<|rz ?_
 refine es<|xs<|xs<|rK fun K6 RK6 hK6 gK6=>zz ?_
 obtain⟨r7,h8,h⟩:=bs h
 refine cw (a_charset_Valid hI hU8T h8)<|zz ?_
 subst hK6 gK6
 refine es ?_
 rcases iK k h with⟨k,h⟩|⟨k,h⟩
 ·refine xf<|xk<|es<|xs<|rK fun K13 RK13 hK13 gK13=>zz ?_
  obtain⟨r14,h15,h⟩:=bs h
  refine cw (a_unicode_utf8_RuneCountInString I hI s_0 h15)<|zz ?_
  subst hK13 gK13
  refine es<|xr ?_
  cases h
  exact en fr
 ·refine xt<|xs<|rz ?_
  refine es<|xr<|er ?_
  cases h
  exact en fr
def g_style_Len_s1 (row_0:T_api_Row) (x7:Int × Int):Option (Nx (Int × Int) (Unit ⊕ Int)) :=
 (if(decide (x7.2 < (row_0.Runs.length:Int))) then((atI row_0.Runs x7.2).bind fun y76=>((g_charset_Len y76.Text).bind fun r82=>(if(decide (r82 < 0)) then(some (.out (.inl ()))) else(some (.go ((IntKind.i64.wrap (x7.1+r82)),(IntKind.i64.wrap (x7.2+1)))))))) else(some (.out (.inr x7.1))))
def g_style_Len (row_0:T_api_Row):Option (Int) :=
 ((iter (g_style_Len_s1 row_0) (0,0)).bind fun e8=>(match e8 with|Sum.inl e8=>(some (-1))|Sum.inr (e8)=>(some e8)))
theorem a_style_Len {I:World→Prop} (hI:Stab I) (hU8T:∀ w,I w→U8T w) {row_0:T_api_Row} {r:Int} (h:g_style_Len row_0=some r):AFun Tryz.prog I 154 [T_api_Row.d row_0] (.int .i64 r):=by
 have dd:=dd_EA;have k:=True.intro;have q:=k;have rs:=Tryz.results154
 unfold g_style_Len at h
 refine .en hI Tryz.func154 Tryz.ntmps154 ?_
 refine xs<|rz ?_
 refine es<|xs<|rz ?_
 refine es<|xs<|xs<|rz ?_
 refine es<|xb ?_
 obtain⟨e8,h91,h⟩:=bs h
 refine rb_loop (fun x7=>⟨envL [(3,.int .i64 x7.1),(8,.sl (row_0.Runs.map T_api_Run.d)),(9,.int .i64 (row_0.Runs.length:Int)),(10,.int .i64 x7.2)],heapL [],0,24⟩) (fun w=>match w with|Sum.inl _=>.ret|Sum.inr (_)=>.exit 0) (fun w=>match w with|Sum.inl e8=>⟨envL [(2,.int .i64 (-1))],heapL [],0,24⟩|Sum.inr (e8)=>⟨envL [(3,.int .i64 e8)],heapL [],0,24⟩) h91 (wk []) (by intro w;rcases w with w|w<;>simp) ?_ ?_
 ·clear h
  intro x7 y h
  unfold g_style_Len_s1 at h
  refine xs<|rz ?_
  refine es<|xs ?_
  rcases iK k h with⟨k,h⟩|⟨k,h⟩
  ·refine xt<|xk<|es<|xs<|xb<|xs<|rK fun K75 RK75 hK75 gK75=>zz ?_
   obtain⟨y76,q,h⟩:=bK q h
   refine zz ?_
   subst hK75 gK75
   refine es<|xs<|rK fun K81 RK81 hK81 gK81=>zz ?_
   obtain⟨r82,h83,h⟩:=bs h
   refine cw (a_charset_Len hI hU8T h83)<|zz ?_
   subst hK81 gK81
   refine es<|xs<|xs<|rz ?_
   refine es ?_
   rcases iK k h with⟨k,h⟩|⟨k,h⟩
   ·refine xt<|xs<|rz ?_
    refine es<|xr<|er<|br<|er ?_
    cases h
    exact en ⟨rfl,wk []⟩
   ·refine xf<|xk<|es<|rz ?_
    refine bn<|es<|rz ?_
    cases h
    exact en ⟨rfl,wk []⟩
  ·refine xf<|xx<|ee ?_
   cases h
   exact en ⟨rfl,wk []⟩
 ·rcases e8 with e8|e8
  ·try dsimp only at h ⊢
   refine br<|er ?_
   cases h
   exact en fr
  ·try dsimp only at h ⊢
   refine bh<|es<|xs<|rz ?_
   refine es<|xr ?_
   cases h
   exact en fr
def g_event_row (r_0:T_api_Row):Option (Int) :=
 ((g_style_Check r_0).bind fun r7=>(if(r7 != 0) then(some r7) else((g_style_Plain r_0).bind fun r18=>(((if(r18 == ([]:List UInt8)) then(some true) else((atI r18 0).bind fun b33=>(if((b33.toNat:Int) == 32) then(some true) else((atI r18 (IntKind.i64.wrap ((r18.length:Int) - 1))).bind fun b36=>(if((b36.toNat:Int) == 32) then(some true) else((g_strings_Contains r18 [32,32]).bind fun r39=>(some r39))))))):Option (Bool)).bind fun v30=>(if v30 then(some 4) else((g_style_Len r_0).bind fun r49=>(if(decide (32 < r49)) then(some 11) else(some 0))))))))
theorem a_event_row {I:World→Prop} (hI:Stab I) (hShp:∀ w,I w→Shp w) (hU8T:∀ w,I w→U8T w) {r_0:T_api_Row} {r:Int} (h:g_event_row r_0=some r):AFun Tryz.prog I 113 [T_api_Row.d r_0] (.int .i64 r):=by
 have dd:=dd_EA;have k:=True.intro;have q:=k;have rs:=Tryz.results113
 unfold g_event_row at h
 refine .en hI Tryz.func113 Tryz.ntmps113 ?_
 refine xs<|rz ?_
 refine es<|xs<|xs<|rK fun K6 RK6 hK6 gK6=>zz ?_
 obtain⟨r7,h8,h⟩:=bs h
 refine cw (a_style_Check hI hU8T h8)<|zz ?_
 subst hK6 gK6
 refine es<|xs<|rz ?_
 refine es ?_
 rcases iK k h with⟨k,h⟩|⟨k,h⟩
 ·refine xt<|xs<|rz ?_
  refine es<|xr<|er ?_
  cases h
  exact en fr
 ·refine xf<|xk<|es<|xs<|rK fun K17 RK17 hK17 gK17=>zz ?_
  obtain⟨r18,h19,h⟩:=bs h
  refine cw (a_style_Plain hI h19)<|zz ?_
  subst hK17 gK17
  refine es<|xs ?_
  obtain⟨v30,h41,h⟩:=bs h
  refine rb_cut (fun v30=>⟨envL [(1,.ptr 0 0),(30,.bool v30)],heapL [(0,.box none [.sl (r_0.Runs.map T_api_Run.d)])],1,34⟩) h41 ?_ ?_
  ·clear h
   intro v30 h
   refine rK fun K31 RK31 hK31 gK31=>zz ?_
   rcases iK k h with⟨k,h⟩|⟨k,h⟩
   ·refine zz ?_
    subst hK31 gK31
    cases h
    exact en ⟨rfl,wk []⟩
   ·refine zz ?_
    obtain⟨b33,q,h⟩:=bK q h
    refine zz ?_
    rcases iK k h with⟨k,h⟩|⟨k,h⟩
    ·refine zz ?_
     subst hK31 gK31
     cases h
     exact en ⟨rfl,wk []⟩
    ·refine zz ?_
     obtain⟨b36,q,h⟩:=bK q h
     refine zz ?_
     rcases iK k h with⟨k,h⟩|⟨k,h⟩
     ·refine zz ?_
      subst hK31 gK31
      cases h
      exact en ⟨rfl,wk []⟩
     ·refine zz ?_
      obtain⟨r39,h40,h⟩:=bs h
      refine cw (a_strings_Contains I hI hShp r18 [32,32] h40)<|zz ?_
      subst hK31 gK31
      cases h
      exact en ⟨rfl,wk []⟩
  ·rcases iK k h with⟨k,h⟩|⟨k,h⟩
   ·refine xt<|xs<|rz ?_
    refine es<|xr<|er ?_
    cases h
    exact en fr
   ·refine xf<|xk<|es<|xs<|xs<|rK fun K48 RK48 hK48 gK48=>zz ?_
    obtain⟨r49,h50,h⟩:=bs h
    refine cw (a_style_Len hI hU8T h50)<|zz ?_
    subst hK48 gK48
    refine es ?_
    rcases iK k h with⟨k,h⟩|⟨k,h⟩
    ·refine xt<|xs<|rz ?_
     refine es<|xr<|er ?_
     cases h
     exact en fr
    ·refine xf<|xk<|es<|xs<|rz ?_
     refine es<|xr ?_
     cases h
     exact en fr
def g_event_lens_s1 (e_0:T_api_Event) (x7:(List Int) × Int):Option (Nx ((List Int) × Int) ((List Int))) :=
 (if(decide (x7.2 < (e_0.Rows.length:Int))) then((atI e_0.Rows x7.2).bind fun y78=>((g_style_Len y78).bind fun r81=>(if(x7.1.length+1) * 8≤140737488355328 then(some (.go ((x7.1++[r81]),(IntKind.i64.wrap (x7.2+1))))) else none))) else(some (.out x7.1)))
def g_event_lens (e_0:T_api_Event):Option ((List Int)) :=
 ((iter (g_event_lens_s1 e_0) ([],0)).bind fun e8=>(some e8))
theorem a_event_lens {I:World→Prop} (hI:Stab I) (hU8T:∀ w,I w→U8T w) {e_0:T_api_Event} {r:(List Int)} (h:g_event_lens e_0=some r):AFun Tryz.prog I 115 [T_api_Event.d e_0] (.sl (r.map (D.int .i64))):=by
 have dd:=dd_EA;have k:=True.intro;have q:=k;have rs:=Tryz.results115
 unfold g_event_lens at h
 refine .en hI Tryz.func115 Tryz.ntmps115 ?_
 refine xs<|rz ?_
 refine es<|xs<|rz ?_
 refine es<|xs<|xs<|rz ?_
 refine es<|xb ?_
 obtain⟨e8,h86,h⟩:=bs h
 refine rb_loop (fun x7=>⟨envL [(3,.own 0 x7.1.length),(7,.sl (e_0.Rows.map T_api_Row.d)),(8,.int .i64 (e_0.Rows.length:Int)),(9,.int .i64 x7.2)],heapL [(0,.vec 3 1 (x7.1.map (D.int .i64)) false)],1,20⟩) (fun _=>.exit 0) (fun e8=>⟨envL [(3,.own 0 e8.length)],heapL [(0,.vec 3 1 (e8.map (D.int .i64)) false)],1,20⟩) h86 (wk [(0,none)]) (by intro w;simp) ?_ ?_
 ·clear h
  intro x7 y h
  unfold g_event_lens_s1 at h
  refine xs<|rz ?_
  refine es<|xs ?_
  rcases iK k h with⟨k,h⟩|⟨k,h⟩
  ·refine xt<|xk<|es<|xs<|xb<|xs<|rK fun K77 RK77 hK77 gK77=>zz ?_
   obtain⟨y78,q,h⟩:=bK q h
   refine zz ?_
   subst hK77 gK77
   refine es<|rK fun K80 RK80 hK80 gK80=>zz ?_
   obtain⟨r81,h82,h⟩:=bs h
   refine cw (a_style_Len hI hU8T h82)<|zz ?_
   obtain⟨h83,h⟩:=ite_on h
   have h84:x7.1.length+1≤9223372036854775807:=by omega
   try simp only[Nat.reduceLeDiff] at h84
   have q:=And.intro @h84<|And.intro @h83<|q
   refine zz ?_
   subst hK80 gK80
   refine bn<|es<|rz ?_
   cases h
   exact en ⟨rfl,wk [(0,some 10)]⟩
  ·refine xf<|xx<|ee ?_
   cases h
   exact en ⟨rfl,wk []⟩
 ·refine bh<|es<|xs<|rz ?_
  refine es<|xr ?_
  cases h
  exact en fr
def g_region_usable (r_0:T_api_Region):Option (Bool) :=
 ((g_region_Default).bind fun r10=>(if((r_0.Name == r10.Name)&&((r_0.Top == r10.Top)&&((r_0.Height == r10.Height)&&((r_0.Left == r10.Left)&&((r_0.Width == r10.Width)&&((r_0.Align == r10.Align)&&(r_0.Bottom == r10.Bottom))))))) then(some true) else((g_region_Check r_0).bind fun r13=>(some (r13 == 0)))))
theorem a_region_usable {I:World→Prop} (hI:Stab I) {r_0:T_api_Region} {r:Bool} (h:g_region_usable r_0=some r):AFun Tryz.prog I 155 [T_api_Region.d r_0] (.bool r):=by
 have dd:=dd_EA;have k:=True.intro;have q:=k;have rs:=Tryz.results155
 unfold g_region_usable at h
 refine .en hI Tryz.func155 Tryz.ntmps155 ?_
 refine xs<|rz ?_
 refine es<|xs<|rD hI fun K9 RK9 hK9 gK9=>zz ?_
 obtain⟨r10,h11,h⟩:=bs h
 refine cd (a_region_Default hI h11)<|zz ?_
 rcases iK k h with⟨k,h⟩|⟨k,h⟩
 ·refine zz ?_
  subst hK9 gK9
  refine es<|xr ?_
  cases h
  exact en fr
 ·refine zz ?_
  obtain⟨r13,h14,h⟩:=bs h
  refine cd (a_region_Check hI h14)<|zz ?_
  subst hK9 gK9
  refine es<|xr ?_
  cases h
  exact en fr
def g_region_Place_s1 (r_0:T_api_Region) (lens_1:List Int) (x39:(List T_api_Spot) × Int):Option (Nx ((List T_api_Spot) × Int) (Int ⊕ ((List T_api_Spot)))) :=
 (if(decide (x39.2 < (lens_1.length:Int))) then((atI lens_1 x39.2).bind fun y309=>(if(decide (y309 < 0)) then(some (.out (.inl 2))) else(if(decide (r_0.Width < y309)) then(some (.out (.inl 11))) else(if(r_0.Align == 3) then(if(x39.1.length+1) * 24≤140737488355328 then(some (.go ((x39.1++[(T_api_Spot.mk (IntKind.i64.wrap ((IntKind.i64.wrap (r_0.Top+(IntKind.i64.wrap (r_0.Height - (lens_1.length:Int)))))+x39.2)) (IntKind.i64.wrap (r_0.Left+(IntKind.i64.wrap (r_0.Width - y309)))) y309)]),(IntKind.i64.wrap (x39.2+1))))) else none) else(if(r_0.Align == 2) then(if(x39.1.length+1) * 24≤140737488355328 then(some (.go ((x39.1++[(T_api_Spot.mk (IntKind.i64.wrap ((IntKind.i64.wrap (r_0.Top+(IntKind.i64.wrap (r_0.Height - (lens_1.length:Int)))))+x39.2)) (IntKind.i64.wrap (r_0.Left+(IntKind.i64.wrap (Int.tdiv (IntKind.i64.wrap (r_0.Width - y309)) 2)))) y309)]),(IntKind.i64.wrap (x39.2+1))))) else none) else(if(x39.1.length+1) * 24≤140737488355328 then(some (.go ((x39.1++[(T_api_Spot.mk (IntKind.i64.wrap ((IntKind.i64.wrap (r_0.Top+(IntKind.i64.wrap (r_0.Height - (lens_1.length:Int)))))+x39.2)) r_0.Left y309)]),(IntKind.i64.wrap (x39.2+1))))) else none)))))) else(some (.out (.inr x39.1))))
def g_region_Place_s2 (r_0:T_api_Region) (lens_1:List Int) (x352:(List T_api_Spot) × Int):Option (Nx ((List T_api_Spot) × Int) (Int ⊕ ((List T_api_Spot)))) :=
 (if(decide (x352.2 < (lens_1.length:Int))) then((atI lens_1 x352.2).bind fun y622=>(if(decide (y622 < 0)) then(some (.out (.inl 2))) else(if(decide (r_0.Width < y622)) then(some (.out (.inl 11))) else(if(r_0.Align == 3) then(if(x352.1.length+1) * 24≤140737488355328 then(some (.go ((x352.1++[(T_api_Spot.mk (IntKind.i64.wrap (r_0.Top+x352.2)) (IntKind.i64.wrap (r_0.Left+(IntKind.i64.wrap (r_0.Width - y622)))) y622)]),(IntKind.i64.wrap (x352.2+1))))) else none) else(if(r_0.Align == 2) then(if(x352.1.length+1) * 24≤140737488355328 then(some (.go ((x352.1++[(T_api_Spot.mk (IntKind.i64.wrap (r_0.Top+x352.2)) (IntKind.i64.wrap (r_0.Left+(IntKind.i64.wrap (Int.tdiv (IntKind.i64.wrap (r_0.Width - y622)) 2)))) y622)]),(IntKind.i64.wrap (x352.2+1))))) else none) else(if(x352.1.length+1) * 24≤140737488355328 then(some (.go ((x352.1++[(T_api_Spot.mk (IntKind.i64.wrap (r_0.Top+x352.2)) r_0.Left y622)]),(IntKind.i64.wrap (x352.2+1))))) else none)))))) else(some (.out (.inr x352.1))))
def g_region_Place (r_0:T_api_Region) (lens_1:List Int):Option ((List T_api_Spot) × Int) :=
 ((g_region_usable r_0).bind fun r21=>(if r21 then(if(decide (r_0.Height < (lens_1.length:Int))) then(some ([],9)) else(if r_0.Bottom then((iter (g_region_Place_s1 r_0 lens_1) ([],0)).bind fun e40=>(match e40 with|Sum.inl e40=>(some ([],e40))|Sum.inr (e40)=>(some (e40,0)))) else((iter (g_region_Place_s2 r_0 lens_1) ([],0)).bind fun e353=>(match e353 with|Sum.inl e353=>(some ([],e353))|Sum.inr (e353)=>(some (e353,0)))))) else(some ([],1))))
theorem a_region_Place {I:World→Prop} (hI:Stab I) {r_0:T_api_Region} {lens_1:List Int} {r:(List T_api_Spot) × Int} (h:g_region_Place r_0 lens_1=some r):AFun Tryz.prog I 114 [T_api_Region.d r_0,.sl (lens_1.map (D.int .i64))] (.tup [.sl (r.1.map T_api_Spot.d),.int .i64 r.2]):=by
 have dd:=dd_EA;have k:=True.intro;have q:=k;have rs:=Tryz.results114
 unfold g_region_Place at h
 refine .en hI Tryz.func114 Tryz.ntmps114 ?_
 refine xs<|rz ?_
 refine es<|xs<|xb<|xs<|rK fun K20 RK20 hK20 gK20=>zz ?_
 obtain⟨r21,h22,h⟩:=bs h
 refine cw (a_region_usable hI h22)<|zz ?_
 subst hK20 gK20
 refine es ?_
 rcases iK k h with⟨k,h⟩|⟨k,h⟩
 ·refine xf<|xs<|rz ?_
  refine es ?_
  rcases iK k h with⟨k,h⟩|⟨k,h⟩
  ·refine xt<|xs<|rz ?_
   refine es<|xr<|br<|er ?_
   cases h
   exact en fr
  ·refine xf<|xk<|bn<|es<|xs<|rz ?_
   refine es<|xs<|xs<|rz ?_
   refine es ?_
   rcases iK k h with⟨k,h⟩|⟨k,h⟩
   ·refine xt<|rz ?_
    refine es<|xs<|rz ?_
    refine es<|xs<|xs<|rz ?_
    refine es<|xb ?_
    obtain⟨e40,h345,h⟩:=bs h
    refine rb_loop (fun x39=>⟨envL [(2,.ptr 0 0),(6,.int .i64 (IntKind.i64.wrap (r_0.Top+(IntKind.i64.wrap (r_0.Height - (lens_1.length:Int)))))),(7,.own 1 x39.1.length),(32,.sl (lens_1.map (D.int .i64))),(33,.int .i64 (lens_1.length:Int)),(34,.int .i64 x39.2)],heapL [(0,.box none [.str r_0.Name,.int .i64 r_0.Top,.int .i64 r_0.Height,.int .i64 r_0.Left,.int .i64 r_0.Width,.int .u8 r_0.Align,.bool r_0.Bottom]),(1,.vec 194 3 (x39.1.map T_api_Spot.d) false)],2,81⟩) (fun w=>match w with|Sum.inl _=>.ret|Sum.inr (_)=>.exit 1) (fun w=>match w with|Sum.inl e40=>⟨envL [(4,.nils),(5,.int .i64 e40)],heapL [],0,81⟩|Sum.inr (e40)=>⟨envL [(7,.own 0 e40.length)],heapL [(0,.vec 194 3 (e40.map T_api_Spot.d) false)],1,81⟩) h345 (wk [(1,none)]) (by intro w;rcases w with w|w<;>simp) ?_ ?_
    ·clear h
     intro x39 y h
     unfold g_region_Place_s1 at h
     refine xs<|rz ?_
     refine es<|xs ?_
     rcases iK k h with⟨k,h⟩|⟨k,h⟩
     ·refine xt<|xk<|es<|xs<|xb<|xs<|rK fun K308 RK308 hK308 gK308=>zz ?_
      obtain⟨y309,q,h⟩:=bK q h
      refine zz ?_
      subst hK308 gK308
      refine es<|xs<|xs<|rz ?_
      refine es ?_
      rcases iK k h with⟨k,h⟩|⟨k,h⟩
      ·refine xt<|xs<|rz ?_
       refine es<|xr<|er<|br<|er ?_
       cases h
       exact en ⟨rfl,wk []⟩
      ·refine xf<|xk<|es<|xs<|xs<|rz ?_
       refine es ?_
       rcases iK k h with⟨k,h⟩|⟨k,h⟩
       ·refine xt<|xs<|rz ?_
        refine es<|xr<|er<|br<|er ?_
        cases h
        exact en ⟨rfl,wk []⟩
       ·refine xf<|xk<|es<|xs<|rz ?_
        refine es<|xs<|xs<|rz ?_
        refine es<|xb<|xs<|rz ?_
        refine es ?_
        rcases iK k h with⟨k,h⟩|⟨k,h⟩
        ·refine xt<|rz ?_
         refine bn<|es<|rK fun K329 RK329 hK329 gK329=>zz ?_
         obtain⟨h330,h⟩:=ite_on h
         have h331:x39.1.length+1≤9223372036854775807:=by omega
         try simp only[Nat.reduceLeDiff] at h331
         have q:=And.intro @h331<|And.intro @h330<|q
         refine zz ?_
         subst hK329 gK329
         refine bn<|es<|rz ?_
         cases h
         exact en ⟨rfl,wk [(1,some 39)]⟩
        ·refine xf<|xs<|rz ?_
         refine es ?_
         rcases iK k h with⟨k,h⟩|⟨k,h⟩
         ·refine xt<|rz ?_
          refine bn<|es<|rK fun K337 RK337 hK337 gK337=>zz ?_
          obtain⟨h338,h⟩:=ite_on h
          have h339:x39.1.length+1≤9223372036854775807:=by omega
          try simp only[Nat.reduceLeDiff] at h339
          have q:=And.intro @h339<|And.intro @h338<|q
          refine zz ?_
          subst hK337 gK337
          refine bn<|es<|rz ?_
          cases h
          exact en ⟨rfl,wk [(1,some 42)]⟩
         ·refine xf<|xk<|bn<|es<|rK fun K341 RK341 hK341 gK341=>zz ?_
          obtain⟨h342,h⟩:=ite_on h
          have h343:x39.1.length+1≤9223372036854775807:=by omega
          try simp only[Nat.reduceLeDiff] at h343
          have q:=And.intro @h343<|And.intro @h342<|q
          refine zz ?_
          subst hK341 gK341
          refine bn<|es<|rz ?_
          cases h
          exact en ⟨rfl,wk [(1,some 32)]⟩
     ·refine xf<|xx<|ee ?_
      cases h
      exact en ⟨rfl,wk [(0,some 1)]⟩
    ·rcases e40 with e40|e40
     ·try dsimp only at h ⊢
      refine br<|er ?_
      cases h
      exact en fr
     ·try dsimp only at h ⊢
      refine bh<|es<|xs<|rz ?_
      refine es<|xr ?_
      cases h
      exact en fr
   ·refine xf<|xk<|es<|xs<|rz ?_
    refine es<|xs<|xs<|rz ?_
    refine es<|xb ?_
    obtain⟨e353,h658,h⟩:=bs h
    refine rb_loop (fun x352=>⟨envL [(2,.ptr 0 0),(6,.int .i64 r_0.Top),(7,.own 1 x352.1.length),(32,.sl (lens_1.map (D.int .i64))),(33,.int .i64 (lens_1.length:Int)),(34,.int .i64 x352.2)],heapL [(0,.box none [.str r_0.Name,.int .i64 r_0.Top,.int .i64 r_0.Height,.int .i64 r_0.Left,.int .i64 r_0.Width,.int .u8 r_0.Align,.bool r_0.Bottom]),(1,.vec 194 3 (x352.1.map T_api_Spot.d) false)],2,81⟩) (fun w=>match w with|Sum.inl _=>.ret|Sum.inr (_)=>.exit 1) (fun w=>match w with|Sum.inl e353=>⟨envL [(4,.nils),(5,.int .i64 e353)],heapL [],0,81⟩|Sum.inr (e353)=>⟨envL [(7,.own 0 e353.length)],heapL [(0,.vec 194 3 (e353.map T_api_Spot.d) false)],1,81⟩) h658 (wk [(1,none)]) (by intro w;rcases w with w|w<;>simp) ?_ ?_
    ·clear h
     intro x352 y h
     unfold g_region_Place_s2 at h
     refine xs<|rz ?_
     refine es<|xs ?_
     rcases iK k h with⟨k,h⟩|⟨k,h⟩
     ·refine xt<|xk<|es<|xs<|xb<|xs<|rK fun K621 RK621 hK621 gK621=>zz ?_
      obtain⟨y622,q,h⟩:=bK q h
      refine zz ?_
      subst hK621 gK621
      refine es<|xs<|xs<|rz ?_
      refine es ?_
      rcases iK k h with⟨k,h⟩|⟨k,h⟩
      ·refine xt<|xs<|rz ?_
       refine es<|xr<|er<|br<|er ?_
       cases h
       exact en ⟨rfl,wk []⟩
      ·refine xf<|xk<|es<|xs<|xs<|rz ?_
       refine es ?_
       rcases iK k h with⟨k,h⟩|⟨k,h⟩
       ·refine xt<|xs<|rz ?_
        refine es<|xr<|er<|br<|er ?_
        cases h
        exact en ⟨rfl,wk []⟩
       ·refine xf<|xk<|es<|xs<|rz ?_
        refine es<|xs<|xs<|rz ?_
        refine es<|xb<|xs<|rz ?_
        refine es ?_
        rcases iK k h with⟨k,h⟩|⟨k,h⟩
        ·refine xt<|rz ?_
         refine bn<|es<|rK fun K642 RK642 hK642 gK642=>zz ?_
         obtain⟨h643,h⟩:=ite_on h
         have h644:x352.1.length+1≤9223372036854775807:=by omega
         try simp only[Nat.reduceLeDiff] at h644
         have q:=And.intro @h644<|And.intro @h643<|q
         refine zz ?_
         subst hK642 gK642
         refine bn<|es<|rz ?_
         cases h
         exact en ⟨rfl,wk [(1,some 39)]⟩
        ·refine xf<|xs<|rz ?_
         refine es ?_
         rcases iK k h with⟨k,h⟩|⟨k,h⟩
         ·refine xt<|rz ?_
          refine bn<|es<|rK fun K650 RK650 hK650 gK650=>zz ?_
          obtain⟨h651,h⟩:=ite_on h
          have h652:x352.1.length+1≤9223372036854775807:=by omega
          try simp only[Nat.reduceLeDiff] at h652
          have q:=And.intro @h652<|And.intro @h651<|q
          refine zz ?_
          subst hK650 gK650
          refine bn<|es<|rz ?_
          cases h
          exact en ⟨rfl,wk [(1,some 42)]⟩
         ·refine xf<|xk<|bn<|es<|rK fun K654 RK654 hK654 gK654=>zz ?_
          obtain⟨h655,h⟩:=ite_on h
          have h656:x352.1.length+1≤9223372036854775807:=by omega
          try simp only[Nat.reduceLeDiff] at h656
          have q:=And.intro @h656<|And.intro @h655<|q
          refine zz ?_
          subst hK654 gK654
          refine bn<|es<|rz ?_
          cases h
          exact en ⟨rfl,wk [(1,some 32)]⟩
     ·refine xf<|xx<|ee ?_
      cases h
      exact en ⟨rfl,wk [(0,some 1)]⟩
    ·rcases e353 with e353|e353
     ·try dsimp only at h ⊢
      refine br<|er ?_
      cases h
      exact en fr
     ·try dsimp only at h ⊢
      refine bh<|es<|xs<|rz ?_
      refine es<|xr ?_
      cases h
      exact en fr
 ·refine xt<|xs<|rz ?_
  refine es<|xr<|br<|er ?_
  cases h
  exact en fr
def g_event_Check_s1 (e_0:T_api_Event) (x111:Int):Option (Nx (Int) (Int ⊕ Unit)) :=
 (if(decide (x111 < (e_0.Rows.length:Int))) then((atI e_0.Rows x111).bind fun y216=>((g_event_row y216).bind fun r222=>(if(r222 != 0) then(some (.out (.inl r222))) else(some (.go (IntKind.i64.wrap (x111+1))))))) else(some (.out (.inr ()))))
def g_event_Check (e_0:T_api_Event) (regions_1:List T_api_Region):Option (Int) :=
 ((g_region_Find regions_1 e_0.Region).bind fun r7=>(((if(decide (e_0.ID < 1)) then(some true) else(if(decide (1099511627776 < e_0.ID)) then(some true) else((g_event_spans e_0.Span).bind fun r69=>(some (!r69))))):Option (Bool)).bind fun v65=>(if v65 then(some 2) else(if r7.2 then((g_event_KindName e_0.Kind).bind fun r82=>(if(r82 == ([]:List UInt8)) then(some 3) else(((if(e_0.Speaker == ([]:List UInt8)) then(some false) else((g_lines_Name e_0.Speaker).bind fun r94=>(some (!r94)))):Option (Bool)).bind fun v91=>(if v91 then(some 5) else(((if((e_0.Rows.length:Int) == 0) then(some true) else(some (decide (4 < (e_0.Rows.length:Int))))):Option (Bool)).bind fun v102=>(if v102 then(some 9) else((iter (g_event_Check_s1 e_0) 0).bind fun e112=>(match e112 with|Sum.inl e112=>(some e112)|Sum.inr (e112)=>((g_event_lens e_0).bind fun r237=>((g_region_Place r7.1 r237).bind fun r239=>(some r239.2))))))))))) else(some 6)))))
theorem a_event_Check {I:World→Prop} (hI:Stab I) (hShp:∀ w,I w→Shp w) (hU8T:∀ w,I w→U8T w) {e_0:T_api_Event} {regions_1:List T_api_Region} {r:Int} (h:g_event_Check e_0 regions_1=some r):AFun Tryz.prog I 60 [T_api_Event.d e_0,.sl (regions_1.map T_api_Region.d)] (.int .i64 r):=by
 have dd:=dd_EA;have k:=True.intro;have q:=k;have rs:=Tryz.results60
 unfold g_event_Check at h
 refine .en hI Tryz.func60 Tryz.ntmps60 ?_
 refine xs<|rz ?_
 refine es<|xs<|rK fun K6 RK6 hK6 gK6=>zz ?_
 obtain⟨r7,h8,h⟩:=bs h
 refine cw (a_region_Find hI h8)<|zz ?_
 subst hK6 gK6
 refine es<|xs<|xb ?_
 obtain⟨v65,h71,h⟩:=bs h
 refine rb_cut (fun v65=>⟨envL [(2,.ptr 0 0),(5,.ptr 1 0),(6,.bool r7.2),(19,.bool v65)],heapL [(0,.box none [.int .i64 e_0.ID,.int .i64 e_0.Span.In,.int .i64 e_0.Span.Out,.str e_0.Region,.int .u8 e_0.Kind,.str e_0.Speaker,.sl (e_0.Rows.map T_api_Row.d)]),(1,.box none [.str r7.1.Name,.int .i64 r7.1.Top,.int .i64 r7.1.Height,.int .i64 r7.1.Left,.int .i64 r7.1.Width,.int .u8 r7.1.Align,.bool r7.1.Bottom])],2,84⟩) h71 ?_ ?_
 ·clear h
  intro v65 h
  refine rK fun K66 RK66 hK66 gK66=>zz ?_
  rcases iK k h with⟨k,h⟩|⟨k,h⟩
  ·refine zz ?_
   subst hK66 gK66
   cases h
   exact en ⟨rfl,wk [(1,some 9)]⟩
  ·refine zz ?_
   rcases iK k h with⟨k,h⟩|⟨k,h⟩
   ·refine zz ?_
    subst hK66 gK66
    cases h
    exact en ⟨rfl,wk [(1,some 9)]⟩
   ·refine zz ?_
    obtain⟨r69,h70,h⟩:=bs h
    refine cw (a_event_spans hI h70)<|zz ?_
    subst hK66 gK66
    cases h
    exact en ⟨rfl,wk [(1,some 9)]⟩
 ·rcases iK k h with⟨k,h⟩|⟨k,h⟩
  ·refine xt<|xs<|rz ?_
   refine es<|xr<|br<|er ?_
   cases h
   exact en fr
  ·refine xf<|xs<|rz ?_
   refine es ?_
   rcases iK k h with⟨k,h⟩|⟨k,h⟩
   ·refine xf<|xs<|rK fun K81 RK81 hK81 gK81=>zz ?_
    obtain⟨r82,h83,h⟩:=bs h
    refine cw (a_event_KindName hI h83)<|zz ?_
    subst hK81 gK81
    refine es ?_
    rcases iK k h with⟨k,h⟩|⟨k,h⟩
    ·refine xt<|xs<|rz ?_
     refine es<|xr<|br<|er ?_
     cases h
     exact en fr
    ·refine xf ?_
     obtain⟨v91,h96,h⟩:=bs h
     refine rb_cut (fun v91=>⟨envL [(2,.ptr 0 0),(5,.ptr 1 0),(42,.bool v91)],heapL [(0,.box none [.int .i64 e_0.ID,.int .i64 e_0.Span.In,.int .i64 e_0.Span.Out,.str e_0.Region,.int .u8 e_0.Kind,.str e_0.Speaker,.sl (e_0.Rows.map T_api_Row.d)]),(1,.box none [.str r7.1.Name,.int .i64 r7.1.Top,.int .i64 r7.1.Height,.int .i64 r7.1.Left,.int .i64 r7.1.Width,.int .u8 r7.1.Align,.bool r7.1.Bottom])],2,84⟩) h96 ?_ ?_
     ·clear h
      intro v91 h
      refine rK fun K92 RK92 hK92 gK92=>zz ?_
      rcases iK k h with⟨k,h⟩|⟨k,h⟩
      ·refine zz ?_
       subst hK92 gK92
       cases h
       exact en ⟨rfl,wk []⟩
      ·refine zz ?_
       obtain⟨r94,h95,h⟩:=bs h
       refine cw (a_lines_Name hI h95)<|zz ?_
       subst hK92 gK92
       cases h
       exact en ⟨rfl,wk []⟩
     ·rcases iK k h with⟨k,h⟩|⟨k,h⟩
      ·refine xt<|xs<|rz ?_
       refine es<|xr<|br<|er ?_
       cases h
       exact en fr
      ·refine xf ?_
       obtain⟨v102,h105,h⟩:=bs h
       refine rb_cut (fun v102=>⟨envL [(2,.ptr 0 0),(5,.ptr 1 0),(52,.bool v102)],heapL [(0,.box none [.int .i64 e_0.ID,.int .i64 e_0.Span.In,.int .i64 e_0.Span.Out,.str e_0.Region,.int .u8 e_0.Kind,.str e_0.Speaker,.sl (e_0.Rows.map T_api_Row.d)]),(1,.box none [.str r7.1.Name,.int .i64 r7.1.Top,.int .i64 r7.1.Height,.int .i64 r7.1.Left,.int .i64 r7.1.Width,.int .u8 r7.1.Align,.bool r7.1.Bottom])],2,84⟩) h105 ?_ ?_
       ·clear h
        intro v102 h
        refine rK fun K103 RK103 hK103 gK103=>zz ?_
        rcases iK k h with⟨k,h⟩|⟨k,h⟩
        ·refine zz ?_
         subst hK103 gK103
         cases h
         exact en ⟨rfl,wk []⟩
        ·refine zz ?_
         subst hK103 gK103
         cases h
         exact en ⟨rfl,wk []⟩
       ·rcases iK k h with⟨k,h⟩|⟨k,h⟩
        ·refine xt<|xs<|rz ?_
         refine es<|xr<|br<|er ?_
         cases h
         exact en fr
        ·refine xf<|xk<|bn<|es<|xs<|xs<|rz ?_
         refine es<|xb ?_
         obtain⟨e112,h230,h⟩:=bs h
         refine rb_loop (fun x111=>⟨envL [(2,.ptr 0 0),(5,.ptr 1 0),(64,.sl (e_0.Rows.map T_api_Row.d)),(65,.int .i64 (e_0.Rows.length:Int)),(66,.int .i64 x111)],heapL [(0,.box none [.int .i64 e_0.ID,.int .i64 e_0.Span.In,.int .i64 e_0.Span.Out,.str e_0.Region,.int .u8 e_0.Kind,.str e_0.Speaker,.sl (e_0.Rows.map T_api_Row.d)]),(1,.box none [.str r7.1.Name,.int .i64 r7.1.Top,.int .i64 r7.1.Height,.int .i64 r7.1.Left,.int .i64 r7.1.Width,.int .u8 r7.1.Align,.bool r7.1.Bottom])],2,84⟩) (fun w=>match w with|Sum.inl _=>.ret|Sum.inr (_)=>.exit 1) (fun w=>match w with|Sum.inl e112=>⟨envL [(4,.int .i64 e112)],heapL [],0,84⟩|Sum.inr (e112)=>⟨envL [(2,.ptr 0 0),(5,.ptr 1 0)],heapL [(0,.box none [.int .i64 e_0.ID,.int .i64 e_0.Span.In,.int .i64 e_0.Span.Out,.str e_0.Region,.int .u8 e_0.Kind,.str e_0.Speaker,.sl (e_0.Rows.map T_api_Row.d)]),(1,.box none [.str r7.1.Name,.int .i64 r7.1.Top,.int .i64 r7.1.Height,.int .i64 r7.1.Left,.int .i64 r7.1.Width,.int .u8 r7.1.Align,.bool r7.1.Bottom])],2,84⟩) h230 (wk []) (by intro w;rcases w with w|w<;>simp) ?_ ?_
         ·clear h
          intro x111 y h
          unfold g_event_Check_s1 at h
          refine xs<|rz ?_
          refine es<|xs ?_
          rcases iK k h with⟨k,h⟩|⟨k,h⟩
          ·refine xt<|xk<|es<|xs<|xb<|xs<|rK fun K215 RK215 hK215 gK215=>zz ?_
           obtain⟨y216,q,h⟩:=bK q h
           refine zz ?_
           subst hK215 gK215
           refine es<|xs<|rK fun K221 RK221 hK221 gK221=>zz ?_
           obtain⟨r222,h223,h⟩:=bs h
           refine cw (a_event_row hI hShp hU8T h223)<|zz ?_
           subst hK221 gK221
           refine es<|xs<|rz ?_
           refine es ?_
           rcases iK k h with⟨k,h⟩|⟨k,h⟩
           ·refine xt<|xs<|rz ?_
            refine es<|xr<|br<|er ?_
            cases h
            exact en ⟨rfl,wk []⟩
           ·refine xf<|xk<|bn<|es<|rz ?_
            cases h
            exact en ⟨rfl,wk []⟩
          ·refine xf<|xx<|ee ?_
           cases h
           exact en ⟨rfl,wk []⟩
         ·rcases e112 with e112|e112
          ·try dsimp only at h ⊢
           refine br<|er ?_
           cases h
           exact en fr
          ·try dsimp only at h ⊢
           refine bh<|es<|xs<|rD hI fun K236 RK236 hK236 gK236=>zz ?_
           obtain⟨r237,h238,h⟩:=bs h
           refine cd (a_event_lens hI hU8T h238)<|zz ?_
           obtain⟨r239,h240,h⟩:=bs h
           refine cd (a_region_Place hI h240)<|zz ?_
           subst hK236 gK236
           refine es<|xs<|rz ?_
           refine es<|xr ?_
           cases h
           exact en fr
   ·refine xt<|xs<|rz ?_
    refine es<|xr<|br<|er ?_
    cases h
    exact en fr
def g_cmp_isNaN_int64 (x_0:Int):Option (Bool) :=
 (some (x_0 != x_0))
theorem a_cmp_isNaN_int64 {I:World→Prop} (hI:Stab I) {x_0:Int} {r:Bool} (h:g_cmp_isNaN_int64 x_0=some r):AFun Tryz.prog I 144 [.int .i64 x_0] (.bool r):=by
 have dd:=dd_EA;have k:=True.intro;have q:=k;have rs:=Tryz.results144
 unfold g_cmp_isNaN_int64 at h
 refine .en hI Tryz.func144 Tryz.ntmps144 ?_
 refine xs<|rz ?_
 refine es<|xs<|rz ?_
 refine es<|xr ?_
 cases h
 exact en fr
def g_cmp_Compare_int64 (x_0:Int) (y_1:Int):Option (Int) :=
 ((g_cmp_isNaN_int64 x_0).bind fun r7=>((g_cmp_isNaN_int64 y_1).bind fun r13=>(if r7 then(if r13 then(some 0) else(some (-1))) else(if r13 then(some 1) else(if(decide (x_0 < y_1)) then(some (-1)) else(if(decide (y_1 < x_0)) then(some 1) else(some 0)))))))
theorem a_cmp_Compare_int64 {I:World→Prop} (hI:Stab I) {x_0:Int} {y_1:Int} {r:Int} (h:g_cmp_Compare_int64 x_0 y_1=some r):AFun Tryz.prog I 105 [.int .i64 x_0,.int .i64 y_1] (.int .i64 r):=by
 have dd:=dd_EA;have k:=True.intro;have q:=k;have rs:=Tryz.results105
 unfold g_cmp_Compare_int64 at h
 refine .en hI Tryz.func105 Tryz.ntmps105 ?_
 refine xs<|rz ?_
 refine es<|xs<|rK fun K6 RK6 hK6 gK6=>zz ?_
 obtain⟨r7,h8,h⟩:=bs h
 refine cw (a_cmp_isNaN_int64 hI h8)<|zz ?_
 subst hK6 gK6
 refine es<|xs<|rK fun K12 RK12 hK12 gK12=>zz ?_
 obtain⟨r13,h14,h⟩:=bs h
 refine cw (a_cmp_isNaN_int64 hI h14)<|zz ?_
 subst hK12 gK12
 refine es<|xs<|xs<|rz ?_
 refine es ?_
 rcases iK k h with⟨k,h⟩|⟨k,h⟩
 ·refine xt<|xs<|xs<|rz ?_
  refine es ?_
  rcases iK k h with⟨k,h⟩|⟨k,h⟩
  ·refine xt<|xs<|rz ?_
   refine es<|xr<|er<|er ?_
   cases h
   exact en fr
  ·refine xf<|xk<|es<|xs<|rz ?_
   refine es<|xr<|er ?_
   cases h
   exact en fr
 ·refine xf<|xk<|es<|xs<|xs<|rz ?_
  refine es ?_
  rcases iK k h with⟨k,h⟩|⟨k,h⟩
  ·refine xt<|xs<|rz ?_
   refine es<|xr<|er ?_
   cases h
   exact en fr
  ·refine xf<|xk<|es<|xs<|xs<|rz ?_
   refine es ?_
   rcases iK k h with⟨k,h⟩|⟨k,h⟩
   ·refine xt<|xs<|rz ?_
    refine es<|xr<|er ?_
    cases h
    exact en fr
   ·refine xf<|xk<|es<|xs<|xs<|rz ?_
    refine es ?_
    rcases iK k h with⟨k,h⟩|⟨k,h⟩
    ·refine xt<|xs<|rz ?_
     refine es<|xr<|er ?_
     cases h
     exact en fr
    ·refine xf<|xk<|es<|xs<|rz ?_
     refine es<|xr ?_
     cases h
     exact en fr
def g_cmp_Or_int_s1 (vals_0:List Int) (x7:Int):Option (Nx (Int) (Int ⊕ Unit)) :=
 (if(decide (x7 < (vals_0.length:Int))) then((atI vals_0 x7).bind fun y55=>(if(y55 != 0) then(some (.out (.inl y55))) else(some (.go (IntKind.i64.wrap (x7+1)))))) else(some (.out (.inr ()))))
def g_cmp_Or_int (vals_0:List Int):Option (Int) :=
 ((iter (g_cmp_Or_int_s1 vals_0) 0).bind fun e8=>(match e8 with|Sum.inl e8=>(some e8)|Sum.inr (e8)=>(some 0)))
theorem a_cmp_Or_int {I:World→Prop} (hI:Stab I) {vals_0:List Int} {r:Int} (h:g_cmp_Or_int vals_0=some r):AFun Tryz.prog I 104 [.sl (vals_0.map (D.int .i64))] (.int .i64 r):=by
 have dd:=dd_EA;have k:=True.intro;have q:=k;have rs:=Tryz.results104
 unfold g_cmp_Or_int at h
 refine .en hI Tryz.func104 Tryz.ntmps104 ?_
 refine xs<|rz ?_
 refine es<|xs<|rz ?_
 refine es<|xs<|xs<|rz ?_
 refine es<|xb ?_
 obtain⟨e8,h63,h⟩:=bs h
 refine rb_loop (fun x7=>⟨envL [(3,.int .i64 0),(6,.sl (vals_0.map (D.int .i64))),(7,.int .i64 (vals_0.length:Int)),(8,.int .i64 x7)],heapL [],0,18⟩) (fun w=>match w with|Sum.inl _=>.ret|Sum.inr (_)=>.exit 0) (fun w=>match w with|Sum.inl e8=>⟨envL [(2,.int .i64 e8)],heapL [],0,18⟩|Sum.inr (e8)=>⟨envL [(3,.int .i64 0)],heapL [],0,18⟩) h63 (wk []) (by intro w;rcases w with w|w<;>simp) ?_ ?_
 ·clear h
  intro x7 y h
  unfold g_cmp_Or_int_s1 at h
  refine xs<|rz ?_
  refine es<|xs ?_
  rcases iK k h with⟨k,h⟩|⟨k,h⟩
  ·refine xt<|xk<|es<|xs<|xb<|xs<|rK fun K54 RK54 hK54 gK54=>zz ?_
   obtain⟨y55,q,h⟩:=bK q h
   refine zz ?_
   subst hK54 gK54
   refine es<|xs<|rz ?_
   refine es ?_
   rcases iK k h with⟨k,h⟩|⟨k,h⟩
   ·refine xt<|xs<|rz ?_
    refine es<|xr<|br<|er ?_
    cases h
    exact en ⟨rfl,wk []⟩
   ·refine xf<|xk<|bn<|es<|rz ?_
    cases h
    exact en ⟨rfl,wk []⟩
  ·refine xf<|xx<|ee ?_
   cases h
   exact en ⟨rfl,wk []⟩
 ·rcases e8 with e8|e8
  ·try dsimp only at h ⊢
   refine br<|er ?_
   cases h
   exact en fr
  ·try dsimp only at h ⊢
   refine bh<|es<|xs<|rz ?_
   refine es<|xr ?_
   cases h
   exact en fr
def g_event_Less (a_0:T_api_Event) (b_1:T_api_Event):Option (Bool) :=
 ((g_cmp_Compare_int64 a_0.Span.In b_1.Span.In).bind fun r11=>((g_cmp_Compare_int64 a_0.ID b_1.ID).bind fun r13=>((g_cmp_Or_int [r11,r13]).bind fun r15=>(some (decide (r15 < 0))))))
theorem a_event_Less {I:World→Prop} (hI:Stab I) {a_0:T_api_Event} {b_1:T_api_Event} {r:Bool} (h:g_event_Less a_0 b_1=some r):AFun Tryz.prog I 61 [T_api_Event.d a_0,T_api_Event.d b_1] (.bool r):=by
 have dd:=dd_EA;have k:=True.intro;have q:=k;have rs:=Tryz.results61
 unfold g_event_Less at h
 refine .en hI Tryz.func61 Tryz.ntmps61 ?_
 refine xs<|rz ?_
 refine es<|xs<|rD hI fun K10 RK10 hK10 gK10=>zz ?_
 obtain⟨r11,h12,h⟩:=bs h
 refine cd (a_cmp_Compare_int64 hI h12)<|zz ?_
 obtain⟨r13,h14,h⟩:=bs h
 refine cd (a_cmp_Compare_int64 hI h14)<|zz ?_
 obtain⟨r15,h16,h⟩:=bs h
 refine cd (a_cmp_Or_int hI h16)<|zz ?_
 subst hK10 gK10
 refine es<|xr ?_
 cases h
 exact en fr
def g_event_Len_s1 (r9:(List Int)) (x11:Int × Int):Option (Nx (Int × Int) (Unit ⊕ Int)) :=
 (if(decide (x11.2 < (r9.length:Int))) then((atI r9 x11.2).bind fun y62=>(if(decide (y62 < 0)) then(some (.out (.inl ()))) else(some (.go ((IntKind.i64.wrap (x11.1+y62)),(IntKind.i64.wrap (x11.2+1))))))) else(some (.out (.inr x11.1))))
def g_event_Len (e_0:T_api_Event):Option (Int) :=
 ((g_event_lens e_0).bind fun r9=>((iter (g_event_Len_s1 r9) ((if 0 > (IntKind.i64.wrap ((e_0.Rows.length:Int) - 1)) then 0 else(IntKind.i64.wrap ((e_0.Rows.length:Int) - 1))),0)).bind fun e12=>(match e12 with|Sum.inl e12=>(some (-1))|Sum.inr (e12)=>(some e12))))
theorem a_event_Len {I:World→Prop} (hI:Stab I) (hU8T:∀ w,I w→U8T w) {e_0:T_api_Event} {r:Int} (h:g_event_Len e_0=some r):AFun Tryz.prog I 156 [T_api_Event.d e_0] (.int .i64 r):=by
 have dd:=dd_EA;have k:=True.intro;have q:=k;have rs:=Tryz.results156
 unfold g_event_Len at h
 refine .en hI Tryz.func156 Tryz.ntmps156 ?_
 refine xs<|rz ?_
 refine es<|xs<|rz ?_
 refine es<|xs<|xs<|rK fun K8 RK8 hK8 gK8=>zz ?_
 obtain⟨r9,h10,h⟩:=bs h
 refine cw (a_event_lens hI hU8T h10)<|zz ?_
 subst hK8 gK8
 refine es<|xb ?_
 obtain⟨e12,h71,h⟩:=bs h
 refine rb_loop (fun x11=>⟨envL [(3,.int .i64 x11.1),(12,.sl (r9.map (D.int .i64))),(13,.int .i64 (r9.length:Int)),(14,.int .i64 x11.2)],heapL [],0,25⟩) (fun w=>match w with|Sum.inl _=>.ret|Sum.inr (_)=>.exit 0) (fun w=>match w with|Sum.inl e12=>⟨envL [(2,.int .i64 (-1))],heapL [],0,25⟩|Sum.inr (e12)=>⟨envL [(3,.int .i64 e12)],heapL [],0,25⟩) h71 (wk []) (by intro w;rcases w with w|w<;>simp) ?_ ?_
 ·clear h
  intro x11 y h
  unfold g_event_Len_s1 at h
  refine xs<|rz ?_
  refine es<|xs ?_
  rcases iK k h with⟨k,h⟩|⟨k,h⟩
  ·refine xt<|xk<|es<|xs<|xb<|xs<|rK fun K61 RK61 hK61 gK61=>zz ?_
   obtain⟨y62,q,h⟩:=bK q h
   refine zz ?_
   subst hK61 gK61
   refine es<|xs<|xs<|rz ?_
   refine es ?_
   rcases iK k h with⟨k,h⟩|⟨k,h⟩
   ·refine xt<|xs<|rz ?_
    refine es<|xr<|er<|br<|er ?_
    cases h
    exact en ⟨rfl,wk []⟩
   ·refine xf<|xk<|es<|rz ?_
    refine bn<|es<|rz ?_
    cases h
    exact en ⟨rfl,wk []⟩
  ·refine xf<|xx<|ee ?_
   cases h
   exact en ⟨rfl,wk []⟩
 ·rcases e12 with e12|e12
  ·try dsimp only at h ⊢
   refine br<|er ?_
   cases h
   exact en fr
  ·try dsimp only at h ⊢
   refine bh<|es<|xs<|rz ?_
   refine es<|xr ?_
   cases h
   exact en fr
def g_document_anchored (d_0:T_api_Document) (c_1:T_api_Comment) (events_2:MI Int):Option (Int) :=
 (if(decide (c_1.Event < 1)) then(some 2) else(if(decide (d_0.Last < c_1.Event)) then(some 2) else(if c_1.Lost then(((if(c_1.From != 0) then(some true) else(some (c_1.To != 0))):Option (Bool)).bind fun v17=>(if v17 then(some 2) else(some 0))) else(if(events_2.ks.contains c_1.Event) then(if(decide (c_1.From < 0)) then(some 2) else(if(decide (c_1.To≤c_1.From)) then(some 2) else((atI d_0.Events (lookV events_2.ks events_2.vs c_1.Event 0)).bind fun y45=>((g_event_Len y45).bind fun r47=>(if(decide (r47 < c_1.To)) then(some 2) else(some 0)))))) else(some 6)))))
theorem a_document_anchored {I:World→Prop} (hI:Stab I) (hU8T:∀ w,I w→U8T w) {d_0:T_api_Document} {c_1:T_api_Comment} {events_2:MI Int} {r:Int} (h:g_document_anchored d_0 c_1 events_2=some r):AFun Tryz.prog I 116 [T_api_Document.d d_0,T_api_Comment.d c_1,.mp .i64 events_2.ks (events_2.vs.map (D.int .i64))] (.int .i64 r):=by
 have dd:=dd_EA;have k:=True.intro;have q:=k;have rs:=Tryz.results116
 unfold g_document_anchored at h
 refine .en hI Tryz.func116 Tryz.ntmps116 ?_
 refine xs<|rz ?_
 refine es<|xs<|xs<|rK fun K5 RK5 hK5 gK5=>zz ?_
 rcases iK k h with⟨k,h⟩|⟨k,h⟩
 ·refine zz ?_
  subst hK5 gK5
  refine es<|xt<|xs<|rz ?_
  refine es<|xr<|er ?_
  cases h
  exact en fr
 ·refine zz ?_
  subst hK5 gK5
  refine es ?_
  rcases iK k h with⟨k,h⟩|⟨k,h⟩
  ·refine xt<|xs<|rz ?_
   refine es<|xr<|er ?_
   cases h
   exact en fr
  ·refine xf<|xk<|es<|xs<|xs<|rz ?_
   refine es ?_
   rcases iK k h with⟨k,h⟩|⟨k,h⟩
   ·refine xt<|xs ?_
    obtain⟨v17,h20,h⟩:=bs h
    refine rb_cut (fun v17=>⟨envL [(28,.bool v17)],heapL [],0,59⟩) h20 ?_ ?_
    ·clear h
     intro v17 h
     refine rK fun K18 RK18 hK18 gK18=>zz ?_
     rcases iK k h with⟨k,h⟩|⟨k,h⟩
     ·refine zz ?_
      subst hK18 gK18
      cases h
      exact en ⟨rfl,wk []⟩
     ·refine zz ?_
      subst hK18 gK18
      cases h
      exact en ⟨rfl,wk []⟩
    ·rcases iK k h with⟨k,h⟩|⟨k,h⟩
     ·refine xt<|xs<|rz ?_
      refine es<|xr<|er<|er ?_
      cases h
      exact en fr
     ·refine xf<|xk<|es<|xs<|rz ?_
      refine es<|xr<|er ?_
      cases h
      exact en fr
   ·refine xf<|xk<|es<|xs<|rz ?_
    refine es<|xs<|xs<|rz ?_
    refine es ?_
    rcases iK k h with⟨k,h⟩|⟨k,h⟩
    ·refine xf<|xk<|es<|xs<|xs<|rD hI fun K38 RK38 hK38 gK38=>zz ?_
     rcases iK k h with⟨k,h⟩|⟨k,h⟩
     ·refine zz ?_
      subst hK38 gK38
      refine es<|xt<|xs<|rz ?_
      refine es<|xr<|er ?_
      cases h
      exact en fr
     ·refine zz ?_
      rcases iK k h with⟨k,h⟩|⟨k,h⟩
      ·refine zz ?_
       subst hK38 gK38
       refine es<|xt<|xs<|rz ?_
       refine es<|xr<|er ?_
       cases h
       exact en fr
      ·refine zz ?_
       obtain⟨y45,q,h⟩:=bK q h
       refine zz ?_
       obtain⟨r47,h48,h⟩:=bs h
       refine cd (a_event_Len hI hU8T h48)<|zz ?_
       subst hK38 gK38
       refine es ?_
       rcases iK k h with⟨k,h⟩|⟨k,h⟩
       ·refine xt<|xs<|rz ?_
        refine es<|xr<|er ?_
        cases h
        exact en fr
       ·refine xf<|xk<|es<|xs<|rz ?_
        refine es<|xr ?_
        cases h
        exact en fr
    ·refine xt<|xs<|rz ?_
     refine es<|xr<|er ?_
     cases h
     exact en fr
def g_document_comments_s1 (d_0:T_api_Document) (events_1:MI Int) (x10:Int):Option (Nx (Int) (Int ⊕ Unit)) :=
 (if(decide (x10 < (d_0.Comments.length:Int))) then((atI d_0.Comments x10).bind fun y762=>(if(decide (y762.ID < 1)) then(some (.out (.inl 2))) else(if(decide (d_0.Last < y762.ID)) then(some (.out (.inl 2))) else(if(decide (0 < x10)) then((atI d_0.Comments (IntKind.i64.wrap (x10 - 1))).bind fun y811=>(if(decide (y762.ID≤y811.ID)) then(some (.out (.inl 8))) else(if(events_1.ks.contains y762.ID) then(some (.out (.inl 7))) else((g_document_anchored d_0 y762 events_1).bind fun r825=>(if(r825 != 0) then(some (.out (.inl r825))) else((g_lines_Name y762.Author).bind fun r836=>(if r836 then((g_charset_Valid y762.Text).bind fun r843=>(if r843 then(if(y762.Text == ([]:List UInt8)) then(some (.out (.inl 4))) else(if(decide (400 < (y762.Text.length:Int))) then(some (.out (.inl 9))) else(some (.go (IntKind.i64.wrap (x10+1)))))) else(some (.out (.inl 10))))) else(some (.out (.inl 5)))))))))) else(if(events_1.ks.contains y762.ID) then(some (.out (.inl 7))) else((g_document_anchored d_0 y762 events_1).bind fun r870=>(if(r870 != 0) then(some (.out (.inl r870))) else((g_lines_Name y762.Author).bind fun r881=>(if r881 then((g_charset_Valid y762.Text).bind fun r888=>(if r888 then(if(y762.Text == ([]:List UInt8)) then(some (.out (.inl 4))) else(if(decide (400 < (y762.Text.length:Int))) then(some (.out (.inl 9))) else(some (.go (IntKind.i64.wrap (x10+1)))))) else(some (.out (.inl 10))))) else(some (.out (.inl 5)))))))))))) else(some (.out (.inr ()))))
def g_document_comments (d_0:T_api_Document) (events_1:MI Int):Option (Int) :=
 (if(decide (64 < (d_0.Comments.length:Int))) then(some 9) else((iter (g_document_comments_s1 d_0 events_1) 0).bind fun e11=>(match e11 with|Sum.inl e11=>(some e11)|Sum.inr (e11)=>(some 0))))
theorem a_document_comments {I:World→Prop} (hI:Stab I) (hU8T:∀ w,I w→U8T w) {d_0:T_api_Document} {events_1:MI Int} {r:Int} (h:g_document_comments d_0 events_1=some r):AFun Tryz.prog I 62 [T_api_Document.d d_0,.mp .i64 events_1.ks (events_1.vs.map (D.int .i64))] (.int .i64 r):=by
 have dd:=dd_EA;have k:=True.intro;have q:=k;have rs:=Tryz.results62
 unfold g_document_comments at h
 refine .en hI Tryz.func62 Tryz.ntmps62 ?_
 refine xs<|rz ?_
 refine es<|xs<|xs<|rz ?_
 refine es ?_
 rcases iK k h with⟨k,h⟩|⟨k,h⟩
 ·refine xt<|xs<|rz ?_
  refine es<|xr<|er ?_
  cases h
  exact en fr
 ·refine xf<|xk<|es<|xs<|xs<|rz ?_
  refine es<|xb ?_
  obtain⟨e11,h906,h⟩:=bs h
  refine rb_loop (fun x10=>⟨envL [(1,.mp .i64 events_1.ks (events_1.vs.map (D.int .i64))),(2,.ptr 0 0),(15,.sl (d_0.Comments.map T_api_Comment.d)),(16,.int .i64 (d_0.Comments.length:Int)),(17,.int .i64 x10)],heapL [(0,.box none [.str d_0.Title,.str d_0.Lang,.int .u8 d_0.Rate,.bool d_0.Drop,.int .i64 d_0.Last,.sl (d_0.Regions.map T_api_Region.d),.sl (d_0.Events.map T_api_Event.d),.sl (d_0.Comments.map T_api_Comment.d)])],1,84⟩) (fun w=>match w with|Sum.inl _=>.ret|Sum.inr (_)=>.exit 0) (fun w=>match w with|Sum.inl e11=>⟨envL [(4,.int .i64 e11)],heapL [],0,84⟩|Sum.inr (e11)=>⟨envL [],heapL [],0,84⟩) h906 (wk []) (by intro w;rcases w with w|w<;>simp) ?_ ?_
  ·clear h
   intro x10 y h
   unfold g_document_comments_s1 at h
   refine xs<|rz ?_
   refine es<|xs ?_
   rcases iK k h with⟨k,h⟩|⟨k,h⟩
   ·refine xt<|xk<|es<|xs<|xb<|xs<|rK fun K761 RK761 hK761 gK761=>zz ?_
    obtain⟨y762,q,h⟩:=bK q h
    refine zz ?_
    subst hK761 gK761
    refine es<|xs<|rz ?_
    refine es<|xs<|xb<|xs<|rK fun K798 RK798 hK798 gK798=>zz ?_
    rcases iK k h with⟨k,h⟩|⟨k,h⟩
    ·refine zz ?_
     subst hK798 gK798
     refine es<|xt<|xs<|rz ?_
     refine es<|xr<|br<|er<|br<|er ?_
     cases h
     exact en ⟨rfl,wk []⟩
    ·refine zz ?_
     subst hK798 gK798
     refine es ?_
     rcases iK k h with⟨k,h⟩|⟨k,h⟩
     ·refine xt<|xs<|rz ?_
      refine es<|xr<|br<|er<|br<|er ?_
      cases h
      exact en ⟨rfl,wk []⟩
     ·refine xf<|xs<|rD hI fun K809 RK809 hK809 gK809=>zz ?_
      rcases iK k h with⟨k,h⟩|⟨k,h⟩
      ·refine zz ?_
       obtain⟨y811,q,h⟩:=bK q h
       refine zz ?_
       subst hK809 gK809
       refine es ?_
       rcases iK k h with⟨k,h⟩|⟨k,h⟩
       ·refine xt<|xs<|rz ?_
        refine es<|xr<|br<|er<|br<|er ?_
        cases h
        exact en ⟨rfl,wk []⟩
       ·refine xf<|xs<|rz ?_
        refine es ?_
        rcases iK k h with⟨k,h⟩|⟨k,h⟩
        ·refine xt<|xs<|rz ?_
         refine es<|xr<|br<|er<|br<|er ?_
         cases h
         exact en ⟨rfl,wk []⟩
        ·refine xf<|xk<|bn<|es<|xs<|xs<|rK fun K824 RK824 hK824 gK824=>zz ?_
         obtain⟨r825,h826,h⟩:=bs h
         refine cw (a_document_anchored hI hU8T h826)<|zz ?_
         subst hK824 gK824
         refine es<|xs<|rz ?_
         refine es ?_
         rcases iK k h with⟨k,h⟩|⟨k,h⟩
         ·refine xt<|xs<|rz ?_
          refine es<|xr<|er<|br<|er ?_
          cases h
          exact en ⟨rfl,wk []⟩
         ·refine xf<|xk<|es<|xb<|xs<|rK fun K835 RK835 hK835 gK835=>zz ?_
          obtain⟨r836,h837,h⟩:=bs h
          refine cw (a_lines_Name hI h837)<|zz ?_
          subst hK835 gK835
          refine es ?_
          rcases iK k h with⟨k,h⟩|⟨k,h⟩
          ·refine xf<|xs<|rK fun K842 RK842 hK842 gK842=>zz ?_
           obtain⟨r843,h844,h⟩:=bs h
           refine cw (a_charset_Valid hI hU8T h844)<|zz ?_
           subst hK842 gK842
           refine es ?_
           rcases iK k h with⟨k,h⟩|⟨k,h⟩
           ·refine xf<|xs<|rz ?_
            refine es ?_
            rcases iK k h with⟨k,h⟩|⟨k,h⟩
            ·refine xt<|xs<|rz ?_
             refine es<|xr<|br<|br<|er ?_
             cases h
             exact en ⟨rfl,wk []⟩
            ·refine xf<|xs<|rz ?_
             refine es ?_
             rcases iK k h with⟨k,h⟩|⟨k,h⟩
             ·refine xt<|xs<|rz ?_
              refine es<|xr<|br<|br<|er ?_
              cases h
              exact en ⟨rfl,wk []⟩
             ·refine xf<|xk<|bn<|bn<|es<|rz ?_
              cases h
              exact en ⟨rfl,wk []⟩
           ·refine xt<|xs<|rz ?_
            refine es<|xr<|br<|br<|er ?_
            cases h
            exact en ⟨rfl,wk []⟩
          ·refine xt<|xs<|rz ?_
           refine es<|xr<|br<|br<|er ?_
           cases h
           exact en ⟨rfl,wk []⟩
      ·refine zz ?_
       subst hK809 gK809
       refine es<|xf<|xs<|rz ?_
       refine es ?_
       rcases iK k h with⟨k,h⟩|⟨k,h⟩
       ·refine xt<|xs<|rz ?_
        refine es<|xr<|br<|er<|br<|er ?_
        cases h
        exact en ⟨rfl,wk []⟩
       ·refine xf<|xk<|bn<|es<|xs<|xs<|rK fun K869 RK869 hK869 gK869=>zz ?_
        obtain⟨r870,h871,h⟩:=bs h
        refine cw (a_document_anchored hI hU8T h871)<|zz ?_
        subst hK869 gK869
        refine es<|xs<|rz ?_
        refine es ?_
        rcases iK k h with⟨k,h⟩|⟨k,h⟩
        ·refine xt<|xs<|rz ?_
         refine es<|xr<|er<|br<|er ?_
         cases h
         exact en ⟨rfl,wk []⟩
        ·refine xf<|xk<|es<|xb<|xs<|rK fun K880 RK880 hK880 gK880=>zz ?_
         obtain⟨r881,h882,h⟩:=bs h
         refine cw (a_lines_Name hI h882)<|zz ?_
         subst hK880 gK880
         refine es ?_
         rcases iK k h with⟨k,h⟩|⟨k,h⟩
         ·refine xf<|xs<|rK fun K887 RK887 hK887 gK887=>zz ?_
          obtain⟨r888,h889,h⟩:=bs h
          refine cw (a_charset_Valid hI hU8T h889)<|zz ?_
          subst hK887 gK887
          refine es ?_
          rcases iK k h with⟨k,h⟩|⟨k,h⟩
          ·refine xf<|xs<|rz ?_
           refine es ?_
           rcases iK k h with⟨k,h⟩|⟨k,h⟩
           ·refine xt<|xs<|rz ?_
            refine es<|xr<|br<|br<|er ?_
            cases h
            exact en ⟨rfl,wk []⟩
           ·refine xf<|xs<|rz ?_
            refine es ?_
            rcases iK k h with⟨k,h⟩|⟨k,h⟩
            ·refine xt<|xs<|rz ?_
             refine es<|xr<|br<|br<|er ?_
             cases h
             exact en ⟨rfl,wk []⟩
            ·refine xf<|xk<|bn<|bn<|es<|rz ?_
             cases h
             exact en ⟨rfl,wk []⟩
          ·refine xt<|xs<|rz ?_
           refine es<|xr<|br<|br<|er ?_
           cases h
           exact en ⟨rfl,wk []⟩
         ·refine xt<|xs<|rz ?_
          refine es<|xr<|br<|br<|er ?_
          cases h
          exact en ⟨rfl,wk []⟩
   ·refine xf<|xx<|ee ?_
    cases h
    exact en ⟨rfl,wk []⟩
  ·rcases e11 with e11|e11
   ·try dsimp only at h ⊢
    refine br<|er ?_
    cases h
    exact en fr
   ·try dsimp only at h ⊢
    refine bh<|es<|xs<|rz ?_
    refine es<|xr ?_
    cases h
    exact en fr
def g_document_Check_s1 (d_0:T_api_Document) (x34:Int × (List Int) × (List Int)):Option (Nx (Int × (List Int) × (List Int)) (Int ⊕ ((List Int) × (List Int)))) :=
 (if(decide (x34.1 < (d_0.Events.length:Int))) then((atI d_0.Events x34.1).bind fun y453=>((g_event_Check y453 d_0.Regions).bind fun r459=>(if(r459 != 0) then(some (.out (.inl r459))) else(((if(decide (d_0.Last < y453.ID)) then(some (.out 2)) else(if(decide (0 < x34.1)) then((atI d_0.Events (IntKind.i64.wrap (x34.1 - 1))).bind fun y512=>((g_event_Less y512 y453).bind fun r514=>(if r514 then(if(x34.2.1.contains y453.ID) then(some (.out 7)) else(some (.go ()))) else(some (.out 8))))) else(if(x34.2.1.contains y453.ID) then(some (.out 7)) else(some (.go ()))))):Option (Nx (Unit) (Int))).bind fun w530=>match w530 with|.go v498=>(some (.go ((IntKind.i64.wrap (x34.1+1)),(putK x34.2.1 y453.ID),(putV x34.2.1 x34.2.2 y453.ID x34.1))))|.out e531=>(some (.out (.inl e531))))))) else(some (.out (.inr (x34.2.1,x34.2.2)))))
def g_document_Check (d_0:T_api_Document):Option (Int) :=
 ((g_document_header d_0).bind fun r7=>(if(r7 != 0) then(some r7) else((g_region_CheckList d_0.Regions).bind fun r18=>(if(r18 != 0) then(some r18) else(if(decide (400 < (d_0.Events.length:Int))) then(some 9) else((iter (g_document_Check_s1 d_0) (0,([]:List Int),([]:List Int))).bind fun e35=>(match e35 with|Sum.inl e35=>(some e35)|Sum.inr (e35)=>((g_document_comments d_0 (MI.mk e35.1 e35.2)).bind fun r539=>(some r539)))))))))
theorem a_document_Check {I:World→Prop} (hI:Stab I) (hShp:∀ w,I w→Shp w) (hU8T:∀ w,I w→U8T w) {d_0:T_api_Document} {r:Int} (h:g_document_Check d_0=some r):AFun Tryz.prog I 23 [T_api_Document.d d_0] (.int .i64 r):=by
 have dd:=dd_EA;have k:=True.intro;have q:=k;have rs:=Tryz.results23
 unfold g_document_Check at h
 refine .en hI Tryz.func23 Tryz.ntmps23 ?_
 refine xs<|rz ?_
 refine es<|xs<|xs<|rK fun K6 RK6 hK6 gK6=>zz ?_
 obtain⟨r7,h8,h⟩:=bs h
 refine cw (a_document_header hI hU8T h8)<|zz ?_
 subst hK6 gK6
 refine es<|xs<|rz ?_
 refine es ?_
 rcases iK k h with⟨k,h⟩|⟨k,h⟩
 ·refine xt<|xs<|rz ?_
  refine es<|xr<|er ?_
  cases h
  exact en fr
 ·refine xf<|xk<|es<|xs<|xs<|rK fun K17 RK17 hK17 gK17=>zz ?_
  obtain⟨r18,h19,h⟩:=bs h
  refine cw (a_region_CheckList hI h19)<|zz ?_
  subst hK17 gK17
  refine es<|xs<|rz ?_
  refine es ?_
  rcases iK k h with⟨k,h⟩|⟨k,h⟩
  ·refine xt<|xs<|rz ?_
   refine es<|xr<|er ?_
   cases h
   exact en fr
  ·refine xf<|xk<|es<|xs<|xs<|rz ?_
   refine es ?_
   rcases iK k h with⟨k,h⟩|⟨k,h⟩
   ·refine xt<|xs<|rz ?_
    refine es<|xr<|er ?_
    cases h
    exact en fr
   ·refine xf<|xk<|es<|xs<|rz ?_
    refine es<|xs<|xs<|rz ?_
    refine es<|xb ?_
    obtain⟨e35,h534,h⟩:=bs h
    refine rb_loop (fun x34=>⟨envL [(1,.ptr 0 0),(5,.omp 1),(28,.sl (d_0.Events.map T_api_Event.d)),(29,.int .i64 (d_0.Events.length:Int)),(30,.int .i64 x34.1)],heapL [(0,.box none [.str d_0.Title,.str d_0.Lang,.int .u8 d_0.Rate,.bool d_0.Drop,.int .i64 d_0.Last,.sl (d_0.Regions.map T_api_Region.d),.sl (d_0.Events.map T_api_Event.d),.sl (d_0.Comments.map T_api_Comment.d)]),(1,.mp .i64 x34.2.1 (x34.2.2.map (D.int .i64)) false)],2,79⟩) (fun w=>match w with|Sum.inl _=>.ret|Sum.inr (_)=>.exit 0) (fun w=>match w with|Sum.inl e35=>⟨envL [(2,.int .i64 e35)],heapL [],0,79⟩|Sum.inr (e35)=>⟨envL [(1,.ptr 0 0),(5,.omp 1)],heapL [(0,.box none [.str d_0.Title,.str d_0.Lang,.int .u8 d_0.Rate,.bool d_0.Drop,.int .i64 d_0.Last,.sl (d_0.Regions.map T_api_Region.d),.sl (d_0.Events.map T_api_Event.d),.sl (d_0.Comments.map T_api_Comment.d)]),(1,.mp .i64 e35.1 (e35.2.map (D.int .i64)) false)],2,79⟩) h534 (wk [(1,some 17)]) (by intro w;rcases w with w|w<;>simp) ?_ ?_
    ·clear h
     intro x34 y h
     unfold g_document_Check_s1 at h
     refine xs<|rz ?_
     refine es<|xs ?_
     rcases iK k h with⟨k,h⟩|⟨k,h⟩
     ·refine xt<|xk<|es<|xs<|xb<|xs<|rK fun K452 RK452 hK452 gK452=>zz ?_
      obtain⟨y453,q,h⟩:=bK q h
      refine zz ?_
      subst hK452 gK452
      refine es<|xs<|xs<|rK fun K458 RK458 hK458 gK458=>zz ?_
      obtain⟨r459,h460,h⟩:=bs h
      refine cw (a_event_Check hI hShp hU8T h460)<|zz ?_
      subst hK458 gK458
      refine es<|xs<|rz ?_
      refine es ?_
      rcases iK k h with⟨k,h⟩|⟨k,h⟩
      ·refine xt<|xs<|rz ?_
       refine es<|xr<|er<|br<|er ?_
       cases h
       exact en ⟨rfl,wk []⟩
      ·refine xf<|xk<|es<|xs<|rz ?_
       refine es ?_
       obtain⟨w530,h529,h⟩:=bs h
       refine rb_seg (fun v498=>⟨envL [(1,.ptr 0 0),(5,.omp 1),(6,.int .i64 x34.1),(7,.ptr 2 0),(28,.sl (d_0.Events.map T_api_Event.d)),(29,.int .i64 (d_0.Events.length:Int)),(30,.int .i64 x34.1)],heapL [(0,.box none [.str d_0.Title,.str d_0.Lang,.int .u8 d_0.Rate,.bool d_0.Drop,.int .i64 d_0.Last,.sl (d_0.Regions.map T_api_Region.d),.sl (d_0.Events.map T_api_Event.d),.sl (d_0.Comments.map T_api_Comment.d)]),(1,.mp .i64 x34.2.1 (x34.2.2.map (D.int .i64)) false),(2,.box none [.int .i64 y453.ID,.int .i64 y453.Span.In,.int .i64 y453.Span.Out,.str y453.Region,.int .u8 y453.Kind,.str y453.Speaker,.sl (y453.Rows.map T_api_Row.d)])],3,79⟩) (fun _=>.ret) (fun e531=>⟨envL [(2,.int .i64 e531)],heapL [],0,79⟩) h529 (by intro w;simp) ?_ ?_ ?_
       ·clear h
        intro w530 h
        refine xb<|xs<|rz ?_
        refine es ?_
        rcases iK k h with⟨k,h⟩|⟨k,h⟩
        ·refine xt<|xs<|rz ?_
         refine es<|xr<|br ?_
         cases h
         exact en ⟨rfl,wk []⟩
        ·refine xf<|xs<|rD hI fun K510 RK510 hK510 gK510=>zz ?_
         rcases iK k h with⟨k,h⟩|⟨k,h⟩
         ·refine zz ?_
          obtain⟨y512,q,h⟩:=bK q h
          refine zz ?_
          obtain⟨r514,h515,h⟩:=bs h
          refine cd (a_event_Less hI h515)<|zz ?_
          subst hK510 gK510
          refine es ?_
          rcases iK k h with⟨k,h⟩|⟨k,h⟩
          ·refine xf<|xs<|rz ?_
           refine es ?_
           rcases iK k h with⟨k,h⟩|⟨k,h⟩
           ·refine xt<|xs<|rz ?_
            refine es<|xr<|br ?_
            cases h
            exact en ⟨rfl,wk []⟩
           ·refine xf<|xk<|bn ?_
            cases h
            exact en ⟨rfl,wk [(2,some 6)]⟩
          ·refine xt<|xs<|rz ?_
           refine es<|xr<|br ?_
           cases h
           exact en ⟨rfl,wk []⟩
         ·refine zz ?_
          subst hK510 gK510
          refine es<|xf<|xs<|rz ?_
          refine es ?_
          rcases iK k h with⟨k,h⟩|⟨k,h⟩
          ·refine xt<|xs<|rz ?_
           refine es<|xr<|br ?_
           cases h
           exact en ⟨rfl,wk []⟩
          ·refine xf<|xk<|bn ?_
           cases h
           exact en ⟨rfl,wk [(2,some 6)]⟩
       ·rintro v498 rfl
        dsimp only at h
        refine rz ?_
        refine bn<|es<|rz ?_
        cases h
        exact en ⟨rfl,wk []⟩
       ·rintro e531 rfl
        dsimp only at h
        refine br<|er ?_
        cases h
        exact en ⟨rfl,wk []⟩
     ·refine xf<|xx<|ee ?_
      cases h
      exact en ⟨rfl,wk []⟩
    ·rcases e35 with e35|e35
     ·try dsimp only at h ⊢
      refine br<|er ?_
      cases h
      exact en fr
     ·try dsimp only at h ⊢
      refine bh<|es<|xs<|rK fun K538 RK538 hK538 gK538=>zz ?_
      obtain⟨r539,h540,h⟩:=bs h
      refine cw (a_document_comments hI hU8T h540)<|zz ?_
      subst hK538 gK538
      refine es<|xr ?_
      cases h
      exact en fr
structure T_api_Profile where
 Name:List UInt8
 Reading:Int
 MinFrames:Int
 MaxFrames:Int
 MinGap:Int
 ShotBefore:Int
 ShotAfter:Int
 Rows:Int
 Cols:Int
 Forbidden:List UInt8
 SafeTop:Int
 SafeBottom:Int
 SafeLeft:Int
 SafeRight:Int
 deriving DecidableEq
def T_api_Profile.d (x:T_api_Profile):D:=.agg [.str x.Name,.int .i64 x.Reading,.int .i64 x.MinFrames,.int .i64 x.MaxFrames,.int .i64 x.MinGap,.int .i64 x.ShotBefore,.int .i64 x.ShotAfter,.int .i64 x.Rows,.int .i64 x.Cols,.str x.Forbidden,.int .i64 x.SafeTop,.int .i64 x.SafeBottom,.int .i64 x.SafeLeft,.int .i64 x.SafeRight]
structure T_profile_limit where
 n_:Int
 lo_:Int
 hi_:Int
 deriving DecidableEq
def T_profile_limit.d (x:T_profile_limit):D:=.agg [.int .i64 x.n_,.int .i64 x.lo_,.int .i64 x.hi_]
structure T_api_Bound where
 I:Int
 J:Int
 C:Int
 Rule:Int
 ID:Int
 Other:Int
 deriving DecidableEq
def T_api_Bound.d (x:T_api_Bound):D:=.agg [.int .i64 x.I,.int .i64 x.J,.int .i64 x.C,.int .u8 x.Rule,.int .i64 x.ID,.int .i64 x.Other]
theorem dd_EB:(∀ x,T_api_Profile.d x=.agg [.str x.Name,.int .i64 x.Reading,.int .i64 x.MinFrames,.int .i64 x.MaxFrames,.int .i64 x.MinGap,.int .i64 x.ShotBefore,.int .i64 x.ShotAfter,.int .i64 x.Rows,.int .i64 x.Cols,.str x.Forbidden,.int .i64 x.SafeTop,.int .i64 x.SafeBottom,.int .i64 x.SafeLeft,.int .i64 x.SafeRight])∧(∀ x,T_profile_limit.d x=.agg [.int .i64 x.n_,.int .i64 x.lo_,.int .i64 x.hi_])∧(∀ x,T_api_Region.d x=.agg [.str x.Name,.int .i64 x.Top,.int .i64 x.Height,.int .i64 x.Left,.int .i64 x.Width,.int .u8 x.Align,.bool x.Bottom])∧(∀ x,T_api_Span.d x=.agg [.int .i64 x.In,.int .i64 x.Out])∧(∀ x,T_api_Style.d x=.agg [.int .u8 x.Color,.bool x.Italic,.bool x.Underline])∧(∀ x,T_api_Run.d x=.agg [.str x.Text,.int .u8 x.Style.Color,.bool x.Style.Italic,.bool x.Style.Underline,.str x.Ruby])∧(∀ x,T_api_Row.d x=.agg [.sl (x.Runs.map T_api_Run.d)])∧(∀ x,T_api_Event.d x=.agg [.int .i64 x.ID,.int .i64 x.Span.In,.int .i64 x.Span.Out,.str x.Region,.int .u8 x.Kind,.str x.Speaker,.sl (x.Rows.map T_api_Row.d)])∧(∀ x,T_api_Comment.d x=.agg [.int .i64 x.ID,.int .i64 x.Event,.int .i64 x.From,.int .i64 x.To,.str x.Author,.str x.Text,.bool x.Done,.bool x.Lost])∧(∀ x,T_api_Document.d x=.agg [.str x.Title,.str x.Lang,.int .u8 x.Rate,.bool x.Drop,.int .i64 x.Last,.sl (x.Regions.map T_api_Region.d),.sl (x.Events.map T_api_Event.d),.sl (x.Comments.map T_api_Comment.d)])∧(∀ x,T_timebase_rate.d x=.agg [.str x.name_,.int .i64 x.ticks_,.int .i64 x.nominal_,.bool x.drop_])∧(∀ x,T_api_Bound.d x=.agg [.int .i64 x.I,.int .i64 x.J,.int .i64 x.C,.int .u8 x.Rule,.int .i64 x.ID,.int .i64 x.Other]):=⟨fun _=>rfl,fun _=>rfl,fun _=>rfl,fun _=>rfl,fun _=>rfl,fun _=>rfl,fun _=>rfl,fun _=>rfl,fun _=>rfl,fun _=>rfl,fun _=>rfl,fun _=>rfl⟩
def g_profile_limits_s1 (p_0:T_api_Profile) (x7:Int × (List T_profile_limit)):Option (Nx (Int × (List T_profile_limit)) ((List T_profile_limit))) :=
 (if(decide (x7.1 < 4)) then((atI [p_0.SafeTop,p_0.SafeBottom,p_0.SafeLeft,p_0.SafeRight] x7.1).bind fun y89=>(if(x7.2.length+1) * 24≤140737488355328 then(some (.go ((IntKind.i64.wrap (x7.1+1)),(x7.2++[(T_profile_limit.mk y89 0 31)])))) else none)) else(some (.out x7.2)))
def g_profile_limits (p_0:T_api_Profile):Option ((List T_profile_limit)) :=
 ((iter (g_profile_limits_s1 p_0) (0,[(T_profile_limit.mk p_0.Reading 1 10000),(T_profile_limit.mk p_0.MinFrames 1 5184000),(T_profile_limit.mk p_0.MaxFrames 1 5184000),(T_profile_limit.mk p_0.MinGap 0 1000),(T_profile_limit.mk p_0.ShotBefore 0 1000),(T_profile_limit.mk p_0.ShotAfter 0 1000),(T_profile_limit.mk p_0.Rows 1 4),(T_profile_limit.mk p_0.Cols 1 32)])).bind fun e8=>(some e8))
theorem a_profile_limits {I:World→Prop} (hI:Stab I) {p_0:T_api_Profile} {r:(List T_profile_limit)} (h:g_profile_limits p_0=some r):AFun Tryz.prog I 74 [T_api_Profile.d p_0] (.sl (r.map T_profile_limit.d)):=by
 have dd:=dd_EB;have k:=True.intro;have q:=k;have rs:=Tryz.results74
 unfold g_profile_limits at h
 refine .en hI Tryz.func74 Tryz.ntmps74 ?_
 refine xs<|rz ?_
 refine es<|xs<|rz ?_
 refine es<|xs<|xs<|rz ?_
 refine es<|xb ?_
 obtain⟨e8,h98,h⟩:=bs h
 refine rb_loop (fun x7=>⟨envL [(3,.own 0 x7.2.length),(39,.own 1 4),(40,.int .i64 4),(41,.int .i64 x7.1)],heapL [(0,.vec 134 3 (x7.2.map T_profile_limit.d) false),(1,.vec 3 1 ([p_0.SafeTop,p_0.SafeBottom,p_0.SafeLeft,p_0.SafeRight].map (D.int .i64)) false)],2,52⟩) (fun _=>.exit 0) (fun e8=>⟨envL [(3,.own 0 e8.length)],heapL [(0,.vec 134 3 (e8.map T_profile_limit.d) false)],1,52⟩) h98 (wk [(0,some 26),(1,some 36)]) (by intro w;simp) ?_ ?_
 ·clear h
  intro x7 y h
  unfold g_profile_limits_s1 at h
  refine xs<|rz ?_
  refine es<|xs ?_
  rcases iK k h with⟨k,h⟩|⟨k,h⟩
  ·refine xt<|xk<|es<|xs<|xb<|xs<|rK fun K88 RK88 hK88 gK88=>zz ?_
   obtain⟨y89,h90,h⟩:=bind_some h
   obtain⟨h91,h92,h93⟩:=atI_own h90
   have h93:=h93 (D.int .i64)
   simp only[List.map_cons,List.map_nil,dd] at h93
   have h92:x7.1 < 4:=by simpa using h92
   have q:=And.intro h91<|And.intro h92<|And.intro @h93 q
   refine zz ?_
   subst hK88 gK88
   refine es<|rK fun K94 RK94 hK94 gK94=>zz ?_
   obtain⟨h95,h⟩:=ite_on h
   have h96:x7.2.length+1≤9223372036854775807:=by omega
   try simp only[Nat.reduceLeDiff] at h96
   have q:=And.intro @h96<|And.intro @h95<|q
   refine zz ?_
   subst hK94 gK94
   refine bn<|es<|rz ?_
   cases h
   exact en ⟨rfl,wk [(0,some 10)]⟩
  ·refine xf<|xx<|ee ?_
   cases h
   exact en ⟨rfl,wk []⟩
 ·refine bh<|es<|xs<|rz ?_
  refine es<|xr ?_
  cases h
  exact en fr
def g_profile_Check_s1 (r14:(List T_profile_limit)) (x16:Int):Option (Nx (Int) (Unit ⊕ Unit)) :=
 (if(decide (x16 < (r14.length:Int))) then((atI r14 x16).bind fun y111=>(if(decide (y111.n_ < y111.lo_)) then(some (.out (.inl ()))) else(if(decide (y111.hi_ < y111.n_)) then(some (.out (.inl ()))) else(some (.go (IntKind.i64.wrap (x16+1))))))) else(some (.out (.inr ()))))
def g_profile_Check_s2 (p_0:T_api_Profile) (x172:Int × Nat):Option (Nx (Int × Nat) (Unit ⊕ Unit)) :=
 (if(decide (x172.2 < p_0.Forbidden.length)) then(if(decide ((runeAt p_0.Forbidden x172.2)≤x172.1)) then(some (.out (.inl ()))) else(some (.go ((runeAt p_0.Forbidden x172.2),(x172.2+widthAt p_0.Forbidden x172.2))))) else(some (.out (.inr ()))))
def g_profile_Check (p_0:T_api_Profile):Option (Int) :=
 ((g_lines_Name p_0.Name).bind fun r7=>(if r7 then((g_profile_limits p_0).bind fun r14=>((iter (g_profile_Check_s1 r14) 0).bind fun e17=>(match e17 with|Sum.inl e17=>(some 2)|Sum.inr (e17)=>(((if(decide (15≤(IntKind.i64.wrap (p_0.SafeTop+p_0.SafeBottom)))) then(some true) else(some (decide (32≤(IntKind.i64.wrap (p_0.SafeLeft+p_0.SafeRight)))))):Option (Bool)).bind fun v149=>(if v149 then(some 2) else(if(decide (p_0.MaxFrames < p_0.MinFrames)) then(some 8) else((g_charset_Valid p_0.Forbidden).bind fun r165=>(if r165 then((iter (g_profile_Check_s2 p_0) (-1,0)).bind fun e173=>(match e173 with|Sum.inl e173=>(some 8)|Sum.inr (e173)=>(some 0))) else(some 10))))))))) else(some 5)))
theorem a_profile_Check {I:World→Prop} (hI:Stab I) (hU8T:∀ w,I w→U8T w) {p_0:T_api_Profile} {r:Int} (h:g_profile_Check p_0=some r):AFun Tryz.prog I 31 [T_api_Profile.d p_0] (.int .i64 r):=by
 have dd:=dd_EB;have k:=True.intro;have q:=k;have rs:=Tryz.results31
 unfold g_profile_Check at h
 refine .en hI Tryz.func31 Tryz.ntmps31 ?_
 refine xs<|rz ?_
 refine es<|xs<|xs<|rK fun K6 RK6 hK6 gK6=>zz ?_
 obtain⟨r7,h8,h⟩:=bs h
 refine cw (a_lines_Name hI h8)<|zz ?_
 subst hK6 gK6
 refine es ?_
 rcases iK k h with⟨k,h⟩|⟨k,h⟩
 ·refine xf<|xk<|es<|xs<|xs<|rK fun K13 RK13 hK13 gK13=>zz ?_
  obtain⟨r14,h15,h⟩:=bs h
  refine cw (a_profile_limits hI h15)<|zz ?_
  subst hK13 gK13
  refine es<|xb ?_
  obtain⟨e17,h123,h⟩:=bs h
  refine rb_loop (fun x16=>⟨envL [(1,.ptr 0 0),(13,.sl (r14.map T_profile_limit.d)),(14,.int .i64 (r14.length:Int)),(15,.int .i64 x16)],heapL [(0,.box none [.str p_0.Name,.int .i64 p_0.Reading,.int .i64 p_0.MinFrames,.int .i64 p_0.MaxFrames,.int .i64 p_0.MinGap,.int .i64 p_0.ShotBefore,.int .i64 p_0.ShotAfter,.int .i64 p_0.Rows,.int .i64 p_0.Cols,.str p_0.Forbidden,.int .i64 p_0.SafeTop,.int .i64 p_0.SafeBottom,.int .i64 p_0.SafeLeft,.int .i64 p_0.SafeRight])],1,68⟩) (fun w=>match w with|Sum.inl _=>.ret|Sum.inr (_)=>.exit 0) (fun w=>match w with|Sum.inl e17=>⟨envL [(2,.int .i64 2)],heapL [],0,68⟩|Sum.inr (e17)=>⟨envL [(1,.ptr 0 0)],heapL [(0,.box none [.str p_0.Name,.int .i64 p_0.Reading,.int .i64 p_0.MinFrames,.int .i64 p_0.MaxFrames,.int .i64 p_0.MinGap,.int .i64 p_0.ShotBefore,.int .i64 p_0.ShotAfter,.int .i64 p_0.Rows,.int .i64 p_0.Cols,.str p_0.Forbidden,.int .i64 p_0.SafeTop,.int .i64 p_0.SafeBottom,.int .i64 p_0.SafeLeft,.int .i64 p_0.SafeRight])],1,68⟩) h123 (wk []) (by intro w;rcases w with w|w<;>simp) ?_ ?_
  ·clear h
   intro x16 y h
   unfold g_profile_Check_s1 at h
   refine xs<|rz ?_
   refine es<|xs ?_
   rcases iK k h with⟨k,h⟩|⟨k,h⟩
   ·refine xt<|xk<|es<|xs<|xb<|xs<|rK fun K110 RK110 hK110 gK110=>zz ?_
    obtain⟨y111,q,h⟩:=bK q h
    refine zz ?_
    subst hK110 gK110
    refine es<|xs<|rK fun K115 RK115 hK115 gK115=>zz ?_
    rcases iK k h with⟨k,h⟩|⟨k,h⟩
    ·refine zz ?_
     subst hK115 gK115
     refine es<|xt<|xs<|rz ?_
     refine es<|xr<|br<|er ?_
     cases h
     exact en ⟨rfl,wk []⟩
    ·refine zz ?_
     subst hK115 gK115
     refine es ?_
     rcases iK k h with⟨k,h⟩|⟨k,h⟩
     ·refine xt<|xs<|rz ?_
      refine es<|xr<|br<|er ?_
      cases h
      exact en ⟨rfl,wk []⟩
     ·refine xf<|xk<|bn<|es<|rz ?_
      cases h
      exact en ⟨rfl,wk []⟩
   ·refine xf<|xx<|ee ?_
    cases h
    exact en ⟨rfl,wk []⟩
  ·rcases e17 with e17|e17
   ·try dsimp only at h ⊢
    refine br<|er ?_
    cases h
    exact en fr
   ·try dsimp only at h ⊢
    refine bh<|es<|xs<|xb ?_
    obtain⟨v149,h152,h⟩:=bs h
    refine rb_cut (fun v149=>⟨envL [(1,.ptr 0 0),(32,.bool v149)],heapL [(0,.box none [.str p_0.Name,.int .i64 p_0.Reading,.int .i64 p_0.MinFrames,.int .i64 p_0.MaxFrames,.int .i64 p_0.MinGap,.int .i64 p_0.ShotBefore,.int .i64 p_0.ShotAfter,.int .i64 p_0.Rows,.int .i64 p_0.Cols,.str p_0.Forbidden,.int .i64 p_0.SafeTop,.int .i64 p_0.SafeBottom,.int .i64 p_0.SafeLeft,.int .i64 p_0.SafeRight])],1,68⟩) h152 ?_ ?_
    ·clear h
     intro v149 h
     refine rK fun K150 RK150 hK150 gK150=>zz ?_
     rcases iK k h with⟨k,h⟩|⟨k,h⟩
     ·refine zz ?_
      subst hK150 gK150
      cases h
      exact en ⟨rfl,wk []⟩
     ·refine zz ?_
      subst hK150 gK150
      cases h
      exact en ⟨rfl,wk []⟩
    ·rcases iK k h with⟨k,h⟩|⟨k,h⟩
     ·refine xt<|xs<|rz ?_
      refine es<|xr<|br<|er ?_
      cases h
      exact en fr
     ·refine xf<|xs<|rz ?_
      refine es ?_
      rcases iK k h with⟨k,h⟩|⟨k,h⟩
      ·refine xt<|xs<|rz ?_
       refine es<|xr<|br<|er ?_
       cases h
       exact en fr
      ·refine xf<|xs<|rK fun K164 RK164 hK164 gK164=>zz ?_
       obtain⟨r165,h166,h⟩:=bs h
       refine cw (a_charset_Valid hI hU8T h166)<|zz ?_
       subst hK164 gK164
       refine es ?_
       rcases iK k h with⟨k,h⟩|⟨k,h⟩
       ·refine xf<|xk<|bn<|es<|xs<|rz ?_
        refine es<|xs<|xs<|rz ?_
        refine es<|xb ?_
        obtain⟨e173,h198,h⟩:=bs h
        refine rb_loop (fun x172=>⟨envL [(5,.int .i32 x172.1),(60,.ptr 0 0)],heapL [(0,.iter p_0.Forbidden x172.2)],1,68⟩) (fun w=>match w with|Sum.inl _=>.ret|Sum.inr (_)=>.exit 3) (fun w=>match w with|Sum.inl e173=>⟨envL [(2,.int .i64 8)],heapL [],0,68⟩|Sum.inr (e173)=>⟨envL [],heapL [],0,68⟩) h198 (wk [(0,some 15)]) (by intro w;rcases w with w|w<;>simp) ?_ ?_
        ·clear h
         intro x172 y h
         unfold g_profile_Check_s2 at h
         refine xs<|rK fun K188 RK188 hK188 gK188=>zz ?_
         rcases iK k h with⟨k,h⟩|⟨k,h⟩
         ·have k:=And.intro (of_decide_eq_true k.1) k.2
          refine zz ?_
          subst hK188 gK188
          refine es<|xs<|xt<|xk<|es<|xb<|xs<|rz ?_
          refine es<|xs<|xs<|rz ?_
          refine es ?_
          rcases iK k h with⟨k,h⟩|⟨k,h⟩
          ·refine xt<|xs<|rz ?_
           refine es<|xr<|er<|br ?_
           cases h
           exact en ⟨rfl,wk []⟩
          ·refine xf<|xk<|es<|rz ?_
           refine bn ?_
           cases h
           exact en ⟨rfl,wk []⟩
         ·have k:=And.intro (of_decide_eq_false k.1) k.2
          refine zz ?_
          subst hK188 gK188
          refine es<|xs<|xf<|xx<|ee ?_
          cases h
          exact en ⟨rfl,wk []⟩
        ·rcases e173 with e173|e173
         ·try dsimp only at h ⊢
          refine br<|er ?_
          cases h
          exact en fr
         ·try dsimp only at h ⊢
          refine bh<|es<|xs<|rz ?_
          refine es<|xr ?_
          cases h
          exact en fr
       ·refine xt<|xs<|rz ?_
        refine es<|xr<|br<|er ?_
        cases h
        exact en fr
 ·refine xt<|xs<|rz ?_
  refine es<|xr<|er ?_
  cases h
  exact en fr
def g_shots_Check_s1 (l_0:List Int) (x10:Int):Option (Nx (Int) (Int ⊕ Unit)) :=
 (if(decide (x10 < (l_0.length:Int))) then((atI l_0 x10).bind fun y104=>(((if(decide (y104 < 1)) then(some true) else(some (decide (5184000 < y104)))):Option (Bool)).bind fun v108=>(if v108 then(some (.out (.inl 2))) else(if(decide (0 < x10)) then((atI l_0 (IntKind.i64.wrap (x10 - 1))).bind fun y121=>(if(decide (y104≤y121)) then(some (.out (.inl 8))) else(some (.go (IntKind.i64.wrap (x10+1)))))) else(some (.go (IntKind.i64.wrap (x10+1)))))))) else(some (.out (.inr ()))))
def g_shots_Check (l_0:List Int):Option (Int) :=
 (if(decide (400 < (l_0.length:Int))) then(some 9) else((iter (g_shots_Check_s1 l_0) 0).bind fun e11=>(match e11 with|Sum.inl e11=>(some e11)|Sum.inr (e11)=>(some 0))))
theorem a_shots_Check {I:World→Prop} (hI:Stab I) {l_0:List Int} {r:Int} (h:g_shots_Check l_0=some r):AFun Tryz.prog I 32 [.sl (l_0.map (D.int .i64))] (.int .i64 r):=by
 have dd:=dd_EB;have k:=True.intro;have q:=k;have rs:=Tryz.results32
 unfold g_shots_Check at h
 refine .en hI Tryz.func32 Tryz.ntmps32 ?_
 refine xs<|rz ?_
 refine es<|xs<|xs<|rz ?_
 refine es ?_
 rcases iK k h with⟨k,h⟩|⟨k,h⟩
 ·refine xt<|xs<|rz ?_
  refine es<|xr<|er ?_
  cases h
  exact en fr
 ·refine xf<|xk<|es<|xs<|xs<|rz ?_
  refine es<|xb ?_
  obtain⟨e11,h128,h⟩:=bs h
  refine rb_loop (fun x10=>⟨envL [(0,.sl (l_0.map (D.int .i64))),(8,.sl (l_0.map (D.int .i64))),(9,.int .i64 (l_0.length:Int)),(10,.int .i64 x10)],heapL [],0,33⟩) (fun w=>match w with|Sum.inl _=>.ret|Sum.inr (_)=>.exit 0) (fun w=>match w with|Sum.inl e11=>⟨envL [(2,.int .i64 e11)],heapL [],0,33⟩|Sum.inr (e11)=>⟨envL [],heapL [],0,33⟩) h128 (wk []) (by intro w;rcases w with w|w<;>simp) ?_ ?_
  ·clear h
   intro x10 y h
   unfold g_shots_Check_s1 at h
   refine xs<|rz ?_
   refine es<|xs ?_
   rcases iK k h with⟨k,h⟩|⟨k,h⟩
   ·refine xt<|xk<|es<|xs<|xb<|xs<|rK fun K103 RK103 hK103 gK103=>zz ?_
    obtain⟨y104,q,h⟩:=bK q h
    refine zz ?_
    subst hK103 gK103
    refine es<|xs ?_
    obtain⟨v108,h111,h⟩:=bs h
    refine rb_cut (fun v108=>⟨envL [(0,.sl (l_0.map (D.int .i64))),(3,.int .i64 x10),(4,.int .i64 y104),(8,.sl (l_0.map (D.int .i64))),(9,.int .i64 (l_0.length:Int)),(10,.int .i64 x10),(20,.bool v108)],heapL [],0,33⟩) h111 ?_ ?_
    ·clear h
     intro v108 h
     refine rK fun K109 RK109 hK109 gK109=>zz ?_
     rcases iK k h with⟨k,h⟩|⟨k,h⟩
     ·refine zz ?_
      subst hK109 gK109
      cases h
      exact en ⟨rfl,wk []⟩
     ·refine zz ?_
      subst hK109 gK109
      cases h
      exact en ⟨rfl,wk []⟩
    ·rcases iK k h with⟨k,h⟩|⟨k,h⟩
     ·refine xt<|xs<|rz ?_
      refine es<|xr<|er<|br<|er ?_
      cases h
      exact en ⟨rfl,wk []⟩
     ·refine xf<|xk<|es<|xs<|rK fun K119 RK119 hK119 gK119=>zz ?_
      rcases iK k h with⟨k,h⟩|⟨k,h⟩
      ·refine zz ?_
       obtain⟨y121,q,h⟩:=bK q h
       refine zz ?_
       subst hK119 gK119
       refine es ?_
       rcases iK k h with⟨k,h⟩|⟨k,h⟩
       ·refine xt<|xs<|rz ?_
        refine es<|xr<|br<|er ?_
        cases h
        exact en ⟨rfl,wk []⟩
       ·refine xf<|xk<|bn<|es<|rz ?_
        cases h
        exact en ⟨rfl,wk []⟩
      ·refine zz ?_
       subst hK119 gK119
       refine es<|xf<|xk<|bn<|es<|rz ?_
       cases h
       exact en ⟨rfl,wk []⟩
   ·refine xf<|xx<|ee ?_
    cases h
    exact en ⟨rfl,wk []⟩
  ·rcases e11 with e11|e11
   ·try dsimp only at h ⊢
    refine br<|er ?_
    cases h
    exact en fr
   ·try dsimp only at h ⊢
    refine bh<|es<|xs<|rz ?_
    refine es<|xr ?_
    cases h
    exact en fr
def g_repair_check (d_0:T_api_Document) (p_1:T_api_Profile) (l_2:List Int) (tol_3:Int):Option (Int) :=
 ((g_document_Check d_0).bind fun r7=>(if(r7 != 0) then(some r7) else((g_profile_Check p_1).bind fun r18=>(if(r18 != 0) then(some r18) else((g_shots_Check l_2).bind fun r29=>(if(r29 != 0) then(some r29) else(((if(decide (tol_3 < 0)) then(some true) else(some (decide (5184000 < tol_3)))):Option (Bool)).bind fun v52=>(if v52 then(some 2) else(if(decide (255 < (d_0.Events.length:Int))) then(some 9) else(some 0))))))))))
theorem a_repair_check {I:World→Prop} (hI:Stab I) (hShp:∀ w,I w→Shp w) (hU8T:∀ w,I w→U8T w) {d_0:T_api_Document} {p_1:T_api_Profile} {l_2:List Int} {tol_3:Int} {r:Int} (h:g_repair_check d_0 p_1 l_2 tol_3=some r):AFun Tryz.prog I 37 [T_api_Document.d d_0,T_api_Profile.d p_1,.sl (l_2.map (D.int .i64)),.int .i64 tol_3] (.int .i64 r):=by
 have dd:=dd_EB;have k:=True.intro;have q:=k;have rs:=Tryz.results37
 unfold g_repair_check at h
 refine .en hI Tryz.func37 Tryz.ntmps37 ?_
 refine xs<|rz ?_
 refine es<|xs<|xs<|rK fun K6 RK6 hK6 gK6=>zz ?_
 obtain⟨r7,h8,h⟩:=bs h
 refine cw (a_document_Check hI hShp hU8T h8)<|zz ?_
 subst hK6 gK6
 refine es<|xs<|rz ?_
 refine es ?_
 rcases iK k h with⟨k,h⟩|⟨k,h⟩
 ·refine xt<|xs<|rz ?_
  refine es<|xr<|er ?_
  cases h
  exact en fr
 ·refine xf<|xk<|es<|xs<|xs<|rK fun K17 RK17 hK17 gK17=>zz ?_
  obtain⟨r18,h19,h⟩:=bs h
  refine cw (a_profile_Check hI hU8T h19)<|zz ?_
  subst hK17 gK17
  refine es<|xs<|rz ?_
  refine es ?_
  rcases iK k h with⟨k,h⟩|⟨k,h⟩
  ·refine xt<|xs<|rz ?_
   refine es<|xr<|er ?_
   cases h
   exact en fr
  ·refine xf<|xk<|es<|xs<|xs<|rK fun K28 RK28 hK28 gK28=>zz ?_
   obtain⟨r29,h30,h⟩:=bs h
   refine cw (a_shots_Check hI h30)<|zz ?_
   subst hK28 gK28
   refine es<|xs<|rz ?_
   refine es ?_
   rcases iK k h with⟨k,h⟩|⟨k,h⟩
   ·refine xt<|xs<|rz ?_
    refine es<|xr<|er ?_
    cases h
    exact en fr
   ·refine xf<|xk<|es<|xs<|xb ?_
    obtain⟨v52,h55,h⟩:=bs h
    refine rb_cut (fun v52=>⟨envL [(4,.ptr 0 0),(27,.bool v52)],heapL [(0,.box none [.str d_0.Title,.str d_0.Lang,.int .u8 d_0.Rate,.bool d_0.Drop,.int .i64 d_0.Last,.sl (d_0.Regions.map T_api_Region.d),.sl (d_0.Events.map T_api_Event.d),.sl (d_0.Comments.map T_api_Comment.d)])],1,39⟩) h55 ?_ ?_
    ·clear h
     intro v52 h
     refine rK fun K53 RK53 hK53 gK53=>zz ?_
     rcases iK k h with⟨k,h⟩|⟨k,h⟩
     ·refine zz ?_
      subst hK53 gK53
      cases h
      exact en ⟨rfl,wk []⟩
     ·refine zz ?_
      subst hK53 gK53
      cases h
      exact en ⟨rfl,wk []⟩
    ·rcases iK k h with⟨k,h⟩|⟨k,h⟩
     ·refine xt<|xs<|rz ?_
      refine es<|xr<|br<|er ?_
      cases h
      exact en fr
     ·refine xf<|xs<|rz ?_
      refine es ?_
      rcases iK k h with⟨k,h⟩|⟨k,h⟩
      ·refine xt<|xs<|rz ?_
       refine es<|xr<|br<|er ?_
       cases h
       exact en fr
      ·refine xf<|xk<|bn<|es<|xs<|rz ?_
       refine es<|xr ?_
       cases h
       exact en fr
def g_repair_letters_s2 (r133:(List UInt8)) (x135:Int × Nat):Option (Nx (Int × Nat) (Int)) :=
 (if(decide (x135.2 < r133.length)) then(if((runeAt r133 x135.2) != 32) then(some (.go ((IntKind.i64.wrap (x135.1+1)),(x135.2+widthAt r133 x135.2)))) else(some (.go (x135.1,(x135.2+widthAt r133 x135.2))))) else(some (.out x135.1)))
def g_repair_letters_s1 (e_0:T_api_Event) (x7:Int × Int):Option (Nx (Int × Int) (Int)) :=
 (if(decide (x7.2 < (e_0.Rows.length:Int))) then((atI e_0.Rows x7.2).bind fun y127=>((g_style_Plain y127).bind fun r133=>((iter (g_repair_letters_s2 r133) (x7.1,0)).bind fun e136=>(some (.go (e136,(IntKind.i64.wrap (x7.2+1)))))))) else(some (.out x7.1)))
def g_repair_letters (e_0:T_api_Event):Option (Int) :=
 ((iter (g_repair_letters_s1 e_0) (0,0)).bind fun e8=>(some e8))
theorem a_repair_letters {I:World→Prop} (hI:Stab I) {e_0:T_api_Event} {r:Int} (h:g_repair_letters e_0=some r):AFun Tryz.prog I 39 [T_api_Event.d e_0] (.int .i64 r):=by
 have dd:=dd_EB;have k:=True.intro;have q:=k;have rs:=Tryz.results39
 unfold g_repair_letters at h
 refine .en hI Tryz.func39 Tryz.ntmps39 ?_
 refine xs<|rz ?_
 refine es<|xs<|rz ?_
 refine es<|xs<|xs<|rz ?_
 refine es<|xb ?_
 obtain⟨e8,h159,h⟩:=bs h
 refine rb_loop (fun x7=>⟨envL [(3,.int .i64 x7.1),(9,.sl (e_0.Rows.map T_api_Row.d)),(10,.int .i64 (e_0.Rows.length:Int)),(11,.int .i64 x7.2)],heapL [],0,27⟩) (fun _=>.exit 0) (fun e8=>⟨envL [(3,.int .i64 e8)],heapL [],0,27⟩) h159 (wk []) (by intro w;simp) ?_ ?_
 ·clear h
  intro x7 y h
  unfold g_repair_letters_s1 at h
  refine xs<|rz ?_
  refine es<|xs ?_
  rcases iK k h with⟨k,h⟩|⟨k,h⟩
  ·refine xt<|xk<|es<|xs<|xb<|xs<|rK fun K126 RK126 hK126 gK126=>zz ?_
   obtain⟨y127,q,h⟩:=bK q h
   refine zz ?_
   subst hK126 gK126
   refine es<|xs<|rK fun K132 RK132 hK132 gK132=>zz ?_
   obtain⟨r133,h134,h⟩:=bs h
   refine cw (a_style_Plain hI h134)<|zz ?_
   subst hK132 gK132
   refine es<|xb ?_
   obtain⟨e136,h157,h⟩:=bs h
   refine rb_loop (fun x135=>⟨envL [(3,.int .i64 x135.1),(9,.sl (e_0.Rows.map T_api_Row.d)),(10,.int .i64 (e_0.Rows.length:Int)),(11,.int .i64 x7.2),(17,.ptr 0 0)],heapL [(0,.iter r133 x135.2)],1,27⟩) (fun _=>.exit 2) (fun e136=>⟨envL [(3,.int .i64 e136),(9,.sl (e_0.Rows.map T_api_Row.d)),(10,.int .i64 (e_0.Rows.length:Int)),(11,.int .i64 x7.2)],heapL [],0,27⟩) h157 (wk [(0,some 7)]) (by intro w;simp) ?_ ?_
   ·clear h
    intro x135 y h
    unfold g_repair_letters_s2 at h
    refine xs<|rK fun K149 RK149 hK149 gK149=>zz ?_
    rcases iK k h with⟨k,h⟩|⟨k,h⟩
    ·have k:=And.intro (of_decide_eq_true k.1) k.2
     refine zz ?_
     subst hK149 gK149
     refine es<|xs<|xt<|xk<|es<|xb<|xs<|rz ?_
     refine es<|xs<|rz ?_
     refine es ?_
     rcases iK k h with⟨k,h⟩|⟨k,h⟩
     ·refine xt<|rz ?_
      refine bn ?_
      cases h
      exact en ⟨rfl,wk []⟩
     ·refine xf<|xk<|bn ?_
      cases h
      exact en ⟨rfl,wk []⟩
    ·have k:=And.intro (of_decide_eq_false k.1) k.2
     refine zz ?_
     subst hK149 gK149
     refine es<|xs<|xf<|xx<|ee ?_
     cases h
     exact en ⟨rfl,wk []⟩
   ·refine bh<|bn<|es<|rz ?_
    cases h
    exact en ⟨rfl,wk []⟩
  ·refine xf<|xx<|ee ?_
   cases h
   exact en ⟨rfl,wk []⟩
 ·refine bh<|es<|xs<|rz ?_
  refine es<|xr ?_
  cases h
  exact en fr
def g_reading_within (n_0:Int) (lo_1:Int) (hi_2:Int):Option (Bool) :=
 (if(decide (lo_1≤n_0)) then(some (decide (n_0≤hi_2))) else(some false))
theorem a_reading_within {I:World→Prop} (hI:Stab I) {n_0:Int} {lo_1:Int} {hi_2:Int} {r:Bool} (h:g_reading_within n_0 lo_1 hi_2=some r):AFun Tryz.prog I 87 [.int .i64 n_0,.int .i64 lo_1,.int .i64 hi_2] (.bool r):=by
 have dd:=dd_EB;have k:=True.intro;have q:=k;have rs:=Tryz.results87
 unfold g_reading_within at h
 refine .en hI Tryz.func87 Tryz.ntmps87 ?_
 refine xs<|rz ?_
 refine es<|xs<|rK fun K5 RK5 hK5 gK5=>zz ?_
 rcases iK k h with⟨k,h⟩|⟨k,h⟩
 ·refine zz ?_
  subst hK5 gK5
  refine es<|xr ?_
  cases h
  exact en fr
 ·refine zz ?_
  subst hK5 gK5
  refine es<|xr ?_
  cases h
  exact en fr
def g_reading_load (chars_0:Int):Option (Int) :=
 (some (IntKind.i64.wrap ((IntKind.i64.wrap (chars_0 * 100)) * 120000)))
theorem a_reading_load {I:World→Prop} (hI:Stab I) {chars_0:Int} {r:Int} (h:g_reading_load chars_0=some r):AFun Tryz.prog I 89 [.int .i64 chars_0] (.int .i64 r):=by
 have dd:=dd_EB;have k:=True.intro;have q:=k;have rs:=Tryz.results89
 unfold g_reading_load at h
 refine .en hI Tryz.func89 Tryz.ntmps89 ?_
 refine xs<|rz ?_
 refine es<|xs<|rz ?_
 refine es<|xr ?_
 cases h
 exact en fr
def g_timebase_Ticks (r_0:Int):Option (Int) :=
 ((g_timebase_of r_0).bind fun r7=>(some r7.ticks_))
theorem a_timebase_Ticks {I:World→Prop} (hI:Stab I) {r_0:Int} {r:Int} (h:g_timebase_Ticks r_0=some r):AFun Tryz.prog I 90 [.int .u8 r_0] (.int .i64 r):=by
 have dd:=dd_EB;have k:=True.intro;have q:=k;have rs:=Tryz.results90
 unfold g_timebase_Ticks at h
 refine .en hI Tryz.func90 Tryz.ntmps90 ?_
 refine xs<|rz ?_
 refine es<|xs<|rK fun K6 RK6 hK6 gK6=>zz ?_
 obtain⟨r7,h8,h⟩:=bs h
 refine cw (a_timebase_of hI h8)<|zz ?_
 subst hK6 gK6
 refine es<|xr ?_
 cases h
 exact en fr
def g_reading_up (a_0:Int) (b_1:Int):Option (Int) :=
 (if ¬ b_1=0 then(some (IntKind.i64.wrap (Int.tdiv (IntKind.i64.wrap ((IntKind.i64.wrap (a_0+b_1)) - 1)) b_1))) else none)
theorem a_reading_up {I:World→Prop} (hI:Stab I) {a_0:Int} {b_1:Int} {r:Int} (h:g_reading_up a_0 b_1=some r):AFun Tryz.prog I 88 [.int .i64 a_0,.int .i64 b_1] (.int .i64 r):=by
 have dd:=dd_EB;have k:=True.intro;have q:=k;have rs:=Tryz.results88
 unfold g_reading_up at h
 refine .en hI Tryz.func88 Tryz.ntmps88 ?_
 refine xs<|rz ?_
 refine es<|xs<|rK fun K4 RK4 hK4 gK4=>zz ?_
 obtain⟨q,h⟩:=oK q h
 refine zz ?_
 subst hK4 gK4
 refine es<|xr ?_
 cases h
 exact en fr
def g_reading_Needed (rate_0:Int) (chars_1:Int) (limit_2:Int):Option (Int × Int) :=
 ((g_timebase_Valid rate_0).bind fun r7=>(if r7 then((((g_reading_within chars_1 0 10000).bind fun r18=>(if r18 then((g_reading_within limit_2 1 10000).bind fun r21=>(some (!r21))) else(some true))):Option (Bool)).bind fun v16=>(if v16 then(some (0,2)) else((g_reading_load chars_1).bind fun r35=>((g_timebase_Ticks rate_0).bind fun r37=>((g_reading_up r35 (IntKind.i64.wrap (limit_2 * r37))).bind fun r39=>(some (r39,0))))))) else(some (0,3))))
theorem a_reading_Needed {I:World→Prop} (hI:Stab I) {rate_0:Int} {chars_1:Int} {limit_2:Int} {r:Int × Int} (h:g_reading_Needed rate_0 chars_1 limit_2=some r):AFun Tryz.prog I 38 [.int .u8 rate_0,.int .i64 chars_1,.int .i64 limit_2] (.tup [.int .i64 r.1,.int .i64 r.2]):=by
 have dd:=dd_EB;have k:=True.intro;have q:=k;have rs:=Tryz.results38
 unfold g_reading_Needed at h
 refine .en hI Tryz.func38 Tryz.ntmps38 ?_
 refine xs<|rz ?_
 refine es<|xs<|xs<|rK fun K6 RK6 hK6 gK6=>zz ?_
 obtain⟨r7,h8,h⟩:=bs h
 refine cw (a_timebase_Valid hI h8)<|zz ?_
 subst hK6 gK6
 refine es ?_
 rcases iK k h with⟨k,h⟩|⟨k,h⟩
 ·refine xf<|xk<|es<|xs ?_
  obtain⟨v16,h23,h⟩:=bs h
  refine rb_cut (fun v16=>⟨envL [(0,.int .u8 rate_0),(1,.int .i64 chars_1),(2,.int .i64 limit_2),(18,.bool v16)],heapL [],0,26⟩) h23 ?_ ?_
  ·clear h
   intro v16 h
   refine rK fun K17 RK17 hK17 gK17=>zz ?_
   obtain⟨r18,h19,h⟩:=bs h
   refine cw (a_reading_within hI h19)<|zz ?_
   rcases iK k h with⟨k,h⟩|⟨k,h⟩
   ·refine zz ?_
    obtain⟨r21,h22,h⟩:=bs h
    refine cw (a_reading_within hI h22)<|zz ?_
    subst hK17 gK17
    cases h
    exact en ⟨rfl,wk []⟩
   ·refine zz ?_
    subst hK17 gK17
    cases h
    exact en ⟨rfl,wk []⟩
  ·rcases iK k h with⟨k,h⟩|⟨k,h⟩
   ·refine xt<|xs<|rz ?_
    refine es<|xr<|er ?_
    cases h
    exact en fr
   ·refine xf<|xk<|es<|xs<|rK fun K34 RK34 hK34 gK34=>zz ?_
    obtain⟨r35,h36,h⟩:=bs h
    refine cw (a_reading_load hI h36)<|zz ?_
    obtain⟨r37,h38,h⟩:=bs h
    refine cw (a_timebase_Ticks hI h38)<|zz ?_
    obtain⟨r39,h40,h⟩:=bs h
    refine cw (a_reading_up hI h40)<|zz ?_
    subst hK34 gK34
    refine es<|xr ?_
    cases h
    exact en fr
 ·refine xt<|xs<|rz ?_
  refine es<|xr<|er ?_
  cases h
  exact en fr
def g_shots_frame (f_0:Int):Option (Bool) :=
 (if(decide (0≤f_0)) then(some (decide (f_0≤5184000))) else(some false))
theorem a_shots_frame {I:World→Prop} (hI:Stab I) {f_0:Int} {r:Bool} (h:g_shots_frame f_0=some r):AFun Tryz.prog I 122 [.int .i64 f_0] (.bool r):=by
 have dd:=dd_EB;have k:=True.intro;have q:=k;have rs:=Tryz.results122
 unfold g_shots_frame at h
 refine .en hI Tryz.func122 Tryz.ntmps122 ?_
 refine xs<|rz ?_
 refine es<|xs<|rK fun K5 RK5 hK5 gK5=>zz ?_
 rcases iK k h with⟨k,h⟩|⟨k,h⟩
 ·refine zz ?_
  subst hK5 gK5
  refine es<|xr ?_
  cases h
  exact en fr
 ·refine zz ?_
  subst hK5 gK5
  refine es<|xr ?_
  cases h
  exact en fr
def g_shots_usable (l_0:List Int) (f_1:Int) (before_2:Int) (after_3:Int):Option (Bool) :=
 ((g_shots_Check l_0).bind fun r16=>(if(r16 == 0) then((g_shots_frame f_1).bind fun r19=>(if r19 then((g_shots_frame before_2).bind fun r22=>(if r22 then((g_shots_frame after_3).bind fun r25=>(some r25)) else(some false))) else(some false))) else(some false)))
theorem a_shots_usable {I:World→Prop} (hI:Stab I) {l_0:List Int} {f_1:Int} {before_2:Int} {after_3:Int} {r:Bool} (h:g_shots_usable l_0 f_1 before_2 after_3=some r):AFun Tryz.prog I 121 [.sl (l_0.map (D.int .i64)),.int .i64 f_1,.int .i64 before_2,.int .i64 after_3] (.bool r):=by
 have dd:=dd_EB;have k:=True.intro;have q:=k;have rs:=Tryz.results121
 unfold g_shots_usable at h
 refine .en hI Tryz.func121 Tryz.ntmps121 ?_
 refine xs<|rz ?_
 refine es<|xs<|rK fun K15 RK15 hK15 gK15=>zz ?_
 obtain⟨r16,h17,h⟩:=bs h
 refine cw (a_shots_Check hI h17)<|zz ?_
 rcases iK k h with⟨k,h⟩|⟨k,h⟩
 ·refine zz ?_
  obtain⟨r19,h20,h⟩:=bs h
  refine cw (a_shots_frame hI h20)<|zz ?_
  rcases iK k h with⟨k,h⟩|⟨k,h⟩
  ·refine zz ?_
   obtain⟨r22,h23,h⟩:=bs h
   refine cw (a_shots_frame hI h23)<|zz ?_
   rcases iK k h with⟨k,h⟩|⟨k,h⟩
   ·refine zz ?_
    obtain⟨r25,h26,h⟩:=bs h
    refine cw (a_shots_frame hI h26)<|zz ?_
    subst hK15 gK15
    refine es<|xr ?_
    cases h
    exact en fr
   ·refine zz ?_
    subst hK15 gK15
    refine es<|xr ?_
    cases h
    exact en fr
  ·refine zz ?_
   subst hK15 gK15
   refine es<|xr ?_
   cases h
   exact en fr
 ·refine zz ?_
  subst hK15 gK15
  refine es<|xr ?_
  cases h
  exact en fr
def g_shots_tooClose_s1 (l_0:List Int) (f_1:Int) (before_2:Int) (after_3:Int) (x5:Int):Option (Nx (Int) (Int ⊕ Unit)) :=
 (if(decide (x5 < (l_0.length:Int))) then((atI l_0 x5).bind fun y83=>(((if(decide ((IntKind.i64.wrap (y83 - before_2)) < f_1)) then(if(decide (f_1 < y83)) then(some true) else(if(decide (y83 < f_1)) then(some (decide (f_1 < (IntKind.i64.wrap (y83+after_3))))) else(some false))) else(if(decide (y83 < f_1)) then(some (decide (f_1 < (IntKind.i64.wrap (y83+after_3))))) else(some false))):Option (Bool)).bind fun v90=>(if v90 then(some (.out (.inl y83))) else(some (.go (IntKind.i64.wrap (x5+1))))))) else(some (.out (.inr ()))))
def g_shots_tooClose (l_0:List Int) (f_1:Int) (before_2:Int) (after_3:Int):Option (Int × Bool) :=
 ((iter (g_shots_tooClose_s1 l_0 f_1 before_2 after_3) 0).bind fun e6=>(match e6 with|Sum.inl e6=>(some (e6,true))|Sum.inr (e6)=>(some (0,false))))
theorem a_shots_tooClose {I:World→Prop} (hI:Stab I) {l_0:List Int} {f_1:Int} {before_2:Int} {after_3:Int} {r:Int × Bool} (h:g_shots_tooClose l_0 f_1 before_2 after_3=some r):AFun Tryz.prog I 123 [.sl (l_0.map (D.int .i64)),.int .i64 f_1,.int .i64 before_2,.int .i64 after_3] (.tup [.int .i64 r.1,.bool r.2]):=by
 have dd:=dd_EB;have k:=True.intro;have q:=k;have rs:=Tryz.results123
 unfold g_shots_tooClose at h
 refine .en hI Tryz.func123 Tryz.ntmps123 ?_
 refine xs<|rz ?_
 refine es<|xs<|xs<|rz ?_
 refine es<|xb ?_
 obtain⟨e6,h101,h⟩:=bs h
 refine rb_loop (fun x5=>⟨envL [(1,.int .i64 f_1),(2,.int .i64 before_2),(3,.int .i64 after_3),(12,.sl (l_0.map (D.int .i64))),(13,.int .i64 (l_0.length:Int)),(14,.int .i64 x5)],heapL [],0,42⟩) (fun w=>match w with|Sum.inl _=>.ret|Sum.inr (_)=>.exit 0) (fun w=>match w with|Sum.inl e6=>⟨envL [(8,.int .i64 e6),(9,.bool true)],heapL [],0,42⟩|Sum.inr (e6)=>⟨envL [],heapL [],0,42⟩) h101 (wk []) (by intro w;rcases w with w|w<;>simp) ?_ ?_
 ·clear h
  intro x5 y h
  unfold g_shots_tooClose_s1 at h
  refine xs<|rz ?_
  refine es<|xs ?_
  rcases iK k h with⟨k,h⟩|⟨k,h⟩
  ·refine xt<|xk<|es<|xs<|xb<|xs<|rK fun K82 RK82 hK82 gK82=>zz ?_
   obtain⟨y83,q,h⟩:=bK q h
   refine zz ?_
   subst hK82 gK82
   refine es ?_
   obtain⟨v90,h96,h⟩:=bs h
   refine rb_cut (fun v90=>⟨envL [(1,.int .i64 f_1),(2,.int .i64 before_2),(3,.int .i64 after_3),(11,.int .i64 y83),(12,.sl (l_0.map (D.int .i64))),(13,.int .i64 (l_0.length:Int)),(14,.int .i64 x5),(39,.bool v90)],heapL [],0,42⟩) h96 ?_ ?_
   ·clear h
    intro v90 h
    refine rK fun K91 RK91 hK91 gK91=>zz ?_
    rcases iK k h with⟨k,h⟩|⟨k,h⟩
    ·refine zz ?_
     rcases iK k h with⟨k,h⟩|⟨k,h⟩
     ·refine zz ?_
      subst hK91 gK91
      cases h
      exact en ⟨rfl,wk []⟩
     ·refine zz ?_
      rcases iK k h with⟨k,h⟩|⟨k,h⟩
      ·refine zz ?_
       subst hK91 gK91
       cases h
       exact en ⟨rfl,wk []⟩
      ·refine zz ?_
       subst hK91 gK91
       cases h
       exact en ⟨rfl,wk []⟩
    ·refine zz ?_
     rcases iK k h with⟨k,h⟩|⟨k,h⟩
     ·refine zz ?_
      subst hK91 gK91
      cases h
      exact en ⟨rfl,wk []⟩
     ·refine zz ?_
      subst hK91 gK91
      cases h
      exact en ⟨rfl,wk []⟩
   ·rcases iK k h with⟨k,h⟩|⟨k,h⟩
    ·refine xt<|xs<|rz ?_
     refine es<|xr<|br<|er ?_
     cases h
     exact en ⟨rfl,wk []⟩
    ·refine xf<|xk<|bn<|es<|rz ?_
     cases h
     exact en ⟨rfl,wk []⟩
  ·refine xf<|xx<|ee ?_
   cases h
   exact en ⟨rfl,wk []⟩
 ·rcases e6 with e6|e6
  ·try dsimp only at h ⊢
   refine br<|er ?_
   cases h
   exact en fr
  ·try dsimp only at h ⊢
   refine bh<|es<|xs<|rz ?_
   refine es<|xr ?_
   cases h
   exact en fr
def g_shots_size (n_0:Int):Option (Int) :=
 (some (if(IntKind.i64.wrap (0 - n_0)) > n_0 then(IntKind.i64.wrap (0 - n_0)) else n_0))
theorem a_shots_size {I:World→Prop} (hI:Stab I) {n_0:Int} {r:Int} (h:g_shots_size n_0=some r):AFun Tryz.prog I 124 [.int .i64 n_0] (.int .i64 r):=by
 have dd:=dd_EB;have k:=True.intro;have q:=k;have rs:=Tryz.results124
 unfold g_shots_size at h
 refine .en hI Tryz.func124 Tryz.ntmps124 ?_
 refine xs<|rz ?_
 refine es<|xs<|rz ?_
 refine es<|xr ?_
 cases h
 exact en fr
def g_shots_Snap_s1 (l_0:List Int) (before_2:Int) (after_3:Int) (x14:Int × (List Int)):Option (Nx (Int × (List Int)) ((List Int))) :=
 (if(decide (x14.1 < (l_0.length:Int))) then((atI l_0 x14.1).bind fun y56=>(if(x14.2.length+3) * 8≤140737488355328 then(some (.go ((IntKind.i64.wrap (x14.1+1)),(x14.2++[(IntKind.i64.wrap (y56 - before_2)),y56,(IntKind.i64.wrap (y56+after_3))])))) else none)) else(some (.out x14.2)))
def g_shots_Snap_s2 (l_0:List Int) (f_1:Int) (before_2:Int) (after_3:Int) (e15:(List Int)) (x67:Int × Bool × Int):Option (Nx (Int × Bool × Int) (Int × Bool)) :=
 (if(decide (x67.2.2 < ((e15.length:Nat):Int))) then((atI e15 x67.2.2).bind fun y332=>((g_shots_frame y332).bind fun r337=>(if r337 then((g_shots_tooClose l_0 y332 before_2 after_3).bind fun r344=>(if r344.2 then(some (.go (x67.1,x67.2.1,(IntKind.i64.wrap (x67.2.2+1))))) else(((if x67.2.1 then((g_shots_size (IntKind.i64.wrap (y332 - f_1))).bind fun r365=>((g_shots_size (IntKind.i64.wrap (x67.1 - f_1))).bind fun r367=>(if(decide (r365 < r367)) then(some true) else((g_shots_size (IntKind.i64.wrap (y332 - f_1))).bind fun r370=>((g_shots_size (IntKind.i64.wrap (x67.1 - f_1))).bind fun r372=>(if(r370 == r372) then(some (decide (y332 < x67.1))) else(some false))))))) else(some true)):Option (Bool)).bind fun v362=>(if v362 then(some (.go (y332,true,(IntKind.i64.wrap (x67.2.2+1))))) else(some (.go (x67.1,x67.2.1,(IntKind.i64.wrap (x67.2.2+1))))))))) else(some (.go (x67.1,x67.2.1,(IntKind.i64.wrap (x67.2.2+1)))))))) else(some (.out (x67.1,x67.2.1))))
def g_shots_Snap (l_0:List Int) (f_1:Int) (before_2:Int) (after_3:Int):Option (Int × Bool) :=
 ((g_shots_usable l_0 f_1 before_2 after_3).bind fun r7=>(if r7 then((iter (g_shots_Snap_s1 l_0 before_2 after_3) (0,[f_1])).bind fun e15=>((iter (g_shots_Snap_s2 l_0 f_1 before_2 after_3 e15) (0,false,0)).bind fun e68=>(some (e68.1,e68.2)))) else(some (0,false))))
theorem a_shots_Snap {I:World→Prop} (hI:Stab I) {l_0:List Int} {f_1:Int} {before_2:Int} {after_3:Int} {r:Int × Bool} (h:g_shots_Snap l_0 f_1 before_2 after_3=some r):AFun Tryz.prog I 76 [.sl (l_0.map (D.int .i64)),.int .i64 f_1,.int .i64 before_2,.int .i64 after_3] (.tup [.int .i64 r.1,.bool r.2]):=by
 have dd:=dd_EB;have k:=True.intro;have q:=k;have rs:=Tryz.results76
 unfold g_shots_Snap at h
 refine .en hI Tryz.func76 Tryz.ntmps76 ?_
 refine xs<|rz ?_
 refine es<|xs<|xs<|rK fun K6 RK6 hK6 gK6=>zz ?_
 obtain⟨r7,h8,h⟩:=bs h
 refine cw (a_shots_usable hI h8)<|zz ?_
 subst hK6 gK6
 refine es ?_
 rcases iK k h with⟨k,h⟩|⟨k,h⟩
 ·refine xf<|xk<|es<|xs<|rz ?_
  refine es<|xs<|xs<|rz ?_
  refine es<|xb ?_
  obtain⟨e15,h62,h⟩:=bs h
  refine rb_loop (fun x14=>⟨envL [(0,.sl (l_0.map (D.int .i64))),(1,.int .i64 f_1),(2,.int .i64 before_2),(3,.int .i64 after_3),(10,.own 0 x14.2.length),(27,.sl (l_0.map (D.int .i64))),(28,.int .i64 (l_0.length:Int)),(29,.int .i64 x14.1)],heapL [(0,.vec 2 1 (x14.2.map (D.int .i64)) false)],1,95⟩) (fun _=>.exit 0) (fun e15=>⟨envL [(0,.sl (l_0.map (D.int .i64))),(1,.int .i64 f_1),(2,.int .i64 before_2),(3,.int .i64 after_3),(10,.own 0 e15.length)],heapL [(0,.vec 2 1 (e15.map (D.int .i64)) false)],1,95⟩) h62 (wk [(0,some 9)]) (by intro w;simp) ?_ ?_
  ·clear h
   intro x14 y h
   unfold g_shots_Snap_s1 at h
   refine xs<|rz ?_
   refine es<|xs ?_
   rcases iK k h with⟨k,h⟩|⟨k,h⟩
   ·refine xt<|xk<|es<|xs<|xb<|xs<|rK fun K55 RK55 hK55 gK55=>zz ?_
    obtain⟨y56,q,h⟩:=bK q h
    refine zz ?_
    subst hK55 gK55
    refine es<|rK fun K58 RK58 hK58 gK58=>zz ?_
    obtain⟨h59,h⟩:=ite_on h
    have h60:x14.2.length+3≤9223372036854775807:=by omega
    try simp only[Nat.reduceLeDiff] at h60
    have q:=And.intro @h60<|And.intro @h59<|q
    refine zz ?_
    subst hK58 gK58
    refine bn<|es<|rz ?_
    cases h
    exact en ⟨rfl,wk [(0,some 14)]⟩
   ·refine xf<|xx<|ee ?_
    cases h
    exact en ⟨rfl,wk []⟩
  ·refine bh<|es<|xs<|rz ?_
   refine es<|xs<|xs<|rz ?_
   refine es<|xb ?_
   obtain⟨e68,h381,h⟩:=bs h
   refine rb_loop (fun x67=>⟨envL [(0,.sl (l_0.map (D.int .i64))),(1,.int .i64 f_1),(2,.int .i64 before_2),(3,.int .i64 after_3),(13,.int .i64 x67.1),(14,.bool x67.2.1),(44,.own 0 e15.length),(45,.int .i64 ((e15.length:Nat):Int)),(46,.int .i64 x67.2.2)],heapL [(0,.vec 2 1 (e15.map (D.int .i64)) false)],1,95⟩) (fun _=>.exit 2) (fun e68=>⟨envL [(13,.int .i64 e68.1),(14,.bool e68.2)],heapL [],0,95⟩) h381 (wk []) (by intro w;simp) ?_ ?_
   ·clear h
    intro x67 y h
    unfold g_shots_Snap_s2 at h
    refine xs<|rz ?_
    refine es<|xs ?_
    rcases iK k h with⟨k,h⟩|⟨k,h⟩
    ·refine xt<|xk<|es<|xs<|xb<|xs<|rK fun K331 RK331 hK331 gK331=>zz ?_
     obtain⟨y332,q,h⟩:=oN q h
     refine zz ?_
     subst hK331 gK331
     refine es<|xs<|xs<|rK fun K336 RK336 hK336 gK336=>zz ?_
     obtain⟨r337,h338,h⟩:=bs h
     refine cw (a_shots_frame hI h338)<|zz ?_
     subst hK336 gK336
     refine es ?_
     rcases iK k h with⟨k,h⟩|⟨k,h⟩
     ·refine xf<|xk<|es<|xs<|xs<|rK fun K343 RK343 hK343 gK343=>zz ?_
      obtain⟨r344,h345,h⟩:=bs h
      refine cw (a_shots_tooClose hI h345)<|zz ?_
      subst hK343 gK343
      refine es<|xs<|rz ?_
      refine es ?_
      rcases iK k h with⟨k,h⟩|⟨k,h⟩
      ·refine xt<|xx<|ee<|bh<|es<|rz ?_
       cases h
       exact en ⟨rfl,wk []⟩
      ·refine xf<|xk<|es ?_
       obtain⟨v362,h375,h⟩:=bs h
       refine rb_cut (fun v362=>⟨envL [(0,.sl (l_0.map (D.int .i64))),(1,.int .i64 f_1),(2,.int .i64 before_2),(3,.int .i64 after_3),(13,.int .i64 x67.1),(14,.bool x67.2.1),(16,.int .i64 y332),(44,.own 0 e15.length),(45,.int .i64 ((e15.length:Nat):Int)),(46,.int .i64 x67.2.2),(90,.bool v362)],heapL [(0,.vec 2 1 (e15.map (D.int .i64)) false)],1,95⟩) h375 ?_ ?_
       ·clear h
        intro v362 h
        refine rK fun K363 RK363 hK363 gK363=>zz ?_
        rcases iK k h with⟨k,h⟩|⟨k,h⟩
        ·refine zz ?_
         obtain⟨r365,h366,h⟩:=bs h
         refine cw (a_shots_size hI h366)<|zz ?_
         obtain⟨r367,h368,h⟩:=bs h
         refine cw (a_shots_size hI h368)<|zz ?_
         rcases iK k h with⟨k,h⟩|⟨k,h⟩
         ·refine zz ?_
          subst hK363 gK363
          cases h
          exact en ⟨rfl,wk []⟩
         ·refine zz ?_
          obtain⟨r370,h371,h⟩:=bs h
          refine cw (a_shots_size hI h371)<|zz ?_
          obtain⟨r372,h373,h⟩:=bs h
          refine cw (a_shots_size hI h373)<|zz ?_
          rcases iK k h with⟨k,h⟩|⟨k,h⟩
          ·refine zz ?_
           subst hK363 gK363
           cases h
           exact en ⟨rfl,wk []⟩
          ·refine zz ?_
           subst hK363 gK363
           cases h
           exact en ⟨rfl,wk []⟩
        ·refine zz ?_
         subst hK363 gK363
         cases h
         exact en ⟨rfl,wk []⟩
       ·rcases iK k h with⟨k,h⟩|⟨k,h⟩
        ·refine xt<|rz ?_
         refine bn<|es<|rz ?_
         cases h
         exact en ⟨rfl,wk []⟩
        ·refine xf<|xk<|bn<|es<|rz ?_
         cases h
         exact en ⟨rfl,wk []⟩
     ·refine xt<|xx<|ee<|bh<|es<|rz ?_
      cases h
      exact en ⟨rfl,wk []⟩
    ·refine xf<|xx<|ee ?_
     cases h
     exact en ⟨rfl,wk []⟩
   ·refine bh<|es<|xs<|rz ?_
    refine es<|xr ?_
    cases h
    exact en fr
 ·refine xt<|xs<|rz ?_
  refine es<|xr<|er ?_
  cases h
  exact en fr
def g_repair_zone_1 (from_0:Int) (below_1:Int) (a_2:Int) (a_3:T_api_Span):Option (Int × T_api_Span) :=
 (if(decide (below_1≤from_0)) then(some (a_2,a_3)) else(if(decide (below_1≤a_2)) then(if(decide (a_2 < from_0)) then(some (a_2,(T_api_Span.mk (if below_1 > a_3.In then below_1 else a_3.In) (if from_0 < a_3.Out then from_0 else a_3.Out)))) else(some (a_2,(T_api_Span.mk (if below_1 > a_3.In then below_1 else a_3.In) a_3.Out)))) else(if(decide (a_2 < from_0)) then(some (a_2,(T_api_Span.mk a_3.In (if from_0 < a_3.Out then from_0 else a_3.Out)))) else(some (a_2,a_3)))))
theorem a_repair_zone_1 {I:World→Prop} (hI:Stab I) {H:Nat→Option Blk} {nid:Nat} {i0 i1:Nat} {p0 p1:Option Nat} {from_0:Int} {below_1:Int} {a_2:Int} {a_3:T_api_Span} {r:Int × T_api_Span} (h:g_repair_zone_1 from_0 below_1 a_2 a_3=some r) (b0:H i0=some (.box p0 [.int .i64 a_2])) (b1:H i1=some (.box p1 [.int .i64 a_3.In,.int .i64 a_3.Out])) (hne:[i0,i1].Nodup):CallOK Tryz.prog I 77 [.int .i64 from_0,.int .i64 below_1,.ptr i0 0,.ptr i1 0] H nid (.tup []) [(i0,some (.box p0 [.int .i64 r.1])),(i1,some (.box p1 [.int .i64 r.2.In,.int .i64 r.2.Out]))]:=by
 refine CallOK.intro (is:=[(i0,p0),(i1,p1)]) (css:=[[.int .i64 a_2],[.int .i64 a_3.In,.int .i64 a_3.Out]]) (ds0:=[.int .i64 from_0,.int .i64 below_1,.ptr 0 0,.ptr 1 0]) (pl:=[(2,none),(3,none)]) hI Tryz.func77 rfl (by decide) (by simp[Tryz.f77]) (by kernel_rfl) rfl rfl rfl rfl (lentAll_of ⟨⟨b0,rfl⟩,⟨⟨b1,rfl⟩,trivial⟩⟩) hne ?_
 have dd:=dd_EB;have k:=True.intro;have q:=k;have rs:=Tryz.results77
 unfold g_repair_zone_1 at h
 simp only[lentH,List.length_cons,List.length_nil,Nat.zero_add,Nat.reduceAdd,Tryz.ntmps77,dd_EB]
 refine xs<|xs<|rz ?_
 refine es ?_
 rcases iK k h with⟨k,h⟩|⟨k,h⟩
 ·refine xt<|xr<|er ?_
  cases h
  exact en fp
 ·refine xf<|xk<|es<|xs<|xs<|rz ?_
  refine es ?_
  rcases iK k h with⟨k,h⟩|⟨k,h⟩
  ·refine xt<|rz ?_
   refine es<|xs<|rz ?_
   refine es ?_
   rcases iK k h with⟨k,h⟩|⟨k,h⟩
   ·refine xt<|rz ?_
    cases h
    exact en fp
   ·refine xf<|xk ?_
    cases h
    exact en fp
  ·refine xf<|xk<|es<|xs<|rz ?_
   refine es ?_
   rcases iK k h with⟨k,h⟩|⟨k,h⟩
   ·refine xt<|rz ?_
    cases h
    exact en fp
   ·refine xf<|xk ?_
    cases h
    exact en fp
def g_repair_zone_s1 (l_0:List Int) (p_2:T_api_Profile) (x18:Int × Int × Int × Int):Option (Nx (Int × Int × Int × Int) (Int × Int)) :=
 (if(decide (x18.1 < (l_0.length:Int))) then((atI l_0 x18.1).bind fun y113=>((g_repair_zone_1 (IntKind.i64.wrap ((IntKind.i64.wrap (y113 - p_2.ShotBefore))+1)) y113 x18.2.2.2 (T_api_Span.mk x18.2.1 x18.2.2.1)).bind fun r119=>((g_repair_zone_1 (IntKind.i64.wrap (y113+1)) (IntKind.i64.wrap (y113+p_2.ShotAfter)) r119.1 r119.2).bind fun r122=>(some (.go ((IntKind.i64.wrap (x18.1+1)),r122.2.In,r122.2.Out,r122.1)))))) else(some (.out (x18.2.1,x18.2.2.1))))
def g_repair_zone (l_0:List Int) (frame_1:Int) (p_2:T_api_Profile):Option (T_api_Span × Int) :=
 ((g_shots_Snap l_0 frame_1 p_2.ShotBefore p_2.ShotAfter).bind fun r7=>(if r7.2 then((iter (g_repair_zone_s1 l_0 p_2) (0,0,5184001,r7.1)).bind fun e19=>(some ((T_api_Span.mk e19.1 e19.2),0))) else(some ((T_api_Span.mk 0 0),6))))
theorem a_repair_zone {I:World→Prop} (hI:Stab I) {l_0:List Int} {frame_1:Int} {p_2:T_api_Profile} {r:T_api_Span × Int} (h:g_repair_zone l_0 frame_1 p_2=some r):AFun Tryz.prog I 33 [.sl (l_0.map (D.int .i64)),.int .i64 frame_1,T_api_Profile.d p_2] (.tup [T_api_Span.d r.1,.int .i64 r.2]):=by
 have dd:=dd_EB;have k:=True.intro;have q:=k;have rs:=Tryz.results33
 unfold g_repair_zone at h
 refine .en hI Tryz.func33 Tryz.ntmps33 ?_
 refine xs<|rz ?_
 refine es<|xs<|rK fun K6 RK6 hK6 gK6=>zz ?_
 obtain⟨r7,h8,h⟩:=bs h
 refine cw (a_shots_Snap hI h8)<|zz ?_
 subst hK6 gK6
 refine es<|xs<|xs<|rz ?_
 refine es ?_
 rcases iK k h with⟨k,h⟩|⟨k,h⟩
 ·refine xf<|xk<|es<|xs<|rz ?_
  refine es<|xs<|rz ?_
  refine es<|xs<|xs<|rz ?_
  refine es<|xb ?_
  obtain⟨e19,h125,h⟩:=bs h
  refine rb_loop (fun x18=>⟨envL [(5,.ptr 0 0),(6,.ptr 1 0),(10,.ptr 2 0),(11,.fn 77 [.ptr 3 0,.ptr 2 0]),(29,.sl (l_0.map (D.int .i64))),(30,.int .i64 (l_0.length:Int)),(31,.int .i64 x18.1)],heapL [(0,.box none [.str p_2.Name,.int .i64 p_2.Reading,.int .i64 p_2.MinFrames,.int .i64 p_2.MaxFrames,.int .i64 p_2.MinGap,.int .i64 p_2.ShotBefore,.int .i64 p_2.ShotAfter,.int .i64 p_2.Rows,.int .i64 p_2.Cols,.str p_2.Forbidden,.int .i64 p_2.SafeTop,.int .i64 p_2.SafeBottom,.int .i64 p_2.SafeLeft,.int .i64 p_2.SafeRight]),(1,.box none [.int .i64 0,.int .i64 0]),(2,.box none [.int .i64 x18.2.1,.int .i64 x18.2.2.1]),(3,.box none [.int .i64 x18.2.2.2])],4,53⟩) (fun _=>.exit 0) (fun e19=>⟨envL [(6,.ptr 0 0),(10,.ptr 1 0)],heapL [(0,.box none [.int .i64 0,.int .i64 0]),(1,.box none [.int .i64 e19.1,.int .i64 e19.2])],2,53⟩) h125 (wk [(2,some 19),(3,some 13)]) (by intro w;simp) ?_ ?_
  ·clear h
   intro x18 y h
   unfold g_repair_zone_s1 at h
   refine xs<|rz ?_
   refine es<|xs ?_
   rcases iK k h with⟨k,h⟩|⟨k,h⟩
   ·refine xt<|xk<|es<|xs<|xb<|xs<|rK fun K112 RK112 hK112 gK112=>zz ?_
    obtain⟨y113,q,h⟩:=bK q h
    refine zz ?_
    subst hK112 gK112
    refine es<|xs<|rK fun K118 RK118 hK118 gK118=>zz ?_
    obtain⟨r119,h120,h⟩:=bs h
    refine eW.intro (a_repair_zone_1 hI (nid:=15) (i0:=3) (p0:=none) (i1:=2) (p1:=none) h120 fz fz (by decide)) fi rfl<|zz ?_
    subst hK118 gK118
    refine es<|rK fun K121 RK121 hK121 gK121=>zz ?_
    obtain⟨r122,h123,h⟩:=bs h
    refine eW.intro (a_repair_zone_1 hI (nid:=23) (i0:=3) (p0:=none) (i1:=2) (p1:=none) h123 fz fz (by decide)) fi rfl<|zz ?_
    subst hK121 gK121
    refine bn<|es<|rz ?_
    cases h
    exact en ⟨rfl,wk []⟩
   ·refine xf<|xx<|ee ?_
    cases h
    exact en ⟨rfl,wk [(0,some 1),(1,some 2)]⟩
  ·refine bh<|es<|xs<|rz ?_
   refine es<|xr ?_
   cases h
   exact en fr
 ·refine xt<|xs<|rz ?_
  refine es<|xr<|er ?_
  cases h
  exact en fr
def g_repair_window (out_0:List T_api_Bound) (v_1:Int) (lo_2:Int) (hi_3:Int) (rule_4:Int) (id_5:Int):Option ((List T_api_Bound)) :=
 (if(out_0.length+2) * 48≤140737488355328 then(some (out_0++[(T_api_Bound.mk v_1 0 (IntKind.i64.wrap (0 - lo_2)) rule_4 id_5 0),(T_api_Bound.mk 0 v_1 hi_3 rule_4 id_5 0)])) else none)
theorem a_repair_window {I:World→Prop} (hI:Stab I) {H:Nat→Option Blk} {nid i0:Nat} {out_0:List T_api_Bound} {v_1:Int} {lo_2:Int} {hi_3:Int} {rule_4:Int} {id_5:Int} {r:(List T_api_Bound)} (h:g_repair_window out_0 v_1 lo_2 hi_3 rule_4 id_5=some r) (b0:H i0=some (.vec 47 6 (out_0.map T_api_Bound.d) false)):CallOK Tryz.prog I 40 [.own i0 out_0.length,.int .i64 v_1,.int .i64 lo_2,.int .i64 hi_3,.int .u8 rule_4,.int .i64 id_5] H nid (.own nid r.length) [(i0,none),(nid,some (.vec 47 6 (r.map T_api_Bound.d) false))]:=by
 refine CallOK.row (is:=[i0]) (bs:=[.vec 47 6 (out_0.map T_api_Bound.d) false]) (ds0:=[.own 0 out_0.length,.int .i64 v_1,.int .i64 lo_2,.int .i64 hi_3,.int .u8 rule_4,.int .i64 id_5]) hI Tryz.func40 rfl (by decide) (by simp[Tryz.f40]) (by kernel_rfl) rfl rfl ⟨⟨b0,_,_,_,rfl⟩,trivial⟩ (by simp) ?_
 have dd:=dd_EB;have k:=True.intro;have q:=k;have rs:=Tryz.results40
 unfold g_repair_window at h
 simp only[lentR,List.length_cons,List.length_nil,Nat.zero_add,Nat.reduceAdd,Tryz.ntmps40,dd]
 refine xs<|rz ?_
 refine es<|xs<|rK fun K6 RK6 hK6 gK6=>zz ?_
 obtain⟨h7,h⟩:=ite_on h
 have h8:out_0.length+2≤9223372036854775807:=by omega
 try simp only[Nat.reduceLeDiff] at h8
 have q:=And.intro @h8<|And.intro @h7<|q
 refine zz ?_
 subst hK6 gK6
 refine es<|xr ?_
 cases h
 exact en fv
def g_repair_Bounds_s2 (p_1:T_api_Profile) (l_2:List Int) (x18:(List T_api_Bound) × Int) (y1927:T_api_Event) (x1949:Int × (List T_api_Bound)):Option (Nx (Int × (List T_api_Bound)) (Int ⊕ ((List T_api_Bound)))) :=
 (if(decide (x1949.1 < 2)) then(((if x1949.1 == 0 then(some (y1927.Span.In,0)) else(if x1949.1 == 1 then(some (y1927.Span.Out,1)) else none)):Option (Int × Int)).bind fun v2078=>((g_repair_zone l_2 v2078.1 p_1).bind fun r2087=>(if(r2087.2 != 0) then(some (.out (.inl r2087.2))) else((g_repair_window x1949.2 (IntKind.i64.wrap ((IntKind.i64.wrap ((IntKind.i64.wrap (2 * x18.2))+1))+x1949.1)) r2087.1.In (IntKind.i64.wrap (r2087.1.Out - 1)) 6 y1927.ID).bind fun r2095=>(some (.go ((IntKind.i64.wrap (v2078.2+1)),r2095))))))) else(some (.out (.inr x1949.2))))
def g_repair_Bounds_s3 (tol_3:Int) (x18:(List T_api_Bound) × Int) (y1927:T_api_Event) (x2101:Int × (List T_api_Bound)):Option (Nx (Int × (List T_api_Bound)) ((List T_api_Bound))) :=
 (if(decide (x2101.1 < 2)) then(((if x2101.1 == 0 then(some (y1927.Span.In,0)) else(if x2101.1 == 1 then(some (y1927.Span.Out,1)) else none)):Option (Int × Int)).bind fun v2175=>((g_repair_window x2101.2 (IntKind.i64.wrap ((IntKind.i64.wrap ((IntKind.i64.wrap (2 * x18.2))+1))+x2101.1)) (IntKind.i64.wrap (v2175.1 - tol_3)) (IntKind.i64.wrap (v2175.1+tol_3)) 11 y1927.ID).bind fun r2181=>(some (.go ((IntKind.i64.wrap (v2175.2+1)),r2181))))) else(some (.out x2101.2)))
def g_repair_Bounds_s1 (d_0:T_api_Document) (p_1:T_api_Profile) (l_2:List Int) (tol_3:Int) (x18:(List T_api_Bound) × Int):Option (Nx ((List T_api_Bound) × Int) (Int ⊕ ((List T_api_Bound)))) :=
 (if(decide (x18.2 < (d_0.Events.length:Int))) then((atI d_0.Events x18.2).bind fun y1927=>((g_repair_letters y1927).bind fun r1937=>((g_reading_Needed d_0.Rate r1937 p_1.Reading).bind fun r1939=>(if(x18.1.length+3) * 48≤140737488355328 then((iter (g_repair_Bounds_s2 p_1 l_2 x18 y1927) (0,(x18.1++[(T_api_Bound.mk (IntKind.i64.wrap ((IntKind.i64.wrap (2 * x18.2))+2)) (IntKind.i64.wrap ((IntKind.i64.wrap (2 * x18.2))+1)) (IntKind.i64.wrap (0 - r1939.1)) 1 y1927.ID 0),(T_api_Bound.mk (IntKind.i64.wrap ((IntKind.i64.wrap (2 * x18.2))+2)) (IntKind.i64.wrap ((IntKind.i64.wrap (2 * x18.2))+1)) (IntKind.i64.wrap (0 - p_1.MinFrames)) 2 y1927.ID 0),(T_api_Bound.mk (IntKind.i64.wrap ((IntKind.i64.wrap (2 * x18.2))+1)) (IntKind.i64.wrap ((IntKind.i64.wrap (2 * x18.2))+2)) p_1.MaxFrames 3 y1927.ID 0)]))).bind fun e1950=>(match e1950 with|Sum.inl e1950=>(some (.out (.inl e1950)))|Sum.inr (e1950)=>((iter (g_repair_Bounds_s3 tol_3 x18 y1927) (0,e1950)).bind fun e2102=>(if(decide ((IntKind.i64.wrap (x18.2+1)) < (d_0.Events.length:Int))) then((atI d_0.Events (IntKind.i64.wrap (x18.2+1))).bind fun y2189=>(if(e2102.length+1) * 48≤140737488355328 then(some (.go ((e2102++[(T_api_Bound.mk (IntKind.i64.wrap ((IntKind.i64.wrap ((IntKind.i64.wrap (2 * x18.2))+2))+1)) (IntKind.i64.wrap ((IntKind.i64.wrap (2 * x18.2))+2)) (IntKind.i64.wrap (0 - p_1.MinGap)) 4 y1927.ID y2189.ID)]),(IntKind.i64.wrap (x18.2+1))))) else none)) else(some (.go (e2102,(IntKind.i64.wrap (x18.2+1))))))))) else none)))) else(some (.out (.inr x18.1))))
def g_repair_Bounds (d_0:T_api_Document) (p_1:T_api_Profile) (l_2:List Int) (tol_3:Int):Option ((List T_api_Bound) × Int) :=
 ((g_repair_check d_0 p_1 l_2 tol_3).bind fun r7=>(if(r7 != 0) then(some ([],r7)) else((iter (g_repair_Bounds_s1 d_0 p_1 l_2 tol_3) ([],0)).bind fun e19=>(match e19 with|Sum.inl e19=>(some ([],e19))|Sum.inr (e19)=>(some (e19,0))))))
theorem a_repair_Bounds {I:World→Prop} (hI:Stab I) (hShp:∀ w,I w→Shp w) (hU8T:∀ w,I w→U8T w) {d_0:T_api_Document} {p_1:T_api_Profile} {l_2:List Int} {tol_3:Int} {r:(List T_api_Bound) × Int} (h:g_repair_Bounds d_0 p_1 l_2 tol_3=some r):AFun Tryz.prog I 14 [T_api_Document.d d_0,T_api_Profile.d p_1,.sl (l_2.map (D.int .i64)),.int .i64 tol_3] (.tup [.sl (r.1.map T_api_Bound.d),.int .i64 r.2]):=by
 have dd:=dd_EB;have k:=True.intro;have q:=k;have rs:=Tryz.results14
 unfold g_repair_Bounds at h
 refine .en hI Tryz.func14 Tryz.ntmps14 ?_
 refine xs<|rz ?_
 refine es<|xs<|xs<|rK fun K6 RK6 hK6 gK6=>zz ?_
 obtain⟨r7,h8,h⟩:=bs h
 refine cw (a_repair_check hI hShp hU8T h8)<|zz ?_
 subst hK6 gK6
 refine es<|xs<|rz ?_
 refine es ?_
 rcases iK k h with⟨k,h⟩|⟨k,h⟩
 ·refine xt<|xs<|rz ?_
  refine es<|xr<|er ?_
  cases h
  exact en fr
 ·refine xf<|xk<|es<|xs<|rz ?_
  refine es<|xs<|xs<|rz ?_
  refine es<|xb ?_
  obtain⟨e19,h2195,h⟩:=bs h
  refine rb_loop (fun x18=>⟨envL [(2,.sl (l_2.map (D.int .i64))),(3,.int .i64 tol_3),(4,.ptr 0 0),(5,.ptr 1 0),(11,.own 2 x18.1.length),(33,.sl (d_0.Events.map T_api_Event.d)),(34,.int .i64 (d_0.Events.length:Int)),(35,.int .i64 x18.2)],heapL [(0,.box none [.str d_0.Title,.str d_0.Lang,.int .u8 d_0.Rate,.bool d_0.Drop,.int .i64 d_0.Last,.sl (d_0.Regions.map T_api_Region.d),.sl (d_0.Events.map T_api_Event.d),.sl (d_0.Comments.map T_api_Comment.d)]),(1,.box none [.str p_1.Name,.int .i64 p_1.Reading,.int .i64 p_1.MinFrames,.int .i64 p_1.MaxFrames,.int .i64 p_1.MinGap,.int .i64 p_1.ShotBefore,.int .i64 p_1.ShotAfter,.int .i64 p_1.Rows,.int .i64 p_1.Cols,.str p_1.Forbidden,.int .i64 p_1.SafeTop,.int .i64 p_1.SafeBottom,.int .i64 p_1.SafeLeft,.int .i64 p_1.SafeRight]),(2,.vec 47 6 (x18.1.map T_api_Bound.d) false)],3,167⟩) (fun w=>match w with|Sum.inl _=>.ret|Sum.inr (_)=>.exit 0) (fun w=>match w with|Sum.inl e19=>⟨envL [(8,.nils),(9,.int .i64 e19)],heapL [],0,167⟩|Sum.inr (e19)=>⟨envL [(11,.own 0 e19.length)],heapL [(0,.vec 47 6 (e19.map T_api_Bound.d) false)],1,167⟩) h2195 (wk [(2,none)]) (by intro w;rcases w with w|w<;>simp) ?_ ?_
  ·clear h
   intro x18 y h
   unfold g_repair_Bounds_s1 at h
   refine xs<|rz ?_
   refine es<|xs ?_
   rcases iK k h with⟨k,h⟩|⟨k,h⟩
   ·refine xt<|xk<|es<|xs<|xb<|xs<|rK fun K1926 RK1926 hK1926 gK1926=>zz ?_
    obtain⟨y1927,q,h⟩:=bK q h
    refine zz ?_
    subst hK1926 gK1926
    refine es<|xs<|rz ?_
    refine es<|xs<|rD hI fun K1936 RK1936 hK1936 gK1936=>zz ?_
    obtain⟨r1937,h1938,h⟩:=bs h
    refine cd (a_repair_letters hI h1938)<|zz ?_
    obtain⟨r1939,h1940,h⟩:=bs h
    refine cd (a_reading_Needed hI h1940)<|zz ?_
    subst hK1936 gK1936
    refine es<|xs<|rK fun K1944 RK1944 hK1944 gK1944=>zz ?_
    obtain⟨h1945,h⟩:=ite_on h
    have h1946:x18.1.length+3≤9223372036854775807:=by omega
    try simp only[Nat.reduceLeDiff] at h1946
    have q:=And.intro @h1946<|And.intro @h1945<|q
    refine zz ?_
    subst hK1944 gK1944
    refine es<|xs<|xs<|rz ?_
    refine es<|xb ?_
    obtain⟨e1950,h2098,h⟩:=bs h
    refine rb_loop (fun x1949=>⟨envL [(2,.sl (l_2.map (D.int .i64))),(3,.int .i64 tol_3),(4,.ptr 0 0),(5,.ptr 1 0),(11,.own 2 x1949.2.length),(12,.int .i64 x18.2),(13,.ptr 3 0),(14,.int .i64 (IntKind.i64.wrap ((IntKind.i64.wrap (2 * x18.2))+1))),(15,.int .i64 (IntKind.i64.wrap ((IntKind.i64.wrap (2 * x18.2))+2))),(33,.sl (d_0.Events.map T_api_Event.d)),(34,.int .i64 (d_0.Events.length:Int)),(35,.int .i64 x18.2),(87,.agg [.int .i64 y1927.Span.In,.int .i64 y1927.Span.Out]),(88,.int .i64 x1949.1)],heapL [(0,.box none [.str d_0.Title,.str d_0.Lang,.int .u8 d_0.Rate,.bool d_0.Drop,.int .i64 d_0.Last,.sl (d_0.Regions.map T_api_Region.d),.sl (d_0.Events.map T_api_Event.d),.sl (d_0.Comments.map T_api_Comment.d)]),(1,.box none [.str p_1.Name,.int .i64 p_1.Reading,.int .i64 p_1.MinFrames,.int .i64 p_1.MaxFrames,.int .i64 p_1.MinGap,.int .i64 p_1.ShotBefore,.int .i64 p_1.ShotAfter,.int .i64 p_1.Rows,.int .i64 p_1.Cols,.str p_1.Forbidden,.int .i64 p_1.SafeTop,.int .i64 p_1.SafeBottom,.int .i64 p_1.SafeLeft,.int .i64 p_1.SafeRight]),(2,.vec 47 6 (x1949.2.map T_api_Bound.d) false),(3,.box none [.int .i64 y1927.ID,.int .i64 y1927.Span.In,.int .i64 y1927.Span.Out,.str y1927.Region,.int .u8 y1927.Kind,.str y1927.Speaker,.sl (y1927.Rows.map T_api_Row.d)])],4,167⟩) (fun w=>match w with|Sum.inl _=>.ret|Sum.inr (_)=>.exit 2) (fun w=>match w with|Sum.inl e1950=>⟨envL [(8,.nils),(9,.int .i64 e1950)],heapL [],0,167⟩|Sum.inr (e1950)=>⟨envL [(2,.sl (l_2.map (D.int .i64))),(3,.int .i64 tol_3),(4,.ptr 0 0),(5,.ptr 1 0),(11,.own 2 e1950.length),(12,.int .i64 x18.2),(13,.ptr 3 0),(14,.int .i64 (IntKind.i64.wrap ((IntKind.i64.wrap (2 * x18.2))+1))),(15,.int .i64 (IntKind.i64.wrap ((IntKind.i64.wrap (2 * x18.2))+2))),(33,.sl (d_0.Events.map T_api_Event.d)),(34,.int .i64 (d_0.Events.length:Int)),(35,.int .i64 x18.2)],heapL [(0,.box none [.str d_0.Title,.str d_0.Lang,.int .u8 d_0.Rate,.bool d_0.Drop,.int .i64 d_0.Last,.sl (d_0.Regions.map T_api_Region.d),.sl (d_0.Events.map T_api_Event.d),.sl (d_0.Comments.map T_api_Comment.d)]),(1,.box none [.str p_1.Name,.int .i64 p_1.Reading,.int .i64 p_1.MinFrames,.int .i64 p_1.MaxFrames,.int .i64 p_1.MinGap,.int .i64 p_1.ShotBefore,.int .i64 p_1.ShotAfter,.int .i64 p_1.Rows,.int .i64 p_1.Cols,.str p_1.Forbidden,.int .i64 p_1.SafeTop,.int .i64 p_1.SafeBottom,.int .i64 p_1.SafeLeft,.int .i64 p_1.SafeRight]),(2,.vec 47 6 (e1950.map T_api_Bound.d) false),(3,.box none [.int .i64 y1927.ID,.int .i64 y1927.Span.In,.int .i64 y1927.Span.Out,.str y1927.Region,.int .u8 y1927.Kind,.str y1927.Speaker,.sl (y1927.Rows.map T_api_Row.d)])],4,167⟩) h2098 (wk [(2,some 54),(3,some 7)]) (by intro w;rcases w with w|w<;>simp) ?_ ?_
    ·clear h
     intro x1949 y h
     unfold g_repair_Bounds_s2 at h
     refine xs<|rz ?_
     refine es<|xs ?_
     rcases iK k h with⟨k,h⟩|⟨k,h⟩
     ·refine xt<|xk<|es<|xs<|xb ?_
      obtain⟨v2078,h2082,h⟩:=bs h
      refine rb_cut (fun v2078=>⟨envL [(2,.sl (l_2.map (D.int .i64))),(3,.int .i64 tol_3),(4,.ptr 0 0),(5,.ptr 1 0),(11,.own 2 x1949.2.length),(12,.int .i64 x18.2),(13,.ptr 3 0),(14,.int .i64 (IntKind.i64.wrap ((IntKind.i64.wrap (2 * x18.2))+1))),(15,.int .i64 (IntKind.i64.wrap ((IntKind.i64.wrap (2 * x18.2))+2))),(18,.int .i64 x1949.1),(19,.int .i64 v2078.1),(33,.sl (d_0.Events.map T_api_Event.d)),(34,.int .i64 (d_0.Events.length:Int)),(35,.int .i64 x18.2),(87,.agg [.int .i64 y1927.Span.In,.int .i64 y1927.Span.Out]),(88,.int .i64 v2078.2)],heapL [(0,.box none [.str d_0.Title,.str d_0.Lang,.int .u8 d_0.Rate,.bool d_0.Drop,.int .i64 d_0.Last,.sl (d_0.Regions.map T_api_Region.d),.sl (d_0.Events.map T_api_Event.d),.sl (d_0.Comments.map T_api_Comment.d)]),(1,.box none [.str p_1.Name,.int .i64 p_1.Reading,.int .i64 p_1.MinFrames,.int .i64 p_1.MaxFrames,.int .i64 p_1.MinGap,.int .i64 p_1.ShotBefore,.int .i64 p_1.ShotAfter,.int .i64 p_1.Rows,.int .i64 p_1.Cols,.str p_1.Forbidden,.int .i64 p_1.SafeTop,.int .i64 p_1.SafeBottom,.int .i64 p_1.SafeLeft,.int .i64 p_1.SafeRight]),(2,.vec 47 6 (x1949.2.map T_api_Bound.d) false),(3,.box none [.int .i64 y1927.ID,.int .i64 y1927.Span.In,.int .i64 y1927.Span.Out,.str y1927.Region,.int .u8 y1927.Kind,.str y1927.Speaker,.sl (y1927.Rows.map T_api_Row.d)])],4,167⟩) h2082 ?_ ?_
      ·clear h
       intro v2078 h
       refine rK fun K2079 RK2079 hK2079 gK2079=>zz ?_
       rcases ite_or h with⟨k2080,h⟩|⟨_,h⟩
       ·have k:=And.intro (eq_of_beq k2080) k
        refine zz ?_
        subst hK2079 gK2079
        cases h
        exact en ⟨rfl,wk []⟩
       ·rcases ite_or h with⟨k2081,h⟩|⟨_,h⟩
        ·have k:=And.intro (eq_of_beq k2081) k
         refine zz ?_
         subst hK2079 gK2079
         cases h
         exact en ⟨rfl,wk []⟩
        ·cases h
      ·refine xs<|rK fun K2086 RK2086 hK2086 gK2086=>zz ?_
       obtain⟨r2087,h2088,h⟩:=bs h
       refine cw (a_repair_zone hI h2088)<|zz ?_
       subst hK2086 gK2086
       refine es<|xs<|xs<|rz ?_
       refine es ?_
       rcases iK k h with⟨k,h⟩|⟨k,h⟩
       ·refine xt<|xs<|rz ?_
        refine es<|xr<|er<|br<|er ?_
        cases h
        exact en ⟨rfl,wk []⟩
       ·refine xf<|xk<|es<|rK fun K2094 RK2094 hK2094 gK2094=>zz ?_
        obtain⟨r2095,h2096,h⟩:=bs h
        refine cW.introR (a_repair_window hI (nid:=27) (i0:=2) h2096 fz) fs rfl<|zz ?_
        subst hK2094 gK2094
        refine bn<|es<|rz ?_
        cases h
        exact en ⟨rfl,wk [(2,some 27)]⟩
     ·refine xf<|xx<|ee ?_
      cases h
      exact en ⟨rfl,wk []⟩
    ·rcases e1950 with e1950|e1950
     ·try dsimp only at h ⊢
      refine br<|er<|br<|er ?_
      cases h
      exact en ⟨rfl,wk []⟩
     ·try dsimp only at h ⊢
      refine bh<|es<|xs<|xs<|rz ?_
      refine es<|xb ?_
      obtain⟨e2102,h2184,h⟩:=bs h
      refine rb_loop (fun x2101=>⟨envL [(2,.sl (l_2.map (D.int .i64))),(3,.int .i64 tol_3),(4,.ptr 0 0),(5,.ptr 1 0),(11,.own 2 x2101.2.length),(12,.int .i64 x18.2),(13,.ptr 3 0),(14,.int .i64 (IntKind.i64.wrap ((IntKind.i64.wrap (2 * x18.2))+1))),(15,.int .i64 (IntKind.i64.wrap ((IntKind.i64.wrap (2 * x18.2))+2))),(33,.sl (d_0.Events.map T_api_Event.d)),(34,.int .i64 (d_0.Events.length:Int)),(35,.int .i64 x18.2),(121,.agg [.int .i64 y1927.Span.In,.int .i64 y1927.Span.Out]),(122,.int .i64 x2101.1)],heapL [(0,.box none [.str d_0.Title,.str d_0.Lang,.int .u8 d_0.Rate,.bool d_0.Drop,.int .i64 d_0.Last,.sl (d_0.Regions.map T_api_Region.d),.sl (d_0.Events.map T_api_Event.d),.sl (d_0.Comments.map T_api_Comment.d)]),(1,.box none [.str p_1.Name,.int .i64 p_1.Reading,.int .i64 p_1.MinFrames,.int .i64 p_1.MaxFrames,.int .i64 p_1.MinGap,.int .i64 p_1.ShotBefore,.int .i64 p_1.ShotAfter,.int .i64 p_1.Rows,.int .i64 p_1.Cols,.str p_1.Forbidden,.int .i64 p_1.SafeTop,.int .i64 p_1.SafeBottom,.int .i64 p_1.SafeLeft,.int .i64 p_1.SafeRight]),(2,.vec 47 6 (x2101.2.map T_api_Bound.d) false),(3,.box none [.int .i64 y1927.ID,.int .i64 y1927.Span.In,.int .i64 y1927.Span.Out,.str y1927.Region,.int .u8 y1927.Kind,.str y1927.Speaker,.sl (y1927.Rows.map T_api_Row.d)])],4,167⟩) (fun _=>.exit 4) (fun e2102=>⟨envL [(2,.sl (l_2.map (D.int .i64))),(3,.int .i64 tol_3),(4,.ptr 0 0),(5,.ptr 1 0),(11,.own 2 e2102.length),(12,.int .i64 x18.2),(13,.ptr 3 0),(15,.int .i64 (IntKind.i64.wrap ((IntKind.i64.wrap (2 * x18.2))+2))),(33,.sl (d_0.Events.map T_api_Event.d)),(34,.int .i64 (d_0.Events.length:Int)),(35,.int .i64 x18.2)],heapL [(0,.box none [.str d_0.Title,.str d_0.Lang,.int .u8 d_0.Rate,.bool d_0.Drop,.int .i64 d_0.Last,.sl (d_0.Regions.map T_api_Region.d),.sl (d_0.Events.map T_api_Event.d),.sl (d_0.Comments.map T_api_Comment.d)]),(1,.box none [.str p_1.Name,.int .i64 p_1.Reading,.int .i64 p_1.MinFrames,.int .i64 p_1.MaxFrames,.int .i64 p_1.MinGap,.int .i64 p_1.ShotBefore,.int .i64 p_1.ShotAfter,.int .i64 p_1.Rows,.int .i64 p_1.Cols,.str p_1.Forbidden,.int .i64 p_1.SafeTop,.int .i64 p_1.SafeBottom,.int .i64 p_1.SafeLeft,.int .i64 p_1.SafeRight]),(2,.vec 47 6 (e2102.map T_api_Bound.d) false),(3,.box none [.int .i64 y1927.ID,.int .i64 y1927.Span.In,.int .i64 y1927.Span.Out,.str y1927.Region,.int .u8 y1927.Kind,.str y1927.Speaker,.sl (y1927.Rows.map T_api_Row.d)])],4,167⟩) h2184 (wk []) (by intro w;simp) ?_ ?_
      ·clear h
       intro x2101 y h
       unfold g_repair_Bounds_s3 at h
       refine xs<|rz ?_
       refine es<|xs ?_
       rcases iK k h with⟨k,h⟩|⟨k,h⟩
       ·refine xt<|xk<|es<|xs<|xb ?_
        obtain⟨v2175,h2179,h⟩:=bs h
        refine rb_cut (fun v2175=>⟨envL [(2,.sl (l_2.map (D.int .i64))),(3,.int .i64 tol_3),(4,.ptr 0 0),(5,.ptr 1 0),(11,.own 2 x2101.2.length),(12,.int .i64 x18.2),(13,.ptr 3 0),(14,.int .i64 (IntKind.i64.wrap ((IntKind.i64.wrap (2 * x18.2))+1))),(15,.int .i64 (IntKind.i64.wrap ((IntKind.i64.wrap (2 * x18.2))+2))),(22,.int .i64 x2101.1),(23,.int .i64 v2175.1),(33,.sl (d_0.Events.map T_api_Event.d)),(34,.int .i64 (d_0.Events.length:Int)),(35,.int .i64 x18.2),(121,.agg [.int .i64 y1927.Span.In,.int .i64 y1927.Span.Out]),(122,.int .i64 v2175.2)],heapL [(0,.box none [.str d_0.Title,.str d_0.Lang,.int .u8 d_0.Rate,.bool d_0.Drop,.int .i64 d_0.Last,.sl (d_0.Regions.map T_api_Region.d),.sl (d_0.Events.map T_api_Event.d),.sl (d_0.Comments.map T_api_Comment.d)]),(1,.box none [.str p_1.Name,.int .i64 p_1.Reading,.int .i64 p_1.MinFrames,.int .i64 p_1.MaxFrames,.int .i64 p_1.MinGap,.int .i64 p_1.ShotBefore,.int .i64 p_1.ShotAfter,.int .i64 p_1.Rows,.int .i64 p_1.Cols,.str p_1.Forbidden,.int .i64 p_1.SafeTop,.int .i64 p_1.SafeBottom,.int .i64 p_1.SafeLeft,.int .i64 p_1.SafeRight]),(2,.vec 47 6 (x2101.2.map T_api_Bound.d) false),(3,.box none [.int .i64 y1927.ID,.int .i64 y1927.Span.In,.int .i64 y1927.Span.Out,.str y1927.Region,.int .u8 y1927.Kind,.str y1927.Speaker,.sl (y1927.Rows.map T_api_Row.d)])],4,167⟩) h2179 ?_ ?_
        ·clear h
         intro v2175 h
         refine rK fun K2176 RK2176 hK2176 gK2176=>zz ?_
         rcases ite_or h with⟨k2177,h⟩|⟨_,h⟩
         ·have k:=And.intro (eq_of_beq k2177) k
          refine zz ?_
          subst hK2176 gK2176
          cases h
          exact en ⟨rfl,wk []⟩
         ·rcases ite_or h with⟨k2178,h⟩|⟨_,h⟩
          ·have k:=And.intro (eq_of_beq k2178) k
           refine zz ?_
           subst hK2176 gK2176
           cases h
           exact en ⟨rfl,wk []⟩
          ·cases h
        ·refine rK fun K2180 RK2180 hK2180 gK2180=>zz ?_
         obtain⟨r2181,h2182,h⟩:=bs h
         refine cW.introR (a_repair_window hI (nid:=16) (i0:=2) h2182 fz) fs rfl<|zz ?_
         subst hK2180 gK2180
         refine bn<|es<|rz ?_
         cases h
         exact en ⟨rfl,wk [(2,some 16)]⟩
       ·refine xf<|xx<|ee ?_
        cases h
        exact en ⟨rfl,wk []⟩
      ·refine bh<|es<|xs<|rz ?_
       refine es ?_
       rcases iK k h with⟨k,h⟩|⟨k,h⟩
       ·refine xt<|rD hI fun K2188 RK2188 hK2188 gK2188=>zz ?_
        obtain⟨y2189,q,h⟩:=bK q h
        refine zz ?_
        obtain⟨h2191,h⟩:=ite_on h
        have h2192:e2102.length+1≤9223372036854775807:=by omega
        try simp only[Nat.reduceLeDiff] at h2192
        have q:=And.intro @h2192<|And.intro @h2191<|q
        refine zz ?_
        refine hd<|zz ?_
        subst hK2188 gK2188
        refine bn<|es<|rz ?_
        cases h
        exact en ⟨rfl,wk [(2,some 28)]⟩
       ·refine xf<|xk<|bn<|es<|rz ?_
        cases h
        exact en ⟨rfl,wk []⟩
   ·refine xf<|xx<|ee ?_
    cases h
    exact en ⟨rfl,wk [(0,some 2)]⟩
  ·rcases e19 with e19|e19
   ·try dsimp only at h ⊢
    refine br<|er ?_
    cases h
    exact en fr
   ·try dsimp only at h ⊢
    refine bh<|es<|xs<|rz ?_
    refine es<|xr ?_
    cases h
    exact en fr
def dl_List_Int_i64 (x:List Int):D:=.sl (x.map (D.int .i64))
theorem dd_EC:(∀ x,T_api_Bound.d x=.agg [.int .i64 x.I,.int .i64 x.J,.int .i64 x.C,.int .u8 x.Rule,.int .i64 x.ID,.int .i64 x.Other])∧(∀ x:List Int,dl_List_Int_i64 x=.sl (x.map (D.int .i64))):=⟨fun _=>rfl,fun _=>rfl⟩
def g_diffcon_Check_s1 (n_0:Int) (l_1:List T_api_Bound) (x19:Int):Option (Nx (Int) (Int ⊕ Unit)) :=
 (if(decide (x19 < (l_1.length:Int))) then((atI l_1 x19).bind fun y118=>(((if(decide (y118.I < 0)) then(some true) else(if(decide (n_0≤y118.I)) then(some true) else(if(decide (y118.J < 0)) then(some true) else(some (decide (n_0≤y118.J)))))):Option (Bool)).bind fun v124=>(if v124 then(some (.out (.inl 1))) else(if(decide (y118.C < (-1099511627776))) then(some (.out (.inl 2))) else(if(decide (1099511627776 < y118.C)) then(some (.out (.inl 2))) else(some (.go (IntKind.i64.wrap (x19+1))))))))) else(some (.out (.inr ()))))
def g_diffcon_Check (n_0:Int) (l_1:List T_api_Bound):Option (Int) :=
 (((if(decide (n_0 < 1)) then(some true) else(some (decide (512 < n_0)))):Option (Bool)).bind fun v5=>(if v5 then(some 2) else(if(decide (4000 < (l_1.length:Int))) then(some 9) else((iter (g_diffcon_Check_s1 n_0 l_1) 0).bind fun e20=>(match e20 with|Sum.inl e20=>(some e20)|Sum.inr (e20)=>(some 0))))))
theorem a_diffcon_Check {I:World→Prop} (hI:Stab I) {n_0:Int} {l_1:List T_api_Bound} {r:Int} (h:g_diffcon_Check n_0 l_1=some r):AFun Tryz.prog I 69 [.int .i64 n_0,.sl (l_1.map T_api_Bound.d)] (.int .i64 r):=by
 have dd:=dd_EC;have k:=True.intro;have q:=k;have rs:=Tryz.results69
 unfold g_diffcon_Check at h
 refine .en hI Tryz.func69 Tryz.ntmps69 ?_
 refine xs<|rz ?_
 refine es<|xs ?_
 obtain⟨v5,h8,h⟩:=bs h
 refine rb_cut (fun v5=>⟨envL [(0,.int .i64 n_0),(1,.sl (l_1.map T_api_Bound.d)),(12,.bool v5)],heapL [],0,51⟩) h8 ?_ ?_
 ·clear h
  intro v5 h
  refine rK fun K6 RK6 hK6 gK6=>zz ?_
  rcases iK k h with⟨k,h⟩|⟨k,h⟩
  ·refine zz ?_
   subst hK6 gK6
   cases h
   exact en ⟨rfl,wk []⟩
  ·refine zz ?_
   subst hK6 gK6
   cases h
   exact en ⟨rfl,wk []⟩
 ·rcases iK k h with⟨k,h⟩|⟨k,h⟩
  ·refine xt<|xs<|rz ?_
   refine es<|xr<|er ?_
   cases h
   exact en fr
  ·refine xf<|xk<|es<|xs<|xs<|rz ?_
   refine es ?_
   rcases iK k h with⟨k,h⟩|⟨k,h⟩
   ·refine xt<|xs<|rz ?_
    refine es<|xr<|er ?_
    cases h
    exact en fr
   ·refine xf<|xk<|es<|xs<|xs<|rz ?_
    refine es<|xb ?_
    obtain⟨e20,h143,h⟩:=bs h
    refine rb_loop (fun x19=>⟨envL [(0,.int .i64 n_0),(16,.sl (l_1.map T_api_Bound.d)),(17,.int .i64 (l_1.length:Int)),(18,.int .i64 x19)],heapL [],0,51⟩) (fun w=>match w with|Sum.inl _=>.ret|Sum.inr (_)=>.exit 0) (fun w=>match w with|Sum.inl e20=>⟨envL [(4,.int .i64 e20)],heapL [],0,51⟩|Sum.inr (e20)=>⟨envL [],heapL [],0,51⟩) h143 (wk []) (by intro w;rcases w with w|w<;>simp) ?_ ?_
    ·clear h
     intro x19 y h
     unfold g_diffcon_Check_s1 at h
     refine xs<|rz ?_
     refine es<|xs ?_
     rcases iK k h with⟨k,h⟩|⟨k,h⟩
     ·refine xt<|xk<|es<|xs<|xb<|xs<|rK fun K117 RK117 hK117 gK117=>zz ?_
      obtain⟨y118,q,h⟩:=bK q h
      refine zz ?_
      subst hK117 gK117
      refine es<|xs ?_
      obtain⟨v124,h129,h⟩:=bs h
      refine rb_cut (fun v124=>⟨envL [(0,.int .i64 n_0),(6,.ptr 0 0),(16,.sl (l_1.map T_api_Bound.d)),(17,.int .i64 (l_1.length:Int)),(18,.int .i64 x19),(41,.bool v124)],heapL [(0,.box none [.int .i64 y118.I,.int .i64 y118.J,.int .i64 y118.C,.int .u8 y118.Rule,.int .i64 y118.ID,.int .i64 y118.Other])],1,51⟩) h129 ?_ ?_
      ·clear h
       intro v124 h
       refine rK fun K125 RK125 hK125 gK125=>zz ?_
       rcases iK k h with⟨k,h⟩|⟨k,h⟩
       ·refine zz ?_
        subst hK125 gK125
        cases h
        exact en ⟨rfl,wk [(0,some 3)]⟩
       ·refine zz ?_
        rcases iK k h with⟨k,h⟩|⟨k,h⟩
        ·refine zz ?_
         subst hK125 gK125
         cases h
         exact en ⟨rfl,wk [(0,some 3)]⟩
        ·refine zz ?_
         rcases iK k h with⟨k,h⟩|⟨k,h⟩
         ·refine zz ?_
          subst hK125 gK125
          cases h
          exact en ⟨rfl,wk [(0,some 3)]⟩
         ·refine zz ?_
          subst hK125 gK125
          cases h
          exact en ⟨rfl,wk [(0,some 3)]⟩
      ·rcases iK k h with⟨k,h⟩|⟨k,h⟩
       ·refine xt<|xs<|rz ?_
        refine es<|xr<|er<|br<|er ?_
        cases h
        exact en ⟨rfl,wk []⟩
       ·refine xf<|xk<|es<|xs<|rK fun K135 RK135 hK135 gK135=>zz ?_
        rcases iK k h with⟨k,h⟩|⟨k,h⟩
        ·refine zz ?_
         subst hK135 gK135
         refine es<|xt<|xs<|rz ?_
         refine es<|xr<|br<|er ?_
         cases h
         exact en ⟨rfl,wk []⟩
        ·refine zz ?_
         subst hK135 gK135
         refine es ?_
         rcases iK k h with⟨k,h⟩|⟨k,h⟩
         ·refine xt<|xs<|rz ?_
          refine es<|xr<|br<|er ?_
          cases h
          exact en ⟨rfl,wk []⟩
         ·refine xf<|xk<|bn<|es<|rz ?_
          cases h
          exact en ⟨rfl,wk []⟩
     ·refine xf<|xx<|ee ?_
      cases h
      exact en ⟨rfl,wk []⟩
    ·rcases e20 with e20|e20
     ·try dsimp only at h ⊢
      refine br<|er ?_
      cases h
      exact en fr
     ·try dsimp only at h ⊢
      refine bh<|es<|xs<|rz ?_
      refine es<|xr ?_
      cases h
      exact en fr
def g_diffcon_relax_w_s2 (l_0:List T_api_Bound) (x524:Bool × Int × (List Int)):Option (Nx (Bool × Int × (List Int)) ((List Int) × Bool)) :=
 (if(decide (x524.2.1 < (l_0.length:Int))) then((atI l_0 x524.2.1).bind fun y648=>((((atI x524.2.2 y648.I).bind fun y656=>(if(y656 != 1152921504606846976) then((atI x524.2.2 y648.J).bind fun y658=>(some (decide ((IntKind.i64.wrap (y656+y648.C)) < y658)))) else(some false))):Option (Bool)).bind fun v654=>(if v654 then((atI x524.2.2 y648.I).bind fun y671=>((atI x524.2.2 y648.J).bind fun y672=>((setI x524.2.2 y648.J (IntKind.i64.wrap (y671+y648.C))).bind fun m673=>(some (.go (true,(IntKind.i64.wrap (x524.2.1+1)),m673)))))) else(some (.go (x524.1,(IntKind.i64.wrap (x524.2.1+1)),x524.2.2)))))) else(some (.out (x524.2.2,x524.1))))
def g_diffcon_relax_w_s1 (l_0:List T_api_Bound) (x_1:List Int) (x5:Int × (List Int)):Option (Nx (Int × (List Int)) (((List Int)) ⊕ ((List Int)))) :=
 (if(decide (x5.1 < (IntKind.i64.wrap (((x_1.length:Nat):Int)+1)))) then((iter (g_diffcon_relax_w_s2 l_0) (false,0,x5.2)).bind fun e525=>(if e525.2 then(some (.go ((IntKind.i64.wrap (x5.1+1)),e525.1))) else(some (.out (.inl e525.1))))) else(some (.out (.inr x5.2))))
def g_diffcon_relax_w (l_0:List T_api_Bound) (x_1:List Int):Option (Bool × (List Int)) :=
 ((iter (g_diffcon_relax_w_s1 l_0 x_1) (0,x_1)).bind fun e6=>(match e6 with|Sum.inl e6=>(some (true,e6))|Sum.inr (e6)=>(some (false,e6))))
theorem a_diffcon_relax_w {I:World→Prop} (hI:Stab I) {H:Nat→Option Blk} {nid i0:Nat} {pn:Option Value} {l_0:List T_api_Bound} {x_1:List Int} {r:Bool × (List Int)} (h:g_diffcon_relax_w l_0 x_1=some r) (b0:H i0=some (rowB pn 2 1 (x_1.map (D.int .i64)))):CallOK Tryz.prog I 70 [.sl (l_0.map T_api_Bound.d),.own i0 x_1.length] H nid (.bool r.1) [(i0,some (rowB pn 2 1 (r.2.map (D.int .i64))))]:=by
 refine CallOK.inrow (i0:=i0) (ds0:=[.sl (l_0.map T_api_Bound.d),.own 0 x_1.length]) hI Tryz.func70 rfl (by decide) (by simp[Tryz.f70]) (by kernel_rfl) rfl rfl b0 fun uv=>?_
 have dd:=dd_EC;have k:=True.intro;have q:=k;have rs:=Tryz.results70
 unfold g_diffcon_relax_w at h
 simp only[List.length_cons,List.length_nil,Nat.zero_add,Nat.reduceAdd,Tryz.ntmps70,dd]
 refine xs<|rz ?_
 refine es<|xs<|xs<|rz ?_
 refine es<|xb ?_
 obtain⟨e6,h689,h⟩:=bs h
 refine rb_loop (fun x5=>⟨envL [(0,.sl (l_0.map T_api_Bound.d)),(1,.own 0 x5.2.length),(10,.int .i64 (IntKind.i64.wrap (((x_1.length:Nat):Int)+1))),(11,.int .i64 x5.1)],heapL [(0,.lrow uv 2 1 (x5.2.map (D.int .i64)))],1,57⟩) (fun w=>match w with|Sum.inl _=>.ret|Sum.inr (_)=>.exit 0) (fun w=>match w with|Sum.inl e6=>⟨envL [(1,.own 0 e6.length),(4,.bool true)],heapL [(0,.lrow uv 2 1 (e6.map (D.int .i64)))],1,57⟩|Sum.inr (e6)=>⟨envL [(1,.own 0 e6.length)],heapL [(0,.lrow uv 2 1 (e6.map (D.int .i64)))],1,57⟩) h689 (wk []) (by intro w;rcases w with w|w<;>simp) ?_ ?_
 ·clear h
  intro x5 y h
  unfold g_diffcon_relax_w_s1 at h
  refine xs<|rz ?_
  refine es<|xs ?_
  rcases iK k h with⟨k,h⟩|⟨k,h⟩
  ·refine xt<|xk<|es<|xs<|xb<|xs<|rz ?_
   refine es<|xs<|xs<|rz ?_
   refine es<|xb ?_
   obtain⟨e525,h682,h⟩:=bs h
   refine rb_loop (fun x524=>⟨envL [(0,.sl (l_0.map T_api_Bound.d)),(1,.own 0 x524.2.2.length),(5,.bool x524.1),(10,.int .i64 (IntKind.i64.wrap (((x_1.length:Nat):Int)+1))),(11,.int .i64 x5.1),(13,.sl (l_0.map T_api_Bound.d)),(14,.int .i64 (l_0.length:Int)),(15,.int .i64 x524.2.1)],heapL [(0,.lrow uv 2 1 (x524.2.2.map (D.int .i64)))],1,57⟩) (fun _=>.exit 2) (fun e525=>⟨envL [(0,.sl (l_0.map T_api_Bound.d)),(1,.own 0 e525.1.length),(5,.bool e525.2),(10,.int .i64 (IntKind.i64.wrap (((x_1.length:Nat):Int)+1))),(11,.int .i64 x5.1)],heapL [(0,.lrow uv 2 1 (e525.1.map (D.int .i64)))],1,57⟩) h682 (wk []) (by intro w;simp) ?_ ?_
   ·clear h
    intro x524 y h
    unfold g_diffcon_relax_w_s2 at h
    refine xs<|rz ?_
    refine es<|xs ?_
    rcases iK k h with⟨k,h⟩|⟨k,h⟩
    ·refine xt<|xk<|es<|xs<|xb<|xs<|rK fun K647 RK647 hK647 gK647=>zz ?_
     obtain⟨y648,q,h⟩:=bK q h
     refine zz ?_
     subst hK647 gK647
     refine es ?_
     obtain⟨v654,h659,h⟩:=bs h
     refine rb_cut (fun v654=>⟨envL [(0,.sl (l_0.map T_api_Bound.d)),(1,.own 0 x524.2.2.length),(5,.bool x524.1),(7,.ptr 1 0),(10,.int .i64 (IntKind.i64.wrap (((x_1.length:Nat):Int)+1))),(11,.int .i64 x5.1),(13,.sl (l_0.map T_api_Bound.d)),(14,.int .i64 (l_0.length:Int)),(15,.int .i64 x524.2.1),(40,.bool v654)],heapL [(0,.lrow uv 2 1 (x524.2.2.map (D.int .i64))),(1,.box none [.int .i64 y648.I,.int .i64 y648.J,.int .i64 y648.C,.int .u8 y648.Rule,.int .i64 y648.ID,.int .i64 y648.Other])],2,57⟩) h659 ?_ ?_
     ·clear h
      intro v654 h
      refine rD hI fun K655 RK655 hK655 gK655=>zz ?_
      obtain⟨y656,q,h⟩:=oN q h
      refine zz ?_
      rcases iK k h with⟨k,h⟩|⟨k,h⟩
      ·refine zz ?_
       obtain⟨y658,q,h⟩:=oN q h
       refine zz ?_
       subst hK655 gK655
       cases h
       exact en ⟨rfl,wk [(1,some 4)]⟩
      ·refine zz ?_
       subst hK655 gK655
       cases h
       exact en ⟨rfl,wk [(1,some 4)]⟩
     ·rcases iK k h with⟨k,h⟩|⟨k,h⟩
      ·refine xt<|xs<|rD hI fun K670 RK670 hK670 gK670=>zz ?_
       obtain⟨y671,q,h⟩:=oN q h
       refine zz ?_
       obtain⟨y672,q,h⟩:=oN q h
       refine zz ?_
       obtain⟨m673,h674,h⟩:=bind_some h
       obtain⟨h675,h676,h677,h678⟩:=setI_some h674
       have h678:=h678 (D.int .i64)
       try simp only[sevalprocAttr,List.map_nil,dd] at h678
       have q:=And.intro @h675<|And.intro @h676<|And.intro @h677<|And.intro @h678<|q
       refine zz ?_
       refine hd<|zz ?_
       subst hK670 gK670
       refine es<|rz ?_
       refine bn<|es<|rz ?_
       cases h
       exact en ⟨rfl,wk []⟩
      ·refine xf<|xk<|bn<|es<|rz ?_
       cases h
       exact en ⟨rfl,wk []⟩
    ·refine xf<|xx<|ee ?_
     cases h
     exact en ⟨rfl,wk []⟩
   ·refine bh<|es<|xs<|rz ?_
    refine es ?_
    rcases iK k h with⟨k,h⟩|⟨k,h⟩
    ·refine xf<|xk<|bn<|es<|rz ?_
     cases h
     exact en ⟨rfl,wk []⟩
    ·refine xt<|xs<|rz ?_
     refine es<|xr<|br<|er ?_
     cases h
     exact en ⟨rfl,wk []⟩
  ·refine xf<|xx<|ee ?_
   cases h
   exact en ⟨rfl,wk []⟩
 ·rcases e6 with e6|e6
  ·try dsimp only at h ⊢
   refine br<|er ?_
   cases h
   exact en (fI 0)
  ·try dsimp only at h ⊢
   refine bh<|es<|xs<|rz ?_
   refine es<|xr ?_
   cases h
   exact en (fI 0)
def g_diffcon_relax (l_0:List T_api_Bound) (x_1:List Int):Option (Bool × (List Int)):=(g_diffcon_relax_w l_0 x_1).bind fun r=>if r.2.length=x_1.length then some r else none
theorem a_diffcon_relax_len {l_0:List T_api_Bound} {x_1:List Int} {r:Bool × (List Int)} (h:g_diffcon_relax l_0 x_1=some r):x_1.length=r.2.length:=by
 unfold g_diffcon_relax at h
 obtain⟨x,_,h⟩:=bs h
 obtain⟨h1,h⟩:=ite_on h
 cases h
 exact h1.symm
theorem a_diffcon_relax_in {l_0:List T_api_Bound} {x_1:List Int} {r:Bool × (List Int)} (h:g_diffcon_relax l_0 x_1=some r):g_diffcon_relax_w l_0 x_1=some r:=by
 unfold g_diffcon_relax at h
 obtain⟨x,h0,h⟩:=bs h
 obtain⟨h1,h⟩:=ite_on h
 cases h
 exact h0
theorem a_diffcon_relax {I:World→Prop} (hI:Stab I) {H:Nat→Option Blk} {nid i0:Nat} {l_0:List T_api_Bound} {x_1:List Int} {r:Bool × (List Int)} (h:g_diffcon_relax l_0 x_1=some r) (b0:H i0=some (.vec 2 1 (x_1.map (D.int .i64)) false)):CallOK Tryz.prog I 70 [.sl (l_0.map T_api_Bound.d),.own i0 x_1.length] H nid (.bool r.1) [(i0,some (.vec 2 1 (r.2.map (D.int .i64)) false))] :=
 a_diffcon_relax_w hI (pn:=none) (a_diffcon_relax_in h) b0
def g_diffcon_shortest_s2 (m12:List (List Int)) (x334:Int × (List Int)):Option (Nx (Int × (List Int)) ((List Int))) :=
 (if(decide (x334.1 < ((m12.length:Nat):Int))) then((atI x334.2 x334.1).bind fun y382=>((setI x334.2 x334.1 1152921504606846976).bind fun m383=>(some (.go ((IntKind.i64.wrap (x334.1+1)),m383))))) else(some (.out x334.2)))
def g_diffcon_shortest_s1 (n_0:Int) (m12:List (List Int)) (x21:Int × (List (List Int))):Option (Nx (Int × (List (List Int))) ((List (List Int)))) :=
 (if(decide (x21.1 < ((m12.length:Nat):Int))) then((mkI 8 n_0 (0:Int)).bind fun m321=>((atI x21.2 x21.1).bind fun y328=>((iter (g_diffcon_shortest_s2 m12) (0,m321)).bind fun e335=>((atI e335 x21.1).bind fun y393=>((setI e335 x21.1 0).bind fun m394=>(some (.go ((IntKind.i64.wrap (x21.1+1)),(x21.2.set x21.1.toNat m394))))))))) else(some (.out x21.2)))
def g_diffcon_shortest_s5 (m12:List (List Int)) (x4393:Int × (List Int)):Option (Nx (Int × (List Int)) ((List Int))) :=
 (if(decide (x4393.1 < ((m12.length:Nat):Int))) then((atI x4393.2 x4393.1).bind fun y4462=>((setI x4393.2 x4393.1 1152921504606846976).bind fun m4463=>(some (.go ((IntKind.i64.wrap (x4393.1+1)),m4463))))) else(some (.out x4393.2)))
def g_diffcon_shortest_s6 (l_1:List T_api_Bound) (y4374:List Int) (x4473:Int × (List Int)):Option (Nx (Int × (List Int)) ((List Int))) :=
 (if(decide (x4473.1 < (l_1.length:Int))) then((atI l_1 x4473.1).bind fun y4600=>((atI y4374 y4600.I).bind fun y4606=>(if(y4606 != 1152921504606846976) then((atI x4473.2 y4600.J).bind fun y4610=>((setI x4473.2 y4600.J (if(IntKind.i64.wrap (y4606+y4600.C)) < y4610 then(IntKind.i64.wrap (y4606+y4600.C)) else y4610)).bind fun m4611=>(some (.go ((IntKind.i64.wrap (x4473.1+1)),m4611))))) else(some (.go ((IntKind.i64.wrap (x4473.1+1)),x4473.2)))))) else(some (.out x4473.2)))
def g_diffcon_shortest_s4 (n_0:Int) (l_1:List T_api_Bound) (m12:List (List Int)) (x404:Int × (List (List Int))) (x3580:Int × (List (List Int))):Option (Nx (Int × (List (List Int))) (Unit ⊕ ((List (List Int))))) :=
 (if(decide (x3580.1 < ((x404.2.length:Nat):Int))) then((atI x3580.2 x3580.1).bind fun y4374=>((mkI 8 n_0 (0:Int)).bind fun m4384=>((iter (g_diffcon_shortest_s5 m12) (0,m4384)).bind fun e4394=>((iter (g_diffcon_shortest_s6 l_1 y4374) (0,e4394)).bind fun e4474=>((atI e4474 x3580.1).bind fun y4627=>(if(decide (y4627 < 0)) then(some (.out (.inl ()))) else(some (.go ((IntKind.i64.wrap (x3580.1+1)),(x3580.2.set x3580.1.toNat e4474)))))))))) else(some (.out (.inr x3580.2))))
def g_diffcon_shortest_s3 (n_0:Int) (l_1:List T_api_Bound) (m12:List (List Int)) (x404:Int × (List (List Int))):Option (Nx (Int × (List (List Int))) (Int ⊕ Unit)) :=
 (if(decide (x404.1≤n_0)) then((iter (g_diffcon_shortest_s4 n_0 l_1 m12 x404) (0,x404.2)).bind fun e3581=>(match e3581 with|Sum.inl e3581=>(some (.out (.inl x404.1)))|Sum.inr (e3581)=>(some (.go ((IntKind.i64.wrap (x404.1+1)),e3581))))) else(some (.out (.inr ()))))
def g_diffcon_shortest (n_0:Int) (l_1:List T_api_Bound):Option (Int) :=
 ((mkI 24 n_0 ([]:List Int)).bind fun m12=>((iter (g_diffcon_shortest_s1 n_0 m12) (0,m12)).bind fun e22=>((iter (g_diffcon_shortest_s3 n_0 l_1 m12) (1,e22)).bind fun e405=>(match e405 with|Sum.inl e405=>(some e405)|Sum.inr (e405)=>(some 0)))))
theorem a_diffcon_shortest {I:World→Prop} (hI:Stab I) {n_0:Int} {l_1:List T_api_Bound} {r:Int} (h:g_diffcon_shortest n_0 l_1=some r):AFun Tryz.prog I 72 [.int .i64 n_0,.sl (l_1.map T_api_Bound.d)] (.int .i64 r):=by
 have dd:=dd_EC;have k:=True.intro;have q:=k;have rs:=Tryz.results72
 unfold g_diffcon_shortest at h
 refine .en hI Tryz.func72 Tryz.ntmps72 ?_
 refine xs<|rz ?_
 refine es<|xs<|rK fun K11 RK11 hK11 gK11=>zz ?_
 obtain⟨m12,h13,h⟩:=bind_some h
 obtain⟨h14,h15,h16,h17,h18⟩:=mkI_some h13
 have h18:=h18 dl_List_Int_i64
 try simp only[sevalprocAttr,List.map_nil,Int.toNat_natCast,dd] at h17 h18
 have q:=And.intro @h14<|And.intro @h15<|And.intro @h16<|And.intro @h17<|And.intro @h18<|q
 refine zz ?_
 subst hK11 gK11
 refine es<|xs<|xs<|rz ?_
 refine es<|xb ?_
 obtain⟨e22,h401,h⟩:=bs h
 refine rb_loop (fun x21=>⟨envL [(0,.int .i64 n_0),(1,.sl (l_1.map T_api_Bound.d)),(5,.own 0 x21.2.length),(18,.int .i64 ((m12.length:Nat):Int)),(19,.int .i64 x21.1)],heapL [(0,.vec 22 1 (x21.2.map dl_List_Int_i64) false)],1,114⟩) (fun _=>.exit 0) (fun e22=>⟨envL [(0,.int .i64 n_0),(1,.sl (l_1.map T_api_Bound.d)),(5,.own 0 e22.length)],heapL [(0,.vec 22 1 (e22.map dl_List_Int_i64) false)],1,114⟩) h401 (wk [(0,some 2)]) (by intro w;simp) ?_ ?_
 ·clear h
  intro x21 y h
  unfold g_diffcon_shortest_s1 at h
  refine xs<|rz ?_
  refine es<|xs ?_
  rcases iK k h with⟨k,h⟩|⟨k,h⟩
  ·refine xt<|xk<|es<|xs<|xb<|xs<|rz ?_
   refine es<|xs<|rK fun K320 RK320 hK320 gK320=>zz ?_
   obtain⟨m321,h322,h⟩:=bind_some h
   obtain⟨h323,h324,h325,h326,h327⟩:=mkI_some h322
   have h327:=h327 (D.int .i64)
   try simp only[sevalprocAttr,List.map_nil,Int.toNat_natCast,dd] at h326 h327
   rw[h17] at h326
   rw[← h326] at h327
   have k:=And.intro h326.symm k
   have q:=And.intro @h323<|And.intro @h324<|And.intro @h325<|And.intro @h327<|q
   refine zz ?_
   obtain⟨y328,q,h⟩:=oN q h
   refine zz ?_
   have h329:x21.1.toNat < x21.2.length:=by omega
   have q:=And.intro @h329<|q
   refine zz ?_
   subst hK320 gK320
   refine es<|xs<|xs<|rK fun K332 RK332 hK332 gK332=>zz ?_
   have h333:=mat_at (f:=dl_List_Int_i64) (L:=x21.2) (i:=x21.1.toNat) (x:=.own 7 m12.length) (by omega)
   have q:=And.intro @h333<|q
   refine zz ?_
   subst hK332 gK332
   refine es<|xb ?_
   obtain⟨e335,h390,h⟩:=bs h
   refine rb_loop (fun x334=>⟨envL [(0,.int .i64 n_0),(1,.sl (l_1.map T_api_Bound.d)),(5,.own 0 x21.2.length),(6,.int .i64 x21.1),(18,.int .i64 ((m12.length:Nat):Int)),(19,.int .i64 x21.1),(31,.int .i64 ((m12.length:Nat):Int)),(32,.int .i64 x334.1)],heapL [(0,.mat 22 1 ((x21.2.map dl_List_Int_i64).set x21.1.toNat (.own 1 x334.2.length))),(1,.vec 2 1 (x334.2.map (D.int .i64)) false)],2,114⟩) (fun _=>.exit 2) (fun e335=>⟨envL [(0,.int .i64 n_0),(1,.sl (l_1.map T_api_Bound.d)),(5,.own 0 x21.2.length),(6,.int .i64 x21.1),(18,.int .i64 ((m12.length:Nat):Int)),(19,.int .i64 x21.1)],heapL [(0,.mat 22 1 ((x21.2.map dl_List_Int_i64).set x21.1.toNat (.own 1 e335.length))),(1,.vec 2 1 (e335.map (D.int .i64)) false)],2,114⟩) h390 (wk [(1,some 7)]) (by intro w;simp) ?_ ?_
   ·clear h
    intro x334 y h
    unfold g_diffcon_shortest_s2 at h
    refine xs<|rz ?_
    refine es<|xs ?_
    rcases iK k h with⟨k,h⟩|⟨k,h⟩
    ·refine xt<|xk<|es<|xs<|xb<|xs<|rz ?_
     refine es<|rK fun K380 RK380 hK380 gK380=>zz ?_
     have h381:=mat_at (f:=dl_List_Int_i64) (L:=x21.2) (i:=x21.1.toNat) (x:=.own 1 x334.2.length) (by omega)
     have q:=And.intro @h381<|q
     refine zz ?_
     obtain⟨y382,q,h⟩:=oN q h
     refine zz ?_
     obtain⟨m383,h384,h⟩:=bind_some h
     obtain⟨h385,h386,h387,h388⟩:=setI_some h384
     have h388:=h388 (D.int .i64)
     try simp only[sevalprocAttr,List.map_nil,dd] at h388
     have q:=And.intro @h385<|And.intro @h386<|And.intro @h387<|And.intro @h388<|q
     refine zz ?_
     subst hK380 gK380
     refine bn<|es<|rz ?_
     cases h
     exact en ⟨rfl,wk []⟩
    ·refine xf<|xx<|ee ?_
     cases h
     exact en ⟨rfl,wk []⟩
   ·refine bh<|es<|rK fun K391 RK391 hK391 gK391=>zz ?_
    have h392:=mat_at (f:=dl_List_Int_i64) (L:=x21.2) (i:=x21.1.toNat) (x:=.own 1 e335.length) (by omega)
    have q:=And.intro @h392<|q
    refine zz ?_
    obtain⟨y393,q,h⟩:=oN q h
    refine zz ?_
    obtain⟨m394,h395,h⟩:=bind_some h
    obtain⟨h396,h397,h398,h399⟩:=setI_some h395
    have h399:=h399 (D.int .i64)
    try simp only[sevalprocAttr,List.map_nil,dd] at h399
    have q:=And.intro @h396<|And.intro @h397<|And.intro @h398<|And.intro @h399<|q
    refine zz ?_
    subst hK391 gK391
    refine bn<|es<|rz ?_
    cases h
    exact en ⟨rfl,((Wk.closeM (id:=0) (j:=1) (i:=x21.1.toNat) (f:=dl_List_Int_i64) (L:=x21.2) fz (by omega) fz fs (by decide) (fun _=>rfl)).trans (wk []))⟩
  ·refine xf<|xx<|ee ?_
   cases h
   exact en ⟨rfl,wk []⟩
 ·refine bh<|es<|xs<|xs<|rz ?_
  refine es<|xb ?_
  obtain⟨e405,h4634,h⟩:=bs h
  refine rb_loop (fun x404=>⟨envL [(0,.int .i64 n_0),(1,.sl (l_1.map T_api_Bound.d)),(5,.own 0 x404.2.length),(8,.int .i64 x404.1)],heapL [(0,.vec 22 1 (x404.2.map dl_List_Int_i64) false)],1,114⟩) (fun w=>match w with|Sum.inl _=>.ret|Sum.inr (_)=>.exit 4) (fun w=>match w with|Sum.inl e405=>⟨envL [(4,.int .i64 e405)],heapL [],0,114⟩|Sum.inr (e405)=>⟨envL [],heapL [],0,114⟩) h4634 (wk []) (by intro w;rcases w with w|w<;>simp) ?_ ?_
  ·clear h
   intro x404 y h
   unfold g_diffcon_shortest_s3 at h
   refine xs<|xs<|rz ?_
   refine es ?_
   rcases iK k h with⟨k,h⟩|⟨k,h⟩
   ·refine xt<|xk<|es<|xs<|xb<|xs<|rz ?_
    refine es<|xb ?_
    obtain⟨e3581,h4632,h⟩:=bs h
    refine rb_loop (fun x3580=>⟨envL [(0,.int .i64 n_0),(1,.sl (l_1.map T_api_Bound.d)),(5,.own 0 x3580.2.length),(8,.int .i64 x404.1),(54,.own 0 x3580.2.length),(55,.int .i64 ((x404.2.length:Nat):Int)),(56,.int .i64 x3580.1)],heapL [(0,.vec 22 1 (x3580.2.map dl_List_Int_i64) false)],1,114⟩) (fun w=>match w with|Sum.inl _=>.ret|Sum.inr (_)=>.exit 6) (fun w=>match w with|Sum.inl e3581=>⟨envL [(4,.int .i64 x404.1)],heapL [],0,114⟩|Sum.inr (e3581)=>⟨envL [(0,.int .i64 n_0),(1,.sl (l_1.map T_api_Bound.d)),(5,.own 0 e3581.length),(8,.int .i64 x404.1)],heapL [(0,.vec 22 1 (e3581.map dl_List_Int_i64) false)],1,114⟩) h4632 (wk []) (by intro w;rcases w with w|w<;>simp) ?_ ?_
    ·clear h
     intro x3580 y h
     unfold g_diffcon_shortest_s4 at h
     refine xs<|rz ?_
     refine es<|xs ?_
     rcases iK k h with⟨k,h⟩|⟨k,h⟩
     ·refine xt<|xk<|es<|xs<|xb<|xs<|rK fun K4373 RK4373 hK4373 gK4373=>zz ?_
      obtain⟨y4374,q,h⟩:=oN q h
      refine zz ?_
      subst hK4373 gK4373
      refine es<|xs<|rK fun K4383 RK4383 hK4383 gK4383=>zz ?_
      obtain⟨m4384,h4385,h⟩:=bind_some h
      obtain⟨h4386,h4387,h4388,h4389,h4390⟩:=mkI_some h4385
      have h4390:=h4390 (D.int .i64)
      try simp only[sevalprocAttr,List.map_nil,Int.toNat_natCast,dd] at h4389 h4390
      rw[h17] at h4389
      rw[← h4389] at h4390
      have k:=And.intro h4389.symm k
      have q:=And.intro @h4386<|And.intro @h4387<|And.intro @h4388<|And.intro @h4390<|q
      refine zz ?_
      subst hK4383 gK4383
      refine es<|xs<|xs<|rz ?_
      refine es<|xb ?_
      obtain⟨e4394,h4470,h⟩:=bs h
      refine rb_loop (fun x4393=>⟨envL [(0,.int .i64 n_0),(1,.sl (l_1.map T_api_Bound.d)),(5,.own 0 x3580.2.length),(8,.int .i64 x404.1),(9,.int .i64 x3580.1),(10,.sl (y4374.map (D.int .i64))),(11,.own 1 x4393.2.length),(54,.own 0 x3580.2.length),(55,.int .i64 ((x404.2.length:Nat):Int)),(56,.int .i64 x3580.1),(64,.int .i64 ((m12.length:Nat):Int)),(65,.int .i64 x4393.1)],heapL [(0,.vec 22 1 (x3580.2.map dl_List_Int_i64) false),(1,.vec 2 1 (x4393.2.map (D.int .i64)) false)],2,114⟩) (fun _=>.exit 8) (fun e4394=>⟨envL [(0,.int .i64 n_0),(1,.sl (l_1.map T_api_Bound.d)),(5,.own 0 x3580.2.length),(8,.int .i64 x404.1),(9,.int .i64 x3580.1),(10,.sl (y4374.map (D.int .i64))),(11,.own 1 e4394.length),(54,.own 0 x3580.2.length),(55,.int .i64 ((x404.2.length:Nat):Int)),(56,.int .i64 x3580.1)],heapL [(0,.vec 22 1 (x3580.2.map dl_List_Int_i64) false),(1,.vec 2 1 (e4394.map (D.int .i64)) false)],2,114⟩) h4470 (wk [(1,some 8)]) (by intro w;simp) ?_ ?_
      ·clear h
       intro x4393 y h
       unfold g_diffcon_shortest_s5 at h
       refine xs<|rz ?_
       refine es<|xs ?_
       rcases iK k h with⟨k,h⟩|⟨k,h⟩
       ·refine xt<|xk<|es<|xs<|xb<|xs<|rz ?_
        refine es<|rK fun K4461 RK4461 hK4461 gK4461=>zz ?_
        obtain⟨y4462,q,h⟩:=oN q h
        refine zz ?_
        obtain⟨m4463,h4464,h⟩:=bind_some h
        obtain⟨h4465,h4466,h4467,h4468⟩:=setI_some h4464
        have h4468:=h4468 (D.int .i64)
        try simp only[sevalprocAttr,List.map_nil,dd] at h4468
        have q:=And.intro @h4465<|And.intro @h4466<|And.intro @h4467<|And.intro @h4468<|q
        refine zz ?_
        subst hK4461 gK4461
        refine bn<|es<|rz ?_
        cases h
        exact en ⟨rfl,wk []⟩
       ·refine xf<|xx<|ee ?_
        cases h
        exact en ⟨rfl,wk []⟩
      ·refine bh<|es<|xs<|xs<|rz ?_
       refine es<|xb ?_
       obtain⟨e4474,h4619,h⟩:=bs h
       refine rb_loop (fun x4473=>⟨envL [(0,.int .i64 n_0),(1,.sl (l_1.map T_api_Bound.d)),(5,.own 0 x3580.2.length),(8,.int .i64 x404.1),(9,.int .i64 x3580.1),(10,.sl (y4374.map (D.int .i64))),(11,.own 1 x4473.2.length),(54,.own 0 x3580.2.length),(55,.int .i64 ((x404.2.length:Nat):Int)),(56,.int .i64 x3580.1),(72,.sl (l_1.map T_api_Bound.d)),(73,.int .i64 (l_1.length:Int)),(74,.int .i64 x4473.1)],heapL [(0,.vec 22 1 (x3580.2.map dl_List_Int_i64) false),(1,.vec 2 1 (x4473.2.map (D.int .i64)) false)],2,114⟩) (fun _=>.exit 10) (fun e4474=>⟨envL [(0,.int .i64 n_0),(1,.sl (l_1.map T_api_Bound.d)),(5,.own 0 x3580.2.length),(8,.int .i64 x404.1),(9,.int .i64 x3580.1),(11,.own 1 e4474.length),(54,.own 0 x3580.2.length),(55,.int .i64 ((x404.2.length:Nat):Int)),(56,.int .i64 x3580.1)],heapL [(0,.vec 22 1 (x3580.2.map dl_List_Int_i64) false),(1,.vec 2 1 (e4474.map (D.int .i64)) false)],2,114⟩) h4619 (wk []) (by intro w;simp) ?_ ?_
       ·clear h
        intro x4473 y h
        unfold g_diffcon_shortest_s6 at h
        refine xs<|rz ?_
        refine es<|xs ?_
        rcases iK k h with⟨k,h⟩|⟨k,h⟩
        ·refine xt<|xk<|es<|xs<|xb<|xs<|rK fun K4599 RK4599 hK4599 gK4599=>zz ?_
         obtain⟨y4600,q,h⟩:=bK q h
         refine zz ?_
         subst hK4599 gK4599
         refine es<|xs<|rK fun K4605 RK4605 hK4605 gK4605=>zz ?_
         obtain⟨y4606,q,h⟩:=bK q h
         refine zz ?_
         subst hK4605 gK4605
         refine es ?_
         rcases iK k h with⟨k,h⟩|⟨k,h⟩
         ·refine xt<|rD hI fun K4609 RK4609 hK4609 gK4609=>zz ?_
          obtain⟨y4610,q,h⟩:=oN q h
          refine zz ?_
          obtain⟨m4611,h4612,h⟩:=bind_some h
          obtain⟨h4613,h4614,h4615,h4616⟩:=setI_some h4612
          have h4616:=h4616 (D.int .i64)
          try simp only[sevalprocAttr,List.map_nil,dd] at h4616
          have q:=And.intro @h4613<|And.intro @h4614<|And.intro @h4615<|And.intro @h4616<|q
          refine zz ?_
          refine hd<|zz ?_
          subst hK4609 gK4609
          refine bn<|es<|rz ?_
          cases h
          exact en ⟨rfl,wk []⟩
         ·refine xf<|xk<|bn<|es<|rz ?_
          cases h
          exact en ⟨rfl,wk []⟩
        ·refine xf<|xx<|ee ?_
         cases h
         exact en ⟨rfl,wk []⟩
       ·refine bh<|es<|xs<|rK fun K4622 RK4622 hK4622 gK4622=>zz ?_
        have h4623:x3580.1.toNat < x3580.2.length:=by omega
        have q:=And.intro @h4623<|q
        refine zz ?_
        subst hK4622 gK4622
        refine es<|xs<|rK fun K4626 RK4626 hK4626 gK4626=>zz ?_
        obtain⟨y4627,q,h⟩:=oN q h
        refine zz ?_
        subst hK4626 gK4626
        refine es ?_
        rcases iK k h with⟨k,h⟩|⟨k,h⟩
        ·refine xt<|xs<|rz ?_
         refine es<|xr<|br<|er ?_
         cases h
         exact en ⟨rfl,wk []⟩
        ·refine xf<|xk<|bn<|es<|rz ?_
         cases h
         exact en ⟨rfl,((Wk.closeM (id:=0) (j:=1) (i:=x3580.1.toNat) (f:=dl_List_Int_i64) (L:=x3580.2) fz (by omega) fz fs (by decide) (fun _=>rfl)).trans (wk []))⟩
     ·refine xf<|xx<|ee ?_
      cases h
      exact en ⟨rfl,wk []⟩
    ·rcases e3581 with e3581|e3581
     ·try dsimp only at h ⊢
      refine br<|br<|er ?_
      cases h
      exact en ⟨rfl,wk []⟩
     ·try dsimp only at h ⊢
      refine bh<|bn<|es<|rz ?_
      cases h
      exact en ⟨rfl,wk []⟩
   ·refine xf<|xx<|ee ?_
    cases h
    exact en ⟨rfl,wk []⟩
  ·rcases e405 with e405|e405
   ·try dsimp only at h ⊢
    refine br<|er ?_
    cases h
    exact en fr
   ·try dsimp only at h ⊢
    refine bh<|es<|xs<|rz ?_
    refine es<|xr ?_
    cases h
    exact en fr
def g_diffcon_rests_s2 (m805:List Int) (x818:Int × (List Int)):Option (Nx (Int × (List Int)) ((List Int))) :=
 (if(decide (x818.1 < ((m805.length:Nat):Int))) then((atI x818.2 x818.1).bind fun y866=>((setI x818.2 x818.1 1152921504606846976).bind fun m867=>(some (.go ((IntKind.i64.wrap (x818.1+1)),m867))))) else(some (.out x818.2)))
def g_diffcon_rests_s3 (x21:Int × (List (List Int))) (z914:List T_api_Bound) (x919:Int × (List Int)):Option (Nx (Int × (List Int)) ((List Int))) :=
 (if(decide (x919.1 < (z914.length:Int))) then((atI z914 x919.1).bind fun y1019=>((atI x21.2 (IntKind.i64.wrap (x21.1 - 1))).bind fun y1028=>(if ¬ (IntKind.i64.wrap (x21.1 - 1))=x21.1 then((atI y1028 y1019.J).bind fun y1031=>(if(y1031 != 1152921504606846976) then((atI x919.2 y1019.I).bind fun y1036=>((setI x919.2 y1019.I (if(IntKind.i64.wrap (y1019.C+y1031)) < y1036 then(IntKind.i64.wrap (y1019.C+y1031)) else y1036)).bind fun m1037=>(some (.go ((IntKind.i64.wrap (x919.1+1)),m1037))))) else(some (.go ((IntKind.i64.wrap (x919.1+1)),x919.2))))) else none))) else(some (.out x919.2)))
def g_diffcon_rests_s1 (n_0:Int) (l_1:List T_api_Bound) (first_2:Int) (to_4:Int) (m12:List (List Int)) (x21:Int × (List (List Int))):Option (Nx (Int × (List (List Int))) ((List (List Int)))) :=
 (if(decide (x21.1 < ((m12.length:Nat):Int))) then((mkI 8 n_0 (0:Int)).bind fun m805=>((atI x21.2 x21.1).bind fun y812=>((iter (g_diffcon_rests_s2 m805) (0,m805)).bind fun e819=>(if(x21.1 == 0) then((atI x21.2 0).bind fun y893=>((atI e819 to_4).bind fun y899=>((setI e819 to_4 0).bind fun m900=>(some (.go ((IntKind.i64.wrap (x21.1+1)),(x21.2.set x21.1.toNat m900))))))) else((subL l_1 (IntKind.i64.wrap (first_2+1))).bind fun z914=>((iter (g_diffcon_rests_s3 x21 z914) (0,e819)).bind fun e920=>(some (.go ((IntKind.i64.wrap (x21.1+1)),(x21.2.set x21.1.toNat e920)))))))))) else(some (.out x21.2)))
def g_diffcon_rests (n_0:Int) (l_1:List T_api_Bound) (first_2:Int) (size_3:Int) (to_4:Int):Option ((List (List Int))) :=
 ((mkI 24 size_3 ([]:List Int)).bind fun m12=>((iter (g_diffcon_rests_s1 n_0 l_1 first_2 to_4 m12) (0,m12)).bind fun e22=>(some e22)))
theorem a_diffcon_rests {I:World→Prop} (hI:Stab I) {n_0:Int} {l_1:List T_api_Bound} {first_2:Int} {size_3:Int} {to_4:Int} {r:(List (List Int))} (h:g_diffcon_rests n_0 l_1 first_2 size_3 to_4=some r):AFun Tryz.prog I 118 [.int .i64 n_0,.sl (l_1.map T_api_Bound.d),.int .i64 first_2,.int .i64 size_3,.int .i64 to_4] (.sl (r.map dl_List_Int_i64)):=by
 have dd:=dd_EC;have k:=True.intro;have q:=k;have rs:=Tryz.results118
 unfold g_diffcon_rests at h
 refine .en hI Tryz.func118 Tryz.ntmps118 ?_
 refine xs<|rz ?_
 refine es<|xs<|rK fun K11 RK11 hK11 gK11=>zz ?_
 obtain⟨m12,h13,h⟩:=bind_some h
 obtain⟨h14,h15,h16,h17,h18⟩:=mkI_some h13
 have h18:=h18 dl_List_Int_i64
 try simp only[sevalprocAttr,List.map_nil,Int.toNat_natCast,dd] at h17 h18
 have q:=And.intro @h14<|And.intro @h15<|And.intro @h16<|And.intro @h17<|And.intro @h18<|q
 refine zz ?_
 subst hK11 gK11
 refine es<|xs<|xs<|rz ?_
 refine es<|xb ?_
 obtain⟨e22,h1047,h⟩:=bs h
 refine rb_loop (fun x21=>⟨envL [(0,.int .i64 n_0),(1,.sl (l_1.map T_api_Bound.d)),(2,.int .i64 first_2),(4,.int .i64 to_4),(11,.own 0 x21.2.length),(19,.int .i64 ((m12.length:Nat):Int)),(20,.int .i64 x21.1)],heapL [(0,.vec 22 1 (x21.2.map dl_List_Int_i64) false)],1,100⟩) (fun _=>.exit 0) (fun e22=>⟨envL [(11,.own 0 e22.length)],heapL [(0,.vec 22 1 (e22.map dl_List_Int_i64) false)],1,100⟩) h1047 (wk [(0,some 2)]) (by intro w;simp) ?_ ?_
 ·clear h
  intro x21 y h
  unfold g_diffcon_rests_s1 at h
  refine xs<|rz ?_
  refine es<|xs ?_
  rcases iK k h with⟨k,h⟩|⟨k,h⟩
  ·refine xt<|xk<|es<|xs<|xb<|xs<|rz ?_
   refine es<|xs<|rK fun K804 RK804 hK804 gK804=>zz ?_
   obtain⟨m805,h806,h⟩:=bind_some h
   obtain⟨h807,h808,h809,h810,h811⟩:=mkI_some h806
   have h811:=h811 (D.int .i64)
   try simp only[sevalprocAttr,List.map_nil,Int.toNat_natCast,dd] at h810 h811
   have q:=And.intro @h807<|And.intro @h808<|And.intro @h809<|And.intro @h810<|And.intro @h811<|q
   refine zz ?_
   obtain⟨y812,q,h⟩:=oN q h
   refine zz ?_
   have h813:x21.1.toNat < x21.2.length:=by omega
   have q:=And.intro @h813<|q
   refine zz ?_
   subst hK804 gK804
   refine es<|xs<|xs<|rK fun K816 RK816 hK816 gK816=>zz ?_
   have h817:=mat_at (f:=dl_List_Int_i64) (L:=x21.2) (i:=x21.1.toNat) (x:=.own 7 m805.length) (by omega)
   have q:=And.intro @h817<|q
   refine zz ?_
   subst hK816 gK816
   refine es<|xb ?_
   obtain⟨e819,h874,h⟩:=bs h
   refine rb_loop (fun x818=>⟨envL [(0,.int .i64 n_0),(1,.sl (l_1.map T_api_Bound.d)),(2,.int .i64 first_2),(4,.int .i64 to_4),(11,.own 0 x21.2.length),(12,.int .i64 x21.1),(19,.int .i64 ((m12.length:Nat):Int)),(20,.int .i64 x21.1),(32,.int .i64 ((m805.length:Nat):Int)),(33,.int .i64 x818.1)],heapL [(0,.mat 22 1 ((x21.2.map dl_List_Int_i64).set x21.1.toNat (.own 1 x818.2.length))),(1,.vec 2 1 (x818.2.map (D.int .i64)) false)],2,100⟩) (fun _=>.exit 2) (fun e819=>⟨envL [(0,.int .i64 n_0),(1,.sl (l_1.map T_api_Bound.d)),(2,.int .i64 first_2),(4,.int .i64 to_4),(11,.own 0 x21.2.length),(12,.int .i64 x21.1),(19,.int .i64 ((m12.length:Nat):Int)),(20,.int .i64 x21.1)],heapL [(0,.mat 22 1 ((x21.2.map dl_List_Int_i64).set x21.1.toNat (.own 1 e819.length))),(1,.vec 2 1 (e819.map (D.int .i64)) false)],2,100⟩) h874 (wk [(1,some 7)]) (by intro w;simp) ?_ ?_
   ·clear h
    intro x818 y h
    unfold g_diffcon_rests_s2 at h
    refine xs<|rz ?_
    refine es<|xs ?_
    rcases iK k h with⟨k,h⟩|⟨k,h⟩
    ·refine xt<|xk<|es<|xs<|xb<|xs<|rz ?_
     refine es<|rK fun K864 RK864 hK864 gK864=>zz ?_
     have h865:=mat_at (f:=dl_List_Int_i64) (L:=x21.2) (i:=x21.1.toNat) (x:=.own 1 x818.2.length) (by omega)
     have q:=And.intro @h865<|q
     refine zz ?_
     obtain⟨y866,q,h⟩:=oN q h
     refine zz ?_
     obtain⟨m867,h868,h⟩:=bind_some h
     obtain⟨h869,h870,h871,h872⟩:=setI_some h868
     have h872:=h872 (D.int .i64)
     try simp only[sevalprocAttr,List.map_nil,dd] at h872
     have q:=And.intro @h869<|And.intro @h870<|And.intro @h871<|And.intro @h872<|q
     refine zz ?_
     subst hK864 gK864
     refine bn<|es<|rz ?_
     cases h
     exact en ⟨rfl,wk []⟩
    ·refine xf<|xx<|ee ?_
     cases h
     exact en ⟨rfl,wk []⟩
   ·refine bh<|es<|xs<|xs<|rz ?_
    refine es ?_
    rcases iK k h with⟨k,h⟩|⟨k,h⟩
    ·refine xt<|xs<|rK fun K892 RK892 hK892 gK892=>zz ?_
     obtain⟨y893,h894,h⟩:=bind_some h
     obtain⟨h895,h896,h897⟩:=atI_own h894
     try simp only[Int.reduceToNat,Int.toNat_zero,Int.toNat_one] at h897
     have q:=And.intro h895<|And.intro h896<|And.intro @h897 q
     have h898:=mat_at0 (f:=dl_List_Int_i64) (L:=x21.2) (i:=x21.1) (m:=0) (x:=.own 1 e819.length) (by have:=k;simp only[beq_iff_eq] at this;omega) (by omega)
     have q:=And.intro @h898<|q
     refine zz ?_
     obtain⟨y899,q,h⟩:=oN q h
     refine zz ?_
     obtain⟨m900,h901,h⟩:=bind_some h
     obtain⟨h902,h903,h904,h905⟩:=setI_some h901
     have h905:=h905 (D.int .i64)
     try simp only[sevalprocAttr,List.map_nil,dd] at h905
     have q:=And.intro @h902<|And.intro @h903<|And.intro @h904<|And.intro @h905<|q
     refine zz ?_
     subst hK892 gK892
     refine es<|xx<|ee<|bh<|es<|rz ?_
     cases h
     exact en ⟨rfl,((Wk.closeM (id:=0) (j:=1) (i:=x21.1.toNat) (f:=dl_List_Int_i64) (L:=x21.2) fz (by omega) fz fs (by decide) (fun _=>rfl)).trans (wk []))⟩
    ·refine xf<|xk<|es<|xs<|rK fun K913 RK913 hK913 gK913=>zz ?_
     obtain⟨z914,h915,h⟩:=bind_some h
     obtain⟨⟨h916,h917⟩,h918⟩:=subL_some h915
     have q:=And.intro @h916<|And.intro @h917<|q
     try simp -implicitDefEqProofs only[vt,vm,sevalprocAttr,dd,k,q] at h918
     have q:=And.intro @h918<|q
     refine zz ?_
     subst hK913 gK913
     refine es<|xb ?_
     obtain⟨e920,h1045,h⟩:=bs h
     refine rb_loop (fun x919=>⟨envL [(0,.int .i64 n_0),(1,.sl (l_1.map T_api_Bound.d)),(2,.int .i64 first_2),(4,.int .i64 to_4),(11,.own 0 x21.2.length),(12,.int .i64 x21.1),(19,.int .i64 ((m12.length:Nat):Int)),(20,.int .i64 x21.1),(53,.sl (z914.map T_api_Bound.d)),(54,.int .i64 (z914.length:Int)),(55,.int .i64 x919.1)],heapL [(0,.mat 22 1 ((x21.2.map dl_List_Int_i64).set x21.1.toNat (.own 1 x919.2.length))),(1,.vec 2 1 (x919.2.map (D.int .i64)) false)],2,100⟩) (fun _=>.exit 4) (fun e920=>⟨envL [(0,.int .i64 n_0),(1,.sl (l_1.map T_api_Bound.d)),(2,.int .i64 first_2),(4,.int .i64 to_4),(11,.own 0 x21.2.length),(19,.int .i64 ((m12.length:Nat):Int)),(20,.int .i64 x21.1)],heapL [(0,.mat 22 1 ((x21.2.map dl_List_Int_i64).set x21.1.toNat (.own 1 e920.length))),(1,.vec 2 1 (e920.map (D.int .i64)) false)],2,100⟩) h1045 (wk []) (by intro w;simp) ?_ ?_
     ·clear h
      intro x919 y h
      unfold g_diffcon_rests_s3 at h
      refine xs<|rz ?_
      refine es<|xs ?_
      rcases iK k h with⟨k,h⟩|⟨k,h⟩
      ·refine xt<|xk<|es<|xs<|xb<|xs<|rK fun K1018 RK1018 hK1018 gK1018=>zz ?_
       obtain⟨y1019,q,h⟩:=bK q h
       refine zz ?_
       subst hK1018 gK1018
       refine es<|xs<|rD hI fun K1027 RK1027 hK1027 gK1027=>zz ?_
       obtain⟨y1028,q,h⟩:=oN q h
       obtain⟨h1029,h⟩:=ite_on h
       have h1030:=mat_ne (i:=x21.1.toNat) (x:=.own 1 x919.2.length) (q.1.2.2 dl_List_Int_i64) (by omega)
       have q:=And.intro @h1030<|q
       refine zz ?_
       obtain⟨y1031,q,h⟩:=bK q h
       refine zz ?_
       subst hK1027 gK1027
       refine es ?_
       rcases iK k h with⟨k,h⟩|⟨k,h⟩
       ·refine xt<|rD hI fun K1034 RK1034 hK1034 gK1034=>zz ?_
        have h1035:=mat_at (f:=dl_List_Int_i64) (L:=x21.2) (i:=x21.1.toNat) (x:=.own 1 x919.2.length) (by omega)
        have q:=And.intro @h1035<|q
        refine zz ?_
        obtain⟨y1036,q,h⟩:=oN q h
        refine zz ?_
        obtain⟨m1037,h1038,h⟩:=bind_some h
        obtain⟨h1039,h1040,h1041,h1042⟩:=setI_some h1038
        have h1042:=h1042 (D.int .i64)
        try simp only[sevalprocAttr,List.map_nil,dd] at h1042
        have q:=And.intro @h1039<|And.intro @h1040<|And.intro @h1041<|And.intro @h1042<|q
        refine zz ?_
        refine hd<|zz ?_
        subst hK1034 gK1034
        refine bn<|es<|rz ?_
        cases h
        exact en ⟨rfl,wk []⟩
       ·refine xf<|xk<|bn<|es<|rz ?_
        cases h
        exact en ⟨rfl,wk []⟩
      ·refine xf<|xx<|ee ?_
       cases h
       exact en ⟨rfl,wk []⟩
     ·refine bh<|bn<|es<|rz ?_
      cases h
      exact en ⟨rfl,((Wk.closeM (id:=0) (j:=1) (i:=x21.1.toNat) (f:=dl_List_Int_i64) (L:=x21.2) fz (by omega) fz fs (by decide) (fun _=>rfl)).trans (wk []))⟩
  ·refine xf<|xx<|ee ?_
   cases h
   exact en ⟨rfl,wk []⟩
 ·refine bh<|es<|xs<|rz ?_
  refine es<|xr ?_
  cases h
  exact en fr
def g_diffcon_conflict_s3 (l_1:List T_api_Bound) (r2600:(List (List Int))) (x2624:Int × Int × Int × (List Int)) (x3244:Int):Option (Nx (Int) ((List Int) × Int × Int)) :=
 (if(decide (x3244 < (l_1.length:Int))) then((atI l_1 x3244).bind fun y3416=>(((if(y3416.I == x2624.1) then((atI r2600 x2624.2.2.1).bind fun y3428=>((atI y3428 y3416.J).bind fun y3430=>(if(y3430 != 1152921504606846976) then(some (decide ((IntKind.i64.wrap ((IntKind.i64.wrap (x2624.2.1+y3416.C))+y3430)) < 0))) else(some false)))) else(some false)):Option (Bool)).bind fun v3425=>(if v3425 then(if(x2624.2.2.2.length+1) * 8≤140737488355328 then(some (.out ((x2624.2.2.2++[x3244]),y3416.J,(IntKind.i64.wrap (x2624.2.1+y3416.C))))) else none) else(some (.go (IntKind.i64.wrap (x3244+1))))))) else(some (.out (x2624.2.2.2,x2624.1,x2624.2.1))))
def g_diffcon_conflict_s2 (l_1:List T_api_Bound) (x5:Int) (r2600:(List (List Int))) (x2624:Int × Int × Int × (List Int)):Option (Nx (Int × Int × Int × (List Int)) ((List Int))) :=
 (if(decide (0≤x2624.2.2.1)) then((iter (g_diffcon_conflict_s3 l_1 r2600 x2624) (IntKind.i64.wrap (x5+1))).bind fun e3245=>(some (.go (e3245.2.1,e3245.2.2,(IntKind.i64.wrap (x2624.2.2.1 - 1)),e3245.1)))) else(some (.out x2624.2.2.2)))
def g_diffcon_conflict_s1 (n_0:Int) (l_1:List T_api_Bound) (size_2:Int) (x5:Int):Option (Nx (Int) (((List Int)) ⊕ Unit)) :=
 (if(decide (x5 < (l_1.length:Int))) then((atI l_1 x5).bind fun y2594=>((g_diffcon_rests n_0 l_1 x5 size_2 y2594.I).bind fun r2600=>((((atI r2600 (IntKind.i64.wrap (size_2 - 1))).bind fun y2610=>((atI y2610 y2594.J).bind fun y2612=>(if(y2612 == 1152921504606846976) then(some true) else(some (decide (0≤(IntKind.i64.wrap (y2594.C+y2612)))))))):Option (Bool)).bind fun v2608=>(if v2608 then(some (.go (IntKind.i64.wrap (x5+1)))) else((iter (g_diffcon_conflict_s2 l_1 x5 r2600) (y2594.J,y2594.C,(IntKind.i64.wrap (size_2 - 2)),[x5])).bind fun e2625=>(some (.out (.inl e2625)))))))) else(some (.out (.inr ()))))
def g_diffcon_conflict (n_0:Int) (l_1:List T_api_Bound) (size_2:Int):Option ((List Int)) :=
 ((iter (g_diffcon_conflict_s1 n_0 l_1 size_2) 0).bind fun e6=>(match e6 with|Sum.inl e6=>(some e6)|Sum.inr (e6)=>(some [])))
theorem a_diffcon_conflict {I:World→Prop} (hI:Stab I) {n_0:Int} {l_1:List T_api_Bound} {size_2:Int} {r:(List Int)} (h:g_diffcon_conflict n_0 l_1 size_2=some r):AFun Tryz.prog I 71 [.int .i64 n_0,.sl (l_1.map T_api_Bound.d),.int .i64 size_2] (.sl (r.map (D.int .i64))):=by
 have dd:=dd_EC;have k:=True.intro;have q:=k;have rs:=Tryz.results71
 unfold g_diffcon_conflict at h
 refine .en hI Tryz.func71 Tryz.ntmps71 ?_
 refine xs<|rz ?_
 refine es<|xs<|xs<|rz ?_
 refine es<|xb ?_
 obtain⟨e6,h3449,h⟩:=bs h
 refine rb_loop (fun x5=>⟨envL [(0,.int .i64 n_0),(1,.sl (l_1.map T_api_Bound.d)),(2,.int .i64 size_2),(16,.sl (l_1.map T_api_Bound.d)),(17,.int .i64 (l_1.length:Int)),(18,.int .i64 x5)],heapL [],0,122⟩) (fun w=>match w with|Sum.inl _=>.ret|Sum.inr (_)=>.exit 0) (fun w=>match w with|Sum.inl e6=>⟨envL [(6,.own 0 e6.length)],heapL [(0,.vec 3 1 (e6.map (D.int .i64)) false)],1,122⟩|Sum.inr (e6)=>⟨envL [],heapL [],0,122⟩) h3449 (wk []) (by intro w;rcases w with w|w<;>simp) ?_ ?_
 ·clear h
  intro x5 y h
  unfold g_diffcon_conflict_s1 at h
  refine xs<|rz ?_
  refine es<|xs ?_
  rcases iK k h with⟨k,h⟩|⟨k,h⟩
  ·refine xt<|xk<|es<|xs<|xb<|xs<|rK fun K2593 RK2593 hK2593 gK2593=>zz ?_
   obtain⟨y2594,q,h⟩:=bK q h
   refine zz ?_
   subst hK2593 gK2593
   refine es<|xs<|rK fun K2599 RK2599 hK2599 gK2599=>zz ?_
   obtain⟨r2600,h2601,h⟩:=bs h
   refine cw (a_diffcon_rests hI h2601)<|zz ?_
   subst hK2599 gK2599
   refine es<|xs ?_
   obtain⟨v2608,h2615,h⟩:=bs h
   refine rb_cut (fun v2608=>⟨envL [(0,.int .i64 n_0),(1,.sl (l_1.map T_api_Bound.d)),(2,.int .i64 size_2),(7,.int .i64 x5),(8,.ptr 0 0),(9,.sl (r2600.map dl_List_Int_i64)),(16,.sl (l_1.map T_api_Bound.d)),(17,.int .i64 (l_1.length:Int)),(18,.int .i64 x5),(54,.bool v2608)],heapL [(0,.box none [.int .i64 y2594.I,.int .i64 y2594.J,.int .i64 y2594.C,.int .u8 y2594.Rule,.int .i64 y2594.ID,.int .i64 y2594.Other])],1,122⟩) h2615 ?_ ?_
   ·clear h
    intro v2608 h
    refine rD hI fun K2609 RK2609 hK2609 gK2609=>zz ?_
    obtain⟨y2610,q,h⟩:=bK q h
    refine zz ?_
    obtain⟨y2612,q,h⟩:=bK q h
    refine zz ?_
    rcases iK k h with⟨k,h⟩|⟨k,h⟩
    ·refine zz ?_
     subst hK2609 gK2609
     cases h
     exact en ⟨rfl,wk [(0,some 4)]⟩
    ·refine zz ?_
     subst hK2609 gK2609
     cases h
     exact en ⟨rfl,wk [(0,some 4)]⟩
   ·rcases iK k h with⟨k,h⟩|⟨k,h⟩
    ·refine xt<|xx<|ee<|bh<|es<|rz ?_
     cases h
     exact en ⟨rfl,wk []⟩
    ·refine xf<|xk<|es<|xs<|rz ?_
     refine es<|xs<|rd hI ?_
     refine es<|xs<|xs<|rz ?_
     refine es<|xb ?_
     obtain⟨e2625,h3446,h⟩:=bs h
     refine rb_loop (fun x2624=>⟨envL [(1,.sl (l_1.map T_api_Bound.d)),(7,.int .i64 x5),(9,.sl (r2600.map dl_List_Int_i64)),(10,.own 0 x2624.2.2.2.length),(11,.int .i64 x2624.1),(12,.int .i64 x2624.2.1),(13,.int .i64 x2624.2.2.1)],heapL [(0,.vec 3 1 (x2624.2.2.2.map (D.int .i64)) false)],1,122⟩) (fun _=>.exit 2) (fun e2625=>⟨envL [(10,.own 0 e2625.length)],heapL [(0,.vec 3 1 (e2625.map (D.int .i64)) false)],1,122⟩) h3446 (wk [(0,some 2)]) (by intro w;simp) ?_ ?_
     ·clear h
      intro x2624 y h
      unfold g_diffcon_conflict_s2 at h
      refine xs<|xs<|rz ?_
      refine es ?_
      rcases iK k h with⟨k,h⟩|⟨k,h⟩
      ·refine xt<|xk<|es<|xs<|xb<|xs<|rz ?_
       refine es<|xb ?_
       obtain⟨e3245,h3444,h⟩:=bs h
       refine rb_loop (fun x3244=>⟨envL [(1,.sl (l_1.map T_api_Bound.d)),(7,.int .i64 x5),(9,.sl (r2600.map dl_List_Int_i64)),(10,.own 0 x2624.2.2.2.length),(11,.int .i64 x2624.1),(12,.int .i64 x2624.2.1),(13,.int .i64 x2624.2.2.1),(14,.int .i64 x3244)],heapL [(0,.vec 3 1 (x2624.2.2.2.map (D.int .i64)) false)],1,122⟩) (fun _=>.exit 4) (fun e3245=>⟨envL [(1,.sl (l_1.map T_api_Bound.d)),(7,.int .i64 x5),(9,.sl (r2600.map dl_List_Int_i64)),(10,.own 0 e3245.1.length),(11,.int .i64 e3245.2.1),(12,.int .i64 e3245.2.2),(13,.int .i64 x2624.2.2.1)],heapL [(0,.vec 3 1 (e3245.1.map (D.int .i64)) false)],1,122⟩) h3444 (wk []) (by intro w;simp) ?_ ?_
       ·clear h
        intro x3244 y h
        unfold g_diffcon_conflict_s3 at h
        refine xs<|xs<|rz ?_
        refine es ?_
        rcases iK k h with⟨k,h⟩|⟨k,h⟩
        ·refine xt<|xk<|es<|xs<|xb<|xs<|rK fun K3415 RK3415 hK3415 gK3415=>zz ?_
         obtain⟨y3416,q,h⟩:=bK q h
         refine zz ?_
         subst hK3415 gK3415
         refine es ?_
         obtain⟨v3425,h3433,h⟩:=bs h
         refine rb_cut (fun v3425=>⟨envL [(1,.sl (l_1.map T_api_Bound.d)),(7,.int .i64 x5),(9,.sl (r2600.map dl_List_Int_i64)),(10,.own 0 x2624.2.2.2.length),(11,.int .i64 x2624.1),(12,.int .i64 x2624.2.1),(13,.int .i64 x2624.2.2.1),(14,.int .i64 x3244),(15,.ptr 1 0),(109,.bool v3425)],heapL [(0,.vec 3 1 (x2624.2.2.2.map (D.int .i64)) false),(1,.box none [.int .i64 y3416.I,.int .i64 y3416.J,.int .i64 y3416.C,.int .u8 y3416.Rule,.int .i64 y3416.ID,.int .i64 y3416.Other])],2,122⟩) h3433 ?_ ?_
         ·clear h
          intro v3425 h
          refine rD hI fun K3426 RK3426 hK3426 gK3426=>zz ?_
          rcases iK k h with⟨k,h⟩|⟨k,h⟩
          ·refine zz ?_
           obtain⟨y3428,q,h⟩:=bK q h
           refine zz ?_
           obtain⟨y3430,q,h⟩:=bK q h
           refine zz ?_
           rcases iK k h with⟨k,h⟩|⟨k,h⟩
           ·refine zz ?_
            subst hK3426 gK3426
            cases h
            exact en ⟨rfl,wk [(1,some 9)]⟩
           ·refine zz ?_
            subst hK3426 gK3426
            cases h
            exact en ⟨rfl,wk [(1,some 9)]⟩
          ·refine zz ?_
           subst hK3426 gK3426
           cases h
           exact en ⟨rfl,wk [(1,some 9)]⟩
         ·rcases iK k h with⟨k,h⟩|⟨k,h⟩
          ·refine xt<|xs<|rK fun K3438 RK3438 hK3438 gK3438=>zz ?_
           obtain⟨h3439,h⟩:=ite_on h
           have h3440:x2624.2.2.2.length+1≤9223372036854775807:=by omega
           try simp only[Nat.reduceLeDiff] at h3440
           have q:=And.intro @h3440<|And.intro @h3439<|q
           refine zz ?_
           subst hK3438 gK3438
           refine es<|xs<|rd hI ?_
           refine es<|xx<|bm<|ee ?_
           cases h
           exact en ⟨rfl,wk [(0,some 5)]⟩
          ·refine xf<|xk<|bn<|es<|rz ?_
           cases h
           exact en ⟨rfl,wk []⟩
        ·refine xf<|xx<|ee ?_
         cases h
         exact en ⟨rfl,wk []⟩
       ·refine bh<|bn<|es<|rz ?_
        cases h
        exact en ⟨rfl,wk []⟩
      ·refine xf<|xx<|ee ?_
       cases h
       exact en ⟨rfl,wk []⟩
     ·refine bh<|es<|xs<|rz ?_
      refine es<|xr<|br<|er ?_
      cases h
      exact en ⟨rfl,wk []⟩
  ·refine xf<|xx<|ee ?_
   cases h
   exact en ⟨rfl,wk []⟩
 ·rcases e6 with e6|e6
  ·try dsimp only at h ⊢
   refine br<|er ?_
   cases h
   exact en fr
  ·try dsimp only at h ⊢
   refine bh<|es<|xs<|rz ?_
   refine es<|xr ?_
   cases h
   exact en fr
def g_diffcon_Solve (n_0:Int) (l_1:List T_api_Bound):Option ((List Int) × (List Int) × Int) :=
 ((g_diffcon_Check n_0 l_1).bind fun r7=>(if(r7 != 0) then(some ([],[],r7)) else((mkI 8 n_0 (0:Int)).bind fun m23=>((g_diffcon_relax l_1 m23).bind fun r34=>(if r34.1 then(some (r34.2,[],0)) else((g_diffcon_shortest n_0 l_1).bind fun r45=>((g_diffcon_conflict n_0 l_1 r45).bind fun r47=>(some ([],r47,16)))))))))
theorem a_diffcon_Solve {I:World→Prop} (hI:Stab I) {n_0:Int} {l_1:List T_api_Bound} {r:(List Int) × (List Int) × Int} (h:g_diffcon_Solve n_0 l_1=some r):AFun Tryz.prog I 26 [.int .i64 n_0,.sl (l_1.map T_api_Bound.d)] (.tup [.sl (r.1.map (D.int .i64)),.sl (r.2.1.map (D.int .i64)),.int .i64 r.2.2]):=by
 have dd:=dd_EC;have k:=True.intro;have q:=k;have rs:=Tryz.results26
 unfold g_diffcon_Solve at h
 refine .en hI Tryz.func26 Tryz.ntmps26 ?_
 refine xs<|rz ?_
 refine es<|xs<|xs<|rK fun K6 RK6 hK6 gK6=>zz ?_
 obtain⟨r7,h8,h⟩:=bs h
 refine cw (a_diffcon_Check hI h8)<|zz ?_
 subst hK6 gK6
 refine es<|xs<|rz ?_
 refine es ?_
 rcases iK k h with⟨k,h⟩|⟨k,h⟩
 ·refine xt<|xs<|rz ?_
  refine es<|xr<|er ?_
  cases h
  exact en fr
 ·refine xf<|xk<|es<|xs<|rK fun K22 RK22 hK22 gK22=>zz ?_
  obtain⟨m23,h24,h⟩:=bind_some h
  obtain⟨h25,h26,h27,h28,h29⟩:=mkI_some h24
  have h29:=h29 (D.int .i64)
  try simp only[sevalprocAttr,List.map_nil,Int.toNat_natCast,dd] at h28 h29
  have q:=And.intro @h25<|And.intro @h26<|And.intro @h27<|And.intro @h28<|And.intro @h29<|q
  refine zz ?_
  subst hK22 gK22
  refine es<|xs<|xs<|rK fun K33 RK33 hK33 gK33=>zz ?_
  obtain⟨r34,h35,h⟩:=bs h
  have q:=And.intro (a_diffcon_relax_len h35) q
  refine cW.introR (a_diffcon_relax hI (nid:=14) (i0:=10) h35 fz) fs rfl<|zz ?_
  subst hK33 gK33
  refine es ?_
  rcases iK k h with⟨k,h⟩|⟨k,h⟩
  ·refine xt<|xs<|rz ?_
   refine es<|xr<|er ?_
   cases h
   exact en fr
  ·refine xf<|xk<|es<|xs<|rK fun K44 RK44 hK44 gK44=>zz ?_
   obtain⟨r45,h46,h⟩:=bs h
   refine cw (a_diffcon_shortest hI h46)<|zz ?_
   obtain⟨r47,h48,h⟩:=bs h
   refine cw (a_diffcon_conflict hI h48)<|zz ?_
   subst hK44 gK44
   refine es<|xr ?_
   cases h
   exact en fr
section
variable {P:Program} {I:World→Prop} {f:FuncId} {ds:List D}
theorem AFun.of_own {e:TypeId} {k:Nat} {xs:List D} (h:∀ (H:Nat→Option Blk) (nid:Nat),CallOK P I f ds H nid (.own nid xs.length) [(nid,some (.vec e k xs false))]):AFun P I f ds (.sl xs):=by
 refine⟨(h (fun _=>none) 0).1,fun w F args hI hF hl hr=>?_⟩
 have hc:=(h (fun _=>none) 0).2 w w (cF F) ⟨fun g=>w.heap.size≤g,fun _=>Go.undef⟩ args hI (Below.refl _ _) (fun _ h=>h) ⟨fun id b h=>(by cases h),fun id b h=>(by cases h),fun id k cs h=>(by cases h),fun id id' b b' h=>(by cases h)⟩ hF (fun _ h=>h) (fun h=>h) hl hr
 refine hc.mono ?_
 rintro e' w' ⟨v,C',rfl,hb,he,hv,hH,hFB,_,hn⟩
 have hi:appEff (fun _=>none) [(0,some (Blk.vec e k xs false))] 0=some (.vec e k xs false):=by simp[appEff,upd]
 obtain⟨C'',hP,hs⟩:=pub_vec hH hFB hi
 refine⟨v,C''.F,rfl,hb.to,(he.trans hP.ext).cF,hP.fb,fun b o hbo=>?_,hs v hv⟩
 rcases hP.new b o hbo with h1|h1
 ·exact hn b o h1
 ·exact .inr h1
theorem CallOK.of_run {e:TypeId} {k:Nat} {xs:List D} {v0:Value→Prop} (he:enterable P f=true) (hk:∀ x ∈ xs,x.cells.length=k) (hm:xs.length≤maxLen)
  (h:∀ (w:World) (F:Nat→Nat→Prop) (args:List Value),I w→FB (cF F) w→args.length=ds.length→(∀ (i:Nat) v d,args[i]? = some v→ds[i]? = some d→Rep w (cF F) v d) →
   ∃ vals,RepL (cF F) w vals (xs.flatMap D.cells)∧Calls P f args.toArray w fun e' w'=>∃ v,e'=.returned v∧w'.ownsRow w.heap.size e k v xs.length vals∧Below w.heap.size w w')
  (hds:∀ d ∈ ds,∃ d',purD (fun _=>none) d=some (d',[])∧d'=d) (hst:Stab I) {H:Nat→Option Blk} {nid:Nat}:CallOK P I f ds H nid (.own nid xs.length) [(nid,some (.vec e k xs false))]:=by
 refine⟨he,fun i0 w C B args hI hb0 hM hH hF hbase hnid hal hrep=>?_⟩
 have hF2:FB (cF C.F) w:=hF
 have hrep2:∀ (i:Nat) v d,args[i]? = some v→ds[i]? = some d→Rep w (cF C.F) v d:=by
  intro i v d hv hd
  obtain⟨d',h1,rfl⟩:=hds d (List.mem_of_getElem? hd)
  exact(purD_none h1 (hrep i v _ hv hd)).1
 obtain⟨vals,hR,hc⟩:=h w C.F args (hst i0 w hI hb0) hF2 hal hrep2
 refine hc.mono ?_
 rintro e' w' ⟨v,rfl,hown,hbl⟩
 let C2:Cx:=⟨C.F,fun id=>if id=nid then v else C.σ id,fun id=>C.live id∨id=nid⟩
 have hσ2:∀ id,C.live id→C2.σ id=C.σ id:=fun id hid=>by
  have:id≠nid:=fun e=>hnid (e ▸ hid)
  simp only[C2,if_neg this]
 have hσn:C2.σ nid=v:=by simp only[C2,if_true]
 have hblk:∀ b o,C.F b o→w'.heap[b]? = w.heap[b]?:=fun b o hbo=>hbl.block b (hF b o hbo)
 have hee:Ext C w C2 w':=⟨fun _ _ h=>h,hblk,fun _ h=>.inl h,hσ2⟩
 have hlt:∀ g,blockOf v=some g→w.heap.size≤g:=by
  intro g hg
  rcases hown.2 with⟨h0,_⟩|⟨g',cap,cur,hv,hB,_⟩
  ·rw[h0] at hg;simp[blockOf] at hg
  ·rw[hv] at hg;simp[blockOf] at hg;omega
 have hnoid:H nid=none:=by
  cases hn2:H nid with
  | none=>rfl
  | some b=>exact absurd (hH.rep _ _ hn2).1 hnid
 have hcase:∀ id b,appEff H [(nid,some (Blk.vec e k xs false))] id=some b→(id=nid∧b=.vec e k xs false)∨(id≠nid∧H id=some b):=by
  intro id b hb'
  simp only[appEff,upd] at hb'
  split at hb'
  ·rename_i hid;injection hb' with hb';exact .inl ⟨hid,hb'.symm⟩
  ·rename_i hid;exact .inr ⟨hid,hb'⟩
 refine⟨v,C2,rfl,BelM.of hbl,hee,?_,?_,fun b o h=>Nat.lt_of_lt_of_le (hF b o h) hbl.size,fun _ h=>h,fun _ _ h=>.inl h⟩
 ·rcases hown.2 with⟨h0,h1⟩|⟨g',cap,cur,hv,hB,_⟩
  ·rw[h0] at hσn ⊢
   rw[h1] at hm ⊢
   exact .own nid 0 0 none (.inr rfl) hm hσn
  ·rw[hv] at hσn ⊢
   exact .own nid _ _ _ (.inr rfl) hm hσn
 ·refine⟨fun id b hb'=>?_,fun id b hb' g hg=>?_,fun id kk cs hb'=>?_,fun id id' b b' hb' hb'' hne2 g hg hg'=>?_⟩
  ·rcases hcase id b hb' with⟨rfl,rfl⟩|⟨hid,h4⟩
   ·refine⟨.inr rfl,vals,?_,hk,hR.ext (Ext.cF hee),fun g hg=>?_⟩
    ·rw[hσn]
     refine⟨hown.1,?_⟩
     rcases hown.2 with h5|⟨g5,cap5,cur5,a5,b5,c5⟩
     ·exact .inl h5
     ·exact .inr ⟨g5,cap5,cur5,a5,Nat.zero_le _,c5⟩
    ·have hgl:w.heap.size≤g:=by
      rw[hσn] at hg
      refine hlt g ?_
      cases hv:v<;>rw[hv] at hg<;>simp[Value.ownBlock] at hg
      rename_i A _ _
      cases A with
      | none=>simp at hg
      | some A=>simpa[Value.ownBlock,blockOf] using hg
     exact⟨fun o ho=>absurd (hF g o ho) (by omega),fun q=>by cases q⟩
   ·obtain⟨k1,k2⟩:=hH.rep id b h4
    exact⟨.inl k1,k2.keep k1 hee (fun g hg=>hbl.block g (k2.lt g hg).2) (fun g o _ h=>h)⟩
  ·rcases hcase id b hb' with⟨rfl,rfl⟩|⟨hid,h4⟩
   ·rw[hσn] at hg;exact hbase g (hlt g hg)
   ·rw[hσ2 id (hH.rep _ _ h4).1] at hg
    exact hH.own _ _ h4 g hg
  ·rcases hcase id _ hb' with⟨_,h4⟩|⟨hid,h4⟩
   ·cases h4
   ·rw[hσ2 id (hH.rep _ _ h4).1]
    exact hH.pin id kk cs h4
  ·rcases hcase id b hb' with⟨rfl,rfl⟩|⟨hid,h4⟩
   ·rw[hσn] at hg
    rcases hcase id' b' hb'' with⟨rfl,rfl⟩|⟨hid',h4'⟩
    ·exact hne2 rfl
    ·rw[hσ2 id' (hH.rep _ _ h4').1] at hg'
     have:=((hH.rep _ _ h4').2.lt g hg').2
     have:=hlt g hg
     omega
   ·rw[hσ2 id (hH.rep _ _ h4).1] at hg
    rcases hcase id' b' hb'' with⟨rfl,rfl⟩|⟨hid',h4'⟩
    ·rw[hσn] at hg'
     have:=((hH.rep _ _ h4).2.lt g hg).2
     have:=hlt g hg'
     omega
    ·rw[hσ2 id' (hH.rep _ _ h4').1] at hg'
     exact hH.apart _ _ _ _ h4 h4' hne2 g hg hg'
end
end Go.Proofs.YtobglplholhkcaaGreatDoor
