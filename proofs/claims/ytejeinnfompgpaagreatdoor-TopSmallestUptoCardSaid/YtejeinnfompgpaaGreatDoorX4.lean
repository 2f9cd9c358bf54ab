/- Texts of one proof, put together (Shelf, Gs, Base, Bld2, GB, EA, EB, EC, FwOw). No condition but those that each theorem states. -/
import Derived.Test.YtejeinnfompgpaaGreatDoorX3
import Derived.Shelf.Strings.Builder1
import Derived.Shelf.Strings.Builder2
import Derived.Shelf.Strings.OnBuilder
import Derived.Shelf.Small.Bits
import Derived.Shelf.Small.Strs
import Derived.Shelf.Small.Wraps
import Derived.Shelf.Strings.BuilderF
import Derived.Shelf.Strings.BuilderK
import Derived.Shelf.Utf8.RuneCount
import Derived.Shelf.Strings.Builder2Cap
import Derived.Shelf.Strconv.Itoa0
import Derived.Shelf.Strconv.Itoa1
import Derived.Shelf.LaysM
import Derived.Shelf.Strconv.Itoa2
import Derived.Shelf.Strconv.Itoa3
import Derived.Shelf.Strconv.Itoa4
import Derived.Shelf.Strconv.ParseIntEmpty
import Derived.Shelf.Strconv.Clone
import Derived.Shelf.Strconv.SyntaxError
import Derived.Shelf.LaysC
import Derived.Shelf.Strconv.ToError
import Derived.Shelf.Strconv.Lower
import Derived.Shelf.Strconv.ParseUint10
import Derived.Shelf.Strconv.ParseUint10Empty
import Derived.Shelf.Strconv.ParseUint10Any
import Derived.Shelf.Strconv.ParseInt10
import Derived.Shelf.Strconv.RangeError
import Derived.Shelf.Strconv.ToErrorRange
import Derived.Shelf.Strconv.ParseUintEmpty
import Derived.Shelf.Strconv.ParseUint10b64
import Derived.Shelf.Strconv.ParseUint10b32
import Derived.Shelf.Strconv.ParseUint10b16
import Derived.Shelf.Strconv.ParseUint10b8
import Derived.Shelf.Strconv.ParseUint10At
import Derived.Shelf.Strconv.ParseInt10At64
import Derived.Shelf.Strconv.ParseInt10At32
import Derived.Shelf.Strconv.ParseInt10At16
import Derived.Shelf.Strconv.ParseInt10At8
import Derived.Shelf.Strconv.ParseInt10All
import Derived.Shelf.Strconv.ParseIntPublic10
import Derived.Shelf.Strconv.ErrVarParseInt
import Derived.Shelf.Strings.Search1
import Derived.Shelf.Strings.Search2
import Derived.Shelf.Strings.Search3
import Derived.Shelf.Strings.Count
import Derived.Shelf.Strings.Shaped
import Derived.Shelf.Sort.Plain
import Derived.Shelf.Strings.Prefix
import Derived.Shelf.Strings.Split
import Derived.Shelf.Strings.SplitShaped
import Derived.Shelf.Unicode.Decode
import Derived.Shelf.Strings.RuneCount
import Derived.Shelf.Strings.Explode
import Derived.Shelf.Unicode.DecodeSlow
import Derived.Shelf.Unicode.DecodeAny
import Derived.Shelf.Strings.BuilderCap
import Derived.Shelf.Slices.CompactS
import Derived.Shelf.Slices.Cells
import Derived.Shelf.Slices.In.SortNone
import Derived.Ground.SlgnProg
import Derived.Shelf.SlicesG.Turned
import Derived.Shelf.SlicesG.CompactI
import Derived.Shelf.Unicode.ValidAny
import Derived.Test.YtejeinnfompgpaaGreatDoorProg
import Derived.Lib.RuneCount
import Derived.Lib.SplitLaws
import Derived.WalkKit
import Derived.WalkSpells
import Derived.WalkLawsBesides
import Derived.KernelRfl
import Derived.BigQuiet
import Derived.Deep.QuietTactic
import Derived.Deep.DeepCutAuto
import Derived.Deep.Draws
import Derived.Lib.Hide
import Derived.Lib.Builder
import Derived.Lib.AppendStr
set_option linter.unusedSimpArgs false
set_option linter.unusedVariables false
namespace Go.Proofs
open Go.Shelf
def Tryz.lays169_ren:Go.Shelf.Ren:=⟨fun|169=>77|n=>n,fun|70=>178|9=>9|0=>0|72=>181|37=>179|127=>268|3=>3|5=>5|n=>n,fun|n=>n⟩
theorem Tryz.lays169:Go.Proofs.Lays.n169 Tryz.prog Tryz.lays169_ren:={
 mixed:=by kernel_rfl
 f169:=Tryz.func77.trans (congrArg some (by kernel_rfl))
 t0:=Tryz.underlying0
 a0:=Tryz.isAgg0
 z0:=Tryz.sizeOf0
 v0:=Tryz.zeroValue0
 t3:=Tryz.underlying3
 a3:=Tryz.isAgg3
 z3:=Tryz.sizeOf3
 v3:=Tryz.zeroValue3
 t9:=Tryz.underlying9
 a9:=Tryz.isAgg9
 z9:=Tryz.sizeOf9
 v9:=Tryz.zeroValue9
 t37:=Tryz.underlying179
 a37:=Tryz.isAgg179
 z37:=Tryz.sizeOf179
 v37:=Tryz.zeroValue179
 t70:=Tryz.underlying178
 a70:=Tryz.isAgg178
 z70:=Tryz.sizeOf178
 v70:=Tryz.zeroValue178
 t72:=Tryz.underlying181
 a72:=Tryz.isAgg181
 z72:=Tryz.sizeOf181
 v72:=Tryz.zeroValue181
 t127:=Tryz.underlying268
 a127:=Tryz.isAgg268
 z127:=Tryz.sizeOf268
 v127:=Tryz.zeroValue268 }
theorem Tryz.Builder_Extra_169:Builder.Extra Tryz.prog Tryz.lays169_ren:={
 sizeBuilder:=by kernel_rfl
 liesBuilder:=by kernel_rfl
 t5:=Tryz.underlying5
 a5:=Tryz.isAgg5
 z5:=Tryz.sizeOf5
 v5:=Tryz.zeroValue5
 infoByte:=by kernel_rfl
 cellsByte:=by kernel_rfl
 sizeByte:=by kernel_rfl
 neB5:=by decide }
open Go.RowKit in
def Tryz.lays156_ren:Go.Shelf.Ren:=⟨fun|156=>55|165=>121|166=>76|169=>77|240=>162|241=>192|276=>229|277=>247|n=>n,fun|31=>128|9=>9|3=>3|4=>4|0=>0|20=>20|72=>181|76=>186|70=>178|37=>179|75=>185|127=>268|164=>340|5=>5|80=>139|n=>n,fun|n=>n⟩
theorem Tryz.lays156:Go.Proofs.Lays.n156 Tryz.prog Tryz.lays156_ren:={
 mixed:=by kernel_rfl
 f156:=Tryz.func55.trans (congrArg some (by kernel_rfl))
 f165:=Tryz.func121.trans (congrArg some (by kernel_rfl))
 f166:=Tryz.func76.trans (congrArg some (by kernel_rfl))
 f169:=Tryz.func77.trans (congrArg some (by kernel_rfl))
 f240:=Tryz.func162.trans (congrArg some (by kernel_rfl))
 f241:=Tryz.func192.trans (congrArg some (by kernel_rfl))
 f276:=Tryz.func229.trans (congrArg some (by kernel_rfl))
 f277:=Tryz.func247.trans (congrArg some (by kernel_rfl))
 t0:=Tryz.underlying0
 a0:=Tryz.isAgg0
 z0:=Tryz.sizeOf0
 v0:=Tryz.zeroValue0
 t3:=Tryz.underlying3
 a3:=Tryz.isAgg3
 z3:=Tryz.sizeOf3
 v3:=Tryz.zeroValue3
 t4:=Tryz.underlying4
 a4:=Tryz.isAgg4
 z4:=Tryz.sizeOf4
 v4:=Tryz.zeroValue4
 t9:=Tryz.underlying9
 a9:=Tryz.isAgg9
 z9:=Tryz.sizeOf9
 v9:=Tryz.zeroValue9
 t20:=Tryz.underlying20
 a20:=Tryz.isAgg20
 z20:=Tryz.sizeOf20
 v20:=Tryz.zeroValue20
 t31:=Tryz.underlying128
 a31:=Tryz.isAgg128
 z31:=Tryz.sizeOf128
 v31:=Tryz.zeroValue128
 t37:=Tryz.underlying179
 a37:=Tryz.isAgg179
 z37:=Tryz.sizeOf179
 v37:=Tryz.zeroValue179
 t70:=Tryz.underlying178
 a70:=Tryz.isAgg178
 z70:=Tryz.sizeOf178
 v70:=Tryz.zeroValue178
 t72:=Tryz.underlying181
 a72:=Tryz.isAgg181
 z72:=Tryz.sizeOf181
 v72:=Tryz.zeroValue181
 t75:=Tryz.underlying185
 a75:=Tryz.isAgg185
 z75:=Tryz.sizeOf185
 v75:=Tryz.zeroValue185
 t76:=Tryz.underlying186
 a76:=Tryz.isAgg186
 z76:=Tryz.sizeOf186
 v76:=Tryz.zeroValue186
 t127:=Tryz.underlying268
 a127:=Tryz.isAgg268
 z127:=Tryz.sizeOf268
 v127:=Tryz.zeroValue268
 t164:=Tryz.underlying340
 a164:=Tryz.isAgg340
 z164:=Tryz.sizeOf340
 v164:=Tryz.zeroValue340 }
theorem Tryz.Builder_Extra_156:Builder.Extra Tryz.prog Tryz.lays156_ren:={
 sizeBuilder:=by kernel_rfl
 liesBuilder:=by kernel_rfl
 t5:=Tryz.underlying5
 a5:=Tryz.isAgg5
 z5:=Tryz.sizeOf5
 v5:=Tryz.zeroValue5
 infoByte:=by kernel_rfl
 cellsByte:=by kernel_rfl
 sizeByte:=by kernel_rfl
 neB5:=by decide }
open Go.RowKit in
theorem Tryz.strings_Join_none(a:Option Addr)(c:Nat)(sep:ByteArray)(w:World) :
  Calls Tryz.prog 55 #[.slice a 0 c,.string sep] w fun e w'=>e=.returned (.string ⟨#[]⟩)∧w'=w:=Any.strings_Join_none Tryz.lays156 Tryz.Builder_Extra_156 a c sep w
open Go.RowKit in
theorem Tryz.strings_Join(bk o c:Nat)(xs:List ByteArray)(sep:ByteArray)(w:World)(hcells:∀ (j:Nat) x,xs[j]? = some x→w.cell? ⟨bk,o+j,none⟩=some (.string x))(hbk:bk < w.heap.size)(hN:xs.length≤140737488355328)(hcap:xs.length≤c)(hlen:(Lib.join (xs.map (·.data.toList)) sep.data.toList).length≤140737488355328) :
  Calls Tryz.prog 55 #[.slice (some ⟨bk,o,none⟩) xs.length c,.string sep] w fun e w'=>e=.returned (.string ⟨(Lib.join (xs.map (·.data.toList)) sep.data.toList).toArray⟩)∧Below w.heap.size w w':=Any.strings_Join Tryz.lays156 Tryz.Builder_Extra_156 bk o c xs sep w hcells hbk hN hcap hlen
def Tryz.lays103_ren:Go.Shelf.Ren:=⟨fun|103=>189|210=>243|206=>298|n=>n,fun|9=>9|4=>4|24=>223|3=>3|n=>n,fun|n=>n⟩
theorem Tryz.lays103:Go.Proofs.Lays.n103 Tryz.prog Tryz.lays103_ren:={
 mixed:=by kernel_rfl
 f103:=Tryz.func189.trans (congrArg some (by kernel_rfl))
 f206:=Tryz.func298.trans (congrArg some (by kernel_rfl))
 f210:=Tryz.func243.trans (congrArg some (by kernel_rfl))
 t3:=Tryz.underlying3
 a3:=Tryz.isAgg3
 z3:=Tryz.sizeOf3
 v3:=Tryz.zeroValue3
 t4:=Tryz.underlying4
 a4:=Tryz.isAgg4
 z4:=Tryz.sizeOf4
 v4:=Tryz.zeroValue4
 t9:=Tryz.underlying9
 a9:=Tryz.isAgg9
 z9:=Tryz.sizeOf9
 v9:=Tryz.zeroValue9
 t24:=Tryz.underlying223
 a24:=Tryz.isAgg223
 z24:=Tryz.sizeOf223
 v24:=Tryz.zeroValue223 }
open Go.RowKit in
theorem Tryz.strings_CutPrefix(s p:ByteArray)(w:World) :
  Calls Tryz.prog 189 #[.string s,.string p] w fun e w'=>e=.returned (.tuple #[.string ⟨(Lib.trimPrefix s.data.toList p.data.toList).toArray⟩,.bool (Lib.hasPrefix s.data.toList p.data.toList)])∧w'=w:=Any.strings_CutPrefix Tryz.lays103 s p w
def Tryz.lays195_ren:Go.Shelf.Ren:=⟨fun|195=>294|n=>n,fun|9=>9|3=>3|0=>0|4=>4|n=>n,fun|n=>n⟩
theorem Tryz.lays195:Go.Proofs.Lays.n195 Tryz.prog Tryz.lays195_ren:={
 mixed:=by kernel_rfl
 f195:=Tryz.func294.trans (congrArg some (by kernel_rfl))
 t0:=Tryz.underlying0
 a0:=Tryz.isAgg0
 z0:=Tryz.sizeOf0
 v0:=Tryz.zeroValue0
 t3:=Tryz.underlying3
 a3:=Tryz.isAgg3
 z3:=Tryz.sizeOf3
 v3:=Tryz.zeroValue3
 t4:=Tryz.underlying4
 a4:=Tryz.isAgg4
 z4:=Tryz.sizeOf4
 v4:=Tryz.zeroValue4
 t9:=Tryz.underlying9
 a9:=Tryz.isAgg9
 z9:=Tryz.sizeOf9
 v9:=Tryz.zeroValue9 }
open Go.RowKit in
theorem Tryz.utf8_RuneCountInString(s:ByteArray)(w:World)(hs:s.size < 9223372036854775807) :
  Calls Tryz.prog 294 #[.string s] w fun e w'=>e=.returned (.int .i64 (Lib.runeCount s))∧∃ pos,w'=w.iter s pos:=Any.utf8_RuneCountInString Tryz.lays195 s w hs
def Tryz.laysM173_ren:Go.Shelf.Ren:=⟨fun|173=>160|246=>228|283=>286|284=>287|285=>288|286=>289|129=>275|317=>320|318=>321|319=>322|320=>323|337=>340|338=>341|n=>n,fun|2=>2|3=>3|9=>9|4=>4|171=>389|0=>0|53=>33|37=>179|5=>5|173=>391|212=>425|51=>379|20=>20|213=>426|46=>193|232=>444|233=>445|n=>n,fun|17=>3|18=>6|19=>7|n=>n⟩
theorem Tryz.laysM173:Go.Proofs.LaysM.n173 Tryz.prog Tryz.laysM173_ren:={
 mixed:=by kernel_rfl
 f129:=Tryz.func275.trans (congrArg some (by kernel_rfl))
 f173:=Tryz.func160.trans (congrArg some (by kernel_rfl))
 f246:=Tryz.func228.trans (congrArg some (by kernel_rfl))
 f283:=Tryz.func286.trans (congrArg some (by kernel_rfl))
 f284:=Tryz.func287.trans (congrArg some (by kernel_rfl))
 f285:=Tryz.func288.trans (congrArg some (by kernel_rfl))
 f286:=Tryz.func289.trans (congrArg some (by kernel_rfl))
 f317:=Tryz.func320.trans (congrArg some (by kernel_rfl))
 f318:=Tryz.func321.trans (congrArg some (by kernel_rfl))
 f319:=Tryz.func322.trans (congrArg some (by kernel_rfl))
 f320:=Tryz.func323.trans (congrArg some (by kernel_rfl))
 f337:=Tryz.func340.trans (congrArg some (by kernel_rfl))
 f338:=Tryz.func341.trans (congrArg some (by kernel_rfl))
 t0:=Tryz.underlying0
 a0:=Tryz.isAgg0
 z0:=Tryz.sizeOf0
 v0:=Tryz.zeroValue0
 t2:=Tryz.underlying2
 a2:=Tryz.isAgg2
 z2:=Tryz.sizeOf2
 v2:=Tryz.zeroValue2
 t3:=Tryz.underlying3
 a3:=Tryz.isAgg3
 z3:=Tryz.sizeOf3
 v3:=Tryz.zeroValue3
 t4:=Tryz.underlying4
 a4:=Tryz.isAgg4
 z4:=Tryz.sizeOf4
 v4:=Tryz.zeroValue4
 t5:=Tryz.underlying5
 a5:=Tryz.isAgg5
 z5:=Tryz.sizeOf5
 v5:=Tryz.zeroValue5
 t9:=Tryz.underlying9
 a9:=Tryz.isAgg9
 z9:=Tryz.sizeOf9
 v9:=Tryz.zeroValue9
 t20:=Tryz.underlying20
 a20:=Tryz.isAgg20
 z20:=Tryz.sizeOf20
 v20:=Tryz.zeroValue20
 t37:=Tryz.underlying179
 a37:=Tryz.isAgg179
 z37:=Tryz.sizeOf179
 v37:=Tryz.zeroValue179
 t46:=Tryz.underlying193
 a46:=Tryz.isAgg193
 z46:=Tryz.sizeOf193
 v46:=Tryz.zeroValue193
 t51:=Tryz.underlying379
 a51:=Tryz.isAgg379
 z51:=Tryz.sizeOf379
 v51:=Tryz.zeroValue379
 t53:=Tryz.underlying33
 a53:=Tryz.isAgg33
 z53:=Tryz.sizeOf33
 v53:=Tryz.zeroValue33
 t171:=Tryz.underlying389
 a171:=Tryz.isAgg389
 z171:=Tryz.sizeOf389
 v171:=Tryz.zeroValue389
 t173:=Tryz.underlying391
 a173:=Tryz.isAgg391
 z173:=Tryz.sizeOf391
 v173:=Tryz.zeroValue391
 t212:=Tryz.underlying425
 a212:=Tryz.isAgg425
 z212:=Tryz.sizeOf425
 v212:=Tryz.zeroValue425
 t213:=Tryz.underlying426
 a213:=Tryz.isAgg426
 z213:=Tryz.sizeOf426
 t232:=Tryz.underlying444
 a232:=Tryz.isAgg444
 z232:=Tryz.sizeOf444
 v232:=Tryz.zeroValue444
 t233:=Tryz.underlying445
 a233:=Tryz.isAgg445
 z233:=Tryz.sizeOf445
 v233:=Tryz.zeroValue445
 g17:=by kernel_rfl
 g18:=by kernel_rfl
 g19:=by kernel_rfl
 i0:=by kernel_rfl
 i2:=by kernel_rfl
 i3:=by kernel_rfl
 i4:=by kernel_rfl
 i5:=by kernel_rfl
 i9:=by kernel_rfl
 i20:=by kernel_rfl
 i37:=by kernel_rfl
 i46:=by kernel_rfl
 i51:=by kernel_rfl
 i53:=by kernel_rfl
 i171:=by kernel_rfl
 i173:=by kernel_rfl
 i212:=by kernel_rfl
 i232:=by kernel_rfl
 i233:=by kernel_rfl
 m17:=by kernel_rfl
 m18:=by kernel_rfl
 m19:=by kernel_rfl }
open Go.RowKit Go.Sort Go.Lib in
theorem Tryz.strconv_FormatInt_10(n:Int)(h0:-9223372036854775808≤n)(h1:n≤9223372036854775807)(w:World)(htab:Lib.TabIs Tryz.prog w "internal/strconv.uint64pow10" .u64 Lib.pow10Tab) :
  Calls Tryz.prog 160 #[.int .i64 n,.int .i64 10] w fun e w'=>e=.returned (.string ⟨(Lib.itoa n).toArray⟩)∧∃ k os,w'=grow (w.drewN k) os:=Any.strconv_FormatInt_10 Tryz.laysM173 n h0 h1 w htab
def Tryz.laysC174_ren:Go.Shelf.Ren:=⟨fun|174=>190|247=>244|245=>245|287=>299|279=>300|280=>301|281=>302|282=>303|321=>329|322=>330|316=>331|171=>333|205=>332|243=>344|246=>228|283=>286|284=>287|285=>288|286=>289|129=>275|317=>320|318=>321|319=>322|320=>323|337=>340|338=>341|n=>n,fun|9=>9|3=>3|2=>2|75=>185|85=>303|4=>4|167=>403|5=>5|53=>33|175=>404|46=>193|168=>406|37=>179|0=>0|210=>429|21=>21|127=>268|145=>442|143=>440|171=>389|173=>391|212=>425|51=>379|20=>20|213=>426|232=>444|233=>445|80=>139|n=>n,fun|15=>4|16=>5|17=>3|18=>6|19=>7|n=>n⟩
theorem Tryz.laysC174:Go.Proofs.LaysC.n174 Tryz.prog Tryz.laysC174_ren:={
 mixed:=by kernel_rfl
 f129:=Tryz.func275.trans (congrArg some (by kernel_rfl))
 f171:=Tryz.func333.trans (congrArg some (by kernel_rfl))
 f174:=Tryz.func190.trans (congrArg some (by kernel_rfl))
 f205:=Tryz.func332.trans (congrArg some (by kernel_rfl))
 f243:=Tryz.func344.trans (congrArg some (by kernel_rfl))
 f245:=Tryz.func245.trans (congrArg some (by kernel_rfl))
 f246:=Tryz.func228.trans (congrArg some (by kernel_rfl))
 f247:=Tryz.func244.trans (congrArg some (by kernel_rfl))
 f279:=Tryz.func300.trans (congrArg some (by kernel_rfl))
 f280:=Tryz.func301.trans (congrArg some (by kernel_rfl))
 f281:=Tryz.func302.trans (congrArg some (by kernel_rfl))
 f282:=Tryz.func303.trans (congrArg some (by kernel_rfl))
 f283:=Tryz.func286.trans (congrArg some (by kernel_rfl))
 f284:=Tryz.func287.trans (congrArg some (by kernel_rfl))
 f285:=Tryz.func288.trans (congrArg some (by kernel_rfl))
 f286:=Tryz.func289.trans (congrArg some (by kernel_rfl))
 f287:=Tryz.func299.trans (congrArg some (by kernel_rfl))
 f316:=Tryz.func331.trans (congrArg some (by kernel_rfl))
 f317:=Tryz.func320.trans (congrArg some (by kernel_rfl))
 f318:=Tryz.func321.trans (congrArg some (by kernel_rfl))
 f319:=Tryz.func322.trans (congrArg some (by kernel_rfl))
 f320:=Tryz.func323.trans (congrArg some (by kernel_rfl))
 f321:=Tryz.func329.trans (congrArg some (by kernel_rfl))
 f322:=Tryz.func330.trans (congrArg some (by kernel_rfl))
 f337:=Tryz.func340.trans (congrArg some (by kernel_rfl))
 f338:=Tryz.func341.trans (congrArg some (by kernel_rfl))
 t0:=Tryz.underlying0
 a0:=Tryz.isAgg0
 z0:=Tryz.sizeOf0
 v0:=Tryz.zeroValue0
 t2:=Tryz.underlying2
 a2:=Tryz.isAgg2
 z2:=Tryz.sizeOf2
 v2:=Tryz.zeroValue2
 t3:=Tryz.underlying3
 a3:=Tryz.isAgg3
 z3:=Tryz.sizeOf3
 v3:=Tryz.zeroValue3
 t4:=Tryz.underlying4
 a4:=Tryz.isAgg4
 z4:=Tryz.sizeOf4
 v4:=Tryz.zeroValue4
 t5:=Tryz.underlying5
 a5:=Tryz.isAgg5
 z5:=Tryz.sizeOf5
 v5:=Tryz.zeroValue5
 t9:=Tryz.underlying9
 a9:=Tryz.isAgg9
 z9:=Tryz.sizeOf9
 v9:=Tryz.zeroValue9
 t20:=Tryz.underlying20
 a20:=Tryz.isAgg20
 z20:=Tryz.sizeOf20
 v20:=Tryz.zeroValue20
 t21:=Tryz.underlying21
 a21:=Tryz.isAgg21
 z21:=Tryz.sizeOf21
 v21:=Tryz.zeroValue21
 t37:=Tryz.underlying179
 a37:=Tryz.isAgg179
 z37:=Tryz.sizeOf179
 v37:=Tryz.zeroValue179
 t46:=Tryz.underlying193
 a46:=Tryz.isAgg193
 z46:=Tryz.sizeOf193
 v46:=Tryz.zeroValue193
 t51:=Tryz.underlying379
 a51:=Tryz.isAgg379
 z51:=Tryz.sizeOf379
 v51:=Tryz.zeroValue379
 t53:=Tryz.underlying33
 a53:=Tryz.isAgg33
 z53:=Tryz.sizeOf33
 v53:=Tryz.zeroValue33
 t75:=Tryz.underlying185
 a75:=Tryz.isAgg185
 z75:=Tryz.sizeOf185
 v75:=Tryz.zeroValue185
 t85:=Tryz.underlying303
 a85:=Tryz.isAgg303
 z85:=Tryz.sizeOf303
 v85:=Tryz.zeroValue303
 t127:=Tryz.underlying268
 a127:=Tryz.isAgg268
 z127:=Tryz.sizeOf268
 v127:=Tryz.zeroValue268
 t143:=Tryz.underlying440
 a143:=Tryz.isAgg440
 z143:=Tryz.sizeOf440
 v143:=Tryz.zeroValue440
 t145:=Tryz.underlying442
 a145:=Tryz.isAgg442
 z145:=Tryz.sizeOf442
 v145:=Tryz.zeroValue442
 t167:=Tryz.underlying403
 a167:=Tryz.isAgg403
 z167:=Tryz.sizeOf403
 v167:=Tryz.zeroValue403
 t168:=Tryz.underlying406
 a168:=Tryz.isAgg406
 z168:=Tryz.sizeOf406
 v168:=Tryz.zeroValue406
 t171:=Tryz.underlying389
 a171:=Tryz.isAgg389
 z171:=Tryz.sizeOf389
 v171:=Tryz.zeroValue389
 t173:=Tryz.underlying391
 a173:=Tryz.isAgg391
 z173:=Tryz.sizeOf391
 v173:=Tryz.zeroValue391
 t175:=Tryz.underlying404
 a175:=Tryz.isAgg404
 z175:=Tryz.sizeOf404
 v175:=Tryz.zeroValue404
 t210:=Tryz.underlying429
 a210:=Tryz.isAgg429
 z210:=Tryz.sizeOf429
 v210:=Tryz.zeroValue429
 t212:=Tryz.underlying425
 a212:=Tryz.isAgg425
 z212:=Tryz.sizeOf425
 v212:=Tryz.zeroValue425
 t213:=Tryz.underlying426
 a213:=Tryz.isAgg426
 z213:=Tryz.sizeOf426
 t232:=Tryz.underlying444
 a232:=Tryz.isAgg444
 z232:=Tryz.sizeOf444
 v232:=Tryz.zeroValue444
 t233:=Tryz.underlying445
 a233:=Tryz.isAgg445
 z233:=Tryz.sizeOf445
 v233:=Tryz.zeroValue445
 g15:=by kernel_rfl
 g16:=by kernel_rfl
 g17:=by kernel_rfl
 g18:=by kernel_rfl
 g19:=by kernel_rfl
 t80:=Tryz.underlying139
 a80:=Tryz.isAgg139
 z80:=Tryz.sizeOf139
 v80:=Tryz.zeroValue139
 i0:=by kernel_rfl
 i2:=by kernel_rfl
 i3:=by kernel_rfl
 i4:=by kernel_rfl
 i5:=by kernel_rfl
 i9:=by kernel_rfl
 i20:=by kernel_rfl
 i21:=by kernel_rfl
 i37:=by kernel_rfl
 i46:=by kernel_rfl
 i51:=by kernel_rfl
 i53:=by kernel_rfl
 i75:=by kernel_rfl
 i80:=by kernel_rfl
 i85:=by kernel_rfl
 i127:=by kernel_rfl
 i143:=by kernel_rfl
 i145:=by kernel_rfl
 i167:=by kernel_rfl
 i168:=by kernel_rfl
 i171:=by kernel_rfl
 i173:=by kernel_rfl
 i175:=by kernel_rfl
 i210:=by kernel_rfl
 i212:=by kernel_rfl
 i232:=by kernel_rfl
 i233:=by kernel_rfl
 m15:=by kernel_rfl
 m16:=by kernel_rfl
 m17:=by kernel_rfl
 m18:=by kernel_rfl
 m19:=by kernel_rfl
 c0:=by kernel_rfl
 c2:=by kernel_rfl
 c3:=by kernel_rfl
 c4:=by kernel_rfl
 c5:=by kernel_rfl
 c9:=by kernel_rfl
 c20:=by kernel_rfl
 c21:=by kernel_rfl
 c37:=by kernel_rfl
 c46:=by kernel_rfl
 c51:=by kernel_rfl
 c53:=by kernel_rfl
 c75:=by kernel_rfl
 c80:=by kernel_rfl
 c85:=by kernel_rfl
 c127:=by kernel_rfl
 c143:=by kernel_rfl
 c145:=by kernel_rfl
 c167:=by kernel_rfl
 c168:=by kernel_rfl
 c171:=by kernel_rfl
 c173:=by kernel_rfl
 c175:=by kernel_rfl
 c210:=by kernel_rfl
 c212:=by kernel_rfl
 c213:=by kernel_rfl
 c232:=by kernel_rfl
 c233:=by kernel_rfl }
open Go.RowKit in
theorem Tryz.strconv_ParseInt_10_at64_ok(s:ByteArray)(hmax:s.size≤9223372036854775806)(v:Int)(h:Lib.parseIntB 64 s.data.toList=.ok v)(w:World) :
  Calls Tryz.prog 190 #[.string s,.int .i64 10,.int .i64 64] w fun e w'=>e=.returned (.tuple #[.int .i64 v,.nilIface])∧(w'=w∨∃ t,w'=Lib.bytesWorld w 5 t):=Any.strconv_ParseInt_10_at64_ok Tryz.laysC174 s hmax v h w
open Go.RowKit in
theorem Tryz.strconv_ParseInt_10_at64_syntax(s:ByteArray)(hlim:s.size≤281474976710656)(h:Lib.parseIntB 64 s.data.toList=Lib.parseIntB 64 [])(ev:Value)(w:World)(hv:w.cell? ⟨4,0,none⟩=some ev)(hev:ev=.nilIface∨∃ te pe,ev=.iface te pe) :
  Calls Tryz.prog 190 #[.string s,.int .i64 10,.int .i64 64] w fun e w'=>∃ N,e=.returned (.tuple #[.int .i64 (0),.iface 406 (.pointer (some ⟨N,0,none⟩))])∧w.heap.size≤N∧w'.heap[N]? = some (.cells #[.string ⟨#[80,97,114,115,101,73,110,116]⟩,.string s,ev] 429 (0,0))∧Below w.heap.size w w':=Any.strconv_ParseInt_10_at64_syntax Tryz.laysC174 s hlim h ev w hv hev
open Go.RowKit in
theorem Tryz.strconv_ParseInt_10_at64_range(s:ByteArray)(hlim:s.size≤281474976710656)(h:Lib.parseIntB 64 s.data.toList=.range)(ev:Value)(w:World)(hv:w.cell? ⟨5,0,none⟩=some ev)(hev:ev=.nilIface∨∃ te pe,ev=.iface te pe) :
  Calls Tryz.prog 190 #[.string s,.int .i64 10,.int .i64 64] w fun e w'=>∃ N,e=.returned (.tuple #[.int .i64 (Lib.intSat 64 s.data.toList),.iface 406 (.pointer (some ⟨N,0,none⟩))])∧w.heap.size≤N∧w'.heap[N]? = some (.cells #[.string ⟨#[80,97,114,115,101,73,110,116]⟩,.string s,ev] 429 (0,0))∧Below w.heap.size w w':=Any.strconv_ParseInt_10_at64_range Tryz.laysC174 s hlim h ev w hv hev
def Tryz.lays144_ren:Go.Shelf.Ren:=⟨fun|144=>241|143=>236|219=>297|217=>191|225=>326|224=>327|267=>328|266=>246|314=>343|n=>n,fun|9=>9|4=>4|3=>3|5=>5|46=>193|146=>438|51=>379|n=>n,fun|1=>2|n=>n⟩
theorem Tryz.lays144:Go.Proofs.Lays.n144 Tryz.prog Tryz.lays144_ren:={
 mixed:=by kernel_rfl
 f143:=Tryz.func236.trans (congrArg some (by kernel_rfl))
 f144:=Tryz.func241.trans (congrArg some (by kernel_rfl))
 f217:=Tryz.func191.trans (congrArg some (by kernel_rfl))
 f219:=Tryz.func297.trans (congrArg some (by kernel_rfl))
 f224:=Tryz.func327.trans (congrArg some (by kernel_rfl))
 f225:=Tryz.func326.trans (congrArg some (by kernel_rfl))
 f266:=Tryz.func246.trans (congrArg some (by kernel_rfl))
 f267:=Tryz.func328.trans (congrArg some (by kernel_rfl))
 f314:=Tryz.func343.trans (congrArg some (by kernel_rfl))
 t3:=Tryz.underlying3
 a3:=Tryz.isAgg3
 z3:=Tryz.sizeOf3
 v3:=Tryz.zeroValue3
 t4:=Tryz.underlying4
 a4:=Tryz.isAgg4
 z4:=Tryz.sizeOf4
 v4:=Tryz.zeroValue4
 t5:=Tryz.underlying5
 a5:=Tryz.isAgg5
 z5:=Tryz.sizeOf5
 v5:=Tryz.zeroValue5
 t9:=Tryz.underlying9
 a9:=Tryz.isAgg9
 z9:=Tryz.sizeOf9
 v9:=Tryz.zeroValue9
 t46:=Tryz.underlying193
 a46:=Tryz.isAgg193
 z46:=Tryz.sizeOf193
 v46:=Tryz.zeroValue193
 t51:=Tryz.underlying379
 a51:=Tryz.isAgg379
 z51:=Tryz.sizeOf379
 v51:=Tryz.zeroValue379
 t146:=Tryz.underlying438
 a146:=Tryz.isAgg438
 z146:=Tryz.sizeOf438
 v146:=Tryz.zeroValue438
 g1:=by kernel_rfl }
open Go.RowKit Go.Lib in
theorem Tryz.strings_Contains(s sub:ByteArray)(m:Int)(w:World)(hs:s.size < 4294967281)(hm:w.cell? ⟨2,0,none⟩=some (.int .i64 m)) :
  Calls Tryz.prog 241 #[.string s,.string sub] w fun e w'=>e=.returned (.bool (Lib.contains s.data.toList sub.data.toList))∧w'=w:=Any.strings_Contains Tryz.lays144 s sub m w hs hm
def Tryz.lays146_ren:Go.Shelf.Ren:=⟨fun|146=>95|221=>176|268=>234|138=>235|143=>236|195=>294|197=>295|218=>296|219=>297|260=>325|217=>191|225=>326|224=>327|267=>328|266=>246|314=>343|n=>n,fun|9=>9|31=>128|3=>3|4=>4|0=>0|105=>401|21=>21|5=>5|46=>193|119=>396|139=>399|138=>398|146=>438|51=>379|n=>n,fun|1=>2|3=>0|4=>1|n=>n⟩
theorem Tryz.lays146:Go.Proofs.Lays.n146 Tryz.prog Tryz.lays146_ren:={
 mixed:=by kernel_rfl
 f138:=Tryz.func235.trans (congrArg some (by kernel_rfl))
 f143:=Tryz.func236.trans (congrArg some (by kernel_rfl))
 f146:=Tryz.func95.trans (congrArg some (by kernel_rfl))
 f195:=Tryz.func294.trans (congrArg some (by kernel_rfl))
 f197:=Tryz.func295.trans (congrArg some (by kernel_rfl))
 f217:=Tryz.func191.trans (congrArg some (by kernel_rfl))
 f218:=Tryz.func296.trans (congrArg some (by kernel_rfl))
 f219:=Tryz.func297.trans (congrArg some (by kernel_rfl))
 f221:=Tryz.func176.trans (congrArg some (by kernel_rfl))
 f224:=Tryz.func327.trans (congrArg some (by kernel_rfl))
 f225:=Tryz.func326.trans (congrArg some (by kernel_rfl))
 f260:=Tryz.func325.trans (congrArg some (by kernel_rfl))
 f266:=Tryz.func246.trans (congrArg some (by kernel_rfl))
 f267:=Tryz.func328.trans (congrArg some (by kernel_rfl))
 f268:=Tryz.func234.trans (congrArg some (by kernel_rfl))
 f314:=Tryz.func343.trans (congrArg some (by kernel_rfl))
 t0:=Tryz.underlying0
 a0:=Tryz.isAgg0
 z0:=Tryz.sizeOf0
 v0:=Tryz.zeroValue0
 t3:=Tryz.underlying3
 a3:=Tryz.isAgg3
 z3:=Tryz.sizeOf3
 v3:=Tryz.zeroValue3
 t4:=Tryz.underlying4
 a4:=Tryz.isAgg4
 z4:=Tryz.sizeOf4
 v4:=Tryz.zeroValue4
 t5:=Tryz.underlying5
 a5:=Tryz.isAgg5
 z5:=Tryz.sizeOf5
 v5:=Tryz.zeroValue5
 t9:=Tryz.underlying9
 a9:=Tryz.isAgg9
 z9:=Tryz.sizeOf9
 v9:=Tryz.zeroValue9
 t21:=Tryz.underlying21
 a21:=Tryz.isAgg21
 z21:=Tryz.sizeOf21
 v21:=Tryz.zeroValue21
 t31:=Tryz.underlying128
 a31:=Tryz.isAgg128
 z31:=Tryz.sizeOf128
 v31:=Tryz.zeroValue128
 t46:=Tryz.underlying193
 a46:=Tryz.isAgg193
 z46:=Tryz.sizeOf193
 v46:=Tryz.zeroValue193
 t51:=Tryz.underlying379
 a51:=Tryz.isAgg379
 z51:=Tryz.sizeOf379
 v51:=Tryz.zeroValue379
 t105:=Tryz.underlying401
 a105:=Tryz.isAgg401
 z105:=Tryz.sizeOf401
 v105:=Tryz.zeroValue401
 t119:=Tryz.underlying396
 a119:=Tryz.isAgg396
 z119:=Tryz.sizeOf396
 t138:=Tryz.underlying398
 a138:=Tryz.isAgg398
 z138:=Tryz.sizeOf398
 v138:=Tryz.zeroValue398
 t139:=Tryz.underlying399
 a139:=Tryz.isAgg399
 z139:=Tryz.sizeOf399
 v139:=Tryz.zeroValue399
 t146:=Tryz.underlying438
 a146:=Tryz.isAgg438
 z146:=Tryz.sizeOf438
 v146:=Tryz.zeroValue438
 g1:=by kernel_rfl
 g3:=by kernel_rfl
 g4:=by kernel_rfl }
open Go.RowKit Go.Lib in
theorem Tryz.strings_Split(s sep:ByteArray)(m:Int)(w:World)(hs:s.size < 4294967281)(hm:w.cell? ⟨2,0,none⟩=some (.int .i64 m))(h1:1≤sep.size) :
  Calls Tryz.prog 95 #[.string s,.string sep] w fun e w' =>
   e=.returned (.slice (some ⟨w.heap.size,0,none⟩) (Lib.countB s sep+1) (Lib.countB s sep+1))∧w'=w.alloc (.cells ((Lib.splitB sep 0 (Lib.countB s sep) s).map Value.string).toArray 9):=Any.strings_Split Tryz.lays146 (by kernel_rfl) s sep m w hs hm h1
def Tryz.laysSlN43_f156_ren:Go.Shelf.Ren:=⟨fun|43=>156|n=>n,fun|22=>30|23=>2|3=>3|4=>4|0=>0|n=>n,fun|n=>n⟩
theorem Tryz.laysSlN43_f156:Go.Proofs.SlLaysN.n43 Tryz.prog Tryz.laysSlN43_f156_ren:={
 mixed:=by kernel_rfl
 f43:=⟨Tryz.f156.name,by decide,Tryz.func156.trans (congrArg some (by kernel_rfl))⟩
 t0:=Tryz.underlying0
 a0:=Tryz.isAgg0
 z0:=Tryz.sizeOf0
 v0:=Tryz.zeroValue0
 t3:=Tryz.underlying3
 a3:=Tryz.isAgg3
 z3:=Tryz.sizeOf3
 v3:=Tryz.zeroValue3
 t4:=Tryz.underlying4
 a4:=Tryz.isAgg4
 z4:=Tryz.sizeOf4
 v4:=Tryz.zeroValue4
 t22:=Tryz.underlying30
 a22:=Tryz.isAgg30
 z22:=Tryz.sizeOf30
 v22:=Tryz.zeroValue30
 t23:=Tryz.underlying2
 a23:=Tryz.isAgg2
 z23:=Tryz.sizeOf2
 v23:=Tryz.zeroValue2
 i23:=by kernel_rfl }
open Go.RowKit Go.Lib Go.Sort in
theorem Tryz.slices_Compact_int(blk off cap:Nat)(zs:List Int)(w:World)(hH:Holds (Value.int .i64) w blk off zs.toArray)(hsz:zs.length≤9223372036854775807)(hcap:zs.length≤cap) :
  Calls Tryz.prog 156 #[.slice (some ⟨blk,off,none⟩) zs.length cap] w fun e w'=>e=.returned (.slice (some ⟨blk,off,none⟩) (Lib.compact zs).length cap)∧∃ q,w'=putRow (Value.int .i64) (Sort.ahead w q) blk off (Lib.compact zs++List.replicate (zs.length - (Lib.compact zs).length) 0).toArray:=AnyG.slices_Compact_int Tryz.laysSlN43_f156 blk off cap zs w hH hsz hcap
open Go.RowKit Go.Lib Go.Sort in
theorem Tryz.slices_Compact_int_empty(a:Option Addr)(cap:Nat)(w:World) :
  Calls Tryz.prog 156 #[.slice a 0 cap] w fun e w'=>e=.returned (.slice a 0 cap)∧w'=w:=AnyG.slices_Compact_int_empty Tryz.laysSlN43_f156 a cap w
def Tryz.laysValid_ren:Go.Shelf.Ren:=⟨fun|196=>232|259=>292|n=>n,fun|9=>9|4=>4|3=>3|5=>5|12=>12|119=>396|0=>0|46=>193|139=>399|138=>398|53=>33|n=>n,fun|3=>0|4=>1|n=>n⟩
theorem Tryz.laysValid:Go.Proofs.Lays.n196 Tryz.prog Tryz.laysValid_ren:={
 mixed:=by kernel_rfl
 f196:=Tryz.func232.trans (congrArg some (by kernel_rfl))
 f259:=Tryz.func292.trans (congrArg some (by kernel_rfl))
 t0:=Tryz.underlying0
 a0:=Tryz.isAgg0
 z0:=Tryz.sizeOf0
 v0:=Tryz.zeroValue0
 t3:=Tryz.underlying3
 a3:=Tryz.isAgg3
 z3:=Tryz.sizeOf3
 v3:=Tryz.zeroValue3
 t4:=Tryz.underlying4
 a4:=Tryz.isAgg4
 z4:=Tryz.sizeOf4
 v4:=Tryz.zeroValue4
 t5:=Tryz.underlying5
 a5:=Tryz.isAgg5
 z5:=Tryz.sizeOf5
 v5:=Tryz.zeroValue5
 t9:=Tryz.underlying9
 a9:=Tryz.isAgg9
 z9:=Tryz.sizeOf9
 v9:=Tryz.zeroValue9
 t12:=Tryz.underlying12
 a12:=Tryz.isAgg12
 z12:=Tryz.sizeOf12
 v12:=Tryz.zeroValue12
 t46:=Tryz.underlying193
 a46:=Tryz.isAgg193
 z46:=Tryz.sizeOf193
 v46:=Tryz.zeroValue193
 t53:=Tryz.underlying33
 a53:=Tryz.isAgg33
 z53:=Tryz.sizeOf33
 v53:=Tryz.zeroValue33
 t119:=Tryz.underlying396
 a119:=Tryz.isAgg396
 z119:=Tryz.sizeOf396
 t138:=Tryz.underlying398
 a138:=Tryz.isAgg398
 z138:=Tryz.sizeOf398
 v138:=Tryz.zeroValue398
 t139:=Tryz.underlying399
 a139:=Tryz.isAgg399
 z139:=Tryz.sizeOf399
 v139:=Tryz.zeroValue399
 g3:=by kernel_rfl
 g4:=by kernel_rfl }
open Go.RowKit in
theorem Tryz.utf8_ValidString(s:ByteArray)(w:World)(hs:s.size≤9223372036854775807)(hT:Lib.Utf8Tabs 0 1 w) :
  Calls Tryz.prog 232 #[.string s] w fun e w'=>e=.returned (.bool (Lib.validD s.data.toList))∧Below w.heap.size w w':=Any.utf8_ValidString Tryz.laysValid s w hs hT
end Go.Proofs
namespace Go.Proofs.YtejeinnfompgpaaGreatDoor
open Go.RowKit
set_option maxRecDepth 100000
def U8T (w:World):Prop:=Lib.Utf8Tabs 0 1 w
def g_unicode_utf8_ValidString(s:List UInt8):Option Bool:=some (Lib.validD s)
theorem a_unicode_utf8_ValidString(I:World→Prop)(hI:Stab I)(hU8T:∀ w,I w→U8T w)(s:List UInt8){r:Bool}(h:g_unicode_utf8_ValidString s=some r):AFun Tryz.prog I 232 [.str s] (.bool r):=by
 obtain rfl:=Option.some.inj h
 refine AFun.of_calls (v:=.bool (Lib.validD s)) (by kernel_rfl) (fun w F=>.bool _) ?_
 intro w F args hIw _ hl hr
 match args,hl with
 | [v],_ =>
  obtain⟨rfl,hm⟩:=rep_str1 (hr 0 v _ rfl rfl)
  exact Tryz.utf8_ValidString ⟨s.toArray⟩ w (by rw[bsize];unfold maxLen at hm;omega) (hU8T w hIw)
def g_unicode_utf8_RuneCountInString(s:List UInt8):Option Int:=if s.length < 9223372036854775807 then some (Lib.runeCountL s:Int) else none
theorem runeCountFrom_le(s:ByteArray):∀ (fuel pos:Nat),Lib.runeCountFrom s fuel pos≤fuel:=by
 intro fuel
 induction fuel with
 | zero=>intro pos;simp[Lib.runeCountFrom]
 | succ n ih =>
  intro pos
  simp only[Lib.runeCountFrom]
  split
  ·have:=ih (pos+(Utf8.decode s pos).2);omega
  ·omega
theorem a_unicode_utf8_RuneCountInString(I:World→Prop)(hI:Stab I)(s:List UInt8){r:Int}(h:g_unicode_utf8_RuneCountInString s=some r):AFun Tryz.prog I 294 [.str s] (.int .i64 r):=by
 obtain⟨hs,h⟩:=ite_on h
 obtain rfl:=Option.some.inj h
 refine AFun.of_calls (v:=.int .i64 (Lib.runeCountL s:Int)) (by kernel_rfl) (fun w F=>.int _ _ ?_) ?_
 ·have:=runeCountFrom_le ⟨s.toArray⟩ (⟨s.toArray⟩:ByteArray).size 0
  rw[bsize] at this
  unfold Lib.runeCountL Lib.runeCount inR;simp only[kLo,kHi];rw[bsize];omega
 ·intro w F args hIw _ hl hr
  match args,hl with
  | [v],_ =>
   obtain⟨rfl,hm⟩:=rep_str1 (hr 0 v _ rfl rfl)
   refine(Tryz.utf8_RuneCountInString ⟨s.toArray⟩ w (by rw[bsize];exact hs)).mono ?_
   rintro e w' ⟨rfl,pos,rfl⟩
   exact⟨rfl,rfl,rfl,rfl,by simp[World.iter],fun k hk=>Below.heap_alloc w _ k hk⟩
theorem cell_below{w w':World}{g:Nat}{v:Value}(h:w.cell? ⟨g,0,none⟩=some v)(hb:Below w.heap.size w w'):w'.cell? ⟨g,0,none⟩=some v:=by
 have hlt:g < w.heap.size:=by
  rcases Nat.lt_or_ge g w.heap.size with h1|h1
  ·exact h1
  ·simp[World.cell?,Array.getElem?_eq_none h1] at h
 rw[World.cell?_of_block (hb.block g hlt)]
 exact h
def Shp (w:World):Prop:=∃ m,w.cell? ⟨2,0,none⟩=some (.int .i64 m)
theorem stabShp:Stab Shp:=fun _ _ ⟨m,h⟩ hb=>⟨m,cell_below h hb⟩
theorem flat_strs(l:List (List UInt8)):(l.map D.str).flatMap D.cells=l.map D.str:=by
 induction l with
 | nil=>rfl
 | cons a t ih=>simp only[List.map_cons,List.flatMap_cons,ih,D.cells,List.singleton_append]
section
variable {P:Program}{I:World→Prop}{f:FuncId}{ds:List D}
theorem AFun.of_strs(he:enterable P f=true)(l:List (List UInt8))(t:TypeId)(hl:l.length≤maxLen)(hs:∀ s ∈ l,s.length≤maxLen)
  (h:∀ (w:World) (F:Nat→Nat→Prop) (args:List Value),I w→FB (cF F) w→args.length=ds.length→(∀ (i:Nat) v d,args[i]? = some v→ds[i]? = some d→Rep w (cF F) v d) →
   Calls P f args.toArray w fun e w'=>e=.returned (.slice (some ⟨w.heap.size,0,none⟩) l.length l.length)∧w'=w.alloc (.cells (l.map fun s=>Value.string ⟨s.toArray⟩).toArray t)):AFun P I f ds (.sl (l.map D.str)):=by
 refine⟨he,fun w F args hI hfb hla hr=>?_⟩
 refine(h w F args hI hfb hla hr).mono ?_
 rintro e w' ⟨rfl,rfl⟩
 let F':Nat→Nat→Prop:=fun b o=>F b o∨(b=w.heap.size∧o < l.length)
 have hbel:Below w.heap.size w (w.alloc (.cells (l.map fun s=>Value.string ⟨s.toArray⟩).toArray t)):=(Below.refl _ _).alloc (Nat.le_refl _) _
 refine⟨_,F',rfl,hbel,⟨fun _ _ h=>.inl h,fun b o hF=>hbel.block b (hfb b o hF),fun _ h=>h,fun _ _=>rfl⟩,fun b o hF=>?_,fun b o hF=>?_,?_⟩
 ·rcases hF with hF|⟨rfl,_⟩
  ·exact Nat.lt_of_lt_of_le (hfb b o hF) hbel.size
  ·simp
 ·rcases hF with hF|⟨rfl,_⟩
  ·exact .inl hF
  ·exact .inr (Nat.le_refl _)
 ·have:=Rep.sl (w:=w.alloc (.cells (l.map fun s=>Value.string ⟨s.toArray⟩).toArray t)) (C:=cF F') w.heap.size 0 1 l.length (l.map D.str) (l.map fun s=>Value.string ⟨s.toArray⟩) (by simp) hl
   (by intro x hx;simp at hx;obtain⟨a,_,rfl⟩:=hx;rfl) (by rw[flat_strs];simp) (by intro v hv;simp at hv;obtain⟨a,_,rfl⟩:=hv;rfl) (fun i hi=>.inr ⟨rfl,by simpa using hi⟩) (fun i v hv=>?_) (fun i v d hv hd=>?_)
  ·simpa using this
  ·rw[World.cell?]
   simp only[Nat.zero_add,World.alloc,Array.getElem?_push_size]
   simpa using hv
  ·rw[flat_strs] at hd
   simp only[List.getElem?_map] at hv hd
   cases hx:l[i]? with
   | none=>rw[hx] at hv;simp at hv
   | some s =>
    rw[hx] at hv hd
    simp at hv hd
    subst hv hd
    exact .str s (hs s (List.mem_of_getElem? hx))
end
def g_strings_Split(s sep:List UInt8):Option (List (List UInt8)):=if s.length < 4294967281∧1≤sep.length then some (Lib.split s sep) else none
theorem splitK_le(sep:List UInt8):∀ (k:Nat) (s:List UInt8),∀ x ∈ Lib.splitK sep 0 k s,x.length≤s.length
 | 0,s,x,h=>by simp[Lib.splitK] at h;subst h;exact Nat.le_refl _
 | k+1,s,x,h=>by
  unfold Lib.splitK at h
  split at h
  ·simp at h;subst h;exact Nat.le_refl _
  ·rcases List.mem_cons.1 h with rfl|h
   ·rw[List.length_take];exact Nat.min_le_right _ _
   ·have:=splitK_le sep k _ x h
    rw[List.length_drop] at this;omega
theorem a_strings_Split(I:World→Prop)(hI:Stab I)(hShp:∀ w,I w→Shp w)(s sep:List UInt8){r:List (List UInt8)}(h:g_strings_Split s sep=some r):AFun Tryz.prog I 95 [.str s,.str sep] (.sl (r.map D.str)):=by
 obtain⟨⟨h1,h2⟩,h⟩:=ite_on h
 obtain rfl:=Option.some.inj h
 have hd:(Lib.splitB ⟨sep.toArray⟩ 0 (Lib.countB ⟨s.toArray⟩ ⟨sep.toArray⟩) ⟨s.toArray⟩).map (·.data.toList)=Lib.split s sep:=by
  rw[Lib.splitB_data];rfl
 have hlen:(Lib.split s sep).length=Lib.countB ⟨s.toArray⟩ ⟨sep.toArray⟩+1:=by
  rw[← hd,List.length_map];exact Lib.splitB_all _ (by simpa[ByteArray.size] using h2) 0 _ _ rfl
 have hcl:=Lib.countB_le ⟨sep.toArray⟩ (by simpa[ByteArray.size] using h2) s.length ⟨s.toArray⟩ (by simp[ByteArray.size])
 refine AFun.of_strs (by kernel_rfl) _ 9 (by rw[hlen];simp[ByteArray.size] at hcl;unfold maxLen;omega) (fun x hx=>by have:=splitK_le sep _ s x hx;unfold maxLen;omega) ?_
 intro w F args hIw _ hl hr
 match args,hl with
 | [v,u],_ =>
  obtain⟨rfl,_⟩:=rep_str1 (hr 0 v _ rfl rfl)
  obtain⟨rfl,_⟩:=rep_str1 (hr 1 u _ rfl rfl)
  obtain⟨m,hm⟩:=hShp w hIw
  refine(Tryz.strings_Split ⟨s.toArray⟩ ⟨sep.toArray⟩ m w (by simpa[ByteArray.size] using h1) hm (by simpa[ByteArray.size] using h2)).mono ?_
  rintro e w' ⟨rfl,rfl⟩
  refine⟨by rw[hlen],?_⟩
  rw[← hd,List.map_map]
  rfl
def g_strings_Contains(s t:List UInt8):Option Bool:=if s.length < 4294967281 then some (Lib.contains s t) else none
theorem a_strings_Contains(I:World→Prop)(hI:Stab I)(hShp:∀ w,I w→Shp w)(s t:List UInt8){r:Bool}(h:g_strings_Contains s t=some r):AFun Tryz.prog I 241 [.str s,.str t] (.bool r):=by
 obtain⟨hs,h⟩:=ite_on h
 obtain rfl:=Option.some.inj h
 refine AFun.of_calls (v:=.bool (Lib.contains s t)) (by kernel_rfl) (fun w F=>.bool _) ?_
 intro w F args hIw _ hl hr
 match args,hl with
 | [v,u],_ =>
  obtain⟨rfl,_⟩:=rep_str1 (hr 0 v _ rfl rfl)
  obtain⟨rfl,_⟩:=rep_str1 (hr 1 u _ rfl rfl)
  obtain⟨m,hm⟩:=hShp w hIw
  refine(Tryz.strings_Contains ⟨s.toArray⟩ ⟨t.toArray⟩ m w (by rw[bsize];exact hs) hm).mono ?_
  rintro e w' ⟨rfl,rfl⟩
  exact⟨rfl,Below.refl _ _⟩
def RdL {α:Type}(enc:α→List Value)(k:Nat)(w:World)(B:Nat)(A:Option Addr)(L:List α):Prop :=
 L=[]∨∃ b off,A=some ⟨b,off,none⟩∧b < B∧∀ i x,L[i]? = some x→∀ j v,(enc x)[j]? = some v→w.cell? ⟨b,off+i * k+j,none⟩=some v
section
variable {α:Type}{enc:α→List Value}{k:Nat}{w w':World}{B B':Nat}{A:Option Addr}{L:List α}
theorem RdL.nil:RdL enc k w B A []:=.inl rfl
theorem RdL.at_(h:RdL enc k w B A L)(hn:0 < L.length):∃ b off,A=some ⟨b,off,none⟩∧b < B∧∀ i x,L[i]? = some x→∀ j v,(enc x)[j]? = some v→w.cell? ⟨b,off+i * k+j,none⟩=some v:=by
 rcases h with rfl|h
 ·simp at hn
 exact h
theorem RdL.keep(h:RdL enc k w B A L)(hk:∀ p:Addr,p.block < B→w'.cell? p=w.cell? p):RdL enc k w' B A L:=by
 rcases h with h|⟨b,off,e,hb,hc⟩
 ·exact .inl h
 exact .inr ⟨b,off,e,hb,fun i x hx j v hv=>(hk _ hb).trans (hc i x hx j v hv)⟩
theorem RdL.below(h:RdL enc k w B A L)(hb:Below B w w'):RdL enc k w' B A L:=h.keep fun _ hp=>hb.cell hp
theorem RdL.drewN(h:RdL enc k w B A L)(q:Nat):RdL enc k (w.drewN q) B A L:=h
theorem RdL.of_own{base:Nat}{e:TypeId}{n c:Nat}{xs:List Value}(h:w.ownsRow base e k (.slice A n c) n xs)(hx:∀ i x,L[i]? = some x→∀ j v,(enc x)[j]? = some v→xs[i * k+j]? = some v)(hn:n=L.length):RdL enc k w w.heap.size A L:=by
 by_cases h0:L=[]
 ·exact .inl h0
 have hp:0 < n:=by rw[hn];exact List.length_pos_iff.2 h0
 rcases h.2 with⟨hv,h1⟩|⟨g,cap,cur,hv,hg,hh,_,_,_,_⟩
 ·omega
 have hA:A=some ⟨g,0,none⟩:=by injection hv
 subst hA;refine .inr ⟨g,0,rfl,(h.lt g rfl).2,fun i x hi j v hv'=>?_⟩;have:=h.cells (g:=g) rfl _ v (hx i x hi j v hv');rw[← this];congr 1;unfold Addr.add;split
 ·rename_i e0
  rw[show 0+i * k+j=0 by omega]
 simp
end
def encI (x:Int):List Value:=[.int .i64 x]
def RdI (w:World)(B:Nat)(A:Option Addr)(L:List Int):Prop:=RdL encI 1 w B A L
theorem RdI.at_{w:World}{B:Nat}{A:Option Addr}{L:List Int}(h:RdI w B A L)(hn:0 < L.length):∃ b off,A=some ⟨b,off,none⟩∧b < B∧∀ i (hi:i < L.length),w.cell? ⟨b,off+i,none⟩=some (.int .i64 L[i]):=by
 obtain⟨b,off,e,hb,hc⟩:=RdL.at_ h hn;refine⟨b,off,e,hb,fun i hi=>?_⟩;have:=hc i _ (List.getElem?_eq_getElem hi) 0 (.int .i64 L[i]) rfl;simpa using this
theorem RdI.below{w w':World}{B:Nat}{A:Option Addr}{L:List Int}(h:RdI w B A L)(hb:Below B w w'):RdI w' B A L:=RdL.below h hb
theorem ints_cells(P:List Int):∀ i x,P[i]? = some x→∀ j v,(encI x)[j]? = some v→(P.map (Value.int .i64))[i * 1+j]? = some v:=by
 intro i x h j v hv
 cases j with
 | zero=>simp[encI] at hv;subst hv;simp[h]
 | succ j=>simp[encI] at hv
theorem RdI.of_own{w:World}{base:Nat}{e:TypeId}{n c:Nat}{A:Option Addr}{P:List Int}(h:w.ownsRow base e 1 (.slice A n c) n (P.map (Value.int .i64)))(hn:n=P.length):RdI w w.heap.size A P :=
 RdL.of_own h (ints_cells P) hn
theorem bSize:(Tryz.prog.info? 181).map (·.size)=some 2:=by kernel_rfl
theorem bLies:liesAt Tryz.prog Tryz.prog.depth 181 (2 / Tryz.prog.cellsOf 181) 0 181 1=true:=by kernel_rfl
theorem byte_info:(Tryz.prog.info? 5).map (fun i=>(i.zero,i.size,i.bytes))=some (some (.int .u8 0),1,1):=by kernel_rfl
set_option maxHeartbeats 1000000 in
set_option maxRecDepth 100000 in
theorem copyCheck_used(b:Nat)(w:World)(h0:w.cell? ⟨b,0,none⟩=some (.pointer (some ⟨b,0,none⟩))) :
  Calls Tryz.prog 162 #[.pointer (some ⟨b,0,none⟩)] w fun e w'=>e=.returned (.tuple #[])∧w=w':=by
 obtain⟨j,hj,_⟩:=Option.map_eq_some_iff.1 bSize
 go_enter Tryz.func162,Tryz.ntmps162
 go_wp2
 rw[Lib.run_neq_ptr_same w _ Tryz.underlying178 hj]
 go_wp2
 go_end0
 exact⟨rfl,rfl⟩
set_option maxHeartbeats 1000000 in
set_option maxRecDepth 100000 in
theorem copyCheck_fresh(b:Nat)(w:World)(h0:w.cell? ⟨b,0,none⟩=some (.pointer none))(hsh:w.shape? b=some (181,2))(hfz:w.frozen? ⟨b,0,none⟩=false) :
  Calls Tryz.prog 162 #[.pointer (some ⟨b,0,none⟩)] w fun e w'=>e=.returned (.tuple #[])∧w.setCell ⟨b,0,none⟩ (.pointer (some ⟨b,0,none⟩))=w':=by
 obtain⟨j,hj,hjs⟩:=Option.map_eq_some_iff.1 bSize
 go_enter Tryz.func162,Tryz.ntmps162
 go_wp2
 rw[Lib.run_to_unsafe w ⟨b,0,none⟩ Tryz.underlying178 Tryz.underlying340 hj (by rw[hjs];decide) hsh (Nat.zero_lt_succ 1)]
 simp only[Result.andThen]
 rw[Oper.upon_value]
 go_wp2
 rw[run_callFunc_extern Tryz.func229 (by kernel_rfl) (by kernel_rfl) (by kernel_rfl) (e:=Extern.AbiNoEscape.same) (by kernel_rfl)]
 rw[Lib.run_noEscape]
 simp only[Result.andThen]
 rw[Oper.upon_value]
 go_wp2
 rw[Lib.run_from_unsafe w ⟨b,0,none⟩ Tryz.underlying340 Tryz.underlying178 hj hsh bLies]
 simp only[Result.andThen]
 rw[Oper.upon_value]
 go_wp2
 go_end0
 exact⟨rfl,rfl⟩
section
variable {P:Program}{w:World}
theorem append_str_where(t u ty e:TypeId)(i:TypeInfo)(ht:P.underlying t=some (.slice e))(hu:P.underlying u=some .string)(hi:P.info? e=some i)(hz:i.zero=some (.int .u8 0))(hsize:i.size=1)(hby:i.bytes=1)
  (v:Value) (n:Nat) (xs:List Value) (hown:w.ownsRow 0 e 1 v n xs) (s:ByteArray) (h63:n+s.size≤maxLen) (hbytes:n+s.size≤140737488355328) {v':Value} {w':World} (h:(Builtin.append_ #[t,u] ty #[v,.string s]).run P w=.ok v' w') :
  (∀ g,v'.ownBlock=some g→w.heap.size≤g)∨v'.ownBlock=v.ownBlock:=by
 have hsmall:n+s.size≤9223372036854775807:=by simp only[maxLen] at h63;omega
 have hxl:xs.length=n:=by simpa using hown.1
 rcases hown.2 with⟨rfl,rfl⟩|⟨g,cap,cur,rfl,hbg,hg,hnc,hcm,hcs,htake⟩
 ·by_cases hm:s.size=0
  ·have hf:=Lib.run_firstCells_string (P:=P) (w:=w) 1 s
   rw[hm] at hf
   have hr:(Builtin.append_ #[t,u] ty #[.slice none 0 0,.string s]).run P w=.ok (.slice none 0 0) w:=by
    simp[Builtin.append_,run_underlying ht,run_underlying hu,sizeOf,typeInfo,hi,hsize,Builtin.lenOf,hm,hf]
   rw[hr] at h
   injection h with h1 h2
   subst h1
   exact .inr rfl
  ·rw[run_append_nil_string (P:=P) w t u ty e i (.int .u8 0) ht hu hi hz s (by omega) (by omega) (by rw[hby];omega)] at h
   injection h with h1 h2
   subst h1
   exact .inl fun g hg=>by simp[Value.ownBlock] at hg;omega
 ·by_cases hroom:n+s.size≤cap
  ·have hcs':cur.size=cap:=by simpa using hcs
   rw[Lib.run_append_room_string (P:=P) w t u ty e i ht hu hi hsize g n cap cur hg s hroom (by omega)] at h
   injection h with h1 h2
   subst h1
   exact .inr rfl
  ·have holds:∀ j u,xs[j]? = some u→w.cell? ((⟨g,0,none⟩:Addr).add j)=some u:=hown.cells (g:=g) rfl
   rw[Lib.run_append_grow_string (P:=P) w t u ty e i (.int .u8 0) ht hu hi hz ⟨g,0,none⟩ n cap xs (by rw[hsize];simpa using hxl) holds s (by omega) (by omega) (by rw[hby];exact growslice_fits (by omega) (by omega))] at h
   injection h with h1 h2
   subst h1
   exact .inl fun g hg=>by simp[Value.ownBlock] at hg;omega
theorem wpList_append_str2{ops:Array Oper}{rest:List Oper}{o:Oper}{a:Act}{Q:Exit→Act→World→Prop}(hgd:o.guard=none)(sl x:Operand)(t u:TypeId)
  (ho:o.op=.call { callee:=.builtin .append,args:=#[sl,x],argTypes:=#[t,u] }) (e:TypeId) (i:TypeInfo) (ht:P.underlying t=some (.slice e)) (hu:P.underlying u=some .string) (hi:P.info? e=some i) (hz:i.zero=some (.int .u8 0))
  (hsize:i.size=1) (hby:i.bytes=1) (v:Value) (n:Nat) (xs:List Value) (hs:a.eval sl=v) (hown:w.ownsRow 0 e 1 v n xs) (s:ByteArray) (hx:a.eval x=.string s) (h63:n+s.size≤maxLen) (hbytes:n+s.size≤140737488355328)
  (h:∀ v' w',w'.ownsRow 0 e 1 v' (n+s.size) (xs++Lib.strCells s)→w.grownBy w' v.ownBlock→((∀ g,v'.ownBlock=some g→w.heap.size≤g)∨v'.ownBlock=v.ownBlock)→wpList P ops Q rest (a.put o.dst v') w'):wpList P ops Q (o::rest) a w:=by
 refine wpList_plain hgd fun K hK=>?_
 obtain⟨v',w',hr,h2,h3,_⟩:=Lib.run_append_own_string (P:=P) w 0 t u o.type e i ht hu hi hz hsize hby v n xs hown s h63 hbytes (Nat.zero_le _)
 have hw:=append_str_where (P:=P) t u o.type e i ht hu hi hz hsize hby v n xs hown s h63 hbytes hr
 unfold Oper.wp execOp
 simp only[ho,resolve,invoke,builtin,Sem.run_bind,Sem.run_pure,Result.andThen_ok,List.map_toArray,List.map_cons,List.map_nil,hs,hx,hr]
 exact hK _ _ (h v' w' h2 h3 hw)
end
def BldAt(b:Nat)(v:Value)(w:World):Prop:=∃ p,(p=.pointer none∨p=.pointer (some ⟨b,0,none⟩))∧w.heap[b]? = some (.cells #[p,v] 181 (0,0))
theorem copyCheck_bld(b:Nat)(v:Value)(w:World)(h:BldAt b v w):Calls Tryz.prog 162 #[.pointer (some ⟨b,0,none⟩)] w fun e w'=>e=.returned (.tuple #[]) ∧
  w'.heap[b]? = some (.cells #[.pointer (some ⟨b,0,none⟩),v] 181 (0,0))∧w'.heap.size=w.heap.size∧w'.os=w.os∧w'.tape=w.tape∧w'.output=w.output∧∀ k,k≠b→w'.heap[k]? = w.heap[k]?:=by
 obtain⟨p,hp,hb⟩:=h
 rcases hp with rfl|rfl
 ·refine(copyCheck_fresh b w (by rw[Lib.cell_of_heap hb];rfl) (by simp[World.shape?,hb]) (Lib.frozen_of_heap hb 0)).mono ?_
  rintro e w' ⟨rfl,rfl⟩
  exact⟨rfl,by simp[World.setCell,Array.getElem?_modify,hb],by simp[World.setCell],rfl,rfl,rfl,fun k hk=>Below.heap_setCell w ⟨b,0,none⟩ _ k hk⟩
 ·refine(copyCheck_used b w (by rw[Lib.cell_of_heap hb];rfl)).mono ?_
  rintro e w' ⟨rfl,rfl⟩
  exact⟨rfl,hb,rfl,rfl,rfl,rfl,fun _ _=>rfl⟩
set_option maxHeartbeats 2000000 in
set_option maxRecDepth 100000 in
theorem writeStr(b:Nat)(v:Value)(bs:List Value)(s:ByteArray)(w:World)(h:BldAt b v w)(hown:w.ownsRow 0 5 1 v bs.length bs)(hne:v.ownBlock≠some b)(hlen:bs.length+s.size≤140737488355328) :
  Calls Tryz.prog 76 #[.pointer (some ⟨b,0,none⟩),.string s] w fun e w'=>e=.returned (.tuple #[.int .i64 s.size,.nilIface]) ∧
   ∃ v',w'.heap[b]? = some (.cells #[.pointer (some ⟨b,0,none⟩),v'] 181 (0,0))∧w'.ownsRow 0 5 1 v' (bs.length+s.size) (bs++Lib.strCells s)∧v'.ownBlock≠some b ∧
    ((∀ g,v'.ownBlock=some g→w.heap.size≤g)∨v'.ownBlock=v.ownBlock)∧BelM (fun k=>w.heap.size≤k∨k=b∨v.ownBlock=some k) w w':=by
 obtain⟨i0,hi,hz0,hz1,hz2⟩:=info_parts byte_info
 have hltb:b < w.heap.size:=by obtain⟨p,_,hb⟩:=h;exact(Array.getElem?_eq_some_iff.1 hb).1
 go_enter Tryz.func76,Tryz.ntmps76
 go_wp2_with (go_at_call 162;refine(copyCheck_bld b v _ h).mono ?_)
 rintro e w1 ⟨rfl,hbk,hsz,hos,htp,hou,ho1⟩
 have HO1:=Lib.hid ho1
 have HS:=Lib.hid hsz
 have HX:=Lib.hid (And.intro hos (And.intro htp hou))
 clear ho1 hsz hos htp hou
 have hown1:w1.ownsRow 0 5 1 v bs.length bs:=by
  refine⟨hown.1,?_⟩
  rcases hown.2 with h0|⟨g,cap,cur,h1,h2,h3,h4⟩
  ·exact .inl h0
  ·exact .inr ⟨g,cap,cur,h1,h2,(HO1.out g (fun e=>hne (by rw[h1,e];rfl))).trans h3,h4⟩
 have c0:w1.cell? ⟨b,0,none⟩=some (.pointer (some ⟨b,0,none⟩)):=by rw[Lib.cell_of_heap hbk];rfl
 have c1:w1.cell? ⟨b,1,none⟩=some v:=by rw[Lib.cell_of_heap hbk];rfl
 go_wp2_with (at_builtin;refine wpList_append_str2 rfl _ _ 179 9 rfl 5 i0 Tryz.underlying179 Tryz.underlying9 hi hz0 hz1 hz2 _ _ _ rfl hown1 s rfl ?c3 ?c4 ?_)
 case c3=>unfold maxLen;omega
 case c4=>omega
 intro v' w2 hown' hgrow hwh
 have hlt:b < w1.heap.size:=by rw[HS.out];exact hltb
 have hb2:w2.heap[b]? = some (.cells #[.pointer (some ⟨b,0,none⟩),v] 181 (0,0)):=by
  rw[hgrow.block b hlt (fun e=>hne e.symm)]
  exact hbk
 have d0:w2.cell? ⟨b,0,none⟩=some (.pointer (some ⟨b,0,none⟩)):=by rw[Lib.cell_of_heap hb2];rfl
 have d1:w2.cell? ⟨b,1,none⟩=some v:=by rw[Lib.cell_of_heap hb2];rfl
 have f1:w2.frozen? ⟨b,1,none⟩=false:=Lib.frozen_of_heap hb2 1
 have hne':v'.ownBlock≠some b:=by
  intro e
  rcases hwh with h1|h1
  ·have:=h1 b e;omega
  ·exact hne (h1 ▸ e)
 have HW:=Lib.hid hwh
 have HN:=Lib.hid hne'
 have HG:=Lib.hid hgrow
 clear hwh hne'
 obtain⟨ao,n',cap,rfl⟩:∃ ao n' cap,v'=.slice ao n' cap:=by
  rcases hown'.2 with⟨hv,_⟩|⟨g,cap,cur,hv,_⟩
  ·exact⟨_,_,_,hv⟩
  ·exact⟨_,_,_,hv⟩
 go_wp2
 go_ret2
 refine⟨rfl,.slice ao n' cap,?_,?_,HN.out,?_,?_⟩
 ·simp[World.setCell,Array.getElem?_modify,hb2]
 ·refine⟨hown'.1,?_⟩
  rcases hown'.2 with h0|⟨g,cap',cur,h1,h2,h3,h4⟩
  ·exact .inl h0
  ·exact .inr ⟨g,cap',cur,h1,h2,(Below.heap_setCell _ _ _ _ (fun e=>HN.out (by rw[h1,e];rfl))).trans h3,h4⟩
 ·rw[HS.out] at HW;exact HW.out
 ·have hX:=HX.out
  refine⟨HG.out.os.trans hX.1,HG.out.tape.trans hX.2.1,HG.out.output.trans hX.2.2,?_,fun k hk hm=>?_⟩
  ·have:=HG.out.size;rw[HS.out] at this;simpa[World.setCell] using this
  ·have hkb:k≠b:=fun e=>hm (.inr (.inl e))
   rw[Below.heap_setCell _ _ _ _ hkb,HG.out.block k (by rw[HS.out];exact hk) (fun e=>hm (.inr (.inr e.symm))),HO1.out k hkb]
def toI (l:List UInt8):List Int:=l.map fun b=>(b.toNat:Int)
theorem toI_length(l:List UInt8):(toI l).length=l.length:=by simp[toI]
theorem strCells_rep{w:World}{C:Cx}(s:List UInt8):RepL C w (Lib.strCells ⟨s.toArray⟩) (((toI s).map (D.int .u8)).flatMap D.cells):=by
 rw[flatU8]
 have e:Lib.strCells ⟨s.toArray⟩=s.map fun b=>Value.int .u8 b.toNat:=by simp[Lib.strCells]
 rw[e]
 refine⟨by simp[toI],fun v hv=>?_,fun i v d hv hd=>?_⟩
 ·obtain⟨b,_,rfl⟩:=List.mem_map.1 hv;rfl
 ·simp only[toI,List.getElem?_map] at hv hd
  cases hs:s[i]? with
  | none=>rw[hs] at hv;simp at hv
  | some b =>
   rw[hs] at hv hd
   simp at hv hd
   subst hv hd
   exact .int _ _ (by have:=b.toNat_lt;unfold inR;simp only[kLo,kHi];omega)
theorem flatU8_len(l:List Int):∀ x ∈ l.map (D.int .u8),x.cells.length=1:=by
 intro x hx;obtain⟨n,_,rfl⟩:=List.mem_map.1 hx;rfl
theorem sp_cases{w:World}{C:Cx}{v:Value}{id:Nat}(h:Rep w C v (.sp id)){g:Nat}(hs:C.σ id=.pointer (some ⟨g,0,none⟩)):v=.pointer none∨v=.pointer (some ⟨g,0,none⟩):=by
 cases h with
 | sp0 _ _=>exact .inl rfl
 | sp1 _ g' _ h'=>rw[hs] at h';injection h' with h';injection h' with h';injection h' with h';subst h';exact .inr rfl
theorem bld_block{w:World}{C:Cx}{id g:Nat}{d:D}(hs:C.σ id=.pointer (some ⟨g,0,none⟩))(h:BRep C w 0 id (.bbox 181 [.sp id,d])):∃ v,BldAt g v w∧Rep w C v d∧∀ o,¬ C.F g o:=by
 obtain⟨g',vs,q1,q2,q3,q4,q5⟩:=h
 rw[hs] at q1;injection q1 with q1;injection q1 with q1;injection q1 with q1
 subst q1
 have hl:=q4.len
 obtain⟨p,v,hvs⟩:∃ p v,vs=#[p,v]:=by
  obtain⟨l⟩:=vs
  match l,hl with
  | [p,v],_=>exact⟨p,v,rfl⟩
 subst hvs
 exact⟨v,⟨p,sp_cases (q4.rep 0 p _ rfl rfl) hs,q3⟩,q4.rep 1 v _ rfl rfl,q5⟩
theorem wrote(I:World→Prop)(id nid:Nat)(s:List UInt8)(l:List Int)(H:Nat→Option Blk)(d:D)(eff:Eff)(hid:H id=some (.bbox 181 [.sp id,d]))(hlen:l.length+s.length≤140737488355328)(hne:nid≠id)
  (hd:(d=.nils∧l=[]∧eff=[(nid,some (.vec 5 1 ((l++toI s).map (D.int .u8)) false)),(id,some (.bbox 181 [.sp id,.own nid (l.length+s.length)]))]) ∨
   ∃ id2,d=.own id2 l.length∧H id2=some (.vec 5 1 (l.map (D.int .u8)) false)∧id2≠id∧eff=[(id2,none),(nid,some (.vec 5 1 ((l++toI s).map (D.int .u8)) false)),(id,some (.bbox 181 [.sp id,.own nid (l.length+s.length)]))]) :
  CallOK Tryz.prog I 76 [.ptr id 0,.str s] H nid (.tup [.int .i64 s.length,.err false]) eff:=by
 refine⟨by kernel_rfl,fun i0 w C B args hI hb0 hM hH hF hbase hn hal hrep=>?_⟩
 obtain⟨a0,a1,rfl⟩:∃ a0 a1,args=[a0,a1]:=by
  match args,hal with
  | [a,b],_=>exact⟨a,b,rfl⟩
 have r0:=hrep 0 a0 _ rfl rfl
 have r1:=hrep 1 a1 _ rfl rfl
 clear hrep
 obtain⟨rfl,hsl⟩:=rep_str1 r1
 cases r0 with
 | ptr _ _ g hlid hσ =>
 obtain⟨k0,k1⟩:=hH.rep id _ hid
 obtain⟨v,hB,hv,hnoF⟩:=bld_block hσ k1
 have hgM:B.M g:=hH.own id _ hid g (by rw[hσ];rfl)
 have hglt:g < w.heap.size:=by obtain⟨p,_,hb⟩:=hB;exact(Array.getElem?_eq_some_iff.1 hb).1
 -- the row
 obtain⟨vals,hown,hvals,hvne,hvM,hvF⟩:∃ vals,w.ownsRow 0 5 1 v vals.length vals∧vals.length=l.length∧v.ownBlock≠some g∧(∀ k,v.ownBlock=some k→B.M k)∧(∀ k o,v.ownBlock=some k→¬ C.F k o):=by
  rcases hd with⟨rfl,rfl,_⟩|⟨id2,rfl,h2,h3,_⟩
  ·cases hv
   exact⟨[],World.ownsRow_nil _ _ _ _,rfl,by simp[Value.ownBlock],by simp[Value.ownBlock],by simp[Value.ownBlock]⟩
  ·cases hv with
   | own _ _ c A hl2 hm2 hσ2 =>
    obtain⟨_,vals,q1,q2,q3,q4⟩:=hH.rep id2 _ h2
    rw[hσ2] at q1
    have hvl:vals.length=l.length:=by have:=q1.1;simpa using this
    refine⟨vals,by rw[hvl];simpa using q1,hvl,fun e=>?_,fun k hk=>hH.own id2 _ h2 k (by rw[hσ2,blockOf_own];exact hk),fun k o hk hF'=>?_⟩
    ·exact hH.apart id2 id _ _ h2 hid h3 g (by rw[hσ2,blockOf_own];exact e) (by rw[hσ];rfl)
    ·have:=((q4 k (by rw[hσ2];exact hk)).1 o hF').1;cases this
 have hssz:(⟨s.toArray⟩:ByteArray).size=s.length:=bsize s
 refine(writeStr g v vals ⟨s.toArray⟩ w hB hown hvne (by rw[hvals,hssz];exact hlen)).mono ?_
 rintro e w' ⟨rfl,v',e1,e2,e3,e4,e5⟩
 rw[hssz,hvals] at e2
 have hbel:BelM B.M w w':=⟨e5.os,e5.tape,e5.output,e5.size,fun k hk hm=>e5.block k hk (by
  rintro(h|h|h)
  ·omega
  ·exact hm (h ▸ hgM)
  ·exact hm (hvM k h))⟩
 -- outside the two blocks nothing has changed
 have hout:∀ k,k < w.heap.size→k≠g→v.ownBlock≠some k→w'.heap[k]? = w.heap[k]?:=fun k hk h1 h2=>e5.block k hk (by rintro(h|h|h);omega;exact h1 h;exact h2 h)
 have hFk:∀ b o,C.F b o→w'.heap[b]? = w.heap[b]?:=fun b o hb=>hout b (hF b o hb) (fun e=>hnoF o (e ▸ hb)) (fun e=>hvF b o e hb)
 have ee:=Cx.new_ext (C:=C) (w:=w) (w':=w') hn v' hFk
 have hs2:(C.new nid v').σ nid=v':=by simp[Cx.new,upd]
 have hσ':(C.new nid v').σ id=.pointer (some ⟨g,0,none⟩):=by rw[ee.σ id hlid];exact hσ
 obtain⟨A',c',rfl⟩:∃ A' c',v'=.slice A' (l.length+s.length) c':=by
  rcases e2.2 with⟨h1,h2⟩|⟨g',cap,cur,h1,_⟩
  ·exact⟨none,0,by rw[h1,h2]⟩
  ·exact⟨_,_,h1⟩
 have hlm:l.length+s.length≤maxLen:=by unfold maxLen;omega
 have hnewF:∀ k,(Value.slice A' (l.length+s.length) c').ownBlock=some k→∀ o,¬ C.F k o:=by
  intro k hk o hb
  rcases e4 with h|h
  ·have:=h k hk;have:=hF k o hb;omega
  ·exact hvF k o (h ▸ hk) hb
 -- the row's new block stands for the new list
 have hvec:∀ (q3:RepL (cF C.F) w vals ((l.map (D.int .u8)).flatMap D.cells)),BRep (C.new nid (.slice A' (l.length+s.length) c')) w' 0 nid (.vec 5 1 ((l++toI s).map (D.int .u8)) false):=by
  intro q3
  refine⟨vals++Lib.strCells ⟨s.toArray⟩,?_,flatU8_len _,?_,?_⟩
  ·rw[hs2];simpa[toI_length] using e2
  ·rw[List.map_append,List.flatMap_append]
   exact(q3.ext ee.cF).append (strCells_rep s)
  ·intro k hk
   rw[hs2] at hk
   exact⟨fun o ho=>absurd ho (hnewF k hk o),fun h=>by cases h⟩
 have hbox:BRep (C.new nid (.slice A' (l.length+s.length) c')) w' 0 id (.bbox 181 [.sp id,.own nid (l.length+s.length)]):=by
  refine⟨g,#[.pointer (some ⟨g,0,none⟩),.slice A' (l.length+s.length) c'],hσ',Nat.zero_le _,e1,?_,hnoF⟩
  have x1:Rep w' (C.new nid (.slice A' (l.length+s.length) c')) (.pointer (some ⟨g,0,none⟩)) (.sp id):=.sp1 id g (Or.inl hlid) hσ'
  have x2:Rep w' (C.new nid (.slice A' (l.length+s.length) c')) (.slice A' (l.length+s.length) c') (.own nid (l.length+s.length)):=.own nid _ c' A' (Or.inr rfl) hlm hs2
  exact(RepL.one1 rfl x1).append (RepL.one1 rfl x2)
 -- everything else is as it was
 have hrest:∀ j bj,j≠id→(∀ k,blockOf (C.σ j)=some k→v.ownBlock≠some k)→H j=some bj→(C.new nid (.slice A' (l.length+s.length) c')).live j∧BRep (C.new nid (.slice A' (l.length+s.length) c')) w' 0 j bj:=by
  intro j bj hj hv hb
  obtain⟨h1,h2⟩:=hH.rep j bj hb
  exact⟨.inl h1,h2.keep h1 ee (fun k hk=>hout k (h2.lt k hk).2 (fun e=>hH.apart j id _ _ hb hid hj k hk (by rw[hσ,e];rfl)) (hv k hk)) (fun k o _ h=>h)⟩
 have hrepr:Rep w' (C.new nid (.slice A' (l.length+s.length) c')) (.tuple #[.int .i64 ((⟨s.toArray⟩:ByteArray).size:Int),.nilIface]) (.tup [.int .i64 s.length,.err false]):=by
  rw[hssz]
  refine .tup [.int .i64 s.length,.nilIface] _ rfl ?_
  intro i v d hv hd
  match i with
  | 0=>simp at hv hd;subst hv hd;exact .int _ _ (by unfold inR;simp only[kLo,kHi];omega)
  | 1=>simp at hv hd;subst hv hd;exact .err0
  | i+2=>simp at hv
 have hdead:∀ b,H nid≠some b:=fun b hb=>hn (hH.rep nid b hb).1
 have hfin:∀ H',(∀ j,j≠id→j≠nid→∀ b,H' j=some b→H j=some b∧∀ k,blockOf (C.σ j)=some k→v.ownBlock≠some k)→H' nid=some (.vec 5 1 ((l++toI s).map (D.int .u8)) false)→H' id=some (.bbox 181 [.sp id,.own nid (l.length+s.length)]) →
   RepL (cF C.F) w vals ((l.map (D.int .u8)).flatMap D.cells)→HOK (C.new nid (.slice A' (l.length+s.length) c')) w' B H':=by
  intro H' hold hnew hnb q3
  have bσ:∀ j b,j≠id→j≠nid→H' j=some b→(C.new nid (.slice A' (l.length+s.length) c')).σ j=C.σ j:=fun j b h1 h2 h3=>ee.σ j (hH.rep j b (hold j h1 h2 b h3).1).1
  have bnid:∀ k,blockOf (Value.slice A' (l.length+s.length) c')=some k→w.heap.size≤k∨v.ownBlock=some k:=by
   intro k hk
   rw[blockOf_own] at hk
   rcases e4 with h|h
   ·exact .inl (h k hk)
   ·exact .inr (h ▸ hk)
  have apn:∀ j b,j≠id→j≠nid→H' j=some b→∀ k,blockOf (C.σ j)=some k→blockOf (Value.slice A' (l.length+s.length) c')≠some k:=by
   intro j b h1 h2 h3 k hk hk2
   obtain⟨h4,h5⟩:=hold j h1 h2 b h3
   rcases bnid k hk2 with h|h
   ·have:=((hH.rep j b h4).2.lt k hk).2;omega
   ·exact h5 k hk h
  have apb:∀ j b,j≠id→j≠nid→H' j=some b→∀ k,blockOf (C.σ j)=some k→k≠g:=by
   intro j b h1 h2 h3 k hk e
   exact hH.apart j id b _ (hold j h1 h2 b h3).1 hid h1 k hk (by rw[hσ,e];rfl)
  have apnb:∀ k,blockOf (Value.slice A' (l.length+s.length) c')=some k→k≠g:=by
   intro k hk e
   rcases bnid k hk with h|h
   ·omega
   ·exact hvne (e ▸ h)
  refine⟨fun j b hj=>?_,fun j b hj k hk=>?_,fun j k cs hj=>?_,fun j j' b b' hj hj' hjj k hk hk'=>?_⟩
  ·by_cases h1:j=id
   ·subst h1;rw[hnb] at hj;injection hj with hj;subst hj;exact⟨.inl hlid,hbox⟩
   ·by_cases h2:j=nid
    ·subst h2;rw[hnew] at hj;injection hj with hj;subst hj;exact⟨.inr rfl,hvec q3⟩
    ·obtain⟨h3,h4⟩:=hold j h1 h2 b hj
     exact hrest j b h1 h4 h3
  ·by_cases h1:j=id
   ·subst h1;rw[hσ'] at hk;simp[blockOf] at hk;subst hk;exact hgM
   ·by_cases h2:j=nid
    ·subst h2
     rw[hs2] at hk
     rcases bnid k hk with h|h
     ·exact hbase k h
     ·exact hvM k h
    ·rw[bσ j b h1 h2 hj] at hk
     exact hH.own j b (hold j h1 h2 b hj).1 k hk
  ·by_cases h1:j=id
   ·subst h1;rw[hnb] at hj;cases hj
   ·by_cases h2:j=nid
    ·subst h2;rw[hnew] at hj;cases hj
    ·rw[bσ j _ h1 h2 hj];exact hH.pin j k cs (hold j h1 h2 _ hj).1
  ·by_cases h1:j=id
   ·subst h1
    rw[hσ'] at hk;simp[blockOf] at hk;subst hk
    by_cases h2:j'=nid
    ·subst h2;rw[hs2] at hk';exact apnb _ hk' rfl
    ·rw[bσ j' b' (fun e=>hjj e.symm) h2 hj'] at hk'
     exact apb j' b' (fun e=>hjj e.symm) h2 hj' _ hk' rfl
   ·by_cases h2:j=nid
    ·subst h2
     rw[hs2] at hk
     by_cases h3:j'=id
     ·subst h3;rw[hσ'] at hk';simp[blockOf] at hk';subst hk';exact apnb _ hk rfl
     ·rw[bσ j' b' h3 (fun e=>hjj e.symm) hj'] at hk'
      exact apn j' b' h3 (fun e=>hjj e.symm) hj' k hk' hk
    ·rw[bσ j b h1 h2 hj] at hk
     by_cases h3:j'=id
     ·subst h3;rw[hσ'] at hk';simp[blockOf] at hk';subst hk';exact apb j b h1 h2 hj _ hk rfl
     ·by_cases h4:j'=nid
      ·subst h4;rw[hs2] at hk';exact apn j b h1 h2 hj k hk hk'
      ·rw[bσ j' b' h3 h4 hj'] at hk'
       exact hH.apart j j' b b' (hold j h1 h2 b hj).1 (hold j' h3 h4 b' hj').1 hjj k hk hk'
 refine⟨_,C.new nid (.slice A' (l.length+s.length) c'),rfl,hbel,ee,hrepr,?_,fun b o h=>Nat.lt_of_lt_of_le (hF b o h) e5.size,fun _ h=>h,fun _ _ h=>.inl h⟩
 rcases hd with⟨rfl,rfl,rfl⟩|⟨id2,rfl,h2,h3,rfl⟩
 ·cases hv
  have hvn:vals=[]:=List.eq_nil_of_length_eq_zero hvals
  refine hfin _ (fun j h1 h2 b hb=>?_) (by simp[appEff,upd,hne]) (by simp[appEff,upd]) (by rw[hvn];exact RepL.nil)
  simp[appEff,upd,h1,h2] at hb
  exact⟨hb,by simp[Value.ownBlock]⟩
 ·cases hv with
  | own _ _ c A hl2 hm2 hσ2 =>
   obtain⟨_,vals2,q1,q2,q3,q4⟩:=hH.rep id2 _ h2
   rw[hσ2] at q1
   have hn2:nid≠id2:=fun e=>hdead _ (e ▸ h2)
   have hvv:vals2=vals:=by
    rcases q1.2 with⟨r1,r2⟩|⟨g1,cap1,cur1,r1,r2,r3,r4,r5,r6,r7⟩
    ·have r2':l.length=0:=by simpa using r2
     rw[List.eq_nil_of_length_eq_zero (l:=vals) (by omega),List.eq_nil_of_length_eq_zero (l:=vals2) (by have:=q1.1;simp at this;omega)]
    ·rcases hown.2 with⟨t1,t2⟩|⟨g2,cap2,cur2,t1,t2,t3,t4,t5,t6,t7⟩
     ·rw[t1] at r1;cases r1
     ·rw[r1] at t1;injection t1 with t1 _ _;injection t1 with t1;injection t1 with t1
      subst t1
      rw[r3] at t3;injection t3 with t3;injection t3 with t3
      subst t3
      rw[← r7,← t7];simp[hvals]
   refine hfin _ (fun j h1 h2' b hb=>?_) (by simp[appEff,upd,hne]) (by simp[appEff,upd]) (by rw[← hvv];exact q3)
   by_cases hj2:j=id2
   ·subst hj2;simp[appEff,upd,h1,h2'] at hb
   ·simp[appEff,upd,h1,h2',hj2] at hb
    exact⟨hb,fun k hk hk2=>hH.apart j id2 _ _ hb h2 hj2 k hk (by rw[hσ2,blockOf_own];exact hk2)⟩
theorem c_WriteString0(I:World→Prop){id nid:Nat}{s:List UInt8}{H:Nat→Option Blk}(hid:H id=some (.bbox 181 [.sp id,.nils]))(hlen:s.length≤140737488355328)(hne:nid≠id) :
  CallOK Tryz.prog I 76 [.ptr id 0,.str s] H nid (.tup [.int .i64 s.length,.err false]) [(nid,some (.vec 5 1 ((toI s).map (D.int .u8)) false)),(id,some (.bbox 181 [.sp id,.own nid (toI s).length]))] :=
 wrote I id nid s [] H .nils _ hid (by simpa using hlen) hne (.inl ⟨rfl,rfl,by simp[toI_length]⟩)
theorem c_WriteString1(I:World→Prop){id nid id2 n:Nat}{s:List UInt8}{l:List Int}{H:Nat→Option Blk}(hid:H id=some (.bbox 181 [.sp id,.own id2 n]))(h2:H id2=some (.vec 5 1 (l.map (D.int .u8)) false))(hn:n=l.length)(hlen:l.length+s.length≤140737488355328)(hne:nid≠id) :
  CallOK Tryz.prog I 76 [.ptr id 0,.str s] H nid (.tup [.int .i64 s.length,.err false]) [(id2,none),(nid,some (.vec 5 1 ((l++toI s).map (D.int .u8)) false)),(id,some (.bbox 181 [.sp id,.own nid (l++toI s).length]))]:=by
 subst hn
 exact wrote I id nid s l H _ _ hid hlen hne (.inr ⟨id2,rfl,h2,fun e=>(by rw[e,hid] at h2;cases h2),by simp[toI_length]⟩)
set_option maxHeartbeats 2000000 in
theorem bldString_row(b g cap:Nat)(p:Value)(cur:Array Value)(l:List UInt8)(w:World)(h0:l≠[])(hbk:w.heap[b]? = some (.cells #[p,.slice (some ⟨g,0,none⟩) l.length cap] 181 (0,0)))
  (hown:w.ownsRow 0 5 1 (.slice (some ⟨g,0,none⟩) l.length cap) l.length (Lib.byteCells l)) :
  Calls Tryz.prog 77 #[.pointer (some ⟨b,0,none⟩)] w fun e w'=>e=.returned (.string ⟨l.toArray⟩)∧BelM (fun k=>w.heap.size≤k∨k=g) w w':=by
 have hl0:l.length≠0:=by simpa using h0
 obtain⟨cur,hg,hnc,hcm,hcs⟩:∃ cur,w.heap[g]? = some (.cells cur 5 (0,0))∧l.length≤cap∧cap≤maxLen∧cur.size=cap * 1:=by
  rcases hown.2 with⟨_,hz⟩|⟨g',cap',cur,hv,_,h1,h2,h3,h4,_⟩
  ·exact absurd hz hl0
  ·injection hv with hv1 _ hv2;injection hv1 with hv1;injection hv1 with hv1
   subst hv1 hv2;exact⟨cur,h1,h2,h3,h4⟩
 have c1:w.drew.cell? ⟨b,1,none⟩=some (.slice (some ⟨g,0,none⟩) l.length cap):=by
  have:w.drew.heap[b]? = some (.cells #[p,.slice (some ⟨g,0,none⟩) l.length cap] 181 (0,0)):=hbk
  rw[Lib.cell_of_heap this];rfl
 have hSD:(Builtin.unsafeSliceData_ #[179] 268 #[.slice (some ⟨g,0,none⟩) l.length cap]).run Tryz.prog w.drew=.ok (.pointer (some ⟨g,0,none⟩)) w.drew :=
  Lib.run_unsafeSliceData_row _ _ _ _ _ _ (by omega)
 have hUS:(Builtin.unsafeString_ #[268,3] 9 #[.pointer (some ⟨g,0,none⟩),.int .i64 l.length]).run Tryz.prog w.drew=.ok (.string ⟨l.toArray⟩) (w.drew.freeze ⟨g,0,none⟩ l.length):=by
  refine Lib.run_unsafeString_row w.drew 268 3 9 5 Tryz.underlying268 (by kernel_rfl) g cur.size (by have hg':w.drew.heap[g]? = some (.cells cur 5 (0,0)):=hg;simp[World.shape?,hg']) l h0 (by omega) (by unfold maxLen at hcm;omega) ?_
  intro j x hx
  exact hown.cells (g:=g) rfl j (.int .u8 x.toNat) (by simp[Lib.byteCells,hx])
 have mixed:Tryz.prog.follows .mixedOrders=true:=by kernel_rfl
 have hbf:=Lib.below_freeze (Below.drew (Below.refl g w)) (p:=⟨g,0,none⟩) (Nat.le_refl _) l.length
 have hoth:∀ k,k≠g→(w.drew.freeze ⟨g,0,none⟩ l.length).heap[k]? = w.heap[k]?:=by
  intro k hk
  simp only[World.freeze,hl0,if_false]
  rw[Array.getElem?_modify]
  simp only[Ne.symm hk,if_false]
  rfl
 have HB:=Lib.hid (And.intro hbf hoth)
 clear hbf hoth
 go_enter Tryz.func77,Tryz.ntmps77
 go_wp2
 go_region_o
 all_goals (go_wp2;go_ret;exact⟨rfl,HB.out.1.os,HB.out.1.tape,HB.out.1.output,HB.out.1.size,fun k _ hm=>HB.out.2 k (fun e=>hm (.inr e))⟩)
theorem callString{P:Program}{C:Cx}{w w':World}{B:Bx}{H:Nat→Option Blk}{nid:Nat}{l:List UInt8}(hH:HOK C w B H)(hF:FB C w)(hb:Below w.heap.size w w')(hl:l.length≤maxLen) :
  ∃ v C',Ending.returned (.string ⟨l.toArray⟩)=.returned v∧BelM B.M w w'∧Ext C w C' w'∧Rep w' C' v (.str l)∧HOK C' w' B (appEff H [])∧FB C' w'∧(∀ id,C'.live id→C.live id∨id=nid)∧∀ b o,C'.F b o→C.F b o∨B.M b:=by
 have ee:Ext C w C w':=⟨fun _ _ h=>h,fun b o h=>hb.block b (hF b o h),fun _ h=>h,fun _ _=>rfl⟩
 refine⟨_,C,rfl,BelM.of hb,ee,.str l hl,⟨fun id b h=>?_,hH.own,hH.pin,hH.apart⟩,fun b o h=>Nat.lt_of_lt_of_le (hF b o h) hb.size,fun _ h=>.inl h,fun _ _ h=>.inl h⟩
 obtain⟨k1,k2⟩:=hH.rep id b h
 exact⟨k1,k2.keep k1 ee (fun g hg=>hb.block g (k2.lt g hg).2) (fun _ _ _ h=>h)⟩
theorem c_String0(I:World→Prop){id nid:Nat}{H:Nat→Option Blk}(hid:H id=some (.bbox 181 [.sp id,.nils])):CallOK Tryz.prog I 77 [.ptr id 0] H nid (.str []) []:=by
 refine⟨by kernel_rfl,fun i0 w C B args hI hb0 hM hH hF hbase hn hal hrep=>?_⟩
 obtain⟨a0,rfl⟩:∃ a0,args=[a0]:=by
  match args,hal with
  | [a],_=>exact⟨a,rfl⟩
 have r0:=hrep 0 a0 _ rfl rfl
 cases r0 with
 | ptr _ _ g hlid hσ =>
 obtain⟨k0,k1⟩:=hH.rep id _ hid
 obtain⟨v,⟨p,hp,hB⟩,hv,hnoF⟩:=bld_block hσ k1
 cases hv
 have hglt:g < w.heap.size:=(Array.getElem?_eq_some_iff.1 hB).1
 refine(Any.Builder_String_nil Tryz.lays169 Tryz.Builder_Extra_169 w.heap.size g p w hB).mono ?_
 rintro e w' ⟨rfl,hb⟩
 exact callString (P:=Tryz.prog) (l:=[]) hH hF hb (by simp)
theorem byteCells_toI{w:World}{C:Cx}{vals:List Value}{l:List Int}(h:RepL C w vals ((l.map (D.int .u8)).flatMap D.cells)):vals=Lib.byteCells (bytesOf l):=by
 rw[flatU8] at h
 have e:=repU8 h
 rw[e]
 simp only[Lib.byteCells,bytesOf,List.map_map]
 apply List.map_congr_left
 intro n hn
 obtain⟨i,hi⟩:=List.getElem?_of_mem hn
 have hv:vals[i]? = some (.int .u8 n):=by rw[e];simp[hi]
 have:=h.rep i _ (.int .u8 n) hv (by simp[hi])
 cases this with
 | int _ _ hr =>
  unfold inR at hr;simp only[kLo,kHi] at hr
  simp only[Function.comp,UInt8.toNat_ofNat']
  congr 1;omega
theorem c_String1(I:World→Prop){id nid id2 n:Nat}{l:List Int}{H:Nat→Option Blk}(hid:H id=some (.bbox 181 [.sp id,.own id2 n]))(h2:H id2=some (.vec 5 1 (l.map (D.int .u8)) false))(hn:n=l.length) :
  CallOK Tryz.prog I 77 [.ptr id 0] H nid (.str (bytesOf l)) [(id2,none),(id,none)]:=by
 subst hn
 refine⟨by kernel_rfl,fun i0 w C B args hI hb0 hM hH hF hbase hn hal hrep=>?_⟩
 obtain⟨a0,rfl⟩:∃ a0,args=[a0]:=by
  match args,hal with
  | [a],_=>exact⟨a,rfl⟩
 have r0:=hrep 0 a0 _ rfl rfl
 cases r0 with
 | ptr _ _ g hlid hσ =>
 obtain⟨k0,k1⟩:=hH.rep id _ hid
 obtain⟨v,⟨p,hp,hB⟩,hv,hnoF⟩:=bld_block hσ k1
 have hdrop:HOK C w B (appEff H [(id2,none),(id,none)]):=(hH.drop id2).drop id
 have plain:∀ w',Below w.heap.size w w'→bytesOf l=[]→∃ v C',Ending.returned (.string ⟨#[]⟩)=.returned v∧BelM B.M w w'∧Ext C w C' w'∧Rep w' C' v (.str (bytesOf l))∧HOK C' w' B (appEff H [(id2,none),(id,none)])∧FB C' w'∧(∀ id,C'.live id→C.live id∨id=nid)∧∀ b o,C'.F b o→C.F b o∨B.M b:=by
  intro w' hb he
  rw[he]
  obtain⟨v,C',x⟩:=callString (P:=Tryz.prog) (l:=[]) (nid:=nid) hdrop hF hb (by simp)
  exact⟨v,C',x⟩
 cases hv with
 | own _ _ c A hl2 hm2 hσ2 =>
  obtain⟨_,vals,q1,q2,q3,q4⟩:=hH.rep id2 _ h2
  rw[hσ2] at q1
  have hvals:=byteCells_toI q3
  have hbl:(bytesOf l).length=l.length:=by simp[bytesOf]
  rcases q1.2 with⟨r1,r2⟩|⟨g1,cap1,cur1,r1,r2,r3,r4,r5,r6,r7⟩
  ·injection r1 with r1 _ r3
   subst r1 r3
   have hl0:l.length=0:=by simpa using r2
   rw[hl0] at hB
   refine(Any.Builder_String_nil Tryz.lays169 Tryz.Builder_Extra_169 w.heap.size g p w hB).mono ?_
   rintro e w' ⟨rfl,hb⟩
   exact plain w' hb (List.eq_nil_of_length_eq_zero (by omega))
  ·injection r1 with r1 _ r8
   subst r1 r8
   by_cases hl0:l.length=0
   ·rw[hl0] at hB
    by_cases hc0:c=0
    ·subst hc0
     refine(Any.Builder_String_noroom Tryz.lays169 Tryz.Builder_Extra_169 w.heap.size g g1 p cur1 w (Nat.le_refl _) hB r3).mono ?_
     rintro e w' ⟨rfl,hb⟩
     exact plain w' hb (List.eq_nil_of_length_eq_zero (by omega))
    ·refine(Any.Builder_String_room Tryz.lays169 Tryz.Builder_Extra_169 w.heap.size g g1 c p w hc0 hB).mono ?_
     rintro e w' ⟨rfl,hb⟩
     exact plain w' hb (List.eq_nil_of_length_eq_zero (by omega))
   ·have hb1:w.heap[g]? = some (.cells #[p,.slice (some ⟨g1,0,none⟩) (bytesOf l).length c] 181 (0,0)):=by rw[hbl];exact hB
    have ho1:w.ownsRow 0 5 1 (.slice (some ⟨g1,0,none⟩) (bytesOf l).length c) (bytesOf l).length (Lib.byteCells (bytesOf l)):=by rw[hbl,← hvals];simpa using q1
    refine(bldString_row g g1 c p cur1 (bytesOf l) w (fun e=>hl0 (by rw[← hbl,e];rfl)) hb1 ho1).mono ?_
    rintro e w' ⟨rfl,hb⟩
    have hg1M:B.M g1:=hH.own id2 _ h2 g1 (by rw[hσ2];rfl)
    have hnoF1:∀ o,¬ C.F g1 o:=fun o ho=>by have:=((q4 g1 (by rw[hσ2];rfl)).1 o ho).1;cases this
    have hsame:∀ k,k < w.heap.size→k≠g1→w'.heap[k]? = w.heap[k]?:=fun k hk h1=>hb.block k hk (by rintro(h|h);omega;exact h1 h)
    have ee:Ext C w C w':=⟨fun _ _ h=>h,fun b o h=>hsame b (hF b o h) (fun e=>hnoF1 o (e ▸ h)),fun _ h=>h,fun _ _=>rfl⟩
    have hbm:BelM B.M w w':=⟨hb.os,hb.tape,hb.output,hb.size,fun k hk hm=>hsame k hk (fun e=>hm (e ▸ hg1M))⟩
    refine⟨_,C,rfl,hbm,ee,.str _ (by rw[hbl];exact hm2),⟨fun j b h=>?_,hdrop.own,hdrop.pin,hdrop.apart⟩,fun b o h=>Nat.lt_of_lt_of_le (hF b o h) hb.size,fun _ h=>.inl h,fun _ _ h=>.inl h⟩
    by_cases h3:j=id
    ·subst h3;simp[appEff,upd] at h
    ·by_cases h4:j=id2
     ·subst h4;simp[appEff,upd,h3] at h
     ·have h5:H j=some b:=by simpa[appEff,upd,h3,h4] using h
      obtain⟨t1,t2⟩:=hH.rep j b h5
      exact⟨t1,t2.keep t1 ee (fun k hk=>hsame k (t2.lt k hk).2 (fun e=>hH.apart j id2 _ _ h5 h2 h4 k hk (by rw[hσ2,e];rfl))) (fun _ _ _ h=>h)⟩
set_option maxHeartbeats 10000000
structure T_api_Region where
 Name:List UInt8
 Top:Int
 Height:Int
 Left:Int
 Width:Int
 Align:Int
 Bottom:Bool
 deriving DecidableEq
def T_api_Region.d(x:T_api_Region):D:=.agg [.str x.Name,.int .i64 x.Top,.int .i64 x.Height,.int .i64 x.Left,.int .i64 x.Width,.int .u8 x.Align,.bool x.Bottom]
structure T_api_Comment where
 ID:Int
 Event:Int
 From:Int
 To:Int
 Author:List UInt8
 Text:List UInt8
 Done:Bool
 Lost:Bool
 deriving DecidableEq
def T_api_Comment.d(x:T_api_Comment):D:=.agg [.int .i64 x.ID,.int .i64 x.Event,.int .i64 x.From,.int .i64 x.To,.str x.Author,.str x.Text,.bool x.Done,.bool x.Lost]
structure T_api_Span where
 In:Int
 Out:Int
 deriving DecidableEq
def T_api_Span.d(x:T_api_Span):D:=.agg [.int .i64 x.In,.int .i64 x.Out]
structure T_api_Style where
 Color:Int
 Italic:Bool
 Underline:Bool
 deriving DecidableEq
def T_api_Style.d(x:T_api_Style):D:=.agg [.int .u8 x.Color,.bool x.Italic,.bool x.Underline]
structure T_api_Run where
 Text:List UInt8
 Style:T_api_Style
 Ruby:List UInt8
 deriving DecidableEq
def T_api_Run.d(x:T_api_Run):D:=.agg [.str x.Text,.int .u8 x.Style.Color,.bool x.Style.Italic,.bool x.Style.Underline,.str x.Ruby]
structure T_api_Row where
 Runs:List T_api_Run
 deriving DecidableEq
def T_api_Row.d(x:T_api_Row):D:=.agg [.sl (x.Runs.map T_api_Run.d)]
structure T_api_Event where
 ID:Int
 Span:T_api_Span
 Region:List UInt8
 Kind:Int
 Speaker:List UInt8
 Rows:List T_api_Row
 deriving DecidableEq
def T_api_Event.d(x:T_api_Event):D:=.agg [.int .i64 x.ID,.int .i64 x.Span.In,.int .i64 x.Span.Out,.str x.Region,.int .u8 x.Kind,.str x.Speaker,.sl (x.Rows.map T_api_Row.d)]
structure T_api_Bound where
 I:Int
 J:Int
 C:Int
 Rule:Int
 ID:Int
 Other:Int
 deriving DecidableEq
def T_api_Bound.d(x:T_api_Bound):D:=.agg [.int .i64 x.I,.int .i64 x.J,.int .i64 x.C,.int .u8 x.Rule,.int .i64 x.ID,.int .i64 x.Other]
structure T_timebase_rate where
 name_:List UInt8
 ticks_:Int
 nominal_:Int
 drop_:Bool
 deriving DecidableEq
def T_timebase_rate.d(x:T_timebase_rate):D:=.agg [.str x.name_,.int .i64 x.ticks_,.int .i64 x.nominal_,.bool x.drop_]
structure T_api_Document where
 Title:List UInt8
 Lang:List UInt8
 Rate:Int
 Drop:Bool
 Last:Int
 Regions:List T_api_Region
 Events:List T_api_Event
 Comments:List T_api_Comment
 deriving DecidableEq
def T_api_Document.d(x:T_api_Document):D:=.agg [.str x.Title,.str x.Lang,.int .u8 x.Rate,.bool x.Drop,.int .i64 x.Last,.sl (x.Regions.map T_api_Region.d),.sl (x.Events.map T_api_Event.d),.sl (x.Comments.map T_api_Comment.d)]
structure T_api_Spot where
 Row:Int
 Col:Int
 Len:Int
 deriving DecidableEq
def T_api_Spot.d(x:T_api_Spot):D:=.agg [.int .i64 x.Row,.int .i64 x.Col,.int .i64 x.Len]
theorem dd_EA:(∀ x,T_api_Region.d x=.agg [.str x.Name,.int .i64 x.Top,.int .i64 x.Height,.int .i64 x.Left,.int .i64 x.Width,.int .u8 x.Align,.bool x.Bottom])∧(∀ x,T_api_Comment.d x=.agg [.int .i64 x.ID,.int .i64 x.Event,.int .i64 x.From,.int .i64 x.To,.str x.Author,.str x.Text,.bool x.Done,.bool x.Lost])∧(∀ x,T_api_Span.d x=.agg [.int .i64 x.In,.int .i64 x.Out])∧(∀ x,T_api_Style.d x=.agg [.int .u8 x.Color,.bool x.Italic,.bool x.Underline])∧(∀ x,T_api_Run.d x=.agg [.str x.Text,.int .u8 x.Style.Color,.bool x.Style.Italic,.bool x.Style.Underline,.str x.Ruby])∧(∀ x,T_api_Row.d x=.agg [.sl (x.Runs.map T_api_Run.d)])∧(∀ x,T_api_Event.d x=.agg [.int .i64 x.ID,.int .i64 x.Span.In,.int .i64 x.Span.Out,.str x.Region,.int .u8 x.Kind,.str x.Speaker,.sl (x.Rows.map T_api_Row.d)])∧(∀ x,T_api_Bound.d x=.agg [.int .i64 x.I,.int .i64 x.J,.int .i64 x.C,.int .u8 x.Rule,.int .i64 x.ID,.int .i64 x.Other])∧(∀ x,T_timebase_rate.d x=.agg [.str x.name_,.int .i64 x.ticks_,.int .i64 x.nominal_,.bool x.drop_])∧(∀ x,T_api_Document.d x=.agg [.str x.Title,.str x.Lang,.int .u8 x.Rate,.bool x.Drop,.int .i64 x.Last,.sl (x.Regions.map T_api_Region.d),.sl (x.Events.map T_api_Event.d),.sl (x.Comments.map T_api_Comment.d)])∧(∀ x,T_api_Spot.d x=.agg [.int .i64 x.Row,.int .i64 x.Col,.int .i64 x.Len]):=⟨fun _=>rfl,fun _=>rfl,fun _=>rfl,fun _=>rfl,fun _=>rfl,fun _=>rfl,fun _=>rfl,fun _=>rfl,fun _=>rfl,fun _=>rfl,fun _=>rfl⟩
def g_charset_place_s1(s_0:List UInt8)(r_1:Int)(x7:Int × Nat):Option (Nx (Int × Nat) (Int ⊕ Unit)) :=
 (if(decide (x7.2 < s_0.length)) then(if((runeAt s_0 x7.2) == r_1) then(some (.out (.inl x7.1))) else(some (.go ((IntKind.i64.wrap (x7.1+1)),(x7.2+widthAt s_0 x7.2))))) else(some (.out (.inr ()))))
def g_charset_place(s_0:List UInt8)(r_1:Int):Option (Int) :=
 ((iter (g_charset_place_s1 s_0 r_1) (0,0)).bind fun e8=>(match e8 with|Sum.inl e8=>(some e8)|Sum.inr (e8)=>(some (-1))))
theorem a_charset_place{I:World→Prop}(hI:Stab I){s_0:List UInt8}{r_1:Int}{r:Int}(h:g_charset_place s_0 r_1=some r):AFun Tryz.prog I 293 [.str s_0,.int .i32 r_1] (.int .i64 r):=by
 have dd:=dd_EA;have k:=True.intro;have q:=k;have rs:=Tryz.results293;unfold g_charset_place at h;refine .en hI Tryz.func293 Tryz.ntmps293 ?_;refine xs<|rz ?_;refine es<|xs<|rz ?_;refine es<|xs<|xs<|rz ?_;refine es<|xb ?_;obtain⟨e8,h0,h⟩:=bs h;refine rb_loop (fun x7=>⟨envL [(1,.int .i32 r_1),(5,.int .i64 x7.1),(9,.ptr 0 0)],heapL [(0,.iter s_0 x7.2)],1,19⟩) (fun w=>match w with|Sum.inl _=>.ret|Sum.inr (_)=>.exit 0) (fun w=>match w with|Sum.inl e8=>⟨envL [(4,.int .i64 e8)],heapL [],0,19⟩|Sum.inr (e8)=>⟨envL [],heapL [],0,19⟩) h0 (wk [(0,some 3)]) (by intro w;rcases w with w|w<;>simp) ?_ ?_
 ·clear h;intro x7 y h;unfold g_charset_place_s1 at h;refine xs<|rK fun K _ E J=>zz ?_;obtain⟨k,h⟩|⟨k,h⟩:=iK k h
  ·have k:=And.intro (of_decide_eq_true k.1) k.2;refine zz ?_;subst E J;refine es<|xs<|xt<|xk<|es<|xb<|xs<|rz ?_;refine es<|xs<|xs<|rz ?_;refine es ?_;obtain⟨k,h⟩|⟨k,h⟩:=iK k h
   ·refine xt<|xs<|rz ?_;refine es<|xr<|er<|br ?_;cases h;exact en ⟨rfl,wk []⟩
   refine xf<|xk<|es<|rz ?_;refine bn ?_;cases h;exact en ⟨rfl,wk []⟩
  have k:=And.intro (of_decide_eq_false k.1) k.2;refine zz ?_;subst E J;refine es<|xs<|xf<|xx<|ee ?_;cases h;exact en ⟨rfl,wk []⟩
 rcases e8 with e8|e8
 ·try dsimp only at h ⊢
  refine br<|er ?_;cases h;exact en fr
 try dsimp only at h ⊢
 refine bh<|es<|xs<|rz ?_;refine es<|xr ?_;cases h;exact en fr
def g_charset_Index(r_0:Int):Option (Int) :=
 (((if(decide (32≤r_0)) then(some (decide (r_0≤126))) else(some false)):Option (Bool)).bind fun v5=>(if v5 then(some (IntKind.i64.wrap (IntKind.i32.wrap (r_0 - 32)))) else((g_charset_place [32,33,34,35,36,37,38,39,40,41,42,43,44,45,46,47,48,49,50,51,52,53,54,55,56,57,58,59,60,61,62,63,64,65,66,67,68,69,70,71,72,73,74,75,76,77,78,79,80,81,82,83,84,85,86,87,88,89,90,91,92,93,94,95,96,97,98,99,100,101,102,103,104,105,106,107,108,109,110,111,112,113,114,115,116,117,118,119,120,121,122,123,124,125,126,194,161,194,162,194,163,194,164,194,165,194,166,194,167,194,169,194,171,194,174,194,176,194,183,194,187,194,189,194,191,195,128,195,129,195,130,195,131,195,132,195,133,195,134,195,135,195,136,195,137,195,138,195,139,195,140,195,141,195,142,195,143,195,145,195,146,195,147,195,148,195,149,195,150,195,152,195,153,195,154,195,155,195,156,195,159,195,160,195,161,195,162,195,163,195,164,195,165,195,166,195,167,195,168,195,169,195,170,195,171,195,172,195,173,195,174,195,175,195,177,195,178,195,179,195,180,195,181,195,182,195,184,195,185,195,186,195,187,195,188,197,146,197,147,226,128,148,226,128,152,226,128,153,226,128,156,226,128,157,226,128,162,226,128,166,226,132,162,226,153,170] r_0).bind fun r0=>(some r0))))
theorem a_charset_Index{I:World→Prop}(hI:Stab I){r_0:Int}{r:Int}(h:g_charset_Index r_0=some r):AFun Tryz.prog I 233 [.int .i32 r_0] (.int .i64 r):=by
 have dd:=dd_EA;have k:=True.intro;have q:=k;have rs:=Tryz.results233;unfold g_charset_Index at h;refine .en hI Tryz.func233 Tryz.ntmps233 ?_;refine xs<|rz ?_;refine es<|xs ?_;obtain⟨v5,h8,h⟩:=bs h;refine rb_cut (fun v5=>⟨envL [(0,.int .i32 r_0),(8,.bool v5)],heapL [],0,14⟩) h8 ?_ ?_
 ·clear h;intro v5 h;refine rK fun K _ E J=>zz ?_;obtain⟨k,h⟩|⟨k,h⟩:=iK k h
  ·refine zz ?_;subst E J;cases h;exact en ⟨rfl,wk []⟩
  refine zz ?_;subst E J;cases h;exact en ⟨rfl,wk []⟩
 obtain⟨k,h⟩|⟨k,h⟩:=iK k h
 ·refine xt<|xs<|rz ?_;refine es<|xr<|er ?_;cases h;exact en fr
 refine xf<|xk<|es<|xs<|rK fun K _ E J=>zz ?_;obtain⟨r0,h0,h⟩:=bs h;refine cw (a_charset_place hI h0)<|zz ?_;subst E J;refine es<|xr ?_;cases h;exact en fr
def g_charset_Valid_s1(s_0:List UInt8)(x0:Nat):Option (Nx (Nat) (Unit ⊕ Unit)) :=
 (if(decide (x0 < s_0.length)) then((g_charset_Index (runeAt s_0 x0)).bind fun r0=>(if(decide (r0 < 0)) then(some (.out (.inl ()))) else(some (.go (x0+widthAt s_0 x0))))) else(some (.out (.inr ()))))
def g_charset_Valid(s_0:List UInt8):Option (Bool) :=
 ((g_unicode_utf8_ValidString s_0).bind fun r7=>(if r7 then((iter (g_charset_Valid_s1 s_0) 0).bind fun e0=>(match e0 with|Sum.inl e0=>(some false)|Sum.inr (e0)=>(some true))) else(some false)))
theorem a_charset_Valid{I:World→Prop}(hI:Stab I)(hU8T:∀ w,I w→U8T w){s_0:List UInt8}{r:Bool}(h:g_charset_Valid s_0=some r):AFun Tryz.prog I 170 [.str s_0] (.bool r):=by
 have dd:=dd_EA;have k:=True.intro;have q:=k;have rs:=Tryz.results170;unfold g_charset_Valid at h;refine .en hI Tryz.func170 Tryz.ntmps170 ?_;refine xs<|rz ?_;refine es<|xs<|xs<|rK fun K _ E J=>zz ?_;obtain⟨r7,h8,h⟩:=bs h;refine cw (a_unicode_utf8_ValidString I hI hU8T s_0 h8)<|zz ?_;subst E J;refine es ?_;obtain⟨k,h⟩|⟨k,h⟩:=iK k h
 ·refine xf<|xk<|es<|xs<|xs<|rz ?_;refine es<|xb ?_;obtain⟨e0,h0,h⟩:=bs h;refine rb_loop (fun x0=>⟨envL [(9,.ptr 0 0)],heapL [(0,.iter s_0 x0)],1,16⟩) (fun w=>match w with|Sum.inl _=>.ret|Sum.inr (_)=>.exit 0) (fun w=>match w with|Sum.inl e0=>⟨envL [(2,.bool false)],heapL [],0,16⟩|Sum.inr (e0)=>⟨envL [],heapL [],0,16⟩) h0 (wk [(0,some 5)]) (by intro w;rcases w with w|w<;>simp) ?_ ?_
  ·clear h;intro x0 y h;unfold g_charset_Valid_s1 at h;refine xs<|rK fun K _ E J=>zz ?_;obtain⟨k,h⟩|⟨k,h⟩:=iK k h
   ·have k:=And.intro (of_decide_eq_true k.1) k.2;refine zz ?_;subst E J;refine es<|xs<|xt<|xk<|es<|xb<|xs<|rz ?_;refine es<|xs<|rK fun K _ E J=>zz ?_;obtain⟨r0,h1,h⟩:=bs h;refine cw (a_charset_Index hI h1)<|zz ?_;subst E J;refine es ?_;obtain⟨k,h⟩|⟨k,h⟩:=iK k h
    ·refine xt<|xs<|rz ?_;refine es<|xr<|br ?_;cases h;exact en ⟨rfl,wk []⟩
    refine xf<|xk<|bn ?_;cases h;exact en ⟨rfl,wk []⟩
   have k:=And.intro (of_decide_eq_false k.1) k.2;refine zz ?_;subst E J;refine es<|xs<|xf<|xx<|ee ?_;cases h;exact en ⟨rfl,wk []⟩
  rcases e0 with e0|e0
  ·try dsimp only at h ⊢
   refine br<|er ?_;cases h;exact en fr
  try dsimp only at h ⊢
  refine bh<|es<|xs<|rz ?_;refine es<|xr ?_;cases h;exact en fr
 refine xt<|xs<|rz ?_;refine es<|xr<|er ?_;cases h;exact en fr
def g_lines_Name_s1(s_0:List UInt8)(x0:Int):Option (Nx (Int) (Unit ⊕ Unit)) :=
 (if(decide (x0 < (s_0.length:Int))) then((atI s_0 x0).bind fun b0=>(((if(decide ((b0.toNat:Int) < 65)) then(if(decide ((b0.toNat:Int) < 48)) then(if((b0.toNat:Int) != 95) then(some ((b0.toNat:Int) != 45)) else(some false)) else(if(decide (57 < (b0.toNat:Int))) then(if((b0.toNat:Int) != 95) then(some ((b0.toNat:Int) != 45)) else(some false)) else(some false))) else(if(decide (90 < (b0.toNat:Int))) then(if(decide ((b0.toNat:Int) < 48)) then(if((b0.toNat:Int) != 95) then(some ((b0.toNat:Int) != 45)) else(some false)) else(if(decide (57 < (b0.toNat:Int))) then(if((b0.toNat:Int) != 95) then(some ((b0.toNat:Int) != 45)) else(some false)) else(some false))) else(some false))):Option (Bool)).bind fun v0=>(if v0 then(some (.out (.inl ()))) else(some (.go (IntKind.i64.wrap (x0+1))))))) else(some (.out (.inr ()))))
def g_lines_Name(s_0:List UInt8):Option (Bool) :=
 (((if(decide ((s_0.length:Int) < 1)) then(some true) else(if(decide (16 < (s_0.length:Int))) then(some true) else((atI s_0 0).bind fun b0=>(if(decide ((b0.toNat:Int) < 65)) then(some true) else(some (decide (90 < (b0.toNat:Int)))))))):Option (Bool)).bind fun v9=>(if v9 then(some false) else((iter (g_lines_Name_s1 s_0) 0).bind fun e0=>(match e0 with|Sum.inl e0=>(some false)|Sum.inr (e0)=>(some true)))))
theorem a_lines_Name{I:World→Prop}(hI:Stab I){s_0:List UInt8}{r:Bool}(h:g_lines_Name s_0=some r):AFun Tryz.prog I 117 [.str s_0] (.bool r):=by
 have dd:=dd_EA;have k:=True.intro;have q:=k;have rs:=Tryz.results117;unfold g_lines_Name at h;refine .en hI Tryz.func117 Tryz.ntmps117 ?_;refine xs<|rz ?_;refine es<|xs ?_;obtain⟨v9,h0,h⟩:=bs h;refine rb_cut (fun v9=>⟨envL [(0,.str s_0),(22,.bool v9)],heapL [],0,54⟩) h0 ?_ ?_
 ·clear h;intro v9 h;refine rK fun K _ E J=>zz ?_;obtain⟨k,h⟩|⟨k,h⟩:=iK k h
  ·refine zz ?_;subst E J;cases h;exact en ⟨rfl,wk []⟩
  refine zz ?_;obtain⟨k,h⟩|⟨k,h⟩:=iK k h
  ·refine zz ?_;subst E J;cases h;exact en ⟨rfl,wk []⟩
  refine zz ?_;obtain⟨b0,q,h⟩:=bK q h;refine zz ?_;obtain⟨k,h⟩|⟨k,h⟩:=iK k h
  ·refine zz ?_;subst E J;cases h;exact en ⟨rfl,wk []⟩
  refine zz ?_;subst E J;cases h;exact en ⟨rfl,wk []⟩
 obtain⟨k,h⟩|⟨k,h⟩:=iK k h
 ·refine xt<|xs<|rz ?_;refine es<|xr<|er ?_;cases h;exact en fr
 refine xf<|xk<|es<|xs<|xs<|rz ?_;refine es<|xb ?_;obtain⟨e0,h1,h⟩:=bs h;refine rb_loop (fun x0=>⟨envL [(0,.str s_0),(24,.int .i64 (s_0.length:Int)),(25,.int .i64 x0)],heapL [],0,54⟩) (fun w=>match w with|Sum.inl _=>.ret|Sum.inr (_)=>.exit 0) (fun w=>match w with|Sum.inl e0=>⟨envL [(2,.bool false)],heapL [],0,54⟩|Sum.inr (e0)=>⟨envL [],heapL [],0,54⟩) h1 (wk []) (by intro w;rcases w with w|w<;>simp) ?_ ?_
 ·clear h;intro x0 y h;unfold g_lines_Name_s1 at h;refine xs<|rz ?_;refine es<|xs ?_;obtain⟨k,h⟩|⟨k,h⟩:=iK k h
  ·refine xt<|xk<|es<|xs<|xb<|xs<|rz ?_;refine es<|xs<|rK fun K _ E J=>zz ?_;obtain⟨b1,q,h⟩:=bK q h;refine zz ?_;subst E J;refine es ?_;obtain⟨v0,h2,h⟩:=bs h;refine rb_cut (fun v0=>⟨envL [(0,.str s_0),(24,.int .i64 (s_0.length:Int)),(25,.int .i64 x0),(52,.bool v0)],heapL [],0,54⟩) h2 ?_ ?_
   ·clear h;intro v0 h;refine rK fun K _ E J=>zz ?_;obtain⟨k,h⟩|⟨k,h⟩:=iK k h
    ·refine zz ?_;obtain⟨k,h⟩|⟨k,h⟩:=iK k h
     ·refine zz ?_;obtain⟨k,h⟩|⟨k,h⟩:=iK k h
      ·refine zz ?_;subst E J;cases h;exact en ⟨rfl,wk []⟩
      refine zz ?_;subst E J;cases h;exact en ⟨rfl,wk []⟩
     refine zz ?_;obtain⟨k,h⟩|⟨k,h⟩:=iK k h
     ·refine zz ?_;obtain⟨k,h⟩|⟨k,h⟩:=iK k h
      ·refine zz ?_;subst E J;cases h;exact en ⟨rfl,wk []⟩
      refine zz ?_;subst E J;cases h;exact en ⟨rfl,wk []⟩
     refine zz ?_;subst E J;cases h;exact en ⟨rfl,wk []⟩
    refine zz ?_;obtain⟨k,h⟩|⟨k,h⟩:=iK k h
    ·refine zz ?_;obtain⟨k,h⟩|⟨k,h⟩:=iK k h
     ·refine zz ?_;obtain⟨k,h⟩|⟨k,h⟩:=iK k h
      ·refine zz ?_;subst E J;cases h;exact en ⟨rfl,wk []⟩
      refine zz ?_;subst E J;cases h;exact en ⟨rfl,wk []⟩
     refine zz ?_;obtain⟨k,h⟩|⟨k,h⟩:=iK k h
     ·refine zz ?_;obtain⟨k,h⟩|⟨k,h⟩:=iK k h
      ·refine zz ?_;subst E J;cases h;exact en ⟨rfl,wk []⟩
      refine zz ?_;subst E J;cases h;exact en ⟨rfl,wk []⟩
     refine zz ?_;subst E J;cases h;exact en ⟨rfl,wk []⟩
    refine zz ?_;subst E J;cases h;exact en ⟨rfl,wk []⟩
   obtain⟨k,h⟩|⟨k,h⟩:=iK k h
   ·refine xt<|xs<|rz ?_;refine es<|xr<|br<|er ?_;cases h;exact en ⟨rfl,wk []⟩
   refine xf<|xk<|bn<|es<|rz ?_;cases h;exact en ⟨rfl,wk []⟩
  refine xf<|xx<|ee ?_;cases h;exact en ⟨rfl,wk []⟩
 rcases e0 with e0|e0
 ·try dsimp only at h ⊢
  refine br<|er ?_;cases h;exact en fr
 try dsimp only at h ⊢
 refine bh<|es<|xs<|rz ?_;refine es<|xr ?_;cases h;exact en fr
def g_timebase_of(r_0:Int):Option (T_timebase_rate) :=
 (if(decide (8≤(IntKind.i64.wrap r_0))) then(some (T_timebase_rate.mk [] 0 0 false)) else(if r_0 == 0 then(some (T_timebase_rate.mk [] 0 0 false)) else(if r_0 == 1 then(some (T_timebase_rate.mk [50,51,46,57,55,54] 5005 24 false)) else(if r_0 == 2 then(some (T_timebase_rate.mk [50,52] 5000 24 false)) else(if r_0 == 3 then(some (T_timebase_rate.mk [50,53] 4800 25 false)) else(if r_0 == 4 then(some (T_timebase_rate.mk [50,57,46,57,55] 4004 30 true)) else(if r_0 == 5 then(some (T_timebase_rate.mk [51,48] 4000 30 false)) else(if r_0 == 6 then(some (T_timebase_rate.mk [53,48] 2400 50 false)) else(if r_0 == 7 then(some (T_timebase_rate.mk [53,57,46,57,52] 2002 60 true)) else none)))))))))
theorem a_timebase_of{I:World→Prop}(hI:Stab I){r_0:Int}{r:T_timebase_rate}(h:g_timebase_of r_0=some r):AFun Tryz.prog I 171 [.int .u8 r_0] (T_timebase_rate.d r):=by
 have dd:=dd_EA;have k:=True.intro;have q:=k;have rs:=Tryz.results171;unfold g_timebase_of at h;refine .en hI Tryz.func171 Tryz.ntmps171 ?_;refine xs<|rz ?_;refine es<|xs<|rz ?_;refine es<|xs<|xs<|rz ?_;refine es ?_;obtain⟨k,h⟩|⟨k,h⟩:=iK k h
 ·refine xt<|xs<|rz ?_;refine es<|xr<|er ?_;cases h;exact en fr
 refine xf<|xk<|es<|xs<|rK fun K _ E J=>zz ?_;rcases ite_or h with⟨k0,h⟩|⟨_,h⟩
 ·have k:=And.intro (eq_of_beq k0) k;refine zz ?_;subst E J;refine es<|xr ?_;cases h;exact en fr
 rcases ite_or h with⟨k1,h⟩|⟨_,h⟩
 ·have k:=And.intro (eq_of_beq k1) k;refine zz ?_;subst E J;refine es<|xr ?_;cases h;exact en fr
 rcases ite_or h with⟨k2,h⟩|⟨_,h⟩
 ·have k:=And.intro (eq_of_beq k2) k;refine zz ?_;subst E J;refine es<|xr ?_;cases h;exact en fr
 rcases ite_or h with⟨k3,h⟩|⟨_,h⟩
 ·have k:=And.intro (eq_of_beq k3) k;refine zz ?_;subst E J;refine es<|xr ?_;cases h;exact en fr
 rcases ite_or h with⟨k4,h⟩|⟨_,h⟩
 ·have k:=And.intro (eq_of_beq k4) k;refine zz ?_;subst E J;refine es<|xr ?_;cases h;exact en fr
 rcases ite_or h with⟨k5,h⟩|⟨_,h⟩
 ·have k:=And.intro (eq_of_beq k5) k;refine zz ?_;subst E J;refine es<|xr ?_;cases h;exact en fr
 rcases ite_or h with⟨k6,h⟩|⟨_,h⟩
 ·have k:=And.intro (eq_of_beq k6) k;refine zz ?_;subst E J;refine es<|xr ?_;cases h;exact en fr
 rcases ite_or h with⟨k7,h⟩|⟨_,h⟩
 ·have k:=And.intro (eq_of_beq k7) k;refine zz ?_;subst E J;refine es<|xr ?_;cases h;exact en fr
 cases h
def g_timebase_Valid(r_0:Int):Option (Bool) :=
 ((g_timebase_of r_0).bind fun r7=>(some (decide (0 < r7.ticks_))))
theorem a_timebase_Valid{I:World→Prop}(hI:Stab I){r_0:Int}{r:Bool}(h:g_timebase_Valid r_0=some r):AFun Tryz.prog I 86 [.int .u8 r_0] (.bool r):=by
 have dd:=dd_EA;have k:=True.intro;have q:=k;have rs:=Tryz.results86;unfold g_timebase_Valid at h;refine .en hI Tryz.func86 Tryz.ntmps86 ?_;refine xs<|rz ?_;refine es<|xs<|rK fun K _ E J=>zz ?_;obtain⟨r7,h8,h⟩:=bs h;refine cw (a_timebase_of hI h8)<|zz ?_;subst E J;refine es<|xr ?_;cases h;exact en fr
def g_timebase_CanDrop(r_0:Int):Option (Bool) :=
 ((g_timebase_of r_0).bind fun r7=>(some r7.drop_))
theorem a_timebase_CanDrop{I:World→Prop}(hI:Stab I){r_0:Int}{r:Bool}(h:g_timebase_CanDrop r_0=some r):AFun Tryz.prog I 238 [.int .u8 r_0] (.bool r):=by
 have dd:=dd_EA;have k:=True.intro;have q:=k;have rs:=Tryz.results238;unfold g_timebase_CanDrop at h;refine .en hI Tryz.func238 Tryz.ntmps238 ?_;refine xs<|rz ?_;refine es<|xs<|rK fun K _ E J=>zz ?_;obtain⟨r7,h8,h⟩:=bs h;refine cw (a_timebase_of hI h8)<|zz ?_;subst E J;refine es<|xr ?_;cases h;exact en fr
def g_document_rate(r_0:Int)(drop_1:Bool):Option (Int) :=
 ((g_timebase_Valid r_0).bind fun r0=>(if r0 then(if drop_1 then((g_timebase_CanDrop r_0).bind fun r1=>(if r1 then(some 0) else(some 13))) else(some 0)) else(some 13)))
theorem a_document_rate{I:World→Prop}(hI:Stab I){r_0:Int}{drop_1:Bool}{r:Int}(h:g_document_rate r_0 drop_1=some r):AFun Tryz.prog I 181 [.int .u8 r_0,.bool drop_1] (.int .i64 r):=by
 have dd:=dd_EA;have k:=True.intro;have q:=k;have rs:=Tryz.results181;unfold g_document_rate at h;refine .en hI Tryz.func181 Tryz.ntmps181 ?_;refine xs<|rz ?_;refine es<|xs<|xs<|rK fun K _ E J=>zz ?_;obtain⟨r0,h0,h⟩:=bs h;refine cw (a_timebase_Valid hI h0)<|zz ?_;obtain⟨k,h⟩|⟨k,h⟩:=iK k h
 ·refine zz ?_;obtain⟨k,h⟩|⟨k,h⟩:=iK k h
  ·refine zz ?_;obtain⟨r1,h1,h⟩:=bs h;refine cw (a_timebase_CanDrop hI h1)<|zz ?_;subst E J;refine es ?_;obtain⟨k,h⟩|⟨k,h⟩:=iK k h
   ·refine xf<|xk<|es<|xs<|rz ?_;refine es<|xr ?_;cases h;exact en fr
   refine xt<|xs<|rz ?_;refine es<|xr<|er ?_;cases h;exact en fr
  refine zz ?_;subst E J;refine es<|xf<|xk<|es<|xs<|rz ?_;refine es<|xr ?_;cases h;exact en fr
 refine zz ?_;subst E J;refine es<|xt<|xs<|rz ?_;refine es<|xr<|er ?_;cases h;exact en fr
def g_document_header(d_0:T_api_Document):Option (Int) :=
 ((((g_charset_Valid d_0.Title).bind fun r0=>(if r0 then(if(decide (400 < (d_0.Title.length:Int))) then(some (.out 9)) else(if(d_0.Lang == ([]:List UInt8)) then(some (.go ())) else((g_lines_Name d_0.Lang).bind fun r1=>(if r1 then(some (.go ())) else(some (.out 5)))))) else(some (.out 10)))):Option (Nx (Unit) (Int))).bind fun w0=>match w0 with|.go v0=>((g_document_rate d_0.Rate d_0.Drop).bind fun r2=>(if(r2 != 0) then(some r2) else(if(decide (d_0.Last < 0)) then(some 2) else(if(decide (1099511627776 < d_0.Last)) then(some 2) else(some 0)))))|.out e0=>(some e0))
theorem a_document_header{I:World→Prop}(hI:Stab I)(hU8T:∀ w,I w→U8T w){d_0:T_api_Document}{r:Int}(h:g_document_header d_0=some r):AFun Tryz.prog I 105 [T_api_Document.d d_0] (.int .i64 r):=by
 have dd:=dd_EA;have k:=True.intro;have q:=k;have rs:=Tryz.results105;unfold g_document_header at h;refine .en hI Tryz.func105 Tryz.ntmps105 ?_;refine xs<|rz ?_;refine es ?_;obtain⟨w0,h0,h⟩:=bs h;refine rb_seg (fun v0=>⟨envL [(1,.ptr 0 0)],heapL [(0,.box none [.str d_0.Title,.str d_0.Lang,.int .u8 d_0.Rate,.bool d_0.Drop,.int .i64 d_0.Last,.sl (d_0.Regions.map T_api_Region.d),.sl (d_0.Events.map T_api_Event.d),.sl (d_0.Comments.map T_api_Comment.d)])],1,40⟩) (fun _=>.ret) (fun e0=>⟨envL [(2,.int .i64 e0)],heapL [],0,40⟩) h0 (by intro w;simp) ?_ ?_ ?_
 ·clear h;intro w0 h;refine xb<|xs<|rK fun K _ E J=>zz ?_;obtain⟨r0,h1,h⟩:=bs h;refine cw (a_charset_Valid hI hU8T h1)<|zz ?_;subst E J;refine es ?_;obtain⟨k,h⟩|⟨k,h⟩:=iK k h
  ·refine xf<|xs<|rz ?_;refine es ?_;obtain⟨k,h⟩|⟨k,h⟩:=iK k h
   ·refine xt<|xs<|rz ?_;refine es<|xr<|br ?_;cases h;exact en ⟨rfl,wk []⟩
   refine xf<|xs<|rK fun K _ E J=>zz ?_;obtain⟨k,h⟩|⟨k,h⟩:=iK k h
   ·refine zz ?_;subst E J;refine es<|xf<|xk<|bn ?_;cases h;exact en ⟨rfl,wk []⟩
   refine zz ?_;obtain⟨r1,h2,h⟩:=bs h;refine cw (a_lines_Name hI h2)<|zz ?_;subst E J;refine es ?_;obtain⟨k,h⟩|⟨k,h⟩:=iK k h
   ·refine xf<|xk<|bn ?_;cases h;exact en ⟨rfl,wk []⟩
   refine xt<|xs<|rz ?_;refine es<|xr<|br ?_;cases h;exact en ⟨rfl,wk []⟩
  refine xt<|xs<|rz ?_;refine es<|xr<|br ?_;cases h;exact en ⟨rfl,wk []⟩
 ·rintro v0 rfl;dsimp only at h;refine xs<|xs<|rK fun K _ E J=>zz ?_;obtain⟨r2,h3,h⟩:=bs h;refine cw (a_document_rate hI h3)<|zz ?_;subst E J;refine es<|xs<|rz ?_;refine es ?_;obtain⟨k,h⟩|⟨k,h⟩:=iK k h
  ·refine xt<|xs<|rz ?_;refine es<|xr<|er ?_;cases h;exact en fr
  refine xf<|xk<|es<|xs<|xs<|rK fun K _ E J=>zz ?_;obtain⟨k,h⟩|⟨k,h⟩:=iK k h
  ·refine zz ?_;subst E J;refine es<|xt<|xs<|rz ?_;refine es<|xr<|er ?_;cases h;exact en fr
  refine zz ?_;subst E J;refine es ?_;obtain⟨k,h⟩|⟨k,h⟩:=iK k h
  ·refine xt<|xs<|rz ?_;refine es<|xr<|er ?_;cases h;exact en fr
  refine xf<|xk<|es<|xs<|rz ?_;refine es<|xr ?_;cases h;exact en fr
 rintro e0 rfl;dsimp only at h;cases h;exact en fr
def g_region_from(n_0:Int)(low_1:Int)(high_2:Int):Option (Bool) :=
 (if(decide (low_1≤n_0)) then(some (decide (n_0≤high_2))) else(some false))
theorem a_region_from{I:World→Prop}(hI:Stab I){n_0:Int}{low_1:Int}{high_2:Int}{r:Bool}(h:g_region_from n_0 low_1 high_2=some r):AFun Tryz.prog I 239 [.int .i64 n_0,.int .i64 low_1,.int .i64 high_2] (.bool r):=by
 have dd:=dd_EA;have k:=True.intro;have q:=k;have rs:=Tryz.results239;unfold g_region_from at h;refine .en hI Tryz.func239 Tryz.ntmps239 ?_;refine xs<|rz ?_;refine es<|xs<|rK fun K _ E J=>zz ?_;obtain⟨k,h⟩|⟨k,h⟩:=iK k h
 ·refine zz ?_;subst E J;refine es<|xr ?_;cases h;exact en fr
 refine zz ?_;subst E J;refine es<|xr ?_;cases h;exact en fr
def g_region_Check(r_0:T_api_Region):Option (Int) :=
 ((g_lines_Name r_0.Name).bind fun r0=>(if r0 then((((g_region_from r_0.Top 0 14).bind fun r1=>(if r1 then((g_region_from r_0.Height 1 (IntKind.i64.wrap (15 - r_0.Top))).bind fun r2=>(if r2 then((g_region_from r_0.Left 0 31).bind fun r3=>(if r3 then((g_region_from r_0.Width 1 (IntKind.i64.wrap (32 - r_0.Left))).bind fun r4=>(some (!r4))) else(some true))) else(some true))) else(some true))):Option (Bool)).bind fun v0=>(if v0 then(some 2) else(if(decide (r_0.Align < 1)) then(some 3) else(if(decide (3 < r_0.Align)) then(some 3) else(some 0))))) else(some 5)))
theorem a_region_Check{I:World→Prop}(hI:Stab I){r_0:T_api_Region}{r:Int}(h:g_region_Check r_0=some r):AFun Tryz.prog I 182 [T_api_Region.d r_0] (.int .i64 r):=by
 have dd:=dd_EA;have k:=True.intro;have q:=k;have rs:=Tryz.results182;unfold g_region_Check at h;refine .en hI Tryz.func182 Tryz.ntmps182 ?_;refine xs<|rz ?_;refine es<|xs<|xb<|xs<|rK fun K _ E J=>zz ?_;obtain⟨r0,h0,h⟩:=bs h;refine cw (a_lines_Name hI h0)<|zz ?_;subst E J;refine es ?_;obtain⟨k,h⟩|⟨k,h⟩:=iK k h
 ·refine xf ?_;obtain⟨v0,h1,h⟩:=bs h;refine rb_cut (fun v0=>⟨envL [(1,.ptr 0 0),(8,.bool v0)],heapL [(0,.box none [.str r_0.Name,.int .i64 r_0.Top,.int .i64 r_0.Height,.int .i64 r_0.Left,.int .i64 r_0.Width,.int .u8 r_0.Align,.bool r_0.Bottom])],1,46⟩) h1 ?_ ?_
  ·clear h;intro v0 h;refine rK fun K _ E J=>zz ?_;obtain⟨r1,h2,h⟩:=bs h;refine cw (a_region_from hI h2)<|zz ?_;obtain⟨k,h⟩|⟨k,h⟩:=iK k h
   ·refine zz ?_;obtain⟨r2,h3,h⟩:=bs h;refine cw (a_region_from hI h3)<|zz ?_;obtain⟨k,h⟩|⟨k,h⟩:=iK k h
    ·refine zz ?_;obtain⟨r3,h4,h⟩:=bs h;refine cw (a_region_from hI h4)<|zz ?_;obtain⟨k,h⟩|⟨k,h⟩:=iK k h
     ·refine zz ?_;obtain⟨r4,h5,h⟩:=bs h;refine cw (a_region_from hI h5)<|zz ?_;subst E J;cases h;exact en ⟨rfl,wk []⟩
     refine zz ?_;subst E J;cases h;exact en ⟨rfl,wk []⟩
    refine zz ?_;subst E J;cases h;exact en ⟨rfl,wk []⟩
   refine zz ?_;subst E J;cases h;exact en ⟨rfl,wk []⟩
  obtain⟨k,h⟩|⟨k,h⟩:=iK k h
  ·refine xt<|xs<|rz ?_;refine es<|xr<|br<|er ?_;cases h;exact en fr
  refine xf<|xs<|rK fun K _ E J=>zz ?_;obtain⟨k,h⟩|⟨k,h⟩:=iK k h
  ·refine zz ?_;subst E J;refine es<|xt<|xs<|rz ?_;refine es<|xr<|br<|er ?_;cases h;exact en fr
  refine zz ?_;subst E J;refine es ?_;obtain⟨k,h⟩|⟨k,h⟩:=iK k h
  ·refine xt<|xs<|rz ?_;refine es<|xr<|br<|er ?_;cases h;exact en fr
  refine xf<|xk<|bn<|es<|xs<|rz ?_;refine es<|xr ?_;cases h;exact en fr
 refine xt<|xs<|rz ?_;refine es<|xr<|br<|er ?_;cases h;exact en fr
def g_region_CheckList_s1(l_0:List T_api_Region)(x0:Int):Option (Nx (Int) (Int ⊕ Unit)) :=
 (if(decide (x0 < (l_0.length:Int))) then((atI l_0 x0).bind fun y0=>((g_region_Check y0).bind fun r0=>(if(r0 != 0) then(some (.out (.inl r0))) else(((if(decide (0 < x0)) then((atI l_0 (IntKind.i64.wrap (x0 - 1))).bind fun y1=>(some (y0.Name == y1.Name))) else(some false)):Option (Bool)).bind fun v0=>(if v0 then(some (.out (.inl 7))) else(if(decide (0 < x0)) then((atI l_0 (IntKind.i64.wrap (x0 - 1))).bind fun y2=>(if(Op.bytesLess y0.Name y2.Name) then(some (.out (.inl 8))) else(some (.go (IntKind.i64.wrap (x0+1)))))) else(some (.go (IntKind.i64.wrap (x0+1)))))))))) else(some (.out (.inr ()))))
def g_region_CheckList(l_0:List T_api_Region):Option (Int) :=
 (if(decide (16 < (l_0.length:Int))) then(some 9) else((iter (g_region_CheckList_s1 l_0) 0).bind fun e0=>(match e0 with|Sum.inl e0=>(some e0)|Sum.inr (e0)=>(some 0))))
theorem a_region_CheckList{I:World→Prop}(hI:Stab I){l_0:List T_api_Region}{r:Int}(h:g_region_CheckList l_0=some r):AFun Tryz.prog I 106 [.sl (l_0.map T_api_Region.d)] (.int .i64 r):=by
 have dd:=dd_EA;have k:=True.intro;have q:=k;have rs:=Tryz.results106;unfold g_region_CheckList at h;refine .en hI Tryz.func106 Tryz.ntmps106 ?_;refine xs<|rz ?_;refine es<|xs<|xs<|rz ?_;refine es ?_;obtain⟨k,h⟩|⟨k,h⟩:=iK k h
 ·refine xt<|xs<|rz ?_;refine es<|xr<|er ?_;cases h;exact en fr
 refine xf<|xk<|es<|xs<|xs<|rz ?_;refine es<|xb ?_;obtain⟨e0,h0,h⟩:=bs h;refine rb_loop (fun x0=>⟨envL [(0,.sl (l_0.map T_api_Region.d)),(9,.sl (l_0.map T_api_Region.d)),(10,.int .i64 (l_0.length:Int)),(11,.int .i64 x0)],heapL [],0,48⟩) (fun w=>match w with|Sum.inl _=>.ret|Sum.inr (_)=>.exit 0) (fun w=>match w with|Sum.inl e0=>⟨envL [(2,.int .i64 e0)],heapL [],0,48⟩|Sum.inr (e0)=>⟨envL [],heapL [],0,48⟩) h0 (wk []) (by intro w;rcases w with w|w<;>simp) ?_ ?_
 ·clear h;intro x0 y h;unfold g_region_CheckList_s1 at h;refine xs<|rz ?_;refine es<|xs ?_;obtain⟨k,h⟩|⟨k,h⟩:=iK k h
  ·refine xt<|xk<|es<|xs<|xb<|xs<|rK fun K _ E J=>zz ?_;obtain⟨y0,q,h⟩:=bK q h;refine zz ?_;subst E J;refine es<|xs<|xs<|rK fun K _ E J=>zz ?_;obtain⟨r0,h1,h⟩:=bs h;refine cw (a_region_Check hI h1)<|zz ?_;subst E J;refine es<|xs<|rz ?_;refine es ?_;obtain⟨k,h⟩|⟨k,h⟩:=iK k h
   ·refine xt<|xs<|rz ?_;refine es<|xr<|er<|br<|er ?_;cases h;exact en ⟨rfl,wk []⟩
   refine xf<|xk<|es<|xs ?_;obtain⟨v0,h2,h⟩:=bs h;refine rb_cut (fun v0=>⟨envL [(0,.sl (l_0.map T_api_Region.d)),(3,.int .i64 x0),(4,.ptr 0 0),(9,.sl (l_0.map T_api_Region.d)),(10,.int .i64 (l_0.length:Int)),(11,.int .i64 x0),(33,.bool v0)],heapL [(0,.box none [.str y0.Name,.int .i64 y0.Top,.int .i64 y0.Height,.int .i64 y0.Left,.int .i64 y0.Width,.int .u8 y0.Align,.bool y0.Bottom])],1,48⟩) h2 ?_ ?_
   ·clear h;intro v0 h;refine rD hI fun K _ E J=>zz ?_;obtain⟨k,h⟩|⟨k,h⟩:=iK k h
    ·refine zz ?_;obtain⟨y1,q,h⟩:=bK q h;refine zz ?_;subst E J;cases h;exact en ⟨rfl,wk [(0,some 4)]⟩
    refine zz ?_;subst E J;cases h;exact en ⟨rfl,wk [(0,some 4)]⟩
   obtain⟨k,h⟩|⟨k,h⟩:=iK k h
   ·refine xt<|xs<|rz ?_;refine es<|xr<|er<|br<|er ?_;cases h;exact en ⟨rfl,wk []⟩
   refine xf<|xk<|es<|xs<|rD hI fun K _ E J=>zz ?_;obtain⟨k,h⟩|⟨k,h⟩:=iK k h
   ·refine zz ?_;obtain⟨y2,q,h⟩:=bK q h;refine zz ?_;subst E J;refine es ?_;obtain⟨k,h⟩|⟨k,h⟩:=iK k h
    ·refine xt<|xs<|rz ?_;refine es<|xr<|br<|er ?_;cases h;exact en ⟨rfl,wk []⟩
    refine xf<|xk<|bn<|es<|rz ?_;cases h;exact en ⟨rfl,wk []⟩
   refine zz ?_;subst E J;refine es<|xf<|xk<|bn<|es<|rz ?_;cases h;exact en ⟨rfl,wk []⟩
  refine xf<|xx<|ee ?_;cases h;exact en ⟨rfl,wk []⟩
 rcases e0 with e0|e0
 ·try dsimp only at h ⊢
  refine br<|er ?_;cases h;exact en fr
 try dsimp only at h ⊢
 refine bh<|es<|xs<|rz ?_;refine es<|xr ?_;cases h;exact en fr
def g_region_Default  : Option (T_api_Region) :=
 (some (T_api_Region.mk [] 11 4 0 32 2 true))
theorem a_region_Default{I:World→Prop}(hI:Stab I) {r:T_api_Region}(h:g_region_Default  = some r):AFun Tryz.prog I 240 [] (T_api_Region.d r):=by
 have dd:=dd_EA;have k:=True.intro;have q:=k;have rs:=Tryz.results240;unfold g_region_Default at h;refine .en hI Tryz.func240 Tryz.ntmps240 ?_;refine xs<|rz ?_;refine es<|xs<|rz ?_;refine es<|xr ?_;cases h;exact en fr
def g_region_Find_s1(l_0:List T_api_Region)(name_1:List UInt8)(x0:Int):Option (Nx (Int) (((List UInt8) × Int × Int × Int × Int × Int × Bool) ⊕ Unit)) :=
 (if(decide (x0 < (l_0.length:Int))) then((atI l_0 x0).bind fun y0=>(if(y0.Name == name_1) then(some (.out (.inl (y0.Name,y0.Top,y0.Height,y0.Left,y0.Width,y0.Align,y0.Bottom)))) else(some (.go (IntKind.i64.wrap (x0+1)))))) else(some (.out (.inr ()))))
def g_region_Find(l_0:List T_api_Region)(name_1:List UInt8):Option (T_api_Region × Bool) :=
 (if(name_1 == ([]:List UInt8)) then((g_region_Default).bind fun r0=>(some (r0,true))) else((iter (g_region_Find_s1 l_0 name_1) 0).bind fun e0=>(match e0 with|Sum.inl e0=>(some ((T_api_Region.mk e0.1 e0.2.1 e0.2.2.1 e0.2.2.2.1 e0.2.2.2.2.1 e0.2.2.2.2.2.1 e0.2.2.2.2.2.2),true))|Sum.inr (e0)=>(some ((T_api_Region.mk [] 0 0 0 0 0 false),false)))))
theorem a_region_Find{I:World→Prop}(hI:Stab I){l_0:List T_api_Region}{name_1:List UInt8}{r:T_api_Region × Bool}(h:g_region_Find l_0 name_1=some r):AFun Tryz.prog I 183 [.sl (l_0.map T_api_Region.d),.str name_1] (.tup [T_api_Region.d r.1,.bool r.2]):=by
 have dd:=dd_EA;have k:=True.intro;have q:=k;have rs:=Tryz.results183;unfold g_region_Find at h;refine .en hI Tryz.func183 Tryz.ntmps183 ?_;refine xs<|rz ?_;refine es<|xs<|xs<|rz ?_;refine es ?_;obtain⟨k,h⟩|⟨k,h⟩:=iK k h
 ·refine xt<|xs<|rK fun K _ E J=>zz ?_;obtain⟨r0,h0,h⟩:=bs h;refine cw (a_region_Default hI h0)<|zz ?_;subst E J;refine es<|xr<|er ?_;cases h;exact en fr
 refine xf<|xk<|es<|xs<|xs<|rz ?_;refine es<|xb ?_;obtain⟨e0,h1,h⟩:=bs h;refine rb_loop (fun x0=>⟨envL [(1,.str name_1),(4,.ptr 0 0),(11,.sl (l_0.map T_api_Region.d)),(12,.int .i64 (l_0.length:Int)),(13,.int .i64 x0)],heapL [(0,.box none [.str [],.int .i64 0,.int .i64 0,.int .i64 0,.int .i64 0,.int .u8 0,.bool false])],1,24⟩) (fun w=>match w with|Sum.inl _=>.ret|Sum.inr (_)=>.exit 0) (fun w=>match w with|Sum.inl e0=>⟨envL [(4,.ptr 0 0),(5,.bool true)],heapL [(0,.box none [.str e0.1,.int .i64 e0.2.1,.int .i64 e0.2.2.1,.int .i64 e0.2.2.2.1,.int .i64 e0.2.2.2.2.1,.int .u8 e0.2.2.2.2.2.1,.bool e0.2.2.2.2.2.2])],1,24⟩|Sum.inr (e0)=>⟨envL [(4,.ptr 0 0)],heapL [(0,.box none [.str [],.int .i64 0,.int .i64 0,.int .i64 0,.int .i64 0,.int .u8 0,.bool false])],1,24⟩) h1 (wk []) (by intro w;rcases w with w|w<;>simp) ?_ ?_
 ·clear h;intro x0 y h;unfold g_region_Find_s1 at h;refine xs<|rz ?_;refine es<|xs ?_;obtain⟨k,h⟩|⟨k,h⟩:=iK k h
  ·refine xt<|xk<|es<|xs<|xb<|xs<|rK fun K _ E J=>zz ?_;obtain⟨y0,q,h⟩:=bK q h;refine zz ?_;subst E J;refine es<|xs<|rz ?_;refine es ?_;obtain⟨k,h⟩|⟨k,h⟩:=iK k h
   ·refine xt<|xs<|rz ?_;refine es<|xr<|br<|er ?_;cases h;exact en ⟨rfl,wk []⟩
   refine xf<|xk<|bn<|es<|rz ?_;cases h;exact en ⟨rfl,wk []⟩
  refine xf<|xx<|ee ?_;cases h;exact en ⟨rfl,wk []⟩
 rcases e0 with e0|e0
 ·try dsimp only at h ⊢
  refine br<|er ?_;cases h;exact en fr
 try dsimp only at h ⊢
 refine bh<|es<|xs<|rz ?_;refine es<|xr ?_;cases h;exact en fr
def g_event_spans(s_0:T_api_Span):Option (Bool) :=
 (if(decide (0≤s_0.In)) then(if(decide (s_0.In < s_0.Out)) then(some (decide (s_0.Out≤5184000))) else(some false)) else(some false))
theorem a_event_spans{I:World→Prop}(hI:Stab I){s_0:T_api_Span}{r:Bool}(h:g_event_spans s_0=some r):AFun Tryz.prog I 184 [T_api_Span.d s_0] (.bool r):=by
 have dd:=dd_EA;have k:=True.intro;have q:=k;have rs:=Tryz.results184;unfold g_event_spans at h;refine .en hI Tryz.func184 Tryz.ntmps184 ?_;refine xs<|rz ?_;refine es<|xs<|rK fun K _ E J=>zz ?_;obtain⟨k,h⟩|⟨k,h⟩:=iK k h
 ·refine zz ?_;obtain⟨k,h⟩|⟨k,h⟩:=iK k h
  ·refine zz ?_;subst E J;refine es<|xr ?_;cases h;exact en fr
  refine zz ?_;subst E J;refine es<|xr ?_;cases h;exact en fr
 refine zz ?_;subst E J;refine es<|xr ?_;cases h;exact en fr
def g_event_kinds  : Option ((List (List UInt8))) :=
 (some [[68,73,65,76,79,71,85,69],[83,79,85,78,68],[84,73,84,76,69],[77,85,83,73,67]])
theorem a_event_kinds{I:World→Prop}(hI:Stab I) {r:(List (List UInt8))}(h:g_event_kinds  = some r):AFun Tryz.prog I 118 [] (.sl (r.map D.str)):=by
 have dd:=dd_EA;have k:=True.intro;have q:=k;have rs:=Tryz.results118;unfold g_event_kinds at h;refine .en hI Tryz.func118 Tryz.ntmps118 ?_;refine xs<|rz ?_;refine es<|xs<|rz ?_;refine es<|xr ?_;cases h;exact en fr
def g_event_KindName(k_0:Int):Option ((List UInt8)) :=
 (((if(decide (k_0 < 1)) then(some true) else(some (decide (4 < k_0)))):Option (Bool)).bind fun v5=>(if v5 then(some []) else((g_event_kinds).bind fun r0=>((atI r0 (IntKind.u8.wrap (k_0 - 1))).bind fun y0=>(some y0)))))
theorem a_event_KindName{I:World→Prop}(hI:Stab I){k_0:Int}{r:(List UInt8)}(h:g_event_KindName k_0=some r):AFun Tryz.prog I 130 [.int .u8 k_0] (.str r):=by
 have dd:=dd_EA;have k:=True.intro;have q:=k;have rs:=Tryz.results130;unfold g_event_KindName at h;refine .en hI Tryz.func130 Tryz.ntmps130 ?_;refine xs<|rz ?_;refine es<|xs ?_;obtain⟨v5,h8,h⟩:=bs h;refine rb_cut (fun v5=>⟨envL [(0,.int .u8 k_0),(8,.bool v5)],heapL [],0,14⟩) h8 ?_ ?_
 ·clear h;intro v5 h;refine rK fun K _ E J=>zz ?_;obtain⟨k,h⟩|⟨k,h⟩:=iK k h
  ·refine zz ?_;subst E J;cases h;exact en ⟨rfl,wk []⟩
  refine zz ?_;subst E J;cases h;exact en ⟨rfl,wk []⟩
 obtain⟨k,h⟩|⟨k,h⟩:=iK k h
 ·refine xt<|xs<|rz ?_;refine es<|xr<|er ?_;cases h;exact en fr
 refine xf<|xk<|es<|xs<|rK fun K _ E J=>zz ?_;obtain⟨r0,h0,h⟩:=bs h;refine cw (a_event_kinds hI h0)<|zz ?_;obtain⟨y0,q,h⟩:=bK q h;refine zz ?_;subst E J;refine es<|xr ?_;cases h;exact en fr
def g_style_Valid(s_0:T_api_Style):Option (Bool) :=
 (some (decide (s_0.Color≤6)))
theorem a_style_Valid{I:World→Prop}(hI:Stab I){s_0:T_api_Style}{r:Bool}(h:g_style_Valid s_0=some r):AFun Tryz.prog I 199 [T_api_Style.d s_0] (.bool r):=by
 have dd:=dd_EA;have k:=True.intro;have q:=k;have rs:=Tryz.results199;unfold g_style_Valid at h;refine .en hI Tryz.func199 Tryz.ntmps199 ?_;refine xs<|rz ?_;refine es<|xs<|rz ?_;refine es<|xr ?_;cases h;exact en fr
def g_style_alike(a_0:T_api_Run)(b_1:T_api_Run):Option (Bool) :=
 (if((a_0.Style.Color == b_1.Style.Color)&&((a_0.Style.Italic == b_1.Style.Italic)&&(a_0.Style.Underline == b_1.Style.Underline))) then(if(a_0.Ruby == ([]:List UInt8)) then(some (b_1.Ruby == ([]:List UInt8))) else(some false)) else(some false))
theorem a_style_alike{I:World→Prop}(hI:Stab I){a_0:T_api_Run}{b_1:T_api_Run}{r:Bool}(h:g_style_alike a_0 b_1=some r):AFun Tryz.prog I 249 [T_api_Run.d a_0,T_api_Run.d b_1] (.bool r):=by
 have dd:=dd_EA;have k:=True.intro;have q:=k;have rs:=Tryz.results249;unfold g_style_alike at h;refine .en hI Tryz.func249 Tryz.ntmps249 ?_;refine xs<|rz ?_;refine es<|xs<|rK fun K _ E J=>zz ?_;obtain⟨k,h⟩|⟨k,h⟩:=iK k h
 ·refine zz ?_;obtain⟨k,h⟩|⟨k,h⟩:=iK k h
  ·refine zz ?_;subst E J;refine es<|xr ?_;cases h;exact en fr
  refine zz ?_;subst E J;refine es<|xr ?_;cases h;exact en fr
 refine zz ?_;subst E J;refine es<|xr ?_;cases h;exact en fr
def g_style_Check_s1(row_0:T_api_Row)(x0:Int):Option (Nx (Int) (Int ⊕ Unit)) :=
 (if(decide (x0 < (row_0.Runs.length:Int))) then((atI row_0.Runs x0).bind fun y0=>((g_charset_Valid y0.Text).bind fun r0=>(if r0 then(if(y0.Text == ([]:List UInt8)) then(some (.out (.inl 4))) else((g_style_Valid y0.Style).bind fun r1=>(if r1 then((g_charset_Valid y0.Ruby).bind fun r2=>(if r2 then(if(decide (0 < x0)) then((atI row_0.Runs (IntKind.i64.wrap (x0 - 1))).bind fun y1=>((g_style_alike y1 y0).bind fun r3=>(if r3 then(some (.out (.inl 8))) else(some (.go (IntKind.i64.wrap (x0+1))))))) else(some (.go (IntKind.i64.wrap (x0+1))))) else(some (.out (.inl 10))))) else(some (.out (.inl 12)))))) else(some (.out (.inl 10)))))) else(some (.out (.inr ()))))
def g_style_Check(row_0:T_api_Row):Option (Int) :=
 (if(decide (16 < (row_0.Runs.length:Int))) then(some 9) else((iter (g_style_Check_s1 row_0) 0).bind fun e0=>(match e0 with|Sum.inl e0=>(some e0)|Sum.inr (e0)=>(some 0))))
theorem a_style_Check{I:World→Prop}(hI:Stab I)(hU8T:∀ w,I w→U8T w){row_0:T_api_Row}{r:Int}(h:g_style_Check row_0=some r):AFun Tryz.prog I 194 [T_api_Row.d row_0] (.int .i64 r):=by
 have dd:=dd_EA;have k:=True.intro;have q:=k;have rs:=Tryz.results194;unfold g_style_Check at h;refine .en hI Tryz.func194 Tryz.ntmps194 ?_;refine xs<|rz ?_;refine es<|xs<|xs<|rz ?_;refine es ?_;obtain⟨k,h⟩|⟨k,h⟩:=iK k h
 ·refine xt<|xs<|rz ?_;refine es<|xr<|er ?_;cases h;exact en fr
 refine xf<|xk<|es<|xs<|xs<|rz ?_;refine es<|xb ?_;obtain⟨e0,h0,h⟩:=bs h;refine rb_loop (fun x0=>⟨envL [(1,.ptr 0 0),(10,.sl (row_0.Runs.map T_api_Run.d)),(11,.int .i64 (row_0.Runs.length:Int)),(12,.int .i64 x0)],heapL [(0,.box none [.sl (row_0.Runs.map T_api_Run.d)])],1,50⟩) (fun w=>match w with|Sum.inl _=>.ret|Sum.inr (_)=>.exit 0) (fun w=>match w with|Sum.inl e0=>⟨envL [(2,.int .i64 e0)],heapL [],0,50⟩|Sum.inr (e0)=>⟨envL [],heapL [],0,50⟩) h0 (wk []) (by intro w;rcases w with w|w<;>simp) ?_ ?_
 ·clear h;intro x0 y h;unfold g_style_Check_s1 at h;refine xs<|rz ?_;refine es<|xs ?_;obtain⟨k,h⟩|⟨k,h⟩:=iK k h
  ·refine xt<|xk<|es<|xs<|xb<|xs<|rK fun K _ E J=>zz ?_;obtain⟨y0,q,h⟩:=bK q h;refine zz ?_;subst E J;refine es<|xb<|xs<|rK fun K _ E J=>zz ?_;obtain⟨r0,h1,h⟩:=bs h;refine cw (a_charset_Valid hI hU8T h1)<|zz ?_;subst E J;refine es ?_;obtain⟨k,h⟩|⟨k,h⟩:=iK k h
   ·refine xf<|xs<|rz ?_;refine es ?_;obtain⟨k,h⟩|⟨k,h⟩:=iK k h
    ·refine xt<|xs<|rz ?_;refine es<|xr<|br<|br<|er ?_;cases h;exact en ⟨rfl,wk []⟩
    refine xf<|xs<|rK fun K _ E J=>zz ?_;obtain⟨r1,h2,h⟩:=bs h;refine cw (a_style_Valid hI h2)<|zz ?_;subst E J;refine es ?_;obtain⟨k,h⟩|⟨k,h⟩:=iK k h
    ·refine xf<|xs<|rK fun K _ E J=>zz ?_;obtain⟨r2,h3,h⟩:=bs h;refine cw (a_charset_Valid hI hU8T h3)<|zz ?_;subst E J;refine es ?_;obtain⟨k,h⟩|⟨k,h⟩:=iK k h
     ·refine xf<|xs<|rD hI fun K _ E J=>zz ?_;obtain⟨k,h⟩|⟨k,h⟩:=iK k h
      ·refine zz ?_;obtain⟨y1,q,h⟩:=bK q h;refine zz ?_;obtain⟨r3,h4,h⟩:=bs h;refine cd (a_style_alike hI h4)<|zz ?_;subst E J;refine es ?_;obtain⟨k,h⟩|⟨k,h⟩:=iK k h
       ·refine xt<|xs<|rz ?_;refine es<|xr<|br<|br<|er ?_;cases h;exact en ⟨rfl,wk []⟩
       refine xf<|xk<|bn<|bn<|es<|rz ?_;cases h;exact en ⟨rfl,wk []⟩
      refine zz ?_;subst E J;refine es<|xf<|xk<|bn<|bn<|es<|rz ?_;cases h;exact en ⟨rfl,wk []⟩
     refine xt<|xs<|rz ?_;refine es<|xr<|br<|br<|er ?_;cases h;exact en ⟨rfl,wk []⟩
    refine xt<|xs<|rz ?_;refine es<|xr<|br<|br<|er ?_;cases h;exact en ⟨rfl,wk []⟩
   refine xt<|xs<|rz ?_;refine es<|xr<|br<|br<|er ?_;cases h;exact en ⟨rfl,wk []⟩
  refine xf<|xx<|ee ?_;cases h;exact en ⟨rfl,wk []⟩
 rcases e0 with e0|e0
 ·try dsimp only at h ⊢
  refine br<|er ?_;cases h;exact en fr
 try dsimp only at h ⊢
 refine bh<|es<|xs<|rz ?_;refine es<|xr ?_;cases h;exact en fr
def g_style_Plain_s1(row_0:T_api_Row)(x7:Int × (List Int)):Option (Nx (Int × (List Int)) ((List Int))) :=
 (if(decide (x7.1 < (row_0.Runs.length:Int))) then((atI row_0.Runs x7.1).bind fun y0=>(if x7.2.length+y0.Text.length≤140737488355328 then(some (.go ((IntKind.i64.wrap (x7.1+1)),(x7.2++toI y0.Text)))) else none)) else(some (.out x7.2)))
def g_style_Plain(row_0:T_api_Row):Option ((List UInt8)) :=
 ((iter (g_style_Plain_s1 row_0) (0,[])).bind fun e8=>(some (bytesOf e8)))
theorem a_style_Plain{I:World→Prop}(hI:Stab I){row_0:T_api_Row}{r:(List UInt8)}(h:g_style_Plain row_0=some r):AFun Tryz.prog I 91 [T_api_Row.d row_0] (.str r):=by
 have dd:=dd_EA;have k:=True.intro;have q:=k;have rs:=Tryz.results91;unfold g_style_Plain at h;refine .en hI Tryz.func91 Tryz.ntmps91 ?_;refine xs<|rz ?_;refine es<|xs<|rz ?_;refine es<|xs<|xs<|rz ?_;refine es<|xb ?_;obtain⟨e8,h0,h⟩:=bs h;refine rb_loop (fun x7=>⟨envL [(3,.ptr 0 0),(7,.sl (row_0.Runs.map T_api_Run.d)),(8,.int .i64 (row_0.Runs.length:Int)),(9,.int .i64 x7.1)],heapL [(0,.bbox 181 [.sp 0,.own 1 x7.2.length]),(1,.vec 5 1 (x7.2.map (D.int .u8)) false)],2,18⟩) (fun _=>.exit 0) (fun e8=>⟨envL [(3,.ptr 0 0)],heapL [(0,.bbox 181 [.sp 0,.own 1 e8.length]),(1,.vec 5 1 (e8.map (D.int .u8)) false)],2,18⟩) h0 (wk [(0,some 2),(1,none)]) (by intro w;simp) ?_ ?_
 ·clear h;intro x7 y h;unfold g_style_Plain_s1 at h;refine xs<|rz ?_;refine es<|xs ?_;obtain⟨k,h⟩|⟨k,h⟩:=iK k h
  ·refine xt<|xk<|es<|xs<|xb<|xs<|rK fun K _ E J=>zz ?_;obtain⟨y0,q,h⟩:=bK q h;refine zz ?_;subst E J;refine es<|rK fun K _ E J=>zz ?_;obtain⟨h1,h⟩:=ite_on h;refine eW.intro (c_WriteString1 I (id:=0) (nid:=9) (id2:=1) (n:=x7.2.length) (s:=y0.Text) (l:=x7.2) fz fz fs h1 (by decide)) fi rfl<|zz ?_;subst E J;refine bn<|es<|rz ?_;cases h;exact en ⟨rfl,wk [(1,some 9)]⟩
  refine xf<|xx<|ee ?_;cases h;exact en ⟨rfl,wk []⟩
 refine bh<|es<|xs<|rK fun K _ E J=>zz ?_;refine eW.intro (c_String1 I (id:=0) (nid:=2) (id2:=1) (n:=e8.length) (l:=e8) fz fz fs) fi rfl<|zz ?_;subst E J;refine es<|xr ?_;cases h;exact en fr
def g_charset_Len(s_0:List UInt8):Option (Int) :=
 ((g_charset_Valid s_0).bind fun r7=>(if r7 then((g_unicode_utf8_RuneCountInString s_0).bind fun r0=>(some r0)) else(some (-1))))
theorem a_charset_Len{I:World→Prop}(hI:Stab I)(hU8T:∀ w,I w→U8T w){s_0:List UInt8}{r:Int}(h:g_charset_Len s_0=some r):AFun Tryz.prog I 256 [.str s_0] (.int .i64 r):=by
 have dd:=dd_EA;have k:=True.intro;have q:=k;have rs:=Tryz.results256;unfold g_charset_Len at h;refine .en hI Tryz.func256 Tryz.ntmps256 ?_;refine xs<|rz ?_;refine es<|xs<|xs<|rK fun K _ E J=>zz ?_;obtain⟨r7,h8,h⟩:=bs h;refine cw (a_charset_Valid hI hU8T h8)<|zz ?_;subst E J;refine es ?_;obtain⟨k,h⟩|⟨k,h⟩:=iK k h
 ·refine xf<|xk<|es<|xs<|rK fun K _ E J=>zz ?_;obtain⟨r0,h0,h⟩:=bs h;refine cw (a_unicode_utf8_RuneCountInString I hI s_0 h0)<|zz ?_;subst E J;refine es<|xr ?_;cases h;exact en fr
 refine xt<|xs<|rz ?_;refine es<|xr<|er ?_;cases h;exact en fr
def g_style_Len_s1(row_0:T_api_Row)(x7:Int × Int):Option (Nx (Int × Int) (Unit ⊕ Int)) :=
 (if(decide (x7.2 < (row_0.Runs.length:Int))) then((atI row_0.Runs x7.2).bind fun y0=>((g_charset_Len y0.Text).bind fun r0=>(if(decide (r0 < 0)) then(some (.out (.inl ()))) else(some (.go ((IntKind.i64.wrap (x7.1+r0)),(IntKind.i64.wrap (x7.2+1)))))))) else(some (.out (.inr x7.1))))
def g_style_Len(row_0:T_api_Row):Option (Int) :=
 ((iter (g_style_Len_s1 row_0) (0,0)).bind fun e8=>(match e8 with|Sum.inl e8=>(some (-1))|Sum.inr (e8)=>(some e8)))
theorem a_style_Len{I:World→Prop}(hI:Stab I)(hU8T:∀ w,I w→U8T w){row_0:T_api_Row}{r:Int}(h:g_style_Len row_0=some r):AFun Tryz.prog I 206 [T_api_Row.d row_0] (.int .i64 r):=by
 have dd:=dd_EA;have k:=True.intro;have q:=k;have rs:=Tryz.results206;unfold g_style_Len at h;refine .en hI Tryz.func206 Tryz.ntmps206 ?_;refine xs<|rz ?_;refine es<|xs<|rz ?_;refine es<|xs<|xs<|rz ?_;refine es<|xb ?_;obtain⟨e8,h0,h⟩:=bs h;refine rb_loop (fun x7=>⟨envL [(3,.int .i64 x7.1),(8,.sl (row_0.Runs.map T_api_Run.d)),(9,.int .i64 (row_0.Runs.length:Int)),(10,.int .i64 x7.2)],heapL [],0,24⟩) (fun w=>match w with|Sum.inl _=>.ret|Sum.inr (_)=>.exit 0) (fun w=>match w with|Sum.inl e8=>⟨envL [(2,.int .i64 (-1))],heapL [],0,24⟩|Sum.inr (e8)=>⟨envL [(3,.int .i64 e8)],heapL [],0,24⟩) h0 (wk []) (by intro w;rcases w with w|w<;>simp) ?_ ?_
 ·clear h;intro x7 y h;unfold g_style_Len_s1 at h;refine xs<|rz ?_;refine es<|xs ?_;obtain⟨k,h⟩|⟨k,h⟩:=iK k h
  ·refine xt<|xk<|es<|xs<|xb<|xs<|rK fun K _ E J=>zz ?_;obtain⟨y0,q,h⟩:=bK q h;refine zz ?_;subst E J;refine es<|xs<|rK fun K _ E J=>zz ?_;obtain⟨r0,h1,h⟩:=bs h;refine cw (a_charset_Len hI hU8T h1)<|zz ?_;subst E J;refine es<|xs<|xs<|rz ?_;refine es ?_;obtain⟨k,h⟩|⟨k,h⟩:=iK k h
   ·refine xt<|xs<|rz ?_;refine es<|xr<|er<|br<|er ?_;cases h;exact en ⟨rfl,wk []⟩
   refine xf<|xk<|es<|rz ?_;refine bn<|es<|rz ?_;cases h;exact en ⟨rfl,wk []⟩
  refine xf<|xx<|ee ?_;cases h;exact en ⟨rfl,wk []⟩
 rcases e8 with e8|e8
 ·try dsimp only at h ⊢
  refine br<|er ?_;cases h;exact en fr
 try dsimp only at h ⊢
 refine bh<|es<|xs<|rz ?_;refine es<|xr ?_;cases h;exact en fr
def g_event_row(r_0:T_api_Row):Option (Int) :=
 ((g_style_Check r_0).bind fun r7=>(if(r7 != 0) then(some r7) else((g_style_Plain r_0).bind fun r0=>(((if(r0 == ([]:List UInt8)) then(some true) else((atI r0 0).bind fun b0=>(if((b0.toNat:Int) == 32) then(some true) else((atI r0 (IntKind.i64.wrap ((r0.length:Int) - 1))).bind fun b1=>(if((b1.toNat:Int) == 32) then(some true) else((g_strings_Contains r0 [32,32]).bind fun r1=>(some r1))))))):Option (Bool)).bind fun v0=>(if v0 then(some 4) else((g_style_Len r_0).bind fun r2=>(if(decide (32 < r2)) then(some 11) else(some 0))))))))
theorem a_event_row{I:World→Prop}(hI:Stab I)(hShp:∀ w,I w→Shp w)(hU8T:∀ w,I w→U8T w){r_0:T_api_Row}{r:Int}(h:g_event_row r_0=some r):AFun Tryz.prog I 185 [T_api_Row.d r_0] (.int .i64 r):=by
 have dd:=dd_EA;have k:=True.intro;have q:=k;have rs:=Tryz.results185;unfold g_event_row at h;refine .en hI Tryz.func185 Tryz.ntmps185 ?_;refine xs<|rz ?_;refine es<|xs<|xs<|rK fun K _ E J=>zz ?_;obtain⟨r7,h8,h⟩:=bs h;refine cw (a_style_Check hI hU8T h8)<|zz ?_;subst E J;refine es<|xs<|rz ?_;refine es ?_;obtain⟨k,h⟩|⟨k,h⟩:=iK k h
 ·refine xt<|xs<|rz ?_;refine es<|xr<|er ?_;cases h;exact en fr
 refine xf<|xk<|es<|xs<|rK fun K _ E J=>zz ?_;obtain⟨r0,h0,h⟩:=bs h;refine cw (a_style_Plain hI h0)<|zz ?_;subst E J;refine es<|xs ?_;obtain⟨v0,h1,h⟩:=bs h;refine rb_cut (fun v0=>⟨envL [(1,.ptr 0 0),(30,.bool v0)],heapL [(0,.box none [.sl (r_0.Runs.map T_api_Run.d)])],1,34⟩) h1 ?_ ?_
 ·clear h;intro v0 h;refine rK fun K _ E J=>zz ?_;obtain⟨k,h⟩|⟨k,h⟩:=iK k h
  ·refine zz ?_;subst E J;cases h;exact en ⟨rfl,wk []⟩
  refine zz ?_;obtain⟨b0,q,h⟩:=bK q h;refine zz ?_;obtain⟨k,h⟩|⟨k,h⟩:=iK k h
  ·refine zz ?_;subst E J;cases h;exact en ⟨rfl,wk []⟩
  refine zz ?_;obtain⟨b1,q,h⟩:=bK q h;refine zz ?_;obtain⟨k,h⟩|⟨k,h⟩:=iK k h
  ·refine zz ?_;subst E J;cases h;exact en ⟨rfl,wk []⟩
  refine zz ?_;obtain⟨r1,h2,h⟩:=bs h;refine cw (a_strings_Contains I hI hShp r0 [32,32] h2)<|zz ?_;subst E J;cases h;exact en ⟨rfl,wk []⟩
 obtain⟨k,h⟩|⟨k,h⟩:=iK k h
 ·refine xt<|xs<|rz ?_;refine es<|xr<|er ?_;cases h;exact en fr
 refine xf<|xk<|es<|xs<|xs<|rK fun K _ E J=>zz ?_;obtain⟨r2,h3,h⟩:=bs h;refine cw (a_style_Len hI hU8T h3)<|zz ?_;subst E J;refine es ?_;obtain⟨k,h⟩|⟨k,h⟩:=iK k h
 ·refine xt<|xs<|rz ?_;refine es<|xr<|er ?_;cases h;exact en fr
 refine xf<|xk<|es<|xs<|rz ?_;refine es<|xr ?_;cases h;exact en fr
def g_event_lens_s1(e_0:T_api_Event)(x7:(List Int) × Int):Option (Nx ((List Int) × Int) ((List Int))) :=
 (if(decide (x7.2 < (e_0.Rows.length:Int))) then((atI e_0.Rows x7.2).bind fun y0=>((g_style_Len y0).bind fun r0=>(if(x7.1.length+1) * 8≤140737488355328 then(some (.go ((x7.1++[r0]),(IntKind.i64.wrap (x7.2+1))))) else none))) else(some (.out x7.1)))
def g_event_lens(e_0:T_api_Event):Option ((List Int)) :=
 ((iter (g_event_lens_s1 e_0) ([],0)).bind fun e8=>(some e8))
theorem a_event_lens{I:World→Prop}(hI:Stab I)(hU8T:∀ w,I w→U8T w){e_0:T_api_Event}{r:(List Int)}(h:g_event_lens e_0=some r):AFun Tryz.prog I 187 [T_api_Event.d e_0] (.sl (r.map (D.int .i64))):=by
 have dd:=dd_EA;have k:=True.intro;have q:=k;have rs:=Tryz.results187;unfold g_event_lens at h;refine .en hI Tryz.func187 Tryz.ntmps187 ?_;refine xs<|rz ?_;refine es<|xs<|rz ?_;refine es<|xs<|xs<|rz ?_;refine es<|xb ?_;obtain⟨e8,h0,h⟩:=bs h;refine rb_loop (fun x7=>⟨envL [(3,.own 0 x7.1.length),(7,.sl (e_0.Rows.map T_api_Row.d)),(8,.int .i64 (e_0.Rows.length:Int)),(9,.int .i64 x7.2)],heapL [(0,.vec 3 1 (x7.1.map (D.int .i64)) false)],1,20⟩) (fun _=>.exit 0) (fun e8=>⟨envL [(3,.own 0 e8.length)],heapL [(0,.vec 3 1 (e8.map (D.int .i64)) false)],1,20⟩) h0 (wk [(0,none)]) (by intro w;simp) ?_ ?_
 ·clear h;intro x7 y h;unfold g_event_lens_s1 at h;refine xs<|rz ?_;refine es<|xs ?_;obtain⟨k,h⟩|⟨k,h⟩:=iK k h
  ·refine xt<|xk<|es<|xs<|xb<|xs<|rK fun K _ E J=>zz ?_;obtain⟨y0,q,h⟩:=bK q h;refine zz ?_;subst E J;refine es<|rK fun K _ E J=>zz ?_;obtain⟨r0,h1,h⟩:=bs h;refine cw (a_style_Len hI hU8T h1)<|zz ?_;obtain⟨h2,h⟩:=ite_on h;have h3:x7.1.length+1≤9223372036854775807:=by omega
   try simp only[Nat.reduceLeDiff] at h3
   have q:=And.intro @h3<|And.intro @h2<|q;refine zz ?_;subst E J;refine bn<|es<|rz ?_;cases h;exact en ⟨rfl,wk [(0,some 10)]⟩
  refine xf<|xx<|ee ?_;cases h;exact en ⟨rfl,wk []⟩
 refine bh<|es<|xs<|rz ?_;refine es<|xr ?_;cases h;exact en fr
def g_region_usable(r_0:T_api_Region):Option (Bool) :=
 ((g_region_Default).bind fun r0=>(if((r_0.Name == r0.Name)&&((r_0.Top == r0.Top)&&((r_0.Height == r0.Height)&&((r_0.Left == r0.Left)&&((r_0.Width == r0.Width)&&((r_0.Align == r0.Align)&&(r_0.Bottom == r0.Bottom))))))) then(some true) else((g_region_Check r_0).bind fun r1=>(some (r1 == 0)))))
theorem a_region_usable{I:World→Prop}(hI:Stab I){r_0:T_api_Region}{r:Bool}(h:g_region_usable r_0=some r):AFun Tryz.prog I 242 [T_api_Region.d r_0] (.bool r):=by
 have dd:=dd_EA;have k:=True.intro;have q:=k;have rs:=Tryz.results242;unfold g_region_usable at h;refine .en hI Tryz.func242 Tryz.ntmps242 ?_;refine xs<|rz ?_;refine es<|xs<|rD hI fun K _ E J=>zz ?_;obtain⟨r0,h0,h⟩:=bs h;refine cd (a_region_Default hI h0)<|zz ?_;obtain⟨k,h⟩|⟨k,h⟩:=iK k h
 ·refine zz ?_;subst E J;refine es<|xr ?_;cases h;exact en fr
 refine zz ?_;obtain⟨r1,h1,h⟩:=bs h;refine cd (a_region_Check hI h1)<|zz ?_;subst E J;refine es<|xr ?_;cases h;exact en fr
def g_region_Place_s1(r_0:T_api_Region)(lens_1:List Int)(x0:(List T_api_Spot) × Int):Option (Nx ((List T_api_Spot) × Int) (Int ⊕ ((List T_api_Spot)))) :=
 (if(decide (x0.2 < (lens_1.length:Int))) then((atI lens_1 x0.2).bind fun y0=>(if(decide (y0 < 0)) then(some (.out (.inl 2))) else(if(decide (r_0.Width < y0)) then(some (.out (.inl 11))) else(if(r_0.Align == 3) then(if(x0.1.length+1) * 24≤140737488355328 then(some (.go ((x0.1++[(T_api_Spot.mk (IntKind.i64.wrap ((IntKind.i64.wrap (r_0.Top+(IntKind.i64.wrap (r_0.Height - (lens_1.length:Int)))))+x0.2)) (IntKind.i64.wrap (r_0.Left+(IntKind.i64.wrap (r_0.Width - y0)))) y0)]),(IntKind.i64.wrap (x0.2+1))))) else none) else(if(r_0.Align == 2) then(if(x0.1.length+1) * 24≤140737488355328 then(some (.go ((x0.1++[(T_api_Spot.mk (IntKind.i64.wrap ((IntKind.i64.wrap (r_0.Top+(IntKind.i64.wrap (r_0.Height - (lens_1.length:Int)))))+x0.2)) (IntKind.i64.wrap (r_0.Left+(IntKind.i64.wrap (Int.tdiv (IntKind.i64.wrap (r_0.Width - y0)) 2)))) y0)]),(IntKind.i64.wrap (x0.2+1))))) else none) else(if(x0.1.length+1) * 24≤140737488355328 then(some (.go ((x0.1++[(T_api_Spot.mk (IntKind.i64.wrap ((IntKind.i64.wrap (r_0.Top+(IntKind.i64.wrap (r_0.Height - (lens_1.length:Int)))))+x0.2)) r_0.Left y0)]),(IntKind.i64.wrap (x0.2+1))))) else none)))))) else(some (.out (.inr x0.1))))
def g_region_Place_s2(r_0:T_api_Region)(lens_1:List Int)(x0:(List T_api_Spot) × Int):Option (Nx ((List T_api_Spot) × Int) (Int ⊕ ((List T_api_Spot)))) :=
 (if(decide (x0.2 < (lens_1.length:Int))) then((atI lens_1 x0.2).bind fun y0=>(if(decide (y0 < 0)) then(some (.out (.inl 2))) else(if(decide (r_0.Width < y0)) then(some (.out (.inl 11))) else(if(r_0.Align == 3) then(if(x0.1.length+1) * 24≤140737488355328 then(some (.go ((x0.1++[(T_api_Spot.mk (IntKind.i64.wrap (r_0.Top+x0.2)) (IntKind.i64.wrap (r_0.Left+(IntKind.i64.wrap (r_0.Width - y0)))) y0)]),(IntKind.i64.wrap (x0.2+1))))) else none) else(if(r_0.Align == 2) then(if(x0.1.length+1) * 24≤140737488355328 then(some (.go ((x0.1++[(T_api_Spot.mk (IntKind.i64.wrap (r_0.Top+x0.2)) (IntKind.i64.wrap (r_0.Left+(IntKind.i64.wrap (Int.tdiv (IntKind.i64.wrap (r_0.Width - y0)) 2)))) y0)]),(IntKind.i64.wrap (x0.2+1))))) else none) else(if(x0.1.length+1) * 24≤140737488355328 then(some (.go ((x0.1++[(T_api_Spot.mk (IntKind.i64.wrap (r_0.Top+x0.2)) r_0.Left y0)]),(IntKind.i64.wrap (x0.2+1))))) else none)))))) else(some (.out (.inr x0.1))))
def g_region_Place(r_0:T_api_Region)(lens_1:List Int):Option ((List T_api_Spot) × Int) :=
 ((g_region_usable r_0).bind fun r0=>(if r0 then(if(decide (r_0.Height < (lens_1.length:Int))) then(some ([],9)) else(if r_0.Bottom then((iter (g_region_Place_s1 r_0 lens_1) ([],0)).bind fun e0=>(match e0 with|Sum.inl e0=>(some ([],e0))|Sum.inr (e0)=>(some (e0,0)))) else((iter (g_region_Place_s2 r_0 lens_1) ([],0)).bind fun e1=>(match e1 with|Sum.inl e1=>(some ([],e1))|Sum.inr (e1)=>(some (e1,0)))))) else(some ([],1))))
theorem a_region_Place{I:World→Prop}(hI:Stab I){r_0:T_api_Region}{lens_1:List Int}{r:(List T_api_Spot) × Int}(h:g_region_Place r_0 lens_1=some r):AFun Tryz.prog I 186 [T_api_Region.d r_0,.sl (lens_1.map (D.int .i64))] (.tup [.sl (r.1.map T_api_Spot.d),.int .i64 r.2]):=by
 have dd:=dd_EA;have k:=True.intro;have q:=k;have rs:=Tryz.results186;unfold g_region_Place at h;refine .en hI Tryz.func186 Tryz.ntmps186 ?_;refine xs<|rz ?_;refine es<|xs<|xb<|xs<|rK fun K _ E J=>zz ?_;obtain⟨r0,h0,h⟩:=bs h;refine cw (a_region_usable hI h0)<|zz ?_;subst E J;refine es ?_;obtain⟨k,h⟩|⟨k,h⟩:=iK k h
 ·refine xf<|xs<|rz ?_;refine es ?_;obtain⟨k,h⟩|⟨k,h⟩:=iK k h
  ·refine xt<|xs<|rz ?_;refine es<|xr<|br<|er ?_;cases h;exact en fr
  refine xf<|xk<|bn<|es<|xs<|rz ?_;refine es<|xs<|xs<|rz ?_;refine es ?_;obtain⟨k,h⟩|⟨k,h⟩:=iK k h
  ·refine xt<|rz ?_;refine es<|xs<|rz ?_;refine es<|xs<|xs<|rz ?_;refine es<|xb ?_;obtain⟨e0,h1,h⟩:=bs h;refine rb_loop (fun x0=>⟨envL [(2,.ptr 0 0),(6,.int .i64 (IntKind.i64.wrap (r_0.Top+(IntKind.i64.wrap (r_0.Height - (lens_1.length:Int)))))),(7,.own 1 x0.1.length),(32,.sl (lens_1.map (D.int .i64))),(33,.int .i64 (lens_1.length:Int)),(34,.int .i64 x0.2)],heapL [(0,.box none [.str r_0.Name,.int .i64 r_0.Top,.int .i64 r_0.Height,.int .i64 r_0.Left,.int .i64 r_0.Width,.int .u8 r_0.Align,.bool r_0.Bottom]),(1,.vec 352 3 (x0.1.map T_api_Spot.d) false)],2,81⟩) (fun w=>match w with|Sum.inl _=>.ret|Sum.inr (_)=>.exit 1) (fun w=>match w with|Sum.inl e0=>⟨envL [(4,.nils),(5,.int .i64 e0)],heapL [],0,81⟩|Sum.inr (e0)=>⟨envL [(7,.own 0 e0.length)],heapL [(0,.vec 352 3 (e0.map T_api_Spot.d) false)],1,81⟩) h1 (wk [(1,none)]) (by intro w;rcases w with w|w<;>simp) ?_ ?_
   ·clear h;intro x0 y h;unfold g_region_Place_s1 at h;refine xs<|rz ?_;refine es<|xs ?_;obtain⟨k,h⟩|⟨k,h⟩:=iK k h
    ·refine xt<|xk<|es<|xs<|xb<|xs<|rK fun K _ E J=>zz ?_;obtain⟨y0,q,h⟩:=bK q h;refine zz ?_;subst E J;refine es<|xs<|xs<|rz ?_;refine es ?_;obtain⟨k,h⟩|⟨k,h⟩:=iK k h
     ·refine xt<|xs<|rz ?_;refine es<|xr<|er<|br<|er ?_;cases h;exact en ⟨rfl,wk []⟩
     refine xf<|xk<|es<|xs<|xs<|rz ?_;refine es ?_;obtain⟨k,h⟩|⟨k,h⟩:=iK k h
     ·refine xt<|xs<|rz ?_;refine es<|xr<|er<|br<|er ?_;cases h;exact en ⟨rfl,wk []⟩
     refine xf<|xk<|es<|xs<|rz ?_;refine es<|xs<|xs<|rz ?_;refine es<|xb<|xs<|rz ?_;refine es ?_;obtain⟨k,h⟩|⟨k,h⟩:=iK k h
     ·refine xt<|rz ?_;refine bn<|es<|rK fun K _ E J=>zz ?_;obtain⟨h2,h⟩:=ite_on h;have h3:x0.1.length+1≤9223372036854775807:=by omega
      try simp only[Nat.reduceLeDiff] at h3
      have q:=And.intro @h3<|And.intro @h2<|q;refine zz ?_;subst E J;refine bn<|es<|rz ?_;cases h;exact en ⟨rfl,wk [(1,some 39)]⟩
     refine xf<|xs<|rz ?_;refine es ?_;obtain⟨k,h⟩|⟨k,h⟩:=iK k h
     ·refine xt<|rz ?_;refine bn<|es<|rK fun K _ E J=>zz ?_;obtain⟨h4,h⟩:=ite_on h;have h5:x0.1.length+1≤9223372036854775807:=by omega
      try simp only[Nat.reduceLeDiff] at h5
      have q:=And.intro @h5<|And.intro @h4<|q;refine zz ?_;subst E J;refine bn<|es<|rz ?_;cases h;exact en ⟨rfl,wk [(1,some 42)]⟩
     refine xf<|xk<|bn<|es<|rK fun K _ E J=>zz ?_;obtain⟨h6,h⟩:=ite_on h;have h7:x0.1.length+1≤9223372036854775807:=by omega
     try simp only[Nat.reduceLeDiff] at h7
     have q:=And.intro @h7<|And.intro @h6<|q;refine zz ?_;subst E J;refine bn<|es<|rz ?_;cases h;exact en ⟨rfl,wk [(1,some 32)]⟩
    refine xf<|xx<|ee ?_;cases h;exact en ⟨rfl,wk [(0,some 1)]⟩
   rcases e0 with e0|e0
   ·try dsimp only at h ⊢
    refine br<|er ?_;cases h;exact en fr
   try dsimp only at h ⊢
   refine bh<|es<|xs<|rz ?_;refine es<|xr ?_;cases h;exact en fr
  refine xf<|xk<|es<|xs<|rz ?_;refine es<|xs<|xs<|rz ?_;refine es<|xb ?_;obtain⟨e1,h8,h⟩:=bs h;refine rb_loop (fun x1=>⟨envL [(2,.ptr 0 0),(6,.int .i64 r_0.Top),(7,.own 1 x1.1.length),(32,.sl (lens_1.map (D.int .i64))),(33,.int .i64 (lens_1.length:Int)),(34,.int .i64 x1.2)],heapL [(0,.box none [.str r_0.Name,.int .i64 r_0.Top,.int .i64 r_0.Height,.int .i64 r_0.Left,.int .i64 r_0.Width,.int .u8 r_0.Align,.bool r_0.Bottom]),(1,.vec 352 3 (x1.1.map T_api_Spot.d) false)],2,81⟩) (fun w=>match w with|Sum.inl _=>.ret|Sum.inr (_)=>.exit 1) (fun w=>match w with|Sum.inl e1=>⟨envL [(4,.nils),(5,.int .i64 e1)],heapL [],0,81⟩|Sum.inr (e1)=>⟨envL [(7,.own 0 e1.length)],heapL [(0,.vec 352 3 (e1.map T_api_Spot.d) false)],1,81⟩) h8 (wk [(1,none)]) (by intro w;rcases w with w|w<;>simp) ?_ ?_
  ·clear h;intro x1 y h;unfold g_region_Place_s2 at h;refine xs<|rz ?_;refine es<|xs ?_;obtain⟨k,h⟩|⟨k,h⟩:=iK k h
   ·refine xt<|xk<|es<|xs<|xb<|xs<|rK fun K _ E J=>zz ?_;obtain⟨y1,q,h⟩:=bK q h;refine zz ?_;subst E J;refine es<|xs<|xs<|rz ?_;refine es ?_;obtain⟨k,h⟩|⟨k,h⟩:=iK k h
    ·refine xt<|xs<|rz ?_;refine es<|xr<|er<|br<|er ?_;cases h;exact en ⟨rfl,wk []⟩
    refine xf<|xk<|es<|xs<|xs<|rz ?_;refine es ?_;obtain⟨k,h⟩|⟨k,h⟩:=iK k h
    ·refine xt<|xs<|rz ?_;refine es<|xr<|er<|br<|er ?_;cases h;exact en ⟨rfl,wk []⟩
    refine xf<|xk<|es<|xs<|rz ?_;refine es<|xs<|xs<|rz ?_;refine es<|xb<|xs<|rz ?_;refine es ?_;obtain⟨k,h⟩|⟨k,h⟩:=iK k h
    ·refine xt<|rz ?_;refine bn<|es<|rK fun K _ E J=>zz ?_;obtain⟨h9,h⟩:=ite_on h;have h10:x1.1.length+1≤9223372036854775807:=by omega
     try simp only[Nat.reduceLeDiff] at h10
     have q:=And.intro @h10<|And.intro @h9<|q;refine zz ?_;subst E J;refine bn<|es<|rz ?_;cases h;exact en ⟨rfl,wk [(1,some 39)]⟩
    refine xf<|xs<|rz ?_;refine es ?_;obtain⟨k,h⟩|⟨k,h⟩:=iK k h
    ·refine xt<|rz ?_;refine bn<|es<|rK fun K _ E J=>zz ?_;obtain⟨h11,h⟩:=ite_on h;have h12:x1.1.length+1≤9223372036854775807:=by omega
     try simp only[Nat.reduceLeDiff] at h12
     have q:=And.intro @h12<|And.intro @h11<|q;refine zz ?_;subst E J;refine bn<|es<|rz ?_;cases h;exact en ⟨rfl,wk [(1,some 42)]⟩
    refine xf<|xk<|bn<|es<|rK fun K _ E J=>zz ?_;obtain⟨h13,h⟩:=ite_on h;have h14:x1.1.length+1≤9223372036854775807:=by omega
    try simp only[Nat.reduceLeDiff] at h14
    have q:=And.intro @h14<|And.intro @h13<|q;refine zz ?_;subst E J;refine bn<|es<|rz ?_;cases h;exact en ⟨rfl,wk [(1,some 32)]⟩
   refine xf<|xx<|ee ?_;cases h;exact en ⟨rfl,wk [(0,some 1)]⟩
  rcases e1 with e1|e1
  ·try dsimp only at h ⊢
   refine br<|er ?_;cases h;exact en fr
  try dsimp only at h ⊢
  refine bh<|es<|xs<|rz ?_;refine es<|xr ?_;cases h;exact en fr
 refine xt<|xs<|rz ?_;refine es<|xr<|br<|er ?_;cases h;exact en fr
def g_event_Check_s1(e_0:T_api_Event)(x0:Int):Option (Nx (Int) (Int ⊕ Unit)) :=
 (if(decide (x0 < (e_0.Rows.length:Int))) then((atI e_0.Rows x0).bind fun y0=>((g_event_row y0).bind fun r0=>(if(r0 != 0) then(some (.out (.inl r0))) else(some (.go (IntKind.i64.wrap (x0+1))))))) else(some (.out (.inr ()))))
def g_event_Check(e_0:T_api_Event)(regions_1:List T_api_Region):Option (Int) :=
 ((g_region_Find regions_1 e_0.Region).bind fun r7=>(((if(decide (e_0.ID < 1)) then(some true) else(if(decide (1099511627776 < e_0.ID)) then(some true) else((g_event_spans e_0.Span).bind fun r0=>(some (!r0))))):Option (Bool)).bind fun v0=>(if v0 then(some 2) else(if r7.2 then((g_event_KindName e_0.Kind).bind fun r1=>(if(r1 == ([]:List UInt8)) then(some 3) else(((if(e_0.Speaker == ([]:List UInt8)) then(some false) else((g_lines_Name e_0.Speaker).bind fun r2=>(some (!r2)))):Option (Bool)).bind fun v1=>(if v1 then(some 5) else(((if((e_0.Rows.length:Int) == 0) then(some true) else(some (decide (4 < (e_0.Rows.length:Int))))):Option (Bool)).bind fun v2=>(if v2 then(some 9) else((iter (g_event_Check_s1 e_0) 0).bind fun e0=>(match e0 with|Sum.inl e0=>(some e0)|Sum.inr (e0)=>((g_event_lens e_0).bind fun r3=>((g_region_Place r7.1 r3).bind fun r4=>(some r4.2))))))))))) else(some 6)))))
theorem a_event_Check{I:World→Prop}(hI:Stab I)(hShp:∀ w,I w→Shp w)(hU8T:∀ w,I w→U8T w){e_0:T_api_Event}{regions_1:List T_api_Region}{r:Int}(h:g_event_Check e_0 regions_1=some r):AFun Tryz.prog I 107 [T_api_Event.d e_0,.sl (regions_1.map T_api_Region.d)] (.int .i64 r):=by
 have dd:=dd_EA;have k:=True.intro;have q:=k;have rs:=Tryz.results107;unfold g_event_Check at h;refine .en hI Tryz.func107 Tryz.ntmps107 ?_;refine xs<|rz ?_;refine es<|xs<|rK fun K _ E J=>zz ?_;obtain⟨r7,h8,h⟩:=bs h;refine cw (a_region_Find hI h8)<|zz ?_;subst E J;refine es<|xs<|xb ?_;obtain⟨v0,h0,h⟩:=bs h;refine rb_cut (fun v0=>⟨envL [(2,.ptr 0 0),(5,.ptr 1 0),(6,.bool r7.2),(19,.bool v0)],heapL [(0,.box none [.int .i64 e_0.ID,.int .i64 e_0.Span.In,.int .i64 e_0.Span.Out,.str e_0.Region,.int .u8 e_0.Kind,.str e_0.Speaker,.sl (e_0.Rows.map T_api_Row.d)]),(1,.box none [.str r7.1.Name,.int .i64 r7.1.Top,.int .i64 r7.1.Height,.int .i64 r7.1.Left,.int .i64 r7.1.Width,.int .u8 r7.1.Align,.bool r7.1.Bottom])],2,84⟩) h0 ?_ ?_
 ·clear h;intro v0 h;refine rK fun K _ E J=>zz ?_;obtain⟨k,h⟩|⟨k,h⟩:=iK k h
  ·refine zz ?_;subst E J;cases h;exact en ⟨rfl,wk [(1,some 9)]⟩
  refine zz ?_;obtain⟨k,h⟩|⟨k,h⟩:=iK k h
  ·refine zz ?_;subst E J;cases h;exact en ⟨rfl,wk [(1,some 9)]⟩
  refine zz ?_;obtain⟨r0,h1,h⟩:=bs h;refine cw (a_event_spans hI h1)<|zz ?_;subst E J;cases h;exact en ⟨rfl,wk [(1,some 9)]⟩
 obtain⟨k,h⟩|⟨k,h⟩:=iK k h
 ·refine xt<|xs<|rz ?_;refine es<|xr<|br<|er ?_;cases h;exact en fr
 refine xf<|xs<|rz ?_;refine es ?_;obtain⟨k,h⟩|⟨k,h⟩:=iK k h
 ·refine xf<|xs<|rK fun K _ E J=>zz ?_;obtain⟨r1,h2,h⟩:=bs h;refine cw (a_event_KindName hI h2)<|zz ?_;subst E J;refine es ?_;obtain⟨k,h⟩|⟨k,h⟩:=iK k h
  ·refine xt<|xs<|rz ?_;refine es<|xr<|br<|er ?_;cases h;exact en fr
  refine xf ?_;obtain⟨v1,h3,h⟩:=bs h;refine rb_cut (fun v1=>⟨envL [(2,.ptr 0 0),(5,.ptr 1 0),(42,.bool v1)],heapL [(0,.box none [.int .i64 e_0.ID,.int .i64 e_0.Span.In,.int .i64 e_0.Span.Out,.str e_0.Region,.int .u8 e_0.Kind,.str e_0.Speaker,.sl (e_0.Rows.map T_api_Row.d)]),(1,.box none [.str r7.1.Name,.int .i64 r7.1.Top,.int .i64 r7.1.Height,.int .i64 r7.1.Left,.int .i64 r7.1.Width,.int .u8 r7.1.Align,.bool r7.1.Bottom])],2,84⟩) h3 ?_ ?_
  ·clear h;intro v1 h;refine rK fun K _ E J=>zz ?_;obtain⟨k,h⟩|⟨k,h⟩:=iK k h
   ·refine zz ?_;subst E J;cases h;exact en ⟨rfl,wk []⟩
   refine zz ?_;obtain⟨r2,h4,h⟩:=bs h;refine cw (a_lines_Name hI h4)<|zz ?_;subst E J;cases h;exact en ⟨rfl,wk []⟩
  obtain⟨k,h⟩|⟨k,h⟩:=iK k h
  ·refine xt<|xs<|rz ?_;refine es<|xr<|br<|er ?_;cases h;exact en fr
  refine xf ?_;obtain⟨v2,h5,h⟩:=bs h;refine rb_cut (fun v2=>⟨envL [(2,.ptr 0 0),(5,.ptr 1 0),(52,.bool v2)],heapL [(0,.box none [.int .i64 e_0.ID,.int .i64 e_0.Span.In,.int .i64 e_0.Span.Out,.str e_0.Region,.int .u8 e_0.Kind,.str e_0.Speaker,.sl (e_0.Rows.map T_api_Row.d)]),(1,.box none [.str r7.1.Name,.int .i64 r7.1.Top,.int .i64 r7.1.Height,.int .i64 r7.1.Left,.int .i64 r7.1.Width,.int .u8 r7.1.Align,.bool r7.1.Bottom])],2,84⟩) h5 ?_ ?_
  ·clear h;intro v2 h;refine rK fun K _ E J=>zz ?_;obtain⟨k,h⟩|⟨k,h⟩:=iK k h
   ·refine zz ?_;subst E J;cases h;exact en ⟨rfl,wk []⟩
   refine zz ?_;subst E J;cases h;exact en ⟨rfl,wk []⟩
  obtain⟨k,h⟩|⟨k,h⟩:=iK k h
  ·refine xt<|xs<|rz ?_;refine es<|xr<|br<|er ?_;cases h;exact en fr
  refine xf<|xk<|bn<|es<|xs<|xs<|rz ?_;refine es<|xb ?_;obtain⟨e0,h6,h⟩:=bs h;refine rb_loop (fun x0=>⟨envL [(2,.ptr 0 0),(5,.ptr 1 0),(64,.sl (e_0.Rows.map T_api_Row.d)),(65,.int .i64 (e_0.Rows.length:Int)),(66,.int .i64 x0)],heapL [(0,.box none [.int .i64 e_0.ID,.int .i64 e_0.Span.In,.int .i64 e_0.Span.Out,.str e_0.Region,.int .u8 e_0.Kind,.str e_0.Speaker,.sl (e_0.Rows.map T_api_Row.d)]),(1,.box none [.str r7.1.Name,.int .i64 r7.1.Top,.int .i64 r7.1.Height,.int .i64 r7.1.Left,.int .i64 r7.1.Width,.int .u8 r7.1.Align,.bool r7.1.Bottom])],2,84⟩) (fun w=>match w with|Sum.inl _=>.ret|Sum.inr (_)=>.exit 1) (fun w=>match w with|Sum.inl e0=>⟨envL [(4,.int .i64 e0)],heapL [],0,84⟩|Sum.inr (e0)=>⟨envL [(2,.ptr 0 0),(5,.ptr 1 0)],heapL [(0,.box none [.int .i64 e_0.ID,.int .i64 e_0.Span.In,.int .i64 e_0.Span.Out,.str e_0.Region,.int .u8 e_0.Kind,.str e_0.Speaker,.sl (e_0.Rows.map T_api_Row.d)]),(1,.box none [.str r7.1.Name,.int .i64 r7.1.Top,.int .i64 r7.1.Height,.int .i64 r7.1.Left,.int .i64 r7.1.Width,.int .u8 r7.1.Align,.bool r7.1.Bottom])],2,84⟩) h6 (wk []) (by intro w;rcases w with w|w<;>simp) ?_ ?_
  ·clear h;intro x0 y h;unfold g_event_Check_s1 at h;refine xs<|rz ?_;refine es<|xs ?_;obtain⟨k,h⟩|⟨k,h⟩:=iK k h
   ·refine xt<|xk<|es<|xs<|xb<|xs<|rK fun K _ E J=>zz ?_;obtain⟨y0,q,h⟩:=bK q h;refine zz ?_;subst E J;refine es<|xs<|rK fun K _ E J=>zz ?_;obtain⟨r3,h7,h⟩:=bs h;refine cw (a_event_row hI hShp hU8T h7)<|zz ?_;subst E J;refine es<|xs<|rz ?_;refine es ?_;obtain⟨k,h⟩|⟨k,h⟩:=iK k h
    ·refine xt<|xs<|rz ?_;refine es<|xr<|br<|er ?_;cases h;exact en ⟨rfl,wk []⟩
    refine xf<|xk<|bn<|es<|rz ?_;cases h;exact en ⟨rfl,wk []⟩
   refine xf<|xx<|ee ?_;cases h;exact en ⟨rfl,wk []⟩
  rcases e0 with e0|e0
  ·try dsimp only at h ⊢
   refine br<|er ?_;cases h;exact en fr
  try dsimp only at h ⊢
  refine bh<|es<|xs<|rD hI fun K _ E J=>zz ?_;obtain⟨r4,h9,h⟩:=bs h;refine cd (a_event_lens hI hU8T h9)<|zz ?_;obtain⟨r5,h10,h⟩:=bs h;refine cd (a_region_Place hI h10)<|zz ?_;subst E J;refine es<|xs<|rz ?_;refine es<|xr ?_;cases h;exact en fr
 refine xt<|xs<|rz ?_;refine es<|xr<|br<|er ?_;cases h;exact en fr
def g_cmp_isNaN_int64(x_0:Int):Option (Bool) :=
 (some (x_0 != x_0))
theorem a_cmp_isNaN_int64{I:World→Prop}(hI:Stab I){x_0:Int}{r:Bool}(h:g_cmp_isNaN_int64 x_0=some r):AFun Tryz.prog I 231 [.int .i64 x_0] (.bool r):=by
 have dd:=dd_EA;have k:=True.intro;have q:=k;have rs:=Tryz.results231;unfold g_cmp_isNaN_int64 at h;refine .en hI Tryz.func231 Tryz.ntmps231 ?_;refine xs<|rz ?_;refine es<|xs<|rz ?_;refine es<|xr ?_;cases h;exact en fr
def g_cmp_Compare_int64(x_0:Int)(y_1:Int):Option (Int) :=
 ((g_cmp_isNaN_int64 x_0).bind fun r7=>((g_cmp_isNaN_int64 y_1).bind fun r0=>(if r7 then(if r0 then(some 0) else(some (-1))) else(if r0 then(some 1) else(if(decide (x_0 < y_1)) then(some (-1)) else(if(decide (y_1 < x_0)) then(some 1) else(some 0)))))))
theorem a_cmp_Compare_int64{I:World→Prop}(hI:Stab I){x_0:Int}{y_1:Int}{r:Int}(h:g_cmp_Compare_int64 x_0 y_1=some r):AFun Tryz.prog I 168 [.int .i64 x_0,.int .i64 y_1] (.int .i64 r):=by
 have dd:=dd_EA;have k:=True.intro;have q:=k;have rs:=Tryz.results168;unfold g_cmp_Compare_int64 at h;refine .en hI Tryz.func168 Tryz.ntmps168 ?_;refine xs<|rz ?_;refine es<|xs<|rK fun K _ E J=>zz ?_;obtain⟨r7,h8,h⟩:=bs h;refine cw (a_cmp_isNaN_int64 hI h8)<|zz ?_;subst E J;refine es<|xs<|rK fun K _ E J=>zz ?_;obtain⟨r0,h0,h⟩:=bs h;refine cw (a_cmp_isNaN_int64 hI h0)<|zz ?_;subst E J;refine es<|xs<|xs<|rz ?_;refine es ?_;obtain⟨k,h⟩|⟨k,h⟩:=iK k h
 ·refine xt<|xs<|xs<|rz ?_;refine es ?_;obtain⟨k,h⟩|⟨k,h⟩:=iK k h
  ·refine xt<|xs<|rz ?_;refine es<|xr<|er<|er ?_;cases h;exact en fr
  refine xf<|xk<|es<|xs<|rz ?_;refine es<|xr<|er ?_;cases h;exact en fr
 refine xf<|xk<|es<|xs<|xs<|rz ?_;refine es ?_;obtain⟨k,h⟩|⟨k,h⟩:=iK k h
 ·refine xt<|xs<|rz ?_;refine es<|xr<|er ?_;cases h;exact en fr
 refine xf<|xk<|es<|xs<|xs<|rz ?_;refine es ?_;obtain⟨k,h⟩|⟨k,h⟩:=iK k h
 ·refine xt<|xs<|rz ?_;refine es<|xr<|er ?_;cases h;exact en fr
 refine xf<|xk<|es<|xs<|xs<|rz ?_;refine es ?_;obtain⟨k,h⟩|⟨k,h⟩:=iK k h
 ·refine xt<|xs<|rz ?_;refine es<|xr<|er ?_;cases h;exact en fr
 refine xf<|xk<|es<|xs<|rz ?_;refine es<|xr ?_;cases h;exact en fr
def g_cmp_Or_int_s1(vals_0:List Int)(x7:Int):Option (Nx (Int) (Int ⊕ Unit)) :=
 (if(decide (x7 < (vals_0.length:Int))) then((atI vals_0 x7).bind fun y0=>(if(y0 != 0) then(some (.out (.inl y0))) else(some (.go (IntKind.i64.wrap (x7+1)))))) else(some (.out (.inr ()))))
def g_cmp_Or_int(vals_0:List Int):Option (Int) :=
 ((iter (g_cmp_Or_int_s1 vals_0) 0).bind fun e8=>(match e8 with|Sum.inl e8=>(some e8)|Sum.inr (e8)=>(some 0)))
theorem a_cmp_Or_int{I:World→Prop}(hI:Stab I){vals_0:List Int}{r:Int}(h:g_cmp_Or_int vals_0=some r):AFun Tryz.prog I 167 [.sl (vals_0.map (D.int .i64))] (.int .i64 r):=by
 have dd:=dd_EA;have k:=True.intro;have q:=k;have rs:=Tryz.results167;unfold g_cmp_Or_int at h;refine .en hI Tryz.func167 Tryz.ntmps167 ?_;refine xs<|rz ?_;refine es<|xs<|rz ?_;refine es<|xs<|xs<|rz ?_;refine es<|xb ?_;obtain⟨e8,h0,h⟩:=bs h;refine rb_loop (fun x7=>⟨envL [(3,.int .i64 0),(6,.sl (vals_0.map (D.int .i64))),(7,.int .i64 (vals_0.length:Int)),(8,.int .i64 x7)],heapL [],0,18⟩) (fun w=>match w with|Sum.inl _=>.ret|Sum.inr (_)=>.exit 0) (fun w=>match w with|Sum.inl e8=>⟨envL [(2,.int .i64 e8)],heapL [],0,18⟩|Sum.inr (e8)=>⟨envL [(3,.int .i64 0)],heapL [],0,18⟩) h0 (wk []) (by intro w;rcases w with w|w<;>simp) ?_ ?_
 ·clear h;intro x7 y h;unfold g_cmp_Or_int_s1 at h;refine xs<|rz ?_;refine es<|xs ?_;obtain⟨k,h⟩|⟨k,h⟩:=iK k h
  ·refine xt<|xk<|es<|xs<|xb<|xs<|rK fun K _ E J=>zz ?_;obtain⟨y0,q,h⟩:=bK q h;refine zz ?_;subst E J;refine es<|xs<|rz ?_;refine es ?_;obtain⟨k,h⟩|⟨k,h⟩:=iK k h
   ·refine xt<|xs<|rz ?_;refine es<|xr<|br<|er ?_;cases h;exact en ⟨rfl,wk []⟩
   refine xf<|xk<|bn<|es<|rz ?_;cases h;exact en ⟨rfl,wk []⟩
  refine xf<|xx<|ee ?_;cases h;exact en ⟨rfl,wk []⟩
 rcases e8 with e8|e8
 ·try dsimp only at h ⊢
  refine br<|er ?_;cases h;exact en fr
 try dsimp only at h ⊢
 refine bh<|es<|xs<|rz ?_;refine es<|xr ?_;cases h;exact en fr
def g_event_Less(a_0:T_api_Event)(b_1:T_api_Event):Option (Bool) :=
 ((g_cmp_Compare_int64 a_0.Span.In b_1.Span.In).bind fun r0=>((g_cmp_Compare_int64 a_0.ID b_1.ID).bind fun r1=>((g_cmp_Or_int [r0,r1]).bind fun r2=>(some (decide (r2 < 0))))))
theorem a_event_Less{I:World→Prop}(hI:Stab I){a_0:T_api_Event}{b_1:T_api_Event}{r:Bool}(h:g_event_Less a_0 b_1=some r):AFun Tryz.prog I 108 [T_api_Event.d a_0,T_api_Event.d b_1] (.bool r):=by
 have dd:=dd_EA;have k:=True.intro;have q:=k;have rs:=Tryz.results108;unfold g_event_Less at h;refine .en hI Tryz.func108 Tryz.ntmps108 ?_;refine xs<|rz ?_;refine es<|xs<|rD hI fun K _ E J=>zz ?_;obtain⟨r0,h0,h⟩:=bs h;refine cd (a_cmp_Compare_int64 hI h0)<|zz ?_;obtain⟨r1,h1,h⟩:=bs h;refine cd (a_cmp_Compare_int64 hI h1)<|zz ?_;obtain⟨r2,h2,h⟩:=bs h;refine cd (a_cmp_Or_int hI h2)<|zz ?_;subst E J;refine es<|xr ?_;cases h;exact en fr
def g_event_Len_s1(r9:(List Int))(x0:Int × Int):Option (Nx (Int × Int) (Unit ⊕ Int)) :=
 (if(decide (x0.2 < (r9.length:Int))) then((atI r9 x0.2).bind fun y0=>(if(decide (y0 < 0)) then(some (.out (.inl ()))) else(some (.go ((IntKind.i64.wrap (x0.1+y0)),(IntKind.i64.wrap (x0.2+1))))))) else(some (.out (.inr x0.1))))
def g_event_Len(e_0:T_api_Event):Option (Int) :=
 ((g_event_lens e_0).bind fun r9=>((iter (g_event_Len_s1 r9) ((if 0 > (IntKind.i64.wrap ((e_0.Rows.length:Int) - 1)) then 0 else(IntKind.i64.wrap ((e_0.Rows.length:Int) - 1))),0)).bind fun e0=>(match e0 with|Sum.inl e0=>(some (-1))|Sum.inr (e0)=>(some e0))))
theorem a_event_Len{I:World→Prop}(hI:Stab I)(hU8T:∀ w,I w→U8T w){e_0:T_api_Event}{r:Int}(h:g_event_Len e_0=some r):AFun Tryz.prog I 210 [T_api_Event.d e_0] (.int .i64 r):=by
 have dd:=dd_EA;have k:=True.intro;have q:=k;have rs:=Tryz.results210;unfold g_event_Len at h;refine .en hI Tryz.func210 Tryz.ntmps210 ?_;refine xs<|rz ?_;refine es<|xs<|rz ?_;refine es<|xs<|xs<|rK fun K _ E J=>zz ?_;obtain⟨r9,h0,h⟩:=bs h;refine cw (a_event_lens hI hU8T h0)<|zz ?_;subst E J;refine es<|xb ?_;obtain⟨e0,h1,h⟩:=bs h;refine rb_loop (fun x0=>⟨envL [(3,.int .i64 x0.1),(12,.sl (r9.map (D.int .i64))),(13,.int .i64 (r9.length:Int)),(14,.int .i64 x0.2)],heapL [],0,25⟩) (fun w=>match w with|Sum.inl _=>.ret|Sum.inr (_)=>.exit 0) (fun w=>match w with|Sum.inl e0=>⟨envL [(2,.int .i64 (-1))],heapL [],0,25⟩|Sum.inr (e0)=>⟨envL [(3,.int .i64 e0)],heapL [],0,25⟩) h1 (wk []) (by intro w;rcases w with w|w<;>simp) ?_ ?_
 ·clear h;intro x0 y h;unfold g_event_Len_s1 at h;refine xs<|rz ?_;refine es<|xs ?_;obtain⟨k,h⟩|⟨k,h⟩:=iK k h
  ·refine xt<|xk<|es<|xs<|xb<|xs<|rK fun K _ E J=>zz ?_;obtain⟨y0,q,h⟩:=bK q h;refine zz ?_;subst E J;refine es<|xs<|xs<|rz ?_;refine es ?_;obtain⟨k,h⟩|⟨k,h⟩:=iK k h
   ·refine xt<|xs<|rz ?_;refine es<|xr<|er<|br<|er ?_;cases h;exact en ⟨rfl,wk []⟩
   refine xf<|xk<|es<|rz ?_;refine bn<|es<|rz ?_;cases h;exact en ⟨rfl,wk []⟩
  refine xf<|xx<|ee ?_;cases h;exact en ⟨rfl,wk []⟩
 rcases e0 with e0|e0
 ·try dsimp only at h ⊢
  refine br<|er ?_;cases h;exact en fr
 try dsimp only at h ⊢
 refine bh<|es<|xs<|rz ?_;refine es<|xr ?_;cases h;exact en fr
def g_document_anchored(d_0:T_api_Document)(c_1:T_api_Comment)(events_2:MI Int):Option (Int) :=
 (if(decide (c_1.Event < 1)) then(some 2) else(if(decide (d_0.Last < c_1.Event)) then(some 2) else(if c_1.Lost then(((if(c_1.From != 0) then(some true) else(some (c_1.To != 0))):Option (Bool)).bind fun v0=>(if v0 then(some 2) else(some 0))) else(if(events_2.ks.contains c_1.Event) then(if(decide (c_1.From < 0)) then(some 2) else(if(decide (c_1.To≤c_1.From)) then(some 2) else((atI d_0.Events (lookV events_2.ks events_2.vs c_1.Event 0)).bind fun y0=>((g_event_Len y0).bind fun r0=>(if(decide (r0 < c_1.To)) then(some 2) else(some 0)))))) else(some 6)))))
theorem a_document_anchored{I:World→Prop}(hI:Stab I)(hU8T:∀ w,I w→U8T w){d_0:T_api_Document}{c_1:T_api_Comment}{events_2:MI Int}{r:Int}(h:g_document_anchored d_0 c_1 events_2=some r):AFun Tryz.prog I 188 [T_api_Document.d d_0,T_api_Comment.d c_1,.mp .i64 events_2.ks (events_2.vs.map (D.int .i64))] (.int .i64 r):=by
 have dd:=dd_EA;have k:=True.intro;have q:=k;have rs:=Tryz.results188;unfold g_document_anchored at h;refine .en hI Tryz.func188 Tryz.ntmps188 ?_;refine xs<|rz ?_;refine es<|xs<|xs<|rK fun K _ E J=>zz ?_;obtain⟨k,h⟩|⟨k,h⟩:=iK k h
 ·refine zz ?_;subst E J;refine es<|xt<|xs<|rz ?_;refine es<|xr<|er ?_;cases h;exact en fr
 refine zz ?_;subst E J;refine es ?_;obtain⟨k,h⟩|⟨k,h⟩:=iK k h
 ·refine xt<|xs<|rz ?_;refine es<|xr<|er ?_;cases h;exact en fr
 refine xf<|xk<|es<|xs<|xs<|rz ?_;refine es ?_;obtain⟨k,h⟩|⟨k,h⟩:=iK k h
 ·refine xt<|xs ?_;obtain⟨v0,h0,h⟩:=bs h;refine rb_cut (fun v0=>⟨envL [(28,.bool v0)],heapL [],0,59⟩) h0 ?_ ?_
  ·clear h;intro v0 h;refine rK fun K _ E J=>zz ?_;obtain⟨k,h⟩|⟨k,h⟩:=iK k h
   ·refine zz ?_;subst E J;cases h;exact en ⟨rfl,wk []⟩
   refine zz ?_;subst E J;cases h;exact en ⟨rfl,wk []⟩
  obtain⟨k,h⟩|⟨k,h⟩:=iK k h
  ·refine xt<|xs<|rz ?_;refine es<|xr<|er<|er ?_;cases h;exact en fr
  refine xf<|xk<|es<|xs<|rz ?_;refine es<|xr<|er ?_;cases h;exact en fr
 refine xf<|xk<|es<|xs<|rz ?_;refine es<|xs<|xs<|rz ?_;refine es ?_;obtain⟨k,h⟩|⟨k,h⟩:=iK k h
 ·refine xf<|xk<|es<|xs<|xs<|rD hI fun K _ E J=>zz ?_;obtain⟨k,h⟩|⟨k,h⟩:=iK k h
  ·refine zz ?_;subst E J;refine es<|xt<|xs<|rz ?_;refine es<|xr<|er ?_;cases h;exact en fr
  refine zz ?_;obtain⟨k,h⟩|⟨k,h⟩:=iK k h
  ·refine zz ?_;subst E J;refine es<|xt<|xs<|rz ?_;refine es<|xr<|er ?_;cases h;exact en fr
  refine zz ?_;obtain⟨y0,q,h⟩:=bK q h;refine zz ?_;obtain⟨r0,h1,h⟩:=bs h;refine cd (a_event_Len hI hU8T h1)<|zz ?_;subst E J;refine es ?_;obtain⟨k,h⟩|⟨k,h⟩:=iK k h
  ·refine xt<|xs<|rz ?_;refine es<|xr<|er ?_;cases h;exact en fr
  refine xf<|xk<|es<|xs<|rz ?_;refine es<|xr ?_;cases h;exact en fr
 refine xt<|xs<|rz ?_;refine es<|xr<|er ?_;cases h;exact en fr
def g_document_comments_s1(d_0:T_api_Document)(events_1:MI Int)(x0:Int):Option (Nx (Int) (Int ⊕ Unit)) :=
 (if(decide (x0 < (d_0.Comments.length:Int))) then((atI d_0.Comments x0).bind fun y0=>(if(decide (y0.ID < 1)) then(some (.out (.inl 2))) else(if(decide (d_0.Last < y0.ID)) then(some (.out (.inl 2))) else(if(decide (0 < x0)) then((atI d_0.Comments (IntKind.i64.wrap (x0 - 1))).bind fun y1=>(if(decide (y0.ID≤y1.ID)) then(some (.out (.inl 8))) else(if(events_1.ks.contains y0.ID) then(some (.out (.inl 7))) else((g_document_anchored d_0 y0 events_1).bind fun r0=>(if(r0 != 0) then(some (.out (.inl r0))) else((g_lines_Name y0.Author).bind fun r1=>(if r1 then((g_charset_Valid y0.Text).bind fun r2=>(if r2 then(if(y0.Text == ([]:List UInt8)) then(some (.out (.inl 4))) else(if(decide (400 < (y0.Text.length:Int))) then(some (.out (.inl 9))) else(some (.go (IntKind.i64.wrap (x0+1)))))) else(some (.out (.inl 10))))) else(some (.out (.inl 5)))))))))) else(if(events_1.ks.contains y0.ID) then(some (.out (.inl 7))) else((g_document_anchored d_0 y0 events_1).bind fun r3=>(if(r3 != 0) then(some (.out (.inl r3))) else((g_lines_Name y0.Author).bind fun r4=>(if r4 then((g_charset_Valid y0.Text).bind fun r5=>(if r5 then(if(y0.Text == ([]:List UInt8)) then(some (.out (.inl 4))) else(if(decide (400 < (y0.Text.length:Int))) then(some (.out (.inl 9))) else(some (.go (IntKind.i64.wrap (x0+1)))))) else(some (.out (.inl 10))))) else(some (.out (.inl 5)))))))))))) else(some (.out (.inr ()))))
def g_document_comments(d_0:T_api_Document)(events_1:MI Int):Option (Int) :=
 (if(decide (64 < (d_0.Comments.length:Int))) then(some 9) else((iter (g_document_comments_s1 d_0 events_1) 0).bind fun e0=>(match e0 with|Sum.inl e0=>(some e0)|Sum.inr (e0)=>(some 0))))
theorem a_document_comments{I:World→Prop}(hI:Stab I)(hU8T:∀ w,I w→U8T w){d_0:T_api_Document}{events_1:MI Int}{r:Int}(h:g_document_comments d_0 events_1=some r):AFun Tryz.prog I 109 [T_api_Document.d d_0,.mp .i64 events_1.ks (events_1.vs.map (D.int .i64))] (.int .i64 r):=by
 have dd:=dd_EA;have k:=True.intro;have q:=k;have rs:=Tryz.results109;unfold g_document_comments at h;refine .en hI Tryz.func109 Tryz.ntmps109 ?_;refine xs<|rz ?_;refine es<|xs<|xs<|rz ?_;refine es ?_;obtain⟨k,h⟩|⟨k,h⟩:=iK k h
 ·refine xt<|xs<|rz ?_;refine es<|xr<|er ?_;cases h;exact en fr
 refine xf<|xk<|es<|xs<|xs<|rz ?_;refine es<|xb ?_;obtain⟨e0,h0,h⟩:=bs h;refine rb_loop (fun x0=>⟨envL [(1,.mp .i64 events_1.ks (events_1.vs.map (D.int .i64))),(2,.ptr 0 0),(15,.sl (d_0.Comments.map T_api_Comment.d)),(16,.int .i64 (d_0.Comments.length:Int)),(17,.int .i64 x0)],heapL [(0,.box none [.str d_0.Title,.str d_0.Lang,.int .u8 d_0.Rate,.bool d_0.Drop,.int .i64 d_0.Last,.sl (d_0.Regions.map T_api_Region.d),.sl (d_0.Events.map T_api_Event.d),.sl (d_0.Comments.map T_api_Comment.d)])],1,84⟩) (fun w=>match w with|Sum.inl _=>.ret|Sum.inr (_)=>.exit 0) (fun w=>match w with|Sum.inl e0=>⟨envL [(4,.int .i64 e0)],heapL [],0,84⟩|Sum.inr (e0)=>⟨envL [],heapL [],0,84⟩) h0 (wk []) (by intro w;rcases w with w|w<;>simp) ?_ ?_
 ·clear h;intro x0 y h;unfold g_document_comments_s1 at h;refine xs<|rz ?_;refine es<|xs ?_;obtain⟨k,h⟩|⟨k,h⟩:=iK k h
  ·refine xt<|xk<|es<|xs<|xb<|xs<|rK fun K _ E J=>zz ?_;obtain⟨y0,q,h⟩:=bK q h;refine zz ?_;subst E J;refine es<|xs<|rz ?_;refine es<|xs<|xb<|xs<|rK fun K _ E J=>zz ?_;obtain⟨k,h⟩|⟨k,h⟩:=iK k h
   ·refine zz ?_;subst E J;refine es<|xt<|xs<|rz ?_;refine es<|xr<|br<|er<|br<|er ?_;cases h;exact en ⟨rfl,wk []⟩
   refine zz ?_;subst E J;refine es ?_;obtain⟨k,h⟩|⟨k,h⟩:=iK k h
   ·refine xt<|xs<|rz ?_;refine es<|xr<|br<|er<|br<|er ?_;cases h;exact en ⟨rfl,wk []⟩
   refine xf<|xs<|rD hI fun K _ E J=>zz ?_;obtain⟨k,h⟩|⟨k,h⟩:=iK k h
   ·refine zz ?_;obtain⟨y1,q,h⟩:=bK q h;refine zz ?_;subst E J;refine es ?_;obtain⟨k,h⟩|⟨k,h⟩:=iK k h
    ·refine xt<|xs<|rz ?_;refine es<|xr<|br<|er<|br<|er ?_;cases h;exact en ⟨rfl,wk []⟩
    refine xf<|xs<|rz ?_;refine es ?_;obtain⟨k,h⟩|⟨k,h⟩:=iK k h
    ·refine xt<|xs<|rz ?_;refine es<|xr<|br<|er<|br<|er ?_;cases h;exact en ⟨rfl,wk []⟩
    refine xf<|xk<|bn<|es<|xs<|xs<|rK fun K _ E J=>zz ?_;obtain⟨r0,h1,h⟩:=bs h;refine cw (a_document_anchored hI hU8T h1)<|zz ?_;subst E J;refine es<|xs<|rz ?_;refine es ?_;obtain⟨k,h⟩|⟨k,h⟩:=iK k h
    ·refine xt<|xs<|rz ?_;refine es<|xr<|er<|br<|er ?_;cases h;exact en ⟨rfl,wk []⟩
    refine xf<|xk<|es<|xb<|xs<|rK fun K _ E J=>zz ?_;obtain⟨r1,h2,h⟩:=bs h;refine cw (a_lines_Name hI h2)<|zz ?_;subst E J;refine es ?_;obtain⟨k,h⟩|⟨k,h⟩:=iK k h
    ·refine xf<|xs<|rK fun K _ E J=>zz ?_;obtain⟨r2,h3,h⟩:=bs h;refine cw (a_charset_Valid hI hU8T h3)<|zz ?_;subst E J;refine es ?_;obtain⟨k,h⟩|⟨k,h⟩:=iK k h
     ·refine xf<|xs<|rz ?_;refine es ?_;obtain⟨k,h⟩|⟨k,h⟩:=iK k h
      ·refine xt<|xs<|rz ?_;refine es<|xr<|br<|br<|er ?_;cases h;exact en ⟨rfl,wk []⟩
      refine xf<|xs<|rz ?_;refine es ?_;obtain⟨k,h⟩|⟨k,h⟩:=iK k h
      ·refine xt<|xs<|rz ?_;refine es<|xr<|br<|br<|er ?_;cases h;exact en ⟨rfl,wk []⟩
      refine xf<|xk<|bn<|bn<|es<|rz ?_;cases h;exact en ⟨rfl,wk []⟩
     refine xt<|xs<|rz ?_;refine es<|xr<|br<|br<|er ?_;cases h;exact en ⟨rfl,wk []⟩
    refine xt<|xs<|rz ?_;refine es<|xr<|br<|br<|er ?_;cases h;exact en ⟨rfl,wk []⟩
   refine zz ?_;subst E J;refine es<|xf<|xs<|rz ?_;refine es ?_;obtain⟨k,h⟩|⟨k,h⟩:=iK k h
   ·refine xt<|xs<|rz ?_;refine es<|xr<|br<|er<|br<|er ?_;cases h;exact en ⟨rfl,wk []⟩
   refine xf<|xk<|bn<|es<|xs<|xs<|rK fun K _ E J=>zz ?_;obtain⟨r3,h4,h⟩:=bs h;refine cw (a_document_anchored hI hU8T h4)<|zz ?_;subst E J;refine es<|xs<|rz ?_;refine es ?_;obtain⟨k,h⟩|⟨k,h⟩:=iK k h
   ·refine xt<|xs<|rz ?_;refine es<|xr<|er<|br<|er ?_;cases h;exact en ⟨rfl,wk []⟩
   refine xf<|xk<|es<|xb<|xs<|rK fun K _ E J=>zz ?_;obtain⟨r4,h5,h⟩:=bs h;refine cw (a_lines_Name hI h5)<|zz ?_;subst E J;refine es ?_;obtain⟨k,h⟩|⟨k,h⟩:=iK k h
   ·refine xf<|xs<|rK fun K _ E J=>zz ?_;obtain⟨r5,h6,h⟩:=bs h;refine cw (a_charset_Valid hI hU8T h6)<|zz ?_;subst E J;refine es ?_;obtain⟨k,h⟩|⟨k,h⟩:=iK k h
    ·refine xf<|xs<|rz ?_;refine es ?_;obtain⟨k,h⟩|⟨k,h⟩:=iK k h
     ·refine xt<|xs<|rz ?_;refine es<|xr<|br<|br<|er ?_;cases h;exact en ⟨rfl,wk []⟩
     refine xf<|xs<|rz ?_;refine es ?_;obtain⟨k,h⟩|⟨k,h⟩:=iK k h
     ·refine xt<|xs<|rz ?_;refine es<|xr<|br<|br<|er ?_;cases h;exact en ⟨rfl,wk []⟩
     refine xf<|xk<|bn<|bn<|es<|rz ?_;cases h;exact en ⟨rfl,wk []⟩
    refine xt<|xs<|rz ?_;refine es<|xr<|br<|br<|er ?_;cases h;exact en ⟨rfl,wk []⟩
   refine xt<|xs<|rz ?_;refine es<|xr<|br<|br<|er ?_;cases h;exact en ⟨rfl,wk []⟩
  refine xf<|xx<|ee ?_;cases h;exact en ⟨rfl,wk []⟩
 rcases e0 with e0|e0
 ·try dsimp only at h ⊢
  refine br<|er ?_;cases h;exact en fr
 try dsimp only at h ⊢
 refine bh<|es<|xs<|rz ?_;refine es<|xr ?_;cases h;exact en fr
def g_document_Check_s1(d_0:T_api_Document)(x0:Int × (List Int) × (List Int)):Option (Nx (Int × (List Int) × (List Int)) (Int ⊕ ((List Int) × (List Int)))) :=
 (if(decide (x0.1 < (d_0.Events.length:Int))) then((atI d_0.Events x0.1).bind fun y0=>((g_event_Check y0 d_0.Regions).bind fun r0=>(if(r0 != 0) then(some (.out (.inl r0))) else(((if(decide (d_0.Last < y0.ID)) then(some (.out 2)) else(if(decide (0 < x0.1)) then((atI d_0.Events (IntKind.i64.wrap (x0.1 - 1))).bind fun y1=>((g_event_Less y1 y0).bind fun r1=>(if r1 then(if(x0.2.1.contains y0.ID) then(some (.out 7)) else(some (.go ()))) else(some (.out 8))))) else(if(x0.2.1.contains y0.ID) then(some (.out 7)) else(some (.go ()))))):Option (Nx (Unit) (Int))).bind fun w0=>match w0 with|.go v0=>(some (.go ((IntKind.i64.wrap (x0.1+1)),(putK x0.2.1 y0.ID),(putV x0.2.1 x0.2.2 y0.ID x0.1))))|.out e0=>(some (.out (.inl e0))))))) else(some (.out (.inr (x0.2.1,x0.2.2)))))
def g_document_Check(d_0:T_api_Document):Option (Int) :=
 ((g_document_header d_0).bind fun r7=>(if(r7 != 0) then(some r7) else((g_region_CheckList d_0.Regions).bind fun r0=>(if(r0 != 0) then(some r0) else(if(decide (400 < (d_0.Events.length:Int))) then(some 9) else((iter (g_document_Check_s1 d_0) (0,([]:List Int),([]:List Int))).bind fun e0=>(match e0 with|Sum.inl e0=>(some e0)|Sum.inr (e0)=>((g_document_comments d_0 (MI.mk e0.1 e0.2)).bind fun r1=>(some r1)))))))))
theorem a_document_Check{I:World→Prop}(hI:Stab I)(hShp:∀ w,I w→Shp w)(hU8T:∀ w,I w→U8T w){d_0:T_api_Document}{r:Int}(h:g_document_Check d_0=some r):AFun Tryz.prog I 41 [T_api_Document.d d_0] (.int .i64 r):=by
 have dd:=dd_EA;have k:=True.intro;have q:=k;have rs:=Tryz.results41;unfold g_document_Check at h;refine .en hI Tryz.func41 Tryz.ntmps41 ?_;refine xs<|rz ?_;refine es<|xs<|xs<|rK fun K _ E J=>zz ?_;obtain⟨r7,h8,h⟩:=bs h;refine cw (a_document_header hI hU8T h8)<|zz ?_;subst E J;refine es<|xs<|rz ?_;refine es ?_;obtain⟨k,h⟩|⟨k,h⟩:=iK k h
 ·refine xt<|xs<|rz ?_;refine es<|xr<|er ?_;cases h;exact en fr
 refine xf<|xk<|es<|xs<|xs<|rK fun K _ E J=>zz ?_;obtain⟨r0,h0,h⟩:=bs h;refine cw (a_region_CheckList hI h0)<|zz ?_;subst E J;refine es<|xs<|rz ?_;refine es ?_;obtain⟨k,h⟩|⟨k,h⟩:=iK k h
 ·refine xt<|xs<|rz ?_;refine es<|xr<|er ?_;cases h;exact en fr
 refine xf<|xk<|es<|xs<|xs<|rz ?_;refine es ?_;obtain⟨k,h⟩|⟨k,h⟩:=iK k h
 ·refine xt<|xs<|rz ?_;refine es<|xr<|er ?_;cases h;exact en fr
 refine xf<|xk<|es<|xs<|rz ?_;refine es<|xs<|xs<|rz ?_;refine es<|xb ?_;obtain⟨e0,h1,h⟩:=bs h;refine rb_loop (fun x0=>⟨envL [(1,.ptr 0 0),(5,.omp 1),(28,.sl (d_0.Events.map T_api_Event.d)),(29,.int .i64 (d_0.Events.length:Int)),(30,.int .i64 x0.1)],heapL [(0,.box none [.str d_0.Title,.str d_0.Lang,.int .u8 d_0.Rate,.bool d_0.Drop,.int .i64 d_0.Last,.sl (d_0.Regions.map T_api_Region.d),.sl (d_0.Events.map T_api_Event.d),.sl (d_0.Comments.map T_api_Comment.d)]),(1,.mp .i64 x0.2.1 (x0.2.2.map (D.int .i64)) false)],2,79⟩) (fun w=>match w with|Sum.inl _=>.ret|Sum.inr (_)=>.exit 0) (fun w=>match w with|Sum.inl e0=>⟨envL [(2,.int .i64 e0)],heapL [],0,79⟩|Sum.inr (e0)=>⟨envL [(1,.ptr 0 0),(5,.omp 1)],heapL [(0,.box none [.str d_0.Title,.str d_0.Lang,.int .u8 d_0.Rate,.bool d_0.Drop,.int .i64 d_0.Last,.sl (d_0.Regions.map T_api_Region.d),.sl (d_0.Events.map T_api_Event.d),.sl (d_0.Comments.map T_api_Comment.d)]),(1,.mp .i64 e0.1 (e0.2.map (D.int .i64)) false)],2,79⟩) h1 (wk [(1,some 17)]) (by intro w;rcases w with w|w<;>simp) ?_ ?_
 ·clear h;intro x0 y h;unfold g_document_Check_s1 at h;refine xs<|rz ?_;refine es<|xs ?_;obtain⟨k,h⟩|⟨k,h⟩:=iK k h
  ·refine xt<|xk<|es<|xs<|xb<|xs<|rK fun K _ E J=>zz ?_;obtain⟨y0,q,h⟩:=bK q h;refine zz ?_;subst E J;refine es<|xs<|xs<|rK fun K _ E J=>zz ?_;obtain⟨r1,h2,h⟩:=bs h;refine cw (a_event_Check hI hShp hU8T h2)<|zz ?_;subst E J;refine es<|xs<|rz ?_;refine es ?_;obtain⟨k,h⟩|⟨k,h⟩:=iK k h
   ·refine xt<|xs<|rz ?_;refine es<|xr<|er<|br<|er ?_;cases h;exact en ⟨rfl,wk []⟩
   refine xf<|xk<|es<|xs<|rz ?_;refine es ?_;obtain⟨w0,h3,h⟩:=bs h;refine rb_seg (fun v0=>⟨envL [(1,.ptr 0 0),(5,.omp 1),(6,.int .i64 x0.1),(7,.ptr 2 0),(28,.sl (d_0.Events.map T_api_Event.d)),(29,.int .i64 (d_0.Events.length:Int)),(30,.int .i64 x0.1)],heapL [(0,.box none [.str d_0.Title,.str d_0.Lang,.int .u8 d_0.Rate,.bool d_0.Drop,.int .i64 d_0.Last,.sl (d_0.Regions.map T_api_Region.d),.sl (d_0.Events.map T_api_Event.d),.sl (d_0.Comments.map T_api_Comment.d)]),(1,.mp .i64 x0.2.1 (x0.2.2.map (D.int .i64)) false),(2,.box none [.int .i64 y0.ID,.int .i64 y0.Span.In,.int .i64 y0.Span.Out,.str y0.Region,.int .u8 y0.Kind,.str y0.Speaker,.sl (y0.Rows.map T_api_Row.d)])],3,79⟩) (fun _=>.ret) (fun e1=>⟨envL [(2,.int .i64 e1)],heapL [],0,79⟩) h3 (by intro w;simp) ?_ ?_ ?_
   ·clear h;intro w0 h;refine xb<|xs<|rz ?_;refine es ?_;obtain⟨k,h⟩|⟨k,h⟩:=iK k h
    ·refine xt<|xs<|rz ?_;refine es<|xr<|br ?_;cases h;exact en ⟨rfl,wk []⟩
    refine xf<|xs<|rD hI fun K _ E J=>zz ?_;obtain⟨k,h⟩|⟨k,h⟩:=iK k h
    ·refine zz ?_;obtain⟨y1,q,h⟩:=bK q h;refine zz ?_;obtain⟨r2,h4,h⟩:=bs h;refine cd (a_event_Less hI h4)<|zz ?_;subst E J;refine es ?_;obtain⟨k,h⟩|⟨k,h⟩:=iK k h
     ·refine xf<|xs<|rz ?_;refine es ?_;obtain⟨k,h⟩|⟨k,h⟩:=iK k h
      ·refine xt<|xs<|rz ?_;refine es<|xr<|br ?_;cases h;exact en ⟨rfl,wk []⟩
      refine xf<|xk<|bn ?_;cases h;exact en ⟨rfl,wk [(2,some 6)]⟩
     refine xt<|xs<|rz ?_;refine es<|xr<|br ?_;cases h;exact en ⟨rfl,wk []⟩
    refine zz ?_;subst E J;refine es<|xf<|xs<|rz ?_;refine es ?_;obtain⟨k,h⟩|⟨k,h⟩:=iK k h
    ·refine xt<|xs<|rz ?_;refine es<|xr<|br ?_;cases h;exact en ⟨rfl,wk []⟩
    refine xf<|xk<|bn ?_;cases h;exact en ⟨rfl,wk [(2,some 6)]⟩
   ·rintro v0 rfl;dsimp only at h;refine rz ?_;refine bn<|es<|rz ?_;cases h;exact en ⟨rfl,wk []⟩
   rintro e1 rfl;dsimp only at h;refine br<|er ?_;cases h;exact en ⟨rfl,wk []⟩
  refine xf<|xx<|ee ?_;cases h;exact en ⟨rfl,wk []⟩
 rcases e0 with e0|e0
 ·try dsimp only at h ⊢
  refine br<|er ?_;cases h;exact en fr
 try dsimp only at h ⊢
 refine bh<|es<|xs<|rK fun K _ E J=>zz ?_;obtain⟨r3,h5,h⟩:=bs h;refine cw (a_document_comments hI hU8T h5)<|zz ?_;subst E J;refine es<|xr ?_;cases h;exact en fr
structure T_api_Profile where
 Name:List UInt8
 Reading:Int
 MinFrames:Int
 MaxFrames:Int
 MinGap:Int
 ShotBefore:Int
 ShotAfter:Int
 Rows:Int
 Cols:Int
 Forbidden:List UInt8
 SafeTop:Int
 SafeBottom:Int
 SafeLeft:Int
 SafeRight:Int
 deriving DecidableEq
def T_api_Profile.d(x:T_api_Profile):D:=.agg [.str x.Name,.int .i64 x.Reading,.int .i64 x.MinFrames,.int .i64 x.MaxFrames,.int .i64 x.MinGap,.int .i64 x.ShotBefore,.int .i64 x.ShotAfter,.int .i64 x.Rows,.int .i64 x.Cols,.str x.Forbidden,.int .i64 x.SafeTop,.int .i64 x.SafeBottom,.int .i64 x.SafeLeft,.int .i64 x.SafeRight]
structure T_profile_limit where
 n_:Int
 lo_:Int
 hi_:Int
 deriving DecidableEq
def T_profile_limit.d(x:T_profile_limit):D:=.agg [.int .i64 x.n_,.int .i64 x.lo_,.int .i64 x.hi_]
theorem dd_EB:(∀ x,T_api_Region.d x=.agg [.str x.Name,.int .i64 x.Top,.int .i64 x.Height,.int .i64 x.Left,.int .i64 x.Width,.int .u8 x.Align,.bool x.Bottom])∧(∀ x,T_api_Comment.d x=.agg [.int .i64 x.ID,.int .i64 x.Event,.int .i64 x.From,.int .i64 x.To,.str x.Author,.str x.Text,.bool x.Done,.bool x.Lost])∧(∀ x,T_api_Span.d x=.agg [.int .i64 x.In,.int .i64 x.Out])∧(∀ x,T_api_Style.d x=.agg [.int .u8 x.Color,.bool x.Italic,.bool x.Underline])∧(∀ x,T_api_Run.d x=.agg [.str x.Text,.int .u8 x.Style.Color,.bool x.Style.Italic,.bool x.Style.Underline,.str x.Ruby])∧(∀ x,T_api_Row.d x=.agg [.sl (x.Runs.map T_api_Run.d)])∧(∀ x,T_api_Event.d x=.agg [.int .i64 x.ID,.int .i64 x.Span.In,.int .i64 x.Span.Out,.str x.Region,.int .u8 x.Kind,.str x.Speaker,.sl (x.Rows.map T_api_Row.d)])∧(∀ x,T_api_Bound.d x=.agg [.int .i64 x.I,.int .i64 x.J,.int .i64 x.C,.int .u8 x.Rule,.int .i64 x.ID,.int .i64 x.Other])∧(∀ x,T_api_Profile.d x=.agg [.str x.Name,.int .i64 x.Reading,.int .i64 x.MinFrames,.int .i64 x.MaxFrames,.int .i64 x.MinGap,.int .i64 x.ShotBefore,.int .i64 x.ShotAfter,.int .i64 x.Rows,.int .i64 x.Cols,.str x.Forbidden,.int .i64 x.SafeTop,.int .i64 x.SafeBottom,.int .i64 x.SafeLeft,.int .i64 x.SafeRight])∧(∀ x,T_profile_limit.d x=.agg [.int .i64 x.n_,.int .i64 x.lo_,.int .i64 x.hi_])∧(∀ x,T_api_Document.d x=.agg [.str x.Title,.str x.Lang,.int .u8 x.Rate,.bool x.Drop,.int .i64 x.Last,.sl (x.Regions.map T_api_Region.d),.sl (x.Events.map T_api_Event.d),.sl (x.Comments.map T_api_Comment.d)])∧(∀ x,T_timebase_rate.d x=.agg [.str x.name_,.int .i64 x.ticks_,.int .i64 x.nominal_,.bool x.drop_]):=⟨fun _=>rfl,fun _=>rfl,fun _=>rfl,fun _=>rfl,fun _=>rfl,fun _=>rfl,fun _=>rfl,fun _=>rfl,fun _=>rfl,fun _=>rfl,fun _=>rfl,fun _=>rfl⟩
def g_profile_limits_s1(p_0:T_api_Profile)(x7:Int × (List T_profile_limit)):Option (Nx (Int × (List T_profile_limit)) ((List T_profile_limit))) :=
 (if(decide (x7.1 < 4)) then((atI [p_0.SafeTop,p_0.SafeBottom,p_0.SafeLeft,p_0.SafeRight] x7.1).bind fun y0=>(if(x7.2.length+1) * 24≤140737488355328 then(some (.go ((IntKind.i64.wrap (x7.1+1)),(x7.2++[(T_profile_limit.mk y0 0 31)])))) else none)) else(some (.out x7.2)))
def g_profile_limits(p_0:T_api_Profile):Option ((List T_profile_limit)) :=
 ((iter (g_profile_limits_s1 p_0) (0,[(T_profile_limit.mk p_0.Reading 1 10000),(T_profile_limit.mk p_0.MinFrames 1 5184000),(T_profile_limit.mk p_0.MaxFrames 1 5184000),(T_profile_limit.mk p_0.MinGap 0 1000),(T_profile_limit.mk p_0.ShotBefore 0 1000),(T_profile_limit.mk p_0.ShotAfter 0 1000),(T_profile_limit.mk p_0.Rows 1 4),(T_profile_limit.mk p_0.Cols 1 32)])).bind fun e8=>(some e8))
theorem a_profile_limits{I:World→Prop}(hI:Stab I){p_0:T_api_Profile}{r:(List T_profile_limit)}(h:g_profile_limits p_0=some r):AFun Tryz.prog I 169 [T_api_Profile.d p_0] (.sl (r.map T_profile_limit.d)):=by
 have dd:=dd_EB;have k:=True.intro;have q:=k;have rs:=Tryz.results169;unfold g_profile_limits at h;refine .en hI Tryz.func169 Tryz.ntmps169 ?_;refine xs<|rz ?_;refine es<|xs<|rz ?_;refine es<|xs<|xs<|rz ?_;refine es<|xb ?_;obtain⟨e8,h0,h⟩:=bs h;refine rb_loop (fun x7=>⟨envL [(3,.own 0 x7.2.length),(39,.own 1 4),(40,.int .i64 4),(41,.int .i64 x7.1)],heapL [(0,.vec 278 3 (x7.2.map T_profile_limit.d) false),(1,.vec 3 1 ([p_0.SafeTop,p_0.SafeBottom,p_0.SafeLeft,p_0.SafeRight].map (D.int .i64)) false)],2,52⟩) (fun _=>.exit 0) (fun e8=>⟨envL [(3,.own 0 e8.length)],heapL [(0,.vec 278 3 (e8.map T_profile_limit.d) false)],1,52⟩) h0 (wk [(0,some 26),(1,some 36)]) (by intro w;simp) ?_ ?_
 ·clear h;intro x7 y h;unfold g_profile_limits_s1 at h;refine xs<|rz ?_;refine es<|xs ?_;obtain⟨k,h⟩|⟨k,h⟩:=iK k h
  ·refine xt<|xk<|es<|xs<|xb<|xs<|rK fun K _ E J=>zz ?_;obtain⟨y0,h1,h⟩:=bind_some h;obtain⟨h2,h3,h4⟩:=atI_own h1;have h4:=h4 (D.int .i64);simp only[List.map_cons,List.map_nil,dd] at h4;have h3:x7.1 < 4:=by simpa using h3
   have q:=And.intro h2<|And.intro h3<|And.intro @h4 q;refine zz ?_;subst E J;refine es<|rK fun K _ E J=>zz ?_;obtain⟨h5,h⟩:=ite_on h;have h6:x7.2.length+1≤9223372036854775807:=by omega
   try simp only[Nat.reduceLeDiff] at h6
   have q:=And.intro @h6<|And.intro @h5<|q;refine zz ?_;subst E J;refine bn<|es<|rz ?_;cases h;exact en ⟨rfl,wk [(0,some 10)]⟩
  refine xf<|xx<|ee ?_;cases h;exact en ⟨rfl,wk []⟩
 refine bh<|es<|xs<|rz ?_;refine es<|xr ?_;cases h;exact en fr
def g_profile_Check_s1(r0:(List T_profile_limit))(x0:Int):Option (Nx (Int) (Unit ⊕ Unit)) :=
 (if(decide (x0 < (r0.length:Int))) then((atI r0 x0).bind fun y0=>(if(decide (y0.n_ < y0.lo_)) then(some (.out (.inl ()))) else(if(decide (y0.hi_ < y0.n_)) then(some (.out (.inl ()))) else(some (.go (IntKind.i64.wrap (x0+1))))))) else(some (.out (.inr ()))))
def g_profile_Check_s2(p_0:T_api_Profile)(x0:Int × Nat):Option (Nx (Int × Nat) (Unit ⊕ Unit)) :=
 (if(decide (x0.2 < p_0.Forbidden.length)) then(if(decide ((runeAt p_0.Forbidden x0.2)≤x0.1)) then(some (.out (.inl ()))) else(some (.go ((runeAt p_0.Forbidden x0.2),(x0.2+widthAt p_0.Forbidden x0.2))))) else(some (.out (.inr ()))))
def g_profile_Check(p_0:T_api_Profile):Option (Int) :=
 ((g_lines_Name p_0.Name).bind fun r7=>(if r7 then((g_profile_limits p_0).bind fun r0=>((iter (g_profile_Check_s1 r0) 0).bind fun e0=>(match e0 with|Sum.inl e0=>(some 2)|Sum.inr (e0)=>(((if(decide (15≤(IntKind.i64.wrap (p_0.SafeTop+p_0.SafeBottom)))) then(some true) else(some (decide (32≤(IntKind.i64.wrap (p_0.SafeLeft+p_0.SafeRight)))))):Option (Bool)).bind fun v0=>(if v0 then(some 2) else(if(decide (p_0.MaxFrames < p_0.MinFrames)) then(some 8) else((g_charset_Valid p_0.Forbidden).bind fun r1=>(if r1 then((iter (g_profile_Check_s2 p_0) (-1,0)).bind fun e1=>(match e1 with|Sum.inl e1=>(some 8)|Sum.inr (e1)=>(some 0))) else(some 10))))))))) else(some 5)))
theorem a_profile_Check{I:World→Prop}(hI:Stab I)(hU8T:∀ w,I w→U8T w){p_0:T_api_Profile}{r:Int}(h:g_profile_Check p_0=some r):AFun Tryz.prog I 84 [T_api_Profile.d p_0] (.int .i64 r):=by
 have dd:=dd_EB;have k:=True.intro;have q:=k;have rs:=Tryz.results84;unfold g_profile_Check at h;refine .en hI Tryz.func84 Tryz.ntmps84 ?_;refine xs<|rz ?_;refine es<|xs<|xs<|rK fun K _ E J=>zz ?_;obtain⟨r7,h8,h⟩:=bs h;refine cw (a_lines_Name hI h8)<|zz ?_;subst E J;refine es ?_;obtain⟨k,h⟩|⟨k,h⟩:=iK k h
 ·refine xf<|xk<|es<|xs<|xs<|rK fun K _ E J=>zz ?_;obtain⟨r0,h0,h⟩:=bs h;refine cw (a_profile_limits hI h0)<|zz ?_;subst E J;refine es<|xb ?_;obtain⟨e0,h1,h⟩:=bs h;refine rb_loop (fun x0=>⟨envL [(1,.ptr 0 0),(13,.sl (r0.map T_profile_limit.d)),(14,.int .i64 (r0.length:Int)),(15,.int .i64 x0)],heapL [(0,.box none [.str p_0.Name,.int .i64 p_0.Reading,.int .i64 p_0.MinFrames,.int .i64 p_0.MaxFrames,.int .i64 p_0.MinGap,.int .i64 p_0.ShotBefore,.int .i64 p_0.ShotAfter,.int .i64 p_0.Rows,.int .i64 p_0.Cols,.str p_0.Forbidden,.int .i64 p_0.SafeTop,.int .i64 p_0.SafeBottom,.int .i64 p_0.SafeLeft,.int .i64 p_0.SafeRight])],1,68⟩) (fun w=>match w with|Sum.inl _=>.ret|Sum.inr (_)=>.exit 0) (fun w=>match w with|Sum.inl e0=>⟨envL [(2,.int .i64 2)],heapL [],0,68⟩|Sum.inr (e0)=>⟨envL [(1,.ptr 0 0)],heapL [(0,.box none [.str p_0.Name,.int .i64 p_0.Reading,.int .i64 p_0.MinFrames,.int .i64 p_0.MaxFrames,.int .i64 p_0.MinGap,.int .i64 p_0.ShotBefore,.int .i64 p_0.ShotAfter,.int .i64 p_0.Rows,.int .i64 p_0.Cols,.str p_0.Forbidden,.int .i64 p_0.SafeTop,.int .i64 p_0.SafeBottom,.int .i64 p_0.SafeLeft,.int .i64 p_0.SafeRight])],1,68⟩) h1 (wk []) (by intro w;rcases w with w|w<;>simp) ?_ ?_
  ·clear h;intro x0 y h;unfold g_profile_Check_s1 at h;refine xs<|rz ?_;refine es<|xs ?_;obtain⟨k,h⟩|⟨k,h⟩:=iK k h
   ·refine xt<|xk<|es<|xs<|xb<|xs<|rK fun K _ E J=>zz ?_;obtain⟨y0,q,h⟩:=bK q h;refine zz ?_;subst E J;refine es<|xs<|rK fun K _ E J=>zz ?_;obtain⟨k,h⟩|⟨k,h⟩:=iK k h
    ·refine zz ?_;subst E J;refine es<|xt<|xs<|rz ?_;refine es<|xr<|br<|er ?_;cases h;exact en ⟨rfl,wk []⟩
    refine zz ?_;subst E J;refine es ?_;obtain⟨k,h⟩|⟨k,h⟩:=iK k h
    ·refine xt<|xs<|rz ?_;refine es<|xr<|br<|er ?_;cases h;exact en ⟨rfl,wk []⟩
    refine xf<|xk<|bn<|es<|rz ?_;cases h;exact en ⟨rfl,wk []⟩
   refine xf<|xx<|ee ?_;cases h;exact en ⟨rfl,wk []⟩
  rcases e0 with e0|e0
  ·try dsimp only at h ⊢
   refine br<|er ?_;cases h;exact en fr
  try dsimp only at h ⊢
  refine bh<|es<|xs<|xb ?_;obtain⟨v0,h2,h⟩:=bs h;refine rb_cut (fun v0=>⟨envL [(1,.ptr 0 0),(32,.bool v0)],heapL [(0,.box none [.str p_0.Name,.int .i64 p_0.Reading,.int .i64 p_0.MinFrames,.int .i64 p_0.MaxFrames,.int .i64 p_0.MinGap,.int .i64 p_0.ShotBefore,.int .i64 p_0.ShotAfter,.int .i64 p_0.Rows,.int .i64 p_0.Cols,.str p_0.Forbidden,.int .i64 p_0.SafeTop,.int .i64 p_0.SafeBottom,.int .i64 p_0.SafeLeft,.int .i64 p_0.SafeRight])],1,68⟩) h2 ?_ ?_
  ·clear h;intro v0 h;refine rK fun K _ E J=>zz ?_;obtain⟨k,h⟩|⟨k,h⟩:=iK k h
   ·refine zz ?_;subst E J;cases h;exact en ⟨rfl,wk []⟩
   refine zz ?_;subst E J;cases h;exact en ⟨rfl,wk []⟩
  obtain⟨k,h⟩|⟨k,h⟩:=iK k h
  ·refine xt<|xs<|rz ?_;refine es<|xr<|br<|er ?_;cases h;exact en fr
  refine xf<|xs<|rz ?_;refine es ?_;obtain⟨k,h⟩|⟨k,h⟩:=iK k h
  ·refine xt<|xs<|rz ?_;refine es<|xr<|br<|er ?_;cases h;exact en fr
  refine xf<|xs<|rK fun K _ E J=>zz ?_;obtain⟨r1,h3,h⟩:=bs h;refine cw (a_charset_Valid hI hU8T h3)<|zz ?_;subst E J;refine es ?_;obtain⟨k,h⟩|⟨k,h⟩:=iK k h
  ·refine xf<|xk<|bn<|es<|xs<|rz ?_;refine es<|xs<|xs<|rz ?_;refine es<|xb ?_;obtain⟨e1,h4,h⟩:=bs h;refine rb_loop (fun x1=>⟨envL [(5,.int .i32 x1.1),(60,.ptr 0 0)],heapL [(0,.iter p_0.Forbidden x1.2)],1,68⟩) (fun w=>match w with|Sum.inl _=>.ret|Sum.inr (_)=>.exit 3) (fun w=>match w with|Sum.inl e1=>⟨envL [(2,.int .i64 8)],heapL [],0,68⟩|Sum.inr (e1)=>⟨envL [],heapL [],0,68⟩) h4 (wk [(0,some 15)]) (by intro w;rcases w with w|w<;>simp) ?_ ?_
   ·clear h;intro x1 y h;unfold g_profile_Check_s2 at h;refine xs<|rK fun K _ E J=>zz ?_;obtain⟨k,h⟩|⟨k,h⟩:=iK k h
    ·have k:=And.intro (of_decide_eq_true k.1) k.2;refine zz ?_;subst E J;refine es<|xs<|xt<|xk<|es<|xb<|xs<|rz ?_;refine es<|xs<|xs<|rz ?_;refine es ?_;obtain⟨k,h⟩|⟨k,h⟩:=iK k h
     ·refine xt<|xs<|rz ?_;refine es<|xr<|er<|br ?_;cases h;exact en ⟨rfl,wk []⟩
     refine xf<|xk<|es<|rz ?_;refine bn ?_;cases h;exact en ⟨rfl,wk []⟩
    have k:=And.intro (of_decide_eq_false k.1) k.2;refine zz ?_;subst E J;refine es<|xs<|xf<|xx<|ee ?_;cases h;exact en ⟨rfl,wk []⟩
   rcases e1 with e1|e1
   ·try dsimp only at h ⊢
    refine br<|er ?_;cases h;exact en fr
   try dsimp only at h ⊢
   refine bh<|es<|xs<|rz ?_;refine es<|xr ?_;cases h;exact en fr
  refine xt<|xs<|rz ?_;refine es<|xr<|br<|er ?_;cases h;exact en fr
 refine xt<|xs<|rz ?_;refine es<|xr<|er ?_;cases h;exact en fr
def g_shots_Check_s1(l_0:List Int)(x0:Int):Option (Nx (Int) (Int ⊕ Unit)) :=
 (if(decide (x0 < (l_0.length:Int))) then((atI l_0 x0).bind fun y0=>(((if(decide (y0 < 1)) then(some true) else(some (decide (5184000 < y0)))):Option (Bool)).bind fun v0=>(if v0 then(some (.out (.inl 2))) else(if(decide (0 < x0)) then((atI l_0 (IntKind.i64.wrap (x0 - 1))).bind fun y1=>(if(decide (y0≤y1)) then(some (.out (.inl 8))) else(some (.go (IntKind.i64.wrap (x0+1)))))) else(some (.go (IntKind.i64.wrap (x0+1)))))))) else(some (.out (.inr ()))))
def g_shots_Check(l_0:List Int):Option (Int) :=
 (if(decide (400 < (l_0.length:Int))) then(some 9) else((iter (g_shots_Check_s1 l_0) 0).bind fun e0=>(match e0 with|Sum.inl e0=>(some e0)|Sum.inr (e0)=>(some 0))))
theorem a_shots_Check{I:World→Prop}(hI:Stab I){l_0:List Int}{r:Int}(h:g_shots_Check l_0=some r):AFun Tryz.prog I 85 [.sl (l_0.map (D.int .i64))] (.int .i64 r):=by
 have dd:=dd_EB;have k:=True.intro;have q:=k;have rs:=Tryz.results85;unfold g_shots_Check at h;refine .en hI Tryz.func85 Tryz.ntmps85 ?_;refine xs<|rz ?_;refine es<|xs<|xs<|rz ?_;refine es ?_;obtain⟨k,h⟩|⟨k,h⟩:=iK k h
 ·refine xt<|xs<|rz ?_;refine es<|xr<|er ?_;cases h;exact en fr
 refine xf<|xk<|es<|xs<|xs<|rz ?_;refine es<|xb ?_;obtain⟨e0,h0,h⟩:=bs h;refine rb_loop (fun x0=>⟨envL [(0,.sl (l_0.map (D.int .i64))),(8,.sl (l_0.map (D.int .i64))),(9,.int .i64 (l_0.length:Int)),(10,.int .i64 x0)],heapL [],0,33⟩) (fun w=>match w with|Sum.inl _=>.ret|Sum.inr (_)=>.exit 0) (fun w=>match w with|Sum.inl e0=>⟨envL [(2,.int .i64 e0)],heapL [],0,33⟩|Sum.inr (e0)=>⟨envL [],heapL [],0,33⟩) h0 (wk []) (by intro w;rcases w with w|w<;>simp) ?_ ?_
 ·clear h;intro x0 y h;unfold g_shots_Check_s1 at h;refine xs<|rz ?_;refine es<|xs ?_;obtain⟨k,h⟩|⟨k,h⟩:=iK k h
  ·refine xt<|xk<|es<|xs<|xb<|xs<|rK fun K _ E J=>zz ?_;obtain⟨y0,q,h⟩:=bK q h;refine zz ?_;subst E J;refine es<|xs ?_;obtain⟨v0,h1,h⟩:=bs h;refine rb_cut (fun v0=>⟨envL [(0,.sl (l_0.map (D.int .i64))),(3,.int .i64 x0),(4,.int .i64 y0),(8,.sl (l_0.map (D.int .i64))),(9,.int .i64 (l_0.length:Int)),(10,.int .i64 x0),(20,.bool v0)],heapL [],0,33⟩) h1 ?_ ?_
   ·clear h;intro v0 h;refine rK fun K _ E J=>zz ?_;obtain⟨k,h⟩|⟨k,h⟩:=iK k h
    ·refine zz ?_;subst E J;cases h;exact en ⟨rfl,wk []⟩
    refine zz ?_;subst E J;cases h;exact en ⟨rfl,wk []⟩
   obtain⟨k,h⟩|⟨k,h⟩:=iK k h
   ·refine xt<|xs<|rz ?_;refine es<|xr<|er<|br<|er ?_;cases h;exact en ⟨rfl,wk []⟩
   refine xf<|xk<|es<|xs<|rK fun K _ E J=>zz ?_;obtain⟨k,h⟩|⟨k,h⟩:=iK k h
   ·refine zz ?_;obtain⟨y1,q,h⟩:=bK q h;refine zz ?_;subst E J;refine es ?_;obtain⟨k,h⟩|⟨k,h⟩:=iK k h
    ·refine xt<|xs<|rz ?_;refine es<|xr<|br<|er ?_;cases h;exact en ⟨rfl,wk []⟩
    refine xf<|xk<|bn<|es<|rz ?_;cases h;exact en ⟨rfl,wk []⟩
   refine zz ?_;subst E J;refine es<|xf<|xk<|bn<|es<|rz ?_;cases h;exact en ⟨rfl,wk []⟩
  refine xf<|xx<|ee ?_;cases h;exact en ⟨rfl,wk []⟩
 rcases e0 with e0|e0
 ·try dsimp only at h ⊢
  refine br<|er ?_;cases h;exact en fr
 try dsimp only at h ⊢
 refine bh<|es<|xs<|rz ?_;refine es<|xr ?_;cases h;exact en fr
def g_repair_check(d_0:T_api_Document)(p_1:T_api_Profile)(l_2:List Int)(tol_3:Int):Option (Int) :=
 ((g_document_Check d_0).bind fun r7=>(if(r7 != 0) then(some r7) else((g_profile_Check p_1).bind fun r0=>(if(r0 != 0) then(some r0) else((g_shots_Check l_2).bind fun r1=>(if(r1 != 0) then(some r1) else(((if(decide (tol_3 < 0)) then(some true) else(some (decide (5184000 < tol_3)))):Option (Bool)).bind fun v0=>(if v0 then(some 2) else(if(decide (255 < (d_0.Events.length:Int))) then(some 9) else(some 0))))))))))
theorem a_repair_check{I:World→Prop}(hI:Stab I)(hShp:∀ w,I w→Shp w)(hU8T:∀ w,I w→U8T w){d_0:T_api_Document}{p_1:T_api_Profile}{l_2:List Int}{tol_3:Int}{r:Int}(h:g_repair_check d_0 p_1 l_2 tol_3=some r):AFun Tryz.prog I 27 [T_api_Document.d d_0,T_api_Profile.d p_1,.sl (l_2.map (D.int .i64)),.int .i64 tol_3] (.int .i64 r):=by
 have dd:=dd_EB;have k:=True.intro;have q:=k;have rs:=Tryz.results27;unfold g_repair_check at h;refine .en hI Tryz.func27 Tryz.ntmps27 ?_;refine xs<|rz ?_;refine es<|xs<|xs<|rK fun K _ E J=>zz ?_;obtain⟨r7,h8,h⟩:=bs h;refine cw (a_document_Check hI hShp hU8T h8)<|zz ?_;subst E J;refine es<|xs<|rz ?_;refine es ?_;obtain⟨k,h⟩|⟨k,h⟩:=iK k h
 ·refine xt<|xs<|rz ?_;refine es<|xr<|er ?_;cases h;exact en fr
 refine xf<|xk<|es<|xs<|xs<|rK fun K _ E J=>zz ?_;obtain⟨r0,h0,h⟩:=bs h;refine cw (a_profile_Check hI hU8T h0)<|zz ?_;subst E J;refine es<|xs<|rz ?_;refine es ?_;obtain⟨k,h⟩|⟨k,h⟩:=iK k h
 ·refine xt<|xs<|rz ?_;refine es<|xr<|er ?_;cases h;exact en fr
 refine xf<|xk<|es<|xs<|xs<|rK fun K _ E J=>zz ?_;obtain⟨r1,h1,h⟩:=bs h;refine cw (a_shots_Check hI h1)<|zz ?_;subst E J;refine es<|xs<|rz ?_;refine es ?_;obtain⟨k,h⟩|⟨k,h⟩:=iK k h
 ·refine xt<|xs<|rz ?_;refine es<|xr<|er ?_;cases h;exact en fr
 refine xf<|xk<|es<|xs<|xb ?_;obtain⟨v0,h2,h⟩:=bs h;refine rb_cut (fun v0=>⟨envL [(4,.ptr 0 0),(27,.bool v0)],heapL [(0,.box none [.str d_0.Title,.str d_0.Lang,.int .u8 d_0.Rate,.bool d_0.Drop,.int .i64 d_0.Last,.sl (d_0.Regions.map T_api_Region.d),.sl (d_0.Events.map T_api_Event.d),.sl (d_0.Comments.map T_api_Comment.d)])],1,39⟩) h2 ?_ ?_
 ·clear h;intro v0 h;refine rK fun K _ E J=>zz ?_;obtain⟨k,h⟩|⟨k,h⟩:=iK k h
  ·refine zz ?_;subst E J;cases h;exact en ⟨rfl,wk []⟩
  refine zz ?_;subst E J;cases h;exact en ⟨rfl,wk []⟩
 obtain⟨k,h⟩|⟨k,h⟩:=iK k h
 ·refine xt<|xs<|rz ?_;refine es<|xr<|br<|er ?_;cases h;exact en fr
 refine xf<|xs<|rz ?_;refine es ?_;obtain⟨k,h⟩|⟨k,h⟩:=iK k h
 ·refine xt<|xs<|rz ?_;refine es<|xr<|br<|er ?_;cases h;exact en fr
 refine xf<|xk<|bn<|es<|xs<|rz ?_;refine es<|xr ?_;cases h;exact en fr
def g_repair_letters_s2(r0:(List UInt8))(x0:Int × Nat):Option (Nx (Int × Nat) (Int)) :=
 (if(decide (x0.2 < r0.length)) then(if((runeAt r0 x0.2) != 32) then(some (.go ((IntKind.i64.wrap (x0.1+1)),(x0.2+widthAt r0 x0.2)))) else(some (.go (x0.1,(x0.2+widthAt r0 x0.2))))) else(some (.out x0.1)))
def g_repair_letters_s1(e_0:T_api_Event)(x7:Int × Int):Option (Nx (Int × Int) (Int)) :=
 (if(decide (x7.2 < (e_0.Rows.length:Int))) then((atI e_0.Rows x7.2).bind fun y0=>((g_style_Plain y0).bind fun r0=>((iter (g_repair_letters_s2 r0) (x7.1,0)).bind fun e0=>(some (.go (e0,(IntKind.i64.wrap (x7.2+1)))))))) else(some (.out x7.1)))
def g_repair_letters(e_0:T_api_Event):Option (Int) :=
 ((iter (g_repair_letters_s1 e_0) (0,0)).bind fun e8=>(some e8))
theorem a_repair_letters{I:World→Prop}(hI:Stab I){e_0:T_api_Event}{r:Int}(h:g_repair_letters e_0=some r):AFun Tryz.prog I 29 [T_api_Event.d e_0] (.int .i64 r):=by
 have dd:=dd_EB;have k:=True.intro;have q:=k;have rs:=Tryz.results29;unfold g_repair_letters at h;refine .en hI Tryz.func29 Tryz.ntmps29 ?_;refine xs<|rz ?_;refine es<|xs<|rz ?_;refine es<|xs<|xs<|rz ?_;refine es<|xb ?_;obtain⟨e8,h0,h⟩:=bs h;refine rb_loop (fun x7=>⟨envL [(3,.int .i64 x7.1),(9,.sl (e_0.Rows.map T_api_Row.d)),(10,.int .i64 (e_0.Rows.length:Int)),(11,.int .i64 x7.2)],heapL [],0,27⟩) (fun _=>.exit 0) (fun e8=>⟨envL [(3,.int .i64 e8)],heapL [],0,27⟩) h0 (wk []) (by intro w;simp) ?_ ?_
 ·clear h;intro x7 y h;unfold g_repair_letters_s1 at h;refine xs<|rz ?_;refine es<|xs ?_;obtain⟨k,h⟩|⟨k,h⟩:=iK k h
  ·refine xt<|xk<|es<|xs<|xb<|xs<|rK fun K _ E J=>zz ?_;obtain⟨y0,q,h⟩:=bK q h;refine zz ?_;subst E J;refine es<|xs<|rK fun K _ E J=>zz ?_;obtain⟨r0,h1,h⟩:=bs h;refine cw (a_style_Plain hI h1)<|zz ?_;subst E J;refine es<|xb ?_;obtain⟨e0,h2,h⟩:=bs h;refine rb_loop (fun x0=>⟨envL [(3,.int .i64 x0.1),(9,.sl (e_0.Rows.map T_api_Row.d)),(10,.int .i64 (e_0.Rows.length:Int)),(11,.int .i64 x7.2),(17,.ptr 0 0)],heapL [(0,.iter r0 x0.2)],1,27⟩) (fun _=>.exit 2) (fun e0=>⟨envL [(3,.int .i64 e0),(9,.sl (e_0.Rows.map T_api_Row.d)),(10,.int .i64 (e_0.Rows.length:Int)),(11,.int .i64 x7.2)],heapL [],0,27⟩) h2 (wk [(0,some 7)]) (by intro w;simp) ?_ ?_
   ·clear h;intro x0 y h;unfold g_repair_letters_s2 at h;refine xs<|rK fun K _ E J=>zz ?_;obtain⟨k,h⟩|⟨k,h⟩:=iK k h
    ·have k:=And.intro (of_decide_eq_true k.1) k.2;refine zz ?_;subst E J;refine es<|xs<|xt<|xk<|es<|xb<|xs<|rz ?_;refine es<|xs<|rz ?_;refine es ?_;obtain⟨k,h⟩|⟨k,h⟩:=iK k h
     ·refine xt<|rz ?_;refine bn ?_;cases h;exact en ⟨rfl,wk []⟩
     refine xf<|xk<|bn ?_;cases h;exact en ⟨rfl,wk []⟩
    have k:=And.intro (of_decide_eq_false k.1) k.2;refine zz ?_;subst E J;refine es<|xs<|xf<|xx<|ee ?_;cases h;exact en ⟨rfl,wk []⟩
   refine bh<|bn<|es<|rz ?_;cases h;exact en ⟨rfl,wk []⟩
  refine xf<|xx<|ee ?_;cases h;exact en ⟨rfl,wk []⟩
 refine bh<|es<|xs<|rz ?_;refine es<|xr ?_;cases h;exact en fr
def g_reading_within(n_0:Int)(lo_1:Int)(hi_2:Int):Option (Bool) :=
 (if(decide (lo_1≤n_0)) then(some (decide (n_0≤hi_2))) else(some false))
theorem a_reading_within{I:World→Prop}(hI:Stab I){n_0:Int}{lo_1:Int}{hi_2:Int}{r:Bool}(h:g_reading_within n_0 lo_1 hi_2=some r):AFun Tryz.prog I 87 [.int .i64 n_0,.int .i64 lo_1,.int .i64 hi_2] (.bool r):=by
 have dd:=dd_EB;have k:=True.intro;have q:=k;have rs:=Tryz.results87;unfold g_reading_within at h;refine .en hI Tryz.func87 Tryz.ntmps87 ?_;refine xs<|rz ?_;refine es<|xs<|rK fun K _ E J=>zz ?_;obtain⟨k,h⟩|⟨k,h⟩:=iK k h
 ·refine zz ?_;subst E J;refine es<|xr ?_;cases h;exact en fr
 refine zz ?_;subst E J;refine es<|xr ?_;cases h;exact en fr
def g_reading_load(chars_0:Int):Option (Int) :=
 (some (IntKind.i64.wrap ((IntKind.i64.wrap (chars_0 * 100)) * 120000)))
theorem a_reading_load{I:World→Prop}(hI:Stab I){chars_0:Int}{r:Int}(h:g_reading_load chars_0=some r):AFun Tryz.prog I 89 [.int .i64 chars_0] (.int .i64 r):=by
 have dd:=dd_EB;have k:=True.intro;have q:=k;have rs:=Tryz.results89;unfold g_reading_load at h;refine .en hI Tryz.func89 Tryz.ntmps89 ?_;refine xs<|rz ?_;refine es<|xs<|rz ?_;refine es<|xr ?_;cases h;exact en fr
def g_timebase_Ticks(r_0:Int):Option (Int) :=
 ((g_timebase_of r_0).bind fun r7=>(some r7.ticks_))
theorem a_timebase_Ticks{I:World→Prop}(hI:Stab I){r_0:Int}{r:Int}(h:g_timebase_Ticks r_0=some r):AFun Tryz.prog I 90 [.int .u8 r_0] (.int .i64 r):=by
 have dd:=dd_EB;have k:=True.intro;have q:=k;have rs:=Tryz.results90;unfold g_timebase_Ticks at h;refine .en hI Tryz.func90 Tryz.ntmps90 ?_;refine xs<|rz ?_;refine es<|xs<|rK fun K _ E J=>zz ?_;obtain⟨r7,h8,h⟩:=bs h;refine cw (a_timebase_of hI h8)<|zz ?_;subst E J;refine es<|xr ?_;cases h;exact en fr
def g_reading_up(a_0:Int)(b_1:Int):Option (Int) :=
 (if ¬ b_1=0 then(some (IntKind.i64.wrap (Int.tdiv (IntKind.i64.wrap ((IntKind.i64.wrap (a_0+b_1)) - 1)) b_1))) else none)
theorem a_reading_up{I:World→Prop}(hI:Stab I){a_0:Int}{b_1:Int}{r:Int}(h:g_reading_up a_0 b_1=some r):AFun Tryz.prog I 88 [.int .i64 a_0,.int .i64 b_1] (.int .i64 r):=by
 have dd:=dd_EB;have k:=True.intro;have q:=k;have rs:=Tryz.results88;unfold g_reading_up at h;refine .en hI Tryz.func88 Tryz.ntmps88 ?_;refine xs<|rz ?_;refine es<|xs<|rK fun K _ E J=>zz ?_;obtain⟨q,h⟩:=oK q h;refine zz ?_;subst E J;refine es<|xr ?_;cases h;exact en fr
def g_reading_Needed(rate_0:Int)(chars_1:Int)(limit_2:Int):Option (Int × Int) :=
 ((g_timebase_Valid rate_0).bind fun r7=>(if r7 then((((g_reading_within chars_1 0 10000).bind fun r0=>(if r0 then((g_reading_within limit_2 1 10000).bind fun r1=>(some (!r1))) else(some true))):Option (Bool)).bind fun v0=>(if v0 then(some (0,2)) else((g_reading_load chars_1).bind fun r2=>((g_timebase_Ticks rate_0).bind fun r3=>((g_reading_up r2 (IntKind.i64.wrap (limit_2 * r3))).bind fun r4=>(some (r4,0))))))) else(some (0,3))))
theorem a_reading_Needed{I:World→Prop}(hI:Stab I){rate_0:Int}{chars_1:Int}{limit_2:Int}{r:Int × Int}(h:g_reading_Needed rate_0 chars_1 limit_2=some r):AFun Tryz.prog I 28 [.int .u8 rate_0,.int .i64 chars_1,.int .i64 limit_2] (.tup [.int .i64 r.1,.int .i64 r.2]):=by
 have dd:=dd_EB;have k:=True.intro;have q:=k;have rs:=Tryz.results28;unfold g_reading_Needed at h;refine .en hI Tryz.func28 Tryz.ntmps28 ?_;refine xs<|rz ?_;refine es<|xs<|xs<|rK fun K _ E J=>zz ?_;obtain⟨r7,h8,h⟩:=bs h;refine cw (a_timebase_Valid hI h8)<|zz ?_;subst E J;refine es ?_;obtain⟨k,h⟩|⟨k,h⟩:=iK k h
 ·refine xf<|xk<|es<|xs ?_;obtain⟨v0,h0,h⟩:=bs h;refine rb_cut (fun v0=>⟨envL [(0,.int .u8 rate_0),(1,.int .i64 chars_1),(2,.int .i64 limit_2),(18,.bool v0)],heapL [],0,26⟩) h0 ?_ ?_
  ·clear h;intro v0 h;refine rK fun K _ E J=>zz ?_;obtain⟨r0,h1,h⟩:=bs h;refine cw (a_reading_within hI h1)<|zz ?_;obtain⟨k,h⟩|⟨k,h⟩:=iK k h
   ·refine zz ?_;obtain⟨r1,h2,h⟩:=bs h;refine cw (a_reading_within hI h2)<|zz ?_;subst E J;cases h;exact en ⟨rfl,wk []⟩
   refine zz ?_;subst E J;cases h;exact en ⟨rfl,wk []⟩
  obtain⟨k,h⟩|⟨k,h⟩:=iK k h
  ·refine xt<|xs<|rz ?_;refine es<|xr<|er ?_;cases h;exact en fr
  refine xf<|xk<|es<|xs<|rK fun K _ E J=>zz ?_;obtain⟨r2,h3,h⟩:=bs h;refine cw (a_reading_load hI h3)<|zz ?_;obtain⟨r3,h4,h⟩:=bs h;refine cw (a_timebase_Ticks hI h4)<|zz ?_;obtain⟨r4,h5,h⟩:=bs h;refine cw (a_reading_up hI h5)<|zz ?_;subst E J;refine es<|xr ?_;cases h;exact en fr
 refine xt<|xs<|rz ?_;refine es<|xr<|er ?_;cases h;exact en fr
def g_shots_frame(f_0:Int):Option (Bool) :=
 (if(decide (0≤f_0)) then(some (decide (f_0≤5184000))) else(some false))
theorem a_shots_frame{I:World→Prop}(hI:Stab I){f_0:Int}{r:Bool}(h:g_shots_frame f_0=some r):AFun Tryz.prog I 173 [.int .i64 f_0] (.bool r):=by
 have dd:=dd_EB;have k:=True.intro;have q:=k;have rs:=Tryz.results173;unfold g_shots_frame at h;refine .en hI Tryz.func173 Tryz.ntmps173 ?_;refine xs<|rz ?_;refine es<|xs<|rK fun K _ E J=>zz ?_;obtain⟨k,h⟩|⟨k,h⟩:=iK k h
 ·refine zz ?_;subst E J;refine es<|xr ?_;cases h;exact en fr
 refine zz ?_;subst E J;refine es<|xr ?_;cases h;exact en fr
def g_shots_usable(l_0:List Int)(f_1:Int)(before_2:Int)(after_3:Int):Option (Bool) :=
 ((g_shots_Check l_0).bind fun r0=>(if(r0 == 0) then((g_shots_frame f_1).bind fun r1=>(if r1 then((g_shots_frame before_2).bind fun r2=>(if r2 then((g_shots_frame after_3).bind fun r3=>(some r3)) else(some false))) else(some false))) else(some false)))
theorem a_shots_usable{I:World→Prop}(hI:Stab I){l_0:List Int}{f_1:Int}{before_2:Int}{after_3:Int}{r:Bool}(h:g_shots_usable l_0 f_1 before_2 after_3=some r):AFun Tryz.prog I 172 [.sl (l_0.map (D.int .i64)),.int .i64 f_1,.int .i64 before_2,.int .i64 after_3] (.bool r):=by
 have dd:=dd_EB;have k:=True.intro;have q:=k;have rs:=Tryz.results172;unfold g_shots_usable at h;refine .en hI Tryz.func172 Tryz.ntmps172 ?_;refine xs<|rz ?_;refine es<|xs<|rK fun K _ E J=>zz ?_;obtain⟨r0,h0,h⟩:=bs h;refine cw (a_shots_Check hI h0)<|zz ?_;obtain⟨k,h⟩|⟨k,h⟩:=iK k h
 ·refine zz ?_;obtain⟨r1,h1,h⟩:=bs h;refine cw (a_shots_frame hI h1)<|zz ?_;obtain⟨k,h⟩|⟨k,h⟩:=iK k h
  ·refine zz ?_;obtain⟨r2,h2,h⟩:=bs h;refine cw (a_shots_frame hI h2)<|zz ?_;obtain⟨k,h⟩|⟨k,h⟩:=iK k h
   ·refine zz ?_;obtain⟨r3,h3,h⟩:=bs h;refine cw (a_shots_frame hI h3)<|zz ?_;subst E J;refine es<|xr ?_;cases h;exact en fr
   refine zz ?_;subst E J;refine es<|xr ?_;cases h;exact en fr
  refine zz ?_;subst E J;refine es<|xr ?_;cases h;exact en fr
 refine zz ?_;subst E J;refine es<|xr ?_;cases h;exact en fr
def g_shots_tooClose_s1(l_0:List Int)(f_1:Int)(before_2:Int)(after_3:Int)(x5:Int):Option (Nx (Int) (Int ⊕ Unit)) :=
 (if(decide (x5 < (l_0.length:Int))) then((atI l_0 x5).bind fun y0=>(((if(decide ((IntKind.i64.wrap (y0 - before_2)) < f_1)) then(if(decide (f_1 < y0)) then(some true) else(if(decide (y0 < f_1)) then(some (decide (f_1 < (IntKind.i64.wrap (y0+after_3))))) else(some false))) else(if(decide (y0 < f_1)) then(some (decide (f_1 < (IntKind.i64.wrap (y0+after_3))))) else(some false))):Option (Bool)).bind fun v0=>(if v0 then(some (.out (.inl y0))) else(some (.go (IntKind.i64.wrap (x5+1))))))) else(some (.out (.inr ()))))
def g_shots_tooClose(l_0:List Int)(f_1:Int)(before_2:Int)(after_3:Int):Option (Int × Bool) :=
 ((iter (g_shots_tooClose_s1 l_0 f_1 before_2 after_3) 0).bind fun e6=>(match e6 with|Sum.inl e6=>(some (e6,true))|Sum.inr (e6)=>(some (0,false))))
theorem a_shots_tooClose{I:World→Prop}(hI:Stab I){l_0:List Int}{f_1:Int}{before_2:Int}{after_3:Int}{r:Int × Bool}(h:g_shots_tooClose l_0 f_1 before_2 after_3=some r):AFun Tryz.prog I 174 [.sl (l_0.map (D.int .i64)),.int .i64 f_1,.int .i64 before_2,.int .i64 after_3] (.tup [.int .i64 r.1,.bool r.2]):=by
 have dd:=dd_EB;have k:=True.intro;have q:=k;have rs:=Tryz.results174;unfold g_shots_tooClose at h;refine .en hI Tryz.func174 Tryz.ntmps174 ?_;refine xs<|rz ?_;refine es<|xs<|xs<|rz ?_;refine es<|xb ?_;obtain⟨e6,h0,h⟩:=bs h;refine rb_loop (fun x5=>⟨envL [(1,.int .i64 f_1),(2,.int .i64 before_2),(3,.int .i64 after_3),(12,.sl (l_0.map (D.int .i64))),(13,.int .i64 (l_0.length:Int)),(14,.int .i64 x5)],heapL [],0,42⟩) (fun w=>match w with|Sum.inl _=>.ret|Sum.inr (_)=>.exit 0) (fun w=>match w with|Sum.inl e6=>⟨envL [(8,.int .i64 e6),(9,.bool true)],heapL [],0,42⟩|Sum.inr (e6)=>⟨envL [],heapL [],0,42⟩) h0 (wk []) (by intro w;rcases w with w|w<;>simp) ?_ ?_
 ·clear h;intro x5 y h;unfold g_shots_tooClose_s1 at h;refine xs<|rz ?_;refine es<|xs ?_;obtain⟨k,h⟩|⟨k,h⟩:=iK k h
  ·refine xt<|xk<|es<|xs<|xb<|xs<|rK fun K _ E J=>zz ?_;obtain⟨y0,q,h⟩:=bK q h;refine zz ?_;subst E J;refine es ?_;obtain⟨v0,h1,h⟩:=bs h;refine rb_cut (fun v0=>⟨envL [(1,.int .i64 f_1),(2,.int .i64 before_2),(3,.int .i64 after_3),(11,.int .i64 y0),(12,.sl (l_0.map (D.int .i64))),(13,.int .i64 (l_0.length:Int)),(14,.int .i64 x5),(39,.bool v0)],heapL [],0,42⟩) h1 ?_ ?_
   ·clear h;intro v0 h;refine rK fun K _ E J=>zz ?_;obtain⟨k,h⟩|⟨k,h⟩:=iK k h
    ·refine zz ?_;obtain⟨k,h⟩|⟨k,h⟩:=iK k h
     ·refine zz ?_;subst E J;cases h;exact en ⟨rfl,wk []⟩
     refine zz ?_;obtain⟨k,h⟩|⟨k,h⟩:=iK k h
     ·refine zz ?_;subst E J;cases h;exact en ⟨rfl,wk []⟩
     refine zz ?_;subst E J;cases h;exact en ⟨rfl,wk []⟩
    refine zz ?_;obtain⟨k,h⟩|⟨k,h⟩:=iK k h
    ·refine zz ?_;subst E J;cases h;exact en ⟨rfl,wk []⟩
    refine zz ?_;subst E J;cases h;exact en ⟨rfl,wk []⟩
   obtain⟨k,h⟩|⟨k,h⟩:=iK k h
   ·refine xt<|xs<|rz ?_;refine es<|xr<|br<|er ?_;cases h;exact en ⟨rfl,wk []⟩
   refine xf<|xk<|bn<|es<|rz ?_;cases h;exact en ⟨rfl,wk []⟩
  refine xf<|xx<|ee ?_;cases h;exact en ⟨rfl,wk []⟩
 rcases e6 with e6|e6
 ·try dsimp only at h ⊢
  refine br<|er ?_;cases h;exact en fr
 try dsimp only at h ⊢
 refine bh<|es<|xs<|rz ?_;refine es<|xr ?_;cases h;exact en fr
def g_shots_size(n_0:Int):Option (Int) :=
 (some (if(IntKind.i64.wrap (0 - n_0)) > n_0 then(IntKind.i64.wrap (0 - n_0)) else n_0))
theorem a_shots_size{I:World→Prop}(hI:Stab I){n_0:Int}{r:Int}(h:g_shots_size n_0=some r):AFun Tryz.prog I 175 [.int .i64 n_0] (.int .i64 r):=by
 have dd:=dd_EB;have k:=True.intro;have q:=k;have rs:=Tryz.results175;unfold g_shots_size at h;refine .en hI Tryz.func175 Tryz.ntmps175 ?_;refine xs<|rz ?_;refine es<|xs<|rz ?_;refine es<|xr ?_;cases h;exact en fr
def g_shots_Snap_s1(l_0:List Int)(before_2:Int)(after_3:Int)(x0:Int × (List Int)):Option (Nx (Int × (List Int)) ((List Int))) :=
 (if(decide (x0.1 < (l_0.length:Int))) then((atI l_0 x0.1).bind fun y0=>(if(x0.2.length+3) * 8≤140737488355328 then(some (.go ((IntKind.i64.wrap (x0.1+1)),(x0.2++[(IntKind.i64.wrap (y0 - before_2)),y0,(IntKind.i64.wrap (y0+after_3))])))) else none)) else(some (.out x0.2)))
def g_shots_Snap_s2(l_0:List Int)(f_1:Int)(before_2:Int)(after_3:Int)(e0:(List Int))(x0:Int × Bool × Int):Option (Nx (Int × Bool × Int) (Int × Bool)) :=
 (if(decide (x0.2.2 < ((e0.length:Nat):Int))) then((atI e0 x0.2.2).bind fun y0=>((g_shots_frame y0).bind fun r0=>(if r0 then((g_shots_tooClose l_0 y0 before_2 after_3).bind fun r1=>(if r1.2 then(some (.go (x0.1,x0.2.1,(IntKind.i64.wrap (x0.2.2+1))))) else(((if x0.2.1 then((g_shots_size (IntKind.i64.wrap (y0 - f_1))).bind fun r2=>((g_shots_size (IntKind.i64.wrap (x0.1 - f_1))).bind fun r3=>(if(decide (r2 < r3)) then(some true) else((g_shots_size (IntKind.i64.wrap (y0 - f_1))).bind fun r4=>((g_shots_size (IntKind.i64.wrap (x0.1 - f_1))).bind fun r5=>(if(r4 == r5) then(some (decide (y0 < x0.1))) else(some false))))))) else(some true)):Option (Bool)).bind fun v0=>(if v0 then(some (.go (y0,true,(IntKind.i64.wrap (x0.2.2+1))))) else(some (.go (x0.1,x0.2.1,(IntKind.i64.wrap (x0.2.2+1))))))))) else(some (.go (x0.1,x0.2.1,(IntKind.i64.wrap (x0.2.2+1)))))))) else(some (.out (x0.1,x0.2.1))))
def g_shots_Snap(l_0:List Int)(f_1:Int)(before_2:Int)(after_3:Int):Option (Int × Bool) :=
 ((g_shots_usable l_0 f_1 before_2 after_3).bind fun r7=>(if r7 then((iter (g_shots_Snap_s1 l_0 before_2 after_3) (0,[f_1])).bind fun e0=>((iter (g_shots_Snap_s2 l_0 f_1 before_2 after_3 e0) (0,false,0)).bind fun e1=>(some (e1.1,e1.2)))) else(some (0,false))))
theorem a_shots_Snap{I:World→Prop}(hI:Stab I){l_0:List Int}{f_1:Int}{before_2:Int}{after_3:Int}{r:Int × Bool}(h:g_shots_Snap l_0 f_1 before_2 after_3=some r):AFun Tryz.prog I 92 [.sl (l_0.map (D.int .i64)),.int .i64 f_1,.int .i64 before_2,.int .i64 after_3] (.tup [.int .i64 r.1,.bool r.2]):=by
 have dd:=dd_EB;have k:=True.intro;have q:=k;have rs:=Tryz.results92;unfold g_shots_Snap at h;refine .en hI Tryz.func92 Tryz.ntmps92 ?_;refine xs<|rz ?_;refine es<|xs<|xs<|rK fun K _ E J=>zz ?_;obtain⟨r7,h8,h⟩:=bs h;refine cw (a_shots_usable hI h8)<|zz ?_;subst E J;refine es ?_;obtain⟨k,h⟩|⟨k,h⟩:=iK k h
 ·refine xf<|xk<|es<|xs<|rz ?_;refine es<|xs<|xs<|rz ?_;refine es<|xb ?_;obtain⟨e0,h0,h⟩:=bs h;refine rb_loop (fun x0=>⟨envL [(0,.sl (l_0.map (D.int .i64))),(1,.int .i64 f_1),(2,.int .i64 before_2),(3,.int .i64 after_3),(10,.own 0 x0.2.length),(27,.sl (l_0.map (D.int .i64))),(28,.int .i64 (l_0.length:Int)),(29,.int .i64 x0.1)],heapL [(0,.vec 2 1 (x0.2.map (D.int .i64)) false)],1,95⟩) (fun _=>.exit 0) (fun e0=>⟨envL [(0,.sl (l_0.map (D.int .i64))),(1,.int .i64 f_1),(2,.int .i64 before_2),(3,.int .i64 after_3),(10,.own 0 e0.length)],heapL [(0,.vec 2 1 (e0.map (D.int .i64)) false)],1,95⟩) h0 (wk [(0,some 9)]) (by intro w;simp) ?_ ?_
  ·clear h;intro x0 y h;unfold g_shots_Snap_s1 at h;refine xs<|rz ?_;refine es<|xs ?_;obtain⟨k,h⟩|⟨k,h⟩:=iK k h
   ·refine xt<|xk<|es<|xs<|xb<|xs<|rK fun K _ E J=>zz ?_;obtain⟨y0,q,h⟩:=bK q h;refine zz ?_;subst E J;refine es<|rK fun K _ E J=>zz ?_;obtain⟨h1,h⟩:=ite_on h;have h2:x0.2.length+3≤9223372036854775807:=by omega
    try simp only[Nat.reduceLeDiff] at h2
    have q:=And.intro @h2<|And.intro @h1<|q;refine zz ?_;subst E J;refine bn<|es<|rz ?_;cases h;exact en ⟨rfl,wk [(0,some 14)]⟩
   refine xf<|xx<|ee ?_;cases h;exact en ⟨rfl,wk []⟩
  refine bh<|es<|xs<|rz ?_;refine es<|xs<|xs<|rz ?_;refine es<|xb ?_;obtain⟨e1,h3,h⟩:=bs h;refine rb_loop (fun x1=>⟨envL [(0,.sl (l_0.map (D.int .i64))),(1,.int .i64 f_1),(2,.int .i64 before_2),(3,.int .i64 after_3),(13,.int .i64 x1.1),(14,.bool x1.2.1),(44,.own 0 e0.length),(45,.int .i64 ((e0.length:Nat):Int)),(46,.int .i64 x1.2.2)],heapL [(0,.vec 2 1 (e0.map (D.int .i64)) false)],1,95⟩) (fun _=>.exit 2) (fun e1=>⟨envL [(13,.int .i64 e1.1),(14,.bool e1.2)],heapL [],0,95⟩) h3 (wk []) (by intro w;simp) ?_ ?_
  ·clear h;intro x1 y h;unfold g_shots_Snap_s2 at h;refine xs<|rz ?_;refine es<|xs ?_;obtain⟨k,h⟩|⟨k,h⟩:=iK k h
   ·refine xt<|xk<|es<|xs<|xb<|xs<|rK fun K _ E J=>zz ?_;obtain⟨y1,q,h⟩:=oN q h;refine zz ?_;subst E J;refine es<|xs<|xs<|rK fun K _ E J=>zz ?_;obtain⟨r0,h4,h⟩:=bs h;refine cw (a_shots_frame hI h4)<|zz ?_;subst E J;refine es ?_;obtain⟨k,h⟩|⟨k,h⟩:=iK k h
    ·refine xf<|xk<|es<|xs<|xs<|rK fun K _ E J=>zz ?_;obtain⟨r1,h5,h⟩:=bs h;refine cw (a_shots_tooClose hI h5)<|zz ?_;subst E J;refine es<|xs<|rz ?_;refine es ?_;obtain⟨k,h⟩|⟨k,h⟩:=iK k h
     ·refine xt<|xx<|ee<|bh<|es<|rz ?_;cases h;exact en ⟨rfl,wk []⟩
     refine xf<|xk<|es ?_;obtain⟨v0,h6,h⟩:=bs h;refine rb_cut (fun v0=>⟨envL [(0,.sl (l_0.map (D.int .i64))),(1,.int .i64 f_1),(2,.int .i64 before_2),(3,.int .i64 after_3),(13,.int .i64 x1.1),(14,.bool x1.2.1),(16,.int .i64 y1),(44,.own 0 e0.length),(45,.int .i64 ((e0.length:Nat):Int)),(46,.int .i64 x1.2.2),(90,.bool v0)],heapL [(0,.vec 2 1 (e0.map (D.int .i64)) false)],1,95⟩) h6 ?_ ?_
     ·clear h;intro v0 h;refine rK fun K _ E J=>zz ?_;obtain⟨k,h⟩|⟨k,h⟩:=iK k h
      ·refine zz ?_;obtain⟨r2,h7,h⟩:=bs h;refine cw (a_shots_size hI h7)<|zz ?_;obtain⟨r3,h9,h⟩:=bs h;refine cw (a_shots_size hI h9)<|zz ?_;obtain⟨k,h⟩|⟨k,h⟩:=iK k h
       ·refine zz ?_;subst E J;cases h;exact en ⟨rfl,wk []⟩
       refine zz ?_;obtain⟨r4,h10,h⟩:=bs h;refine cw (a_shots_size hI h10)<|zz ?_;obtain⟨r5,h11,h⟩:=bs h;refine cw (a_shots_size hI h11)<|zz ?_;obtain⟨k,h⟩|⟨k,h⟩:=iK k h
       ·refine zz ?_;subst E J;cases h;exact en ⟨rfl,wk []⟩
       refine zz ?_;subst E J;cases h;exact en ⟨rfl,wk []⟩
      refine zz ?_;subst E J;cases h;exact en ⟨rfl,wk []⟩
     obtain⟨k,h⟩|⟨k,h⟩:=iK k h
     ·refine xt<|rz ?_;refine bn<|es<|rz ?_;cases h;exact en ⟨rfl,wk []⟩
     refine xf<|xk<|bn<|es<|rz ?_;cases h;exact en ⟨rfl,wk []⟩
    refine xt<|xx<|ee<|bh<|es<|rz ?_;cases h;exact en ⟨rfl,wk []⟩
   refine xf<|xx<|ee ?_;cases h;exact en ⟨rfl,wk []⟩
  refine bh<|es<|xs<|rz ?_;refine es<|xr ?_;cases h;exact en fr
 refine xt<|xs<|rz ?_;refine es<|xr<|er ?_;cases h;exact en fr
def g_repair_zone_1(from_0:Int)(below_1:Int)(a_2:Int)(a_3:T_api_Span):Option (Int × T_api_Span) :=
 (if(decide (below_1≤from_0)) then(some (a_2,a_3)) else(if(decide (below_1≤a_2)) then(if(decide (a_2 < from_0)) then(some (a_2,(T_api_Span.mk (if below_1 > a_3.In then below_1 else a_3.In) (if from_0 < a_3.Out then from_0 else a_3.Out)))) else(some (a_2,(T_api_Span.mk (if below_1 > a_3.In then below_1 else a_3.In) a_3.Out)))) else(if(decide (a_2 < from_0)) then(some (a_2,(T_api_Span.mk a_3.In (if from_0 < a_3.Out then from_0 else a_3.Out)))) else(some (a_2,a_3)))))
theorem a_repair_zone_1{I:World→Prop}(hI:Stab I){H:Nat→Option Blk}{nid:Nat}{i0 i1:Nat}{p0 p1:Option Nat}{from_0:Int}{below_1:Int}{a_2:Int}{a_3:T_api_Span}{r:Int × T_api_Span}(h:g_repair_zone_1 from_0 below_1 a_2 a_3=some r)(b0:H i0=some (.box p0 [.int .i64 a_2]))(b1:H i1=some (.box p1 [.int .i64 a_3.In,.int .i64 a_3.Out]))(hne:[i0,i1].Nodup):CallOK Tryz.prog I 93 [.int .i64 from_0,.int .i64 below_1,.ptr i0 0,.ptr i1 0] H nid (.tup []) [(i0,some (.box p0 [.int .i64 r.1])),(i1,some (.box p1 [.int .i64 r.2.In,.int .i64 r.2.Out]))]:=by
 refine CallOK.intro (is:=[(i0,p0),(i1,p1)]) (css:=[[.int .i64 a_2],[.int .i64 a_3.In,.int .i64 a_3.Out]]) (ds0:=[.int .i64 from_0,.int .i64 below_1,.ptr 0 0,.ptr 1 0]) (pl:=[(2,none),(3,none)]) hI Tryz.func93 rfl (by decide) (by simp[Tryz.f93]) (by kernel_rfl) rfl rfl rfl rfl (lentAll_of ⟨⟨b0,rfl⟩,⟨⟨b1,rfl⟩,trivial⟩⟩) hne ?_;have dd:=dd_EB;have k:=True.intro;have q:=k;have rs:=Tryz.results93;unfold g_repair_zone_1 at h;simp only[lentH,List.length_cons,List.length_nil,Nat.zero_add,Nat.reduceAdd,Tryz.ntmps93,dd_EB];refine xs<|xs<|rz ?_;refine es ?_;obtain⟨k,h⟩|⟨k,h⟩:=iK k h
 ·refine xt<|xr<|er ?_;cases h;exact en fp
 refine xf<|xk<|es<|xs<|xs<|rz ?_;refine es ?_;obtain⟨k,h⟩|⟨k,h⟩:=iK k h
 ·refine xt<|rz ?_;refine es<|xs<|rz ?_;refine es ?_;obtain⟨k,h⟩|⟨k,h⟩:=iK k h
  ·refine xt<|rz ?_;cases h;exact en fp
  refine xf<|xk ?_;cases h;exact en fp
 refine xf<|xk<|es<|xs<|rz ?_;refine es ?_;obtain⟨k,h⟩|⟨k,h⟩:=iK k h
 ·refine xt<|rz ?_;cases h;exact en fp
 refine xf<|xk ?_;cases h;exact en fp
def g_repair_zone_s1(l_0:List Int)(p_2:T_api_Profile)(x0:Int × Int × Int × Int):Option (Nx (Int × Int × Int × Int) (Int × Int)) :=
 (if(decide (x0.1 < (l_0.length:Int))) then((atI l_0 x0.1).bind fun y0=>((g_repair_zone_1 (IntKind.i64.wrap ((IntKind.i64.wrap (y0 - p_2.ShotBefore))+1)) y0 x0.2.2.2 (T_api_Span.mk x0.2.1 x0.2.2.1)).bind fun r0=>((g_repair_zone_1 (IntKind.i64.wrap (y0+1)) (IntKind.i64.wrap (y0+p_2.ShotAfter)) r0.1 r0.2).bind fun r1=>(some (.go ((IntKind.i64.wrap (x0.1+1)),r1.2.In,r1.2.Out,r1.1)))))) else(some (.out (x0.2.1,x0.2.2.1))))
def g_repair_zone(l_0:List Int)(frame_1:Int)(p_2:T_api_Profile):Option (T_api_Span × Int) :=
 ((g_shots_Snap l_0 frame_1 p_2.ShotBefore p_2.ShotAfter).bind fun r7=>(if r7.2 then((iter (g_repair_zone_s1 l_0 p_2) (0,0,5184001,r7.1)).bind fun e0=>(some ((T_api_Span.mk e0.1 e0.2),0))) else(some ((T_api_Span.mk 0 0),6))))
theorem a_repair_zone{I:World→Prop}(hI:Stab I){l_0:List Int}{frame_1:Int}{p_2:T_api_Profile}{r:T_api_Span × Int}(h:g_repair_zone l_0 frame_1 p_2=some r):AFun Tryz.prog I 30 [.sl (l_0.map (D.int .i64)),.int .i64 frame_1,T_api_Profile.d p_2] (.tup [T_api_Span.d r.1,.int .i64 r.2]):=by
 have dd:=dd_EB;have k:=True.intro;have q:=k;have rs:=Tryz.results30;unfold g_repair_zone at h;refine .en hI Tryz.func30 Tryz.ntmps30 ?_;refine xs<|rz ?_;refine es<|xs<|rK fun K _ E J=>zz ?_;obtain⟨r7,h8,h⟩:=bs h;refine cw (a_shots_Snap hI h8)<|zz ?_;subst E J;refine es<|xs<|xs<|rz ?_;refine es ?_;obtain⟨k,h⟩|⟨k,h⟩:=iK k h
 ·refine xf<|xk<|es<|xs<|rz ?_;refine es<|xs<|rz ?_;refine es<|xs<|xs<|rz ?_;refine es<|xb ?_;obtain⟨e0,h0,h⟩:=bs h;refine rb_loop (fun x0=>⟨envL [(5,.ptr 0 0),(6,.ptr 1 0),(10,.ptr 2 0),(11,.fn 93 [.ptr 3 0,.ptr 2 0]),(29,.sl (l_0.map (D.int .i64))),(30,.int .i64 (l_0.length:Int)),(31,.int .i64 x0.1)],heapL [(0,.box none [.str p_2.Name,.int .i64 p_2.Reading,.int .i64 p_2.MinFrames,.int .i64 p_2.MaxFrames,.int .i64 p_2.MinGap,.int .i64 p_2.ShotBefore,.int .i64 p_2.ShotAfter,.int .i64 p_2.Rows,.int .i64 p_2.Cols,.str p_2.Forbidden,.int .i64 p_2.SafeTop,.int .i64 p_2.SafeBottom,.int .i64 p_2.SafeLeft,.int .i64 p_2.SafeRight]),(1,.box none [.int .i64 0,.int .i64 0]),(2,.box none [.int .i64 x0.2.1,.int .i64 x0.2.2.1]),(3,.box none [.int .i64 x0.2.2.2])],4,53⟩) (fun _=>.exit 0) (fun e0=>⟨envL [(6,.ptr 0 0),(10,.ptr 1 0)],heapL [(0,.box none [.int .i64 0,.int .i64 0]),(1,.box none [.int .i64 e0.1,.int .i64 e0.2])],2,53⟩) h0 (wk [(2,some 19),(3,some 13)]) (by intro w;simp) ?_ ?_
  ·clear h;intro x0 y h;unfold g_repair_zone_s1 at h;refine xs<|rz ?_;refine es<|xs ?_;obtain⟨k,h⟩|⟨k,h⟩:=iK k h
   ·refine xt<|xk<|es<|xs<|xb<|xs<|rK fun K _ E J=>zz ?_;obtain⟨y0,q,h⟩:=bK q h;refine zz ?_;subst E J;refine es<|xs<|rK fun K _ E J=>zz ?_;obtain⟨r0,h1,h⟩:=bs h;refine eW.intro (a_repair_zone_1 hI (nid:=15) (i0:=3) (p0:=none) (i1:=2) (p1:=none) h1 fz fz (by decide)) fi rfl<|zz ?_;subst E J;refine es<|rK fun K _ E J=>zz ?_;obtain⟨r1,h2,h⟩:=bs h;refine eW.intro (a_repair_zone_1 hI (nid:=23) (i0:=3) (p0:=none) (i1:=2) (p1:=none) h2 fz fz (by decide)) fi rfl<|zz ?_;subst E J;refine bn<|es<|rz ?_;cases h;exact en ⟨rfl,wk []⟩
   refine xf<|xx<|ee ?_;cases h;exact en ⟨rfl,wk [(0,some 1),(1,some 2)]⟩
  refine bh<|es<|xs<|rz ?_;refine es<|xr ?_;cases h;exact en fr
 refine xt<|xs<|rz ?_;refine es<|xr<|er ?_;cases h;exact en fr
def g_repair_window(out_0:List T_api_Bound)(v_1:Int)(lo_2:Int)(hi_3:Int)(rule_4:Int)(id_5:Int):Option ((List T_api_Bound)) :=
 (if(out_0.length+2) * 48≤140737488355328 then(some (out_0++[(T_api_Bound.mk v_1 0 (IntKind.i64.wrap (0 - lo_2)) rule_4 id_5 0),(T_api_Bound.mk 0 v_1 hi_3 rule_4 id_5 0)])) else none)
theorem a_repair_window{I:World→Prop}(hI:Stab I){H:Nat→Option Blk}{nid i0:Nat}{out_0:List T_api_Bound}{v_1:Int}{lo_2:Int}{hi_3:Int}{rule_4:Int}{id_5:Int}{r:(List T_api_Bound)}(h:g_repair_window out_0 v_1 lo_2 hi_3 rule_4 id_5=some r)(b0:H i0=some (.vec 48 6 (out_0.map T_api_Bound.d) false)):CallOK Tryz.prog I 31 [.own i0 out_0.length,.int .i64 v_1,.int .i64 lo_2,.int .i64 hi_3,.int .u8 rule_4,.int .i64 id_5] H nid (.own nid r.length) [(i0,none),(nid,some (.vec 48 6 (r.map T_api_Bound.d) false))]:=by
 refine CallOK.row (is:=[i0]) (bs:=[.vec 48 6 (out_0.map T_api_Bound.d) false]) (ds0:=[.own 0 out_0.length,.int .i64 v_1,.int .i64 lo_2,.int .i64 hi_3,.int .u8 rule_4,.int .i64 id_5]) hI Tryz.func31 rfl (by decide) (by simp[Tryz.f31]) (by kernel_rfl) rfl rfl ⟨⟨b0,_,_,_,rfl⟩,trivial⟩ (by simp) ?_;have dd:=dd_EB;have k:=True.intro;have q:=k;have rs:=Tryz.results31;unfold g_repair_window at h;simp only[lentR,List.length_cons,List.length_nil,Nat.zero_add,Nat.reduceAdd,Tryz.ntmps31,dd];refine xs<|rz ?_;refine es<|xs<|rK fun K _ E J=>zz ?_;obtain⟨h7,h⟩:=ite_on h;have h8:out_0.length+2≤9223372036854775807:=by omega
 try simp only[Nat.reduceLeDiff] at h8
 have q:=And.intro @h8<|And.intro @h7<|q;refine zz ?_;subst E J;refine es<|xr ?_;cases h;exact en fv
def g_repair_Bounds_s2(p_1:T_api_Profile)(l_2:List Int)(x0:(List T_api_Bound) × Int)(y0:T_api_Event)(x1:Int × (List T_api_Bound)):Option (Nx (Int × (List T_api_Bound)) (Int ⊕ ((List T_api_Bound)))) :=
 (if(decide (x1.1 < 2)) then(((if x1.1 == 0 then(some (y0.Span.In,0)) else(if x1.1 == 1 then(some (y0.Span.Out,1)) else none)):Option (Int × Int)).bind fun v0=>((g_repair_zone l_2 v0.1 p_1).bind fun r0=>(if(r0.2 != 0) then(some (.out (.inl r0.2))) else((g_repair_window x1.2 (IntKind.i64.wrap ((IntKind.i64.wrap ((IntKind.i64.wrap (2 * x0.2))+1))+x1.1)) r0.1.In (IntKind.i64.wrap (r0.1.Out - 1)) 6 y0.ID).bind fun r1=>(some (.go ((IntKind.i64.wrap (v0.2+1)),r1))))))) else(some (.out (.inr x1.2))))
def g_repair_Bounds_s3(tol_3:Int)(x0:(List T_api_Bound) × Int)(y0:T_api_Event)(x1:Int × (List T_api_Bound)):Option (Nx (Int × (List T_api_Bound)) ((List T_api_Bound))) :=
 (if(decide (x1.1 < 2)) then(((if x1.1 == 0 then(some (y0.Span.In,0)) else(if x1.1 == 1 then(some (y0.Span.Out,1)) else none)):Option (Int × Int)).bind fun v0=>((g_repair_window x1.2 (IntKind.i64.wrap ((IntKind.i64.wrap ((IntKind.i64.wrap (2 * x0.2))+1))+x1.1)) (IntKind.i64.wrap (v0.1 - tol_3)) (IntKind.i64.wrap (v0.1+tol_3)) 11 y0.ID).bind fun r0=>(some (.go ((IntKind.i64.wrap (v0.2+1)),r0))))) else(some (.out x1.2)))
def g_repair_Bounds_s1(d_0:T_api_Document)(p_1:T_api_Profile)(l_2:List Int)(tol_3:Int)(x0:(List T_api_Bound) × Int):Option (Nx ((List T_api_Bound) × Int) (Int ⊕ ((List T_api_Bound)))) :=
 (if(decide (x0.2 < (d_0.Events.length:Int))) then((atI d_0.Events x0.2).bind fun y0=>((g_repair_letters y0).bind fun r0=>((g_reading_Needed d_0.Rate r0 p_1.Reading).bind fun r1=>(if(x0.1.length+3) * 48≤140737488355328 then((iter (g_repair_Bounds_s2 p_1 l_2 x0 y0) (0,(x0.1++[(T_api_Bound.mk (IntKind.i64.wrap ((IntKind.i64.wrap (2 * x0.2))+2)) (IntKind.i64.wrap ((IntKind.i64.wrap (2 * x0.2))+1)) (IntKind.i64.wrap (0 - r1.1)) 1 y0.ID 0),(T_api_Bound.mk (IntKind.i64.wrap ((IntKind.i64.wrap (2 * x0.2))+2)) (IntKind.i64.wrap ((IntKind.i64.wrap (2 * x0.2))+1)) (IntKind.i64.wrap (0 - p_1.MinFrames)) 2 y0.ID 0),(T_api_Bound.mk (IntKind.i64.wrap ((IntKind.i64.wrap (2 * x0.2))+1)) (IntKind.i64.wrap ((IntKind.i64.wrap (2 * x0.2))+2)) p_1.MaxFrames 3 y0.ID 0)]))).bind fun e0=>(match e0 with|Sum.inl e0=>(some (.out (.inl e0)))|Sum.inr (e0)=>((iter (g_repair_Bounds_s3 tol_3 x0 y0) (0,e0)).bind fun e1=>(if(decide ((IntKind.i64.wrap (x0.2+1)) < (d_0.Events.length:Int))) then((atI d_0.Events (IntKind.i64.wrap (x0.2+1))).bind fun y1=>(if(e1.length+1) * 48≤140737488355328 then(some (.go ((e1++[(T_api_Bound.mk (IntKind.i64.wrap ((IntKind.i64.wrap ((IntKind.i64.wrap (2 * x0.2))+2))+1)) (IntKind.i64.wrap ((IntKind.i64.wrap (2 * x0.2))+2)) (IntKind.i64.wrap (0 - p_1.MinGap)) 4 y0.ID y1.ID)]),(IntKind.i64.wrap (x0.2+1))))) else none)) else(some (.go (e1,(IntKind.i64.wrap (x0.2+1))))))))) else none)))) else(some (.out (.inr x0.1))))
def g_repair_Bounds(d_0:T_api_Document)(p_1:T_api_Profile)(l_2:List Int)(tol_3:Int):Option ((List T_api_Bound) × Int) :=
 ((g_repair_check d_0 p_1 l_2 tol_3).bind fun r7=>(if(r7 != 0) then(some ([],r7)) else((iter (g_repair_Bounds_s1 d_0 p_1 l_2 tol_3) ([],0)).bind fun e0=>(match e0 with|Sum.inl e0=>(some ([],e0))|Sum.inr (e0)=>(some (e0,0))))))
theorem a_repair_Bounds{I:World→Prop}(hI:Stab I)(hShp:∀ w,I w→Shp w)(hU8T:∀ w,I w→U8T w){d_0:T_api_Document}{p_1:T_api_Profile}{l_2:List Int}{tol_3:Int}{r:(List T_api_Bound) × Int}(h:g_repair_Bounds d_0 p_1 l_2 tol_3=some r):AFun Tryz.prog I 7 [T_api_Document.d d_0,T_api_Profile.d p_1,.sl (l_2.map (D.int .i64)),.int .i64 tol_3] (.tup [.sl (r.1.map T_api_Bound.d),.int .i64 r.2]):=by
 have dd:=dd_EB;have k:=True.intro;have q:=k;have rs:=Tryz.results7;unfold g_repair_Bounds at h;refine .en hI Tryz.func7 Tryz.ntmps7 ?_;refine xs<|rz ?_;refine es<|xs<|xs<|rK fun K _ E J=>zz ?_;obtain⟨r7,h8,h⟩:=bs h;refine cw (a_repair_check hI hShp hU8T h8)<|zz ?_;subst E J;refine es<|xs<|rz ?_;refine es ?_;obtain⟨k,h⟩|⟨k,h⟩:=iK k h
 ·refine xt<|xs<|rz ?_;refine es<|xr<|er ?_;cases h;exact en fr
 refine xf<|xk<|es<|xs<|rz ?_;refine es<|xs<|xs<|rz ?_;refine es<|xb ?_;obtain⟨e0,h0,h⟩:=bs h;refine rb_loop (fun x0=>⟨envL [(2,.sl (l_2.map (D.int .i64))),(3,.int .i64 tol_3),(4,.ptr 0 0),(5,.ptr 1 0),(11,.own 2 x0.1.length),(33,.sl (d_0.Events.map T_api_Event.d)),(34,.int .i64 (d_0.Events.length:Int)),(35,.int .i64 x0.2)],heapL [(0,.box none [.str d_0.Title,.str d_0.Lang,.int .u8 d_0.Rate,.bool d_0.Drop,.int .i64 d_0.Last,.sl (d_0.Regions.map T_api_Region.d),.sl (d_0.Events.map T_api_Event.d),.sl (d_0.Comments.map T_api_Comment.d)]),(1,.box none [.str p_1.Name,.int .i64 p_1.Reading,.int .i64 p_1.MinFrames,.int .i64 p_1.MaxFrames,.int .i64 p_1.MinGap,.int .i64 p_1.ShotBefore,.int .i64 p_1.ShotAfter,.int .i64 p_1.Rows,.int .i64 p_1.Cols,.str p_1.Forbidden,.int .i64 p_1.SafeTop,.int .i64 p_1.SafeBottom,.int .i64 p_1.SafeLeft,.int .i64 p_1.SafeRight]),(2,.vec 48 6 (x0.1.map T_api_Bound.d) false)],3,167⟩) (fun w=>match w with|Sum.inl _=>.ret|Sum.inr (_)=>.exit 0) (fun w=>match w with|Sum.inl e0=>⟨envL [(8,.nils),(9,.int .i64 e0)],heapL [],0,167⟩|Sum.inr (e0)=>⟨envL [(11,.own 0 e0.length)],heapL [(0,.vec 48 6 (e0.map T_api_Bound.d) false)],1,167⟩) h0 (wk [(2,none)]) (by intro w;rcases w with w|w<;>simp) ?_ ?_
 ·clear h;intro x0 y h;unfold g_repair_Bounds_s1 at h;refine xs<|rz ?_;refine es<|xs ?_;obtain⟨k,h⟩|⟨k,h⟩:=iK k h
  ·refine xt<|xk<|es<|xs<|xb<|xs<|rK fun K _ E J=>zz ?_;obtain⟨y0,q,h⟩:=bK q h;refine zz ?_;subst E J;refine es<|xs<|rz ?_;refine es<|xs<|rD hI fun K _ E J=>zz ?_;obtain⟨r0,h1,h⟩:=bs h;refine cd (a_repair_letters hI h1)<|zz ?_;obtain⟨r1,h2,h⟩:=bs h;refine cd (a_reading_Needed hI h2)<|zz ?_;subst E J;refine es<|xs<|rK fun K _ E J=>zz ?_;obtain⟨h3,h⟩:=ite_on h;have h4:x0.1.length+3≤9223372036854775807:=by omega
   try simp only[Nat.reduceLeDiff] at h4
   have q:=And.intro @h4<|And.intro @h3<|q;refine zz ?_;subst E J;refine es<|xs<|xs<|rz ?_;refine es<|xb ?_;obtain⟨e1,h5,h⟩:=bs h;refine rb_loop (fun x1=>⟨envL [(2,.sl (l_2.map (D.int .i64))),(3,.int .i64 tol_3),(4,.ptr 0 0),(5,.ptr 1 0),(11,.own 2 x1.2.length),(12,.int .i64 x0.2),(13,.ptr 3 0),(14,.int .i64 (IntKind.i64.wrap ((IntKind.i64.wrap (2 * x0.2))+1))),(15,.int .i64 (IntKind.i64.wrap ((IntKind.i64.wrap (2 * x0.2))+2))),(33,.sl (d_0.Events.map T_api_Event.d)),(34,.int .i64 (d_0.Events.length:Int)),(35,.int .i64 x0.2),(87,.agg [.int .i64 y0.Span.In,.int .i64 y0.Span.Out]),(88,.int .i64 x1.1)],heapL [(0,.box none [.str d_0.Title,.str d_0.Lang,.int .u8 d_0.Rate,.bool d_0.Drop,.int .i64 d_0.Last,.sl (d_0.Regions.map T_api_Region.d),.sl (d_0.Events.map T_api_Event.d),.sl (d_0.Comments.map T_api_Comment.d)]),(1,.box none [.str p_1.Name,.int .i64 p_1.Reading,.int .i64 p_1.MinFrames,.int .i64 p_1.MaxFrames,.int .i64 p_1.MinGap,.int .i64 p_1.ShotBefore,.int .i64 p_1.ShotAfter,.int .i64 p_1.Rows,.int .i64 p_1.Cols,.str p_1.Forbidden,.int .i64 p_1.SafeTop,.int .i64 p_1.SafeBottom,.int .i64 p_1.SafeLeft,.int .i64 p_1.SafeRight]),(2,.vec 48 6 (x1.2.map T_api_Bound.d) false),(3,.box none [.int .i64 y0.ID,.int .i64 y0.Span.In,.int .i64 y0.Span.Out,.str y0.Region,.int .u8 y0.Kind,.str y0.Speaker,.sl (y0.Rows.map T_api_Row.d)])],4,167⟩) (fun w=>match w with|Sum.inl _=>.ret|Sum.inr (_)=>.exit 2) (fun w=>match w with|Sum.inl e1=>⟨envL [(8,.nils),(9,.int .i64 e1)],heapL [],0,167⟩|Sum.inr (e1)=>⟨envL [(2,.sl (l_2.map (D.int .i64))),(3,.int .i64 tol_3),(4,.ptr 0 0),(5,.ptr 1 0),(11,.own 2 e1.length),(12,.int .i64 x0.2),(13,.ptr 3 0),(14,.int .i64 (IntKind.i64.wrap ((IntKind.i64.wrap (2 * x0.2))+1))),(15,.int .i64 (IntKind.i64.wrap ((IntKind.i64.wrap (2 * x0.2))+2))),(33,.sl (d_0.Events.map T_api_Event.d)),(34,.int .i64 (d_0.Events.length:Int)),(35,.int .i64 x0.2)],heapL [(0,.box none [.str d_0.Title,.str d_0.Lang,.int .u8 d_0.Rate,.bool d_0.Drop,.int .i64 d_0.Last,.sl (d_0.Regions.map T_api_Region.d),.sl (d_0.Events.map T_api_Event.d),.sl (d_0.Comments.map T_api_Comment.d)]),(1,.box none [.str p_1.Name,.int .i64 p_1.Reading,.int .i64 p_1.MinFrames,.int .i64 p_1.MaxFrames,.int .i64 p_1.MinGap,.int .i64 p_1.ShotBefore,.int .i64 p_1.ShotAfter,.int .i64 p_1.Rows,.int .i64 p_1.Cols,.str p_1.Forbidden,.int .i64 p_1.SafeTop,.int .i64 p_1.SafeBottom,.int .i64 p_1.SafeLeft,.int .i64 p_1.SafeRight]),(2,.vec 48 6 (e1.map T_api_Bound.d) false),(3,.box none [.int .i64 y0.ID,.int .i64 y0.Span.In,.int .i64 y0.Span.Out,.str y0.Region,.int .u8 y0.Kind,.str y0.Speaker,.sl (y0.Rows.map T_api_Row.d)])],4,167⟩) h5 (wk [(2,some 54),(3,some 7)]) (by intro w;rcases w with w|w<;>simp) ?_ ?_
   ·clear h;intro x1 y h;unfold g_repair_Bounds_s2 at h;refine xs<|rz ?_;refine es<|xs ?_;obtain⟨k,h⟩|⟨k,h⟩:=iK k h
    ·refine xt<|xk<|es<|xs<|xb ?_;obtain⟨v0,h6,h⟩:=bs h;refine rb_cut (fun v0=>⟨envL [(2,.sl (l_2.map (D.int .i64))),(3,.int .i64 tol_3),(4,.ptr 0 0),(5,.ptr 1 0),(11,.own 2 x1.2.length),(12,.int .i64 x0.2),(13,.ptr 3 0),(14,.int .i64 (IntKind.i64.wrap ((IntKind.i64.wrap (2 * x0.2))+1))),(15,.int .i64 (IntKind.i64.wrap ((IntKind.i64.wrap (2 * x0.2))+2))),(18,.int .i64 x1.1),(19,.int .i64 v0.1),(33,.sl (d_0.Events.map T_api_Event.d)),(34,.int .i64 (d_0.Events.length:Int)),(35,.int .i64 x0.2),(87,.agg [.int .i64 y0.Span.In,.int .i64 y0.Span.Out]),(88,.int .i64 v0.2)],heapL [(0,.box none [.str d_0.Title,.str d_0.Lang,.int .u8 d_0.Rate,.bool d_0.Drop,.int .i64 d_0.Last,.sl (d_0.Regions.map T_api_Region.d),.sl (d_0.Events.map T_api_Event.d),.sl (d_0.Comments.map T_api_Comment.d)]),(1,.box none [.str p_1.Name,.int .i64 p_1.Reading,.int .i64 p_1.MinFrames,.int .i64 p_1.MaxFrames,.int .i64 p_1.MinGap,.int .i64 p_1.ShotBefore,.int .i64 p_1.ShotAfter,.int .i64 p_1.Rows,.int .i64 p_1.Cols,.str p_1.Forbidden,.int .i64 p_1.SafeTop,.int .i64 p_1.SafeBottom,.int .i64 p_1.SafeLeft,.int .i64 p_1.SafeRight]),(2,.vec 48 6 (x1.2.map T_api_Bound.d) false),(3,.box none [.int .i64 y0.ID,.int .i64 y0.Span.In,.int .i64 y0.Span.Out,.str y0.Region,.int .u8 y0.Kind,.str y0.Speaker,.sl (y0.Rows.map T_api_Row.d)])],4,167⟩) h6 ?_ ?_
     ·clear h;intro v0 h;refine rK fun K _ E J=>zz ?_;rcases ite_or h with⟨k0,h⟩|⟨_,h⟩
      ·have k:=And.intro (eq_of_beq k0) k;refine zz ?_;subst E J;cases h;exact en ⟨rfl,wk []⟩
      rcases ite_or h with⟨k1,h⟩|⟨_,h⟩
      ·have k:=And.intro (eq_of_beq k1) k;refine zz ?_;subst E J;cases h;exact en ⟨rfl,wk []⟩
      cases h
     refine xs<|rK fun K _ E J=>zz ?_;obtain⟨r2,h7,h⟩:=bs h;refine cw (a_repair_zone hI h7)<|zz ?_;subst E J;refine es<|xs<|xs<|rz ?_;refine es ?_;obtain⟨k,h⟩|⟨k,h⟩:=iK k h
     ·refine xt<|xs<|rz ?_;refine es<|xr<|er<|br<|er ?_;cases h;exact en ⟨rfl,wk []⟩
     refine xf<|xk<|es<|rK fun K _ E J=>zz ?_;obtain⟨r3,h9,h⟩:=bs h;refine cW.introR (a_repair_window hI (nid:=27) (i0:=2) h9 fz) fs rfl<|zz ?_;subst E J;refine bn<|es<|rz ?_;cases h;exact en ⟨rfl,wk [(2,some 27)]⟩
    refine xf<|xx<|ee ?_;cases h;exact en ⟨rfl,wk []⟩
   rcases e1 with e1|e1
   ·try dsimp only at h ⊢
    refine br<|er<|br<|er ?_;cases h;exact en ⟨rfl,wk []⟩
   try dsimp only at h ⊢
   refine bh<|es<|xs<|xs<|rz ?_;refine es<|xb ?_;obtain⟨e2,h10,h⟩:=bs h;refine rb_loop (fun x2=>⟨envL [(2,.sl (l_2.map (D.int .i64))),(3,.int .i64 tol_3),(4,.ptr 0 0),(5,.ptr 1 0),(11,.own 2 x2.2.length),(12,.int .i64 x0.2),(13,.ptr 3 0),(14,.int .i64 (IntKind.i64.wrap ((IntKind.i64.wrap (2 * x0.2))+1))),(15,.int .i64 (IntKind.i64.wrap ((IntKind.i64.wrap (2 * x0.2))+2))),(33,.sl (d_0.Events.map T_api_Event.d)),(34,.int .i64 (d_0.Events.length:Int)),(35,.int .i64 x0.2),(121,.agg [.int .i64 y0.Span.In,.int .i64 y0.Span.Out]),(122,.int .i64 x2.1)],heapL [(0,.box none [.str d_0.Title,.str d_0.Lang,.int .u8 d_0.Rate,.bool d_0.Drop,.int .i64 d_0.Last,.sl (d_0.Regions.map T_api_Region.d),.sl (d_0.Events.map T_api_Event.d),.sl (d_0.Comments.map T_api_Comment.d)]),(1,.box none [.str p_1.Name,.int .i64 p_1.Reading,.int .i64 p_1.MinFrames,.int .i64 p_1.MaxFrames,.int .i64 p_1.MinGap,.int .i64 p_1.ShotBefore,.int .i64 p_1.ShotAfter,.int .i64 p_1.Rows,.int .i64 p_1.Cols,.str p_1.Forbidden,.int .i64 p_1.SafeTop,.int .i64 p_1.SafeBottom,.int .i64 p_1.SafeLeft,.int .i64 p_1.SafeRight]),(2,.vec 48 6 (x2.2.map T_api_Bound.d) false),(3,.box none [.int .i64 y0.ID,.int .i64 y0.Span.In,.int .i64 y0.Span.Out,.str y0.Region,.int .u8 y0.Kind,.str y0.Speaker,.sl (y0.Rows.map T_api_Row.d)])],4,167⟩) (fun _=>.exit 4) (fun e2=>⟨envL [(2,.sl (l_2.map (D.int .i64))),(3,.int .i64 tol_3),(4,.ptr 0 0),(5,.ptr 1 0),(11,.own 2 e2.length),(12,.int .i64 x0.2),(13,.ptr 3 0),(15,.int .i64 (IntKind.i64.wrap ((IntKind.i64.wrap (2 * x0.2))+2))),(33,.sl (d_0.Events.map T_api_Event.d)),(34,.int .i64 (d_0.Events.length:Int)),(35,.int .i64 x0.2)],heapL [(0,.box none [.str d_0.Title,.str d_0.Lang,.int .u8 d_0.Rate,.bool d_0.Drop,.int .i64 d_0.Last,.sl (d_0.Regions.map T_api_Region.d),.sl (d_0.Events.map T_api_Event.d),.sl (d_0.Comments.map T_api_Comment.d)]),(1,.box none [.str p_1.Name,.int .i64 p_1.Reading,.int .i64 p_1.MinFrames,.int .i64 p_1.MaxFrames,.int .i64 p_1.MinGap,.int .i64 p_1.ShotBefore,.int .i64 p_1.ShotAfter,.int .i64 p_1.Rows,.int .i64 p_1.Cols,.str p_1.Forbidden,.int .i64 p_1.SafeTop,.int .i64 p_1.SafeBottom,.int .i64 p_1.SafeLeft,.int .i64 p_1.SafeRight]),(2,.vec 48 6 (e2.map T_api_Bound.d) false),(3,.box none [.int .i64 y0.ID,.int .i64 y0.Span.In,.int .i64 y0.Span.Out,.str y0.Region,.int .u8 y0.Kind,.str y0.Speaker,.sl (y0.Rows.map T_api_Row.d)])],4,167⟩) h10 (wk []) (by intro w;simp) ?_ ?_
   ·clear h;intro x2 y h;unfold g_repair_Bounds_s3 at h;refine xs<|rz ?_;refine es<|xs ?_;obtain⟨k,h⟩|⟨k,h⟩:=iK k h
    ·refine xt<|xk<|es<|xs<|xb ?_;obtain⟨v1,h11,h⟩:=bs h;refine rb_cut (fun v1=>⟨envL [(2,.sl (l_2.map (D.int .i64))),(3,.int .i64 tol_3),(4,.ptr 0 0),(5,.ptr 1 0),(11,.own 2 x2.2.length),(12,.int .i64 x0.2),(13,.ptr 3 0),(14,.int .i64 (IntKind.i64.wrap ((IntKind.i64.wrap (2 * x0.2))+1))),(15,.int .i64 (IntKind.i64.wrap ((IntKind.i64.wrap (2 * x0.2))+2))),(22,.int .i64 x2.1),(23,.int .i64 v1.1),(33,.sl (d_0.Events.map T_api_Event.d)),(34,.int .i64 (d_0.Events.length:Int)),(35,.int .i64 x0.2),(121,.agg [.int .i64 y0.Span.In,.int .i64 y0.Span.Out]),(122,.int .i64 v1.2)],heapL [(0,.box none [.str d_0.Title,.str d_0.Lang,.int .u8 d_0.Rate,.bool d_0.Drop,.int .i64 d_0.Last,.sl (d_0.Regions.map T_api_Region.d),.sl (d_0.Events.map T_api_Event.d),.sl (d_0.Comments.map T_api_Comment.d)]),(1,.box none [.str p_1.Name,.int .i64 p_1.Reading,.int .i64 p_1.MinFrames,.int .i64 p_1.MaxFrames,.int .i64 p_1.MinGap,.int .i64 p_1.ShotBefore,.int .i64 p_1.ShotAfter,.int .i64 p_1.Rows,.int .i64 p_1.Cols,.str p_1.Forbidden,.int .i64 p_1.SafeTop,.int .i64 p_1.SafeBottom,.int .i64 p_1.SafeLeft,.int .i64 p_1.SafeRight]),(2,.vec 48 6 (x2.2.map T_api_Bound.d) false),(3,.box none [.int .i64 y0.ID,.int .i64 y0.Span.In,.int .i64 y0.Span.Out,.str y0.Region,.int .u8 y0.Kind,.str y0.Speaker,.sl (y0.Rows.map T_api_Row.d)])],4,167⟩) h11 ?_ ?_
     ·clear h;intro v1 h;refine rK fun K _ E J=>zz ?_;rcases ite_or h with⟨k2,h⟩|⟨_,h⟩
      ·have k:=And.intro (eq_of_beq k2) k;refine zz ?_;subst E J;cases h;exact en ⟨rfl,wk []⟩
      rcases ite_or h with⟨k3,h⟩|⟨_,h⟩
      ·have k:=And.intro (eq_of_beq k3) k;refine zz ?_;subst E J;cases h;exact en ⟨rfl,wk []⟩
      cases h
     refine rK fun K _ E J=>zz ?_;obtain⟨r4,h12,h⟩:=bs h;refine cW.introR (a_repair_window hI (nid:=16) (i0:=2) h12 fz) fs rfl<|zz ?_;subst E J;refine bn<|es<|rz ?_;cases h;exact en ⟨rfl,wk [(2,some 16)]⟩
    refine xf<|xx<|ee ?_;cases h;exact en ⟨rfl,wk []⟩
   refine bh<|es<|xs<|rz ?_;refine es ?_;obtain⟨k,h⟩|⟨k,h⟩:=iK k h
   ·refine xt<|rD hI fun K _ E J=>zz ?_;obtain⟨y1,q,h⟩:=bK q h;refine zz ?_;obtain⟨h13,h⟩:=ite_on h;have h14:e2.length+1≤9223372036854775807:=by omega
    try simp only[Nat.reduceLeDiff] at h14
    have q:=And.intro @h14<|And.intro @h13<|q;refine zz ?_;refine hd<|zz ?_;subst E J;refine bn<|es<|rz ?_;cases h;exact en ⟨rfl,wk [(2,some 28)]⟩
   refine xf<|xk<|bn<|es<|rz ?_;cases h;exact en ⟨rfl,wk []⟩
  refine xf<|xx<|ee ?_;cases h;exact en ⟨rfl,wk [(0,some 2)]⟩
 rcases e0 with e0|e0
 ·try dsimp only at h ⊢
  refine br<|er ?_;cases h;exact en fr
 try dsimp only at h ⊢
 refine bh<|es<|xs<|rz ?_;refine es<|xr ?_;cases h;exact en fr
def dl_List_Int_i64(x:List Int):D:=.sl (x.map (D.int .i64))
theorem dd_EC:(∀ x,T_api_Region.d x=.agg [.str x.Name,.int .i64 x.Top,.int .i64 x.Height,.int .i64 x.Left,.int .i64 x.Width,.int .u8 x.Align,.bool x.Bottom])∧(∀ x,T_api_Comment.d x=.agg [.int .i64 x.ID,.int .i64 x.Event,.int .i64 x.From,.int .i64 x.To,.str x.Author,.str x.Text,.bool x.Done,.bool x.Lost])∧(∀ x,T_api_Span.d x=.agg [.int .i64 x.In,.int .i64 x.Out])∧(∀ x,T_api_Style.d x=.agg [.int .u8 x.Color,.bool x.Italic,.bool x.Underline])∧(∀ x,T_api_Run.d x=.agg [.str x.Text,.int .u8 x.Style.Color,.bool x.Style.Italic,.bool x.Style.Underline,.str x.Ruby])∧(∀ x,T_api_Row.d x=.agg [.sl (x.Runs.map T_api_Run.d)])∧(∀ x,T_api_Event.d x=.agg [.int .i64 x.ID,.int .i64 x.Span.In,.int .i64 x.Span.Out,.str x.Region,.int .u8 x.Kind,.str x.Speaker,.sl (x.Rows.map T_api_Row.d)])∧(∀ x,T_api_Bound.d x=.agg [.int .i64 x.I,.int .i64 x.J,.int .i64 x.C,.int .u8 x.Rule,.int .i64 x.ID,.int .i64 x.Other])∧(∀ x:List Int,dl_List_Int_i64 x=.sl (x.map (D.int .i64))):=⟨fun _=>rfl,fun _=>rfl,fun _=>rfl,fun _=>rfl,fun _=>rfl,fun _=>rfl,fun _=>rfl,fun _=>rfl,fun _=>rfl⟩
def g_diffcon_Check_s1(n_0:Int)(l_1:List T_api_Bound)(x0:Int):Option (Nx (Int) (Int ⊕ Unit)) :=
 (if(decide (x0 < (l_1.length:Int))) then((atI l_1 x0).bind fun y0=>(((if(decide (y0.I < 0)) then(some true) else(if(decide (n_0≤y0.I)) then(some true) else(if(decide (y0.J < 0)) then(some true) else(some (decide (n_0≤y0.J)))))):Option (Bool)).bind fun v0=>(if v0 then(some (.out (.inl 1))) else(if(decide (y0.C < (-1099511627776))) then(some (.out (.inl 2))) else(if(decide (1099511627776 < y0.C)) then(some (.out (.inl 2))) else(some (.go (IntKind.i64.wrap (x0+1))))))))) else(some (.out (.inr ()))))
def g_diffcon_Check(n_0:Int)(l_1:List T_api_Bound):Option (Int) :=
 (((if(decide (n_0 < 1)) then(some true) else(some (decide (512 < n_0)))):Option (Bool)).bind fun v5=>(if v5 then(some 2) else(if(decide (4000 < (l_1.length:Int))) then(some 9) else((iter (g_diffcon_Check_s1 n_0 l_1) 0).bind fun e0=>(match e0 with|Sum.inl e0=>(some e0)|Sum.inr (e0)=>(some 0))))))
theorem a_diffcon_Check{I:World→Prop}(hI:Stab I){n_0:Int}{l_1:List T_api_Bound}{r:Int}(h:g_diffcon_Check n_0 l_1=some r):AFun Tryz.prog I 33 [.int .i64 n_0,.sl (l_1.map T_api_Bound.d)] (.int .i64 r):=by
 have dd:=dd_EC;have k:=True.intro;have q:=k;have rs:=Tryz.results33;unfold g_diffcon_Check at h;refine .en hI Tryz.func33 Tryz.ntmps33 ?_;refine xs<|rz ?_;refine es<|xs ?_;obtain⟨v5,h8,h⟩:=bs h;refine rb_cut (fun v5=>⟨envL [(0,.int .i64 n_0),(1,.sl (l_1.map T_api_Bound.d)),(12,.bool v5)],heapL [],0,51⟩) h8 ?_ ?_
 ·clear h;intro v5 h;refine rK fun K _ E J=>zz ?_;obtain⟨k,h⟩|⟨k,h⟩:=iK k h
  ·refine zz ?_;subst E J;cases h;exact en ⟨rfl,wk []⟩
  refine zz ?_;subst E J;cases h;exact en ⟨rfl,wk []⟩
 obtain⟨k,h⟩|⟨k,h⟩:=iK k h
 ·refine xt<|xs<|rz ?_;refine es<|xr<|er ?_;cases h;exact en fr
 refine xf<|xk<|es<|xs<|xs<|rz ?_;refine es ?_;obtain⟨k,h⟩|⟨k,h⟩:=iK k h
 ·refine xt<|xs<|rz ?_;refine es<|xr<|er ?_;cases h;exact en fr
 refine xf<|xk<|es<|xs<|xs<|rz ?_;refine es<|xb ?_;obtain⟨e0,h0,h⟩:=bs h;refine rb_loop (fun x0=>⟨envL [(0,.int .i64 n_0),(16,.sl (l_1.map T_api_Bound.d)),(17,.int .i64 (l_1.length:Int)),(18,.int .i64 x0)],heapL [],0,51⟩) (fun w=>match w with|Sum.inl _=>.ret|Sum.inr (_)=>.exit 0) (fun w=>match w with|Sum.inl e0=>⟨envL [(4,.int .i64 e0)],heapL [],0,51⟩|Sum.inr (e0)=>⟨envL [],heapL [],0,51⟩) h0 (wk []) (by intro w;rcases w with w|w<;>simp) ?_ ?_
 ·clear h;intro x0 y h;unfold g_diffcon_Check_s1 at h;refine xs<|rz ?_;refine es<|xs ?_;obtain⟨k,h⟩|⟨k,h⟩:=iK k h
  ·refine xt<|xk<|es<|xs<|xb<|xs<|rK fun K _ E J=>zz ?_;obtain⟨y0,q,h⟩:=bK q h;refine zz ?_;subst E J;refine es<|xs ?_;obtain⟨v0,h1,h⟩:=bs h;refine rb_cut (fun v0=>⟨envL [(0,.int .i64 n_0),(6,.ptr 0 0),(16,.sl (l_1.map T_api_Bound.d)),(17,.int .i64 (l_1.length:Int)),(18,.int .i64 x0),(41,.bool v0)],heapL [(0,.box none [.int .i64 y0.I,.int .i64 y0.J,.int .i64 y0.C,.int .u8 y0.Rule,.int .i64 y0.ID,.int .i64 y0.Other])],1,51⟩) h1 ?_ ?_
   ·clear h;intro v0 h;refine rK fun K _ E J=>zz ?_;obtain⟨k,h⟩|⟨k,h⟩:=iK k h
    ·refine zz ?_;subst E J;cases h;exact en ⟨rfl,wk [(0,some 3)]⟩
    refine zz ?_;obtain⟨k,h⟩|⟨k,h⟩:=iK k h
    ·refine zz ?_;subst E J;cases h;exact en ⟨rfl,wk [(0,some 3)]⟩
    refine zz ?_;obtain⟨k,h⟩|⟨k,h⟩:=iK k h
    ·refine zz ?_;subst E J;cases h;exact en ⟨rfl,wk [(0,some 3)]⟩
    refine zz ?_;subst E J;cases h;exact en ⟨rfl,wk [(0,some 3)]⟩
   obtain⟨k,h⟩|⟨k,h⟩:=iK k h
   ·refine xt<|xs<|rz ?_;refine es<|xr<|er<|br<|er ?_;cases h;exact en ⟨rfl,wk []⟩
   refine xf<|xk<|es<|xs<|rK fun K _ E J=>zz ?_;obtain⟨k,h⟩|⟨k,h⟩:=iK k h
   ·refine zz ?_;subst E J;refine es<|xt<|xs<|rz ?_;refine es<|xr<|br<|er ?_;cases h;exact en ⟨rfl,wk []⟩
   refine zz ?_;subst E J;refine es ?_;obtain⟨k,h⟩|⟨k,h⟩:=iK k h
   ·refine xt<|xs<|rz ?_;refine es<|xr<|br<|er ?_;cases h;exact en ⟨rfl,wk []⟩
   refine xf<|xk<|bn<|es<|rz ?_;cases h;exact en ⟨rfl,wk []⟩
  refine xf<|xx<|ee ?_;cases h;exact en ⟨rfl,wk []⟩
 rcases e0 with e0|e0
 ·try dsimp only at h ⊢
  refine br<|er ?_;cases h;exact en fr
 try dsimp only at h ⊢
 refine bh<|es<|xs<|rz ?_;refine es<|xr ?_;cases h;exact en fr
def g_diffcon_relax_w_s2(l_0:List T_api_Bound)(x0:Bool × Int × (List Int)):Option (Nx (Bool × Int × (List Int)) ((List Int) × Bool)) :=
 (if(decide (x0.2.1 < (l_0.length:Int))) then((atI l_0 x0.2.1).bind fun y0=>((((atI x0.2.2 y0.I).bind fun y1=>(if(y1 != 1152921504606846976) then((atI x0.2.2 y0.J).bind fun y2=>(some (decide ((IntKind.i64.wrap (y1+y0.C)) < y2)))) else(some false))):Option (Bool)).bind fun v0=>(if v0 then((atI x0.2.2 y0.I).bind fun y3=>((atI x0.2.2 y0.J).bind fun y4=>((setI x0.2.2 y0.J (IntKind.i64.wrap (y3+y0.C))).bind fun m0=>(some (.go (true,(IntKind.i64.wrap (x0.2.1+1)),m0)))))) else(some (.go (x0.1,(IntKind.i64.wrap (x0.2.1+1)),x0.2.2)))))) else(some (.out (x0.2.2,x0.1))))
def g_diffcon_relax_w_s1(l_0:List T_api_Bound)(x_1:List Int)(x5:Int × (List Int)):Option (Nx (Int × (List Int)) (((List Int)) ⊕ ((List Int)))) :=
 (if(decide (x5.1 < (IntKind.i64.wrap (((x_1.length:Nat):Int)+1)))) then((iter (g_diffcon_relax_w_s2 l_0) (false,0,x5.2)).bind fun e0=>(if e0.2 then(some (.go ((IntKind.i64.wrap (x5.1+1)),e0.1))) else(some (.out (.inl e0.1))))) else(some (.out (.inr x5.2))))
def g_diffcon_relax_w(l_0:List T_api_Bound)(x_1:List Int):Option (Bool × (List Int)) :=
 ((iter (g_diffcon_relax_w_s1 l_0 x_1) (0,x_1)).bind fun e6=>(match e6 with|Sum.inl e6=>(some (true,e6))|Sum.inr (e6)=>(some (false,e6))))
theorem a_diffcon_relax_w{I:World→Prop}(hI:Stab I){H:Nat→Option Blk}{nid i0:Nat}{pn:Option Value}{l_0:List T_api_Bound}{x_1:List Int}{r:Bool × (List Int)}(h:g_diffcon_relax_w l_0 x_1=some r)(b0:H i0=some (rowB pn 2 1 (x_1.map (D.int .i64)))):CallOK Tryz.prog I 34 [.sl (l_0.map T_api_Bound.d),.own i0 x_1.length] H nid (.bool r.1) [(i0,some (rowB pn 2 1 (r.2.map (D.int .i64))))]:=by
 refine CallOK.inrow (i0:=i0) (ds0:=[.sl (l_0.map T_api_Bound.d),.own 0 x_1.length]) hI Tryz.func34 rfl (by decide) (by simp[Tryz.f34]) (by kernel_rfl) rfl rfl b0 fun uv=>?_;have dd:=dd_EC;have k:=True.intro;have q:=k;have rs:=Tryz.results34;unfold g_diffcon_relax_w at h;simp only[List.length_cons,List.length_nil,Nat.zero_add,Nat.reduceAdd,Tryz.ntmps34,dd];refine xs<|rz ?_;refine es<|xs<|xs<|rz ?_;refine es<|xb ?_;obtain⟨e6,h0,h⟩:=bs h;refine rb_loop (fun x5=>⟨envL [(0,.sl (l_0.map T_api_Bound.d)),(1,.own 0 x5.2.length),(10,.int .i64 (IntKind.i64.wrap (((x_1.length:Nat):Int)+1))),(11,.int .i64 x5.1)],heapL [(0,.lrow uv 2 1 (x5.2.map (D.int .i64)))],1,57⟩) (fun w=>match w with|Sum.inl _=>.ret|Sum.inr (_)=>.exit 0) (fun w=>match w with|Sum.inl e6=>⟨envL [(1,.own 0 e6.length),(4,.bool true)],heapL [(0,.lrow uv 2 1 (e6.map (D.int .i64)))],1,57⟩|Sum.inr (e6)=>⟨envL [(1,.own 0 e6.length)],heapL [(0,.lrow uv 2 1 (e6.map (D.int .i64)))],1,57⟩) h0 (wk []) (by intro w;rcases w with w|w<;>simp) ?_ ?_
 ·clear h;intro x5 y h;unfold g_diffcon_relax_w_s1 at h;refine xs<|rz ?_;refine es<|xs ?_;obtain⟨k,h⟩|⟨k,h⟩:=iK k h
  ·refine xt<|xk<|es<|xs<|xb<|xs<|rz ?_;refine es<|xs<|xs<|rz ?_;refine es<|xb ?_;obtain⟨e0,h1,h⟩:=bs h;refine rb_loop (fun x0=>⟨envL [(0,.sl (l_0.map T_api_Bound.d)),(1,.own 0 x0.2.2.length),(5,.bool x0.1),(10,.int .i64 (IntKind.i64.wrap (((x_1.length:Nat):Int)+1))),(11,.int .i64 x5.1),(13,.sl (l_0.map T_api_Bound.d)),(14,.int .i64 (l_0.length:Int)),(15,.int .i64 x0.2.1)],heapL [(0,.lrow uv 2 1 (x0.2.2.map (D.int .i64)))],1,57⟩) (fun _=>.exit 2) (fun e0=>⟨envL [(0,.sl (l_0.map T_api_Bound.d)),(1,.own 0 e0.1.length),(5,.bool e0.2),(10,.int .i64 (IntKind.i64.wrap (((x_1.length:Nat):Int)+1))),(11,.int .i64 x5.1)],heapL [(0,.lrow uv 2 1 (e0.1.map (D.int .i64)))],1,57⟩) h1 (wk []) (by intro w;simp) ?_ ?_
   ·clear h;intro x0 y h;unfold g_diffcon_relax_w_s2 at h;refine xs<|rz ?_;refine es<|xs ?_;obtain⟨k,h⟩|⟨k,h⟩:=iK k h
    ·refine xt<|xk<|es<|xs<|xb<|xs<|rK fun K _ E J=>zz ?_;obtain⟨y0,q,h⟩:=bK q h;refine zz ?_;subst E J;refine es ?_;obtain⟨v0,h2,h⟩:=bs h;refine rb_cut (fun v0=>⟨envL [(0,.sl (l_0.map T_api_Bound.d)),(1,.own 0 x0.2.2.length),(5,.bool x0.1),(7,.ptr 1 0),(10,.int .i64 (IntKind.i64.wrap (((x_1.length:Nat):Int)+1))),(11,.int .i64 x5.1),(13,.sl (l_0.map T_api_Bound.d)),(14,.int .i64 (l_0.length:Int)),(15,.int .i64 x0.2.1),(40,.bool v0)],heapL [(0,.lrow uv 2 1 (x0.2.2.map (D.int .i64))),(1,.box none [.int .i64 y0.I,.int .i64 y0.J,.int .i64 y0.C,.int .u8 y0.Rule,.int .i64 y0.ID,.int .i64 y0.Other])],2,57⟩) h2 ?_ ?_
     ·clear h;intro v0 h;refine rD hI fun K _ E J=>zz ?_;obtain⟨y1,q,h⟩:=oN q h;refine zz ?_;obtain⟨k,h⟩|⟨k,h⟩:=iK k h
      ·refine zz ?_;obtain⟨y2,q,h⟩:=oN q h;refine zz ?_;subst E J;cases h;exact en ⟨rfl,wk [(1,some 4)]⟩
      refine zz ?_;subst E J;cases h;exact en ⟨rfl,wk [(1,some 4)]⟩
     obtain⟨k,h⟩|⟨k,h⟩:=iK k h
     ·refine xt<|xs<|rD hI fun K _ E J=>zz ?_;obtain⟨y3,q,h⟩:=oN q h;refine zz ?_;obtain⟨y4,q,h⟩:=oN q h;refine zz ?_;obtain⟨m0,h3,h⟩:=bind_some h;obtain⟨h4,h5,h6,h7⟩:=setI_some h3;have h7:=h7 (D.int .i64);try simp only[sevalprocAttr,List.map_nil,dd] at h7
      have q:=And.intro @h4<|And.intro @h5<|And.intro @h6<|And.intro @h7<|q;refine zz ?_;refine hd<|zz ?_;subst E J;refine es<|rz ?_;refine bn<|es<|rz ?_;cases h;exact en ⟨rfl,wk []⟩
     refine xf<|xk<|bn<|es<|rz ?_;cases h;exact en ⟨rfl,wk []⟩
    refine xf<|xx<|ee ?_;cases h;exact en ⟨rfl,wk []⟩
   refine bh<|es<|xs<|rz ?_;refine es ?_;obtain⟨k,h⟩|⟨k,h⟩:=iK k h
   ·refine xf<|xk<|bn<|es<|rz ?_;cases h;exact en ⟨rfl,wk []⟩
   refine xt<|xs<|rz ?_;refine es<|xr<|br<|er ?_;cases h;exact en ⟨rfl,wk []⟩
  refine xf<|xx<|ee ?_;cases h;exact en ⟨rfl,wk []⟩
 rcases e6 with e6|e6
 ·try dsimp only at h ⊢
  refine br<|er ?_;cases h;exact en (fI 0)
 try dsimp only at h ⊢
 refine bh<|es<|xs<|rz ?_;refine es<|xr ?_;cases h;exact en (fI 0)
def g_diffcon_relax(l_0:List T_api_Bound)(x_1:List Int):Option (Bool × (List Int)):=(g_diffcon_relax_w l_0 x_1).bind fun r=>if r.2.length=x_1.length then some r else none
theorem a_diffcon_relax_len{l_0:List T_api_Bound}{x_1:List Int}{r:Bool × (List Int)}(h:g_diffcon_relax l_0 x_1=some r):x_1.length=r.2.length:=by
 unfold g_diffcon_relax at h;obtain⟨x,_,h⟩:=bs h;obtain⟨h1,h⟩:=ite_on h;cases h;exact h1.symm
theorem a_diffcon_relax_in{l_0:List T_api_Bound}{x_1:List Int}{r:Bool × (List Int)}(h:g_diffcon_relax l_0 x_1=some r):g_diffcon_relax_w l_0 x_1=some r:=by
 unfold g_diffcon_relax at h;obtain⟨x,h0,h⟩:=bs h;obtain⟨h1,h⟩:=ite_on h;cases h;exact h0
theorem a_diffcon_relax{I:World→Prop}(hI:Stab I){H:Nat→Option Blk}{nid i0:Nat}{l_0:List T_api_Bound}{x_1:List Int}{r:Bool × (List Int)}(h:g_diffcon_relax l_0 x_1=some r)(b0:H i0=some (.vec 2 1 (x_1.map (D.int .i64)) false)):CallOK Tryz.prog I 34 [.sl (l_0.map T_api_Bound.d),.own i0 x_1.length] H nid (.bool r.1) [(i0,some (.vec 2 1 (r.2.map (D.int .i64)) false))] :=
 a_diffcon_relax_w hI (pn:=none) (a_diffcon_relax_in h) b0
def g_diffcon_shortest_s2(m0:List (List Int))(x0:Int × (List Int)):Option (Nx (Int × (List Int)) ((List Int))) :=
 (if(decide (x0.1 < ((m0.length:Nat):Int))) then((atI x0.2 x0.1).bind fun y0=>((setI x0.2 x0.1 1152921504606846976).bind fun m1=>(some (.go ((IntKind.i64.wrap (x0.1+1)),m1))))) else(some (.out x0.2)))
def g_diffcon_shortest_s1(n_0:Int)(m0:List (List Int))(x0:Int × (List (List Int))):Option (Nx (Int × (List (List Int))) ((List (List Int)))) :=
 (if(decide (x0.1 < ((m0.length:Nat):Int))) then((mkI 8 n_0 (0:Int)).bind fun m1=>((atI x0.2 x0.1).bind fun y0=>((iter (g_diffcon_shortest_s2 m0) (0,m1)).bind fun e0=>((atI e0 x0.1).bind fun y1=>((setI e0 x0.1 0).bind fun m2=>(some (.go ((IntKind.i64.wrap (x0.1+1)),(x0.2.set x0.1.toNat m2))))))))) else(some (.out x0.2)))
def g_diffcon_shortest_s5(m0:List (List Int))(x0:Int × (List Int)):Option (Nx (Int × (List Int)) ((List Int))) :=
 (if(decide (x0.1 < ((m0.length:Nat):Int))) then((atI x0.2 x0.1).bind fun y0=>((setI x0.2 x0.1 1152921504606846976).bind fun m1=>(some (.go ((IntKind.i64.wrap (x0.1+1)),m1))))) else(some (.out x0.2)))
def g_diffcon_shortest_s6(l_1:List T_api_Bound)(y0:List Int)(x0:Int × (List Int)):Option (Nx (Int × (List Int)) ((List Int))) :=
 (if(decide (x0.1 < (l_1.length:Int))) then((atI l_1 x0.1).bind fun y1=>((atI y0 y1.I).bind fun y2=>(if(y2 != 1152921504606846976) then((atI x0.2 y1.J).bind fun y3=>((setI x0.2 y1.J (if(IntKind.i64.wrap (y2+y1.C)) < y3 then(IntKind.i64.wrap (y2+y1.C)) else y3)).bind fun m0=>(some (.go ((IntKind.i64.wrap (x0.1+1)),m0))))) else(some (.go ((IntKind.i64.wrap (x0.1+1)),x0.2)))))) else(some (.out x0.2)))
def g_diffcon_shortest_s4(n_0:Int)(l_1:List T_api_Bound)(m0:List (List Int))(x0:Int × (List (List Int)))(x1:Int × (List (List Int))):Option (Nx (Int × (List (List Int))) (Unit ⊕ ((List (List Int))))) :=
 (if(decide (x1.1 < ((x0.2.length:Nat):Int))) then((atI x1.2 x1.1).bind fun y0=>((mkI 8 n_0 (0:Int)).bind fun m1=>((iter (g_diffcon_shortest_s5 m0) (0,m1)).bind fun e0=>((iter (g_diffcon_shortest_s6 l_1 y0) (0,e0)).bind fun e1=>((atI e1 x1.1).bind fun y1=>(if(decide (y1 < 0)) then(some (.out (.inl ()))) else(some (.go ((IntKind.i64.wrap (x1.1+1)),(x1.2.set x1.1.toNat e1)))))))))) else(some (.out (.inr x1.2))))
def g_diffcon_shortest_s3(n_0:Int)(l_1:List T_api_Bound)(m0:List (List Int))(x0:Int × (List (List Int))):Option (Nx (Int × (List (List Int))) (Int ⊕ Unit)) :=
 (if(decide (x0.1≤n_0)) then((iter (g_diffcon_shortest_s4 n_0 l_1 m0 x0) (0,x0.2)).bind fun e0=>(match e0 with|Sum.inl e0=>(some (.out (.inl x0.1)))|Sum.inr (e0)=>(some (.go ((IntKind.i64.wrap (x0.1+1)),e0))))) else(some (.out (.inr ()))))
def g_diffcon_shortest(n_0:Int)(l_1:List T_api_Bound):Option (Int) :=
 ((mkI 24 n_0 ([]:List Int)).bind fun m0=>((iter (g_diffcon_shortest_s1 n_0 m0) (0,m0)).bind fun e0=>((iter (g_diffcon_shortest_s3 n_0 l_1 m0) (1,e0)).bind fun e1=>(match e1 with|Sum.inl e1=>(some e1)|Sum.inr (e1)=>(some 0)))))
theorem a_diffcon_shortest{I:World→Prop}(hI:Stab I){n_0:Int}{l_1:List T_api_Bound}{r:Int}(h:g_diffcon_shortest n_0 l_1=some r):AFun Tryz.prog I 36 [.int .i64 n_0,.sl (l_1.map T_api_Bound.d)] (.int .i64 r):=by
 have dd:=dd_EC;have k:=True.intro;have q:=k;have rs:=Tryz.results36;unfold g_diffcon_shortest at h;refine .en hI Tryz.func36 Tryz.ntmps36 ?_;refine xs<|rz ?_;refine es<|xs<|rK fun K _ E J=>zz ?_;obtain⟨m0,h0,h⟩:=bind_some h;obtain⟨h1,h2,h3,h4,h5⟩:=mkI_some h0;have h5:=h5 dl_List_Int_i64;try simp only[sevalprocAttr,List.map_nil,Int.toNat_natCast,dd] at h4 h5
 have q:=And.intro @h1<|And.intro @h2<|And.intro @h3<|And.intro @h4<|And.intro @h5<|q;refine zz ?_;subst E J;refine es<|xs<|xs<|rz ?_;refine es<|xb ?_;obtain⟨e0,h6,h⟩:=bs h;refine rb_loop (fun x0=>⟨envL [(0,.int .i64 n_0),(1,.sl (l_1.map T_api_Bound.d)),(5,.own 0 x0.2.length),(18,.int .i64 ((m0.length:Nat):Int)),(19,.int .i64 x0.1)],heapL [(0,.vec 30 1 (x0.2.map dl_List_Int_i64) false)],1,114⟩) (fun _=>.exit 0) (fun e0=>⟨envL [(0,.int .i64 n_0),(1,.sl (l_1.map T_api_Bound.d)),(5,.own 0 e0.length)],heapL [(0,.vec 30 1 (e0.map dl_List_Int_i64) false)],1,114⟩) h6 (wk [(0,some 2)]) (by intro w;simp) ?_ ?_
 ·clear h;intro x0 y h;unfold g_diffcon_shortest_s1 at h;refine xs<|rz ?_;refine es<|xs ?_;obtain⟨k,h⟩|⟨k,h⟩:=iK k h
  ·refine xt<|xk<|es<|xs<|xb<|xs<|rz ?_;refine es<|xs<|rK fun K _ E J=>zz ?_;obtain⟨m1,h7,h⟩:=bind_some h;obtain⟨h8,h9,h10,h11,h12⟩:=mkI_some h7;have h12:=h12 (D.int .i64);try simp only[sevalprocAttr,List.map_nil,Int.toNat_natCast,dd] at h11 h12
   rw[h4] at h11;rw[← h11] at h12;have k:=And.intro h11.symm k;have q:=And.intro @h8<|And.intro @h9<|And.intro @h10<|And.intro @h12<|q;refine zz ?_;obtain⟨y0,q,h⟩:=oN q h;refine zz ?_;have h19:x0.1.toNat < x0.2.length:=by omega
   have q:=And.intro @h19<|q;refine zz ?_;subst E J;refine es<|xs<|xs<|rK fun K _ E J=>zz ?_;have h20:=mat_at (f:=dl_List_Int_i64) (L:=x0.2) (i:=x0.1.toNat) (x:=.own 7 m0.length) (by omega);have q:=And.intro @h20<|q;refine zz ?_;subst E J;refine es<|xb ?_;obtain⟨e1,h21,h⟩:=bs h;refine rb_loop (fun x1=>⟨envL [(0,.int .i64 n_0),(1,.sl (l_1.map T_api_Bound.d)),(5,.own 0 x0.2.length),(6,.int .i64 x0.1),(18,.int .i64 ((m0.length:Nat):Int)),(19,.int .i64 x0.1),(31,.int .i64 ((m0.length:Nat):Int)),(32,.int .i64 x1.1)],heapL [(0,.mat 30 1 ((x0.2.map dl_List_Int_i64).set x0.1.toNat (.own 1 x1.2.length))),(1,.vec 2 1 (x1.2.map (D.int .i64)) false)],2,114⟩) (fun _=>.exit 2) (fun e1=>⟨envL [(0,.int .i64 n_0),(1,.sl (l_1.map T_api_Bound.d)),(5,.own 0 x0.2.length),(6,.int .i64 x0.1),(18,.int .i64 ((m0.length:Nat):Int)),(19,.int .i64 x0.1)],heapL [(0,.mat 30 1 ((x0.2.map dl_List_Int_i64).set x0.1.toNat (.own 1 e1.length))),(1,.vec 2 1 (e1.map (D.int .i64)) false)],2,114⟩) h21 (wk [(1,some 7)]) (by intro w;simp) ?_ ?_
   ·clear h;intro x1 y h;unfold g_diffcon_shortest_s2 at h;refine xs<|rz ?_;refine es<|xs ?_;obtain⟨k,h⟩|⟨k,h⟩:=iK k h
    ·refine xt<|xk<|es<|xs<|xb<|xs<|rz ?_;refine es<|rK fun K _ E J=>zz ?_;have h22:=mat_at (f:=dl_List_Int_i64) (L:=x0.2) (i:=x0.1.toNat) (x:=.own 1 x1.2.length) (by omega);have q:=And.intro @h22<|q;refine zz ?_;obtain⟨y1,q,h⟩:=oN q h;refine zz ?_;obtain⟨m2,h23,h⟩:=bind_some h;obtain⟨h24,h25,h26,h27⟩:=setI_some h23;have h27:=h27 (D.int .i64);try simp only[sevalprocAttr,List.map_nil,dd] at h27
     have q:=And.intro @h24<|And.intro @h25<|And.intro @h26<|And.intro @h27<|q;refine zz ?_;subst E J;refine bn<|es<|rz ?_;cases h;exact en ⟨rfl,wk []⟩
    refine xf<|xx<|ee ?_;cases h;exact en ⟨rfl,wk []⟩
   refine bh<|es<|rK fun K _ E J=>zz ?_;have h28:=mat_at (f:=dl_List_Int_i64) (L:=x0.2) (i:=x0.1.toNat) (x:=.own 1 e1.length) (by omega);have q:=And.intro @h28<|q;refine zz ?_;obtain⟨y2,q,h⟩:=oN q h;refine zz ?_;obtain⟨m3,h29,h⟩:=bind_some h;obtain⟨h30,h31,h32,h33⟩:=setI_some h29;have h33:=h33 (D.int .i64);try simp only[sevalprocAttr,List.map_nil,dd] at h33
   have q:=And.intro @h30<|And.intro @h31<|And.intro @h32<|And.intro @h33<|q;refine zz ?_;subst E J;refine bn<|es<|rz ?_;cases h;exact en ⟨rfl,((Wk.closeM (id:=0) (j:=1) (i:=x0.1.toNat) (f:=dl_List_Int_i64) (L:=x0.2) fz (by omega) fz fs (by decide) (fun _=>rfl)).trans (wk []))⟩
  refine xf<|xx<|ee ?_;cases h;exact en ⟨rfl,wk []⟩
 refine bh<|es<|xs<|xs<|rz ?_;refine es<|xb ?_;obtain⟨e2,h34,h⟩:=bs h;refine rb_loop (fun x2=>⟨envL [(0,.int .i64 n_0),(1,.sl (l_1.map T_api_Bound.d)),(5,.own 0 x2.2.length),(8,.int .i64 x2.1)],heapL [(0,.vec 30 1 (x2.2.map dl_List_Int_i64) false)],1,114⟩) (fun w=>match w with|Sum.inl _=>.ret|Sum.inr (_)=>.exit 4) (fun w=>match w with|Sum.inl e2=>⟨envL [(4,.int .i64 e2)],heapL [],0,114⟩|Sum.inr (e2)=>⟨envL [],heapL [],0,114⟩) h34 (wk []) (by intro w;rcases w with w|w<;>simp) ?_ ?_
 ·clear h;intro x2 y h;unfold g_diffcon_shortest_s3 at h;refine xs<|xs<|rz ?_;refine es ?_;obtain⟨k,h⟩|⟨k,h⟩:=iK k h
  ·refine xt<|xk<|es<|xs<|xb<|xs<|rz ?_;refine es<|xb ?_;obtain⟨e3,h35,h⟩:=bs h;refine rb_loop (fun x3=>⟨envL [(0,.int .i64 n_0),(1,.sl (l_1.map T_api_Bound.d)),(5,.own 0 x3.2.length),(8,.int .i64 x2.1),(54,.own 0 x3.2.length),(55,.int .i64 ((x2.2.length:Nat):Int)),(56,.int .i64 x3.1)],heapL [(0,.vec 30 1 (x3.2.map dl_List_Int_i64) false)],1,114⟩) (fun w=>match w with|Sum.inl _=>.ret|Sum.inr (_)=>.exit 6) (fun w=>match w with|Sum.inl e3=>⟨envL [(4,.int .i64 x2.1)],heapL [],0,114⟩|Sum.inr (e3)=>⟨envL [(0,.int .i64 n_0),(1,.sl (l_1.map T_api_Bound.d)),(5,.own 0 e3.length),(8,.int .i64 x2.1)],heapL [(0,.vec 30 1 (e3.map dl_List_Int_i64) false)],1,114⟩) h35 (wk []) (by intro w;rcases w with w|w<;>simp) ?_ ?_
   ·clear h;intro x3 y h;unfold g_diffcon_shortest_s4 at h;refine xs<|rz ?_;refine es<|xs ?_;obtain⟨k,h⟩|⟨k,h⟩:=iK k h
    ·refine xt<|xk<|es<|xs<|xb<|xs<|rK fun K _ E J=>zz ?_;obtain⟨y3,q,h⟩:=oN q h;refine zz ?_;subst E J;refine es<|xs<|rK fun K _ E J=>zz ?_;obtain⟨m4,h36,h⟩:=bind_some h;obtain⟨h37,h38,h39,h40,h41⟩:=mkI_some h36;have h41:=h41 (D.int .i64);try simp only[sevalprocAttr,List.map_nil,Int.toNat_natCast,dd] at h40 h41
     rw[h4] at h40;rw[← h40] at h41;have k:=And.intro h40.symm k;have q:=And.intro @h37<|And.intro @h38<|And.intro @h39<|And.intro @h41<|q;refine zz ?_;subst E J;refine es<|xs<|xs<|rz ?_;refine es<|xb ?_;obtain⟨e4,h42,h⟩:=bs h;refine rb_loop (fun x4=>⟨envL [(0,.int .i64 n_0),(1,.sl (l_1.map T_api_Bound.d)),(5,.own 0 x3.2.length),(8,.int .i64 x2.1),(9,.int .i64 x3.1),(10,.sl (y3.map (D.int .i64))),(11,.own 1 x4.2.length),(54,.own 0 x3.2.length),(55,.int .i64 ((x2.2.length:Nat):Int)),(56,.int .i64 x3.1),(64,.int .i64 ((m0.length:Nat):Int)),(65,.int .i64 x4.1)],heapL [(0,.vec 30 1 (x3.2.map dl_List_Int_i64) false),(1,.vec 2 1 (x4.2.map (D.int .i64)) false)],2,114⟩) (fun _=>.exit 8) (fun e4=>⟨envL [(0,.int .i64 n_0),(1,.sl (l_1.map T_api_Bound.d)),(5,.own 0 x3.2.length),(8,.int .i64 x2.1),(9,.int .i64 x3.1),(10,.sl (y3.map (D.int .i64))),(11,.own 1 e4.length),(54,.own 0 x3.2.length),(55,.int .i64 ((x2.2.length:Nat):Int)),(56,.int .i64 x3.1)],heapL [(0,.vec 30 1 (x3.2.map dl_List_Int_i64) false),(1,.vec 2 1 (e4.map (D.int .i64)) false)],2,114⟩) h42 (wk [(1,some 8)]) (by intro w;simp) ?_ ?_
     ·clear h;intro x4 y h;unfold g_diffcon_shortest_s5 at h;refine xs<|rz ?_;refine es<|xs ?_;obtain⟨k,h⟩|⟨k,h⟩:=iK k h
      ·refine xt<|xk<|es<|xs<|xb<|xs<|rz ?_;refine es<|rK fun K _ E J=>zz ?_;obtain⟨y4,q,h⟩:=oN q h;refine zz ?_;obtain⟨m5,h43,h⟩:=bind_some h;obtain⟨h44,h45,h46,h47⟩:=setI_some h43;have h47:=h47 (D.int .i64);try simp only[sevalprocAttr,List.map_nil,dd] at h47
       have q:=And.intro @h44<|And.intro @h45<|And.intro @h46<|And.intro @h47<|q;refine zz ?_;subst E J;refine bn<|es<|rz ?_;cases h;exact en ⟨rfl,wk []⟩
      refine xf<|xx<|ee ?_;cases h;exact en ⟨rfl,wk []⟩
     refine bh<|es<|xs<|xs<|rz ?_;refine es<|xb ?_;obtain⟨e5,h48,h⟩:=bs h;refine rb_loop (fun x5=>⟨envL [(0,.int .i64 n_0),(1,.sl (l_1.map T_api_Bound.d)),(5,.own 0 x3.2.length),(8,.int .i64 x2.1),(9,.int .i64 x3.1),(10,.sl (y3.map (D.int .i64))),(11,.own 1 x5.2.length),(54,.own 0 x3.2.length),(55,.int .i64 ((x2.2.length:Nat):Int)),(56,.int .i64 x3.1),(72,.sl (l_1.map T_api_Bound.d)),(73,.int .i64 (l_1.length:Int)),(74,.int .i64 x5.1)],heapL [(0,.vec 30 1 (x3.2.map dl_List_Int_i64) false),(1,.vec 2 1 (x5.2.map (D.int .i64)) false)],2,114⟩) (fun _=>.exit 10) (fun e5=>⟨envL [(0,.int .i64 n_0),(1,.sl (l_1.map T_api_Bound.d)),(5,.own 0 x3.2.length),(8,.int .i64 x2.1),(9,.int .i64 x3.1),(11,.own 1 e5.length),(54,.own 0 x3.2.length),(55,.int .i64 ((x2.2.length:Nat):Int)),(56,.int .i64 x3.1)],heapL [(0,.vec 30 1 (x3.2.map dl_List_Int_i64) false),(1,.vec 2 1 (e5.map (D.int .i64)) false)],2,114⟩) h48 (wk []) (by intro w;simp) ?_ ?_
     ·clear h;intro x5 y h;unfold g_diffcon_shortest_s6 at h;refine xs<|rz ?_;refine es<|xs ?_;obtain⟨k,h⟩|⟨k,h⟩:=iK k h
      ·refine xt<|xk<|es<|xs<|xb<|xs<|rK fun K _ E J=>zz ?_;obtain⟨y5,q,h⟩:=bK q h;refine zz ?_;subst E J;refine es<|xs<|rK fun K _ E J=>zz ?_;obtain⟨y6,q,h⟩:=bK q h;refine zz ?_;subst E J;refine es ?_;obtain⟨k,h⟩|⟨k,h⟩:=iK k h
       ·refine xt<|rD hI fun K _ E J=>zz ?_;obtain⟨y7,q,h⟩:=oN q h;refine zz ?_;obtain⟨m6,h49,h⟩:=bind_some h;obtain⟨h50,h51,h52,h53⟩:=setI_some h49;have h53:=h53 (D.int .i64);try simp only[sevalprocAttr,List.map_nil,dd] at h53
        have q:=And.intro @h50<|And.intro @h51<|And.intro @h52<|And.intro @h53<|q;refine zz ?_;refine hd<|zz ?_;subst E J;refine bn<|es<|rz ?_;cases h;exact en ⟨rfl,wk []⟩
       refine xf<|xk<|bn<|es<|rz ?_;cases h;exact en ⟨rfl,wk []⟩
      refine xf<|xx<|ee ?_;cases h;exact en ⟨rfl,wk []⟩
     refine bh<|es<|xs<|rK fun K _ E J=>zz ?_;have h54:x3.1.toNat < x3.2.length:=by omega
     have q:=And.intro @h54<|q;refine zz ?_;subst E J;refine es<|xs<|rK fun K _ E J=>zz ?_;obtain⟨y8,q,h⟩:=oN q h;refine zz ?_;subst E J;refine es ?_;obtain⟨k,h⟩|⟨k,h⟩:=iK k h
     ·refine xt<|xs<|rz ?_;refine es<|xr<|br<|er ?_;cases h;exact en ⟨rfl,wk []⟩
     refine xf<|xk<|bn<|es<|rz ?_;cases h;exact en ⟨rfl,((Wk.closeM (id:=0) (j:=1) (i:=x3.1.toNat) (f:=dl_List_Int_i64) (L:=x3.2) fz (by omega) fz fs (by decide) (fun _=>rfl)).trans (wk []))⟩
    refine xf<|xx<|ee ?_;cases h;exact en ⟨rfl,wk []⟩
   rcases e3 with e3|e3
   ·try dsimp only at h ⊢
    refine br<|br<|er ?_;cases h;exact en ⟨rfl,wk []⟩
   try dsimp only at h ⊢
   refine bh<|bn<|es<|rz ?_;cases h;exact en ⟨rfl,wk []⟩
  refine xf<|xx<|ee ?_;cases h;exact en ⟨rfl,wk []⟩
 rcases e2 with e2|e2
 ·try dsimp only at h ⊢
  refine br<|er ?_;cases h;exact en fr
 try dsimp only at h ⊢
 refine bh<|es<|xs<|rz ?_;refine es<|xr ?_;cases h;exact en fr
def g_diffcon_rests_s2(m0:List Int)(x0:Int × (List Int)):Option (Nx (Int × (List Int)) ((List Int))) :=
 (if(decide (x0.1 < ((m0.length:Nat):Int))) then((atI x0.2 x0.1).bind fun y0=>((setI x0.2 x0.1 1152921504606846976).bind fun m1=>(some (.go ((IntKind.i64.wrap (x0.1+1)),m1))))) else(some (.out x0.2)))
def g_diffcon_rests_s3(x0:Int × (List (List Int)))(z0:List T_api_Bound)(x1:Int × (List Int)):Option (Nx (Int × (List Int)) ((List Int))) :=
 (if(decide (x1.1 < (z0.length:Int))) then((atI z0 x1.1).bind fun y0=>((atI x0.2 (IntKind.i64.wrap (x0.1 - 1))).bind fun y1=>(if ¬ (IntKind.i64.wrap (x0.1 - 1))=x0.1 then((atI y1 y0.J).bind fun y2=>(if(y2 != 1152921504606846976) then((atI x1.2 y0.I).bind fun y3=>((setI x1.2 y0.I (if(IntKind.i64.wrap (y0.C+y2)) < y3 then(IntKind.i64.wrap (y0.C+y2)) else y3)).bind fun m0=>(some (.go ((IntKind.i64.wrap (x1.1+1)),m0))))) else(some (.go ((IntKind.i64.wrap (x1.1+1)),x1.2))))) else none))) else(some (.out x1.2)))
def g_diffcon_rests_s1(n_0:Int)(l_1:List T_api_Bound)(first_2:Int)(to_4:Int)(m0:List (List Int))(x0:Int × (List (List Int))):Option (Nx (Int × (List (List Int))) ((List (List Int)))) :=
 (if(decide (x0.1 < ((m0.length:Nat):Int))) then((mkI 8 n_0 (0:Int)).bind fun m1=>((atI x0.2 x0.1).bind fun y0=>((iter (g_diffcon_rests_s2 m1) (0,m1)).bind fun e0=>(if(x0.1 == 0) then((atI x0.2 0).bind fun y1=>((atI e0 to_4).bind fun y2=>((setI e0 to_4 0).bind fun m2=>(some (.go ((IntKind.i64.wrap (x0.1+1)),(x0.2.set x0.1.toNat m2))))))) else((subL l_1 (IntKind.i64.wrap (first_2+1))).bind fun z0=>((iter (g_diffcon_rests_s3 x0 z0) (0,e0)).bind fun e1=>(some (.go ((IntKind.i64.wrap (x0.1+1)),(x0.2.set x0.1.toNat e1)))))))))) else(some (.out x0.2)))
def g_diffcon_rests(n_0:Int)(l_1:List T_api_Bound)(first_2:Int)(size_3:Int)(to_4:Int):Option ((List (List Int))) :=
 ((mkI 24 size_3 ([]:List Int)).bind fun m0=>((iter (g_diffcon_rests_s1 n_0 l_1 first_2 to_4 m0) (0,m0)).bind fun e0=>(some e0)))
theorem a_diffcon_rests{I:World→Prop}(hI:Stab I){n_0:Int}{l_1:List T_api_Bound}{first_2:Int}{size_3:Int}{to_4:Int}{r:(List (List Int))}(h:g_diffcon_rests n_0 l_1 first_2 size_3 to_4=some r):AFun Tryz.prog I 94 [.int .i64 n_0,.sl (l_1.map T_api_Bound.d),.int .i64 first_2,.int .i64 size_3,.int .i64 to_4] (.sl (r.map dl_List_Int_i64)):=by
 have dd:=dd_EC;have k:=True.intro;have q:=k;have rs:=Tryz.results94;unfold g_diffcon_rests at h;refine .en hI Tryz.func94 Tryz.ntmps94 ?_;refine xs<|rz ?_;refine es<|xs<|rK fun K _ E J=>zz ?_;obtain⟨m0,h0,h⟩:=bind_some h;obtain⟨h1,h2,h3,h4,h5⟩:=mkI_some h0;have h5:=h5 dl_List_Int_i64;try simp only[sevalprocAttr,List.map_nil,Int.toNat_natCast,dd] at h4 h5
 have q:=And.intro @h1<|And.intro @h2<|And.intro @h3<|And.intro @h4<|And.intro @h5<|q;refine zz ?_;subst E J;refine es<|xs<|xs<|rz ?_;refine es<|xb ?_;obtain⟨e0,h6,h⟩:=bs h;refine rb_loop (fun x0=>⟨envL [(0,.int .i64 n_0),(1,.sl (l_1.map T_api_Bound.d)),(2,.int .i64 first_2),(4,.int .i64 to_4),(11,.own 0 x0.2.length),(19,.int .i64 ((m0.length:Nat):Int)),(20,.int .i64 x0.1)],heapL [(0,.vec 30 1 (x0.2.map dl_List_Int_i64) false)],1,100⟩) (fun _=>.exit 0) (fun e0=>⟨envL [(11,.own 0 e0.length)],heapL [(0,.vec 30 1 (e0.map dl_List_Int_i64) false)],1,100⟩) h6 (wk [(0,some 2)]) (by intro w;simp) ?_ ?_
 ·clear h;intro x0 y h;unfold g_diffcon_rests_s1 at h;refine xs<|rz ?_;refine es<|xs ?_;obtain⟨k,h⟩|⟨k,h⟩:=iK k h
  ·refine xt<|xk<|es<|xs<|xb<|xs<|rz ?_;refine es<|xs<|rK fun K _ E J=>zz ?_;obtain⟨m1,h7,h⟩:=bind_some h;obtain⟨h8,h9,h10,h11,h12⟩:=mkI_some h7;have h12:=h12 (D.int .i64);try simp only[sevalprocAttr,List.map_nil,Int.toNat_natCast,dd] at h11 h12
   have q:=And.intro @h8<|And.intro @h9<|And.intro @h10<|And.intro @h11<|And.intro @h12<|q;refine zz ?_;obtain⟨y0,q,h⟩:=oN q h;refine zz ?_;have h19:x0.1.toNat < x0.2.length:=by omega
   have q:=And.intro @h19<|q;refine zz ?_;subst E J;refine es<|xs<|xs<|rK fun K _ E J=>zz ?_;have h20:=mat_at (f:=dl_List_Int_i64) (L:=x0.2) (i:=x0.1.toNat) (x:=.own 7 m1.length) (by omega);have q:=And.intro @h20<|q;refine zz ?_;subst E J;refine es<|xb ?_;obtain⟨e1,h21,h⟩:=bs h;refine rb_loop (fun x1=>⟨envL [(0,.int .i64 n_0),(1,.sl (l_1.map T_api_Bound.d)),(2,.int .i64 first_2),(4,.int .i64 to_4),(11,.own 0 x0.2.length),(12,.int .i64 x0.1),(19,.int .i64 ((m0.length:Nat):Int)),(20,.int .i64 x0.1),(32,.int .i64 ((m1.length:Nat):Int)),(33,.int .i64 x1.1)],heapL [(0,.mat 30 1 ((x0.2.map dl_List_Int_i64).set x0.1.toNat (.own 1 x1.2.length))),(1,.vec 2 1 (x1.2.map (D.int .i64)) false)],2,100⟩) (fun _=>.exit 2) (fun e1=>⟨envL [(0,.int .i64 n_0),(1,.sl (l_1.map T_api_Bound.d)),(2,.int .i64 first_2),(4,.int .i64 to_4),(11,.own 0 x0.2.length),(12,.int .i64 x0.1),(19,.int .i64 ((m0.length:Nat):Int)),(20,.int .i64 x0.1)],heapL [(0,.mat 30 1 ((x0.2.map dl_List_Int_i64).set x0.1.toNat (.own 1 e1.length))),(1,.vec 2 1 (e1.map (D.int .i64)) false)],2,100⟩) h21 (wk [(1,some 7)]) (by intro w;simp) ?_ ?_
   ·clear h;intro x1 y h;unfold g_diffcon_rests_s2 at h;refine xs<|rz ?_;refine es<|xs ?_;obtain⟨k,h⟩|⟨k,h⟩:=iK k h
    ·refine xt<|xk<|es<|xs<|xb<|xs<|rz ?_;refine es<|rK fun K _ E J=>zz ?_;have h22:=mat_at (f:=dl_List_Int_i64) (L:=x0.2) (i:=x0.1.toNat) (x:=.own 1 x1.2.length) (by omega);have q:=And.intro @h22<|q;refine zz ?_;obtain⟨y1,q,h⟩:=oN q h;refine zz ?_;obtain⟨m2,h23,h⟩:=bind_some h;obtain⟨h24,h25,h26,h27⟩:=setI_some h23;have h27:=h27 (D.int .i64);try simp only[sevalprocAttr,List.map_nil,dd] at h27
     have q:=And.intro @h24<|And.intro @h25<|And.intro @h26<|And.intro @h27<|q;refine zz ?_;subst E J;refine bn<|es<|rz ?_;cases h;exact en ⟨rfl,wk []⟩
    refine xf<|xx<|ee ?_;cases h;exact en ⟨rfl,wk []⟩
   refine bh<|es<|xs<|xs<|rz ?_;refine es ?_;obtain⟨k,h⟩|⟨k,h⟩:=iK k h
   ·refine xt<|xs<|rK fun K _ E J=>zz ?_;obtain⟨y2,h28,h⟩:=bind_some h;obtain⟨h29,h30,h31⟩:=atI_own h28;try simp only[Int.reduceToNat,Int.toNat_zero,Int.toNat_one] at h31
    have q:=And.intro h29<|And.intro h30<|And.intro @h31 q;have h32:=mat_at0 (f:=dl_List_Int_i64) (L:=x0.2) (i:=x0.1) (m:=0) (x:=.own 1 e1.length) (by have:=k;simp only[beq_iff_eq] at this;omega) (by omega);have q:=And.intro @h32<|q;refine zz ?_;obtain⟨y3,q,h⟩:=oN q h;refine zz ?_;obtain⟨m3,h33,h⟩:=bind_some h;obtain⟨h34,h35,h36,h37⟩:=setI_some h33;have h37:=h37 (D.int .i64);try simp only[sevalprocAttr,List.map_nil,dd] at h37
    have q:=And.intro @h34<|And.intro @h35<|And.intro @h36<|And.intro @h37<|q;refine zz ?_;subst E J;refine es<|xx<|ee<|bh<|es<|rz ?_;cases h;exact en ⟨rfl,((Wk.closeM (id:=0) (j:=1) (i:=x0.1.toNat) (f:=dl_List_Int_i64) (L:=x0.2) fz (by omega) fz fs (by decide) (fun _=>rfl)).trans (wk []))⟩
   refine xf<|xk<|es<|xs<|rK fun K _ E J=>zz ?_;obtain⟨z0,h38,h⟩:=bind_some h;obtain⟨⟨h39,h40⟩,h41⟩:=subL_some h38;have q:=And.intro @h39<|And.intro @h40<|q;try simp -implicitDefEqProofs only[vt,vm,sevalprocAttr,dd,k,q] at h41
   have q:=And.intro @h41<|q;refine zz ?_;subst E J;refine es<|xb ?_;obtain⟨e2,h42,h⟩:=bs h;refine rb_loop (fun x2=>⟨envL [(0,.int .i64 n_0),(1,.sl (l_1.map T_api_Bound.d)),(2,.int .i64 first_2),(4,.int .i64 to_4),(11,.own 0 x0.2.length),(12,.int .i64 x0.1),(19,.int .i64 ((m0.length:Nat):Int)),(20,.int .i64 x0.1),(53,.sl (z0.map T_api_Bound.d)),(54,.int .i64 (z0.length:Int)),(55,.int .i64 x2.1)],heapL [(0,.mat 30 1 ((x0.2.map dl_List_Int_i64).set x0.1.toNat (.own 1 x2.2.length))),(1,.vec 2 1 (x2.2.map (D.int .i64)) false)],2,100⟩) (fun _=>.exit 4) (fun e2=>⟨envL [(0,.int .i64 n_0),(1,.sl (l_1.map T_api_Bound.d)),(2,.int .i64 first_2),(4,.int .i64 to_4),(11,.own 0 x0.2.length),(19,.int .i64 ((m0.length:Nat):Int)),(20,.int .i64 x0.1)],heapL [(0,.mat 30 1 ((x0.2.map dl_List_Int_i64).set x0.1.toNat (.own 1 e2.length))),(1,.vec 2 1 (e2.map (D.int .i64)) false)],2,100⟩) h42 (wk []) (by intro w;simp) ?_ ?_
   ·clear h;intro x2 y h;unfold g_diffcon_rests_s3 at h;refine xs<|rz ?_;refine es<|xs ?_;obtain⟨k,h⟩|⟨k,h⟩:=iK k h
    ·refine xt<|xk<|es<|xs<|xb<|xs<|rK fun K _ E J=>zz ?_;obtain⟨y4,q,h⟩:=bK q h;refine zz ?_;subst E J;refine es<|xs<|rD hI fun K _ E J=>zz ?_;obtain⟨y5,q,h⟩:=oN q h;obtain⟨h43,h⟩:=ite_on h;have h44:=mat_ne (i:=x0.1.toNat) (x:=.own 1 x2.2.length) (q.1.2.2 dl_List_Int_i64) (by omega);have q:=And.intro @h44<|q;refine zz ?_;obtain⟨y6,q,h⟩:=bK q h;refine zz ?_;subst E J;refine es ?_;obtain⟨k,h⟩|⟨k,h⟩:=iK k h
     ·refine xt<|rD hI fun K _ E J=>zz ?_;have h45:=mat_at (f:=dl_List_Int_i64) (L:=x0.2) (i:=x0.1.toNat) (x:=.own 1 x2.2.length) (by omega);have q:=And.intro @h45<|q;refine zz ?_;obtain⟨y7,q,h⟩:=oN q h;refine zz ?_;obtain⟨m4,h46,h⟩:=bind_some h;obtain⟨h47,h48,h49,h50⟩:=setI_some h46;have h50:=h50 (D.int .i64);try simp only[sevalprocAttr,List.map_nil,dd] at h50
      have q:=And.intro @h47<|And.intro @h48<|And.intro @h49<|And.intro @h50<|q;refine zz ?_;refine hd<|zz ?_;subst E J;refine bn<|es<|rz ?_;cases h;exact en ⟨rfl,wk []⟩
     refine xf<|xk<|bn<|es<|rz ?_;cases h;exact en ⟨rfl,wk []⟩
    refine xf<|xx<|ee ?_;cases h;exact en ⟨rfl,wk []⟩
   refine bh<|bn<|es<|rz ?_;cases h;exact en ⟨rfl,((Wk.closeM (id:=0) (j:=1) (i:=x0.1.toNat) (f:=dl_List_Int_i64) (L:=x0.2) fz (by omega) fz fs (by decide) (fun _=>rfl)).trans (wk []))⟩
  refine xf<|xx<|ee ?_;cases h;exact en ⟨rfl,wk []⟩
 refine bh<|es<|xs<|rz ?_;refine es<|xr ?_;cases h;exact en fr
def g_diffcon_conflict_s3(l_1:List T_api_Bound)(r0:(List (List Int)))(x0:Int × Int × Int × (List Int))(x1:Int):Option (Nx (Int) ((List Int) × Int × Int)) :=
 (if(decide (x1 < (l_1.length:Int))) then((atI l_1 x1).bind fun y0=>(((if(y0.I == x0.1) then((atI r0 x0.2.2.1).bind fun y1=>((atI y1 y0.J).bind fun y2=>(if(y2 != 1152921504606846976) then(some (decide ((IntKind.i64.wrap ((IntKind.i64.wrap (x0.2.1+y0.C))+y2)) < 0))) else(some false)))) else(some false)):Option (Bool)).bind fun v0=>(if v0 then(if(x0.2.2.2.length+1) * 8≤140737488355328 then(some (.out ((x0.2.2.2++[x1]),y0.J,(IntKind.i64.wrap (x0.2.1+y0.C))))) else none) else(some (.go (IntKind.i64.wrap (x1+1))))))) else(some (.out (x0.2.2.2,x0.1,x0.2.1))))
def g_diffcon_conflict_s2(l_1:List T_api_Bound)(x5:Int)(r0:(List (List Int)))(x0:Int × Int × Int × (List Int)):Option (Nx (Int × Int × Int × (List Int)) ((List Int))) :=
 (if(decide (0≤x0.2.2.1)) then((iter (g_diffcon_conflict_s3 l_1 r0 x0) (IntKind.i64.wrap (x5+1))).bind fun e0=>(some (.go (e0.2.1,e0.2.2,(IntKind.i64.wrap (x0.2.2.1 - 1)),e0.1)))) else(some (.out x0.2.2.2)))
def g_diffcon_conflict_s1(n_0:Int)(l_1:List T_api_Bound)(size_2:Int)(x5:Int):Option (Nx (Int) (((List Int)) ⊕ Unit)) :=
 (if(decide (x5 < (l_1.length:Int))) then((atI l_1 x5).bind fun y0=>((g_diffcon_rests n_0 l_1 x5 size_2 y0.I).bind fun r0=>((((atI r0 (IntKind.i64.wrap (size_2 - 1))).bind fun y1=>((atI y1 y0.J).bind fun y2=>(if(y2 == 1152921504606846976) then(some true) else(some (decide (0≤(IntKind.i64.wrap (y0.C+y2)))))))):Option (Bool)).bind fun v0=>(if v0 then(some (.go (IntKind.i64.wrap (x5+1)))) else((iter (g_diffcon_conflict_s2 l_1 x5 r0) (y0.J,y0.C,(IntKind.i64.wrap (size_2 - 2)),[x5])).bind fun e0=>(some (.out (.inl e0)))))))) else(some (.out (.inr ()))))
def g_diffcon_conflict(n_0:Int)(l_1:List T_api_Bound)(size_2:Int):Option ((List Int)) :=
 ((iter (g_diffcon_conflict_s1 n_0 l_1 size_2) 0).bind fun e6=>(match e6 with|Sum.inl e6=>(some e6)|Sum.inr (e6)=>(some [])))
theorem a_diffcon_conflict{I:World→Prop}(hI:Stab I){n_0:Int}{l_1:List T_api_Bound}{size_2:Int}{r:(List Int)}(h:g_diffcon_conflict n_0 l_1 size_2=some r):AFun Tryz.prog I 35 [.int .i64 n_0,.sl (l_1.map T_api_Bound.d),.int .i64 size_2] (.sl (r.map (D.int .i64))):=by
 have dd:=dd_EC;have k:=True.intro;have q:=k;have rs:=Tryz.results35;unfold g_diffcon_conflict at h;refine .en hI Tryz.func35 Tryz.ntmps35 ?_;refine xs<|rz ?_;refine es<|xs<|xs<|rz ?_;refine es<|xb ?_;obtain⟨e6,h0,h⟩:=bs h;refine rb_loop (fun x5=>⟨envL [(0,.int .i64 n_0),(1,.sl (l_1.map T_api_Bound.d)),(2,.int .i64 size_2),(16,.sl (l_1.map T_api_Bound.d)),(17,.int .i64 (l_1.length:Int)),(18,.int .i64 x5)],heapL [],0,122⟩) (fun w=>match w with|Sum.inl _=>.ret|Sum.inr (_)=>.exit 0) (fun w=>match w with|Sum.inl e6=>⟨envL [(6,.own 0 e6.length)],heapL [(0,.vec 3 1 (e6.map (D.int .i64)) false)],1,122⟩|Sum.inr (e6)=>⟨envL [],heapL [],0,122⟩) h0 (wk []) (by intro w;rcases w with w|w<;>simp) ?_ ?_
 ·clear h;intro x5 y h;unfold g_diffcon_conflict_s1 at h;refine xs<|rz ?_;refine es<|xs ?_;obtain⟨k,h⟩|⟨k,h⟩:=iK k h
  ·refine xt<|xk<|es<|xs<|xb<|xs<|rK fun K _ E J=>zz ?_;obtain⟨y0,q,h⟩:=bK q h;refine zz ?_;subst E J;refine es<|xs<|rK fun K _ E J=>zz ?_;obtain⟨r0,h1,h⟩:=bs h;refine cw (a_diffcon_rests hI h1)<|zz ?_;subst E J;refine es<|xs ?_;obtain⟨v0,h2,h⟩:=bs h;refine rb_cut (fun v0=>⟨envL [(0,.int .i64 n_0),(1,.sl (l_1.map T_api_Bound.d)),(2,.int .i64 size_2),(7,.int .i64 x5),(8,.ptr 0 0),(9,.sl (r0.map dl_List_Int_i64)),(16,.sl (l_1.map T_api_Bound.d)),(17,.int .i64 (l_1.length:Int)),(18,.int .i64 x5),(54,.bool v0)],heapL [(0,.box none [.int .i64 y0.I,.int .i64 y0.J,.int .i64 y0.C,.int .u8 y0.Rule,.int .i64 y0.ID,.int .i64 y0.Other])],1,122⟩) h2 ?_ ?_
   ·clear h;intro v0 h;refine rD hI fun K _ E J=>zz ?_;obtain⟨y1,q,h⟩:=bK q h;refine zz ?_;obtain⟨y2,q,h⟩:=bK q h;refine zz ?_;obtain⟨k,h⟩|⟨k,h⟩:=iK k h
    ·refine zz ?_;subst E J;cases h;exact en ⟨rfl,wk [(0,some 4)]⟩
    refine zz ?_;subst E J;cases h;exact en ⟨rfl,wk [(0,some 4)]⟩
   obtain⟨k,h⟩|⟨k,h⟩:=iK k h
   ·refine xt<|xx<|ee<|bh<|es<|rz ?_;cases h;exact en ⟨rfl,wk []⟩
   refine xf<|xk<|es<|xs<|rz ?_;refine es<|xs<|rd hI ?_;refine es<|xs<|xs<|rz ?_;refine es<|xb ?_;obtain⟨e0,h3,h⟩:=bs h;refine rb_loop (fun x0=>⟨envL [(1,.sl (l_1.map T_api_Bound.d)),(7,.int .i64 x5),(9,.sl (r0.map dl_List_Int_i64)),(10,.own 0 x0.2.2.2.length),(11,.int .i64 x0.1),(12,.int .i64 x0.2.1),(13,.int .i64 x0.2.2.1)],heapL [(0,.vec 3 1 (x0.2.2.2.map (D.int .i64)) false)],1,122⟩) (fun _=>.exit 2) (fun e0=>⟨envL [(10,.own 0 e0.length)],heapL [(0,.vec 3 1 (e0.map (D.int .i64)) false)],1,122⟩) h3 (wk [(0,some 2)]) (by intro w;simp) ?_ ?_
   ·clear h;intro x0 y h;unfold g_diffcon_conflict_s2 at h;refine xs<|xs<|rz ?_;refine es ?_;obtain⟨k,h⟩|⟨k,h⟩:=iK k h
    ·refine xt<|xk<|es<|xs<|xb<|xs<|rz ?_;refine es<|xb ?_;obtain⟨e1,h4,h⟩:=bs h;refine rb_loop (fun x1=>⟨envL [(1,.sl (l_1.map T_api_Bound.d)),(7,.int .i64 x5),(9,.sl (r0.map dl_List_Int_i64)),(10,.own 0 x0.2.2.2.length),(11,.int .i64 x0.1),(12,.int .i64 x0.2.1),(13,.int .i64 x0.2.2.1),(14,.int .i64 x1)],heapL [(0,.vec 3 1 (x0.2.2.2.map (D.int .i64)) false)],1,122⟩) (fun _=>.exit 4) (fun e1=>⟨envL [(1,.sl (l_1.map T_api_Bound.d)),(7,.int .i64 x5),(9,.sl (r0.map dl_List_Int_i64)),(10,.own 0 e1.1.length),(11,.int .i64 e1.2.1),(12,.int .i64 e1.2.2),(13,.int .i64 x0.2.2.1)],heapL [(0,.vec 3 1 (e1.1.map (D.int .i64)) false)],1,122⟩) h4 (wk []) (by intro w;simp) ?_ ?_
     ·clear h;intro x1 y h;unfold g_diffcon_conflict_s3 at h;refine xs<|xs<|rz ?_;refine es ?_;obtain⟨k,h⟩|⟨k,h⟩:=iK k h
      ·refine xt<|xk<|es<|xs<|xb<|xs<|rK fun K _ E J=>zz ?_;obtain⟨y3,q,h⟩:=bK q h;refine zz ?_;subst E J;refine es ?_;obtain⟨v1,h5,h⟩:=bs h;refine rb_cut (fun v1=>⟨envL [(1,.sl (l_1.map T_api_Bound.d)),(7,.int .i64 x5),(9,.sl (r0.map dl_List_Int_i64)),(10,.own 0 x0.2.2.2.length),(11,.int .i64 x0.1),(12,.int .i64 x0.2.1),(13,.int .i64 x0.2.2.1),(14,.int .i64 x1),(15,.ptr 1 0),(109,.bool v1)],heapL [(0,.vec 3 1 (x0.2.2.2.map (D.int .i64)) false),(1,.box none [.int .i64 y3.I,.int .i64 y3.J,.int .i64 y3.C,.int .u8 y3.Rule,.int .i64 y3.ID,.int .i64 y3.Other])],2,122⟩) h5 ?_ ?_
       ·clear h;intro v1 h;refine rD hI fun K _ E J=>zz ?_;obtain⟨k,h⟩|⟨k,h⟩:=iK k h
        ·refine zz ?_;obtain⟨y4,q,h⟩:=bK q h;refine zz ?_;obtain⟨y5,q,h⟩:=bK q h;refine zz ?_;obtain⟨k,h⟩|⟨k,h⟩:=iK k h
         ·refine zz ?_;subst E J;cases h;exact en ⟨rfl,wk [(1,some 9)]⟩
         refine zz ?_;subst E J;cases h;exact en ⟨rfl,wk [(1,some 9)]⟩
        refine zz ?_;subst E J;cases h;exact en ⟨rfl,wk [(1,some 9)]⟩
       obtain⟨k,h⟩|⟨k,h⟩:=iK k h
       ·refine xt<|xs<|rK fun K _ E J=>zz ?_;obtain⟨h6,h⟩:=ite_on h;have h7:x0.2.2.2.length+1≤9223372036854775807:=by omega
        try simp only[Nat.reduceLeDiff] at h7
        have q:=And.intro @h7<|And.intro @h6<|q;refine zz ?_;subst E J;refine es<|xs<|rd hI ?_;refine es<|xx<|bm<|ee ?_;cases h;exact en ⟨rfl,wk [(0,some 5)]⟩
       refine xf<|xk<|bn<|es<|rz ?_;cases h;exact en ⟨rfl,wk []⟩
      refine xf<|xx<|ee ?_;cases h;exact en ⟨rfl,wk []⟩
     refine bh<|bn<|es<|rz ?_;cases h;exact en ⟨rfl,wk []⟩
    refine xf<|xx<|ee ?_;cases h;exact en ⟨rfl,wk []⟩
   refine bh<|es<|xs<|rz ?_;refine es<|xr<|br<|er ?_;cases h;exact en ⟨rfl,wk []⟩
  refine xf<|xx<|ee ?_;cases h;exact en ⟨rfl,wk []⟩
 rcases e6 with e6|e6
 ·try dsimp only at h ⊢
  refine br<|er ?_;cases h;exact en fr
 try dsimp only at h ⊢
 refine bh<|es<|xs<|rz ?_;refine es<|xr ?_;cases h;exact en fr
def g_diffcon_Solve(n_0:Int)(l_1:List T_api_Bound):Option ((List Int) × (List Int) × Int) :=
 ((g_diffcon_Check n_0 l_1).bind fun r7=>(if(r7 != 0) then(some ([],[],r7)) else((mkI 8 n_0 (0:Int)).bind fun m0=>((g_diffcon_relax l_1 m0).bind fun r0=>(if r0.1 then(some (r0.2,[],0)) else((g_diffcon_shortest n_0 l_1).bind fun r1=>((g_diffcon_conflict n_0 l_1 r1).bind fun r2=>(some ([],r2,16)))))))))
theorem a_diffcon_Solve{I:World→Prop}(hI:Stab I){n_0:Int}{l_1:List T_api_Bound}{r:(List Int) × (List Int) × Int}(h:g_diffcon_Solve n_0 l_1=some r):AFun Tryz.prog I 9 [.int .i64 n_0,.sl (l_1.map T_api_Bound.d)] (.tup [.sl (r.1.map (D.int .i64)),.sl (r.2.1.map (D.int .i64)),.int .i64 r.2.2]):=by
 have dd:=dd_EC;have k:=True.intro;have q:=k;have rs:=Tryz.results9;unfold g_diffcon_Solve at h;refine .en hI Tryz.func9 Tryz.ntmps9 ?_;refine xs<|rz ?_;refine es<|xs<|xs<|rK fun K _ E J=>zz ?_;obtain⟨r7,h8,h⟩:=bs h;refine cw (a_diffcon_Check hI h8)<|zz ?_;subst E J;refine es<|xs<|rz ?_;refine es ?_;obtain⟨k,h⟩|⟨k,h⟩:=iK k h
 ·refine xt<|xs<|rz ?_;refine es<|xr<|er ?_;cases h;exact en fr
 refine xf<|xk<|es<|xs<|rK fun K _ E J=>zz ?_;obtain⟨m0,h0,h⟩:=bind_some h;obtain⟨h1,h2,h3,h4,h5⟩:=mkI_some h0;have h5:=h5 (D.int .i64);try simp only[sevalprocAttr,List.map_nil,Int.toNat_natCast,dd] at h4 h5
 have q:=And.intro @h1<|And.intro @h2<|And.intro @h3<|And.intro @h4<|And.intro @h5<|q;refine zz ?_;subst E J;refine es<|xs<|xs<|rK fun K _ E J=>zz ?_;obtain⟨r0,h6,h⟩:=bs h;have q:=And.intro (a_diffcon_relax_len h6) q;refine cW.introR (a_diffcon_relax hI (nid:=14) (i0:=10) h6 fz) fs rfl<|zz ?_;subst E J;refine es ?_;obtain⟨k,h⟩|⟨k,h⟩:=iK k h
 ·refine xt<|xs<|rz ?_;refine es<|xr<|er ?_;cases h;exact en fr
 refine xf<|xk<|es<|xs<|rK fun K _ E J=>zz ?_;obtain⟨r1,h7,h⟩:=bs h;refine cw (a_diffcon_shortest hI h7)<|zz ?_;obtain⟨r2,h9,h⟩:=bs h;refine cw (a_diffcon_conflict hI h9)<|zz ?_;subst E J;refine es<|xr ?_;cases h;exact en fr
section
variable {P:Program}{I:World→Prop}{f:FuncId}{ds:List D}
theorem AFun.of_own{e:TypeId}{k:Nat}{xs:List D}(h:∀ (H:Nat→Option Blk) (nid:Nat),CallOK P I f ds H nid (.own nid xs.length) [(nid,some (.vec e k xs false))]):AFun P I f ds (.sl xs):=by
 refine⟨(h (fun _=>none) 0).1,fun w F args hI hF hl hr=>?_⟩;have hc:=(h (fun _=>none) 0).2 w w (cF F) ⟨fun g=>w.heap.size≤g,fun _=>Go.undef⟩ args hI (Below.refl _ _) (fun _ h=>h) ⟨fun id b h=>(by cases h),fun id b h=>(by cases h),fun id k cs h=>(by cases h),fun id id' b b' h=>(by cases h)⟩ hF (fun _ h=>h) (fun h=>h) hl hr;refine hc.mono ?_;rintro e' w' ⟨v,C',rfl,hb,he,hv,hH,hFB,_,hn⟩;have hi:appEff (fun _=>none) [(0,some (Blk.vec e k xs false))] 0=some (.vec e k xs false):=by simp[appEff,upd]
 obtain⟨C'',hP,hs⟩:=pub_vec hH hFB hi;refine⟨v,C''.F,rfl,hb.to,(he.trans hP.ext).cF,hP.fb,fun b o hbo=>?_,hs v hv⟩;rcases hP.new b o hbo with h1|h1
 ·exact hn b o h1
 exact .inr h1
theorem CallOK.of_run{e:TypeId}{k:Nat}{xs:List D}{v0:Value→Prop}(he:enterable P f=true)(hk:∀ x ∈ xs,x.cells.length=k)(hm:xs.length≤maxLen)
  (h:∀ (w:World) (F:Nat→Nat→Prop) (args:List Value),I w→FB (cF F) w→args.length=ds.length→(∀ (i:Nat) v d,args[i]? = some v→ds[i]? = some d→Rep w (cF F) v d) →
   ∃ vals,RepL (cF F) w vals (xs.flatMap D.cells)∧Calls P f args.toArray w fun e' w'=>∃ v,e'=.returned v∧w'.ownsRow w.heap.size e k v xs.length vals∧Below w.heap.size w w')
  (hds:∀ d ∈ ds,∃ d',purD (fun _=>none) d=some (d',[])∧d'=d) (hst:Stab I) {H:Nat→Option Blk} {nid:Nat}:CallOK P I f ds H nid (.own nid xs.length) [(nid,some (.vec e k xs false))]:=by
 refine⟨he,fun i0 w C B args hI hb0 hM hH hF hbase hnid hal hrep=>?_⟩
 have hF2:FB (cF C.F) w:=hF
 have hrep2:∀ (i:Nat) v d,args[i]? = some v→ds[i]? = some d→Rep w (cF C.F) v d:=by
  intro i v d hv hd
  obtain⟨d',h1,rfl⟩:=hds d (List.mem_of_getElem? hd)
  exact(purD_none h1 (hrep i v _ hv hd)).1
 obtain⟨vals,hR,hc⟩:=h w C.F args (hst i0 w hI hb0) hF2 hal hrep2
 refine hc.mono ?_
 rintro e' w' ⟨v,rfl,hown,hbl⟩
 let C2:Cx:=⟨C.F,fun id=>if id=nid then v else C.σ id,fun id=>C.live id∨id=nid⟩
 have hσ2:∀ id,C.live id→C2.σ id=C.σ id:=fun id hid=>by
  have:id≠nid:=fun e=>hnid (e ▸ hid)
  simp only[C2,if_neg this]
 have hσn:C2.σ nid=v:=by simp only[C2,if_true]
 have hblk:∀ b o,C.F b o→w'.heap[b]? = w.heap[b]?:=fun b o hbo=>hbl.block b (hF b o hbo)
 have hee:Ext C w C2 w':=⟨fun _ _ h=>h,hblk,fun _ h=>.inl h,hσ2⟩
 have hlt:∀ g,blockOf v=some g→w.heap.size≤g:=by
  intro g hg
  rcases hown.2 with⟨h0,_⟩|⟨g',cap,cur,hv,hB,_⟩
  ·rw[h0] at hg;simp[blockOf] at hg
  ·rw[hv] at hg;simp[blockOf] at hg;omega
 have hnoid:H nid=none:=by
  cases hn2:H nid with
  | none=>rfl
  | some b=>exact absurd (hH.rep _ _ hn2).1 hnid
 have hcase:∀ id b,appEff H [(nid,some (Blk.vec e k xs false))] id=some b→(id=nid∧b=.vec e k xs false)∨(id≠nid∧H id=some b):=by
  intro id b hb'
  simp only[appEff,upd] at hb'
  split at hb'
  ·rename_i hid;injection hb' with hb';exact .inl ⟨hid,hb'.symm⟩
  ·rename_i hid;exact .inr ⟨hid,hb'⟩
 refine⟨v,C2,rfl,BelM.of hbl,hee,?_,?_,fun b o h=>Nat.lt_of_lt_of_le (hF b o h) hbl.size,fun _ h=>h,fun _ _ h=>.inl h⟩
 ·rcases hown.2 with⟨h0,h1⟩|⟨g',cap,cur,hv,hB,_⟩
  ·rw[h0] at hσn ⊢
   rw[h1] at hm ⊢
   exact .own nid 0 0 none (.inr rfl) hm hσn
  ·rw[hv] at hσn ⊢
   exact .own nid _ _ _ (.inr rfl) hm hσn
 ·refine⟨fun id b hb'=>?_,fun id b hb' g hg=>?_,fun id kk cs hb'=>?_,fun id id' b b' hb' hb'' hne2 g hg hg'=>?_⟩
  ·rcases hcase id b hb' with⟨rfl,rfl⟩|⟨hid,h4⟩
   ·refine⟨.inr rfl,vals,?_,hk,hR.ext (Ext.cF hee),fun g hg=>?_⟩
    ·rw[hσn]
     refine⟨hown.1,?_⟩
     rcases hown.2 with h5|⟨g5,cap5,cur5,a5,b5,c5⟩
     ·exact .inl h5
     ·exact .inr ⟨g5,cap5,cur5,a5,Nat.zero_le _,c5⟩
    ·have hgl:w.heap.size≤g:=by
      rw[hσn] at hg
      refine hlt g ?_
      cases hv:v<;>rw[hv] at hg<;>simp[Value.ownBlock] at hg
      rename_i A _ _
      cases A with
      | none=>simp at hg
      | some A=>simpa[Value.ownBlock,blockOf] using hg
     exact⟨fun o ho=>absurd (hF g o ho) (by omega),fun q=>by cases q⟩
   ·obtain⟨k1,k2⟩:=hH.rep id b h4
    exact⟨.inl k1,k2.keep k1 hee (fun g hg=>hbl.block g (k2.lt g hg).2) (fun g o _ h=>h)⟩
  ·rcases hcase id b hb' with⟨rfl,rfl⟩|⟨hid,h4⟩
   ·rw[hσn] at hg;exact hbase g (hlt g hg)
   ·rw[hσ2 id (hH.rep _ _ h4).1] at hg
    exact hH.own _ _ h4 g hg
  ·rcases hcase id _ hb' with⟨_,h4⟩|⟨hid,h4⟩
   ·cases h4
   ·rw[hσ2 id (hH.rep _ _ h4).1]
    exact hH.pin id kk cs h4
  ·rcases hcase id b hb' with⟨rfl,rfl⟩|⟨hid,h4⟩
   ·rw[hσn] at hg
    rcases hcase id' b' hb'' with⟨rfl,rfl⟩|⟨hid',h4'⟩
    ·exact hne2 rfl
    ·rw[hσ2 id' (hH.rep _ _ h4').1] at hg'
     have:=((hH.rep _ _ h4').2.lt g hg').2
     have:=hlt g hg
     omega
   ·rw[hσ2 id (hH.rep _ _ h4).1] at hg
    rcases hcase id' b' hb'' with⟨rfl,rfl⟩|⟨hid',h4'⟩
    ·rw[hσn] at hg'
     have:=((hH.rep _ _ h4).2.lt g hg).2
     have:=hlt g hg'
     omega
    ·rw[hσ2 id' (hH.rep _ _ h4').1] at hg'
     exact hH.apart _ _ _ _ h4 h4' hne2 g hg hg'
end
end Go.Proofs.YtejeinnfompgpaaGreatDoor
