/- Texts of one proof, put together (Shelf, Gs, Base, Gx, Bld2, GB, GJ, EA, FF, GF, EB, Gt, Tab, Gf, GP, EvA, EvB, EvC, EvD, EvE, EvF, EvG, EvH, EvI, EvJ, EvK). No condition but those that each theorem states. -/
import Derived.Test.YthbmhmpppgdkmaaGreatDoorX2
import Derived.Shelf.Strings.Builder1
import Derived.Shelf.Strings.Builder2
import Derived.Shelf.Strings.OnBuilder
import Derived.Shelf.Strings.Trim
import Derived.Shelf.Small.Utf8
import Derived.Shelf.Small.Bits
import Derived.Shelf.Small.Strs
import Derived.Shelf.Small.Wraps
import Derived.Shelf.Strings.BuilderF
import Derived.Shelf.Strings.BuilderK
import Derived.Shelf.Utf8.RuneCount
import Derived.Shelf.Strings.Builder2Cap
import Derived.Shelf.Strconv.Itoa0
import Derived.Shelf.Strconv.Itoa1
import Derived.Shelf.LaysM
import Derived.Shelf.Strconv.Itoa2
import Derived.Shelf.Strconv.Itoa3
import Derived.Shelf.Strconv.Itoa4
import Derived.Shelf.Strconv.ParseIntEmpty
import Derived.Shelf.Strconv.Clone
import Derived.Shelf.Strconv.SyntaxError
import Derived.Shelf.LaysC
import Derived.Shelf.Strconv.ToError
import Derived.Shelf.Strconv.Lower
import Derived.Shelf.Strconv.ParseUint10
import Derived.Shelf.Strconv.ParseUint10Empty
import Derived.Shelf.Strconv.ParseUint10Any
import Derived.Shelf.Strconv.ParseInt10
import Derived.Shelf.Strconv.RangeError
import Derived.Shelf.Strconv.ToErrorRange
import Derived.Shelf.Strconv.ParseUintEmpty
import Derived.Shelf.Strconv.ParseUint10b64
import Derived.Shelf.Strconv.ParseUint10b32
import Derived.Shelf.Strconv.ParseUint10b16
import Derived.Shelf.Strconv.ParseUint10b8
import Derived.Shelf.Strconv.ParseUint10At
import Derived.Shelf.Strconv.ParseInt10At64
import Derived.Shelf.Strconv.ParseInt10At32
import Derived.Shelf.Strconv.ParseInt10At16
import Derived.Shelf.Strconv.ParseInt10At8
import Derived.Shelf.Strconv.ParseInt10All
import Derived.Shelf.Strconv.ParseIntPublic10
import Derived.Shelf.Strconv.ErrVarParseInt
import Derived.Shelf.Strings.Search1
import Derived.Shelf.Strings.Search2
import Derived.Shelf.Strings.Search3
import Derived.Shelf.Strings.Count
import Derived.Shelf.Strings.Shaped
import Derived.Shelf.Strings.Prefix
import Derived.Shelf.Strings.Split
import Derived.Shelf.Strings.SplitShaped
import Derived.Shelf.Unicode.Decode
import Derived.Shelf.Strings.Runes
import Derived.Shelf.Strings.RuneCount
import Derived.Shelf.Strings.AsciiSet
import Derived.Shelf.Strings.Explode
import Derived.Shelf.Unicode.DecodeSlow
import Derived.Shelf.Unicode.DecodeAny
import Derived.Shelf.Unicode.DecodeLast
import Derived.Shelf.Strings.FieldsFuncAny
import Derived.Shelf.Strings.FieldsFuncGrows
import Derived.Shelf.Strings.BuilderCap
import Derived.Shelf.Slices.CompactS
import Derived.Shelf.Slices.Cells
import Derived.Ground.SlgnProg
import Derived.Shelf.SlicesG.Turned
import Derived.Shelf.SlicesG.CompactI
import Derived.Shelf.Unicode.ValidAny
import Derived.Shelf.Strings.SlTrimAscii
import Derived.Test.YthbmhmpppgdkmaaGreatDoorProg
import Derived.Lib.RuneCount
import Derived.Lib.SplitLaws
import Derived.Lib.SlTrimSet
import Derived.WalkKit
import Derived.WalkSpells
import Derived.WalkLawsBesides
import Derived.KernelRfl
import Derived.BigQuiet
import Derived.Deep.QuietTactic
import Derived.Deep.DeepCutAuto
import Derived.Deep.Draws
import Derived.Lib.Hide
import Derived.Laws.IdiomStrings
import Derived.Lib.Builder
import Derived.Lib.AppendStr
import Derived.Lib.FieldsP
import Derived.Lib.SpaceUEq
import Derived.Lib.Join
import Derived.Lib.LaidTab
import Derived.Lib.ItoaNum
import Derived.Lib.ItoaLen
import Derived.Lib.ParseIntB
import Derived.Lib.SliceRun
import Derived.Lib.AppendZeros
set_option linter.unusedSimpArgs false
set_option linter.unusedVariables false
namespace Go.Proofs
open Go.Shelf
def Tryz.lays169_ren:Go.Shelf.Ren:=⟨fun|169=>74|n=>n,fun|70=>172|9=>9|0=>0|72=>175|37=>173|127=>260|3=>3|5=>5|n=>n,fun|n=>n⟩
theorem Tryz.lays169:Go.Proofs.Lays.n169 Tryz.prog Tryz.lays169_ren:={
 mixed:=by kernel_rfl
 f169:=Tryz.func74.trans (congrArg some (by kernel_rfl))
 t0:=Tryz.underlying0
 a0:=Tryz.isAgg0
 z0:=Tryz.sizeOf0
 v0:=Tryz.zeroValue0
 t3:=Tryz.underlying3
 a3:=Tryz.isAgg3
 z3:=Tryz.sizeOf3
 v3:=Tryz.zeroValue3
 t9:=Tryz.underlying9
 a9:=Tryz.isAgg9
 z9:=Tryz.sizeOf9
 v9:=Tryz.zeroValue9
 t37:=Tryz.underlying173
 a37:=Tryz.isAgg173
 z37:=Tryz.sizeOf173
 v37:=Tryz.zeroValue173
 t70:=Tryz.underlying172
 a70:=Tryz.isAgg172
 z70:=Tryz.sizeOf172
 v70:=Tryz.zeroValue172
 t72:=Tryz.underlying175
 a72:=Tryz.isAgg175
 z72:=Tryz.sizeOf175
 v72:=Tryz.zeroValue175
 t127:=Tryz.underlying260
 a127:=Tryz.isAgg260
 z127:=Tryz.sizeOf260
 v127:=Tryz.zeroValue260 }
theorem Tryz.Builder_Extra_169:Builder.Extra Tryz.prog Tryz.lays169_ren:={
 sizeBuilder:=by kernel_rfl
 liesBuilder:=by kernel_rfl
 t5:=Tryz.underlying5
 a5:=Tryz.isAgg5
 z5:=Tryz.sizeOf5
 v5:=Tryz.zeroValue5
 infoByte:=by kernel_rfl
 cellsByte:=by kernel_rfl
 sizeByte:=by kernel_rfl
 neB5:=by decide }
open Go.RowKit in
def Tryz.lays156_ren:Go.Shelf.Ren:=⟨fun|156=>34|165=>90|166=>73|169=>74|240=>157|241=>168|276=>225|277=>230|n=>n,fun|31=>40|9=>9|3=>3|4=>4|0=>0|20=>20|72=>175|76=>180|70=>172|37=>173|75=>179|127=>260|164=>335|5=>5|80=>131|n=>n,fun|n=>n⟩
theorem Tryz.lays156:Go.Proofs.Lays.n156 Tryz.prog Tryz.lays156_ren:={
 mixed:=by kernel_rfl
 f156:=Tryz.func34.trans (congrArg some (by kernel_rfl))
 f165:=Tryz.func90.trans (congrArg some (by kernel_rfl))
 f166:=Tryz.func73.trans (congrArg some (by kernel_rfl))
 f169:=Tryz.func74.trans (congrArg some (by kernel_rfl))
 f240:=Tryz.func157.trans (congrArg some (by kernel_rfl))
 f241:=Tryz.func168.trans (congrArg some (by kernel_rfl))
 f276:=Tryz.func225.trans (congrArg some (by kernel_rfl))
 f277:=Tryz.func230.trans (congrArg some (by kernel_rfl))
 t0:=Tryz.underlying0
 a0:=Tryz.isAgg0
 z0:=Tryz.sizeOf0
 v0:=Tryz.zeroValue0
 t3:=Tryz.underlying3
 a3:=Tryz.isAgg3
 z3:=Tryz.sizeOf3
 v3:=Tryz.zeroValue3
 t4:=Tryz.underlying4
 a4:=Tryz.isAgg4
 z4:=Tryz.sizeOf4
 v4:=Tryz.zeroValue4
 t9:=Tryz.underlying9
 a9:=Tryz.isAgg9
 z9:=Tryz.sizeOf9
 v9:=Tryz.zeroValue9
 t20:=Tryz.underlying20
 a20:=Tryz.isAgg20
 z20:=Tryz.sizeOf20
 v20:=Tryz.zeroValue20
 t31:=Tryz.underlying40
 a31:=Tryz.isAgg40
 z31:=Tryz.sizeOf40
 v31:=Tryz.zeroValue40
 t37:=Tryz.underlying173
 a37:=Tryz.isAgg173
 z37:=Tryz.sizeOf173
 v37:=Tryz.zeroValue173
 t70:=Tryz.underlying172
 a70:=Tryz.isAgg172
 z70:=Tryz.sizeOf172
 v70:=Tryz.zeroValue172
 t72:=Tryz.underlying175
 a72:=Tryz.isAgg175
 z72:=Tryz.sizeOf175
 v72:=Tryz.zeroValue175
 t75:=Tryz.underlying179
 a75:=Tryz.isAgg179
 z75:=Tryz.sizeOf179
 v75:=Tryz.zeroValue179
 t76:=Tryz.underlying180
 a76:=Tryz.isAgg180
 z76:=Tryz.sizeOf180
 v76:=Tryz.zeroValue180
 t127:=Tryz.underlying260
 a127:=Tryz.isAgg260
 z127:=Tryz.sizeOf260
 v127:=Tryz.zeroValue260
 t164:=Tryz.underlying335
 a164:=Tryz.isAgg335
 z164:=Tryz.sizeOf335
 v164:=Tryz.zeroValue335 }
theorem Tryz.Builder_Extra_156:Builder.Extra Tryz.prog Tryz.lays156_ren:={
 sizeBuilder:=by kernel_rfl
 liesBuilder:=by kernel_rfl
 t5:=Tryz.underlying5
 a5:=Tryz.isAgg5
 z5:=Tryz.sizeOf5
 v5:=Tryz.zeroValue5
 infoByte:=by kernel_rfl
 cellsByte:=by kernel_rfl
 sizeByte:=by kernel_rfl
 neB5:=by decide }
open Go.RowKit in
theorem Tryz.strings_Join_none(a:Option Addr)(c:Nat)(sep:ByteArray)(w:World) :
  Calls Tryz.prog 34 #[.slice a 0 c,.string sep] w fun e w'=>e=.returned (.string ⟨#[]⟩)∧w'=w:=Any.strings_Join_none Tryz.lays156 Tryz.Builder_Extra_156 a c sep w
open Go.RowKit in
theorem Tryz.strings_Join(bk o c:Nat)(xs:List ByteArray)(sep:ByteArray)(w:World)(hcells:∀ (j:Nat) x,xs[j]? = some x→w.cell? ⟨bk,o+j,none⟩=some (.string x))(hbk:bk < w.heap.size)(hN:xs.length≤140737488355328)(hcap:xs.length≤c)(hlen:(Lib.join (xs.map (·.data.toList)) sep.data.toList).length≤140737488355328) :
  Calls Tryz.prog 34 #[.slice (some ⟨bk,o,none⟩) xs.length c,.string sep] w fun e w'=>e=.returned (.string ⟨(Lib.join (xs.map (·.data.toList)) sep.data.toList).toArray⟩)∧Below w.heap.size w w':=Any.strings_Join Tryz.lays156 Tryz.Builder_Extra_156 bk o c xs sep w hcells hbk hN hcap hlen
def Tryz.lays103_ren:Go.Shelf.Ren:=⟨fun|103=>184|210=>242|206=>296|n=>n,fun|9=>9|4=>4|24=>218|3=>3|n=>n,fun|n=>n⟩
theorem Tryz.lays103:Go.Proofs.Lays.n103 Tryz.prog Tryz.lays103_ren:={
 mixed:=by kernel_rfl
 f103:=Tryz.func184.trans (congrArg some (by kernel_rfl))
 f206:=Tryz.func296.trans (congrArg some (by kernel_rfl))
 f210:=Tryz.func242.trans (congrArg some (by kernel_rfl))
 t3:=Tryz.underlying3
 a3:=Tryz.isAgg3
 z3:=Tryz.sizeOf3
 v3:=Tryz.zeroValue3
 t4:=Tryz.underlying4
 a4:=Tryz.isAgg4
 z4:=Tryz.sizeOf4
 v4:=Tryz.zeroValue4
 t9:=Tryz.underlying9
 a9:=Tryz.isAgg9
 z9:=Tryz.sizeOf9
 v9:=Tryz.zeroValue9
 t24:=Tryz.underlying218
 a24:=Tryz.isAgg218
 z24:=Tryz.sizeOf218
 v24:=Tryz.zeroValue218 }
open Go.RowKit in
theorem Tryz.strings_CutPrefix(s p:ByteArray)(w:World) :
  Calls Tryz.prog 184 #[.string s,.string p] w fun e w'=>e=.returned (.tuple #[.string ⟨(Lib.trimPrefix s.data.toList p.data.toList).toArray⟩,.bool (Lib.hasPrefix s.data.toList p.data.toList)])∧w'=w:=Any.strings_CutPrefix Tryz.lays103 s p w
def Tryz.lays195_ren:Go.Shelf.Ren:=⟨fun|195=>89|n=>n,fun|9=>9|3=>3|0=>0|4=>4|n=>n,fun|n=>n⟩
theorem Tryz.lays195:Go.Proofs.Lays.n195 Tryz.prog Tryz.lays195_ren:={
 mixed:=by kernel_rfl
 f195:=Tryz.func89.trans (congrArg some (by kernel_rfl))
 t0:=Tryz.underlying0
 a0:=Tryz.isAgg0
 z0:=Tryz.sizeOf0
 v0:=Tryz.zeroValue0
 t3:=Tryz.underlying3
 a3:=Tryz.isAgg3
 z3:=Tryz.sizeOf3
 v3:=Tryz.zeroValue3
 t4:=Tryz.underlying4
 a4:=Tryz.isAgg4
 z4:=Tryz.sizeOf4
 v4:=Tryz.zeroValue4
 t9:=Tryz.underlying9
 a9:=Tryz.isAgg9
 z9:=Tryz.sizeOf9
 v9:=Tryz.zeroValue9 }
open Go.RowKit in
theorem Tryz.utf8_RuneCountInString(s:ByteArray)(w:World)(hs:s.size < 9223372036854775807) :
  Calls Tryz.prog 89 #[.string s] w fun e w'=>e=.returned (.int .i64 (Lib.runeCount s))∧∃ pos,w'=w.iter s pos:=Any.utf8_RuneCountInString Tryz.lays195 s w hs
def Tryz.laysM173_ren:Go.Shelf.Ren:=⟨fun|173=>155|246=>224|283=>287|284=>288|285=>289|286=>290|129=>276|317=>319|318=>320|319=>321|320=>322|337=>341|338=>342|n=>n,fun|2=>2|3=>3|9=>9|4=>4|171=>392|0=>0|53=>337|37=>173|5=>5|173=>394|212=>420|51=>382|20=>20|213=>421|46=>266|232=>441|233=>442|n=>n,fun|17=>3|18=>6|19=>7|n=>n⟩
theorem Tryz.laysM173:Go.Proofs.LaysM.n173 Tryz.prog Tryz.laysM173_ren:={
 mixed:=by kernel_rfl
 f129:=Tryz.func276.trans (congrArg some (by kernel_rfl))
 f173:=Tryz.func155.trans (congrArg some (by kernel_rfl))
 f246:=Tryz.func224.trans (congrArg some (by kernel_rfl))
 f283:=Tryz.func287.trans (congrArg some (by kernel_rfl))
 f284:=Tryz.func288.trans (congrArg some (by kernel_rfl))
 f285:=Tryz.func289.trans (congrArg some (by kernel_rfl))
 f286:=Tryz.func290.trans (congrArg some (by kernel_rfl))
 f317:=Tryz.func319.trans (congrArg some (by kernel_rfl))
 f318:=Tryz.func320.trans (congrArg some (by kernel_rfl))
 f319:=Tryz.func321.trans (congrArg some (by kernel_rfl))
 f320:=Tryz.func322.trans (congrArg some (by kernel_rfl))
 f337:=Tryz.func341.trans (congrArg some (by kernel_rfl))
 f338:=Tryz.func342.trans (congrArg some (by kernel_rfl))
 t0:=Tryz.underlying0
 a0:=Tryz.isAgg0
 z0:=Tryz.sizeOf0
 v0:=Tryz.zeroValue0
 t2:=Tryz.underlying2
 a2:=Tryz.isAgg2
 z2:=Tryz.sizeOf2
 v2:=Tryz.zeroValue2
 t3:=Tryz.underlying3
 a3:=Tryz.isAgg3
 z3:=Tryz.sizeOf3
 v3:=Tryz.zeroValue3
 t4:=Tryz.underlying4
 a4:=Tryz.isAgg4
 z4:=Tryz.sizeOf4
 v4:=Tryz.zeroValue4
 t5:=Tryz.underlying5
 a5:=Tryz.isAgg5
 z5:=Tryz.sizeOf5
 v5:=Tryz.zeroValue5
 t9:=Tryz.underlying9
 a9:=Tryz.isAgg9
 z9:=Tryz.sizeOf9
 v9:=Tryz.zeroValue9
 t20:=Tryz.underlying20
 a20:=Tryz.isAgg20
 z20:=Tryz.sizeOf20
 v20:=Tryz.zeroValue20
 t37:=Tryz.underlying173
 a37:=Tryz.isAgg173
 z37:=Tryz.sizeOf173
 v37:=Tryz.zeroValue173
 t46:=Tryz.underlying266
 a46:=Tryz.isAgg266
 z46:=Tryz.sizeOf266
 v46:=Tryz.zeroValue266
 t51:=Tryz.underlying382
 a51:=Tryz.isAgg382
 z51:=Tryz.sizeOf382
 v51:=Tryz.zeroValue382
 t53:=Tryz.underlying337
 a53:=Tryz.isAgg337
 z53:=Tryz.sizeOf337
 v53:=Tryz.zeroValue337
 t171:=Tryz.underlying392
 a171:=Tryz.isAgg392
 z171:=Tryz.sizeOf392
 v171:=Tryz.zeroValue392
 t173:=Tryz.underlying394
 a173:=Tryz.isAgg394
 z173:=Tryz.sizeOf394
 v173:=Tryz.zeroValue394
 t212:=Tryz.underlying420
 a212:=Tryz.isAgg420
 z212:=Tryz.sizeOf420
 v212:=Tryz.zeroValue420
 t213:=Tryz.underlying421
 a213:=Tryz.isAgg421
 z213:=Tryz.sizeOf421
 t232:=Tryz.underlying441
 a232:=Tryz.isAgg441
 z232:=Tryz.sizeOf441
 v232:=Tryz.zeroValue441
 t233:=Tryz.underlying442
 a233:=Tryz.isAgg442
 z233:=Tryz.sizeOf442
 v233:=Tryz.zeroValue442
 g17:=by kernel_rfl
 g18:=by kernel_rfl
 g19:=by kernel_rfl
 i0:=by kernel_rfl
 i2:=by kernel_rfl
 i3:=by kernel_rfl
 i4:=by kernel_rfl
 i5:=by kernel_rfl
 i9:=by kernel_rfl
 i20:=by kernel_rfl
 i37:=by kernel_rfl
 i46:=by kernel_rfl
 i51:=by kernel_rfl
 i53:=by kernel_rfl
 i171:=by kernel_rfl
 i173:=by kernel_rfl
 i212:=by kernel_rfl
 i232:=by kernel_rfl
 i233:=by kernel_rfl
 m17:=by kernel_rfl
 m18:=by kernel_rfl
 m19:=by kernel_rfl }
open Go.RowKit Go.Sort Go.Lib in
theorem Tryz.strconv_FormatInt_10(n:Int)(h0:-9223372036854775808≤n)(h1:n≤9223372036854775807)(w:World)(htab:Lib.TabIs Tryz.prog w "internal/strconv.uint64pow10" .u64 Lib.pow10Tab) :
  Calls Tryz.prog 155 #[.int .i64 n,.int .i64 10] w fun e w'=>e=.returned (.string ⟨(Lib.itoa n).toArray⟩)∧∃ k os,w'=grow (w.drewN k) os:=Any.strconv_FormatInt_10 Tryz.laysM173 n h0 h1 w htab
def Tryz.laysC174_ren:Go.Shelf.Ren:=⟨fun|174=>185|247=>243|245=>244|287=>297|279=>298|280=>299|281=>300|282=>301|321=>328|322=>329|316=>330|171=>332|205=>331|243=>344|246=>224|283=>287|284=>288|285=>289|286=>290|129=>276|317=>319|318=>320|319=>321|320=>322|337=>341|338=>342|n=>n,fun|9=>9|3=>3|2=>2|75=>179|85=>298|4=>4|167=>397|5=>5|53=>337|175=>398|46=>266|168=>400|37=>173|0=>0|210=>424|21=>21|127=>260|145=>439|143=>437|171=>392|173=>394|212=>420|51=>382|20=>20|213=>421|232=>441|233=>442|80=>131|n=>n,fun|15=>4|16=>5|17=>3|18=>6|19=>7|n=>n⟩
theorem Tryz.laysC174:Go.Proofs.LaysC.n174 Tryz.prog Tryz.laysC174_ren:={
 mixed:=by kernel_rfl
 f129:=Tryz.func276.trans (congrArg some (by kernel_rfl))
 f171:=Tryz.func332.trans (congrArg some (by kernel_rfl))
 f174:=Tryz.func185.trans (congrArg some (by kernel_rfl))
 f205:=Tryz.func331.trans (congrArg some (by kernel_rfl))
 f243:=Tryz.func344.trans (congrArg some (by kernel_rfl))
 f245:=Tryz.func244.trans (congrArg some (by kernel_rfl))
 f246:=Tryz.func224.trans (congrArg some (by kernel_rfl))
 f247:=Tryz.func243.trans (congrArg some (by kernel_rfl))
 f279:=Tryz.func298.trans (congrArg some (by kernel_rfl))
 f280:=Tryz.func299.trans (congrArg some (by kernel_rfl))
 f281:=Tryz.func300.trans (congrArg some (by kernel_rfl))
 f282:=Tryz.func301.trans (congrArg some (by kernel_rfl))
 f283:=Tryz.func287.trans (congrArg some (by kernel_rfl))
 f284:=Tryz.func288.trans (congrArg some (by kernel_rfl))
 f285:=Tryz.func289.trans (congrArg some (by kernel_rfl))
 f286:=Tryz.func290.trans (congrArg some (by kernel_rfl))
 f287:=Tryz.func297.trans (congrArg some (by kernel_rfl))
 f316:=Tryz.func330.trans (congrArg some (by kernel_rfl))
 f317:=Tryz.func319.trans (congrArg some (by kernel_rfl))
 f318:=Tryz.func320.trans (congrArg some (by kernel_rfl))
 f319:=Tryz.func321.trans (congrArg some (by kernel_rfl))
 f320:=Tryz.func322.trans (congrArg some (by kernel_rfl))
 f321:=Tryz.func328.trans (congrArg some (by kernel_rfl))
 f322:=Tryz.func329.trans (congrArg some (by kernel_rfl))
 f337:=Tryz.func341.trans (congrArg some (by kernel_rfl))
 f338:=Tryz.func342.trans (congrArg some (by kernel_rfl))
 t0:=Tryz.underlying0
 a0:=Tryz.isAgg0
 z0:=Tryz.sizeOf0
 v0:=Tryz.zeroValue0
 t2:=Tryz.underlying2
 a2:=Tryz.isAgg2
 z2:=Tryz.sizeOf2
 v2:=Tryz.zeroValue2
 t3:=Tryz.underlying3
 a3:=Tryz.isAgg3
 z3:=Tryz.sizeOf3
 v3:=Tryz.zeroValue3
 t4:=Tryz.underlying4
 a4:=Tryz.isAgg4
 z4:=Tryz.sizeOf4
 v4:=Tryz.zeroValue4
 t5:=Tryz.underlying5
 a5:=Tryz.isAgg5
 z5:=Tryz.sizeOf5
 v5:=Tryz.zeroValue5
 t9:=Tryz.underlying9
 a9:=Tryz.isAgg9
 z9:=Tryz.sizeOf9
 v9:=Tryz.zeroValue9
 t20:=Tryz.underlying20
 a20:=Tryz.isAgg20
 z20:=Tryz.sizeOf20
 v20:=Tryz.zeroValue20
 t21:=Tryz.underlying21
 a21:=Tryz.isAgg21
 z21:=Tryz.sizeOf21
 v21:=Tryz.zeroValue21
 t37:=Tryz.underlying173
 a37:=Tryz.isAgg173
 z37:=Tryz.sizeOf173
 v37:=Tryz.zeroValue173
 t46:=Tryz.underlying266
 a46:=Tryz.isAgg266
 z46:=Tryz.sizeOf266
 v46:=Tryz.zeroValue266
 t51:=Tryz.underlying382
 a51:=Tryz.isAgg382
 z51:=Tryz.sizeOf382
 v51:=Tryz.zeroValue382
 t53:=Tryz.underlying337
 a53:=Tryz.isAgg337
 z53:=Tryz.sizeOf337
 v53:=Tryz.zeroValue337
 t75:=Tryz.underlying179
 a75:=Tryz.isAgg179
 z75:=Tryz.sizeOf179
 v75:=Tryz.zeroValue179
 t85:=Tryz.underlying298
 a85:=Tryz.isAgg298
 z85:=Tryz.sizeOf298
 v85:=Tryz.zeroValue298
 t127:=Tryz.underlying260
 a127:=Tryz.isAgg260
 z127:=Tryz.sizeOf260
 v127:=Tryz.zeroValue260
 t143:=Tryz.underlying437
 a143:=Tryz.isAgg437
 z143:=Tryz.sizeOf437
 v143:=Tryz.zeroValue437
 t145:=Tryz.underlying439
 a145:=Tryz.isAgg439
 z145:=Tryz.sizeOf439
 v145:=Tryz.zeroValue439
 t167:=Tryz.underlying397
 a167:=Tryz.isAgg397
 z167:=Tryz.sizeOf397
 v167:=Tryz.zeroValue397
 t168:=Tryz.underlying400
 a168:=Tryz.isAgg400
 z168:=Tryz.sizeOf400
 v168:=Tryz.zeroValue400
 t171:=Tryz.underlying392
 a171:=Tryz.isAgg392
 z171:=Tryz.sizeOf392
 v171:=Tryz.zeroValue392
 t173:=Tryz.underlying394
 a173:=Tryz.isAgg394
 z173:=Tryz.sizeOf394
 v173:=Tryz.zeroValue394
 t175:=Tryz.underlying398
 a175:=Tryz.isAgg398
 z175:=Tryz.sizeOf398
 v175:=Tryz.zeroValue398
 t210:=Tryz.underlying424
 a210:=Tryz.isAgg424
 z210:=Tryz.sizeOf424
 v210:=Tryz.zeroValue424
 t212:=Tryz.underlying420
 a212:=Tryz.isAgg420
 z212:=Tryz.sizeOf420
 v212:=Tryz.zeroValue420
 t213:=Tryz.underlying421
 a213:=Tryz.isAgg421
 z213:=Tryz.sizeOf421
 t232:=Tryz.underlying441
 a232:=Tryz.isAgg441
 z232:=Tryz.sizeOf441
 v232:=Tryz.zeroValue441
 t233:=Tryz.underlying442
 a233:=Tryz.isAgg442
 z233:=Tryz.sizeOf442
 v233:=Tryz.zeroValue442
 g15:=by kernel_rfl
 g16:=by kernel_rfl
 g17:=by kernel_rfl
 g18:=by kernel_rfl
 g19:=by kernel_rfl
 t80:=Tryz.underlying131
 a80:=Tryz.isAgg131
 z80:=Tryz.sizeOf131
 v80:=Tryz.zeroValue131
 i0:=by kernel_rfl
 i2:=by kernel_rfl
 i3:=by kernel_rfl
 i4:=by kernel_rfl
 i5:=by kernel_rfl
 i9:=by kernel_rfl
 i20:=by kernel_rfl
 i21:=by kernel_rfl
 i37:=by kernel_rfl
 i46:=by kernel_rfl
 i51:=by kernel_rfl
 i53:=by kernel_rfl
 i75:=by kernel_rfl
 i80:=by kernel_rfl
 i85:=by kernel_rfl
 i127:=by kernel_rfl
 i143:=by kernel_rfl
 i145:=by kernel_rfl
 i167:=by kernel_rfl
 i168:=by kernel_rfl
 i171:=by kernel_rfl
 i173:=by kernel_rfl
 i175:=by kernel_rfl
 i210:=by kernel_rfl
 i212:=by kernel_rfl
 i232:=by kernel_rfl
 i233:=by kernel_rfl
 m15:=by kernel_rfl
 m16:=by kernel_rfl
 m17:=by kernel_rfl
 m18:=by kernel_rfl
 m19:=by kernel_rfl
 c0:=by kernel_rfl
 c2:=by kernel_rfl
 c3:=by kernel_rfl
 c4:=by kernel_rfl
 c5:=by kernel_rfl
 c9:=by kernel_rfl
 c20:=by kernel_rfl
 c21:=by kernel_rfl
 c37:=by kernel_rfl
 c46:=by kernel_rfl
 c51:=by kernel_rfl
 c53:=by kernel_rfl
 c75:=by kernel_rfl
 c80:=by kernel_rfl
 c85:=by kernel_rfl
 c127:=by kernel_rfl
 c143:=by kernel_rfl
 c145:=by kernel_rfl
 c167:=by kernel_rfl
 c168:=by kernel_rfl
 c171:=by kernel_rfl
 c173:=by kernel_rfl
 c175:=by kernel_rfl
 c210:=by kernel_rfl
 c212:=by kernel_rfl
 c213:=by kernel_rfl
 c232:=by kernel_rfl
 c233:=by kernel_rfl }
open Go.RowKit in
theorem Tryz.strconv_ParseInt_10_at64_ok(s:ByteArray)(hmax:s.size≤9223372036854775806)(v:Int)(h:Lib.parseIntB 64 s.data.toList=.ok v)(w:World) :
  Calls Tryz.prog 185 #[.string s,.int .i64 10,.int .i64 64] w fun e w'=>e=.returned (.tuple #[.int .i64 v,.nilIface])∧(w'=w∨∃ t,w'=Lib.bytesWorld w 5 t):=Any.strconv_ParseInt_10_at64_ok Tryz.laysC174 s hmax v h w
open Go.RowKit in
theorem Tryz.strconv_ParseInt_10_at64_syntax(s:ByteArray)(hlim:s.size≤281474976710656)(h:Lib.parseIntB 64 s.data.toList=Lib.parseIntB 64 [])(ev:Value)(w:World)(hv:w.cell? ⟨4,0,none⟩=some ev)(hev:ev=.nilIface∨∃ te pe,ev=.iface te pe) :
  Calls Tryz.prog 185 #[.string s,.int .i64 10,.int .i64 64] w fun e w'=>∃ N,e=.returned (.tuple #[.int .i64 (0),.iface 400 (.pointer (some ⟨N,0,none⟩))])∧w.heap.size≤N∧w'.heap[N]? = some (.cells #[.string ⟨#[80,97,114,115,101,73,110,116]⟩,.string s,ev] 424 (0,0))∧Below w.heap.size w w':=Any.strconv_ParseInt_10_at64_syntax Tryz.laysC174 s hlim h ev w hv hev
open Go.RowKit in
theorem Tryz.strconv_ParseInt_10_at64_range(s:ByteArray)(hlim:s.size≤281474976710656)(h:Lib.parseIntB 64 s.data.toList=.range)(ev:Value)(w:World)(hv:w.cell? ⟨5,0,none⟩=some ev)(hev:ev=.nilIface∨∃ te pe,ev=.iface te pe) :
  Calls Tryz.prog 185 #[.string s,.int .i64 10,.int .i64 64] w fun e w'=>∃ N,e=.returned (.tuple #[.int .i64 (Lib.intSat 64 s.data.toList),.iface 400 (.pointer (some ⟨N,0,none⟩))])∧w.heap.size≤N∧w'.heap[N]? = some (.cells #[.string ⟨#[80,97,114,115,101,73,110,116]⟩,.string s,ev] 424 (0,0))∧Below w.heap.size w w':=Any.strconv_ParseInt_10_at64_range Tryz.laysC174 s hlim h ev w hv hev
def Tryz.lays144_ren:Go.Shelf.Ren:=⟨fun|144=>164|143=>229|219=>294|217=>186|225=>326|224=>325|267=>327|266=>245|314=>343|n=>n,fun|9=>9|4=>4|3=>3|5=>5|46=>266|146=>435|51=>382|n=>n,fun|1=>2|n=>n⟩
theorem Tryz.lays144:Go.Proofs.Lays.n144 Tryz.prog Tryz.lays144_ren:={
 mixed:=by kernel_rfl
 f143:=Tryz.func229.trans (congrArg some (by kernel_rfl))
 f144:=Tryz.func164.trans (congrArg some (by kernel_rfl))
 f217:=Tryz.func186.trans (congrArg some (by kernel_rfl))
 f219:=Tryz.func294.trans (congrArg some (by kernel_rfl))
 f224:=Tryz.func325.trans (congrArg some (by kernel_rfl))
 f225:=Tryz.func326.trans (congrArg some (by kernel_rfl))
 f266:=Tryz.func245.trans (congrArg some (by kernel_rfl))
 f267:=Tryz.func327.trans (congrArg some (by kernel_rfl))
 f314:=Tryz.func343.trans (congrArg some (by kernel_rfl))
 t3:=Tryz.underlying3
 a3:=Tryz.isAgg3
 z3:=Tryz.sizeOf3
 v3:=Tryz.zeroValue3
 t4:=Tryz.underlying4
 a4:=Tryz.isAgg4
 z4:=Tryz.sizeOf4
 v4:=Tryz.zeroValue4
 t5:=Tryz.underlying5
 a5:=Tryz.isAgg5
 z5:=Tryz.sizeOf5
 v5:=Tryz.zeroValue5
 t9:=Tryz.underlying9
 a9:=Tryz.isAgg9
 z9:=Tryz.sizeOf9
 v9:=Tryz.zeroValue9
 t46:=Tryz.underlying266
 a46:=Tryz.isAgg266
 z46:=Tryz.sizeOf266
 v46:=Tryz.zeroValue266
 t51:=Tryz.underlying382
 a51:=Tryz.isAgg382
 z51:=Tryz.sizeOf382
 v51:=Tryz.zeroValue382
 t146:=Tryz.underlying435
 a146:=Tryz.isAgg435
 z146:=Tryz.sizeOf435
 v146:=Tryz.zeroValue435
 g1:=by kernel_rfl }
open Go.RowKit Go.Lib in
theorem Tryz.strings_Contains_one(s:ByteArray)(c:UInt8)(w:World) :
  Calls Tryz.prog 164 #[.string s,.string ⟨#[c]⟩] w fun e w'=>e=.returned (.bool (decide (0≤Lib.indexByte s.data.toList c)))∧w'=w:=Any.strings_Contains_one Tryz.lays144 s c w
open Go.RowKit Go.Lib in
theorem Tryz.strings_Contains(s sub:ByteArray)(m:Int)(w:World)(hs:s.size < 4294967281)(hm:w.cell? ⟨2,0,none⟩=some (.int .i64 m)) :
  Calls Tryz.prog 164 #[.string s,.string sub] w fun e w'=>e=.returned (.bool (Lib.contains s.data.toList sub.data.toList))∧w'=w:=Any.strings_Contains Tryz.lays144 s sub m w hs hm
def Tryz.lays146_ren:Go.Shelf.Ren:=⟨fun|146=>91|221=>169|268=>231|138=>232|143=>229|195=>89|197=>292|218=>295|219=>294|260=>323|217=>186|225=>326|224=>325|267=>327|266=>245|314=>343|n=>n,fun|9=>9|31=>40|3=>3|4=>4|0=>0|105=>339|21=>21|5=>5|46=>266|119=>262|139=>265|138=>264|146=>435|51=>382|n=>n,fun|1=>2|3=>0|4=>1|n=>n⟩
theorem Tryz.lays146:Go.Proofs.Lays.n146 Tryz.prog Tryz.lays146_ren:={
 mixed:=by kernel_rfl
 f138:=Tryz.func232.trans (congrArg some (by kernel_rfl))
 f143:=Tryz.func229.trans (congrArg some (by kernel_rfl))
 f146:=Tryz.func91.trans (congrArg some (by kernel_rfl))
 f195:=Tryz.func89.trans (congrArg some (by kernel_rfl))
 f197:=Tryz.func292.trans (congrArg some (by kernel_rfl))
 f217:=Tryz.func186.trans (congrArg some (by kernel_rfl))
 f218:=Tryz.func295.trans (congrArg some (by kernel_rfl))
 f219:=Tryz.func294.trans (congrArg some (by kernel_rfl))
 f221:=Tryz.func169.trans (congrArg some (by kernel_rfl))
 f224:=Tryz.func325.trans (congrArg some (by kernel_rfl))
 f225:=Tryz.func326.trans (congrArg some (by kernel_rfl))
 f260:=Tryz.func323.trans (congrArg some (by kernel_rfl))
 f266:=Tryz.func245.trans (congrArg some (by kernel_rfl))
 f267:=Tryz.func327.trans (congrArg some (by kernel_rfl))
 f268:=Tryz.func231.trans (congrArg some (by kernel_rfl))
 f314:=Tryz.func343.trans (congrArg some (by kernel_rfl))
 t0:=Tryz.underlying0
 a0:=Tryz.isAgg0
 z0:=Tryz.sizeOf0
 v0:=Tryz.zeroValue0
 t3:=Tryz.underlying3
 a3:=Tryz.isAgg3
 z3:=Tryz.sizeOf3
 v3:=Tryz.zeroValue3
 t4:=Tryz.underlying4
 a4:=Tryz.isAgg4
 z4:=Tryz.sizeOf4
 v4:=Tryz.zeroValue4
 t5:=Tryz.underlying5
 a5:=Tryz.isAgg5
 z5:=Tryz.sizeOf5
 v5:=Tryz.zeroValue5
 t9:=Tryz.underlying9
 a9:=Tryz.isAgg9
 z9:=Tryz.sizeOf9
 v9:=Tryz.zeroValue9
 t21:=Tryz.underlying21
 a21:=Tryz.isAgg21
 z21:=Tryz.sizeOf21
 v21:=Tryz.zeroValue21
 t31:=Tryz.underlying40
 a31:=Tryz.isAgg40
 z31:=Tryz.sizeOf40
 v31:=Tryz.zeroValue40
 t46:=Tryz.underlying266
 a46:=Tryz.isAgg266
 z46:=Tryz.sizeOf266
 v46:=Tryz.zeroValue266
 t51:=Tryz.underlying382
 a51:=Tryz.isAgg382
 z51:=Tryz.sizeOf382
 v51:=Tryz.zeroValue382
 t105:=Tryz.underlying339
 a105:=Tryz.isAgg339
 z105:=Tryz.sizeOf339
 v105:=Tryz.zeroValue339
 t119:=Tryz.underlying262
 a119:=Tryz.isAgg262
 z119:=Tryz.sizeOf262
 t138:=Tryz.underlying264
 a138:=Tryz.isAgg264
 z138:=Tryz.sizeOf264
 v138:=Tryz.zeroValue264
 t139:=Tryz.underlying265
 a139:=Tryz.isAgg265
 z139:=Tryz.sizeOf265
 v139:=Tryz.zeroValue265
 t146:=Tryz.underlying435
 a146:=Tryz.isAgg435
 z146:=Tryz.sizeOf435
 v146:=Tryz.zeroValue435
 g1:=by kernel_rfl
 g3:=by kernel_rfl
 g4:=by kernel_rfl }
open Go.RowKit Go.Lib in
theorem Tryz.strings_Split(s sep:ByteArray)(m:Int)(w:World)(hs:s.size < 4294967281)(hm:w.cell? ⟨2,0,none⟩=some (.int .i64 m))(h1:1≤sep.size) :
  Calls Tryz.prog 91 #[.string s,.string sep] w fun e w' =>
   e=.returned (.slice (some ⟨w.heap.size,0,none⟩) (Lib.countB s sep+1) (Lib.countB s sep+1))∧w'=w.alloc (.cells ((Lib.splitB sep 0 (Lib.countB s sep) s).map Value.string).toArray 9):=Any.strings_Split Tryz.lays146 (by kernel_rfl) s sep m w hs hm h1
def Tryz.lays229_ren:Go.Shelf.Ren:=⟨fun|229=>21|n=>n,fun|9=>9|40=>83|31=>40|152=>187|3=>3|0=>0|4=>4|21=>21|154=>189|n=>n,fun|n=>n⟩
theorem Tryz.lays229:Go.Proofs.Lays.n229 Tryz.prog Tryz.lays229_ren:={
 mixed:=by kernel_rfl
 f229:=Tryz.func21.trans (congrArg some (by kernel_rfl))
 t0:=Tryz.underlying0
 a0:=Tryz.isAgg0
 z0:=Tryz.sizeOf0
 v0:=Tryz.zeroValue0
 t3:=Tryz.underlying3
 a3:=Tryz.isAgg3
 z3:=Tryz.sizeOf3
 v3:=Tryz.zeroValue3
 t4:=Tryz.underlying4
 a4:=Tryz.isAgg4
 z4:=Tryz.sizeOf4
 v4:=Tryz.zeroValue4
 t9:=Tryz.underlying9
 a9:=Tryz.isAgg9
 z9:=Tryz.sizeOf9
 v9:=Tryz.zeroValue9
 t21:=Tryz.underlying21
 a21:=Tryz.isAgg21
 z21:=Tryz.sizeOf21
 v21:=Tryz.zeroValue21
 t31:=Tryz.underlying40
 a31:=Tryz.isAgg40
 z31:=Tryz.sizeOf40
 v31:=Tryz.zeroValue40
 t40:=Tryz.underlying83
 a40:=Tryz.isAgg83
 z40:=Tryz.sizeOf83
 v40:=Tryz.zeroValue83
 t152:=Tryz.underlying187
 a152:=Tryz.isAgg187
 z152:=Tryz.sizeOf187
 v152:=Tryz.zeroValue187
 t154:=Tryz.underlying189
 a154:=Tryz.isAgg189
 z154:=Tryz.sizeOf189
 v154:=Tryz.zeroValue189 }
open Go.RowKit Go.Lib in
theorem Tryz.strings_FieldsFunc_grows(g:Nat)(lb:Array Value)(eg:∀ args w,(callFunc g args).run Tryz.prog w=.ok (.enter g args) w)(p:Nat→Bool)(s:ByteArray)(w:World)(hs:s.size≤4294967296)(hp:PredGrows Tryz.prog g lb p w) :
  Calls Tryz.prog 21 #[.string s,.func (.func g) #[] lb] w fun e w'=>∃ A,e=.returned (.slice (some ⟨A,0,none⟩) (Lib.goFieldsP p s).length (Lib.goFieldsP p s).length)∧w.heap.size≤A ∧
   w'.ownsRow w.heap.size 9 1 (.slice (some ⟨A,0,none⟩) (Lib.goFieldsP p s).length (Lib.goFieldsP p s).length) (Lib.goFieldsP p s).length ((Lib.goFieldsP p s).map Value.string)∧Below w.heap.size w w':=Any.strings_FieldsFunc_grows Tryz.lays229 g lb eg p s w hs hp (by kernel_rfl) (by kernel_rfl)
def Tryz.laysSlN39_f32_ren:Go.Shelf.Ren:=⟨fun|39=>32|n=>n,fun|22=>33|23=>2|3=>3|4=>4|9=>9|20=>20|0=>0|n=>n,fun|n=>n⟩
theorem Tryz.laysSlN39_f32:Go.Proofs.SlLaysN.n39 Tryz.prog Tryz.laysSlN39_f32_ren:={
 mixed:=by kernel_rfl
 f39:=⟨Tryz.f32.name,by decide,Tryz.func32.trans (congrArg some (by kernel_rfl))⟩
 t0:=Tryz.underlying0
 a0:=Tryz.isAgg0
 z0:=Tryz.sizeOf0
 v0:=Tryz.zeroValue0
 t3:=Tryz.underlying3
 a3:=Tryz.isAgg3
 z3:=Tryz.sizeOf3
 v3:=Tryz.zeroValue3
 t4:=Tryz.underlying4
 a4:=Tryz.isAgg4
 z4:=Tryz.sizeOf4
 v4:=Tryz.zeroValue4
 t9:=Tryz.underlying9
 a9:=Tryz.isAgg9
 z9:=Tryz.sizeOf9
 v9:=Tryz.zeroValue9
 t20:=Tryz.underlying20
 a20:=Tryz.isAgg20
 z20:=Tryz.sizeOf20
 v20:=Tryz.zeroValue20
 t22:=Tryz.underlying33
 a22:=Tryz.isAgg33
 z22:=Tryz.sizeOf33
 v22:=Tryz.zeroValue33
 t23:=Tryz.underlying2
 a23:=Tryz.isAgg2
 z23:=Tryz.sizeOf2
 v23:=Tryz.zeroValue2 }
open Go.Lib in
theorem Tryz.slices_Min_int(b off n c:Nat)(zs:List Int)(w:World)(hn:0 < n)(hz:n≤zs.length)(hbig:n≤9223372036854775807)(hc:∀ j,j < zs.length→w.cell? ⟨b,off+j,none⟩=some (.int .i64 (zs.getD j 0))) :
  Calls Tryz.prog 32 #[.slice (some ⟨b,off,none⟩) n c] w fun e w'=>e=.returned (.int .i64 (Lib.minOf (zs.take n)))∧w'=w:=AnyG.slices_Min_int Tryz.laysSlN39_f32 b off n c zs w hn hz hbig hc
def Tryz.laysSlN43_f151_ren:Go.Shelf.Ren:=⟨fun|43=>151|n=>n,fun|22=>33|23=>2|3=>3|4=>4|0=>0|n=>n,fun|n=>n⟩
theorem Tryz.laysSlN43_f151:Go.Proofs.SlLaysN.n43 Tryz.prog Tryz.laysSlN43_f151_ren:={
 mixed:=by kernel_rfl
 f43:=⟨Tryz.f151.name,by decide,Tryz.func151.trans (congrArg some (by kernel_rfl))⟩
 t0:=Tryz.underlying0
 a0:=Tryz.isAgg0
 z0:=Tryz.sizeOf0
 v0:=Tryz.zeroValue0
 t3:=Tryz.underlying3
 a3:=Tryz.isAgg3
 z3:=Tryz.sizeOf3
 v3:=Tryz.zeroValue3
 t4:=Tryz.underlying4
 a4:=Tryz.isAgg4
 z4:=Tryz.sizeOf4
 v4:=Tryz.zeroValue4
 t22:=Tryz.underlying33
 a22:=Tryz.isAgg33
 z22:=Tryz.sizeOf33
 v22:=Tryz.zeroValue33
 t23:=Tryz.underlying2
 a23:=Tryz.isAgg2
 z23:=Tryz.sizeOf2
 v23:=Tryz.zeroValue2
 i23:=by kernel_rfl }
open Go.RowKit Go.Lib Go.Sort in
theorem Tryz.slices_Compact_int(blk off cap:Nat)(zs:List Int)(w:World)(hH:Holds (Value.int .i64) w blk off zs.toArray)(hsz:zs.length≤9223372036854775807)(hcap:zs.length≤cap) :
  Calls Tryz.prog 151 #[.slice (some ⟨blk,off,none⟩) zs.length cap] w fun e w'=>e=.returned (.slice (some ⟨blk,off,none⟩) (Lib.compact zs).length cap)∧∃ q,w'=putRow (Value.int .i64) (Sort.ahead w q) blk off (Lib.compact zs++List.replicate (zs.length - (Lib.compact zs).length) 0).toArray:=AnyG.slices_Compact_int Tryz.laysSlN43_f151 blk off cap zs w hH hsz hcap
open Go.RowKit Go.Lib Go.Sort in
theorem Tryz.slices_Compact_int_empty(a:Option Addr)(cap:Nat)(w:World) :
  Calls Tryz.prog 151 #[.slice a 0 cap] w fun e w'=>e=.returned (.slice a 0 cap)∧w'=w:=AnyG.slices_Compact_int_empty Tryz.laysSlN43_f151 a cap w
def Tryz.laysValid_ren:Go.Shelf.Ren:=⟨fun|196=>79|259=>158|n=>n,fun|9=>9|4=>4|3=>3|5=>5|12=>12|119=>262|0=>0|46=>266|139=>265|138=>264|53=>337|n=>n,fun|3=>0|4=>1|n=>n⟩
theorem Tryz.laysValid:Go.Proofs.Lays.n196 Tryz.prog Tryz.laysValid_ren:={
 mixed:=by kernel_rfl
 f196:=Tryz.func79.trans (congrArg some (by kernel_rfl))
 f259:=Tryz.func158.trans (congrArg some (by kernel_rfl))
 t0:=Tryz.underlying0
 a0:=Tryz.isAgg0
 z0:=Tryz.sizeOf0
 v0:=Tryz.zeroValue0
 t3:=Tryz.underlying3
 a3:=Tryz.isAgg3
 z3:=Tryz.sizeOf3
 v3:=Tryz.zeroValue3
 t4:=Tryz.underlying4
 a4:=Tryz.isAgg4
 z4:=Tryz.sizeOf4
 v4:=Tryz.zeroValue4
 t5:=Tryz.underlying5
 a5:=Tryz.isAgg5
 z5:=Tryz.sizeOf5
 v5:=Tryz.zeroValue5
 t9:=Tryz.underlying9
 a9:=Tryz.isAgg9
 z9:=Tryz.sizeOf9
 v9:=Tryz.zeroValue9
 t12:=Tryz.underlying12
 a12:=Tryz.isAgg12
 z12:=Tryz.sizeOf12
 v12:=Tryz.zeroValue12
 t46:=Tryz.underlying266
 a46:=Tryz.isAgg266
 z46:=Tryz.sizeOf266
 v46:=Tryz.zeroValue266
 t53:=Tryz.underlying337
 a53:=Tryz.isAgg337
 z53:=Tryz.sizeOf337
 v53:=Tryz.zeroValue337
 t119:=Tryz.underlying262
 a119:=Tryz.isAgg262
 z119:=Tryz.sizeOf262
 t138:=Tryz.underlying264
 a138:=Tryz.isAgg264
 z138:=Tryz.sizeOf264
 v138:=Tryz.zeroValue264
 t139:=Tryz.underlying265
 a139:=Tryz.isAgg265
 z139:=Tryz.sizeOf265
 v139:=Tryz.zeroValue265
 g3:=by kernel_rfl
 g4:=by kernel_rfl }
open Go.RowKit in
theorem Tryz.utf8_ValidString(s:ByteArray)(w:World)(hs:s.size≤9223372036854775807)(hT:Lib.Utf8Tabs 0 1 w) :
  Calls Tryz.prog 79 #[.string s] w fun e w'=>e=.returned (.bool (Lib.validD s.data.toList))∧Below w.heap.size w w':=Any.utf8_ValidString Tryz.laysValid s w hs hT
def Tryz.lays162_ren:Go.Shelf.Ren:=⟨fun|162=>81|232=>160|227=>161|234=>162|236=>163|228=>226|271=>227|151=>228|120=>291|197=>292|152=>293|260=>323|137=>112|119=>324|224=>325|225=>326|217=>186|266=>245|n=>n,fun|9=>9|4=>4|3=>3|5=>5|117=>271|116=>270|0=>0|124=>274|21=>21|105=>339|46=>266|119=>262|139=>265|138=>264|n=>n,fun|3=>0|4=>1|n=>n⟩
theorem Tryz.lays162:Go.Proofs.Lays.n162 Tryz.prog Tryz.lays162_ren:={
 mixed:=by kernel_rfl
 f119:=Tryz.func324.trans (congrArg some (by kernel_rfl))
 f120:=Tryz.func291.trans (congrArg some (by kernel_rfl))
 f137:=Tryz.func112.trans (congrArg some (by kernel_rfl))
 f151:=Tryz.func228.trans (congrArg some (by kernel_rfl))
 f152:=Tryz.func293.trans (congrArg some (by kernel_rfl))
 f162:=Tryz.func81.trans (congrArg some (by kernel_rfl))
 f197:=Tryz.func292.trans (congrArg some (by kernel_rfl))
 f217:=Tryz.func186.trans (congrArg some (by kernel_rfl))
 f224:=Tryz.func325.trans (congrArg some (by kernel_rfl))
 f225:=Tryz.func326.trans (congrArg some (by kernel_rfl))
 f227:=Tryz.func161.trans (congrArg some (by kernel_rfl))
 f228:=Tryz.func226.trans (congrArg some (by kernel_rfl))
 f232:=Tryz.func160.trans (congrArg some (by kernel_rfl))
 f234:=Tryz.func162.trans (congrArg some (by kernel_rfl))
 f236:=Tryz.func163.trans (congrArg some (by kernel_rfl))
 f260:=Tryz.func323.trans (congrArg some (by kernel_rfl))
 f266:=Tryz.func245.trans (congrArg some (by kernel_rfl))
 f271:=Tryz.func227.trans (congrArg some (by kernel_rfl))
 t0:=Tryz.underlying0
 a0:=Tryz.isAgg0
 z0:=Tryz.sizeOf0
 v0:=Tryz.zeroValue0
 t3:=Tryz.underlying3
 a3:=Tryz.isAgg3
 z3:=Tryz.sizeOf3
 v3:=Tryz.zeroValue3
 t4:=Tryz.underlying4
 a4:=Tryz.isAgg4
 z4:=Tryz.sizeOf4
 v4:=Tryz.zeroValue4
 t5:=Tryz.underlying5
 a5:=Tryz.isAgg5
 z5:=Tryz.sizeOf5
 v5:=Tryz.zeroValue5
 t9:=Tryz.underlying9
 a9:=Tryz.isAgg9
 z9:=Tryz.sizeOf9
 v9:=Tryz.zeroValue9
 t21:=Tryz.underlying21
 a21:=Tryz.isAgg21
 z21:=Tryz.sizeOf21
 v21:=Tryz.zeroValue21
 t46:=Tryz.underlying266
 a46:=Tryz.isAgg266
 z46:=Tryz.sizeOf266
 v46:=Tryz.zeroValue266
 t105:=Tryz.underlying339
 a105:=Tryz.isAgg339
 z105:=Tryz.sizeOf339
 v105:=Tryz.zeroValue339
 t116:=Tryz.underlying270
 a116:=Tryz.isAgg270
 z116:=Tryz.sizeOf270
 t117:=Tryz.underlying271
 a117:=Tryz.isAgg271
 z117:=Tryz.sizeOf271
 v117:=Tryz.zeroValue271
 t119:=Tryz.underlying262
 a119:=Tryz.isAgg262
 z119:=Tryz.sizeOf262
 t124:=Tryz.underlying274
 a124:=Tryz.isAgg274
 z124:=Tryz.sizeOf274
 v124:=Tryz.zeroValue274
 t138:=Tryz.underlying264
 a138:=Tryz.isAgg264
 z138:=Tryz.sizeOf264
 v138:=Tryz.zeroValue264
 t139:=Tryz.underlying265
 a139:=Tryz.isAgg265
 z139:=Tryz.sizeOf265
 v139:=Tryz.zeroValue265
 g3:=by kernel_rfl
 g4:=by kernel_rfl }
open Go.RowKit in
theorem Tryz.strings_TrimRight(s cutset:ByteArray)(w:World)(hs:s.size≤9223372036854775807)(hcs:cutset.size < 4294967281)(hascii:∀ (j:Nat) b,cutset.data.toList[j]? = some b→b.toNat < 128) :
  Calls Tryz.prog 81 #[.string s,.string cutset] w fun e w'=>e=.returned (.string ⟨(Lib.trimRightS s.data.toList cutset.data.toList).toArray⟩)∧Below w.heap.size w w':=Any.strings_TrimRight_laid Tryz.lays162 (by kernel_rfl) s cutset w hs hcs hascii
end Go.Proofs
namespace Go.Proofs.YthbmhmpppgdkmaaGreatDoor
open Go.RowKit
set_option maxRecDepth 100000
def U8T (w:World):Prop:=Lib.Utf8Tabs 0 1 w
def g_unicode_utf8_ValidString(s:List UInt8):Option Bool:=some (Lib.validD s)
theorem a_unicode_utf8_ValidString(I:World→Prop)(hI:Stab I)(hU8T:∀ w,I w→U8T w)(s:List UInt8){r:Bool}(h:g_unicode_utf8_ValidString s=some r):AFun Tryz.prog I 79 [.str s] (.bool r):=by
 obtain rfl:=Option.some.inj h
 refine AFun.of_calls (v:=.bool (Lib.validD s)) (by kernel_rfl) (fun w F=>.bool _) ?_
 intro w F args hIw _ hl hr
 match args,hl with
 | [v],_ =>
  obtain⟨rfl,hm⟩:=rep_str1 (hr 0 v _ rfl rfl)
  exact Tryz.utf8_ValidString ⟨s.toArray⟩ w (by rw[bsize];unfold maxLen at hm;omega) (hU8T w hIw)
def g_unicode_utf8_RuneCountInString(s:List UInt8):Option Int:=if s.length < 9223372036854775807 then some (Lib.runeCountL s:Int) else none
theorem runeCountFrom_le(s:ByteArray):∀ (fuel pos:Nat),Lib.runeCountFrom s fuel pos≤fuel:=by
 intro fuel
 induction fuel with
 | zero=>intro pos;simp[Lib.runeCountFrom]
 | succ n ih =>
  intro pos
  simp only[Lib.runeCountFrom]
  split
  ·have:=ih (pos+(Utf8.decode s pos).2);omega
  ·omega
theorem a_unicode_utf8_RuneCountInString(I:World→Prop)(hI:Stab I)(s:List UInt8){r:Int}(h:g_unicode_utf8_RuneCountInString s=some r):AFun Tryz.prog I 89 [.str s] (.int .i64 r):=by
 obtain⟨hs,h⟩:=ite_on h
 obtain rfl:=Option.some.inj h
 refine AFun.of_calls (v:=.int .i64 (Lib.runeCountL s:Int)) (by kernel_rfl) (fun w F=>.int _ _ ?_) ?_
 ·have:=runeCountFrom_le ⟨s.toArray⟩ (⟨s.toArray⟩:ByteArray).size 0
  rw[bsize] at this
  unfold Lib.runeCountL Lib.runeCount inR;simp only[kLo,kHi];rw[bsize];omega
 ·intro w F args hIw _ hl hr
  match args,hl with
  | [v],_ =>
   obtain⟨rfl,hm⟩:=rep_str1 (hr 0 v _ rfl rfl)
   refine(Tryz.utf8_RuneCountInString ⟨s.toArray⟩ w (by rw[bsize];exact hs)).mono ?_
   rintro e w' ⟨rfl,pos,rfl⟩
   exact⟨rfl,rfl,rfl,rfl,by simp[World.iter],fun k hk=>Below.heap_alloc w _ k hk⟩
theorem cell_below{w w':World}{g:Nat}{v:Value}(h:w.cell? ⟨g,0,none⟩=some v)(hb:Below w.heap.size w w'):w'.cell? ⟨g,0,none⟩=some v:=by
 have hlt:g < w.heap.size:=by
  rcases Nat.lt_or_ge g w.heap.size with h1|h1
  ·exact h1
  ·simp[World.cell?,Array.getElem?_eq_none h1] at h
 rw[World.cell?_of_block (hb.block g hlt)]
 exact h
def Shp (w:World):Prop:=∃ m,w.cell? ⟨2,0,none⟩=some (.int .i64 m)
theorem stabShp:Stab Shp:=fun _ _ ⟨m,h⟩ hb=>⟨m,cell_below h hb⟩
theorem flat_strs(l:List (List UInt8)):(l.map D.str).flatMap D.cells=l.map D.str:=by
 induction l with
 | nil=>rfl
 | cons a t ih=>simp only[List.map_cons,List.flatMap_cons,ih,D.cells,List.singleton_append]
section
variable {P:Program}{I:World→Prop}{f:FuncId}{ds:List D}
theorem AFun.of_strs(he:enterable P f=true)(l:List (List UInt8))(t:TypeId)(hl:l.length≤maxLen)(hs:∀ s ∈ l,s.length≤maxLen)
  (h:∀ (w:World) (F:Nat→Nat→Prop) (args:List Value),I w→FB (cF F) w→args.length=ds.length→(∀ (i:Nat) v d,args[i]? = some v→ds[i]? = some d→Rep w (cF F) v d) →
   Calls P f args.toArray w fun e w'=>e=.returned (.slice (some ⟨w.heap.size,0,none⟩) l.length l.length)∧w'=w.alloc (.cells (l.map fun s=>Value.string ⟨s.toArray⟩).toArray t)):AFun P I f ds (.sl (l.map D.str)):=by
 refine⟨he,fun w F args hI hfb hla hr=>?_⟩
 refine(h w F args hI hfb hla hr).mono ?_
 rintro e w' ⟨rfl,rfl⟩
 let F':Nat→Nat→Prop:=fun b o=>F b o∨(b=w.heap.size∧o < l.length)
 have hbel:Below w.heap.size w (w.alloc (.cells (l.map fun s=>Value.string ⟨s.toArray⟩).toArray t)):=(Below.refl _ _).alloc (Nat.le_refl _) _
 refine⟨_,F',rfl,hbel,⟨fun _ _ h=>.inl h,fun b o hF=>hbel.block b (hfb b o hF),fun _ h=>h,fun _ _=>rfl⟩,fun b o hF=>?_,fun b o hF=>?_,?_⟩
 ·rcases hF with hF|⟨rfl,_⟩
  ·exact Nat.lt_of_lt_of_le (hfb b o hF) hbel.size
  ·simp
 ·rcases hF with hF|⟨rfl,_⟩
  ·exact .inl hF
  ·exact .inr (Nat.le_refl _)
 ·have:=Rep.sl (w:=w.alloc (.cells (l.map fun s=>Value.string ⟨s.toArray⟩).toArray t)) (C:=cF F') w.heap.size 0 1 l.length (l.map D.str) (l.map fun s=>Value.string ⟨s.toArray⟩) (by simp) hl
   (by intro x hx;simp at hx;obtain⟨a,_,rfl⟩:=hx;rfl) (by rw[flat_strs];simp) (by intro v hv;simp at hv;obtain⟨a,_,rfl⟩:=hv;rfl) (fun i hi=>.inr ⟨rfl,by simpa using hi⟩) (fun i v hv=>?_) (fun i v d hv hd=>?_)
  ·simpa using this
  ·rw[World.cell?]
   simp only[Nat.zero_add,World.alloc,Array.getElem?_push_size]
   simpa using hv
  ·rw[flat_strs] at hd
   simp only[List.getElem?_map] at hv hd
   cases hx:l[i]? with
   | none=>rw[hx] at hv;simp at hv
   | some s =>
    rw[hx] at hv hd
    simp at hv hd
    subst hv hd
    exact .str s (hs s (List.mem_of_getElem? hx))
end
def g_strings_Split(s sep:List UInt8):Option (List (List UInt8)):=if s.length < 4294967281∧1≤sep.length then some (Lib.split s sep) else none
theorem splitK_le(sep:List UInt8):∀ (k:Nat) (s:List UInt8),∀ x ∈ Lib.splitK sep 0 k s,x.length≤s.length
 | 0,s,x,h=>by simp[Lib.splitK] at h;subst h;exact Nat.le_refl _
 | k+1,s,x,h=>by
  unfold Lib.splitK at h
  split at h
  ·simp at h;subst h;exact Nat.le_refl _
  ·rcases List.mem_cons.1 h with rfl|h
   ·rw[List.length_take];exact Nat.min_le_right _ _
   ·have:=splitK_le sep k _ x h
    rw[List.length_drop] at this;omega
theorem a_strings_Split(I:World→Prop)(hI:Stab I)(hShp:∀ w,I w→Shp w)(s sep:List UInt8){r:List (List UInt8)}(h:g_strings_Split s sep=some r):AFun Tryz.prog I 91 [.str s,.str sep] (.sl (r.map D.str)):=by
 obtain⟨⟨h1,h2⟩,h⟩:=ite_on h
 obtain rfl:=Option.some.inj h
 have hd:(Lib.splitB ⟨sep.toArray⟩ 0 (Lib.countB ⟨s.toArray⟩ ⟨sep.toArray⟩) ⟨s.toArray⟩).map (·.data.toList)=Lib.split s sep:=by
  rw[Lib.splitB_data];rfl
 have hlen:(Lib.split s sep).length=Lib.countB ⟨s.toArray⟩ ⟨sep.toArray⟩+1:=by
  rw[← hd,List.length_map];exact Lib.splitB_all _ (by simpa[ByteArray.size] using h2) 0 _ _ rfl
 have hcl:=Lib.countB_le ⟨sep.toArray⟩ (by simpa[ByteArray.size] using h2) s.length ⟨s.toArray⟩ (by simp[ByteArray.size])
 refine AFun.of_strs (by kernel_rfl) _ 9 (by rw[hlen];simp[ByteArray.size] at hcl;unfold maxLen;omega) (fun x hx=>by have:=splitK_le sep _ s x hx;unfold maxLen;omega) ?_
 intro w F args hIw _ hl hr
 match args,hl with
 | [v,u],_ =>
  obtain⟨rfl,_⟩:=rep_str1 (hr 0 v _ rfl rfl)
  obtain⟨rfl,_⟩:=rep_str1 (hr 1 u _ rfl rfl)
  obtain⟨m,hm⟩:=hShp w hIw
  refine(Tryz.strings_Split ⟨s.toArray⟩ ⟨sep.toArray⟩ m w (by simpa[ByteArray.size] using h1) hm (by simpa[ByteArray.size] using h2)).mono ?_
  rintro e w' ⟨rfl,rfl⟩
  refine⟨by rw[hlen],?_⟩
  rw[← hd,List.map_map]
  rfl
def g_strings_Contains(s t:List UInt8):Option Bool:=match t with
 | [c]=>some (decide (0≤Lib.indexByte s c))
 | _=>none
theorem a_strings_Contains(I:World→Prop)(hI:Stab I)(s t:List UInt8){r:Bool}(h:g_strings_Contains s t=some r):AFun Tryz.prog I 164 [.str s,.str t] (.bool r):=by
 unfold g_strings_Contains at h
 split at h
 ·rename_i c
  obtain rfl:=Option.some.inj h
  refine AFun.of_calls (v:=.bool (decide (0≤Lib.indexByte s c))) (by kernel_rfl) (fun w F=>.bool _) ?_
  intro w F args hIw _ hl hr
  match args,hl with
  | [v,u],_ =>
   obtain⟨rfl,_⟩:=rep_str1 (hr 0 v _ rfl rfl)
   obtain⟨rfl,_⟩:=rep_str1 (hr 1 u _ rfl rfl)
   refine(Tryz.strings_Contains_one ⟨s.toArray⟩ c w).mono ?_
   rintro e w' ⟨rfl,rfl⟩
   exact⟨by simp,Below.refl _ _⟩
 ·cases h
theorem trimRight_len(s cs:List UInt8):(Lib.trimRightS s cs).length≤s.length:=by
 unfold Lib.trimRightS
 rw[List.length_reverse]
 have:=(List.dropWhile_suffix (l:=s.reverse) (p:=(cs.contains ·))).length_le
 simpa using this
def g_strings_TrimRight(s cs:List UInt8):Option (List UInt8):=if cs.length < 4294967281∧(cs.all fun b=>decide (b.toNat < 128))=true then some (Lib.trimRightS s cs) else none
theorem a_strings_TrimRight(I:World→Prop)(hI:Stab I)(s cs:List UInt8){r:List UInt8}(h:g_strings_TrimRight s cs=some r):AFun Tryz.prog I 81 [.str s,.str cs] (.str r):=by
 obtain⟨⟨h1,h2⟩,h⟩:=ite_on h
 obtain rfl:=Option.some.inj h
 refine AFun.sized (by kernel_rfl) fun hz=>?_
 simp only[List.mem_cons,List.not_mem_nil,or_false,forall_eq_or_imp,forall_eq,Sz_str] at hz
 refine AFun.of_calls (v:=.string ⟨(Lib.trimRightS s cs).toArray⟩) (by kernel_rfl) (fun w F=>.str _ (by have:=trimRight_len s cs;unfold maxLen;omega)) ?_
 intro w F args hIw _ hl hr
 match args,hl with
 | [v,u],_ =>
  obtain⟨rfl,_⟩:=rep_str1 (hr 0 v _ rfl rfl)
  obtain⟨rfl,_⟩:=rep_str1 (hr 1 u _ rfl rfl)
  have:=Tryz.strings_TrimRight ⟨s.toArray⟩ ⟨cs.toArray⟩ w (by rw[bsize];exact hz.1) (by rw[bsize];exact h1) (fun j b hb=>by
   have:=List.all_eq_true.1 h2 b (List.mem_of_getElem? hb)
   simpa using this)
  simpa using this
def RdL {α:Type}(enc:α→List Value)(k:Nat)(w:World)(B:Nat)(A:Option Addr)(L:List α):Prop :=
 L=[]∨∃ b off,A=some ⟨b,off,none⟩∧b < B∧∀ i x,L[i]? = some x→∀ j v,(enc x)[j]? = some v→w.cell? ⟨b,off+i * k+j,none⟩=some v
section
variable {α:Type}{enc:α→List Value}{k:Nat}{w w':World}{B B':Nat}{A:Option Addr}{L:List α}
theorem RdL.nil:RdL enc k w B A []:=.inl rfl
theorem RdL.keep(h:RdL enc k w B A L)(hk:∀ p:Addr,p.block < B→w'.cell? p=w.cell? p):RdL enc k w' B A L:=by
 rcases h with h|⟨b,off,e,hb,hc⟩
 ·exact .inl h
 ·exact .inr ⟨b,off,e,hb,fun i x hx j v hv=>(hk _ hb).trans (hc i x hx j v hv)⟩
theorem RdL.below(h:RdL enc k w B A L)(hb:Below B w w'):RdL enc k w' B A L:=h.keep fun _ hp=>hb.cell hp
theorem RdL.drewN(h:RdL enc k w B A L)(q:Nat):RdL enc k (w.drewN q) B A L:=h
end
def encI (x:Int):List Value:=[.int .i64 x]
def RdI (w:World)(B:Nat)(A:Option Addr)(L:List Int):Prop:=RdL encI 1 w B A L
theorem RdI.below{w w':World}{B:Nat}{A:Option Addr}{L:List Int}(h:RdI w B A L)(hb:Below B w w'):RdI w' B A L:=RdL.below h hb
def smB (b:UInt8):UInt8:=if 65≤b.toNat∧b.toNat≤90 then b+32 else b
def smS (s:List UInt8):List UInt8:=s.map smB
def u8V (b:UInt8):Value:=.int .u8 (b.toNat:Int)
def smC (s:List UInt8)(k cap:Nat):Array Value:=((s.take k).map (fun b=>u8V (smB b))++(s.drop k).map u8V++List.replicate (cap - s.length) (Value.int .u8 0)).toArray
def smW (w:World)(s:List UInt8)(k cap:Nat):World:=w.drew.alloc (.cells (smC s k cap) 5 ((smC s k cap).size,(smC s k cap).size+1))
theorem smC_size(s:List UInt8)(k cap:Nat):(smC s k cap).size=s.length+(cap - s.length):=by
 simp[smC];omega
theorem smC_0(s:List UInt8)(cap:Nat):smC s 0 cap=bytesRow ⟨s.toArray⟩ cap:=by
 simp only[smC,bytesRow,List.take_zero,List.map_nil,List.nil_append,List.drop_zero,ByteArray.size]
 apply Array.ext'
 simp[u8V]
theorem smC_cut(a b:List UInt8)(c:UInt8)(cap:Nat):smC (a++c::b) a.length cap=(a.map (fun b=>u8V (smB b))++(u8V c::(b.map u8V++List.replicate (cap - (a++c::b).length) (Value.int .u8 0)))).toArray:=by
 unfold smC
 rw[List.take_left,List.drop_left,List.map_cons,List.append_assoc,List.cons_append]
theorem smC_cut1(a b:List UInt8)(c:UInt8)(cap:Nat):smC (a++c::b) (a.length+1) cap=(a.map (fun b=>u8V (smB b))++(u8V (smB c)::(b.map u8V++List.replicate (cap - (a++c::b).length) (Value.int .u8 0)))).toArray:=by
 have h1:(a++c::b).take (a.length+1)=a++[c]:=by rw[List.take_append];simp[List.take_of_length_le]
 have h2:(a++c::b).drop (a.length+1)=b:=by rw[List.drop_append];simp
 unfold smC
 rw[h1,h2]
 simp
theorem smC_at(s:List UInt8)(k cap:Nat)(hk:k < s.length):(smC s k cap)[k]? = some (u8V s[k]):=by
 obtain⟨a,c,b,rfl,rfl⟩:∃ a c b,s=a++c::b∧a.length=k:=⟨s.take k,s[k],s.drop (k+1),by rw[← List.drop_eq_getElem_cons hk,List.take_append_drop],by simp;omega⟩
 rw[smC_cut]
 simp
theorem smC_set(s:List UInt8)(k cap:Nat)(hk:k < s.length):(smC s k cap).setIfInBounds k (u8V (smB s[k]))=smC s (k+1) cap:=by
 obtain⟨a,c,b,rfl,rfl⟩:∃ a c b,s=a++c::b∧a.length=k:=⟨s.take k,s[k],s.drop (k+1),by rw[← List.drop_eq_getElem_cons hk,List.take_append_drop],by simp;omega⟩
 rw[smC_cut,smC_cut1]
 apply Array.ext'
 simp
theorem smC_same(s:List UInt8)(k cap:Nat)(hk:k < s.length)(h:smB s[k]=s[k]):smC s k cap=smC s (k+1) cap:=by
 obtain⟨a,c,b,rfl,rfl⟩:∃ a c b,s=a++c::b∧a.length=k:=⟨s.take k,s[k],s.drop (k+1),by rw[← List.drop_eq_getElem_cons hk,List.take_append_drop],by simp;omega⟩
 rw[smC_cut,smC_cut1]
 have:smB c=c:=by simpa using h
 rw[this]
theorem smC_end(s:List UInt8)(cap j:Nat)(hj:j < (smS s).length):(smC s s.length cap)[j]? = some (.int .u8 ((smS s)[j].toNat:Int)):=by
 have hj':j < s.length:=by simpa[smS] using hj
 simp only[smC,List.getElem?_toArray,List.append_assoc,List.take_length]
 rw[List.getElem?_append_left (by simpa using hj')]
 simp[smS,u8V,hj']
theorem smW_cell(w:World)(s:List UInt8)(k cap:Nat)(hk:k < s.length):(smW w s k cap).cell? ⟨w.heap.size,k,none⟩=some (u8V s[k]):=by
 unfold smW
 exact(World.cell?_alloc_mark w.drew _ _ _ k).trans (smC_at s k cap hk)
theorem smW_frozen(w:World)(s:List UInt8)(k cap:Nat)(hk:k < s.length):(smW w s k cap).frozen? ⟨w.heap.size,k,none⟩=false:=by
 unfold smW
 refine(World.frozen?_alloc_mark w.drew _ _ _ _ k).trans ?_
 rw[smC_size]
 simp;omega
theorem smW_set(w:World)(s:List UInt8)(k cap:Nat)(hk:k < s.length):(smW w s k cap).setCell ⟨w.heap.size,k,none⟩ (u8V (smB s[k]))=smW w s (k+1) cap:=by
 unfold smW
 rw[← smC_set s k cap hk]
 have hm:∀ (a:Array Obj) (x:Obj) (f:Obj→Obj),(a.push x).modify a.size f=a.push (f x):=by
  intro a x f
  apply Array.ext
  ·simp
  ·intro i h1 h2
   simp only[Array.getElem_modify,Array.getElem_push]
   by_cases h:a.size=i
   ·subst h
    simp
   ·have hi:i < a.size:=by simp at h1;omega
    simp[h,hi]
 unfold World.setCell
 show({ w.drew with heap:=(w.heap.push _).modify w.heap.size _ }:World)=_
 rw[hm]
 simp only[World.alloc,Array.size_setIfInBounds]
 rfl
theorem smW_same(w:World)(s:List UInt8)(k cap:Nat)(hk:k < s.length)(h:smB s[k]=s[k]):smW w s k cap=smW w s (k+1) cap:=by
 unfold smW
 rw[smC_same s k cap hk h]
theorem smW_below(w:World)(s:List UInt8)(k cap:Nat):Below w.heap.size w (smW w s k cap):=by
 have h1:Below w.heap.size w w.drew:=⟨rfl,rfl,rfl,Nat.le_refl _,fun i _=>rfl⟩
 exact h1.alloc (Nat.le_refl _) _
theorem token_small(s:List UInt8)(hs:s.length≤maxLen)(w:World):Calls Tryz.prog 83 #[.string ⟨s.toArray⟩] w fun e w'=>e=.returned (.string ⟨(smS s).toArray⟩)∧Below w.heap.size w w':=by
 have hm:s.length≤9223372036854775807:=hs
 have hconv:=run_bytes_of_string (P:=Tryz.prog) w 9 173 5 ⟨s.toArray⟩ (by kernel_rfl) (by kernel_rfl) (by kernel_rfl)
 generalize hcap:grownCap w (ByteArray.size ⟨s.toArray⟩) 0 5=cap at hconv
 rw[← smC_0] at hconv
 have hW:w.drew.alloc (.cells (smC s 0 cap) 5 ((smC s 0 cap).size,(smC s 0 cap).size+1))=smW w s 0 cap:=rfl
 rw[hW] at hconv
 have hsz:ByteArray.size ⟨s.toArray⟩=s.length:=by simp[ByteArray.size]
 rw[hsz] at hconv
 clear hcap hW hsz
 have hback:=run_convert_bytes_back (P:=Tryz.prog) (smW w s s.length cap) 173 9 5 ⟨w.heap.size,0,none⟩ cap (smS s) (by kernel_rfl) (by kernel_rfl) (by kernel_rfl) (fun j hj=>by
  have ha:(⟨w.heap.size,0,none⟩:Addr).add j=⟨w.heap.size,j,none⟩:=by unfold Addr.add;split<;>simp_all
  rw[ha]
  exact(World.cell?_alloc_mark w.drew _ _ _ j).trans (smC_end s cap j hj))
 have hl:(smS s).length=s.length:=by simp[smS]
 rw[hl] at hback
 have HB:=Lib.hid hback
 clear hback hl
 generalize hw0:smW w s 0 cap=w0 at hconv
 go_enter Tryz.func83,Tryz.ntmps83
 go_wp2
 subst hw0
 go_loopw [4,5,10] (fun _ _ i wr=>∃ k:Nat,k≤s.length∧i=.int .i64 k∧wr=smW w s k cap) (fun _ _ i _=>s.length - (intOf i).toNat)
 case atStart=>exact⟨0,Nat.zero_le _,rfl,rfl⟩
 case round =>
  obtain⟨k,hk,rfl,rfl⟩:=hrel
  by_cases hlt:k < s.length
  ·have hc:=smW_cell w s k cap hlt
   have hz:=smW_frozen w s k cap hlt
   have hset:=Lib.hid (smW_set w s k cap hlt)
   have hsame:=Lib.hid (smW_same w s k cap hlt)
   have hi:(k:Int) < (s.length:Int):=by omega
   generalize s[k]=c at hc hset hsame
   have hc255:c.toNat < 256:=c.toNat_lt
   have hsm:Hid (smB c=if 65≤c.toNat∧c.toNat≤90 then c+32 else c):=Lib.hid rfl
   generalize hwk:smW w s k cap=wk at hc hz hset hsame ⊢
   have HW:=Lib.hid hwk
   clear hwk
   unfold u8V at hc
   by_cases h1:65≤(c.toNat:Int)
   ·by_cases h2:(c.toNat:Int)≤90
    ·have hb:(smB c).toNat=c.toNat+32:=by
      rw[hsm.out,if_pos (by omega)]
      simp[UInt8.toNat_add];omega
     go_wp2
     refine⟨⟨k+1,by omega,by simp,?_⟩,by simp[intOf];omega⟩
     rw[← hset.out]
     unfold u8V
     rw[hb]
     congr 2<;>omega
    ·have hb:smB c=c:=by rw[hsm.out,if_neg (by omega)]
     have hb2:=Lib.hid hb
     clear hb
     go_wp2
     exact⟨⟨k+1,by omega,by simp,hsame.out hb2.out⟩,by simp[intOf];omega⟩
   ·have hb:smB c=c:=by rw[hsm.out,if_neg (by omega)]
    have hb2:=Lib.hid hb
    clear hb
    go_wp2
    exact⟨⟨k+1,by omega,by simp,hsame.out hb2.out⟩,by simp[intOf];omega⟩
  ·obtain rfl:k=s.length:=by omega
   have hb:=smW_below w s s.length cap
   have hback:=HB.out
   generalize smW w s s.length cap=we at hback hb ⊢
   go_wp2
   go_ret
   exact⟨rfl,hb⟩
def g_token_small(s:List UInt8):Option (List UInt8):=some (smS s)
theorem a_token_small(I:World→Prop)(hI:Stab I)(s:List UInt8){r:List UInt8}(h:g_token_small s=some r):AFun Tryz.prog I 83 [.str s] (.str r):=by
 obtain rfl:=Option.some.inj h
 refine AFun.sized (by kernel_rfl) fun hz=>?_
 simp only[List.mem_cons,List.not_mem_nil,or_false,forall_eq,Sz_str] at hz
 refine AFun.of_calls (v:=.string ⟨(smS s).toArray⟩) (by kernel_rfl) (fun w F=>.str _ (by unfold maxLen;simpa[smS] using hz)) ?_
 intro w F args hIw _ hl hr
 match args,hl with
 | [v],_ =>
  obtain⟨rfl,hm⟩:=rep_str1 (hr 0 v _ rfl rfl)
  exact token_small s hm w
theorem bSize:(Tryz.prog.info? 175).map (·.size)=some 2:=by kernel_rfl
theorem bLies:liesAt Tryz.prog Tryz.prog.depth 175 (2 / Tryz.prog.cellsOf 175) 0 175 1=true:=by kernel_rfl
theorem byte_info:(Tryz.prog.info? 5).map (fun i=>(i.zero,i.size,i.bytes))=some (some (.int .u8 0),1,1):=by kernel_rfl
set_option maxHeartbeats 1000000 in
set_option maxRecDepth 100000 in
theorem copyCheck_used(b:Nat)(w:World)(h0:w.cell? ⟨b,0,none⟩=some (.pointer (some ⟨b,0,none⟩))) :
  Calls Tryz.prog 157 #[.pointer (some ⟨b,0,none⟩)] w fun e w'=>e=.returned (.tuple #[])∧w=w':=by
 obtain⟨j,hj,_⟩:=Option.map_eq_some_iff.1 bSize
 go_enter Tryz.func157,Tryz.ntmps157
 go_wp2
 rw[Lib.run_neq_ptr_same w _ Tryz.underlying172 hj]
 go_wp2
 go_end0
 exact⟨rfl,rfl⟩
set_option maxHeartbeats 1000000 in
set_option maxRecDepth 100000 in
theorem copyCheck_fresh(b:Nat)(w:World)(h0:w.cell? ⟨b,0,none⟩=some (.pointer none))(hsh:w.shape? b=some (175,2))(hfz:w.frozen? ⟨b,0,none⟩=false) :
  Calls Tryz.prog 157 #[.pointer (some ⟨b,0,none⟩)] w fun e w'=>e=.returned (.tuple #[])∧w.setCell ⟨b,0,none⟩ (.pointer (some ⟨b,0,none⟩))=w':=by
 obtain⟨j,hj,hjs⟩:=Option.map_eq_some_iff.1 bSize
 go_enter Tryz.func157,Tryz.ntmps157
 go_wp2
 rw[Lib.run_to_unsafe w ⟨b,0,none⟩ Tryz.underlying172 Tryz.underlying335 hj (by rw[hjs];decide) hsh (Nat.zero_lt_succ 1)]
 simp only[Result.andThen]
 rw[Oper.upon_value]
 go_wp2
 rw[run_callFunc_extern Tryz.func225 (by kernel_rfl) (by kernel_rfl) (by kernel_rfl) (e:=Extern.AbiNoEscape.same) (by kernel_rfl)]
 rw[Lib.run_noEscape]
 simp only[Result.andThen]
 rw[Oper.upon_value]
 go_wp2
 rw[Lib.run_from_unsafe w ⟨b,0,none⟩ Tryz.underlying335 Tryz.underlying172 hj hsh bLies]
 simp only[Result.andThen]
 rw[Oper.upon_value]
 go_wp2
 go_end0
 exact⟨rfl,rfl⟩
section
variable {P:Program}{w:World}
theorem append_str_where(t u ty e:TypeId)(i:TypeInfo)(ht:P.underlying t=some (.slice e))(hu:P.underlying u=some .string)(hi:P.info? e=some i)(hz:i.zero=some (.int .u8 0))(hsize:i.size=1)(hby:i.bytes=1)
  (v:Value) (n:Nat) (xs:List Value) (hown:w.ownsRow 0 e 1 v n xs) (s:ByteArray) (h63:n+s.size≤maxLen) (hbytes:n+s.size≤140737488355328) {v':Value} {w':World} (h:(Builtin.append_ #[t,u] ty #[v,.string s]).run P w=.ok v' w') :
  (∀ g,v'.ownBlock=some g→w.heap.size≤g)∨v'.ownBlock=v.ownBlock:=by
 have hsmall:n+s.size≤9223372036854775807:=by simp only[maxLen] at h63;omega
 have hxl:xs.length=n:=by simpa using hown.1
 rcases hown.2 with⟨rfl,rfl⟩|⟨g,cap,cur,rfl,hbg,hg,hnc,hcm,hcs,htake⟩
 ·by_cases hm:s.size=0
  ·have hf:=Lib.run_firstCells_string (P:=P) (w:=w) 1 s
   rw[hm] at hf
   have hr:(Builtin.append_ #[t,u] ty #[.slice none 0 0,.string s]).run P w=.ok (.slice none 0 0) w:=by
    simp[Builtin.append_,run_underlying ht,run_underlying hu,sizeOf,typeInfo,hi,hsize,Builtin.lenOf,hm,hf]
   rw[hr] at h
   injection h with h1 h2
   subst h1
   exact .inr rfl
  ·rw[run_append_nil_string (P:=P) w t u ty e i (.int .u8 0) ht hu hi hz s (by omega) (by omega) (by rw[hby];omega)] at h
   injection h with h1 h2
   subst h1
   exact .inl fun g hg=>by simp[Value.ownBlock] at hg;omega
 ·by_cases hroom:n+s.size≤cap
  ·have hcs':cur.size=cap:=by simpa using hcs
   rw[Lib.run_append_room_string (P:=P) w t u ty e i ht hu hi hsize g n cap cur hg s hroom (by omega)] at h
   injection h with h1 h2
   subst h1
   exact .inr rfl
  ·have holds:∀ j u,xs[j]? = some u→w.cell? ((⟨g,0,none⟩:Addr).add j)=some u:=hown.cells (g:=g) rfl
   rw[Lib.run_append_grow_string (P:=P) w t u ty e i (.int .u8 0) ht hu hi hz ⟨g,0,none⟩ n cap xs (by rw[hsize];simpa using hxl) holds s (by omega) (by omega) (by rw[hby];exact growslice_fits (by omega) (by omega))] at h
   injection h with h1 h2
   subst h1
   exact .inl fun g hg=>by simp[Value.ownBlock] at hg;omega
theorem wpList_append_str2{ops:Array Oper}{rest:List Oper}{o:Oper}{a:Act}{Q:Exit→Act→World→Prop}(hgd:o.guard=none)(sl x:Operand)(t u:TypeId)
  (ho:o.op=.call { callee:=.builtin .append,args:=#[sl,x],argTypes:=#[t,u] }) (e:TypeId) (i:TypeInfo) (ht:P.underlying t=some (.slice e)) (hu:P.underlying u=some .string) (hi:P.info? e=some i) (hz:i.zero=some (.int .u8 0))
  (hsize:i.size=1) (hby:i.bytes=1) (v:Value) (n:Nat) (xs:List Value) (hs:a.eval sl=v) (hown:w.ownsRow 0 e 1 v n xs) (s:ByteArray) (hx:a.eval x=.string s) (h63:n+s.size≤maxLen) (hbytes:n+s.size≤140737488355328)
  (h:∀ v' w',w'.ownsRow 0 e 1 v' (n+s.size) (xs++Lib.strCells s)→w.grownBy w' v.ownBlock→((∀ g,v'.ownBlock=some g→w.heap.size≤g)∨v'.ownBlock=v.ownBlock)→wpList P ops Q rest (a.put o.dst v') w'):wpList P ops Q (o::rest) a w:=by
 refine wpList_plain hgd fun K hK=>?_
 obtain⟨v',w',hr,h2,h3,_⟩:=Lib.run_append_own_string (P:=P) w 0 t u o.type e i ht hu hi hz hsize hby v n xs hown s h63 hbytes (Nat.zero_le _)
 have hw:=append_str_where (P:=P) t u o.type e i ht hu hi hz hsize hby v n xs hown s h63 hbytes hr
 unfold Oper.wp execOp
 simp only[ho,resolve,invoke,builtin,Sem.run_bind,Sem.run_pure,Result.andThen_ok,List.map_toArray,List.map_cons,List.map_nil,hs,hx,hr]
 exact hK _ _ (h v' w' h2 h3 hw)
end
def BldAt(b:Nat)(v:Value)(w:World):Prop:=∃ p,(p=.pointer none∨p=.pointer (some ⟨b,0,none⟩))∧w.heap[b]? = some (.cells #[p,v] 175 (0,0))
theorem copyCheck_bld(b:Nat)(v:Value)(w:World)(h:BldAt b v w):Calls Tryz.prog 157 #[.pointer (some ⟨b,0,none⟩)] w fun e w'=>e=.returned (.tuple #[]) ∧
  w'.heap[b]? = some (.cells #[.pointer (some ⟨b,0,none⟩),v] 175 (0,0))∧w'.heap.size=w.heap.size∧w'.os=w.os∧w'.tape=w.tape∧w'.output=w.output∧∀ k,k≠b→w'.heap[k]? = w.heap[k]?:=by
 obtain⟨p,hp,hb⟩:=h
 rcases hp with rfl|rfl
 ·refine(copyCheck_fresh b w (by rw[Lib.cell_of_heap hb];rfl) (by simp[World.shape?,hb]) (Lib.frozen_of_heap hb 0)).mono ?_
  rintro e w' ⟨rfl,rfl⟩
  exact⟨rfl,by simp[World.setCell,Array.getElem?_modify,hb],by simp[World.setCell],rfl,rfl,rfl,fun k hk=>Below.heap_setCell w ⟨b,0,none⟩ _ k hk⟩
 ·refine(copyCheck_used b w (by rw[Lib.cell_of_heap hb];rfl)).mono ?_
  rintro e w' ⟨rfl,rfl⟩
  exact⟨rfl,hb,rfl,rfl,rfl,rfl,fun _ _=>rfl⟩
set_option maxHeartbeats 2000000 in
set_option maxRecDepth 100000 in
theorem writeStr(b:Nat)(v:Value)(bs:List Value)(s:ByteArray)(w:World)(h:BldAt b v w)(hown:w.ownsRow 0 5 1 v bs.length bs)(hne:v.ownBlock≠some b)(hlen:bs.length+s.size≤140737488355328) :
  Calls Tryz.prog 73 #[.pointer (some ⟨b,0,none⟩),.string s] w fun e w'=>e=.returned (.tuple #[.int .i64 s.size,.nilIface]) ∧
   ∃ v',w'.heap[b]? = some (.cells #[.pointer (some ⟨b,0,none⟩),v'] 175 (0,0))∧w'.ownsRow 0 5 1 v' (bs.length+s.size) (bs++Lib.strCells s)∧v'.ownBlock≠some b ∧
    ((∀ g,v'.ownBlock=some g→w.heap.size≤g)∨v'.ownBlock=v.ownBlock)∧BelM (fun k=>w.heap.size≤k∨k=b∨v.ownBlock=some k) w w':=by
 obtain⟨i0,hi,hz0,hz1,hz2⟩:=info_parts byte_info
 have hltb:b < w.heap.size:=by obtain⟨p,_,hb⟩:=h;exact(Array.getElem?_eq_some_iff.1 hb).1
 go_enter Tryz.func73,Tryz.ntmps73
 go_wp2_with (go_at_call 157;refine(copyCheck_bld b v _ h).mono ?_)
 rintro e w1 ⟨rfl,hbk,hsz,hos,htp,hou,ho1⟩
 have HO1:=Lib.hid ho1
 have HS:=Lib.hid hsz
 have HX:=Lib.hid (And.intro hos (And.intro htp hou))
 clear ho1 hsz hos htp hou
 have hown1:w1.ownsRow 0 5 1 v bs.length bs:=by
  refine⟨hown.1,?_⟩
  rcases hown.2 with h0|⟨g,cap,cur,h1,h2,h3,h4⟩
  ·exact .inl h0
  ·exact .inr ⟨g,cap,cur,h1,h2,(HO1.out g (fun e=>hne (by rw[h1,e];rfl))).trans h3,h4⟩
 have c0:w1.cell? ⟨b,0,none⟩=some (.pointer (some ⟨b,0,none⟩)):=by rw[Lib.cell_of_heap hbk];rfl
 have c1:w1.cell? ⟨b,1,none⟩=some v:=by rw[Lib.cell_of_heap hbk];rfl
 go_wp2_with (at_builtin;refine wpList_append_str2 rfl _ _ 173 9 rfl 5 i0 Tryz.underlying173 Tryz.underlying9 hi hz0 hz1 hz2 _ _ _ rfl hown1 s rfl ?c3 ?c4 ?_)
 case c3=>unfold maxLen;omega
 case c4=>omega
 intro v' w2 hown' hgrow hwh
 have hlt:b < w1.heap.size:=by rw[HS.out];exact hltb
 have hb2:w2.heap[b]? = some (.cells #[.pointer (some ⟨b,0,none⟩),v] 175 (0,0)):=by
  rw[hgrow.block b hlt (fun e=>hne e.symm)]
  exact hbk
 have d0:w2.cell? ⟨b,0,none⟩=some (.pointer (some ⟨b,0,none⟩)):=by rw[Lib.cell_of_heap hb2];rfl
 have d1:w2.cell? ⟨b,1,none⟩=some v:=by rw[Lib.cell_of_heap hb2];rfl
 have f1:w2.frozen? ⟨b,1,none⟩=false:=Lib.frozen_of_heap hb2 1
 have hne':v'.ownBlock≠some b:=by
  intro e
  rcases hwh with h1|h1
  ·have:=h1 b e;omega
  ·exact hne (h1 ▸ e)
 have HW:=Lib.hid hwh
 have HN:=Lib.hid hne'
 have HG:=Lib.hid hgrow
 clear hwh hne'
 obtain⟨ao,n',cap,rfl⟩:∃ ao n' cap,v'=.slice ao n' cap:=by
  rcases hown'.2 with⟨hv,_⟩|⟨g,cap,cur,hv,_⟩
  ·exact⟨_,_,_,hv⟩
  ·exact⟨_,_,_,hv⟩
 go_wp2
 go_ret2
 refine⟨rfl,.slice ao n' cap,?_,?_,HN.out,?_,?_⟩
 ·simp[World.setCell,Array.getElem?_modify,hb2]
 ·refine⟨hown'.1,?_⟩
  rcases hown'.2 with h0|⟨g,cap',cur,h1,h2,h3,h4⟩
  ·exact .inl h0
  ·exact .inr ⟨g,cap',cur,h1,h2,(Below.heap_setCell _ _ _ _ (fun e=>HN.out (by rw[h1,e];rfl))).trans h3,h4⟩
 ·rw[HS.out] at HW;exact HW.out
 ·have hX:=HX.out
  refine⟨HG.out.os.trans hX.1,HG.out.tape.trans hX.2.1,HG.out.output.trans hX.2.2,?_,fun k hk hm=>?_⟩
  ·have:=HG.out.size;rw[HS.out] at this;simpa[World.setCell] using this
  ·have hkb:k≠b:=fun e=>hm (.inr (.inl e))
   rw[Below.heap_setCell _ _ _ _ hkb,HG.out.block k (by rw[HS.out];exact hk) (fun e=>hm (.inr (.inr e.symm))),HO1.out k hkb]
def toI (l:List UInt8):List Int:=l.map fun b=>(b.toNat:Int)
theorem toI_length(l:List UInt8):(toI l).length=l.length:=by simp[toI]
theorem strCells_rep{w:World}{C:Cx}(s:List UInt8):RepL C w (Lib.strCells ⟨s.toArray⟩) (((toI s).map (D.int .u8)).flatMap D.cells):=by
 rw[flatU8]
 have e:Lib.strCells ⟨s.toArray⟩=s.map fun b=>Value.int .u8 b.toNat:=by simp[Lib.strCells]
 rw[e]
 refine⟨by simp[toI],fun v hv=>?_,fun i v d hv hd=>?_⟩
 ·obtain⟨b,_,rfl⟩:=List.mem_map.1 hv;rfl
 ·simp only[toI,List.getElem?_map] at hv hd
  cases hs:s[i]? with
  | none=>rw[hs] at hv;simp at hv
  | some b =>
   rw[hs] at hv hd
   simp at hv hd
   subst hv hd
   exact .int _ _ (by have:=b.toNat_lt;unfold inR;simp only[kLo,kHi];omega)
theorem flatU8_len(l:List Int):∀ x ∈ l.map (D.int .u8),x.cells.length=1:=by
 intro x hx;obtain⟨n,_,rfl⟩:=List.mem_map.1 hx;rfl
theorem sp_cases{w:World}{C:Cx}{v:Value}{id:Nat}(h:Rep w C v (.sp id)){g:Nat}(hs:C.σ id=.pointer (some ⟨g,0,none⟩)):v=.pointer none∨v=.pointer (some ⟨g,0,none⟩):=by
 cases h with
 | sp0 _ _=>exact .inl rfl
 | sp1 _ g' _ h'=>rw[hs] at h';injection h' with h';injection h' with h';injection h' with h';subst h';exact .inr rfl
theorem bld_block{w:World}{C:Cx}{id g:Nat}{d:D}(hs:C.σ id=.pointer (some ⟨g,0,none⟩))(h:BRep C w 0 id (.bbox 175 [.sp id,d])):∃ v,BldAt g v w∧Rep w C v d∧∀ o,¬ C.F g o:=by
 obtain⟨g',vs,q1,q2,q3,q4,q5⟩:=h
 rw[hs] at q1;injection q1 with q1;injection q1 with q1;injection q1 with q1
 subst q1
 have hl:=q4.len
 obtain⟨p,v,hvs⟩:∃ p v,vs=#[p,v]:=by
  obtain⟨l⟩:=vs
  match l,hl with
  | [p,v],_=>exact⟨p,v,rfl⟩
 subst hvs
 exact⟨v,⟨p,sp_cases (q4.rep 0 p _ rfl rfl) hs,q3⟩,q4.rep 1 v _ rfl rfl,q5⟩
theorem wrote(I:World→Prop)(id nid:Nat)(s:List UInt8)(l:List Int)(H:Nat→Option Blk)(d:D)(eff:Eff)(hid:H id=some (.bbox 175 [.sp id,d]))(hlen:l.length+s.length≤140737488355328)(hne:nid≠id)
  (hd:(d=.nils∧l=[]∧eff=[(nid,some (.vec 5 1 ((l++toI s).map (D.int .u8)) false)),(id,some (.bbox 175 [.sp id,.own nid (l.length+s.length)]))]) ∨
   ∃ id2,d=.own id2 l.length∧H id2=some (.vec 5 1 (l.map (D.int .u8)) false)∧id2≠id∧eff=[(id2,none),(nid,some (.vec 5 1 ((l++toI s).map (D.int .u8)) false)),(id,some (.bbox 175 [.sp id,.own nid (l.length+s.length)]))]) :
  CallOK Tryz.prog I 73 [.ptr id 0,.str s] H nid (.tup [.int .i64 s.length,.err false]) eff:=by
 refine⟨by kernel_rfl,fun i0 w C B args hI hb0 hM hH hF hbase hn hal hrep=>?_⟩
 obtain⟨a0,a1,rfl⟩:∃ a0 a1,args=[a0,a1]:=by
  match args,hal with
  | [a,b],_=>exact⟨a,b,rfl⟩
 have r0:=hrep 0 a0 _ rfl rfl
 have r1:=hrep 1 a1 _ rfl rfl
 clear hrep
 obtain⟨rfl,hsl⟩:=rep_str1 r1
 cases r0 with
 | ptr _ _ g hlid hσ =>
 obtain⟨k0,k1⟩:=hH.rep id _ hid
 obtain⟨v,hB,hv,hnoF⟩:=bld_block hσ k1
 have hgM:B.M g:=hH.own id _ hid g (by rw[hσ];rfl)
 have hglt:g < w.heap.size:=by obtain⟨p,_,hb⟩:=hB;exact(Array.getElem?_eq_some_iff.1 hb).1
 -- the row
 obtain⟨vals,hown,hvals,hvne,hvM,hvF⟩:∃ vals,w.ownsRow 0 5 1 v vals.length vals∧vals.length=l.length∧v.ownBlock≠some g∧(∀ k,v.ownBlock=some k→B.M k)∧(∀ k o,v.ownBlock=some k→¬ C.F k o):=by
  rcases hd with⟨rfl,rfl,_⟩|⟨id2,rfl,h2,h3,_⟩
  ·cases hv
   exact⟨[],World.ownsRow_nil _ _ _ _,rfl,by simp[Value.ownBlock],by simp[Value.ownBlock],by simp[Value.ownBlock]⟩
  ·cases hv with
   | own _ _ c A hl2 hm2 hσ2 =>
    obtain⟨_,vals,q1,q2,q3,q4⟩:=hH.rep id2 _ h2
    rw[hσ2] at q1
    have hvl:vals.length=l.length:=by have:=q1.1;simpa using this
    refine⟨vals,by rw[hvl];simpa using q1,hvl,fun e=>?_,fun k hk=>hH.own id2 _ h2 k (by rw[hσ2,blockOf_own];exact hk),fun k o hk hF'=>?_⟩
    ·exact hH.apart id2 id _ _ h2 hid h3 g (by rw[hσ2,blockOf_own];exact e) (by rw[hσ];rfl)
    ·have:=((q4 k (by rw[hσ2];exact hk)).1 o hF').1;cases this
 have hssz:(⟨s.toArray⟩:ByteArray).size=s.length:=bsize s
 refine(writeStr g v vals ⟨s.toArray⟩ w hB hown hvne (by rw[hvals,hssz];exact hlen)).mono ?_
 rintro e w' ⟨rfl,v',e1,e2,e3,e4,e5⟩
 rw[hssz,hvals] at e2
 have hbel:BelM B.M w w':=⟨e5.os,e5.tape,e5.output,e5.size,fun k hk hm=>e5.block k hk (by
  rintro(h|h|h)
  ·omega
  ·exact hm (h ▸ hgM)
  ·exact hm (hvM k h))⟩
 -- outside the two blocks nothing has changed
 have hout:∀ k,k < w.heap.size→k≠g→v.ownBlock≠some k→w'.heap[k]? = w.heap[k]?:=fun k hk h1 h2=>e5.block k hk (by rintro(h|h|h);omega;exact h1 h;exact h2 h)
 have hFk:∀ b o,C.F b o→w'.heap[b]? = w.heap[b]?:=fun b o hb=>hout b (hF b o hb) (fun e=>hnoF o (e ▸ hb)) (fun e=>hvF b o e hb)
 have ee:=Cx.new_ext (C:=C) (w:=w) (w':=w') hn v' hFk
 have hs2:(C.new nid v').σ nid=v':=by simp[Cx.new,upd]
 have hσ':(C.new nid v').σ id=.pointer (some ⟨g,0,none⟩):=by rw[ee.σ id hlid];exact hσ
 obtain⟨A',c',rfl⟩:∃ A' c',v'=.slice A' (l.length+s.length) c':=by
  rcases e2.2 with⟨h1,h2⟩|⟨g',cap,cur,h1,_⟩
  ·exact⟨none,0,by rw[h1,h2]⟩
  ·exact⟨_,_,h1⟩
 have hlm:l.length+s.length≤maxLen:=by unfold maxLen;omega
 have hnewF:∀ k,(Value.slice A' (l.length+s.length) c').ownBlock=some k→∀ o,¬ C.F k o:=by
  intro k hk o hb
  rcases e4 with h|h
  ·have:=h k hk;have:=hF k o hb;omega
  ·exact hvF k o (h ▸ hk) hb
 -- the row's new block stands for the new list
 have hvec:∀ (q3:RepL (cF C.F) w vals ((l.map (D.int .u8)).flatMap D.cells)),BRep (C.new nid (.slice A' (l.length+s.length) c')) w' 0 nid (.vec 5 1 ((l++toI s).map (D.int .u8)) false):=by
  intro q3
  refine⟨vals++Lib.strCells ⟨s.toArray⟩,?_,flatU8_len _,?_,?_⟩
  ·rw[hs2];simpa[toI_length] using e2
  ·rw[List.map_append,List.flatMap_append]
   exact(q3.ext ee.cF).append (strCells_rep s)
  ·intro k hk
   rw[hs2] at hk
   exact⟨fun o ho=>absurd ho (hnewF k hk o),fun h=>by cases h⟩
 have hbox:BRep (C.new nid (.slice A' (l.length+s.length) c')) w' 0 id (.bbox 175 [.sp id,.own nid (l.length+s.length)]):=by
  refine⟨g,#[.pointer (some ⟨g,0,none⟩),.slice A' (l.length+s.length) c'],hσ',Nat.zero_le _,e1,?_,hnoF⟩
  have x1:Rep w' (C.new nid (.slice A' (l.length+s.length) c')) (.pointer (some ⟨g,0,none⟩)) (.sp id):=.sp1 id g (Or.inl hlid) hσ'
  have x2:Rep w' (C.new nid (.slice A' (l.length+s.length) c')) (.slice A' (l.length+s.length) c') (.own nid (l.length+s.length)):=.own nid _ c' A' (Or.inr rfl) hlm hs2
  exact(RepL.one1 rfl x1).append (RepL.one1 rfl x2)
 -- everything else is as it was
 have hrest:∀ j bj,j≠id→(∀ k,blockOf (C.σ j)=some k→v.ownBlock≠some k)→H j=some bj→(C.new nid (.slice A' (l.length+s.length) c')).live j∧BRep (C.new nid (.slice A' (l.length+s.length) c')) w' 0 j bj:=by
  intro j bj hj hv hb
  obtain⟨h1,h2⟩:=hH.rep j bj hb
  exact⟨.inl h1,h2.keep h1 ee (fun k hk=>hout k (h2.lt k hk).2 (fun e=>hH.apart j id _ _ hb hid hj k hk (by rw[hσ,e];rfl)) (hv k hk)) (fun k o _ h=>h)⟩
 have hrepr:Rep w' (C.new nid (.slice A' (l.length+s.length) c')) (.tuple #[.int .i64 ((⟨s.toArray⟩:ByteArray).size:Int),.nilIface]) (.tup [.int .i64 s.length,.err false]):=by
  rw[hssz]
  refine .tup [.int .i64 s.length,.nilIface] _ rfl ?_
  intro i v d hv hd
  match i with
  | 0=>simp at hv hd;subst hv hd;exact .int _ _ (by unfold inR;simp only[kLo,kHi];omega)
  | 1=>simp at hv hd;subst hv hd;exact .err0
  | i+2=>simp at hv
 have hdead:∀ b,H nid≠some b:=fun b hb=>hn (hH.rep nid b hb).1
 have hfin:∀ H',(∀ j,j≠id→j≠nid→∀ b,H' j=some b→H j=some b∧∀ k,blockOf (C.σ j)=some k→v.ownBlock≠some k)→H' nid=some (.vec 5 1 ((l++toI s).map (D.int .u8)) false)→H' id=some (.bbox 175 [.sp id,.own nid (l.length+s.length)]) →
   RepL (cF C.F) w vals ((l.map (D.int .u8)).flatMap D.cells)→HOK (C.new nid (.slice A' (l.length+s.length) c')) w' B H':=by
  intro H' hold hnew hnb q3
  have bσ:∀ j b,j≠id→j≠nid→H' j=some b→(C.new nid (.slice A' (l.length+s.length) c')).σ j=C.σ j:=fun j b h1 h2 h3=>ee.σ j (hH.rep j b (hold j h1 h2 b h3).1).1
  have bnid:∀ k,blockOf (Value.slice A' (l.length+s.length) c')=some k→w.heap.size≤k∨v.ownBlock=some k:=by
   intro k hk
   rw[blockOf_own] at hk
   rcases e4 with h|h
   ·exact .inl (h k hk)
   ·exact .inr (h ▸ hk)
  have apn:∀ j b,j≠id→j≠nid→H' j=some b→∀ k,blockOf (C.σ j)=some k→blockOf (Value.slice A' (l.length+s.length) c')≠some k:=by
   intro j b h1 h2 h3 k hk hk2
   obtain⟨h4,h5⟩:=hold j h1 h2 b h3
   rcases bnid k hk2 with h|h
   ·have:=((hH.rep j b h4).2.lt k hk).2;omega
   ·exact h5 k hk h
  have apb:∀ j b,j≠id→j≠nid→H' j=some b→∀ k,blockOf (C.σ j)=some k→k≠g:=by
   intro j b h1 h2 h3 k hk e
   exact hH.apart j id b _ (hold j h1 h2 b h3).1 hid h1 k hk (by rw[hσ,e];rfl)
  have apnb:∀ k,blockOf (Value.slice A' (l.length+s.length) c')=some k→k≠g:=by
   intro k hk e
   rcases bnid k hk with h|h
   ·omega
   ·exact hvne (e ▸ h)
  refine⟨fun j b hj=>?_,fun j b hj k hk=>?_,fun j k cs hj=>?_,fun j j' b b' hj hj' hjj k hk hk'=>?_⟩
  ·by_cases h1:j=id
   ·subst h1;rw[hnb] at hj;injection hj with hj;subst hj;exact⟨.inl hlid,hbox⟩
   ·by_cases h2:j=nid
    ·subst h2;rw[hnew] at hj;injection hj with hj;subst hj;exact⟨.inr rfl,hvec q3⟩
    ·obtain⟨h3,h4⟩:=hold j h1 h2 b hj
     exact hrest j b h1 h4 h3
  ·by_cases h1:j=id
   ·subst h1;rw[hσ'] at hk;simp[blockOf] at hk;subst hk;exact hgM
   ·by_cases h2:j=nid
    ·subst h2
     rw[hs2] at hk
     rcases bnid k hk with h|h
     ·exact hbase k h
     ·exact hvM k h
    ·rw[bσ j b h1 h2 hj] at hk
     exact hH.own j b (hold j h1 h2 b hj).1 k hk
  ·by_cases h1:j=id
   ·subst h1;rw[hnb] at hj;cases hj
   ·by_cases h2:j=nid
    ·subst h2;rw[hnew] at hj;cases hj
    ·rw[bσ j _ h1 h2 hj];exact hH.pin j k cs (hold j h1 h2 _ hj).1
  ·by_cases h1:j=id
   ·subst h1
    rw[hσ'] at hk;simp[blockOf] at hk;subst hk
    by_cases h2:j'=nid
    ·subst h2;rw[hs2] at hk';exact apnb _ hk' rfl
    ·rw[bσ j' b' (fun e=>hjj e.symm) h2 hj'] at hk'
     exact apb j' b' (fun e=>hjj e.symm) h2 hj' _ hk' rfl
   ·by_cases h2:j=nid
    ·subst h2
     rw[hs2] at hk
     by_cases h3:j'=id
     ·subst h3;rw[hσ'] at hk';simp[blockOf] at hk';subst hk';exact apnb _ hk rfl
     ·rw[bσ j' b' h3 (fun e=>hjj e.symm) hj'] at hk'
      exact apn j' b' h3 (fun e=>hjj e.symm) hj' k hk' hk
    ·rw[bσ j b h1 h2 hj] at hk
     by_cases h3:j'=id
     ·subst h3;rw[hσ'] at hk';simp[blockOf] at hk';subst hk';exact apb j b h1 h2 hj _ hk rfl
     ·by_cases h4:j'=nid
      ·subst h4;rw[hs2] at hk';exact apn j b h1 h2 hj k hk hk'
      ·rw[bσ j' b' h3 h4 hj'] at hk'
       exact hH.apart j j' b b' (hold j h1 h2 b hj).1 (hold j' h3 h4 b' hj').1 hjj k hk hk'
 refine⟨_,C.new nid (.slice A' (l.length+s.length) c'),rfl,hbel,ee,hrepr,?_,fun b o h=>Nat.lt_of_lt_of_le (hF b o h) e5.size,fun _ h=>h,fun _ _ h=>.inl h⟩
 rcases hd with⟨rfl,rfl,rfl⟩|⟨id2,rfl,h2,h3,rfl⟩
 ·cases hv
  have hvn:vals=[]:=List.eq_nil_of_length_eq_zero hvals
  refine hfin _ (fun j h1 h2 b hb=>?_) (by simp[appEff,upd,hne]) (by simp[appEff,upd]) (by rw[hvn];exact RepL.nil)
  simp[appEff,upd,h1,h2] at hb
  exact⟨hb,by simp[Value.ownBlock]⟩
 ·cases hv with
  | own _ _ c A hl2 hm2 hσ2 =>
   obtain⟨_,vals2,q1,q2,q3,q4⟩:=hH.rep id2 _ h2
   rw[hσ2] at q1
   have hn2:nid≠id2:=fun e=>hdead _ (e ▸ h2)
   have hvv:vals2=vals:=by
    rcases q1.2 with⟨r1,r2⟩|⟨g1,cap1,cur1,r1,r2,r3,r4,r5,r6,r7⟩
    ·have r2':l.length=0:=by simpa using r2
     rw[List.eq_nil_of_length_eq_zero (l:=vals) (by omega),List.eq_nil_of_length_eq_zero (l:=vals2) (by have:=q1.1;simp at this;omega)]
    ·rcases hown.2 with⟨t1,t2⟩|⟨g2,cap2,cur2,t1,t2,t3,t4,t5,t6,t7⟩
     ·rw[t1] at r1;cases r1
     ·rw[r1] at t1;injection t1 with t1 _ _;injection t1 with t1;injection t1 with t1
      subst t1
      rw[r3] at t3;injection t3 with t3;injection t3 with t3
      subst t3
      rw[← r7,← t7];simp[hvals]
   refine hfin _ (fun j h1 h2' b hb=>?_) (by simp[appEff,upd,hne]) (by simp[appEff,upd]) (by rw[← hvv];exact q3)
   by_cases hj2:j=id2
   ·subst hj2;simp[appEff,upd,h1,h2'] at hb
   ·simp[appEff,upd,h1,h2',hj2] at hb
    exact⟨hb,fun k hk hk2=>hH.apart j id2 _ _ hb h2 hj2 k hk (by rw[hσ2,blockOf_own];exact hk2)⟩
theorem c_WriteString0(I:World→Prop){id nid:Nat}{s:List UInt8}{H:Nat→Option Blk}(hid:H id=some (.bbox 175 [.sp id,.nils]))(hlen:s.length≤140737488355328)(hne:nid≠id) :
  CallOK Tryz.prog I 73 [.ptr id 0,.str s] H nid (.tup [.int .i64 s.length,.err false]) [(nid,some (.vec 5 1 ((toI s).map (D.int .u8)) false)),(id,some (.bbox 175 [.sp id,.own nid (toI s).length]))] :=
 wrote I id nid s [] H .nils _ hid (by simpa using hlen) hne (.inl ⟨rfl,rfl,by simp[toI_length]⟩)
theorem c_WriteString1(I:World→Prop){id nid id2 n:Nat}{s:List UInt8}{l:List Int}{H:Nat→Option Blk}(hid:H id=some (.bbox 175 [.sp id,.own id2 n]))(h2:H id2=some (.vec 5 1 (l.map (D.int .u8)) false))(hn:n=l.length)(hlen:l.length+s.length≤140737488355328)(hne:nid≠id) :
  CallOK Tryz.prog I 73 [.ptr id 0,.str s] H nid (.tup [.int .i64 s.length,.err false]) [(id2,none),(nid,some (.vec 5 1 ((l++toI s).map (D.int .u8)) false)),(id,some (.bbox 175 [.sp id,.own nid (l++toI s).length]))]:=by
 subst hn
 exact wrote I id nid s l H _ _ hid hlen hne (.inr ⟨id2,rfl,h2,fun e=>(by rw[e,hid] at h2;cases h2),by simp[toI_length]⟩)
set_option maxHeartbeats 2000000 in
theorem bldString_row(b g cap:Nat)(p:Value)(cur:Array Value)(l:List UInt8)(w:World)(h0:l≠[])(hbk:w.heap[b]? = some (.cells #[p,.slice (some ⟨g,0,none⟩) l.length cap] 175 (0,0)))
  (hown:w.ownsRow 0 5 1 (.slice (some ⟨g,0,none⟩) l.length cap) l.length (Lib.byteCells l)) :
  Calls Tryz.prog 74 #[.pointer (some ⟨b,0,none⟩)] w fun e w'=>e=.returned (.string ⟨l.toArray⟩)∧BelM (fun k=>w.heap.size≤k∨k=g) w w':=by
 have hl0:l.length≠0:=by simpa using h0
 obtain⟨cur,hg,hnc,hcm,hcs⟩:∃ cur,w.heap[g]? = some (.cells cur 5 (0,0))∧l.length≤cap∧cap≤maxLen∧cur.size=cap * 1:=by
  rcases hown.2 with⟨_,hz⟩|⟨g',cap',cur,hv,_,h1,h2,h3,h4,_⟩
  ·exact absurd hz hl0
  ·injection hv with hv1 _ hv2;injection hv1 with hv1;injection hv1 with hv1
   subst hv1 hv2;exact⟨cur,h1,h2,h3,h4⟩
 have c1:w.drew.cell? ⟨b,1,none⟩=some (.slice (some ⟨g,0,none⟩) l.length cap):=by
  have:w.drew.heap[b]? = some (.cells #[p,.slice (some ⟨g,0,none⟩) l.length cap] 175 (0,0)):=hbk
  rw[Lib.cell_of_heap this];rfl
 have hSD:(Builtin.unsafeSliceData_ #[173] 260 #[.slice (some ⟨g,0,none⟩) l.length cap]).run Tryz.prog w.drew=.ok (.pointer (some ⟨g,0,none⟩)) w.drew :=
  Lib.run_unsafeSliceData_row _ _ _ _ _ _ (by omega)
 have hUS:(Builtin.unsafeString_ #[260,3] 9 #[.pointer (some ⟨g,0,none⟩),.int .i64 l.length]).run Tryz.prog w.drew=.ok (.string ⟨l.toArray⟩) (w.drew.freeze ⟨g,0,none⟩ l.length):=by
  refine Lib.run_unsafeString_row w.drew 260 3 9 5 Tryz.underlying260 (by kernel_rfl) g cur.size (by have hg':w.drew.heap[g]? = some (.cells cur 5 (0,0)):=hg;simp[World.shape?,hg']) l h0 (by omega) (by unfold maxLen at hcm;omega) ?_
  intro j x hx
  exact hown.cells (g:=g) rfl j (.int .u8 x.toNat) (by simp[Lib.byteCells,hx])
 have mixed:Tryz.prog.follows .mixedOrders=true:=by kernel_rfl
 have hbf:=Lib.below_freeze (Below.drew (Below.refl g w)) (p:=⟨g,0,none⟩) (Nat.le_refl _) l.length
 have hoth:∀ k,k≠g→(w.drew.freeze ⟨g,0,none⟩ l.length).heap[k]? = w.heap[k]?:=by
  intro k hk
  simp only[World.freeze,hl0,if_false]
  rw[Array.getElem?_modify]
  simp only[Ne.symm hk,if_false]
  rfl
 have HB:=Lib.hid (And.intro hbf hoth)
 clear hbf hoth
 go_enter Tryz.func74,Tryz.ntmps74
 go_wp2
 go_region_o
 all_goals (go_wp2;go_ret;exact⟨rfl,HB.out.1.os,HB.out.1.tape,HB.out.1.output,HB.out.1.size,fun k _ hm=>HB.out.2 k (fun e=>hm (.inr e))⟩)
theorem callString{P:Program}{C:Cx}{w w':World}{B:Bx}{H:Nat→Option Blk}{nid:Nat}{l:List UInt8}(hH:HOK C w B H)(hF:FB C w)(hb:Below w.heap.size w w')(hl:l.length≤maxLen) :
  ∃ v C',Ending.returned (.string ⟨l.toArray⟩)=.returned v∧BelM B.M w w'∧Ext C w C' w'∧Rep w' C' v (.str l)∧HOK C' w' B (appEff H [])∧FB C' w'∧(∀ id,C'.live id→C.live id∨id=nid)∧∀ b o,C'.F b o→C.F b o∨B.M b:=by
 have ee:Ext C w C w':=⟨fun _ _ h=>h,fun b o h=>hb.block b (hF b o h),fun _ h=>h,fun _ _=>rfl⟩
 refine⟨_,C,rfl,BelM.of hb,ee,.str l hl,⟨fun id b h=>?_,hH.own,hH.pin,hH.apart⟩,fun b o h=>Nat.lt_of_lt_of_le (hF b o h) hb.size,fun _ h=>.inl h,fun _ _ h=>.inl h⟩
 obtain⟨k1,k2⟩:=hH.rep id b h
 exact⟨k1,k2.keep k1 ee (fun g hg=>hb.block g (k2.lt g hg).2) (fun _ _ _ h=>h)⟩
theorem c_String0(I:World→Prop){id nid:Nat}{H:Nat→Option Blk}(hid:H id=some (.bbox 175 [.sp id,.nils])):CallOK Tryz.prog I 74 [.ptr id 0] H nid (.str []) []:=by
 refine⟨by kernel_rfl,fun i0 w C B args hI hb0 hM hH hF hbase hn hal hrep=>?_⟩
 obtain⟨a0,rfl⟩:∃ a0,args=[a0]:=by
  match args,hal with
  | [a],_=>exact⟨a,rfl⟩
 have r0:=hrep 0 a0 _ rfl rfl
 cases r0 with
 | ptr _ _ g hlid hσ =>
 obtain⟨k0,k1⟩:=hH.rep id _ hid
 obtain⟨v,⟨p,hp,hB⟩,hv,hnoF⟩:=bld_block hσ k1
 cases hv
 have hglt:g < w.heap.size:=(Array.getElem?_eq_some_iff.1 hB).1
 refine(Any.Builder_String_nil Tryz.lays169 Tryz.Builder_Extra_169 w.heap.size g p w hB).mono ?_
 rintro e w' ⟨rfl,hb⟩
 exact callString (P:=Tryz.prog) (l:=[]) hH hF hb (by simp)
theorem byteCells_toI{w:World}{C:Cx}{vals:List Value}{l:List Int}(h:RepL C w vals ((l.map (D.int .u8)).flatMap D.cells)):vals=Lib.byteCells (bytesOf l):=by
 rw[flatU8] at h
 have e:=repU8 h
 rw[e]
 simp only[Lib.byteCells,bytesOf,List.map_map]
 apply List.map_congr_left
 intro n hn
 obtain⟨i,hi⟩:=List.getElem?_of_mem hn
 have hv:vals[i]? = some (.int .u8 n):=by rw[e];simp[hi]
 have:=h.rep i _ (.int .u8 n) hv (by simp[hi])
 cases this with
 | int _ _ hr =>
  unfold inR at hr;simp only[kLo,kHi] at hr
  simp only[Function.comp,UInt8.toNat_ofNat']
  congr 1;omega
theorem c_String1(I:World→Prop){id nid id2 n:Nat}{l:List Int}{H:Nat→Option Blk}(hid:H id=some (.bbox 175 [.sp id,.own id2 n]))(h2:H id2=some (.vec 5 1 (l.map (D.int .u8)) false))(hn:n=l.length) :
  CallOK Tryz.prog I 74 [.ptr id 0] H nid (.str (bytesOf l)) [(id2,none),(id,none)]:=by
 subst hn
 refine⟨by kernel_rfl,fun i0 w C B args hI hb0 hM hH hF hbase hn hal hrep=>?_⟩
 obtain⟨a0,rfl⟩:∃ a0,args=[a0]:=by
  match args,hal with
  | [a],_=>exact⟨a,rfl⟩
 have r0:=hrep 0 a0 _ rfl rfl
 cases r0 with
 | ptr _ _ g hlid hσ =>
 obtain⟨k0,k1⟩:=hH.rep id _ hid
 obtain⟨v,⟨p,hp,hB⟩,hv,hnoF⟩:=bld_block hσ k1
 have hdrop:HOK C w B (appEff H [(id2,none),(id,none)]):=(hH.drop id2).drop id
 have plain:∀ w',Below w.heap.size w w'→bytesOf l=[]→∃ v C',Ending.returned (.string ⟨#[]⟩)=.returned v∧BelM B.M w w'∧Ext C w C' w'∧Rep w' C' v (.str (bytesOf l))∧HOK C' w' B (appEff H [(id2,none),(id,none)])∧FB C' w'∧(∀ id,C'.live id→C.live id∨id=nid)∧∀ b o,C'.F b o→C.F b o∨B.M b:=by
  intro w' hb he
  rw[he]
  obtain⟨v,C',x⟩:=callString (P:=Tryz.prog) (l:=[]) (nid:=nid) hdrop hF hb (by simp)
  exact⟨v,C',x⟩
 cases hv with
 | own _ _ c A hl2 hm2 hσ2 =>
  obtain⟨_,vals,q1,q2,q3,q4⟩:=hH.rep id2 _ h2
  rw[hσ2] at q1
  have hvals:=byteCells_toI q3
  have hbl:(bytesOf l).length=l.length:=by simp[bytesOf]
  rcases q1.2 with⟨r1,r2⟩|⟨g1,cap1,cur1,r1,r2,r3,r4,r5,r6,r7⟩
  ·injection r1 with r1 _ r3
   subst r1 r3
   have hl0:l.length=0:=by simpa using r2
   rw[hl0] at hB
   refine(Any.Builder_String_nil Tryz.lays169 Tryz.Builder_Extra_169 w.heap.size g p w hB).mono ?_
   rintro e w' ⟨rfl,hb⟩
   exact plain w' hb (List.eq_nil_of_length_eq_zero (by omega))
  ·injection r1 with r1 _ r8
   subst r1 r8
   by_cases hl0:l.length=0
   ·rw[hl0] at hB
    by_cases hc0:c=0
    ·subst hc0
     refine(Any.Builder_String_noroom Tryz.lays169 Tryz.Builder_Extra_169 w.heap.size g g1 p cur1 w (Nat.le_refl _) hB r3).mono ?_
     rintro e w' ⟨rfl,hb⟩
     exact plain w' hb (List.eq_nil_of_length_eq_zero (by omega))
    ·refine(Any.Builder_String_room Tryz.lays169 Tryz.Builder_Extra_169 w.heap.size g g1 c p w hc0 hB).mono ?_
     rintro e w' ⟨rfl,hb⟩
     exact plain w' hb (List.eq_nil_of_length_eq_zero (by omega))
   ·have hb1:w.heap[g]? = some (.cells #[p,.slice (some ⟨g1,0,none⟩) (bytesOf l).length c] 175 (0,0)):=by rw[hbl];exact hB
    have ho1:w.ownsRow 0 5 1 (.slice (some ⟨g1,0,none⟩) (bytesOf l).length c) (bytesOf l).length (Lib.byteCells (bytesOf l)):=by rw[hbl,← hvals];simpa using q1
    refine(bldString_row g g1 c p cur1 (bytesOf l) w (fun e=>hl0 (by rw[← hbl,e];rfl)) hb1 ho1).mono ?_
    rintro e w' ⟨rfl,hb⟩
    have hg1M:B.M g1:=hH.own id2 _ h2 g1 (by rw[hσ2];rfl)
    have hnoF1:∀ o,¬ C.F g1 o:=fun o ho=>by have:=((q4 g1 (by rw[hσ2];rfl)).1 o ho).1;cases this
    have hsame:∀ k,k < w.heap.size→k≠g1→w'.heap[k]? = w.heap[k]?:=fun k hk h1=>hb.block k hk (by rintro(h|h);omega;exact h1 h)
    have ee:Ext C w C w':=⟨fun _ _ h=>h,fun b o h=>hsame b (hF b o h) (fun e=>hnoF1 o (e ▸ h)),fun _ h=>h,fun _ _=>rfl⟩
    have hbm:BelM B.M w w':=⟨hb.os,hb.tape,hb.output,hb.size,fun k hk hm=>hsame k hk (fun e=>hm (e ▸ hg1M))⟩
    refine⟨_,C,rfl,hbm,ee,.str _ (by rw[hbl];exact hm2),⟨fun j b h=>?_,hdrop.own,hdrop.pin,hdrop.apart⟩,fun b o h=>Nat.lt_of_lt_of_le (hF b o h) hb.size,fun _ h=>.inl h,fun _ _ h=>.inl h⟩
    by_cases h3:j=id
    ·subst h3;simp[appEff,upd] at h
    ·by_cases h4:j=id2
     ·subst h4;simp[appEff,upd,h3] at h
     ·have h5:H j=some b:=by simpa[appEff,upd,h3,h4] using h
      obtain⟨t1,t2⟩:=hH.rep j b h5
      exact⟨t1,t2.keep t1 ee (fun k hk=>hsame k (t2.lt k hk).2 (fun e=>hH.apart j id2 _ _ h5 h2 h4 k hk (by rw[hσ2,e];rfl))) (fun _ _ _ h=>h)⟩
theorem a_Join(I:World→Prop)(l:List (List UInt8))(sep:List UInt8)(hne:l≠[])(h1:l.length≤140737488355328)(h2:(Lib.join l sep).length≤140737488355328):AFun Tryz.prog I 34 [.sl (l.map D.str),.str sep] (.str (Lib.join l sep)):=by
 refine AFun.of_calls (v:=.string ⟨(Lib.join l sep).toArray⟩) (by kernel_rfl) (fun w F=>.str _ (by unfold maxLen;omega)) ?_
 intro w F args hI hfb hl hr
 match args,hl with
 | [v1,v2],_ =>
  obtain⟨rfl,_⟩:=rep_str1 (hr 1 v2 _ rfl rfl)
  have hv:=hr 0 v1 _ rfl rfl
  generalize hxs:l.map D.str=xs at hv
  cases hv with
  | sl0 A c hm=>exact absurd (List.map_eq_nil_iff.1 hxs) hne
  | sl b off k c _ vals hc hm hk hlv hone hF hcell hrep =>
   subst hxs
   rw[flat_strs] at hlv hrep
   have hpos:0 < vals.length:=by rw[hlv,List.length_map];exact List.length_pos_iff.2 hne
   have hb:b < w.heap.size:=hfb b (off+0) (hF 0 hpos)
   have hmm:(l.map fun s=>(⟨s.toArray⟩:ByteArray)).map (·.data.toList)=l:=by rw[List.map_map];exact List.map_id'' (fun s=>by simp) l
   have:=Tryz.strings_Join b off c (l.map fun s=>(⟨s.toArray⟩:ByteArray)) ⟨sep.toArray⟩ w (fun j x hx=>by
    simp only[List.getElem?_map] at hx
    cases hj:l[j]? with
    | none=>rw[hj] at hx;simp at hx
    | some s =>
     rw[hj] at hx
     simp at hx
     subst hx
     have hjl:j < vals.length:=by rw[hlv,List.length_map];exact(List.getElem?_eq_some_iff.1 hj).1
     have hv:=hrep j _ (.str s) (List.getElem?_eq_getElem hjl) (by simp[hj])
     obtain⟨hv,_⟩:=rep_str1 hv
     rw[hcell j _ (List.getElem?_eq_getElem hjl),hv]) hb (by simpa using h1) (by simpa using hc) (by rw[hmm];exact h2)
   rw[hmm] at this
   simpa using this
def g_strings_Join(l:List (List UInt8))(sep:List UInt8):Option (List UInt8):=if l.length≤140737488355328∧(Lib.join l sep).length≤140737488355328 then some (Lib.join l sep) else none
theorem a_strings_Join(I:World→Prop)(hI:Stab I)(l:List (List UInt8))(sep:List UInt8){r:List UInt8}(h:g_strings_Join l sep=some r):AFun Tryz.prog I 34 [.sl (l.map D.str),.str sep] (.str r):=by
 unfold g_strings_Join at h
 obtain⟨hc,h⟩:=ite_on h
 obtain rfl:=Option.some.inj h
 by_cases hne:l=[]
 ·subst hne
  refine AFun.of_calls (v:=.string ⟨#[]⟩) (by kernel_rfl) (fun w F=>?_) ?_
  ·have:(Lib.join ([]:List (List UInt8)) sep)=[]:=rfl
   rw[this]
   exact .str [] (by simp)
  ·intro w F args hI hfb hl hr
   match args,hl with
   | [v1,v2],_ =>
    obtain⟨rfl,_⟩:=rep_str1 (hr 1 v2 _ rfl rfl)
    have hv:=hr 0 v1 _ rfl rfl
    simp only[List.map_nil] at hv
    cases hv with
    | sl0 A c hm =>
     refine(Tryz.strings_Join_none A c _ w).mono ?_
     rintro e w' ⟨rfl,rfl⟩
     exact⟨rfl,Below.refl _ _⟩
    | sl b off k c _ vals hc hm hk hlv hone hF hcell hrep =>
     refine(Tryz.strings_Join_none _ c _ w).mono ?_
     rintro e w' ⟨rfl,rfl⟩
     exact⟨rfl,Below.refl _ _⟩
 ·exact a_Join I l sep hne hc.1 hc.2
set_option maxHeartbeats 10000000
structure T_arr6_Int where
 a0:Int
 a1:Int
 a2:Int
 a3:Int
 a4:Int
 a5:Int
 deriving DecidableEq
def T_arr6_Int.d(x:T_arr6_Int):D:=.agg [.int .i64 x.a0,.int .i64 x.a1,.int .i64 x.a2,.int .i64 x.a3,.int .i64 x.a4,.int .i64 x.a5]
structure T_api_Penalties where
 Strength:T_arr6_Int
 Ragged:Int
 Row:Int
 Event:Int
 Fast:Int
 Gap:Int
 Shot:Int
 deriving DecidableEq
def T_api_Penalties.d(x:T_api_Penalties):D:=.agg [.int .i64 x.Strength.a0,.int .i64 x.Strength.a1,.int .i64 x.Strength.a2,.int .i64 x.Strength.a3,.int .i64 x.Strength.a4,.int .i64 x.Strength.a5,.int .i64 x.Ragged,.int .i64 x.Row,.int .i64 x.Event,.int .i64 x.Fast,.int .i64 x.Gap,.int .i64 x.Shot]
structure T_api_Token where
 Text:List UInt8
 Strength:Int
 deriving DecidableEq
def T_api_Token.d(x:T_api_Token):D:=.agg [.str x.Text,.int .i64 x.Strength]
theorem dd_EA:(∀ x,T_arr6_Int.d x=.agg [.int .i64 x.a0,.int .i64 x.a1,.int .i64 x.a2,.int .i64 x.a3,.int .i64 x.a4,.int .i64 x.a5])∧(∀ x,T_api_Penalties.d x=.agg [.int .i64 x.Strength.a0,.int .i64 x.Strength.a1,.int .i64 x.Strength.a2,.int .i64 x.Strength.a3,.int .i64 x.Strength.a4,.int .i64 x.Strength.a5,.int .i64 x.Ragged,.int .i64 x.Row,.int .i64 x.Event,.int .i64 x.Fast,.int .i64 x.Gap,.int .i64 x.Shot])∧(∀ x,T_api_Token.d x=.agg [.str x.Text,.int .i64 x.Strength]):=⟨fun _=>rfl,fun _=>rfl,fun _=>rfl⟩
def g_charset_place_s1(s_0:List UInt8)(r_1:Int)(x7:Int × Nat):Option (Nx (Int × Nat) (Int ⊕ Unit)) :=
 (if(decide (x7.2 < s_0.length)) then(if((runeAt s_0 x7.2) == r_1) then(some (.out (.inl x7.1))) else(some (.go ((IntKind.i64.wrap (x7.1+1)),(x7.2+widthAt s_0 x7.2))))) else(some (.out (.inr ()))))
def g_charset_place(s_0:List UInt8)(r_1:Int):Option (Int) :=
 ((iter (g_charset_place_s1 s_0 r_1) (0,0)).bind fun e8=>(match e8 with|Sum.inl e8=>(some e8)|Sum.inr (e8)=>(some (-1))))
theorem a_charset_place{I:World→Prop}(hI:Stab I){s_0:List UInt8}{r_1:Int}{r:Int}(h:g_charset_place s_0 r_1=some r):AFun Tryz.prog I 159 [.str s_0,.int .i32 r_1] (.int .i64 r):=by
 have dd:=dd_EA;have k:=True.intro;have q:=k;have rs:=Tryz.results159
 unfold g_charset_place at h
 refine .en hI Tryz.func159 Tryz.ntmps159 ?_
 refine xs<|rz ?_
 refine es<|xs<|rz ?_
 refine es<|xs<|xs<|rz ?_
 refine es<|xb ?_
 obtain⟨e8,h33,h⟩:=bs h
 refine rb_loop (fun x7=>⟨envL [(1,.int .i32 r_1),(5,.int .i64 x7.1),(9,.ptr 0 0)],heapL [(0,.iter s_0 x7.2)],1,19⟩) (fun w=>match w with|Sum.inl _=>.ret|Sum.inr (_)=>.exit 0) (fun w=>match w with|Sum.inl e8=>⟨envL [(4,.int .i64 e8)],heapL [],0,19⟩|Sum.inr (e8)=>⟨envL [],heapL [],0,19⟩) h33 (wk [(0,some 3)]) (by intro w;rcases w with w|w<;>simp) ?_ ?_
 ·clear h
  intro x7 y h
  unfold g_charset_place_s1 at h
  refine xs<|rK fun K23 RK23 hK23 gK23=>zz ?_
  rcases iK k h with⟨k,h⟩|⟨k,h⟩
  ·have k:=And.intro (of_decide_eq_true k.1) k.2
   refine zz ?_
   subst hK23 gK23
   refine es<|xs<|xt<|xk<|es<|xb<|xs<|rz ?_
   refine es<|xs<|xs<|rz ?_
   refine es ?_
   rcases iK k h with⟨k,h⟩|⟨k,h⟩
   ·refine xt<|xs<|rz ?_
    refine es<|xr<|er<|br ?_
    cases h
    exact en ⟨rfl,wk []⟩
   ·refine xf<|xk<|es<|rz ?_
    refine bn ?_
    cases h
    exact en ⟨rfl,wk []⟩
  ·have k:=And.intro (of_decide_eq_false k.1) k.2
   refine zz ?_
   subst hK23 gK23
   refine es<|xs<|xf<|xx<|ee ?_
   cases h
   exact en ⟨rfl,wk []⟩
 ·rcases e8 with e8|e8
  ·try dsimp only at h ⊢
   refine br<|er ?_
   cases h
   exact en fr
  ·try dsimp only at h ⊢
   refine bh<|es<|xs<|rz ?_
   refine es<|xr ?_
   cases h
   exact en fr
def g_charset_Index(r_0:Int):Option (Int) :=
 (((if(decide (32≤r_0)) then(some (decide (r_0≤126))) else(some false)):Option (Bool)).bind fun v5=>(if v5 then(some (IntKind.i64.wrap (IntKind.i32.wrap (r_0 - 32)))) else((g_charset_place [32,33,34,35,36,37,38,39,40,41,42,43,44,45,46,47,48,49,50,51,52,53,54,55,56,57,58,59,60,61,62,63,64,65,66,67,68,69,70,71,72,73,74,75,76,77,78,79,80,81,82,83,84,85,86,87,88,89,90,91,92,93,94,95,96,97,98,99,100,101,102,103,104,105,106,107,108,109,110,111,112,113,114,115,116,117,118,119,120,121,122,123,124,125,126,194,161,194,162,194,163,194,164,194,165,194,166,194,167,194,169,194,171,194,174,194,176,194,183,194,187,194,189,194,191,195,128,195,129,195,130,195,131,195,132,195,133,195,134,195,135,195,136,195,137,195,138,195,139,195,140,195,141,195,142,195,143,195,145,195,146,195,147,195,148,195,149,195,150,195,152,195,153,195,154,195,155,195,156,195,159,195,160,195,161,195,162,195,163,195,164,195,165,195,166,195,167,195,168,195,169,195,170,195,171,195,172,195,173,195,174,195,175,195,177,195,178,195,179,195,180,195,181,195,182,195,184,195,185,195,186,195,187,195,188,197,146,197,147,226,128,148,226,128,152,226,128,153,226,128,156,226,128,157,226,128,162,226,128,166,226,132,162,226,153,170] r_0).bind fun r16=>(some r16))))
theorem a_charset_Index{I:World→Prop}(hI:Stab I){r_0:Int}{r:Int}(h:g_charset_Index r_0=some r):AFun Tryz.prog I 80 [.int .i32 r_0] (.int .i64 r):=by
 have dd:=dd_EA;have k:=True.intro;have q:=k;have rs:=Tryz.results80
 unfold g_charset_Index at h
 refine .en hI Tryz.func80 Tryz.ntmps80 ?_
 refine xs<|rz ?_
 refine es<|xs ?_
 obtain⟨v5,h8,h⟩:=bs h
 refine rb_cut (fun v5=>⟨envL [(0,.int .i32 r_0),(8,.bool v5)],heapL [],0,14⟩) h8 ?_ ?_
 ·clear h
  intro v5 h
  refine rK fun K6 RK6 hK6 gK6=>zz ?_
  rcases iK k h with⟨k,h⟩|⟨k,h⟩
  ·refine zz ?_
   subst hK6 gK6
   cases h
   exact en ⟨rfl,wk []⟩
  ·refine zz ?_
   subst hK6 gK6
   cases h
   exact en ⟨rfl,wk []⟩
 ·rcases iK k h with⟨k,h⟩|⟨k,h⟩
  ·refine xt<|xs<|rz ?_
   refine es<|xr<|er ?_
   cases h
   exact en fr
  ·refine xf<|xk<|es<|xs<|rK fun K15 RK15 hK15 gK15=>zz ?_
   obtain⟨r16,h17,h⟩:=bs h
   refine cw (a_charset_place hI h17)<|zz ?_
   subst hK15 gK15
   refine es<|xr ?_
   cases h
   exact en fr
def g_charset_Valid_s1(s_0:List UInt8)(x12:Nat):Option (Nx (Nat) (Unit ⊕ Unit)) :=
 (if(decide (x12 < s_0.length)) then((g_charset_Index (runeAt s_0 x12)).bind fun r39=>(if(decide (r39 < 0)) then(some (.out (.inl ()))) else(some (.go (x12+widthAt s_0 x12))))) else(some (.out (.inr ()))))
def g_charset_Valid(s_0:List UInt8):Option (Bool) :=
 ((g_unicode_utf8_ValidString s_0).bind fun r7=>(if r7 then((iter (g_charset_Valid_s1 s_0) 0).bind fun e13=>(match e13 with|Sum.inl e13=>(some false)|Sum.inr (e13)=>(some true))) else(some false)))
theorem a_charset_Valid{I:World→Prop}(hI:Stab I)(hU8T:∀ w,I w→U8T w){s_0:List UInt8}{r:Bool}(h:g_charset_Valid s_0=some r):AFun Tryz.prog I 23 [.str s_0] (.bool r):=by
 have dd:=dd_EA;have k:=True.intro;have q:=k;have rs:=Tryz.results23
 unfold g_charset_Valid at h
 refine .en hI Tryz.func23 Tryz.ntmps23 ?_
 refine xs<|rz ?_
 refine es<|xs<|xs<|rK fun K6 RK6 hK6 gK6=>zz ?_
 obtain⟨r7,h8,h⟩:=bs h
 refine cw (a_unicode_utf8_ValidString I hI hU8T s_0 h8)<|zz ?_
 subst hK6 gK6
 refine es ?_
 rcases iK k h with⟨k,h⟩|⟨k,h⟩
 ·refine xf<|xk<|es<|xs<|xs<|rz ?_
  refine es<|xb ?_
  obtain⟨e13,h44,h⟩:=bs h
  refine rb_loop (fun x12=>⟨envL [(9,.ptr 0 0)],heapL [(0,.iter s_0 x12)],1,16⟩) (fun w=>match w with|Sum.inl _=>.ret|Sum.inr (_)=>.exit 0) (fun w=>match w with|Sum.inl e13=>⟨envL [(2,.bool false)],heapL [],0,16⟩|Sum.inr (e13)=>⟨envL [],heapL [],0,16⟩) h44 (wk [(0,some 5)]) (by intro w;rcases w with w|w<;>simp) ?_ ?_
  ·clear h
   intro x12 y h
   unfold g_charset_Valid_s1 at h
   refine xs<|rK fun K31 RK31 hK31 gK31=>zz ?_
   rcases iK k h with⟨k,h⟩|⟨k,h⟩
   ·have k:=And.intro (of_decide_eq_true k.1) k.2
    refine zz ?_
    subst hK31 gK31
    refine es<|xs<|xt<|xk<|es<|xb<|xs<|rz ?_
    refine es<|xs<|rK fun K38 RK38 hK38 gK38=>zz ?_
    obtain⟨r39,h40,h⟩:=bs h
    refine cw (a_charset_Index hI h40)<|zz ?_
    subst hK38 gK38
    refine es ?_
    rcases iK k h with⟨k,h⟩|⟨k,h⟩
    ·refine xt<|xs<|rz ?_
     refine es<|xr<|br ?_
     cases h
     exact en ⟨rfl,wk []⟩
    ·refine xf<|xk<|bn ?_
     cases h
     exact en ⟨rfl,wk []⟩
   ·have k:=And.intro (of_decide_eq_false k.1) k.2
    refine zz ?_
    subst hK31 gK31
    refine es<|xs<|xf<|xx<|ee ?_
    cases h
    exact en ⟨rfl,wk []⟩
  ·rcases e13 with e13|e13
   ·try dsimp only at h ⊢
    refine br<|er ?_
    cases h
    exact en fr
   ·try dsimp only at h ⊢
    refine bh<|es<|xs<|rz ?_
    refine es<|xr ?_
    cases h
    exact en fr
 ·refine xt<|xs<|rz ?_
  refine es<|xr<|er ?_
  cases h
  exact en fr
def g_charset_Len(s_0:List UInt8):Option (Int) :=
 ((g_charset_Valid s_0).bind fun r7=>(if r7 then((g_unicode_utf8_RuneCountInString s_0).bind fun r14=>(some r14)) else(some (-1))))
theorem a_charset_Len{I:World→Prop}(hI:Stab I)(hU8T:∀ w,I w→U8T w){s_0:List UInt8}{r:Int}(h:g_charset_Len s_0=some r):AFun Tryz.prog I 33 [.str s_0] (.int .i64 r):=by
 have dd:=dd_EA;have k:=True.intro;have q:=k;have rs:=Tryz.results33
 unfold g_charset_Len at h
 refine .en hI Tryz.func33 Tryz.ntmps33 ?_
 refine xs<|rz ?_
 refine es<|xs<|xs<|rK fun K6 RK6 hK6 gK6=>zz ?_
 obtain⟨r7,h8,h⟩:=bs h
 refine cw (a_charset_Valid hI hU8T h8)<|zz ?_
 subst hK6 gK6
 refine es ?_
 rcases iK k h with⟨k,h⟩|⟨k,h⟩
 ·refine xf<|xk<|es<|xs<|rK fun K13 RK13 hK13 gK13=>zz ?_
  obtain⟨r14,h15,h⟩:=bs h
  refine cw (a_unicode_utf8_RuneCountInString I hI s_0 h15)<|zz ?_
  subst hK13 gK13
  refine es<|xr ?_
  cases h
  exact en fr
 ·refine xt<|xs<|rz ?_
  refine es<|xr<|er ?_
  cases h
  exact en fr
def g_penalty_numbers(t_0:T_api_Penalties):Option ((List Int)) :=
 (some ([t_0.Strength.a0,t_0.Strength.a1,t_0.Strength.a2,t_0.Strength.a3,t_0.Strength.a4,t_0.Strength.a5]++[t_0.Ragged,t_0.Row,t_0.Event,t_0.Fast,t_0.Gap,t_0.Shot]))
theorem a_penalty_numbers{I:World→Prop}(hI:Stab I){t_0:T_api_Penalties}{r:(List Int)}(h:g_penalty_numbers t_0=some r):AFun Tryz.prog I 165 [T_api_Penalties.d t_0] (.sl (r.map (D.int .i64))):=by
 have dd:=dd_EA;have k:=True.intro;have q:=k;have rs:=Tryz.results165
 unfold g_penalty_numbers at h
 refine .en hI Tryz.func165 Tryz.ntmps165 ?_
 refine xs<|rz ?_
 refine es<|xs<|rd hI ?_
 refine es<|xr ?_
 cases h
 exact en fr
def g_penalty_Check_s1(r7:(List Int))(x9:Int):Option (Nx (Int) (Unit ⊕ Unit)) :=
 (if(decide (x9 < (r7.length:Int))) then((atI r7 x9).bind fun y69=>(if(decide (y69 < 0)) then(some (.out (.inl ()))) else(if(decide (1000000 < y69)) then(some (.out (.inl ()))) else(some (.go (IntKind.i64.wrap (x9+1))))))) else(some (.out (.inr ()))))
def g_penalty_Check_s2(t_0:T_api_Penalties)(x84:Int):Option (Nx (Int) (Unit ⊕ Unit)) :=
 (if(decide (x84 < 6)) then(((if x84 == 0 then(if(IntKind.i64.wrap (x84 - 1)) == 0 then none else(if(IntKind.i64.wrap (x84 - 1)) == 1 then none else(if(IntKind.i64.wrap (x84 - 1)) == 2 then none else(if(IntKind.i64.wrap (x84 - 1)) == 3 then none else(if(IntKind.i64.wrap (x84 - 1)) == 4 then none else(if(IntKind.i64.wrap (x84 - 1)) == 5 then none else none)))))) else(if x84 == 1 then(if(IntKind.i64.wrap (x84 - 1)) == 0 then(if(decide (t_0.Strength.a0 < t_0.Strength.a1)) then(some (.out ())) else(some (.go ()))) else(if(IntKind.i64.wrap (x84 - 1)) == 1 then none else(if(IntKind.i64.wrap (x84 - 1)) == 2 then none else(if(IntKind.i64.wrap (x84 - 1)) == 3 then none else(if(IntKind.i64.wrap (x84 - 1)) == 4 then none else(if(IntKind.i64.wrap (x84 - 1)) == 5 then none else none)))))) else(if x84 == 2 then(if(IntKind.i64.wrap (x84 - 1)) == 0 then none else(if(IntKind.i64.wrap (x84 - 1)) == 1 then(if(decide (t_0.Strength.a1 < t_0.Strength.a2)) then(some (.out ())) else(some (.go ()))) else(if(IntKind.i64.wrap (x84 - 1)) == 2 then none else(if(IntKind.i64.wrap (x84 - 1)) == 3 then none else(if(IntKind.i64.wrap (x84 - 1)) == 4 then none else(if(IntKind.i64.wrap (x84 - 1)) == 5 then none else none)))))) else(if x84 == 3 then(if(IntKind.i64.wrap (x84 - 1)) == 0 then none else(if(IntKind.i64.wrap (x84 - 1)) == 1 then none else(if(IntKind.i64.wrap (x84 - 1)) == 2 then(if(decide (t_0.Strength.a2 < t_0.Strength.a3)) then(some (.out ())) else(some (.go ()))) else(if(IntKind.i64.wrap (x84 - 1)) == 3 then none else(if(IntKind.i64.wrap (x84 - 1)) == 4 then none else(if(IntKind.i64.wrap (x84 - 1)) == 5 then none else none)))))) else(if x84 == 4 then(if(IntKind.i64.wrap (x84 - 1)) == 0 then none else(if(IntKind.i64.wrap (x84 - 1)) == 1 then none else(if(IntKind.i64.wrap (x84 - 1)) == 2 then none else(if(IntKind.i64.wrap (x84 - 1)) == 3 then(if(decide (t_0.Strength.a3 < t_0.Strength.a4)) then(some (.out ())) else(some (.go ()))) else(if(IntKind.i64.wrap (x84 - 1)) == 4 then none else(if(IntKind.i64.wrap (x84 - 1)) == 5 then none else none)))))) else(if x84 == 5 then(if(IntKind.i64.wrap (x84 - 1)) == 0 then none else(if(IntKind.i64.wrap (x84 - 1)) == 1 then none else(if(IntKind.i64.wrap (x84 - 1)) == 2 then none else(if(IntKind.i64.wrap (x84 - 1)) == 3 then none else(if(IntKind.i64.wrap (x84 - 1)) == 4 then(if(decide (t_0.Strength.a4 < t_0.Strength.a5)) then(some (.out ())) else(some (.go ()))) else(if(IntKind.i64.wrap (x84 - 1)) == 5 then none else none)))))) else none)))))):Option (Nx (Unit) (Unit))).bind fun w503=>match w503 with|.go v400=>(some (.go (IntKind.i64.wrap (x84+1))))|.out e504=>(some (.out (.inl ())))) else(some (.out (.inr ()))))
def g_penalty_Check(t_0:T_api_Penalties):Option (Int) :=
 ((g_penalty_numbers t_0).bind fun r7=>((iter (g_penalty_Check_s1 r7) 0).bind fun e10=>(match e10 with|Sum.inl e10=>(some 2)|Sum.inr (e10)=>((iter (g_penalty_Check_s2 t_0) 1).bind fun e85=>(match e85 with|Sum.inl e85=>(some 8)|Sum.inr (e85)=>(some 0))))))
theorem a_penalty_Check{I:World→Prop}(hI:Stab I){t_0:T_api_Penalties}{r:Int}(h:g_penalty_Check t_0=some r):AFun Tryz.prog I 85 [T_api_Penalties.d t_0] (.int .i64 r):=by
 have dd:=dd_EA;have k:=True.intro;have q:=k;have rs:=Tryz.results85
 unfold g_penalty_Check at h
 refine .en hI Tryz.func85 Tryz.ntmps85 ?_
 refine xs<|rz ?_
 refine es<|xs<|xs<|rK fun K6 RK6 hK6 gK6=>zz ?_
 obtain⟨r7,h8,h⟩:=bs h
 refine cw (a_penalty_numbers hI h8)<|zz ?_
 subst hK6 gK6
 refine es<|xb ?_
 obtain⟨e10,h81,h⟩:=bs h
 refine rb_loop (fun x9=>⟨envL [(1,.iptr [.int .i64 t_0.Strength.a0,.int .i64 t_0.Strength.a1,.int .i64 t_0.Strength.a2,.int .i64 t_0.Strength.a3,.int .i64 t_0.Strength.a4,.int .i64 t_0.Strength.a5,.int .i64 t_0.Ragged,.int .i64 t_0.Row,.int .i64 t_0.Event,.int .i64 t_0.Fast,.int .i64 t_0.Gap,.int .i64 t_0.Shot]),(7,.sl (r7.map (D.int .i64))),(8,.int .i64 (r7.length:Int)),(9,.int .i64 x9)],heapL [],0,34⟩) (fun w=>match w with|Sum.inl _=>.ret|Sum.inr (_)=>.exit 0) (fun w=>match w with|Sum.inl e10=>⟨envL [(2,.int .i64 2)],heapL [],0,34⟩|Sum.inr (e10)=>⟨envL [(1,.iptr [.int .i64 t_0.Strength.a0,.int .i64 t_0.Strength.a1,.int .i64 t_0.Strength.a2,.int .i64 t_0.Strength.a3,.int .i64 t_0.Strength.a4,.int .i64 t_0.Strength.a5,.int .i64 t_0.Ragged,.int .i64 t_0.Row,.int .i64 t_0.Event,.int .i64 t_0.Fast,.int .i64 t_0.Gap,.int .i64 t_0.Shot])],heapL [],0,34⟩) h81 (wk []) (by intro w;rcases w with w|w<;>simp) ?_ ?_
 ·clear h
  intro x9 y h
  unfold g_penalty_Check_s1 at h
  refine xs<|rz ?_
  refine es<|xs ?_
  rcases iK k h with⟨k,h⟩|⟨k,h⟩
  ·refine xt<|xk<|es<|xs<|xb<|xs<|rK fun K68 RK68 hK68 gK68=>zz ?_
   obtain⟨y69,q,h⟩:=bK q h
   refine zz ?_
   subst hK68 gK68
   refine es<|xs<|rK fun K73 RK73 hK73 gK73=>zz ?_
   rcases iK k h with⟨k,h⟩|⟨k,h⟩
   ·refine zz ?_
    subst hK73 gK73
    refine es<|xt<|xs<|rz ?_
    refine es<|xr<|br<|er ?_
    cases h
    exact en ⟨rfl,wk []⟩
   ·refine zz ?_
    subst hK73 gK73
    refine es ?_
    rcases iK k h with⟨k,h⟩|⟨k,h⟩
    ·refine xt<|xs<|rz ?_
     refine es<|xr<|br<|er ?_
     cases h
     exact en ⟨rfl,wk []⟩
    ·refine xf<|xk<|bn<|es<|rz ?_
     cases h
     exact en ⟨rfl,wk []⟩
  ·refine xf<|xx<|ee ?_
   cases h
   exact en ⟨rfl,wk []⟩
 ·rcases e10 with e10|e10
  ·try dsimp only at h ⊢
   refine br<|er ?_
   cases h
   exact en fr
  ·try dsimp only at h ⊢
   refine bh<|es<|xs<|xs<|rz ?_
   refine es<|xb ?_
   obtain⟨e85,h506,h⟩:=bs h
   refine rb_loop (fun x84=>⟨envL [(1,.iptr [.int .i64 t_0.Strength.a0,.int .i64 t_0.Strength.a1,.int .i64 t_0.Strength.a2,.int .i64 t_0.Strength.a3,.int .i64 t_0.Strength.a4,.int .i64 t_0.Strength.a5,.int .i64 t_0.Ragged,.int .i64 t_0.Row,.int .i64 t_0.Event,.int .i64 t_0.Fast,.int .i64 t_0.Gap,.int .i64 t_0.Shot]),(5,.int .i64 x84)],heapL [],0,34⟩) (fun w=>match w with|Sum.inl _=>.ret|Sum.inr (_)=>.exit 2) (fun w=>match w with|Sum.inl e85=>⟨envL [(2,.int .i64 8)],heapL [],0,34⟩|Sum.inr (e85)=>⟨envL [],heapL [],0,34⟩) h506 (wk []) (by intro w;rcases w with w|w<;>simp) ?_ ?_
   ·clear h
    intro x84 y h
    unfold g_penalty_Check_s2 at h
    refine xs<|xs<|rz ?_
    refine es ?_
    rcases iK k h with⟨k,h⟩|⟨k,h⟩
    ·refine xt<|xk<|es ?_
     obtain⟨w503,h502,h⟩:=bs h
     refine rb_seg (fun v400=>⟨envL [(1,.iptr [.int .i64 t_0.Strength.a0,.int .i64 t_0.Strength.a1,.int .i64 t_0.Strength.a2,.int .i64 t_0.Strength.a3,.int .i64 t_0.Strength.a4,.int .i64 t_0.Strength.a5,.int .i64 t_0.Ragged,.int .i64 t_0.Row,.int .i64 t_0.Event,.int .i64 t_0.Fast,.int .i64 t_0.Gap,.int .i64 t_0.Shot]),(5,.int .i64 x84)],heapL [],0,34⟩) (fun _=>.ret) (fun e504=>⟨envL [(2,.int .i64 8)],heapL [],0,34⟩) h502 (by intro w;simp) ?_ ?_ ?_
     ·clear h
      intro w503 h
      refine xb<|xs<|rD hI fun K444 RK444 hK444 gK444=>zz ?_
      rcases ite_or h with⟨k445,h⟩|⟨_,h⟩
      ·have k:=And.intro (eq_of_beq k445) k
       refine zz ?_
       rcases ite_or h with⟨k446,h⟩|⟨_,h⟩
       ·have k:=And.intro (eq_of_beq k446) k
        cases h
       ·rcases ite_or h with⟨k447,h⟩|⟨_,h⟩
        ·have k:=And.intro (eq_of_beq k447) k
         cases h
        ·rcases ite_or h with⟨k448,h⟩|⟨_,h⟩
         ·have k:=And.intro (eq_of_beq k448) k
          cases h
         ·rcases ite_or h with⟨k449,h⟩|⟨_,h⟩
          ·have k:=And.intro (eq_of_beq k449) k
           cases h
          ·rcases ite_or h with⟨k450,h⟩|⟨_,h⟩
           ·have k:=And.intro (eq_of_beq k450) k
            cases h
           ·rcases ite_or h with⟨k451,h⟩|⟨_,h⟩
            ·have k:=And.intro (eq_of_beq k451) k
             cases h
            ·cases h
      ·rcases ite_or h with⟨k452,h⟩|⟨_,h⟩
       ·have k:=And.intro (eq_of_beq k452) k
        refine zz ?_
        rcases ite_or h with⟨k453,h⟩|⟨_,h⟩
        ·have k:=And.intro (eq_of_beq k453) k
         have k:=And.intro (show IntKind.i64.wrap 0=0 from by decide) k
         refine zz ?_
         subst hK444 gK444
         refine es ?_
         rcases iK k h with⟨k,h⟩|⟨k,h⟩
         ·refine xt<|xs<|rz ?_
          refine es<|xr<|br ?_
          cases h
          exact en ⟨rfl,wk []⟩
         ·refine xf<|xk<|bn ?_
          cases h
          exact en ⟨rfl,wk []⟩
        ·rcases ite_or h with⟨k457,h⟩|⟨_,h⟩
         ·have k:=And.intro (eq_of_beq k457) k
          cases h
         ·rcases ite_or h with⟨k458,h⟩|⟨_,h⟩
          ·have k:=And.intro (eq_of_beq k458) k
           cases h
          ·rcases ite_or h with⟨k459,h⟩|⟨_,h⟩
           ·have k:=And.intro (eq_of_beq k459) k
            cases h
           ·rcases ite_or h with⟨k460,h⟩|⟨_,h⟩
            ·have k:=And.intro (eq_of_beq k460) k
             cases h
            ·rcases ite_or h with⟨k461,h⟩|⟨_,h⟩
             ·have k:=And.intro (eq_of_beq k461) k
              cases h
             ·cases h
       ·rcases ite_or h with⟨k462,h⟩|⟨_,h⟩
        ·have k:=And.intro (eq_of_beq k462) k
         refine zz ?_
         rcases ite_or h with⟨k463,h⟩|⟨_,h⟩
         ·have k:=And.intro (eq_of_beq k463) k
          cases h
         ·rcases ite_or h with⟨k464,h⟩|⟨_,h⟩
          ·have k:=And.intro (eq_of_beq k464) k
           have k:=And.intro (show IntKind.i64.wrap 1=1 from by decide) k
           refine zz ?_
           subst hK444 gK444
           refine es ?_
           rcases iK k h with⟨k,h⟩|⟨k,h⟩
           ·refine xt<|xs<|rz ?_
            refine es<|xr<|br ?_
            cases h
            exact en ⟨rfl,wk []⟩
           ·refine xf<|xk<|bn ?_
            cases h
            exact en ⟨rfl,wk []⟩
          ·rcases ite_or h with⟨k468,h⟩|⟨_,h⟩
           ·have k:=And.intro (eq_of_beq k468) k
            cases h
           ·rcases ite_or h with⟨k469,h⟩|⟨_,h⟩
            ·have k:=And.intro (eq_of_beq k469) k
             cases h
            ·rcases ite_or h with⟨k470,h⟩|⟨_,h⟩
             ·have k:=And.intro (eq_of_beq k470) k
              cases h
             ·rcases ite_or h with⟨k471,h⟩|⟨_,h⟩
              ·have k:=And.intro (eq_of_beq k471) k
               cases h
              ·cases h
        ·rcases ite_or h with⟨k472,h⟩|⟨_,h⟩
         ·have k:=And.intro (eq_of_beq k472) k
          refine zz ?_
          rcases ite_or h with⟨k473,h⟩|⟨_,h⟩
          ·have k:=And.intro (eq_of_beq k473) k
           cases h
          ·rcases ite_or h with⟨k474,h⟩|⟨_,h⟩
           ·have k:=And.intro (eq_of_beq k474) k
            cases h
           ·rcases ite_or h with⟨k475,h⟩|⟨_,h⟩
            ·have k:=And.intro (eq_of_beq k475) k
             have k:=And.intro (show IntKind.i64.wrap 2=2 from by decide) k
             refine zz ?_
             subst hK444 gK444
             refine es ?_
             rcases iK k h with⟨k,h⟩|⟨k,h⟩
             ·refine xt<|xs<|rz ?_
              refine es<|xr<|br ?_
              cases h
              exact en ⟨rfl,wk []⟩
             ·refine xf<|xk<|bn ?_
              cases h
              exact en ⟨rfl,wk []⟩
            ·rcases ite_or h with⟨k479,h⟩|⟨_,h⟩
             ·have k:=And.intro (eq_of_beq k479) k
              cases h
             ·rcases ite_or h with⟨k480,h⟩|⟨_,h⟩
              ·have k:=And.intro (eq_of_beq k480) k
               cases h
              ·rcases ite_or h with⟨k481,h⟩|⟨_,h⟩
               ·have k:=And.intro (eq_of_beq k481) k
                cases h
               ·cases h
         ·rcases ite_or h with⟨k482,h⟩|⟨_,h⟩
          ·have k:=And.intro (eq_of_beq k482) k
           refine zz ?_
           rcases ite_or h with⟨k483,h⟩|⟨_,h⟩
           ·have k:=And.intro (eq_of_beq k483) k
            cases h
           ·rcases ite_or h with⟨k484,h⟩|⟨_,h⟩
            ·have k:=And.intro (eq_of_beq k484) k
             cases h
            ·rcases ite_or h with⟨k485,h⟩|⟨_,h⟩
             ·have k:=And.intro (eq_of_beq k485) k
              cases h
             ·rcases ite_or h with⟨k486,h⟩|⟨_,h⟩
              ·have k:=And.intro (eq_of_beq k486) k
               have k:=And.intro (show IntKind.i64.wrap 3=3 from by decide) k
               refine zz ?_
               subst hK444 gK444
               refine es ?_
               rcases iK k h with⟨k,h⟩|⟨k,h⟩
               ·refine xt<|xs<|rz ?_
                refine es<|xr<|br ?_
                cases h
                exact en ⟨rfl,wk []⟩
               ·refine xf<|xk<|bn ?_
                cases h
                exact en ⟨rfl,wk []⟩
              ·rcases ite_or h with⟨k490,h⟩|⟨_,h⟩
               ·have k:=And.intro (eq_of_beq k490) k
                cases h
               ·rcases ite_or h with⟨k491,h⟩|⟨_,h⟩
                ·have k:=And.intro (eq_of_beq k491) k
                 cases h
                ·cases h
          ·rcases ite_or h with⟨k492,h⟩|⟨_,h⟩
           ·have k:=And.intro (eq_of_beq k492) k
            refine zz ?_
            rcases ite_or h with⟨k493,h⟩|⟨_,h⟩
            ·have k:=And.intro (eq_of_beq k493) k
             cases h
            ·rcases ite_or h with⟨k494,h⟩|⟨_,h⟩
             ·have k:=And.intro (eq_of_beq k494) k
              cases h
             ·rcases ite_or h with⟨k495,h⟩|⟨_,h⟩
              ·have k:=And.intro (eq_of_beq k495) k
               cases h
              ·rcases ite_or h with⟨k496,h⟩|⟨_,h⟩
               ·have k:=And.intro (eq_of_beq k496) k
                cases h
               ·rcases ite_or h with⟨k497,h⟩|⟨_,h⟩
                ·have k:=And.intro (eq_of_beq k497) k
                 have k:=And.intro (show IntKind.i64.wrap 4=4 from by decide) k
                 refine zz ?_
                 subst hK444 gK444
                 refine es ?_
                 rcases iK k h with⟨k,h⟩|⟨k,h⟩
                 ·refine xt<|xs<|rz ?_
                  refine es<|xr<|br ?_
                  cases h
                  exact en ⟨rfl,wk []⟩
                 ·refine xf<|xk<|bn ?_
                  cases h
                  exact en ⟨rfl,wk []⟩
                ·rcases ite_or h with⟨k501,h⟩|⟨_,h⟩
                 ·have k:=And.intro (eq_of_beq k501) k
                  cases h
                 ·cases h
           ·cases h
     ·rintro v400 rfl
      dsimp only at h
      refine rz ?_
      cases h
      exact en ⟨rfl,wk []⟩
     ·rintro e504 rfl
      dsimp only at h
      cases h
      exact en ⟨rfl,wk []⟩
    ·refine xf<|xx<|ee ?_
     cases h
     exact en ⟨rfl,wk []⟩
   ·rcases e85 with e85|e85
    ·try dsimp only at h ⊢
     refine br<|er ?_
     cases h
     exact en fr
    ·try dsimp only at h ⊢
     refine bh<|es<|xs<|rz ?_
     refine es<|xr ?_
     cases h
     exact en fr
def g_penalty_up(a_0:Int)(b_1:Int):Option (Int) :=
 (if ¬ b_1=0 then(some (IntKind.i64.wrap (Int.tdiv (IntKind.i64.wrap ((IntKind.i64.wrap (a_0+b_1)) - 1)) b_1))) else none)
theorem a_penalty_up{I:World→Prop}(hI:Stab I){a_0:Int}{b_1:Int}{r:Int}(h:g_penalty_up a_0 b_1=some r):AFun Tryz.prog I 166 [.int .i64 a_0,.int .i64 b_1] (.int .i64 r):=by
 have dd:=dd_EA;have k:=True.intro;have q:=k;have rs:=Tryz.results166
 unfold g_penalty_up at h
 refine .en hI Tryz.func166 Tryz.ntmps166 ?_
 refine xs<|rz ?_
 refine es<|xs<|rK fun K4 RK4 hK4 gK4=>zz ?_
 obtain⟨q,h⟩:=oK q h
 refine zz ?_
 subst hK4 gK4
 refine es<|xr ?_
 cases h
 exact en fr
def g_penalty_Aim(total_0:Int)(width_1:Int):Option (Int × Int) :=
 (((if(decide (total_0 < 1)) then(some true) else(if(decide (10000 < total_0)) then(some true) else(if(decide (width_1 < 1)) then(some true) else(some (decide (32 < width_1)))))):Option (Bool)).bind fun v7=>(if v7 then(some (0,2)) else((g_penalty_up total_0 width_1).bind fun r22=>((g_penalty_up total_0 r22).bind fun r24=>(some (r24,0))))))
theorem a_penalty_Aim{I:World→Prop}(hI:Stab I){total_0:Int}{width_1:Int}{r:Int × Int}(h:g_penalty_Aim total_0 width_1=some r):AFun Tryz.prog I 86 [.int .i64 total_0,.int .i64 width_1] (.tup [.int .i64 r.1,.int .i64 r.2]):=by
 have dd:=dd_EA;have k:=True.intro;have q:=k;have rs:=Tryz.results86
 unfold g_penalty_Aim at h
 refine .en hI Tryz.func86 Tryz.ntmps86 ?_
 refine xs<|rz ?_
 refine es<|xs ?_
 obtain⟨v7,h12,h⟩:=bs h
 refine rb_cut (fun v7=>⟨envL [(0,.int .i64 total_0),(1,.int .i64 width_1),(19,.bool v7)],heapL [],0,25⟩) h12 ?_ ?_
 ·clear h
  intro v7 h
  refine rK fun K8 RK8 hK8 gK8=>zz ?_
  rcases iK k h with⟨k,h⟩|⟨k,h⟩
  ·refine zz ?_
   subst hK8 gK8
   cases h
   exact en ⟨rfl,wk []⟩
  ·refine zz ?_
   rcases iK k h with⟨k,h⟩|⟨k,h⟩
   ·refine zz ?_
    subst hK8 gK8
    cases h
    exact en ⟨rfl,wk []⟩
   ·refine zz ?_
    rcases iK k h with⟨k,h⟩|⟨k,h⟩
    ·refine zz ?_
     subst hK8 gK8
     cases h
     exact en ⟨rfl,wk []⟩
    ·refine zz ?_
     subst hK8 gK8
     cases h
     exact en ⟨rfl,wk []⟩
 ·rcases iK k h with⟨k,h⟩|⟨k,h⟩
  ·refine xt<|xs<|rz ?_
   refine es<|xr<|er ?_
   cases h
   exact en fr
  ·refine xf<|xk<|es<|xs<|rK fun K21 RK21 hK21 gK21=>zz ?_
   obtain⟨r22,h23,h⟩:=bs h
   refine cw (a_penalty_up hI h23)<|zz ?_
   obtain⟨r24,h25,h⟩:=bs h
   refine cw (a_penalty_up hI h25)<|zz ?_
   subst hK21 gK21
   refine es<|xr ?_
   cases h
   exact en fr
def g_penalty_within(n_0:Int)(lo_1:Int)(hi_2:Int):Option (Bool) :=
 (if(decide (lo_1≤n_0)) then(some (decide (n_0≤hi_2))) else(some false))
theorem a_penalty_within{I:World→Prop}(hI:Stab I){n_0:Int}{lo_1:Int}{hi_2:Int}{r:Bool}(h:g_penalty_within n_0 lo_1 hi_2=some r):AFun Tryz.prog I 167 [.int .i64 n_0,.int .i64 lo_1,.int .i64 hi_2] (.bool r):=by
 have dd:=dd_EA;have k:=True.intro;have q:=k;have rs:=Tryz.results167
 unfold g_penalty_within at h
 refine .en hI Tryz.func167 Tryz.ntmps167 ?_
 refine xs<|rz ?_
 refine es<|xs<|rK fun K5 RK5 hK5 gK5=>zz ?_
 rcases iK k h with⟨k,h⟩|⟨k,h⟩
 ·refine zz ?_
  subst hK5 gK5
  refine es<|xr ?_
  cases h
  exact en fr
 ·refine zz ?_
  subst hK5 gK5
  refine es<|xr ?_
  cases h
  exact en fr
def g_penalty_Row(t_0:T_api_Penalties)(aim_1:Int)(length_2:Int)(strength_3:Int):Option (Int × Int) :=
 ((g_penalty_Check t_0).bind fun r7=>(if(r7 != 0) then(some (0,r7)) else((((g_penalty_within aim_1 1 32).bind fun r25=>(if r25 then((g_penalty_within length_2 1 32).bind fun r28=>(if r28 then((g_penalty_within strength_3 (-1) 5).bind fun r31=>(some (!r31))) else(some true))) else(some true))):Option (Bool)).bind fun v23=>(if v23 then(some (0,2)) else(if(decide (0≤strength_3)) then(if strength_3 == 0 then(some ((IntKind.i64.wrap ((IntKind.i64.wrap (t_0.Row+(IntKind.i64.wrap (t_0.Ragged * (if(IntKind.i64.wrap (length_2 - aim_1)) > (IntKind.i64.wrap (aim_1 - length_2)) then(IntKind.i64.wrap (length_2 - aim_1)) else(IntKind.i64.wrap (aim_1 - length_2)))))))+t_0.Strength.a0)),0)) else(if strength_3 == 1 then(some ((IntKind.i64.wrap ((IntKind.i64.wrap (t_0.Row+(IntKind.i64.wrap (t_0.Ragged * (if(IntKind.i64.wrap (length_2 - aim_1)) > (IntKind.i64.wrap (aim_1 - length_2)) then(IntKind.i64.wrap (length_2 - aim_1)) else(IntKind.i64.wrap (aim_1 - length_2)))))))+t_0.Strength.a1)),0)) else(if strength_3 == 2 then(some ((IntKind.i64.wrap ((IntKind.i64.wrap (t_0.Row+(IntKind.i64.wrap (t_0.Ragged * (if(IntKind.i64.wrap (length_2 - aim_1)) > (IntKind.i64.wrap (aim_1 - length_2)) then(IntKind.i64.wrap (length_2 - aim_1)) else(IntKind.i64.wrap (aim_1 - length_2)))))))+t_0.Strength.a2)),0)) else(if strength_3 == 3 then(some ((IntKind.i64.wrap ((IntKind.i64.wrap (t_0.Row+(IntKind.i64.wrap (t_0.Ragged * (if(IntKind.i64.wrap (length_2 - aim_1)) > (IntKind.i64.wrap (aim_1 - length_2)) then(IntKind.i64.wrap (length_2 - aim_1)) else(IntKind.i64.wrap (aim_1 - length_2)))))))+t_0.Strength.a3)),0)) else(if strength_3 == 4 then(some ((IntKind.i64.wrap ((IntKind.i64.wrap (t_0.Row+(IntKind.i64.wrap (t_0.Ragged * (if(IntKind.i64.wrap (length_2 - aim_1)) > (IntKind.i64.wrap (aim_1 - length_2)) then(IntKind.i64.wrap (length_2 - aim_1)) else(IntKind.i64.wrap (aim_1 - length_2)))))))+t_0.Strength.a4)),0)) else(if strength_3 == 5 then(some ((IntKind.i64.wrap ((IntKind.i64.wrap (t_0.Row+(IntKind.i64.wrap (t_0.Ragged * (if(IntKind.i64.wrap (length_2 - aim_1)) > (IntKind.i64.wrap (aim_1 - length_2)) then(IntKind.i64.wrap (length_2 - aim_1)) else(IntKind.i64.wrap (aim_1 - length_2)))))))+t_0.Strength.a5)),0)) else none)))))) else(some ((IntKind.i64.wrap (t_0.Row+(IntKind.i64.wrap (t_0.Ragged * (if(IntKind.i64.wrap (length_2 - aim_1)) > (IntKind.i64.wrap (aim_1 - length_2)) then(IntKind.i64.wrap (length_2 - aim_1)) else(IntKind.i64.wrap (aim_1 - length_2))))))),0)))))))
theorem a_penalty_Row{I:World→Prop}(hI:Stab I){t_0:T_api_Penalties}{aim_1:Int}{length_2:Int}{strength_3:Int}{r:Int × Int}(h:g_penalty_Row t_0 aim_1 length_2 strength_3=some r):AFun Tryz.prog I 88 [T_api_Penalties.d t_0,.int .i64 aim_1,.int .i64 length_2,.int .i64 strength_3] (.tup [.int .i64 r.1,.int .i64 r.2]):=by
 have dd:=dd_EA;have k:=True.intro;have q:=k;have rs:=Tryz.results88
 unfold g_penalty_Row at h
 refine .en hI Tryz.func88 Tryz.ntmps88 ?_
 refine xs<|rz ?_
 refine es<|xs<|xs<|rK fun K6 RK6 hK6 gK6=>zz ?_
 obtain⟨r7,h8,h⟩:=bs h
 refine cw (a_penalty_Check hI h8)<|zz ?_
 subst hK6 gK6
 refine es<|xs<|rz ?_
 refine es ?_
 rcases iK k h with⟨k,h⟩|⟨k,h⟩
 ·refine xt<|xs<|rz ?_
  refine es<|xr<|er ?_
  cases h
  exact en fr
 ·refine xf<|xk<|es<|xs ?_
  obtain⟨v23,h33,h⟩:=bs h
  refine rb_cut (fun v23=>⟨envL [(1,.int .i64 aim_1),(2,.int .i64 length_2),(3,.int .i64 strength_3),(4,.iptr [.int .i64 t_0.Strength.a0,.int .i64 t_0.Strength.a1,.int .i64 t_0.Strength.a2,.int .i64 t_0.Strength.a3,.int .i64 t_0.Strength.a4,.int .i64 t_0.Strength.a5,.int .i64 t_0.Ragged,.int .i64 t_0.Row,.int .i64 t_0.Event,.int .i64 t_0.Fast,.int .i64 t_0.Gap,.int .i64 t_0.Shot]),(29,.bool v23)],heapL [],0,52⟩) h33 ?_ ?_
  ·clear h
   intro v23 h
   refine rK fun K24 RK24 hK24 gK24=>zz ?_
   obtain⟨r25,h26,h⟩:=bs h
   refine cw (a_penalty_within hI h26)<|zz ?_
   rcases iK k h with⟨k,h⟩|⟨k,h⟩
   ·refine zz ?_
    obtain⟨r28,h29,h⟩:=bs h
    refine cw (a_penalty_within hI h29)<|zz ?_
    rcases iK k h with⟨k,h⟩|⟨k,h⟩
    ·refine zz ?_
     obtain⟨r31,h32,h⟩:=bs h
     refine cw (a_penalty_within hI h32)<|zz ?_
     subst hK24 gK24
     cases h
     exact en ⟨rfl,wk []⟩
    ·refine zz ?_
     subst hK24 gK24
     cases h
     exact en ⟨rfl,wk []⟩
   ·refine zz ?_
    subst hK24 gK24
    cases h
    exact en ⟨rfl,wk []⟩
  ·rcases iK k h with⟨k,h⟩|⟨k,h⟩
   ·refine xt<|xs<|rz ?_
    refine es<|xr<|er ?_
    cases h
    exact en fr
   ·refine xf<|xk<|es<|xs<|rz ?_
    refine es<|xs<|xs<|rz ?_
    refine es ?_
    rcases iK k h with⟨k,h⟩|⟨k,h⟩
    ·refine xt<|rK fun K42 RK42 hK42 gK42=>zz ?_
     rcases ite_or h with⟨k43,h⟩|⟨_,h⟩
     ·have k:=And.intro (eq_of_beq k43) k
      refine zz ?_
      subst hK42 gK42
      refine es<|xs<|rz ?_
      refine es<|xr ?_
      cases h
      exact en fr
     ·rcases ite_or h with⟨k46,h⟩|⟨_,h⟩
      ·have k:=And.intro (eq_of_beq k46) k
       refine zz ?_
       subst hK42 gK42
       refine es<|xs<|rz ?_
       refine es<|xr ?_
       cases h
       exact en fr
      ·rcases ite_or h with⟨k49,h⟩|⟨_,h⟩
       ·have k:=And.intro (eq_of_beq k49) k
        refine zz ?_
        subst hK42 gK42
        refine es<|xs<|rz ?_
        refine es<|xr ?_
        cases h
        exact en fr
       ·rcases ite_or h with⟨k52,h⟩|⟨_,h⟩
        ·have k:=And.intro (eq_of_beq k52) k
         refine zz ?_
         subst hK42 gK42
         refine es<|xs<|rz ?_
         refine es<|xr ?_
         cases h
         exact en fr
        ·rcases ite_or h with⟨k55,h⟩|⟨_,h⟩
         ·have k:=And.intro (eq_of_beq k55) k
          refine zz ?_
          subst hK42 gK42
          refine es<|xs<|rz ?_
          refine es<|xr ?_
          cases h
          exact en fr
         ·rcases ite_or h with⟨k58,h⟩|⟨_,h⟩
          ·have k:=And.intro (eq_of_beq k58) k
           refine zz ?_
           subst hK42 gK42
           refine es<|xs<|rz ?_
           refine es<|xr ?_
           cases h
           exact en fr
          ·cases h
    ·refine xf<|xk<|es<|xs<|rz ?_
     refine es<|xr ?_
     cases h
     exact en fr
def g_token_among_s1(s_0:List UInt8)(r7:(List (List UInt8)))(x9:Int):Option (Nx (Int) (Unit ⊕ Unit)) :=
 (if(decide (x9 < (r7.length:Int))) then((atI r7 x9).bind fun y57=>(if(y57 == s_0) then(some (.out (.inl ()))) else(some (.go (IntKind.i64.wrap (x9+1)))))) else(some (.out (.inr ()))))
def g_token_among(s_0:List UInt8)(list_1:List UInt8):Option (Bool) :=
 ((g_strings_Split list_1 [32]).bind fun r7=>((iter (g_token_among_s1 s_0 r7) 0).bind fun e10=>(match e10 with|Sum.inl e10=>(some true)|Sum.inr (e10)=>(some false))))
theorem a_token_among{I:World→Prop}(hI:Stab I)(hShp:∀ w,I w→Shp w){s_0:List UInt8}{list_1:List UInt8}{r:Bool}(h:g_token_among s_0 list_1=some r):AFun Tryz.prog I 82 [.str s_0,.str list_1] (.bool r):=by
 have dd:=dd_EA;have k:=True.intro;have q:=k;have rs:=Tryz.results82
 unfold g_token_among at h
 refine .en hI Tryz.func82 Tryz.ntmps82 ?_
 refine xs<|rz ?_
 refine es<|xs<|xs<|rK fun K6 RK6 hK6 gK6=>zz ?_
 obtain⟨r7,h8,h⟩:=bs h
 refine cw (a_strings_Split I hI hShp list_1 [32] h8)<|zz ?_
 subst hK6 gK6
 refine es<|xb ?_
 obtain⟨e10,h65,h⟩:=bs h
 refine rb_loop (fun x9=>⟨envL [(0,.str s_0),(8,.sl (r7.map D.str)),(9,.int .i64 (r7.length:Int)),(10,.int .i64 x9)],heapL [],0,18⟩) (fun w=>match w with|Sum.inl _=>.ret|Sum.inr (_)=>.exit 0) (fun w=>match w with|Sum.inl e10=>⟨envL [(4,.bool true)],heapL [],0,18⟩|Sum.inr (e10)=>⟨envL [],heapL [],0,18⟩) h65 (wk []) (by intro w;rcases w with w|w<;>simp) ?_ ?_
 ·clear h
  intro x9 y h
  unfold g_token_among_s1 at h
  refine xs<|rz ?_
  refine es<|xs ?_
  rcases iK k h with⟨k,h⟩|⟨k,h⟩
  ·refine xt<|xk<|es<|xs<|xb<|xs<|rK fun K56 RK56 hK56 gK56=>zz ?_
   obtain⟨y57,q,h⟩:=bK q h
   refine zz ?_
   subst hK56 gK56
   refine es<|xs<|rz ?_
   refine es ?_
   rcases iK k h with⟨k,h⟩|⟨k,h⟩
   ·refine xt<|xs<|rz ?_
    refine es<|xr<|br<|er ?_
    cases h
    exact en ⟨rfl,wk []⟩
   ·refine xf<|xk<|bn<|es<|rz ?_
    cases h
    exact en ⟨rfl,wk []⟩
  ·refine xf<|xx<|ee ?_
   cases h
   exact en ⟨rfl,wk []⟩
 ·rcases e10 with e10|e10
  ·try dsimp only at h ⊢
   refine br<|er ?_
   cases h
   exact en fr
  ·try dsimp only at h ⊢
   refine bh<|es<|xs<|rz ?_
   refine es<|xr ?_
   cases h
   exact en fr
def g_token_Strength(word_0:List UInt8)(next_1:List UInt8):Option (Int) :=
 ((g_strings_TrimRight word_0 [34,39,41,93]).bind fun r7=>(if(r7 == ([]:List UInt8)) then(if(word_0 == ([45]:List UInt8)) then(some 4) else((g_token_small word_0).bind fun r64=>((g_token_among r64 [97,32,97,110,32,116,104,101,32,111,102,32,116,111,32,105,110,32,111,110,32,97,116,32,98,121,32,102,111,114,32,102,114,111,109,32,119,105,116,104,32,109,121,32,121,111,117,114,32,104,105,115,32,104,101,114,32,105,116,115,32,111,117,114,32,116,104,101,105,114,32,110,111]).bind fun r66=>(if r66 then(some 0) else((g_token_small next_1).bind fun r77=>((g_token_among r77 [97,110,100,32,98,117,116,32,111,114,32,98,101,99,97,117,115,101,32,116,104,97,116,32,119,104,105,99,104,32,119,104,111,32,119,104,101,110,32,105,102,32,119,104,105,108,101,32,115,111,32,97,115]).bind fun r79=>(if r79 then(some 2) else(some 1)))))))) else((atI r7 (IntKind.i64.wrap ((r7.length:Int) - 1))).bind fun b87=>(((if((b87.toNat:Int) == 46) then(some true) else(if((b87.toNat:Int) == 33) then(some true) else(some ((b87.toNat:Int) == 63)))):Option (Bool)).bind fun v145=>(if v145 then(some 5) else(((if((b87.toNat:Int) == 58) then(some true) else(if((b87.toNat:Int) == 59) then(some true) else(some (word_0 == ([45]:List UInt8))))):Option (Bool)).bind fun v156=>(if v156 then(some 4) else(if((b87.toNat:Int) == 44) then(some 3) else((g_token_small word_0).bind fun r175=>((g_token_among r175 [97,32,97,110,32,116,104,101,32,111,102,32,116,111,32,105,110,32,111,110,32,97,116,32,98,121,32,102,111,114,32,102,114,111,109,32,119,105,116,104,32,109,121,32,121,111,117,114,32,104,105,115,32,104,101,114,32,105,116,115,32,111,117,114,32,116,104,101,105,114,32,110,111]).bind fun r177=>(if r177 then(some 0) else((g_token_small next_1).bind fun r188=>((g_token_among r188 [97,110,100,32,98,117,116,32,111,114,32,98,101,99,97,117,115,101,32,116,104,97,116,32,119,104,105,99,104,32,119,104,111,32,119,104,101,110,32,105,102,32,119,104,105,108,101,32,115,111,32,97,115]).bind fun r190=>(if r190 then(some 2) else(some 1)))))))))))))))
theorem a_token_Strength{I:World→Prop}(hI:Stab I)(hShp:∀ w,I w→Shp w){word_0:List UInt8}{next_1:List UInt8}{r:Int}(h:g_token_Strength word_0 next_1=some r):AFun Tryz.prog I 24 [.str word_0,.str next_1] (.int .i64 r):=by
 have dd:=dd_EA;have k:=True.intro;have q:=k;have rs:=Tryz.results24
 unfold g_token_Strength at h
 refine .en hI Tryz.func24 Tryz.ntmps24 ?_
 refine xs<|rz ?_
 refine es<|xs<|rK fun K6 RK6 hK6 gK6=>zz ?_
 obtain⟨r7,h8,h⟩:=bs h
 refine cw (a_strings_TrimRight I hI word_0 [34,39,41,93] h8)<|zz ?_
 subst hK6 gK6
 refine es<|xs<|rz ?_
 refine es<|xs<|xs<|rz ?_
 refine es ?_
 rcases iK k h with⟨k,h⟩|⟨k,h⟩
 ·refine xf<|xk<|es<|xs<|xb<|xs<|rz ?_
  refine es<|xf<|xs<|rz ?_
  refine es ?_
  rcases iK k h with⟨k,h⟩|⟨k,h⟩
  ·refine xt<|xs<|rz ?_
   refine es<|xr<|br<|er ?_
   cases h
   exact en fr
  ·refine xf<|xs<|rz ?_
   refine es<|xf<|xs<|rK fun K63 RK63 hK63 gK63=>zz ?_
   obtain⟨r64,h65,h⟩:=bs h
   refine cw (a_token_small I hI word_0 h65)<|zz ?_
   obtain⟨r66,h67,h⟩:=bs h
   refine cw (a_token_among hI hShp h67)<|zz ?_
   subst hK63 gK63
   refine es ?_
   rcases iK k h with⟨k,h⟩|⟨k,h⟩
   ·refine xt<|xs<|rz ?_
    refine es<|xr<|br<|er ?_
    cases h
    exact en fr
   ·refine xf<|xs<|rK fun K76 RK76 hK76 gK76=>zz ?_
    obtain⟨r77,h78,h⟩:=bs h
    refine cw (a_token_small I hI next_1 h78)<|zz ?_
    obtain⟨r79,h80,h⟩:=bs h
    refine cw (a_token_among hI hShp h80)<|zz ?_
    subst hK76 gK76
    refine es ?_
    rcases iK k h with⟨k,h⟩|⟨k,h⟩
    ·refine xt<|xs<|rz ?_
     refine es<|xr<|br<|er ?_
     cases h
     exact en fr
    ·refine xf<|xk<|bn<|es<|xs<|rz ?_
     refine es<|xr ?_
     cases h
     exact en fr
 ·refine xt<|rK fun K86 RK86 hK86 gK86=>zz ?_
  obtain⟨b87,q,h⟩:=bK q h
  refine zz ?_
  subst hK86 gK86
  refine es<|xs<|xb ?_
  obtain⟨v145,h149,h⟩:=bs h
  refine rb_cut (fun v145=>⟨envL [(0,.str word_0),(1,.str next_1),(6,.int .u8 (b87.toNat:Int)),(16,.bool v145)],heapL [],0,49⟩) h149 ?_ ?_
  ·clear h
   intro v145 h
   refine rK fun K146 RK146 hK146 gK146=>zz ?_
   rcases iK k h with⟨k,h⟩|⟨k,h⟩
   ·refine zz ?_
    subst hK146 gK146
    cases h
    exact en ⟨rfl,wk []⟩
   ·refine zz ?_
    rcases iK k h with⟨k,h⟩|⟨k,h⟩
    ·refine zz ?_
     subst hK146 gK146
     cases h
     exact en ⟨rfl,wk []⟩
    ·refine zz ?_
     subst hK146 gK146
     cases h
     exact en ⟨rfl,wk []⟩
  ·rcases iK k h with⟨k,h⟩|⟨k,h⟩
   ·refine xt<|xs<|rz ?_
    refine es<|xr<|br<|er ?_
    cases h
    exact en fr
   ·refine xf ?_
    obtain⟨v156,h160,h⟩:=bs h
    refine rb_cut (fun v156=>⟨envL [(0,.str word_0),(1,.str next_1),(6,.int .u8 (b87.toNat:Int)),(27,.bool v156)],heapL [],0,49⟩) h160 ?_ ?_
    ·clear h
     intro v156 h
     refine rK fun K157 RK157 hK157 gK157=>zz ?_
     rcases iK k h with⟨k,h⟩|⟨k,h⟩
     ·refine zz ?_
      subst hK157 gK157
      cases h
      exact en ⟨rfl,wk []⟩
     ·refine zz ?_
      rcases iK k h with⟨k,h⟩|⟨k,h⟩
      ·refine zz ?_
       subst hK157 gK157
       cases h
       exact en ⟨rfl,wk []⟩
      ·refine zz ?_
       subst hK157 gK157
       cases h
       exact en ⟨rfl,wk []⟩
    ·rcases iK k h with⟨k,h⟩|⟨k,h⟩
     ·refine xt<|xs<|rz ?_
      refine es<|xr<|br<|er ?_
      cases h
      exact en fr
     ·refine xf<|xs<|rz ?_
      refine es ?_
      rcases iK k h with⟨k,h⟩|⟨k,h⟩
      ·refine xt<|xs<|rz ?_
       refine es<|xr<|br<|er ?_
       cases h
       exact en fr
      ·refine xf<|xs<|rK fun K174 RK174 hK174 gK174=>zz ?_
       obtain⟨r175,h176,h⟩:=bs h
       refine cw (a_token_small I hI word_0 h176)<|zz ?_
       obtain⟨r177,h178,h⟩:=bs h
       refine cw (a_token_among hI hShp h178)<|zz ?_
       subst hK174 gK174
       refine es ?_
       rcases iK k h with⟨k,h⟩|⟨k,h⟩
       ·refine xt<|xs<|rz ?_
        refine es<|xr<|br<|er ?_
        cases h
        exact en fr
       ·refine xf<|xs<|rK fun K187 RK187 hK187 gK187=>zz ?_
        obtain⟨r188,h189,h⟩:=bs h
        refine cw (a_token_small I hI next_1 h189)<|zz ?_
        obtain⟨r190,h191,h⟩:=bs h
        refine cw (a_token_among hI hShp h191)<|zz ?_
        subst hK187 gK187
        refine es ?_
        rcases iK k h with⟨k,h⟩|⟨k,h⟩
        ·refine xt<|xs<|rz ?_
         refine es<|xr<|br<|er ?_
         cases h
         exact en fr
        ·refine xf<|xk<|bn<|es<|xs<|rz ?_
         refine es<|xr ?_
         cases h
         exact en fr
def g_token_Len_s1(z25:List T_api_Token)(x32:Int × Int):Option (Nx (Int × Int) (Int)) :=
 (if(decide (x32.2 < (z25.length:Int))) then((atI z25 x32.2).bind fun y74=>((g_charset_Len y74.Text).bind fun r77=>(some (.go ((IntKind.i64.wrap (x32.1+r77)),(IntKind.i64.wrap (x32.2+1))))))) else(some (.out x32.1)))
def g_token_Len(l_0:List T_api_Token)(from_1:Int)(to_2:Int):Option (Int) :=
 (((if(decide (from_1 < 0)) then(some true) else(if(decide (to_2 < from_1)) then(some true) else(some (decide ((l_0.length:Int) < to_2))))):Option (Bool)).bind fun v6=>(if v6 then(some 0) else((subI l_0 from_1 to_2).bind fun z25=>((iter (g_token_Len_s1 z25) ((if(IntKind.i64.wrap ((IntKind.i64.wrap (to_2 - from_1)) - 1)) > 0 then(IntKind.i64.wrap ((IntKind.i64.wrap (to_2 - from_1)) - 1)) else 0),0)).bind fun e33=>(some e33)))))
theorem a_token_Len{I:World→Prop}(hI:Stab I)(hU8T:∀ w,I w→U8T w){l_0:List T_api_Token}{from_1:Int}{to_2:Int}{r:Int}(h:g_token_Len l_0 from_1 to_2=some r):AFun Tryz.prog I 10 [.sl (l_0.map T_api_Token.d),.int .i64 from_1,.int .i64 to_2] (.int .i64 r):=by
 have dd:=dd_EA;have k:=True.intro;have q:=k;have rs:=Tryz.results10
 unfold g_token_Len at h
 refine .en hI Tryz.func10 Tryz.ntmps10 ?_
 refine xs<|rz ?_
 refine es<|xs ?_
 obtain⟨v6,h10,h⟩:=bs h
 refine rb_cut (fun v6=>⟨envL [(0,.sl (l_0.map T_api_Token.d)),(1,.int .i64 from_1),(2,.int .i64 to_2),(22,.bool v6)],heapL [],0,44⟩) h10 ?_ ?_
 ·clear h
  intro v6 h
  refine rK fun K7 RK7 hK7 gK7=>zz ?_
  rcases iK k h with⟨k,h⟩|⟨k,h⟩
  ·refine zz ?_
   subst hK7 gK7
   cases h
   exact en ⟨rfl,wk []⟩
  ·refine zz ?_
   rcases iK k h with⟨k,h⟩|⟨k,h⟩
   ·refine zz ?_
    subst hK7 gK7
    cases h
    exact en ⟨rfl,wk []⟩
   ·refine zz ?_
    subst hK7 gK7
    cases h
    exact en ⟨rfl,wk []⟩
 ·rcases iK k h with⟨k,h⟩|⟨k,h⟩
  ·refine xt<|xs<|rz ?_
   refine es<|xr<|er ?_
   cases h
   exact en fr
  ·refine xf<|xk<|es<|xs<|rz ?_
   refine es<|xs<|xs<|rK fun K24 RK24 hK24 gK24=>zz ?_
   obtain⟨z25,h26,h⟩:=bind_some h
   obtain⟨⟨h27,h28,h29,h30⟩,h31⟩:=subI_some h26
   have q:=And.intro @h27<|And.intro @h28<|And.intro @h29<|And.intro @h30<|q
   try simp -implicitDefEqProofs only[vt,vm,sevalprocAttr,dd,k,q] at h31
   have q:=And.intro @h31<|q
   refine zz ?_
   subst hK24 gK24
   refine es<|xb ?_
   obtain⟨e33,h80,h⟩:=bs h
   refine rb_loop (fun x32=>⟨envL [(7,.int .i64 x32.1),(31,.sl (z25.map T_api_Token.d)),(32,.int .i64 (z25.length:Int)),(33,.int .i64 x32.2)],heapL [],0,44⟩) (fun _=>.exit 0) (fun e33=>⟨envL [(7,.int .i64 e33)],heapL [],0,44⟩) h80 (wk []) (by intro w;simp) ?_ ?_
   ·clear h
    intro x32 y h
    unfold g_token_Len_s1 at h
    refine xs<|rz ?_
    refine es<|xs ?_
    rcases iK k h with⟨k,h⟩|⟨k,h⟩
    ·refine xt<|xk<|es<|xs<|xb<|xs<|rK fun K73 RK73 hK73 gK73=>zz ?_
     obtain⟨y74,q,h⟩:=bK q h
     refine zz ?_
     subst hK73 gK73
     refine es<|rK fun K76 RK76 hK76 gK76=>zz ?_
     obtain⟨r77,h78,h⟩:=bs h
     refine cw (a_charset_Len hI hU8T h78)<|zz ?_
     subst hK76 gK76
     refine bn<|es<|rz ?_
     cases h
     exact en ⟨rfl,wk []⟩
    ·refine xf<|xx<|ee ?_
     cases h
     exact en ⟨rfl,wk []⟩
   ·refine bh<|es<|xs<|rz ?_
    refine es<|xr ?_
    cases h
    exact en fr
def g_token_Check_s1(l_0:List T_api_Token)(x10:Int):Option (Nx (Int) (Int ⊕ Unit)) :=
 (if(decide (x10 < (l_0.length:Int))) then((atI l_0 x10).bind fun y136=>(((if(y136.Text == ([]:List UInt8)) then(some true) else((g_strings_Contains y136.Text [32]).bind fun r145=>(some r145))):Option (Bool)).bind fun v142=>(if v142 then(some (.out (.inl 4))) else((g_charset_Valid y136.Text).bind fun r155=>(if r155 then(if(decide (y136.Strength < 0)) then(some (.out (.inl 2))) else(if(decide (5 < y136.Strength)) then(some (.out (.inl 2))) else(some (.go (IntKind.i64.wrap (x10+1)))))) else(some (.out (.inl 10)))))))) else(some (.out (.inr ()))))
def g_token_Check(l_0:List T_api_Token):Option (Int) :=
 (if(decide (200 < (l_0.length:Int))) then(some 9) else((iter (g_token_Check_s1 l_0) 0).bind fun e11=>(match e11 with|Sum.inl e11=>(some e11)|Sum.inr (e11)=>(some 0))))
theorem a_token_Check{I:World→Prop}(hI:Stab I)(hU8T:∀ w,I w→U8T w){l_0:List T_api_Token}{r:Int}(h:g_token_Check l_0=some r):AFun Tryz.prog I 84 [.sl (l_0.map T_api_Token.d)] (.int .i64 r):=by
 have dd:=dd_EA;have k:=True.intro;have q:=k;have rs:=Tryz.results84
 unfold g_token_Check at h
 refine .en hI Tryz.func84 Tryz.ntmps84 ?_
 refine xs<|rz ?_
 refine es<|xs<|xs<|rz ?_
 refine es ?_
 rcases iK k h with⟨k,h⟩|⟨k,h⟩
 ·refine xt<|xs<|rz ?_
  refine es<|xr<|er ?_
  cases h
  exact en fr
 ·refine xf<|xk<|es<|xs<|xs<|rz ?_
  refine es<|xb ?_
  obtain⟨e11,h170,h⟩:=bs h
  refine rb_loop (fun x10=>⟨envL [(8,.sl (l_0.map T_api_Token.d)),(9,.int .i64 (l_0.length:Int)),(10,.int .i64 x10)],heapL [],0,38⟩) (fun w=>match w with|Sum.inl _=>.ret|Sum.inr (_)=>.exit 0) (fun w=>match w with|Sum.inl e11=>⟨envL [(2,.int .i64 e11)],heapL [],0,38⟩|Sum.inr (e11)=>⟨envL [],heapL [],0,38⟩) h170 (wk []) (by intro w;rcases w with w|w<;>simp) ?_ ?_
  ·clear h
   intro x10 y h
   unfold g_token_Check_s1 at h
   refine xs<|rz ?_
   refine es<|xs ?_
   rcases iK k h with⟨k,h⟩|⟨k,h⟩
   ·refine xt<|xk<|es<|xs<|xb<|xs<|rK fun K135 RK135 hK135 gK135=>zz ?_
    obtain⟨y136,q,h⟩:=bK q h
    refine zz ?_
    subst hK135 gK135
    refine es<|xb ?_
    obtain⟨v142,h147,h⟩:=bs h
    refine rb_cut (fun v142=>⟨envL [(4,.ptr 0 0),(8,.sl (l_0.map T_api_Token.d)),(9,.int .i64 (l_0.length:Int)),(10,.int .i64 x10),(14,.bool v142)],heapL [(0,.box none [.str y136.Text,.int .i64 y136.Strength])],1,38⟩) h147 ?_ ?_
    ·clear h
     intro v142 h
     refine rK fun K143 RK143 hK143 gK143=>zz ?_
     rcases iK k h with⟨k,h⟩|⟨k,h⟩
     ·refine zz ?_
      subst hK143 gK143
      cases h
      exact en ⟨rfl,wk [(0,some 3)]⟩
     ·refine zz ?_
      obtain⟨r145,h146,h⟩:=bs h
      refine cw (a_strings_Contains I hI y136.Text [32] h146)<|zz ?_
      subst hK143 gK143
      cases h
      exact en ⟨rfl,wk [(0,some 3)]⟩
    ·rcases iK k h with⟨k,h⟩|⟨k,h⟩
     ·refine xt<|xs<|rz ?_
      refine es<|xr<|br<|br<|er ?_
      cases h
      exact en ⟨rfl,wk []⟩
     ·refine xf<|xs<|rK fun K154 RK154 hK154 gK154=>zz ?_
      obtain⟨r155,h156,h⟩:=bs h
      refine cw (a_charset_Valid hI hU8T h156)<|zz ?_
      subst hK154 gK154
      refine es ?_
      rcases iK k h with⟨k,h⟩|⟨k,h⟩
      ·refine xf<|xs<|rK fun K160 RK160 hK160 gK160=>zz ?_
       rcases iK k h with⟨k,h⟩|⟨k,h⟩
       ·refine zz ?_
        subst hK160 gK160
        refine es<|xt<|xs<|rz ?_
        refine es<|xr<|br<|br<|er ?_
        cases h
        exact en ⟨rfl,wk []⟩
       ·refine zz ?_
        subst hK160 gK160
        refine es ?_
        rcases iK k h with⟨k,h⟩|⟨k,h⟩
        ·refine xt<|xs<|rz ?_
         refine es<|xr<|br<|br<|er ?_
         cases h
         exact en ⟨rfl,wk []⟩
        ·refine xf<|xk<|bn<|bn<|es<|rz ?_
         cases h
         exact en ⟨rfl,wk []⟩
      ·refine xt<|xs<|rz ?_
       refine es<|xr<|br<|br<|er ?_
       cases h
       exact en ⟨rfl,wk []⟩
   ·refine xf<|xx<|ee ?_
    cases h
    exact en ⟨rfl,wk []⟩
  ·rcases e11 with e11|e11
   ·try dsimp only at h ⊢
    refine br<|er ?_
    cases h
    exact en fr
   ·try dsimp only at h ⊢
    refine bh<|es<|xs<|rz ?_
    refine es<|xr ?_
    cases h
    exact en fr
def g_token_Join_s1(l_0:List T_api_Token)(x21:Int × (List (List UInt8))):Option (Nx (Int × (List (List UInt8))) ((List (List UInt8)))) :=
 (if(decide (x21.1 < (l_0.length:Int))) then((atI l_0 x21.1).bind fun y78=>((atI x21.2 x21.1).bind fun y81=>((setI x21.2 x21.1 y78.Text).bind fun m82=>(some (.go ((IntKind.i64.wrap (x21.1+1)),m82)))))) else(some (.out x21.2)))
def g_token_Join(l_0:List T_api_Token):Option ((List UInt8)) :=
 ((mkI 16 (l_0.length:Int) ([]:List UInt8)).bind fun m12=>((iter (g_token_Join_s1 l_0) (0,m12)).bind fun e22=>((g_strings_Join e22 [32]).bind fun r94=>(some r94))))
theorem a_token_Join{I:World→Prop}(hI:Stab I){l_0:List T_api_Token}{r:(List UInt8)}(h:g_token_Join l_0=some r):AFun Tryz.prog I 11 [.sl (l_0.map T_api_Token.d)] (.str r):=by
 have dd:=dd_EA;have k:=True.intro;have q:=k;have rs:=Tryz.results11
 unfold g_token_Join at h
 refine .en hI Tryz.func11 Tryz.ntmps11 ?_
 refine xs<|rz ?_
 refine es<|xs<|rK fun K11 RK11 hK11 gK11=>zz ?_
 obtain⟨m12,h13,h⟩:=bind_some h
 obtain⟨h14,h15,h16,h17,h18⟩:=mkI_some h13
 have h18:=h18 D.str
 have h17:=(Int.toNat_natCast _).symm.trans h17 |>.symm
 rw[h17] at h18
 have k:=And.intro h17 k
 try simp only[sevalprocAttr,List.map_nil,Int.toNat_natCast,dd] at h18
 have q:=And.intro @h14<|And.intro @h15<|And.intro @h16<|And.intro @h17<|And.intro @h18<|q
 refine zz ?_
 subst hK11 gK11
 refine es<|xs<|xs<|rz ?_
 refine es<|xb ?_
 obtain⟨e22,h89,h⟩:=bs h
 refine rb_loop (fun x21=>⟨envL [(3,.own 0 x21.2.length),(9,.sl (l_0.map T_api_Token.d)),(10,.int .i64 (l_0.length:Int)),(11,.int .i64 x21.1)],heapL [(0,.vec 9 1 (x21.2.map D.str) false)],1,24⟩) (fun _=>.exit 0) (fun e22=>⟨envL [(3,.own 0 e22.length)],heapL [(0,.vec 9 1 (e22.map D.str) false)],1,24⟩) h89 (wk [(0,some 3)]) (by intro w;simp) ?_ ?_
 ·clear h
  intro x21 y h
  unfold g_token_Join_s1 at h
  refine xs<|rz ?_
  refine es<|xs ?_
  rcases iK k h with⟨k,h⟩|⟨k,h⟩
  ·refine xt<|xk<|es<|xs<|xb<|xs<|rK fun K77 RK77 hK77 gK77=>zz ?_
   obtain⟨y78,q,h⟩:=bK q h
   refine zz ?_
   subst hK77 gK77
   refine es<|rK fun K80 RK80 hK80 gK80=>zz ?_
   obtain⟨y81,q,h⟩:=oN q h
   refine zz ?_
   obtain⟨m82,h83,h⟩:=bind_some h
   obtain⟨h84,h85,h86,h87⟩:=setI_some h83
   have h87:=h87 D.str
   try simp only[sevalprocAttr,List.map_nil,dd] at h87
   have q:=And.intro @h84<|And.intro @h85<|And.intro @h86<|And.intro @h87<|q
   refine zz ?_
   subst hK80 gK80
   refine bn<|es<|rz ?_
   cases h
   exact en ⟨rfl,wk []⟩
  ·refine xf<|xx<|ee ?_
   cases h
   exact en ⟨rfl,wk []⟩
 ·refine bh<|es<|xs<|rK fun K93 RK93 hK93 gK93=>zz ?_
  obtain⟨r94,h95,h⟩:=bs h
  refine cw (a_strings_Join I hI e22 [32] h95)<|zz ?_
  subst hK93 gK93
  refine es<|xr ?_
  cases h
  exact en fr
def g_token_Split_1(r_0:Int):Option (Bool) :=
 (if(r_0 == 32) then(some true) else(some (r_0 == 10)))
theorem a_token_Split_1{I:World→Prop}(hI:Stab I){r_0:Int}{r:Bool}(h:g_token_Split_1 r_0=some r):AFun Tryz.prog I 22 [.int .i32 r_0] (.bool r):=by
 have dd:=dd_EA;have k:=True.intro;have q:=k;have rs:=Tryz.results22
 unfold g_token_Split_1 at h
 refine .en hI Tryz.func22 Tryz.ntmps22 ?_
 refine xs<|rz ?_
 refine es<|xs<|rK fun K5 RK5 hK5 gK5=>zz ?_
 rcases iK k h with⟨k,h⟩|⟨k,h⟩
 ·refine zz ?_
  subst hK5 gK5
  refine es<|xr ?_
  cases h
  exact en fr
 ·refine zz ?_
  subst hK5 gK5
  refine es<|xr ?_
  cases h
  exact en fr
def spB (b:UInt8):Bool:=Nat.beq b.toNat 32||Nat.beq b.toNat 10
def spR (r:Nat):Bool:=Nat.beq r 32||Nat.beq r 10
theorem nbeq{a b:Nat}(h:a≠b):Nat.beq a b=false:=by
 cases h1:Nat.beq a b with
 | false=>rfl
 | true=>exact absurd (Nat.eq_of_beq_eq_true h1) h
theorem spR_hi{r:Nat}(h:128≤r):spR r=false:=by
 unfold spR
 rw[Bool.or_eq_false_iff]
 exact⟨nbeq (by omega),nbeq (by omega)⟩
def fld:List UInt8→List UInt8→List (List UInt8)
 | [],cur=>if cur=[] then[] else[cur]
 | b::t,cur=>if spB b=true then(if cur=[] then fld t [] else cur::fld t []) else fld t (cur++[b])
theorem fld_skip:∀ (a t cur:List UInt8),(∀ b ∈ a,spB b=false)→fld (a++t) cur=fld t (cur++a)
 | [],t,cur,_=>by simp
 | b::a,t,cur,h=>by
  have hb:spB b=false:=h b (by simp)
  rw[List.cons_append,fld,hb,if_neg (by simp),fld_skip a t _ fun x hx=>h x (by simp[hx])]
  simp
theorem rune_by(l:List UInt8)(hne:l≠[]):(spR (Lib.decodeL l).1=true∧(Lib.decodeL l).2=1∧∃ b t,l=b::t∧spB b=true)∨(spR (Lib.decodeL l).1=false∧(Lib.decodeL l).2≤l.length∧1≤(Lib.decodeL l).2∧∀ b ∈ l.take (Lib.decodeL l).2,spB b=false):=by
 obtain⟨b,t,rfl⟩:=List.exists_cons_of_ne_nil hne
 by_cases hb:b.toNat < 128
 ·have hd:=Lib.decodeL_ascii b t hb
  rw[hd]
  cases hs:spR b.toNat with
  | true=>exact .inl ⟨rfl,rfl,b,t,rfl,hs⟩
  | false =>
   refine .inr ⟨rfl,by simp,by simp,fun x hx=>?_⟩
   simp at hx
   subst hx
   exact hs
 ·have hhi:128≤(Lib.decodeL (b::t)).1:=by
   have h0:=Lib.decodeL_drop ⟨(b::t).toArray⟩ 0
   rw[List.drop_zero] at h0
   have h1:(⟨(b::t).toArray⟩:ByteArray).data.toList=b::t:=by simp
   rw[h1] at h0
   rw[h0]
   exact(decode_high ⟨(b::t).toArray⟩ 0 (by simp[ByteArray.size]) (by simpa[ByteArray.getElem_eq_getElem_data] using Nat.le_of_not_lt hb)).1
  have hw:=Lib.decodeL_width (b::t)
  have hc:=Lib.decodeN_conts (b::t).length ((b::t).getD 0 0).toNat ((b::t).getD 1 0).toNat ((b::t).getD 2 0).toNat ((b::t).getD 3 0).toNat
  rw[← Lib.decodeL_N] at hc
  obtain⟨c2,c3,c4,c5⟩:=hc
  have hlen:1≤(b::t).length:=by simp
  have hle:(Lib.decodeL (b::t)).2≤(b::t).length:=by omega
  refine .inr ⟨spR_hi hhi,hle,hw,fun x hx=>?_⟩
  obtain⟨j,hj,hxj⟩:=List.getElem_of_mem hx
  rw[List.length_take] at hj
  rw[List.getElem_take] at hxj
  have hg:(b::t).getD j 0=x:=by
   rw[List.getD_eq_getElem?_getD,List.getElem?_eq_getElem (by omega),hxj];rfl
  have hx128:128≤x.toNat:=by
   rw[← hg]
   have hjc:j=0∨j=1∨j=2∨j=3:=by omega
   rcases hjc with rfl|rfl|rfl|rfl
   ·simpa using hb
   ·have:=(c2 (by omega)).1;omega
   ·have:=(c3 (by omega)).1;omega
   ·have:=(c4 (by omega)).1;omega
  exact spR_hi hx128
def curA (l:List UInt8)(pos:Nat):Option Nat→List UInt8
 | none=>[]
 | some a=>(l.drop a).take (pos - a)
def cutA (l:List UInt8)(x:Nat × Nat):List UInt8:=(l.drop x.1).take (x.2 - x.1)
theorem cur_next{l:List UInt8}{a pos k:Nat}(h:a≤pos)(hk:pos+k≤l.length):(l.drop a).take (pos+k - a)=(l.drop a).take (pos - a)++(l.drop pos).take k:=by
 rw[show pos+k - a=(pos - a)+k by omega,List.take_add,List.drop_drop,show a+(pos - a)=pos by omega]
theorem spans_fld(l:List UInt8):∀ (f pos:Nat) (st:Option Nat) (acc:List (Nat × Nat)),pos≤l.length→l.length≤f+pos→(∀ a,st=some a→a < pos) →
  (Lib.closeSpans ⟨l.toArray⟩ (Lib.spansFromP spR ⟨l.toArray⟩ f pos st acc)).map (cutA l)=acc.map (cutA l)++fld (l.drop pos) (curA l pos st):=by
 have hsz:(⟨l.toArray⟩:ByteArray).size=l.length:=by simp[ByteArray.size]
 have fin:∀ (pos:Nat) (st:Option Nat) (acc:List (Nat × Nat)),pos=l.length→(∀ a,st=some a→a < pos)→(Lib.closeSpans ⟨l.toArray⟩ (acc,st)).map (cutA l)=acc.map (cutA l)++fld (l.drop pos) (curA l pos st):=by
  intro pos st acc hp hst
  subst hp
  rw[List.drop_of_length_le (Nat.le_refl _)]
  cases st with
  | none=>simp[Lib.closeSpans,fld,curA]
  | some a =>
   have ha:=hst a rfl
   have hne:(l.drop a).take (l.length - a)≠[]:=by
    intro h
    have:=congrArg List.length h
    simp at this
    omega
   have hf:fld [] (curA l l.length (some a))=[curA l l.length (some a)]:=by unfold fld;exact if_neg hne
   rw[hf]
   simp only[Lib.closeSpans,List.map_append,List.map_cons,List.map_nil,cutA,hsz,curA]
 intro f
 induction f with
 | zero =>
  intro pos st acc hp hf hst
  exact fin pos st acc (by omega) hst
 | succ f ih =>
  intro pos st acc hp hf hst
  by_cases hlt:pos < l.length
  ·have hne:l.drop pos≠[]:=by
    intro h
    have:=congrArg List.length h
    simp at this
    omega
   have hdec:=Lib.decodeL_drop ⟨l.toArray⟩ pos
   simp only[List.toList_toArray] at hdec
   unfold Lib.spansFromP
   rw[if_pos (by rw[hsz];exact hlt),← hdec]
   rcases rune_by (l.drop pos) hne with⟨h1,h2,b,t,h3,h4⟩|⟨h1,h2,h3,h4⟩
   ·rw[h1,h2,if_pos rfl]
    have ht:l.drop (pos+1)=t:=by rw[← List.drop_drop,h3];rfl
    cases st with
    | none =>
     simp only
     rw[ih (pos+1) none acc (by omega) (by omega) (fun a ha=>by cases ha),h3,ht]
     simp[fld,h4,curA]
    | some a =>
     have ha:=hst a rfl
     simp only
     rw[ih (pos+1) none _ (by omega) (by omega) (fun a ha=>by cases ha),h3,ht]
     have hc:(l.drop a).take (pos - a)≠[]:=by
      intro h
      have:=congrArg List.length h
      simp at this
      omega
     simp[fld,h4,curA,hc,cutA]
   ·rw[h1,if_neg (by simp)]
    rw[List.length_drop] at h2
    have hsk:fld (l.drop pos) (curA l pos st)=fld (l.drop (pos+(Lib.decodeL (l.drop pos)).2)) (curA l pos st++(l.drop pos).take (Lib.decodeL (l.drop pos)).2):=by
     conv=>lhs;rw[← List.take_append_drop (Lib.decodeL (l.drop pos)).2 (l.drop pos)]
     rw[fld_skip _ _ _ h4,List.drop_drop]
    rw[hsk]
    cases st with
    | none =>
     simp only
     rw[ih _ (some pos) acc (by omega) (by omega) (fun a ha=>by injection ha with ha;omega)]
     simp[curA]
    | some a =>
     have ha:=hst a rfl
     simp only
     rw[ih _ (some a) acc (by omega) (by omega) (fun a' ha'=>by injection ha' with ha';omega)]
     simp only[curA]
     rw[cur_next (by omega) (by omega)]
  ·have:Lib.spansFromP spR ⟨l.toArray⟩ (f+1) pos st acc=(acc,st):=Lib.spansFromP_end _ _ _ _ _ _ (by rw[hsz];omega)
   rw[this]
   exact fin pos st acc (by omega) hst
def words(l:List UInt8):List (List UInt8):=fld l []
theorem goFields_words(l:List UInt8):(Lib.goFieldsP spR ⟨l.toArray⟩).map (fun s=>s.data.toList)=words l:=by
 have h:=spans_fld l l.length 0 none [] (Nat.zero_le _) (by omega) (fun a h=>by cases h)
 unfold Lib.goFieldsP Lib.spansOfP
 have hsz:(⟨l.toArray⟩:ByteArray).size=l.length:=by simp[ByteArray.size]
 rw[List.map_map,hsz]
 simp only[List.map_nil,List.nil_append,List.drop_zero] at h
 unfold words
 rw[← show curA l 0 none=[] from rfl,← h]
 refine List.map_congr_left fun x _=>?_
 simp only[Function.comp,cutA,ByteArray.data_extract,Array.toList_extract,List.extract_eq_take_drop]
theorem fld_all:∀ (l cur:List UInt8),(∀ b ∈ cur,spB b=false)→∀ w ∈ fld l cur,w≠[]∧(∀ b ∈ w,spB b=false)∧w.length≤cur.length+l.length
 | [],cur,hc,w,hw=>by
  unfold fld at hw
  split at hw
  ·cases hw
  ·rename_i h
   simp at hw
   subst hw
   exact⟨h,hc,by simp⟩
 | b::t,cur,hc,w,hw=>by
  unfold fld at hw
  split at hw
  ·split at hw
   ·obtain⟨h1,h2,h3⟩:=fld_all t [] (fun b hb=>by cases hb) w hw
    exact⟨h1,h2,by simp at h3 ⊢;omega⟩
   ·rename_i h
    rw[List.mem_cons] at hw
    rcases hw with rfl|hw
    ·exact⟨h,hc,by omega⟩
    ·obtain⟨h1,h2,h3⟩:=fld_all t [] (fun b hb=>by cases hb) w hw
     exact⟨h1,h2,by simp at h3 ⊢;omega⟩
  ·rename_i hb
   obtain⟨h1,h2,h3⟩:=fld_all t (cur++[b]) (fun x hx=>by
    rw[List.mem_append] at hx
    rcases hx with hx|hx
    ·exact hc x hx
    ·simp at hx;subst hx;simpa using hb) w hw
   exact⟨h1,h2,by simp at h3 ⊢;omega⟩
theorem words_all{l w:List UInt8}(h:w ∈ words l):w≠[]∧(∀ b ∈ w,spB b=false)∧w.length≤l.length:=by
 have:=fld_all l [] (fun b hb=>by cases hb) w h
 simpa using this
theorem fld_count:∀ (l cur:List UInt8),(fld l cur).length≤l.length+1
 | [],cur=>by unfold fld;split<;>simp
 | b::t,cur=>by
  have h1:=fld_count t []
  have h2:=fld_count t (cur++[b])
  unfold fld
  split
  ·split
   ·simp;omega
   ·simp;omega
  ·simp;omega
theorem words_count(l:List UInt8):(words l).length≤l.length+1:=fld_count l []
theorem words_join:∀ (ws:List (List UInt8)),(∀ w ∈ ws,w≠[]∧∀ b ∈ w,spB b=false)→words (Lib.join ws [32])=ws
 | [],_=>rfl
 | [w],h=>by
  obtain⟨h1,h2⟩:=h w (by simp)
  have:=fld_skip w [] [] h2
  rw[List.append_nil] at this
  show fld (Lib.join [w] [32]) []=[w]
  have e:Lib.join [w] [32]=w:=by simp[Lib.join,List.intercalate]
  rw[e,this]
  simp[fld,h1]
 | w::v::ws,h=>by
  obtain⟨h1,h2⟩:=h w (by simp)
  have ih:=words_join (v::ws) fun x hx=>h x (by simp only[List.mem_cons] at hx ⊢;exact .inr hx)
  have e:Lib.join (w::v::ws) [32]=w++(32::Lib.join (v::ws) [32]):=by simp[Lib.join,List.intercalate]
  show fld _ []=_
  rw[e,fld_skip w _ _ h2,fld]
  simp only[List.nil_append,if_neg h1]
  rw[if_pos (by decide)]
  congr 1
section
variable {P:Program}{I:World→Prop}{f:FuncId}{ds:List D}
theorem AFun.of_strsB(he:enterable P f=true)(l:List (List UInt8))(t:TypeId)(hl:l.length≤maxLen)(hs:∀ s ∈ l,s.length≤maxLen)
  (h:∀ (w:World) (F:Nat→Nat→Prop) (args:List Value),I w→FB (cF F) w→args.length=ds.length→(∀ (i:Nat) v d,args[i]? = some v→ds[i]? = some d→Rep w (cF F) v d) →
   Calls P f args.toArray w fun e w'=>∃ A,e=.returned (.slice (some ⟨A,0,none⟩) l.length l.length)∧w.heap.size≤A∧w'.ownsRow w.heap.size t 1 (.slice (some ⟨A,0,none⟩) l.length l.length) l.length (l.map fun s=>Value.string ⟨s.toArray⟩)∧Below w.heap.size w w'):AFun P I f ds (.sl (l.map D.str)):=by
 refine⟨he,fun w F args hI hfb hla hr=>?_⟩
 refine(h w F args hI hfb hla hr).mono ?_
 rintro e w' ⟨A,rfl,hA,hown,hbel⟩
 obtain⟨_,⟨hx,_⟩|⟨g,cap,cur,hv,_,hg,hnc,hcm,hcs,htk⟩⟩:=hown
 ·cases hx
 injection hv with hv1 hv2 hv3
 injection hv1 with hv1
 injection hv1 with hv1
 subst hv1
 have hAs:A < w'.heap.size:=(Array.getElem?_eq_some_iff.1 hg).1
 let F':Nat→Nat→Prop:=fun b o=>F b o∨(b=A∧o < l.length)
 refine⟨_,F',rfl,hbel,⟨fun _ _ h=>.inl h,fun b o hF=>hbel.block b (hfb b o hF),fun _ h=>h,fun _ _=>rfl⟩,fun b o hF=>?_,fun b o hF=>?_,?_⟩
 ·rcases hF with hF|⟨rfl,_⟩
  ·exact Nat.lt_of_lt_of_le (hfb b o hF) hbel.size
  ·exact hAs
 ·rcases hF with hF|⟨rfl,_⟩
  ·exact .inl hF
  ·exact .inr hA
 ·have:=Rep.sl (w:=w') (C:=cF F') A 0 1 l.length (l.map D.str) (l.map fun s=>Value.string ⟨s.toArray⟩) (by simp) hl
   (by intro x hx;simp at hx;obtain⟨a,_,rfl⟩:=hx;rfl) (by rw[flat_strs];simp) (by intro v hv;simp at hv;obtain⟨a,_,rfl⟩:=hv;rfl) (fun i hi=>.inr ⟨rfl,by simpa using hi⟩) (fun i v hv=>?_) (fun i v d hv hd=>?_)
  ·simpa using this
  ·simp only[Nat.zero_add]
   rw[cell_of_row w' A i cur t (0,0) hg]
   have hil:i < l.length:=by
    have:=(List.getElem?_eq_some_iff.1 hv).1
    simpa using this
   rw[← htk,List.getElem?_take,if_pos (by omega)] at hv
   simpa using hv
  ·rw[flat_strs] at hd
   simp only[List.getElem?_map] at hv hd
   cases hi:l[i]? with
   | none=>rw[hi] at hv;simp at hv
   | some s =>
    rw[hi] at hv hd
    simp at hv hd
    subst hv hd
    exact .str s (hs s (List.mem_of_getElem? hi))
end
def g_strings_FieldsFunc(s:List UInt8):Option (List (List UInt8)):=if s.length≤4294967296 then some (words s) else none
theorem a_strings_FieldsFunc(I:World→Prop)(hI:Stab I)(s:List UInt8){r:List (List UInt8)}(h:g_strings_FieldsFunc s=some r):AFun Tryz.prog I 21 [.str s,.fn 22 []] (.sl (r.map D.str)):=by
 unfold g_strings_FieldsFunc at h
 split at h
 case isFalse=>cases h
 rename_i hs
 cases h
 have hcnt:=words_count s
 refine AFun.of_strsB (by kernel_rfl) _ 9 (by unfold maxLen;omega) (fun x hx=>by have:=(words_all hx).2.2;unfold maxLen;omega) fun w F args hIw hfb hla hr=>?_
 obtain⟨v,u,rfl⟩:∃ v u,args=[v,u]:=by
  match args,hla with
  | [v,u],_=>exact⟨v,u,rfl⟩
 have hv:=hr 0 v _ rfl rfl
 have hu:=hr 1 u _ rfl rfl
 obtain⟨rfl,_⟩:=rep_str1 hv
 obtain⟨lb,rfl,hlb⟩:∃ lb:Array Value,u=.func (.func 22) #[] lb∧lb=#[]:=by
  cases hu with
  | fn _ vs _ hvl _ =>
   have h0:=List.eq_nil_of_length_eq_zero (show _=0 by simpa using hvl)
   subst h0
   exact⟨_,rfl,rfl⟩
 subst hlb
 have hp:PredGrows Tryz.prog 22 #[] spR w:=by
  intro W x hx hb
  have hc:=a_token_Split_1 hI (r_0:=(x:Int)) (r:=spR x) (by
   unfold g_token_Split_1 spR
   by_cases h1:x=32
   ·subst h1;rfl
   ·have e1:((x:Int) == 32)=false:=by rw[beq_eq_false_iff_ne];omega
    have e2:Nat.beq x 32=false:=nbeq h1
    rw[e1,e2]
    by_cases h2:x=10
    ·subst h2;rfl
    ·have e3:((x:Int) == 10)=false:=by rw[beq_eq_false_iff_ne];omega
     have e4:Nat.beq x 10=false:=nbeq h2
     simp[e3,e4])
  refine(hc.2 W F [.int .i32 x] (hI _ _ hIw hb) (fun b o hF=>Nat.lt_of_lt_of_le (hfb b o hF) hb.size) rfl (fun i v d hv hd=>?_)).mono ?_
  ·match i,hv,hd with
   | 0,hv,hd =>
    simp at hv hd
    subst hv hd
    exact .int .i32 x (by unfold inR;simp only[kLo,kHi];omega)
   | (n+1),hv,hd=>simp at hv
  ·rintro e w' ⟨v,F',rfl,hbel,_,_,_,hrep⟩
   cases hrep
   exact⟨rfl,hbel⟩
 have hw:=goFields_words s
 have hlen:(Lib.goFieldsP spR ⟨s.toArray⟩).length=(words s).length:=by rw[← hw,List.length_map]
 have hmap:(Lib.goFieldsP spR ⟨s.toArray⟩).map Value.string=(words s).map fun s=>Value.string ⟨s.toArray⟩:=by
  rw[← hw,List.map_map]
  refine List.map_congr_left fun x _=>?_
  simp[Function.comp]
 refine(Tryz.strings_FieldsFunc_grows 22 #[] (enters_of Tryz.func22 (by kernel_rfl) rfl) spR ⟨s.toArray⟩ w (by simpa[ByteArray.size] using hs) hp).mono ?_
 rintro e w' ⟨A,rfl,hA,hown,hbel⟩
 rw[hlen] at hown ⊢
 rw[hmap] at hown
 exact⟨A,rfl,hA,hown,hbel⟩
theorem dd_EB:(∀ x,T_api_Token.d x=.agg [.str x.Text,.int .i64 x.Strength]):=fun _=>rfl
def g_token_Split_s1(r7:(List (List UInt8)))(x11:Int):Option (Nx (Int) (Unit ⊕ Unit)) :=
 (if(decide (x11 < (r7.length:Int))) then((atI r7 x11).bind fun y71=>((g_charset_Valid y71).bind fun r77=>(if r77 then(some (.go (IntKind.i64.wrap (x11+1)))) else(some (.out (.inl ())))))) else(some (.out (.inr ()))))
def g_token_Split_s2(r7:(List (List UInt8)))(x107:Int × (List T_api_Token)):Option (Nx (Int × (List T_api_Token)) ((List T_api_Token))) :=
 (if(decide (x107.1 < (r7.length:Int))) then((atI r7 x107.1).bind fun y234=>((atI x107.2 x107.1).bind fun y245=>((setI x107.2 x107.1 (T_api_Token.mk y234 5)).bind fun m246=>(if(decide ((IntKind.i64.wrap (x107.1+1)) < (r7.length:Int))) then((atI r7 (IntKind.i64.wrap (x107.1+1))).bind fun y256=>((g_token_Strength y234 y256).bind fun r258=>((atI m246 x107.1).bind fun y260=>((setI m246 x107.1 (T_api_Token.mk y260.Text r258)).bind fun m261=>(some (.go ((IntKind.i64.wrap (x107.1+1)),m261))))))) else(some (.go ((IntKind.i64.wrap (x107.1+1)),m246))))))) else(some (.out x107.2)))
def g_token_Split(s_0:List UInt8):Option ((List T_api_Token) × Int) :=
 ((g_strings_FieldsFunc s_0).bind fun r7=>((iter (g_token_Split_s1 r7) 0).bind fun e12=>(match e12 with|Sum.inl e12=>(some ([],10))|Sum.inr (e12)=>(if(decide (200 < (r7.length:Int))) then(some ([],9)) else((mkI 24 (r7.length:Int) ((T_api_Token.mk [] 0):T_api_Token)).bind fun m98=>((iter (g_token_Split_s2 r7) (0,m98)).bind fun e108=>(some (e108,0))))))))
theorem a_token_Split{I:World→Prop}(hI:Stab I)(hShp:∀ w,I w→Shp w)(hU8T:∀ w,I w→U8T w){s_0:List UInt8}{r:(List T_api_Token) × Int}(h:g_token_Split s_0=some r):AFun Tryz.prog I 5 [.str s_0] (.tup [.sl (r.1.map T_api_Token.d),.int .i64 r.2]):=by
 have dd:=dd_EB;have k:=True.intro;have q:=k;have rs:=Tryz.results5
 unfold g_token_Split at h
 refine .en hI Tryz.func5 Tryz.ntmps5 ?_
 refine xs<|rz ?_
 refine es<|xs<|rK fun K6 RK6 hK6 gK6=>zz ?_
 obtain⟨r7,h8,h⟩:=bs h
 refine cw (a_strings_FieldsFunc I hI s_0 h8)<|zz ?_
 subst hK6 gK6
 refine es<|xs<|xs<|rz ?_
 refine es<|xb ?_
 obtain⟨e12,h83,h⟩:=bs h
 refine rb_loop (fun x11=>⟨envL [(4,.sl (r7.map D.str)),(12,.sl (r7.map D.str)),(13,.int .i64 (r7.length:Int)),(14,.int .i64 x11)],heapL [],0,58⟩) (fun w=>match w with|Sum.inl _=>.ret|Sum.inr (_)=>.exit 0) (fun w=>match w with|Sum.inl e12=>⟨envL [(2,.nils),(3,.int .i64 10)],heapL [],0,58⟩|Sum.inr (e12)=>⟨envL [(4,.sl (r7.map D.str))],heapL [],0,58⟩) h83 (wk []) (by intro w;rcases w with w|w<;>simp) ?_ ?_
 ·clear h
  intro x11 y h
  unfold g_token_Split_s1 at h
  refine xs<|rz ?_
  refine es<|xs ?_
  rcases iK k h with⟨k,h⟩|⟨k,h⟩
  ·refine xt<|xk<|es<|xs<|xb<|xs<|rK fun K70 RK70 hK70 gK70=>zz ?_
   obtain⟨y71,q,h⟩:=bK q h
   refine zz ?_
   subst hK70 gK70
   refine es<|xs<|rK fun K76 RK76 hK76 gK76=>zz ?_
   obtain⟨r77,h78,h⟩:=bs h
   refine cw (a_charset_Valid hI hU8T h78)<|zz ?_
   subst hK76 gK76
   refine es ?_
   rcases iK k h with⟨k,h⟩|⟨k,h⟩
   ·refine xf<|xk<|bn<|es<|rz ?_
    cases h
    exact en ⟨rfl,wk []⟩
   ·refine xt<|xs<|rz ?_
    refine es<|xr<|br<|er ?_
    cases h
    exact en ⟨rfl,wk []⟩
  ·refine xf<|xx<|ee ?_
   cases h
   exact en ⟨rfl,wk []⟩
 ·rcases e12 with e12|e12
  ·try dsimp only at h ⊢
   refine br<|er ?_
   cases h
   exact en fr
  ·try dsimp only at h ⊢
   refine bh<|es<|xs<|xs<|rz ?_
   refine es ?_
   rcases iK k h with⟨k,h⟩|⟨k,h⟩
   ·refine xt<|xs<|rz ?_
    refine es<|xr<|er ?_
    cases h
    exact en fr
   ·refine xf<|xk<|es<|xs<|rK fun K97 RK97 hK97 gK97=>zz ?_
    obtain⟨m98,h99,h⟩:=bind_some h
    obtain⟨h100,h101,h102,h103,h104⟩:=mkI_some h99
    have h104:=h104 T_api_Token.d
    have h103:=(Int.toNat_natCast _).symm.trans h103 |>.symm
    rw[h103] at h104
    have k:=And.intro h103 k
    try simp only[sevalprocAttr,List.map_nil,Int.toNat_natCast,dd] at h104
    have q:=And.intro @h100<|And.intro @h101<|And.intro @h102<|And.intro @h103<|And.intro @h104<|q
    refine zz ?_
    subst hK97 gK97
    refine es<|xs<|xs<|rz ?_
    refine es<|xb ?_
    obtain⟨e108,h269,h⟩:=bs h
    refine rb_loop (fun x107=>⟨envL [(4,.sl (r7.map D.str)),(7,.own 0 x107.2.length),(28,.sl (r7.map D.str)),(29,.int .i64 (r7.length:Int)),(30,.int .i64 x107.1)],heapL [(0,.vec 86 2 (x107.2.map T_api_Token.d) false)],1,58⟩) (fun _=>.exit 2) (fun e108=>⟨envL [(7,.own 0 e108.length)],heapL [(0,.vec 86 2 (e108.map T_api_Token.d) false)],1,58⟩) h269 (wk [(0,some 5)]) (by intro w;simp) ?_ ?_
    ·clear h
     intro x107 y h
     unfold g_token_Split_s2 at h
     refine xs<|rz ?_
     refine es<|xs ?_
     rcases iK k h with⟨k,h⟩|⟨k,h⟩
     ·refine xt<|xk<|es<|xs<|xb<|xs<|rK fun K233 RK233 hK233 gK233=>zz ?_
      obtain⟨y234,q,h⟩:=bK q h
      refine zz ?_
      subst hK233 gK233
      refine es<|xs<|rK fun K244 RK244 hK244 gK244=>zz ?_
      obtain⟨y245,q,h⟩:=oN q h
      refine zz ?_
      obtain⟨m246,h247,h⟩:=bind_some h
      obtain⟨h248,h249,h250,h251⟩:=setI_some h247
      have h251:=h251 T_api_Token.d
      try simp only[sevalprocAttr,List.map_nil,dd] at h251
      have q:=And.intro @h248<|And.intro @h249<|And.intro @h250<|And.intro @h251<|q
      refine zz ?_
      subst hK244 gK244
      refine es<|xs<|rz ?_
      refine es ?_
      rcases iK k h with⟨k,h⟩|⟨k,h⟩
      ·refine xt<|rK fun K255 RK255 hK255 gK255=>zz ?_
       obtain⟨y256,q,h⟩:=bK q h
       refine zz ?_
       obtain⟨r258,h259,h⟩:=bs h
       refine cw (a_token_Strength hI hShp h259)<|zz ?_
       obtain⟨y260,q,h⟩:=oN q h
       refine zz ?_
       obtain⟨m261,h262,h⟩:=bind_some h
       obtain⟨h263,h264,h265,h266⟩:=setI_some h262
       have h266:=h266 T_api_Token.d
       try simp only[sevalprocAttr,List.map_nil,dd] at h266
       have q:=And.intro @h263<|And.intro @h264<|And.intro @h265<|And.intro @h266<|q
       refine zz ?_
       subst hK255 gK255
       refine bn<|es<|rz ?_
       cases h
       exact en ⟨rfl,wk []⟩
      ·refine xf<|xk<|bn<|es<|rz ?_
       cases h
       exact en ⟨rfl,wk []⟩
     ·refine xf<|xx<|ee ?_
      cases h
      exact en ⟨rfl,wk []⟩
    ·refine bh<|es<|xs<|rz ?_
     refine es<|xr ?_
     cases h
     exact en fr
def g_strings_Contains2(s t:List UInt8):Option Bool:=if s.length < 4294967281 then some (Lib.contains s t) else none
theorem a_strings_Contains2(I:World→Prop)(hI:Stab I)(hShp:∀ w,I w→Shp w)(s t:List UInt8){r:Bool}(h:g_strings_Contains2 s t=some r):AFun Tryz.prog I 164 [.str s,.str t] (.bool r):=by
 obtain⟨hs,h⟩:=ite_on h
 obtain rfl:=Option.some.inj h
 refine AFun.of_calls (v:=.bool (Lib.contains s t)) (by kernel_rfl) (fun w F=>.bool _) ?_
 intro w F args hIw _ hl hr
 match args,hl with
 | [v,u],_ =>
  obtain⟨rfl,_⟩:=rep_str1 (hr 0 v _ rfl rfl)
  obtain⟨rfl,_⟩:=rep_str1 (hr 1 u _ rfl rfl)
  obtain⟨m,hm⟩:=hShp w hIw
  refine(Tryz.strings_Contains ⟨s.toArray⟩ ⟨t.toArray⟩ m w (by simpa[ByteArray.size] using hs) hm).mono ?_
  rintro e w' ⟨rfl,rfl⟩
  exact⟨rfl,Below.refl _ _⟩
abbrev Tab(w : World) : Prop := Lib.TabIs Tryz.prog w "internal/strconv.uint64pow10" .u64 Lib.pow10Tab
theorem gTab : Tryz.prog.globalNamed "internal/strconv.uint64pow10" = some 3 := by kernel_rfl
theorem tab_below_at{w w' : World}(h : Tab w)(hb : w'.heap[3]? = w.heap[3]?) : Tab w' := by
  unfold Tab Lib.TabIs World.var? at h ⊢
  rw [gTab] at h ⊢
  simp only [Option.bind_some] at h ⊢
  rw [hb]
  exact h
theorem tab_lt{w : World}(h : Tab w) : 3 < w.heap.size := by
  rcases Nat.lt_or_ge 3 w.heap.size with h1 | h1
  · exact h1
  · exfalso
    have h2 := h.cell gTab 0 (by decide)
    simp [World.cell?, Array.getElem?_eq_none h1] at h2
theorem tab_below{w w' : World}(h : Tab w)(hb : Below w.heap.size w w') : Tab w' := tab_below_at h (hb.block _ (tab_lt h))
def g_strconv_FormatInt(n b:Int):Option (List UInt8):=if b=10 then some (Lib.itoa n) else none
theorem a_strconv_FormatInt(I:World→Prop)(hI:Stab I)(hTab:∀ w,I w→Tab w)(n b:Int){r:List UInt8}(h:g_strconv_FormatInt n b=some r):AFun Tryz.prog I 155 [.int .i64 n,.int .i64 b] (.str r):=by
 obtain⟨rfl,h⟩:=ite_on h
 obtain rfl:=Option.some.inj h
 refine AFun.sized (by kernel_rfl) fun hz=>?_
 simp only[List.mem_cons,List.not_mem_nil,or_false,forall_eq_or_imp,forall_eq,Sz_i64] at hz
 obtain⟨⟨h0,h1⟩,_⟩:=hz
 refine AFun.of_calls (v:=.string ⟨(Lib.itoa n).toArray⟩) (by kernel_rfl) (fun w F=>.str _ (by have:=Lib.itoa_length_le n h0 h1;unfold maxLen;omega)) ?_
 intro w F args hIw _ hl hr
 match args,hl with
 | [v,u],_ =>
  obtain rfl:=rep_int1 (hr 0 v _ rfl rfl)
  obtain rfl:=rep_int1 (hr 1 u _ rfl rfl)
  refine(Tryz.strconv_FormatInt_10 n h0 h1 w (hTab w hIw)).mono ?_
  rintro e w' ⟨rfl,k,os,rfl⟩
  refine⟨rfl,rfl,rfl,rfl,?_,fun i hi=>?_⟩
  ·simp[Go.Sort.grow]
  ·simp[Go.Sort.grow,Array.getElem?_append,hi]
def PIv (w:World):Prop:=(∃ te pe,w.cell? ⟨4,0,none⟩=some (.iface te pe))∧∃ te pe,w.cell? ⟨5,0,none⟩=some (.iface te pe)
theorem stabPIv:Stab PIv:=fun _ _ ⟨⟨a,b,h⟩,⟨c,d,k⟩⟩ hb=>⟨⟨a,b,cell_below h hb⟩,⟨c,d,cell_below k hb⟩⟩
section
variable {P:Program}{I:World→Prop}{f:FuncId}{ds:List D}
theorem AFun.of_vals(he:enterable P f=true)(d:D)
  (h:∀ (w:World) (F:Nat→Nat→Prop) (args:List Value),I w→FB (cF F) w→args.length=ds.length→(∀ (i:Nat) v d,args[i]? = some v→ds[i]? = some d→Rep w (cF F) v d)→Calls P f args.toArray w fun e w'=>∃ v,e=.returned v∧Below w.heap.size w w'∧∀ F,Rep w' (cF F) v d):AFun P I f ds d:=by
 refine⟨he,fun w F args hI hfb hl hr=>?_⟩
 refine(h w F args hI hfb hl hr).mono ?_
 rintro e w' ⟨v,rfl,hb,hv⟩
 exact⟨v,F,rfl,hb,⟨fun _ _ h=>h,fun b o hF=>hb.block b (hfb b o hF),fun _ h=>h,fun _ _=>rfl⟩,fun b o hF=>Nat.lt_of_lt_of_le (hfb b o hF) hb.size,fun _ _ h=>.inl h,hv F⟩
end
theorem rep_tup2{w:World}{C:Cx}{u v:Value}{d e:D}(h:Rep w C u d)(k:Rep w C v e):Rep w C (.tuple #[u,v]) (.tup [d,e]):=by
 refine .tup [u,v] [d,e] rfl fun i x y hx hy=>?_
 match i,hx,hy with
 | 0,hx,hy=>simp at hx hy;subst hx hy;exact h
 | 1,hx,hy=>simp at hx hy;subst hx hy;exact k
 | (n+2),hx,hy=>simp at hx
def g_strings_CutPrefix(s p:List UInt8):Option (List UInt8 × Bool):=some (Lib.trimPrefix s p,Lib.hasPrefix s p)
theorem trimPrefix_len(s p:List UInt8):(Lib.trimPrefix s p).length≤s.length:=by
 unfold Lib.trimPrefix
 split
 ·simp
 ·exact Nat.le_refl _
theorem a_strings_CutPrefix(I:World→Prop)(hI:Stab I)(s p:List UInt8){r:List UInt8 × Bool}(h:g_strings_CutPrefix s p=some r):AFun Tryz.prog I 184 [.str s,.str p] (.tup [.str r.1,.bool r.2]):=by
 obtain rfl:=Option.some.inj h
 refine AFun.of_vals (by kernel_rfl) _ ?_
 intro w F args hIw _ hl hr
 match args,hl with
 | [v,u],_ =>
  obtain⟨rfl,hs⟩:=rep_str1 (hr 0 v _ rfl rfl)
  obtain⟨rfl,_⟩:=rep_str1 (hr 1 u _ rfl rfl)
  refine(Tryz.strings_CutPrefix ⟨s.toArray⟩ ⟨p.toArray⟩ w).mono ?_
  rintro e w' ⟨rfl,rfl⟩
  exact⟨_,rfl,Below.refl _ _,fun F=>rep_tup2 (.str _ (by have:=trimPrefix_len s p;simpa using Nat.le_trans this hs)) (.bool _)⟩
def g_strconv_ParseInt(s:List UInt8)(b n:Int):Option (Int × Bool):=if b=10∧n=64∧s.length≤281474976710656 then(match Lib.parseIntB 64 s with
 | .ok v=>some (v,false)
 | .range=>some (Lib.intSat 64 s,true)
 | _=>some (0,true)) else none
theorem parseIntB_range(s:List UInt8)(v:Int)(h:Lib.parseIntB 64 s=.ok v):-9223372036854775808≤v∧v≤9223372036854775807:=by
 unfold Lib.parseIntB at h
 split at h
 ·cases h
 ·simp only at h
  split at h
  ·cases h
  ·cases h
  ·rename_i u _
   split at h
   ·cases h
   ·split at h
    ·cases h
    ·rename_i h1 h2
     injection h with h
     subst h
     split<;>simp_all<;>omega
theorem a_strconv_ParseInt(I:World→Prop)(hI:Stab I)(hPIv:∀ w,I w→PIv w)(s:List UInt8)(b n:Int){r:Int × Bool}(h:g_strconv_ParseInt s b n=some r):AFun Tryz.prog I 185 [.str s,.int .i64 b,.int .i64 n] (.tup [.int .i64 r.1,.err r.2]):=by
 unfold g_strconv_ParseInt at h
 replace h:=ite_on h
 obtain⟨hc,h⟩:=h
 obtain⟨rfl,rfl,h1⟩:=hc
 refine AFun.of_vals (by kernel_rfl) _ ?_
 intro w F args hIw _ hl hr
 match args,hl with
 | [v,u,x],_ =>
  obtain⟨rfl,hs⟩:=rep_str1 (hr 0 v _ rfl rfl)
  obtain rfl:=rep_int1 (hr 1 u _ rfl rfl)
  obtain rfl:=rep_int1 (hr 2 x _ rfl rfl)
  obtain⟨⟨ts,ps,hs1⟩,⟨tr,pr,hr1⟩⟩:=hPIv w hIw
  cases hp:Lib.parseIntB 64 s
  ·rename_i v
   rw[hp] at h
   obtain rfl:=Option.some.inj h
   refine(Tryz.strconv_ParseInt_10_at64_ok ⟨s.toArray⟩ (by simp[ByteArray.size];omega) v hp w).mono ?_
   rintro e w' ⟨rfl,hw⟩
   refine⟨_,rfl,?_,fun F=>rep_tup2 (.int _ _ (parseIntB_range s v hp)) .err0⟩
   rcases hw with rfl|⟨t,rfl⟩
   ·exact Below.refl _ _
   ·exact⟨rfl,rfl,rfl,by rw[Lib.bytesWorld_size];omega,fun j hj=>Lib.bytesWorld_at_old _ _ _ j hj⟩
  ·rw[hp] at h
   obtain rfl:=Option.some.inj h
   refine(Tryz.strconv_ParseInt_10_at64_syntax ⟨s.toArray⟩ (by simpa[ByteArray.size] using h1) hp _ w hs1 (.inr ⟨_,_,rfl⟩)).mono ?_
   rintro e w' ⟨N,rfl,_,_,hb⟩
   exact⟨_,rfl,hb,fun F=>rep_tup2 (.int _ _ (by decide)) (.err1 _ _)⟩
  ·rw[hp] at h
   obtain rfl:=Option.some.inj h
   refine(Tryz.strconv_ParseInt_10_at64_range ⟨s.toArray⟩ (by simpa[ByteArray.size] using h1) hp _ w hr1 (.inr ⟨_,_,rfl⟩)).mono ?_
   rintro e w' ⟨N,rfl,_,_,hb⟩
   exact⟨_,rfl,hb,fun F=>rep_tup2 (.int _ _ (by show inR _ (Lib.intSat 64 s);unfold Lib.intSat inR;split<;>simp[kLo,kHi])) (.err1 _ _)⟩
structure GX where
 i0:World
 w0:World
 C0:Cx
 B:Bx
 n0:Nat
 N:Nat
 hM:∀ k,B.M k→i0.heap.size≤k
 bI:Below i0.heap.size i0 w0
 fr:∀ id,n0≤id→id < N→¬ C0.live id
structure RX(I:World→Prop)(G:GX)(L:Nat→Prop)(S:AS)(C:Cx)(a:Act)(w:World):Prop where
 ok:StOK C w a G.B S
 inv:I G.i0
 below:BelM G.B.M G.w0 w
 new:∀ b o,C.F b o→G.C0.F b o∨G.B.M b
 ext:Ext G.C0 G.w0 C w
 defers:a.defers=[]
 size:a.tmps.size=S.nt
 live:∀ id,C.live id→G.C0.live id∨L id
theorem RX.belI{I:World→Prop}{G:GX}{L:Nat→Prop}{S:AS}{C:Cx}{a:Act}{w:World}(h:RX I G L S C a w):Below G.i0.heap.size G.i0 w :=
 ⟨h.below.os.trans G.bI.os,h.below.tape.trans G.bI.tape,h.below.output.trans G.bI.output,Nat.le_trans G.bI.size h.below.size,fun k hk =>
  (h.below.block k (Nat.lt_of_lt_of_le hk G.bI.size) (fun hm=>by have:=G.hM k hm;omega)).trans (G.bI.block k hk)⟩
def XOK (P:Program)(I:World→Prop)(f:FuncId)(ds:List D)(H:Nat→Option Blk)(n m:Nat)(d:D)(H':Nat→Option Blk):Prop :=
 enterable P f=true∧∀ (i0 w:World) (C:Cx) (B:Bx) (args:List Value),I i0→Below i0.heap.size i0 w→(∀ k,B.M k→i0.heap.size≤k)→HOK C w B H→FB C w→(∀ g,w.heap.size≤g→B.M g)→(∀ id,n≤id→id < m→¬ C.live id)→args.length=ds.length →
  (∀ (i:Nat) v d,args[i]? = some v→ds[i]? = some d→Rep w C v d) →
  Calls P f args.toArray w fun e w'=>∃ v C',e=.returned v∧BelM B.M w w'∧Ext C w C' w'∧Rep w' C' v d∧HOK C' w' B H'∧FB C' w'∧(∀ id,C'.live id→C.live id∨n≤id∧id < m)∧∀ b o,C'.F b o→C.F b o∨B.M b
theorem XOK.of{P:Program}{I:World→Prop}{f:FuncId}{ds:List D}{H:Nat→Option Blk}{n:Nat}{d:D}{eff:Eff}(h:CallOK P I f ds H n d eff):XOK P I f ds H n (n+1) d (appEff H eff):=by
 refine⟨h.1,fun i0 w C B args hI hb hM hH hF hB hfr hl hr=>?_⟩
 refine(h.2 i0 w C B args hI hb hM hH hF hB (hfr n (Nat.le_refl _) (by omega)) hl hr).mono ?_
 rintro e w' ⟨v,C',h1,h2,h3,h4,h5,h6,h7,h8⟩
 exact⟨v,C',h1,h2,h3,h4,h5,h6,fun j hl=>(h7 j hl).imp id fun h=>by omega,h8⟩
theorem XOK.pure{P:Program}{I:World→Prop}(hstab:Stab I){f:FuncId}{ds ds':List D}{H:Nat→Option Blk}{n:Nat}{d:D}{eff:Eff}(hp:purDs H ds=some (ds',eff))(h:AFun P I f ds' d):XOK P I f ds H n n d (appEff H eff):=by
 refine⟨h.1,fun i0 w C B args hI hb hM hH hF hB hfr hl hr=>?_⟩
 obtain⟨C1,hP,hvl,hvr⟩:=purDs_sound (w:=w) (B:=B) ds args C H ds' eff hH hF hl hr hp
 refine(h.2 w C1.F args (hstab _ _ hI hb) hP.fb hvl (fun i v d hv hd=>(hvr i v d hv hd).1)).mono ?_
 rintro e w' ⟨v,F',rfl,hb',hext,hfb,hnew,hrep⟩
 have he2:Ext C1 w ⟨F',C1.σ,C1.live⟩ w':=⟨hext.F,hext.blk,fun _ h=>h,fun _ _=>rfl⟩
 refine⟨v,⟨F',C1.σ,C1.live⟩,rfl,BelM.of hb',hP.ext.trans he2,hrep.ext ⟨fun _ _ h=>h,fun _ _ _=>rfl,fun _ h=>h.elim,fun _ h=>h.elim⟩,?_,hfb,fun id h=>.inl (by have:C1.live id:=h;rwa[hP.live] at this),fun b o h=>?_⟩
 ·refine⟨fun id b h=>?_,hP.ok.own,hP.ok.pin,fun id id' b b' h h' hne g hg hg'=>hP.ok.apart id id' b b' h h' hne g hg hg'⟩
  obtain⟨k1,k2⟩:=hP.ok.rep id b h
  refine⟨k1,k2.keep k1 he2 (fun g hg=>hb'.block g (k2.lt g hg).2) (fun g o hg ho=>?_)⟩
  rcases hnew g o ho with h1|h1
  ·exact h1
  ·have:=(k2.lt g hg).2;omega
 ·rcases hnew b o h with h1|h1
  ·exact hP.new b o h1
  ·exact .inr (hB b h1)
def StXZ (P:Program)(I:World→Prop)(ops:Array Oper)(o:Oper)(S:AS)(n m:Nat)(d:D)(H':Nat→Option Blk):Prop :=
 (awant ops S.env o=some false∧d=.undef∧H'=S.heap) ∨
 (awant ops S.env o=some true∧((∃ f ds,acallee S o.op=some (f,ds)∧XOK P I f ds S.heap n m d H') ∨
  (acallee S o.op=none∧∃ eff,n < m∧H'=appEff S.heap eff∧∀ (C:Cx) (a:Act) (w:World) (B:Bx),StOK C w a B S→¬ C.live n→OpOK P o a w C B S.heap n d eff)))
def AS.stepH(S:AS)(o:Oper)(d:D)(H':Nat→Option Blk):AS :=
 { S with env:=(match o.dst with|some t=>upd S.env t d|none=>S.env),heap:=H' }
section
variable {P:Program}{I:World→Prop}{G:GX}{L:Nat→Prop}{S:AS}{C:Cx}{a:Act}{w:World}{ops:Array Oper}{Q:Exit→Act→World→Prop}
theorem RX.next{C':Cx}{w':World}{o:Oper}{v:Value}{d:D}{H':Nat→Option Blk}{L':Nat→Prop}(hR:RX I G L S C a w)(hb:BelM G.B.M w w')(e:Ext C w C' w')(hr:Rep w' C' v d)(hH:HOK C' w' G.B H')(hF:FB C' w')
  (hn:∀ b o,C'.F b o→C.F b o∨G.B.M b) (hl:∀ id,C'.live id→C.live id∨L' id) (hL:∀ id,L id→L' id) (hd:∀ t,o.dst=some t→t < a.tmps.size):RX I G L' (S.stepH o d H') C' (a.put o.dst v) w' where
 ok:=⟨hR.ok.env.put e hr hd,hH,hF,fun g hg=>hR.ok.base g (Nat.le_trans hb.size hg)⟩
 inv:=hR.inv
 below:=hR.below.trans hb
 new:=fun b o h=>(hn b o h).elim (hR.new b o) .inr
 ext:=hR.ext.trans e
 defers:=by rw[put_defers];exact hR.defers
 size:=by rw[put_size];exact hR.size
 live:=fun j h=>(hl j h).elim (fun h=>(hR.live j h).imp id (hL j)) .inr
theorem wanted_repX(hR:RX I G L S C a w){o:Oper}{r:Bool}(hd:dstsOk ops S.nt=true)(h:awant ops S.env o=some r):Region.wanted o (yielded ops a.tmps)=r:=by
 unfold awant at h
 unfold Region.wanted
 cases hg:o.guard with
 | none=>rw[hg] at h;simpa using h
 | some jw =>
  obtain⟨j,want⟩:=jw
  rw[hg] at h
  simp only at h ⊢
  unfold yielded
  have hgd:gdst ops j=(ops[j]?).bind (fun o:Oper=>o.dst):=by unfold gdst;cases ops[j]?<;>rfl
  rw[hgd] at h
  cases hj:(ops[j]?).bind (fun o:Oper=>o.dst) with
  | none=>rw[hj] at h;simp at h;subst h;simp
  | some t =>
   rw[hj] at h
   simp only[Option.bind_some] at h ⊢
   exact yielded_rep hR.ok.env (by rw[hR.size];exact dstsOk_at hd hj) h
theorem stX_sound(hR:RX I G L S C a w)(hd:dstsOk ops S.nt=true){i n m:Nat}{o:Oper}(ho:ops[i]? = some o)(hn:∀ id,n≤id→id < m→¬ G.C0.live id∧¬ L id){d:D}{H':Nat→Option Blk}(h:StXZ P I ops o S n m d H'){K':Act→World→Prop}
  (hK:∀ C' a' w',RX I G (fun id=>L id∨n≤id∧id < m) (S.stepH o d H') C' a' w'→K' a' w'):wpOp P ops Q i K' a w:=by
 have hdst:∀ t,o.dst=some t→t < a.tmps.size:=fun t ht=>by rw[hR.size];exact dstsOk_at hd (j:=i) (by rw[ho];simpa using ht)
 have hfr:∀ id,n≤id→id < m→¬ C.live id:=fun id h1 h2 hl=>(hR.live id hl).elim (hn id h1 h2).1 (hn id h1 h2).2
 unfold wpOp
 rw[ho]
 simp only
 rcases h with⟨hw,rfl,rfl⟩|⟨hw,h⟩
 ·rw[wanted_repX hR hd hw]
  simp only[Bool.false_eq_true,if_false]
  exact hK C _ w (hR.next (BelM.refl _ _) (Ext.refl _ _) .undef hR.ok.heap hR.ok.fb (fun _ _ h=>.inl h) (fun id h=>.inl h) (fun id h=>.inl h) hdst)
 ·rw[wanted_repX hR hd hw]
  simp only[if_true]
  left
  rcases h with⟨f,ds,hc,hent,hA⟩|⟨hc,eff,hnm,rfl,hop⟩
  ·obtain⟨vs,hrun,hvl,hvr⟩:=callee_run (w:=w) hR.ok.env hc hent
   unfold Oper.wp
   rw[hrun]
   simp only[Oper.upon]
   refine(hA G.i0 w C G.B vs hR.inv hR.belI G.hM hR.ok.heap hR.ok.fb hR.ok.base hfr hvl hvr).mono ?_
   rintro e w' ⟨v,C',rfl,hb,hext,hrep,hH,hfb,hl,hnew⟩
   exact hK C' _ w' (hR.next (o:=o) hb hext hrep hH hfb hnew (fun id h=>(hl id h).imp (fun h=>h) .inr) (fun id h=>.inl h) hdst)
  ·obtain⟨nx,v,w',C',hrun,hnx,hb,hext,hrep,hH,hfb,hl,hnew⟩:=hop C a w G.B hR.ok (hfr n (Nat.le_refl _) hnm)
   unfold Oper.wp
   rw[hrun]
   have hrel:=hR.next (o:=o) (L':=fun id=>L id∨n≤id∧id < m) hb hext hrep hH hfb hnew (fun id h=>(hl id h).imp (fun h=>h) fun h=>.inr (by omega)) (fun id h=>.inl h) hdst
   rcases hnx with rfl|⟨rfl,rfl⟩
   ·exact hK C' _ w' hrel
   ·exact hK C' _ w' hrel
end
inductive Tr(α:Type) where
 | nil
 | node (l:Tr α) (v:Option α) (r:Tr α)
def Tr.get{α:Type}:Tr α→Nat→Option α
 | .nil,_=>none
 | .node l v r,n=>match n with
  | 0=>v
  | m+1=>match Nat.beq (m % 2) 0 with
   | true=>l.get (m / 2)
   | false=>r.get (m / 2)
def Tr.set{α:Type}:Nat→Tr α→Nat→Option α→Tr α
 | 0,t,_,_=>t
 | f+1,.nil,n,x=>match n with
  | 0=>.node .nil x .nil
  | m+1=>match Nat.beq (m % 2) 0 with
   | true=>.node (Tr.set f .nil (m / 2) x) none .nil
   | false=>.node .nil none (Tr.set f .nil (m / 2) x)
 | f+1,.node l v r,n,x=>match n with
  | 0=>.node l x r
  | m+1=>match Nat.beq (m % 2) 0 with
   | true=>.node (Tr.set f l (m / 2) x) v r
   | false=>.node l v (Tr.set f r (m / 2) x)
theorem Tr.get_set{α:Type}(x:Option α):∀ (f:Nat) (t:Tr α) (n k:Nat),n+1 < 2 ^ f→(Tr.set f t n x).get k=if k=n then x else t.get k
 | 0,t,n,k,h=>by simp at h
 | f+1,t,n,k,h=>by
  have ih:=Tr.get_set x f
  have hp:2 ^ (f+1)=2 * 2 ^ f:=by rw[Nat.pow_succ,Nat.mul_comm]
  cases t with
  | nil =>
   cases n with
   | zero =>
    cases k with
    | zero=>simp[Tr.set,Tr.get]
    | succ k=>simp only[Tr.set,Tr.get];split<;>simp[Tr.get]
   | succ m =>
    have hm:m / 2+1 < 2 ^ f:=by omega
    cases k with
    | zero=>simp only[Tr.set];split<;>simp[Tr.get]
    | succ j =>
     by_cases he:j=m
     ·subst he
      cases hb:Nat.beq (j % 2) 0<;>simp only[Tr.set,hb,Tr.get,ih _ _ _ hm,if_true]
     ·rw[if_neg (show ¬ j+1=m+1 by omega)]
      cases hb:Nat.beq (m % 2) 0<;>cases hc:Nat.beq (j % 2) 0<;>simp only[Tr.set,hb,Tr.get,hc,ih _ _ _ hm]
      ·have h1:=Nat.ne_of_beq_eq_false hb
       have h2:=Nat.ne_of_beq_eq_false hc
       rw[if_neg (by omega)]
      ·have h1:=Nat.eq_of_beq_eq_true hb
       have h2:=Nat.eq_of_beq_eq_true hc
       rw[if_neg (by omega)]
  | node l v r =>
   cases n with
   | zero =>
    cases k with
    | zero=>simp[Tr.set,Tr.get]
    | succ k=>simp only[Tr.set,Tr.get];split<;>simp
   | succ m =>
    have hm:m / 2+1 < 2 ^ f:=by omega
    cases k with
    | zero=>simp only[Tr.set];split<;>simp[Tr.get]
    | succ j =>
     by_cases he:j=m
     ·subst he
      cases hb:Nat.beq (j % 2) 0<;>simp only[Tr.set,hb,Tr.get,ih _ _ _ hm,if_true]
     ·rw[if_neg (show ¬ j+1=m+1 by omega)]
      cases hb:Nat.beq (m % 2) 0<;>cases hc:Nat.beq (j % 2) 0<;>simp only[Tr.set,hb,Tr.get,hc,ih _ _ _ hm]
      ·have h1:=Nat.ne_of_beq_eq_false hb
       have h2:=Nat.ne_of_beq_eq_false hc
       rw[if_neg (by omega)]
      ·have h1:=Nat.eq_of_beq_eq_true hb
       have h2:=Nat.eq_of_beq_eq_true hc
       rw[if_neg (by omega)]
def small(n:Nat):Bool:=Nat.blt n 1000000
theorem small_lt{n:Nat}(h:small n=true):n+1 < 2 ^ 20:=by
 unfold small at h
 rw[Nat.blt_eq] at h
 have:(2:Nat) ^ 20=1048576:=by decide
 omega
def putT {α:Type}(t:Tr α)(n:Nat)(x:Option α):Option (Tr α):=match small n with
 | true=>some (Tr.set 20 t n x)
 | false=>none
theorem putT_get{α:Type}{t t':Tr α}{n:Nat}{x:Option α}(h:putT t n x=some t')(k:Nat):t'.get k=if k=n then x else t.get k:=by
 unfold putT at h
 split at h
 ·rename_i hs
  simp only[Option.some.injEq] at h
  subst h
  exact Tr.get_set x 20 t n k (small_lt hs)
 ·cases h
def appTr(t:Tr Blk):Eff→Option (Tr Blk)
 | []=>some t
 | (id,b)::rest=>match putT t id b with
  | some t'=>appTr t' rest
  | none=>none
theorem appTr_get:∀ (eff:Eff) {t t':Tr Blk},appTr t eff=some t'→t'.get=appEff t.get eff
 | [],t,t',h=>by simp only[appTr,Option.some.injEq] at h;subst h;rfl
 | (id,b)::rest,t,t',h=>by
  simp only[appTr] at h
  cases h1:putT t id b with
  | none=>rw[h1] at h;cases h
  | some t1 =>
   rw[h1] at h
   simp only at h
   have h2:=appTr_get rest h
   rw[h2,appEff]
   congr 1
   funext k
   rw[putT_get h1]
   rfl
structure ES where
 env:Tr D
 heap:Tr Blk
 n:Nat
 lg:List Nat
def envT (t:Tr D)(k:Nat):D:=match t.get k with
 | some d=>d
 | none=>.any
def ES.as(s:ES)(nt:Nat):AS:=⟨envT s.env,s.heap.get,s.n,nt⟩
abbrev CallF:=FuncId→List D→Tr Blk→Nat→Option (D × Tr Blk × Nat × List Nat)
def putE (o:Oper)(s:ES)(d:D)(h:Tr Blk)(n:Nat)(l:List Nat):Option ES:=match o.dst with
 | some t=>match putT s.env t (some d) with
  | some e=>some ⟨e,h,n,l⟩
  | none=>none
 | none=>some ⟨s.env,h,n,l⟩
theorem putE_as{o:Oper}{s s':ES}{d:D}{h:Tr Blk}{n nt:Nat}{l:List Nat}(hp:putE o s d h n l=some s'):s'.as nt={ (s.as nt).stepH o d h.get with next:=n }∧s'.n=n∧s'.heap=h∧s'.lg=l:=by
 unfold putE at hp
 cases ho:o.dst with
 | none =>
  rw[ho] at hp
  simp only[Option.some.injEq] at hp
  subst hp
  exact⟨by simp[ES.as,AS.stepH,ho],rfl,rfl,rfl⟩
 | some t =>
  rw[ho] at hp
  simp only at hp
  cases h1:putT s.env t (some d) with
  | none=>rw[h1] at hp;cases hp
  | some e =>
   rw[h1] at hp
   simp only[Option.some.injEq] at hp
   subst hp
   refine⟨?_,rfl,rfl,rfl⟩
   simp only[ES.as,AS.stepH,ho]
   congr 1
   funext k
   unfold envT
   rw[putT_get h1]
   simp only[upd]
   by_cases hk:k=t
   ·rw[if_pos hk,if_pos hk]
   ·rw[if_neg hk,if_neg hk]
abbrev OpF:=Op→Nat→AS→Option (D × Eff)
def evO (E:OpF)(cf:CallF)(nt:Nat)(ops:Array Oper)(o:Oper)(s:ES):Option ES :=
 match awant ops (envT s.env) o with
 | none=>none
 | some false=>putE o s .undef s.heap s.n s.lg
 | some true=>match acallee (s.as nt) o.op with
  | some (f,ds)=>match cf f ds s.heap s.n with
   | some (d,h,n,l)=>putE o s d h n (l++s.lg)
   | none=>none
  | none=>match E o.op s.n (s.as nt) with
   | some (d,eff)=>match appTr s.heap eff with
    | some h=>putE o s d h (s.n+1) (eff.map (·.1)++s.lg)
    | none=>none
   | none=>none
def evOs (E:OpF)(cf:CallF)(nt:Nat)(ops:Array Oper):List Oper→ES→Option ES
 | [],s=>some s
 | o::l,s=>match evO E cf nt ops o s with
  | some s'=>evOs E cf nt ops l s'
  | none=>none
def evLoop(b:ES→Option (AExit × ES)):Nat→ES→Option (AExit × ES)
 | 0,_=>none
 | k+1,s=>match b s with
  | some (.normal,s')=>evLoop b k s'
  | r=>r
def evC (E:OpF)(cf:CallF)(df:Nat→Array Oper→ES→Option ES)(lf nt:Nat):Code→ES→Option (AExit × ES)
 | .skip,s=>some (.normal,s)
 | .label _,s=>some (.normal,s)
 | .region _ ops false,s=>match evOs E cf nt ops ops.toList s with
  | some s'=>some (.normal,s')
  | none=>none
 | .region _ ops true,s=>match df nt ops s with
  | some s'=>some (.normal,s')
  | none=>none
 | .seq x y,s=>match evC E cf df lf nt x s with
  | some (.normal,s')=>evC E cf df lf nt y s'
  | r=>r
 | .cond c x y,s=>match (s.as nt).val c with
  | .bool true=>evC E cf df lf nt x s
  | .bool false=>evC E cf df lf nt y s
  | _=>none
 | .block id c,s=>match evC E cf df lf nt c s with
  | some (.exit id',s')=>match Nat.beq id' id with
   | true=>some (.normal,s')
   | false=>some (.exit id',s')
  | r=>r
 | .exit id,s=>some (.exit id,s)
 | .ret,s=>some (.ret,s)
 | .loop c,s=>evLoop (evC E cf df lf nt c) lf s
 | _,_=>none
def argT:List D→Nat→Tr D→Option (Tr D)
 | [],_,t=>some t
 | d::ds,i,t=>match putT t i (some d) with
  | some t'=>argT ds (i+1) t'
  | none=>none
def evFn (P:Program)(E:OpF)(cf:CallF)(df:Nat→Array Oper→ES→Option ES)(lf:Nat):CallF:=fun f ds h n =>
 match P.funcs[f]? with
 | some fn=>match fn.body with
  | some c=>match (fn.name != "runtime.NumGoroutine")&&decide (ds.length≤fn.ntmps)&&codeOk fn.ntmps c,argT ds 0 .nil with
   | true,some e=>match evC E cf df lf fn.ntmps c ⟨e,h,n,[]⟩ with
    | some (.normal,s)=>match resD P (s.as fn.ntmps) fn.results.toList with
     | some rs=>some (mkRes rs,s.heap,s.n,s.lg)
     | none=>none
    | some (.ret,s)=>match resD P (s.as fn.ntmps) fn.results.toList with
     | some rs=>some (mkRes rs,s.heap,s.n,s.lg)
     | none=>none
    | _=>none
   | _,_=>none
  | none=>none
 | none=>none
def evF (P:Program)(E:OpF)(X:CallF)(df:CallF→Nat→Array Oper→ES→Option ES)(lf:Nat):Nat→CallF
 | 0=>fun _ _ _ _=>none
 | k+1=>fun f ds h n=>match X f ds h n with
  | some r=>some r
  | none=>evFn P E (evF P E X df lf k) (df (evF P E X df lf k)) lf f ds h n
def OpSound(P:Program)(E:OpF):Prop:=∀ (o:Oper) n S d eff,E o.op n S=some (d,eff)→∀ (C:Cx) (a:Act) (w:World) (B:Bx),StOK C w a B S→¬ C.live n→OpOK P o a w C B S.heap n d eff
def CallSound(P:Program)(I:World→Prop)(cf:CallF):Prop:=∀ f ds h n d h' m l,cf f ds h n=some (d,h',m,l)→n≤m∧XOK P I f ds h.get n m d h'.get∧∀ id,id ∉ l→h'.get id=h.get id
def Mo (s s':ES):Prop:=s.n≤s'.n∧∀ id,id ∉ s'.lg→id ∉ s.lg∧s'.heap.get id=s.heap.get id
theorem Mo.refl(s:ES):Mo s s:=⟨Nat.le_refl _,fun _ h=>⟨h,rfl⟩⟩
theorem Mo.trans{a b c:ES}(h:Mo a b)(k:Mo b c):Mo a c:=⟨Nat.le_trans h.1 k.1,fun id hi=>⟨(h.2 id (k.2 id hi).1).1,(k.2 id hi).2.trans (h.2 id (k.2 id hi).1).2⟩⟩
def Rg (n m:Nat):Nat→Prop:=fun id=>n≤id∧id < m
def DrawSound(P:Program)(I:World→Prop)(df:Nat→Array Oper→ES→Option ES):Prop:=∀ nt ops s s',df nt ops s=some s'→Mo s s'∧∀ (G:GX) (C:Cx) (a:Act) (w:World) (rid:Nat) (Q:Exit→Act→World→Prop),s'.n≤G.N→G.n0≤s.n→dstsOk ops nt=true →
 RX I G (Rg G.n0 s.n) (s.as nt) C a w→(∀ C' a' w',RX I G (Rg G.n0 s'.n) (s'.as nt) C' a' w'→Q .normal a' w')→(Code.region rid ops true).wp P Q a w
section
variable {P:Program}{I:World→Prop}{E:OpF}{cf:CallF}{df:Nat→Array Oper→ES→Option ES}{lf nt:Nat}{G:GX}{L:Nat→Prop}{C:Cx}{a:Act}{w:World}{ops:Array Oper}{Q:Exit→Act→World→Prop}
theorem RX.nx{S:AS}{n:Nat}(h:RX I G L S C a w):RX I G L { S with next:=n } C a w :=
 ⟨⟨h.ok.env,h.ok.heap,h.ok.fb,h.ok.base⟩,h.inv,h.below,h.new,h.ext,h.defers,h.size,h.live⟩
theorem RX.widen{S:AS}{L':Nat→Prop}(h:RX I G L S C a w)(hl:∀ id,L id→L' id):RX I G L' S C a w :=
 ⟨h.ok,h.inv,h.below,h.new,h.ext,h.defers,h.size,fun j hj=>(h.live j hj).imp (fun h=>h) (hl j)⟩
theorem evO_rel(hE:OpSound P E)(hcf:CallSound P I cf){o:Oper}{s s':ES}(h:evO E cf nt ops o s=some s'):Mo s s'∧∃ d H',StXZ P I ops o (s.as nt) s.n s'.n d H'∧s'.as nt={ (s.as nt).stepH o d H' with next:=s'.n }:=by
 unfold evO at h
 cases hw:awant ops (envT s.env) o with
 | none=>rw[hw] at h;cases h
 | some r =>
  rw[hw] at h
  cases r with
  | false =>
   simp only at h
   obtain⟨h1,h2,h3,h4⟩:=putE_as (nt:=nt) h
   refine⟨⟨by omega,fun id hi=>⟨by rw[h4] at hi;exact hi,by rw[h3]⟩⟩,_,_,.inl ⟨hw,rfl,rfl⟩,?_⟩
   rw[h2];exact h1
  | true =>
   simp only at h
   cases hc:acallee (s.as nt) o.op with
   | some fds =>
    obtain⟨f,ds⟩:=fds
    rw[hc] at h
    simp only at h
    cases hf:cf f ds s.heap s.n with
    | none=>rw[hf] at h;cases h
    | some r =>
     obtain⟨d,hh,m,l⟩:=r
     rw[hf] at h
     simp only at h
     obtain⟨h1,h2,k3,k4⟩:=putE_as (nt:=nt) h
     obtain⟨h3,h4,h5⟩:=hcf f ds s.heap s.n d hh m l hf
     refine⟨⟨by omega,fun id hi=>?_⟩,d,hh.get,.inr ⟨hw,.inl ⟨f,ds,hc,by rw[h2];exact h4⟩⟩,?_⟩
     ·rw[k4,List.mem_append] at hi
      exact⟨fun h=>hi (.inr h),by rw[k3];exact h5 id fun h=>hi (.inl h)⟩
     rw[h2];exact h1
   | none =>
    rw[hc] at h
    simp only at h
    cases he:E o.op s.n (s.as nt) with
    | none=>rw[he] at h;cases h
    | some r =>
     obtain⟨d,eff⟩:=r
     rw[he] at h
     simp only at h
     cases ha:appTr s.heap eff with
     | none=>rw[ha] at h;cases h
     | some hh =>
      rw[ha] at h
      simp only at h
      obtain⟨h1,h2,k3,k4⟩:=putE_as (nt:=nt) h
      refine⟨⟨by omega,fun id hi=>?_⟩,d,hh.get,.inr ⟨hw,.inr ⟨hc,eff,by omega,appTr_get eff ha,fun C a w B hS hn=>hE o _ _ d eff he C a w B hS hn⟩⟩,?_⟩
      ·rw[k4,List.mem_append] at hi
       refine⟨fun h=>hi (.inr h),?_⟩
       rw[k3,appTr_get eff ha]
       exact appEff_notin _ _ _ fun p hp he=>hi (.inl (List.mem_map.2 ⟨p,hp,he⟩))
      ·rw[h2];exact h1
theorem evOs_mono(hE:OpSound P E)(hcf:CallSound P I cf):∀ (l:List Oper) (s s':ES),evOs E cf nt ops l s=some s'→Mo s s'
 | [],s,s',h=>by simp only[evOs,Option.some.injEq] at h;subst h;exact Mo.refl _
 | o::l,s,s',h=>by
  simp only[evOs] at h
  cases h1:evO E cf nt ops o s with
  | none=>rw[h1] at h;cases h
  | some s1 =>
   rw[h1] at h
   exact(evO_rel hE hcf h1).1.trans (evOs_mono hE hcf l s1 s' h)
theorem evOs_sound(hE:OpSound P E)(hcf:CallSound P I cf)(hd:dstsOk ops nt=true)(s':ES)(hN:s'.n≤G.N)(hK:∀ C' a' w',RX I G (Rg G.n0 s'.n) (s'.as nt) C' a' w'→Q .normal a' w') :
  ∀ (rest:List Oper) (i:Nat) (s:ES) (C:Cx) (a:Act) (w:World),ops.toList.drop i=rest→evOs E cf nt ops rest s=some s'→G.n0≤s.n→RX I G (Rg G.n0 s.n) (s.as nt) C a w→wpOps P ops Q (List.range' i rest.length) a w:=by
 intro rest
 induction rest with
 | nil =>
  intro i s C a w _ h _ hR
  simp only[evOs,Option.some.injEq] at h
  subst h
  simp only[List.length_nil,List.range'_zero,wpOps]
  exact hK C a w hR
 | cons o rest ih =>
  intro i s C a w hdrop h hn0 hR
  have hoi:ops[i]? = some o:=by
   have:(ops.toList.drop i)[0]? = some o:=by rw[hdrop];rfl
   simpa using this
  have hdrop':ops.toList.drop (i+1)=rest:=by rw[← List.drop_drop,hdrop];rfl
  simp only[evOs] at h
  cases h1:evO E cf nt ops o s with
  | none=>rw[h1] at h;cases h
  | some s1 =>
   rw[h1] at h
   simp only at h
   obtain⟨⟨hm1,_⟩,d,H',hst,has⟩:=evO_rel hE hcf h1
   have hm2:=(evOs_mono hE hcf rest s1 s' h).1
   rw[List.length_cons,List.range'_succ,wpOps_cons]
   refine stX_sound hR hd hoi (fun id h1 h2=>⟨G.fr id (by omega) (by omega),fun h=>by unfold Rg at h;omega⟩) hst ?_
   intro C' a' w' hR'
   refine ih (i+1) s1 C' a' w' hdrop' h (by omega) ?_
   rw[has]
   exact(hR'.widen fun id hl=>by unfold Rg at *;omega).nx
def XX (I:World→Prop)(G:GX)(nt:Nat)(x:AExit)(s:ES)(e:Exit)(a:Act)(w:World):Prop :=
 ∃ C,RX I G (Rg G.n0 s.n) (s.as nt) C a w∧match x with
  | .normal=>e=.normal
  | .exit id=>e=.exit id
  | .ret=>e=.ret
  | .goto l=>e=.goto l
theorem evLoop_mono{b:ES→Option (AExit × ES)}(hb:∀ s x s',b s=some (x,s')→Mo s s'):∀ (k:Nat) (s:ES) (x:AExit) (s':ES),evLoop b k s=some (x,s')→Mo s s'
 | 0,_,_,_,h=>by cases h
 | k+1,s,x,s',h=>by
  simp only[evLoop] at h
  cases h1:b s with
  | none=>rw[h1] at h;cases h
  | some r =>
   obtain⟨x1,s1⟩:=r
   rw[h1] at h
   cases x1 with
   | normal=>exact(hb _ _ _ h1).trans (evLoop_mono hb k s1 x s' h)
   | exit id=>simp only[Option.some.injEq,Prod.mk.injEq] at h;rw[← h.2];exact hb _ _ _ h1
   | ret=>simp only[Option.some.injEq,Prod.mk.injEq] at h;rw[← h.2];exact hb _ _ _ h1
   | goto l=>simp only[Option.some.injEq,Prod.mk.injEq] at h;rw[← h.2];exact hb _ _ _ h1
theorem evC_mono(hE:OpSound P E)(hcf:CallSound P I cf)(hdf:DrawSound P I df):∀ (c:Code) (s:ES) (x:AExit) (s':ES),evC E cf df lf nt c s=some (x,s')→Mo s s':=by
 intro c
 induction c with
 | skip=>intro s x s' h;simp only[evC,Option.some.injEq,Prod.mk.injEq] at h;rw[h.2];exact Mo.refl _
 | label l=>intro s x s' h;simp only[evC,Option.some.injEq,Prod.mk.injEq] at h;rw[h.2];exact Mo.refl _
 | exit id=>intro s x s' h;simp only[evC,Option.some.injEq,Prod.mk.injEq] at h;rw[h.2];exact Mo.refl _
 | ret=>intro s x s' h;simp only[evC,Option.some.injEq,Prod.mk.injEq] at h;rw[h.2];exact Mo.refl _
 | region id ops dr =>
  intro s x s' h
  cases dr with
  | false =>
   simp only[evC] at h
   cases h1:evOs E cf nt ops ops.toList s with
   | none=>rw[h1] at h;cases h
   | some s1=>rw[h1] at h;simp only[Option.some.injEq,Prod.mk.injEq] at h;rw[← h.2];exact evOs_mono hE hcf _ _ _ h1
  | true =>
   simp only[evC] at h
   cases h1:df nt ops s with
   | none=>rw[h1] at h;cases h
   | some s1=>rw[h1] at h;simp only[Option.some.injEq,Prod.mk.injEq] at h;rw[← h.2];exact(hdf _ _ _ _ h1).1
 | seq c1 c2 ih1 ih2 =>
  intro s x s' h
  simp only[evC] at h
  cases h1:evC E cf df lf nt c1 s with
  | none=>rw[h1] at h;cases h
  | some r =>
   obtain⟨x1,s1⟩:=r
   rw[h1] at h
   cases x1 with
   | normal=>exact(ih1 _ _ _ h1).trans (ih2 _ _ _ h)
   | exit id=>simp only[Option.some.injEq,Prod.mk.injEq] at h;rw[← h.2];exact ih1 _ _ _ h1
   | ret=>simp only[Option.some.injEq,Prod.mk.injEq] at h;rw[← h.2];exact ih1 _ _ _ h1
   | goto l=>simp only[Option.some.injEq,Prod.mk.injEq] at h;rw[← h.2];exact ih1 _ _ _ h1
 | cond c c1 c2 ih1 ih2 =>
  intro s x s' h
  simp only[evC] at h
  split at h
  ·exact ih1 _ _ _ h
  ·exact ih2 _ _ _ h
  ·cases h
 | block id c ih =>
  intro s x s' h
  simp only[evC] at h
  split at h
  ·rename_i id' s1 h1
   split at h
   ·simp only[Option.some.injEq,Prod.mk.injEq] at h;rw[← h.2];exact ih _ _ _ h1
   ·simp only[Option.some.injEq,Prod.mk.injEq] at h;rw[← h.2];exact ih _ _ _ h1
  ·exact ih _ _ _ h
 | loop c ih =>
  intro s x s' h
  simp only[evC] at h
  exact evLoop_mono ih _ _ _ _ h
 | rangeFunc f ps x y ihx ihy=>intro s x s' h;cases h
 | scope b ih=>intro s x s' h;cases h
 | goto l=>intro s x s' h;cases h
 | refuse why=>intro s x s' h;cases h
theorem evC_sound(hE:OpSound P E)(hcf:CallSound P I cf)(hdf:DrawSound P I df):∀ (c:Code) (s:ES) (x:AExit) (s':ES) (C:Cx) (a:Act) (w:World),codeOk nt c=true→evC E cf df lf nt c s=some (x,s')→s'.n≤G.N→G.n0≤s.n→RX I G (Rg G.n0 s.n) (s.as nt) C a w→c.wp P (XX I G nt x s') a w:=by
 intro c
 induction c with
 | skip=>intro s x s' C a w hok h hN hn hR;simp only[evC,Option.some.injEq,Prod.mk.injEq] at h;obtain⟨rfl,rfl⟩:=h;exact wp_skip ⟨C,hR,rfl⟩
 | label l=>intro s x s' C a w hok h hN hn hR;simp only[evC,Option.some.injEq,Prod.mk.injEq] at h;obtain⟨rfl,rfl⟩:=h;exact wp_label ⟨C,hR,rfl⟩
 | exit id=>intro s x s' C a w hok h hN hn hR;simp only[evC,Option.some.injEq,Prod.mk.injEq] at h;obtain⟨rfl,rfl⟩:=h;exact wp_exit ⟨C,hR,rfl⟩
 | ret=>intro s x s' C a w hok h hN hn hR;simp only[evC,Option.some.injEq,Prod.mk.injEq] at h;obtain⟨rfl,rfl⟩:=h;exact wp_ret ⟨C,hR,rfl⟩
 | region id ops dr =>
  intro s x s' C a w hok h hN hn hR
  cases dr with
  | false =>
   simp only[evC] at h
   cases h1:evOs E cf nt ops ops.toList s with
   | none=>rw[h1] at h;cases h
   | some s1 =>
    rw[h1] at h
    simp only[Option.some.injEq,Prod.mk.injEq] at h
    obtain⟨rfl,rfl⟩:=h
    refine wp_region ?_
    rw[List.range_eq_range']
    have:=evOs_sound (Q:=XX I G nt .normal s1) hE hcf hok s1 hN (fun C' a' w' hr=>⟨C',hr,rfl⟩) ops.toList 0 s C a w (by simp) h1 hn hR
    simpa using this
  | true =>
   simp only[evC] at h
   cases h1:df nt ops s with
   | none=>rw[h1] at h;cases h
   | some s1 =>
    rw[h1] at h
    simp only[Option.some.injEq,Prod.mk.injEq] at h
    obtain⟨rfl,rfl⟩:=h
    exact(hdf _ _ _ _ h1).2 G C a w id _ hN hn hok hR fun C' a' w' hr=>⟨C',hr,rfl⟩
 | seq c1 c2 ih1 ih2 =>
  intro s x s' C a w hok h hN hn hR
  simp only[evC] at h
  simp only[codeOk,Bool.and_eq_true] at hok
  cases h1:evC E cf df lf nt c1 s with
  | none=>rw[h1] at h;cases h
  | some r =>
   obtain⟨x1,s1⟩:=r
   rw[h1] at h
   have hm1:=(evC_mono hE hcf hdf c1 s x1 s1 h1).1
   cases x1 with
   | normal =>
    have hm2:=(evC_mono hE hcf hdf c2 s1 x s' h).1
    refine wp_seq (wp_mono (ih1 s .normal s1 C a w hok.1 h1 (by omega) hn hR) ?_)
    rintro e a' w' ⟨C',hR',rfl⟩
    simp only[Exit.then]
    exact ih2 s1 x s' C' a' w' hok.2 h hN (by omega) hR'
   | exit id =>
    simp only[Option.some.injEq,Prod.mk.injEq] at h
    obtain⟨rfl,rfl⟩:=h
    refine wp_seq (wp_mono (ih1 s _ s1 C a w hok.1 h1 hN hn hR) ?_)
    rintro e a' w' ⟨C',hR',rfl⟩
    exact⟨C',hR',rfl⟩
   | ret =>
    simp only[Option.some.injEq,Prod.mk.injEq] at h
    obtain⟨rfl,rfl⟩:=h
    refine wp_seq (wp_mono (ih1 s _ s1 C a w hok.1 h1 hN hn hR) ?_)
    rintro e a' w' ⟨C',hR',rfl⟩
    exact⟨C',hR',rfl⟩
   | goto l =>
    simp only[Option.some.injEq,Prod.mk.injEq] at h
    obtain⟨rfl,rfl⟩:=h
    refine wp_seq (wp_mono (ih1 s _ s1 C a w hok.1 h1 hN hn hR) ?_)
    rintro e a' w' ⟨C',hR',rfl⟩
    exact⟨C',hR',rfl⟩
 | cond c c1 c2 ih1 ih2 =>
  intro s x s' C a w hok h hN hn hR
  simp only[evC] at h
  simp only[codeOk,Bool.and_eq_true] at hok
  have hc:=hR.ok.env.val c
  split at h
  ·rename_i hv
   rw[hv] at hc
   generalize hu:a.eval c=u at hc
   cases hc
   refine wp_cond hu ?_
   simp only[if_true]
   exact ih1 s x s' C a w hok.1 h hN hn hR
  ·rename_i hv
   rw[hv] at hc
   generalize hu:a.eval c=u at hc
   cases hc
   refine wp_cond hu ?_
   simp only[Bool.false_eq_true,if_false]
   exact ih2 s x s' C a w hok.2 h hN hn hR
  ·cases h
 | block id c ih =>
  intro s x s' C a w hok h hN hn hR
  simp only[evC] at h
  cases h1:evC E cf df lf nt c s with
  | none=>rw[h1] at h;cases h
  | some r =>
   obtain⟨x1,s1⟩:=r
   rw[h1] at h
   cases x1 with
   | exit id' =>
    simp only at h
    cases hb:Nat.beq id' id with
    | true =>
     rw[hb] at h
     simp only[Option.some.injEq,Prod.mk.injEq] at h
     obtain⟨rfl,rfl⟩:=h
     refine wp_block (wp_mono (ih s _ s1 C a w hok h1 hN hn hR) ?_)
     rintro e a' w' ⟨C',hR',rfl⟩
     simp only[Exit.inBlock,Nat.eq_of_beq_eq_true hb,if_true]
     exact⟨C',hR',rfl⟩
    | false =>
     rw[hb] at h
     simp only[Option.some.injEq,Prod.mk.injEq] at h
     obtain⟨rfl,rfl⟩:=h
     refine wp_block (wp_mono (ih s _ s1 C a w hok h1 hN hn hR) ?_)
     rintro e a' w' ⟨C',hR',rfl⟩
     simp only[Exit.inBlock,if_neg (Nat.ne_of_beq_eq_false hb)]
     exact⟨C',hR',rfl⟩
   | normal =>
    simp only[Option.some.injEq,Prod.mk.injEq] at h
    obtain⟨rfl,rfl⟩:=h
    refine wp_block (wp_mono (ih s _ s1 C a w hok h1 hN hn hR) ?_)
    rintro e a' w' ⟨C',hR',rfl⟩
    exact⟨C',hR',rfl⟩
   | ret =>
    simp only[Option.some.injEq,Prod.mk.injEq] at h
    obtain⟨rfl,rfl⟩:=h
    refine wp_block (wp_mono (ih s _ s1 C a w hok h1 hN hn hR) ?_)
    rintro e a' w' ⟨C',hR',rfl⟩
    exact⟨C',hR',rfl⟩
   | goto l =>
    simp only[Option.some.injEq,Prod.mk.injEq] at h
    obtain⟨rfl,rfl⟩:=h
    refine wp_block (wp_mono (ih s _ s1 C a w hok h1 hN hn hR) ?_)
    rintro e a' w' ⟨C',hR',rfl⟩
    exact⟨C',hR',rfl⟩
 | loop c ih =>
  intro s x s' C a w hok h hN hn hR
  simp only[evC] at h
  have key:∀ (k:Nat) (s:ES) (C:Cx) (a:Act) (w:World),evLoop (evC E cf df lf nt c) k s=some (x,s')→G.n0≤s.n→RX I G (Rg G.n0 s.n) (s.as nt) C a w →
    ∀ b kk cs,∃ e a' w',XX I G nt x s' e a' w'∧Arrives P (lone (b.at a (.code c::.inLoop c::kk)) cs w) b kk cs e a' w':=by
   intro k
   induction k with
   | zero=>intro s C a w h;cases h
   | succ k ihk =>
    intro s C a w h hn hR b kk cs
    simp only[evLoop] at h
    cases h1:evC E cf df lf nt c s with
    | none=>rw[h1] at h;cases h
    | some r =>
     obtain⟨x1,s1⟩:=r
     rw[h1] at h
     have hm1:=(evC_mono hE hcf hdf c s x1 s1 h1).1
     cases x1 with
     | normal =>
      have hm2:=(evLoop_mono (evC_mono hE hcf hdf c) k s1 x s' h).1
      obtain⟨e,a₁,w₁,⟨C1,hR1,rfl⟩,harr⟩:=ih s .normal s1 C a w hok h1 (by omega) hn hR b (.inLoop c::kk) cs
      obtain⟨e₂,a₂,w₂,hq₂,harr₂⟩:=ihk s1 C1 a₁ w₁ h (by omega) hR1 b kk cs
      exact⟨e₂,a₂,w₂,hq₂,.of_steps (Steps.trans harr (.one step_inLoop)) harr₂⟩
     | exit id =>
      simp only[Option.some.injEq,Prod.mk.injEq] at h
      obtain⟨rfl,rfl⟩:=h
      obtain⟨e,a₁,w₁,⟨C1,hR1,rfl⟩,harr⟩:=ih s _ s1 C a w hok h1 hN hn hR b (.inLoop c::kk) cs
      exact⟨_,a₁,w₁,⟨C1,hR1,rfl⟩,.pass (x:=.inLoop c) rfl (fun _ _=>.inl (by simp)) harr⟩
     | ret =>
      simp only[Option.some.injEq,Prod.mk.injEq] at h
      obtain⟨rfl,rfl⟩:=h
      obtain⟨e,a₁,w₁,⟨C1,hR1,rfl⟩,harr⟩:=ih s _ s1 C a w hok h1 hN hn hR b (.inLoop c::kk) cs
      exact⟨_,a₁,w₁,⟨C1,hR1,rfl⟩,.pass (x:=.inLoop c) rfl (fun _ _=>.inl (by simp)) harr⟩
     | goto l =>
      simp only[Option.some.injEq,Prod.mk.injEq] at h
      obtain⟨rfl,rfl⟩:=h
      obtain⟨e,a₁,w₁,⟨C1,hR1,rfl⟩,harr⟩:=ih s _ s1 C a w hok h1 hN hn hR b (.inLoop c::kk) cs
      exact⟨_,a₁,w₁,⟨C1,hR1,rfl⟩,.pass (x:=.inLoop c) rfl (fun _ _=>.inl (by simp)) harr⟩
  intro b kk cs
  obtain⟨e,a',w',hq,harr⟩:=key lf s C a w h hn hR b kk cs
  exact⟨e,a',w',hq,.of_steps (.one step_loop) harr⟩
 | rangeFunc f ps x y ihx ihy=>intro s x s' C a w hok h;cases h
 | scope b ih=>intro s x s' C a w hok h;cases h
 | goto l=>intro s x s' C a w hok h;cases h
 | refuse why=>intro s x s' C a w hok h;cases h
end
section
variable {P:Program}{I:World→Prop}{E:OpF}{cf:CallF}{df:Nat→Array Oper→ES→Option ES}{lf nt:Nat}{C:Cx}{a:Act}{w:World}
theorem argT_get:∀ (ds:List D) (i:Nat) (t t':Tr D),argT ds i t=some t'→∀ k,envT t' k=if i≤k∧k < i+ds.length then ds.getD (k - i) .any else envT t k
 | [],i,t,t',h,k=>by
  simp only[argT,Option.some.injEq] at h
  subst h
  rw[if_neg (by rintro⟨h1,h2⟩;simp at h2;omega)]
 | d::ds,i,t,t',h,k=>by
  simp only[argT] at h
  cases h1:putT t i (some d) with
  | none=>rw[h1] at h;cases h
  | some t1 =>
   rw[h1] at h
   simp only at h
   rw[argT_get ds (i+1) t1 t' h k]
   have e1:envT t1 k=if k=i then d else envT t k:=by
    unfold envT
    rw[putT_get h1]
    by_cases hk:k=i
    ·rw[if_pos hk,if_pos hk]
    ·rw[if_neg hk,if_neg hk]
   rw[e1]
   simp only[List.length_cons]
   by_cases h2:i+1≤k∧k < i+1+ds.length
   ·rw[if_pos h2,if_pos (by omega)]
    have:k - i=(k - (i+1))+1:=by omega
    rw[this,List.getD_cons_succ]
   ·rw[if_neg h2]
    by_cases hk:k=i
    ·subst hk
     rw[if_pos rfl,if_pos (by omega)]
     simp
    ·rw[if_neg hk,if_neg (by omega)]
theorem evFn_sound(hE:OpSound P E)(hcf:CallSound P I cf)(hdf:DrawSound P I df):CallSound P I (evFn P E cf df lf):=by
 intro f ds h n d h' m l hv
 unfold evFn at hv
 cases hf:P.funcs[f]? with
 | none=>rw[hf] at hv;cases hv
 | some fn =>
 rw[hf] at hv
 simp only at hv
 cases hb:fn.body with
 | none=>rw[hb] at hv;cases hv
 | some c =>
 rw[hb] at hv
 simp only at hv
 split at hv
 case h_2=>cases hv
 rename_i e hcond harg
 simp only[Bool.and_eq_true,bne_iff_ne,ne_eq,decide_eq_true_eq] at hcond
 obtain⟨⟨hnm,hlen⟩,hok⟩:=hcond
 have main:∀ (x:AExit) (s:ES) (rs:List D),(x=.normal∨x=.ret)→evC E cf df lf fn.ntmps c ⟨e,h,n,[]⟩=some (x,s)→resD P (s.as fn.ntmps) fn.results.toList=some rs→n≤s.n∧XOK P I f ds h.get n s.n (mkRes rs) s.heap.get∧∀ id,id ∉ s.lg→s.heap.get id=h.get id:=by
  intro x s rs hx hev hres
  have hm:=evC_mono (nt:=fn.ntmps) (lf:=lf) hE hcf hdf c ⟨e,h,n,[]⟩ x s hev
  refine⟨hm.1,⟨by simp[enterable,hf,hb,hnm],fun i0 w C B args hI hbel hM hH hF hB hfr hl hr=>?_⟩,fun id hi=>(hm.2 id hi).2⟩
  refine calls_of_wp hf hb ?_
  have hsz:args.toArray.size=ds.length:=by simpa using hl
  let G:GX:=⟨i0,w,C,B,n,s.n,hM,hbel,hfr⟩
  have hR:RX I G (Rg n n) ((⟨e,h,n,[]⟩:ES).as fn.ntmps) C { tmps:=args.toArray++Array.replicate (fn.ntmps - args.toArray.size) Go.undef,defers:=[] } w:=by
   refine⟨⟨fun t=>?_,hH,hF,hB⟩,hI,BelM.refl _ _,fun b o h=>.inl h,Ext.refl _ _,rfl,?_,fun id h=>.inl h⟩
   ·simp only[ES.as]
    rw[argT_get ds 0 .nil e harg t]
    by_cases ht:t < ds.length
    ·rw[if_pos (by omega),Nat.sub_zero,show ds.getD t .any=ds[t] by simp[List.getD,ht]]
     have ha:t < args.length:=by omega
     have:(args.toArray++Array.replicate (fn.ntmps - args.toArray.size) Go.undef).getD t Go.undef=args[t]:=by
      simp[Array.getD_eq_getD_getElem?,Array.getElem?_append,ha]
     rw[this]
     exact hr t _ _ (List.getElem?_eq_getElem ha) (List.getElem?_eq_getElem ht)
    ·rw[if_neg (by omega)]
     exact .any _
   ·simp[ES.as];omega
  refine wp_mono (evC_sound (G:=G) (lf:=lf) hE hcf hdf c ⟨e,h,n,[]⟩ x s C _ w hok hev (Nat.le_refl _) (Nat.le_refl _) hR) ?_
  rintro ex a' w' ⟨C',hR',hq⟩
  have fin:a'.defers=[]∧∃ v,(results fn a'.tmps).run P w'=.ok v w'∧(∃ v' C',Ending.returned v=.returned v'∧BelM B.M w w'∧Ext C w C' w'∧Rep w' C' v' (mkRes rs)∧HOK C' w' B s.heap.get∧FB C' w'∧(∀ id,C'.live id→C.live id∨n≤id∧id < s.n)∧∀ b o,C'.F b o→C.F b o∨B.M b):=by
   refine⟨hR'.defers,?_⟩
   obtain⟨vs,hr1,hl1,hv1⟩:=resD_run (P:=P) (G:=(⟨i0,w,C.F,B,hM,hbel⟩:Gh)) hR'.ok fn.results.toList rs hres
   refine⟨if h:vs.toArray.size=1 then vs.toArray[0] else .tuple vs.toArray,?_,_,C',rfl,hR'.below,hR'.ext,?_,hR'.ok.heap,hR'.ok.fb,hR'.live,hR'.new⟩
   ·rw[results_eq,Array.mapM_eq_mapM_toList]
    simp only[Sem.run_bind,Sem.run_map,hr1]
    rfl
   ·exact mkRes_rep hl1 hv1
  rcases hx with rfl|rfl<;>· simp only at hq;subst hq;exact fin
 split at hv
 ·rename_i s hev
  split at hv
  ·rename_i rs hres
   simp only[Option.some.injEq,Prod.mk.injEq] at hv
   obtain⟨rfl,rfl,rfl,rfl⟩:=hv
   exact main .normal s rs (.inl rfl) hev hres
  ·cases hv
 ·rename_i s hev
  split at hv
  ·rename_i rs hres
   simp only[Option.some.injEq,Prod.mk.injEq] at hv
   obtain⟨rfl,rfl,rfl,rfl⟩:=hv
   exact main .ret s rs (.inr rfl) hev hres
  ·cases hv
 ·cases hv
theorem evF_sound{X:CallF}{df:CallF→Nat→Array Oper→ES→Option ES}(hE:OpSound P E)(hX:CallSound P I X)(hdf:∀ cf,CallSound P I cf→DrawSound P I (df cf)):∀ k,CallSound P I (evF P E X df lf k)
 | 0=>fun f ds h n d h' m l hv=>by cases hv
 | k+1=>by
  intro f ds h n d h' m l hv
  simp only[evF] at hv
  split at hv
  ·rename_i r hx
   simp only[Option.some.injEq] at hv
   subst hv
   exact hX f ds h n d h' m l hx
  ·exact evFn_sound hE (evF_sound hE hX hdf k) (hdf _ (evF_sound hE hX hdf k)) f ds h n d h' m l hv
theorem XOK.toFun(hstab:Stab I){f:FuncId}{n m:Nat}{b:Bool}{H':Nat→Option Blk}(h:XOK P I f [] (fun _=>none) n m (.bool b) H'):AFun P I f [] (.bool b):=by
 refine⟨h.1,fun w F args hI hfb hl hr=>?_⟩
 refine(h.2 w w (cF F) ⟨fun k=>w.heap.size≤k,fun _=>Go.undef⟩ args hI (Below.refl _ _) (fun _ h=>h) ⟨fun id b h=>(by cases h),fun id b h=>(by cases h),fun id k cs h=>(by cases h),fun id id' b b' h=>(by cases h)⟩ hfb (fun _ h=>h) (fun _ _ _ h=>h) hl hr).mono ?_
 rintro e w' ⟨v,C',rfl,hb,hext,hrep,hH,hfb',hl',hnew⟩
 refine⟨v,C'.F,rfl,hb.to,hext.cF,hfb',hnew,?_⟩
 cases hrep
 exact .bool _
end
section
variable {P:Program}{I:World→Prop}
theorem appEff_log(H H':Nat→Option Blk)(l:List Nat)(hl:∀ id,id ∉ l→H' id=H id):appEff H (l.map fun id=>(id,H' id))=H':=by
 have key:∀ (l:List Nat) (H:Nat→Option Blk) (id:Nat),appEff H (l.map fun id=>(id,H' id)) id=if id ∈ l then H' id else H id:=by
  intro l
  induction l with
  | nil=>intro H id;simp[appEff]
  | cons i l ih =>
   intro H id
   simp only[List.map_cons,appEff,ih,List.mem_cons]
   by_cases h1:id ∈ l
   ·rw[if_pos h1,if_pos (.inr h1)]
   ·rw[if_neg h1]
    simp only[upd]
    by_cases h2:id=i
    ·rw[if_pos h2,if_pos (.inl h2),h2]
    ·rw[if_neg h2,if_neg (by rintro(h|h)<;>contradiction)]
 funext id
 rw[key]
 split
 ·rfl
 ·rename_i h;exact(hl id h).symm
theorem XOK.frame{f:FuncId}{ds:List D}{H0 H':Nat→Option Blk}{n m:Nat}{d:D}{eff:Eff}(h:XOK P I f ds H0 n m d (appEff H0 eff))(hs:∀ id b,H0 id=some b→H' id=some b)(he:∀ p ∈ eff,(H0 p.1).isSome=true∨n≤p.1∧p.1 < m):XOK P I f ds H' n m d (appEff H' eff):=by
 refine⟨h.1,fun i0 w C B args hI hbel hM hH hF hB hfr hl hr=>?_⟩
 let X:Nat→Prop:=fun k=>∃ id b,H0 id=none∧H' id=some b∧blockOf (C.σ id)=some k
 have hX:∀ k,X k→k < w.heap.size:=by
  rintro k ⟨id,b,_,h2,h3⟩
  exact((hH.rep id b h2).2.lt k h3).2
 have hH0:HOK C w ⟨fun k=>B.M k∧¬ X k,B.p⟩ H0:=by
  refine⟨fun id b hb=>hH.rep id b (hs id b hb),fun id b hb g hg=>⟨hH.own id b (hs id b hb) g hg,?_⟩,fun id k cs hb=>hH.pin id k cs (hs id _ hb),fun id id' b b' hb hb'=>hH.apart id id' b b' (hs id b hb) (hs id' b' hb')⟩
  rintro⟨id',b',h1,h2,h3⟩
  have hne:id≠id':=by rintro rfl;rw[hb] at h1;cases h1
  exact hH.apart id id' b b' (hs id b hb) h2 hne g hg h3
 refine(h.2 i0 w C ⟨fun k=>B.M k∧¬ X k,B.p⟩ args hI hbel (fun k hk=>hM k hk.1) hH0 hF (fun g hg=>⟨hB g hg,fun hx=>by have:=hX g hx;omega⟩) hfr hl hr).mono ?_
 rintro e w' ⟨v,C',rfl,hb',hext,hrep,hH1,hF1,hl1,hn1⟩
 have hin:∀ id,(∃ p ∈ eff,p.1=id)→appEff H' eff id=appEff H0 eff id:=fun id hx=>appEff_in eff H' H0 id hx
 have hout:∀ id,(¬ ∃ p ∈ eff,p.1=id)→appEff H' eff id=H' id∧appEff H0 eff id=H0 id:=fun id hx=>⟨appEff_notin eff H' id fun p hp he=>hx ⟨p,hp,he⟩,appEff_notin eff H0 id fun p hp he=>hx ⟨p,hp,he⟩⟩
 -- each block is one of the call's, or was there besides
 have both:∀ id b,appEff H' eff id=some b→appEff H0 eff id=some b∨(H0 id=none∧H' id=some b):=by
  intro id b hb
  by_cases hx:∃ p ∈ eff,p.1=id
  ·rw[hin id hx] at hb;exact .inl hb
  ·obtain⟨h1,h2⟩:=hout id hx
   rw[h1] at hb
   cases h0:H0 id with
   | none=>exact .inr ⟨rfl,hb⟩
   | some b0 =>
    have:=hs id b0 h0
    rw[hb] at this
    rw[h2,h0,← this]
    exact .inl rfl
 have xblk:∀ id b,H0 id=none→H' id=some b→∀ g,blockOf (C'.σ id)=some g→X g:=by
  intro id b h0 h1 g hg
  rw[hext.σ id (hH.rep id b h1).1] at hg
  exact⟨id,b,h0,h1,hg⟩
 refine⟨v,C',rfl,⟨hb'.os,hb'.tape,hb'.output,hb'.size,fun k hk hm=>hb'.block k hk fun hx=>hm hx.1⟩,hext,hrep,⟨fun id b hb=>?_,fun id b hb g hg=>?_,fun id k cs hb=>?_,fun id id' b b' hb hb' hne g hg hg'=>?_⟩,hF1,hl1,fun b o ho=>(hn1 b o ho).imp (fun h=>h) fun h=>h.1⟩
 ·rcases both id b hb with hb|⟨h0,h1⟩
  ·exact hH1.rep id b hb
  ·obtain⟨k1,k2⟩:=hH.rep id b h1
   refine⟨hext.live id k1,k2.keep k1 hext (fun g hg=>hb'.block g (k2.lt g hg).2 fun hx=>hx.2 ⟨id,b,h0,h1,hg⟩) fun g o hg ho=>?_⟩
   rcases hn1 g o ho with h2|h2
   ·exact h2
   ·exact absurd ⟨id,b,h0,h1,hg⟩ h2.2
 ·rcases both id b hb with hb|⟨h0,h1⟩
  ·exact(hH1.own id b hb g hg).1
  ·rw[hext.σ id (hH.rep id b h1).1] at hg
   exact hH.own id b h1 g hg
 ·rcases both id _ hb with hb|⟨h0,h1⟩
  ·exact hH1.pin id k cs hb
  ·rw[hext.σ id (hH.rep id _ h1).1]
   exact hH.pin id k cs h1
 ·rcases both id b hb with hb|⟨h0,h1⟩<;>rcases both id' b' hb' with hb'|⟨h0',h1'⟩
  ·exact hH1.apart id id' b b' hb hb' hne g hg hg'
  ·exact(hH1.own id b hb g hg).2 (xblk id' b' h0' h1' g hg')
  ·exact(hH1.own id' b' hb' g hg').2 (xblk id b h0 h1 g hg)
  ·rw[hext.σ id (hH.rep id b h1).1] at hg
   rw[hext.σ id' (hH.rep id' b' h1').1] at hg'
   exact hH.apart id id' b b' h1 h1' hne g hg hg'
end
def ownB (rg:Nat→Nat)(i id:Nat):Bool:=Nat.ble (rg i) id&&Nat.blt id (rg (i+1))
theorem ownB_iff{rg:Nat→Nat}{i id:Nat}:ownB rg i id=true ↔ rg i≤id∧id < rg (i+1):=by
 unfold ownB
 rw[Bool.and_eq_true,Nat.ble_eq,Nat.blt_eq]
def lightB(rg:Nat→Nat)(i:Nat)(eff:Eff):Bool:=eff.all fun p=>ownB rg i p.1
def effInB(ops:Array Oper)(rg:Nat→Nat)(i:Nat)(eff:Eff):Bool:=eff.all fun p=>Nat.blt p.1 (rg 0)||Nat.ble (rg ops.size) p.1||ownB rg i p.1||(List.range i).any fun j=>ownB rg j p.1&&((aheads ops).getD i 0).testBit j
def ordBZ(ops:Array Oper)(i j:Nat):Bool:=((aheads ops).getD (max j i) 0).testBit (min j i)
def apartB(rg:Nat→Nat)(i:Nat)(eff:Eff):Option (List Nat)→Bool
 | none=>false
 | some l=>eff.all fun p=>ownB rg i p.1||l.all fun q=>!(Nat.beq q p.1)
def effRB(ops:Array Oper)(rg:Nat→Nat)(rd:Nat→Option (List Nat))(i:Nat)(eff:Eff):Bool:=lightB rg i eff||(effInB ops rg i eff&&(List.range ops.size).all fun j=>Nat.beq j i||(ordBZ ops i j||apartB rg i eff (rd j)))
section
variable {P:Program}{I:World→Prop}{ops:Array Oper}{S:AS}{tr:Nat→D × Eff}{rg:Nat→Nat}
theorem rg_mono(hm:∀ i,i < ops.size→rg i≤rg (i+1)):∀ i j,i≤j→j≤ops.size→rg i≤rg j:=by
 intro i j hij hj
 induction j with
 | zero=>obtain rfl:i=0:=(by omega);exact Nat.le_refl _
 | succ j ih =>
  by_cases h:i=j+1
  ·subst h;exact Nat.le_refl _
  ·exact Nat.le_trans (ih (by omega) (by omega)) (hm j (by omega))
theorem own_one(hm:∀ i,i < ops.size→rg i≤rg (i+1)){i j id:Nat}(hi:i < ops.size)(hj:j < ops.size)(h1:rg i≤id∧id < rg (i+1))(h2:rg j≤id∧id < rg (j+1)):i=j:=by
 rcases Nat.lt_trichotomy i j with h|h|h
 ·have:=rg_mono hm (i+1) j (by omega) (by omega);omega
 ·exact h
 ·have:=rg_mono hm (j+1) i (by omega) (by omega);omega
theorem stX_heapN{X Y:Nat→Bool}{id:Nat}:∀ m,(∀ i,i < m→∀ p ∈ (tr i).2,p.1=id→X i=Y i)→(stX ops S tr X m).heap id=(stX ops S tr Y m).heap id
 | 0,_=>rfl
 | m+1,h=>by
  have ih:=stX_heapN (X:=X) (Y:=Y) m (fun i hi=>h i (by omega))
  simp only[stX]
  cases ho:ops[m]? with
  | none=>exact ih
  | some o =>
   simp only
   by_cases hid:∃ p ∈ (tr m).2,p.1=id
   ·obtain⟨p,hp,hpe⟩:=hid
    rw[h m (by omega) p hp hpe]
    split
    ·simp only[AS.step];exact appEff_congr _ _ _ id ih
    ·exact ih
   ·have hstep:∀ S1:AS,(S1.step o (tr m).1 (tr m).2).heap id=S1.heap id:=by
     intro S1
     simp only[AS.step]
     exact appEff_notin _ _ id fun p hp hpe=>hid ⟨p,hp,hpe⟩
    split<;>split<;>simp only[hstep,ih]
end
def OpMono(E:OpF):Prop:=∀ (S S':AS) (op:Op) nid d eff,quietOp op=true→(∀ x ∈ op.operands.toList,S'.val x=S.val x)→(heapy op=true→∀ x ∈ op.operands.toList,Sub S.heap S'.heap (S.val x).ids)→E op nid S=some (d,eff)→E op nid S'=some (d,eff)
def XAny (P:Program)(I:World→Prop)(f:FuncId)(ds:List D)(H0:Nat→Option Blk)(n m:Nat)(d:D)(eff:Eff):Prop:=∀ H',(∀ id b,H0 id=some b→H' id=some b)→XOK P I f ds H' n m d (appEff H' eff)
def St2 (P:Program)(I:World→Prop)(E:OpF)(ops:Array Oper)(o:Oper)(S:AS)(A:Prop)(n m:Nat)(d:D)(eff:Eff)(rd:Option (List Nat)):Prop :=
 (awant ops S.env o=some false∧d=.undef∧eff=[]) ∨
 (awant ops S.env o=some true∧((acallee S o.op=none∧E o.op n S=some (d,eff)∧n < m∧(heapy o.op=true→∃ l,rd=some l∧∀ x ∈ o.op.operands.toList,∀ id ∈ (S.val x).ids,id ∈ l)) ∨
  ∃ f ds H0,acallee S o.op=some (f,ds)∧XAny P I f ds H0 n m d eff∧(H0=(fun _=>none)∨(H0=S.heap∧A∧rd=none))))
theorem same_seenX{S S':AS}{ops:Array Oper}{o:Oper}(he:∀ t ∈ o.looksAt ops,S'.env t=S.env t):(∀ x ∈ o.op.operands.toList,S'.val x=S.val x)∧awant ops S'.env o=awant ops S.env o∧acallee S' o.op=acallee S o.op:=by
 have hops:∀ x ∈ o.op.operands.toList,S'.val x=S.val x:=by
  intro x hx
  cases x with
  | tmp t=>exact he t (by unfold Oper.looksAt;exact List.mem_append_left _ (List.mem_filterMap.2 ⟨_,hx,rfl⟩))
  | _=>rfl
 refine⟨hops,?_,?_⟩
 ·unfold awant
  cases hg:o.guard with
  | none=>rfl
  | some jw =>
   obtain⟨j,want⟩:=jw
   simp only
   cases hj:gdst ops j with
   | none=>rfl
   | some t =>
    simp only
    rw[he t]
    unfold Oper.looksAt
    refine List.mem_append_right _ ?_
    rw[hg]
    unfold gdst at hj
    cases ho:ops[j]? with
    | none=>rw[ho] at hj;simp at hj
    | some oj=>rw[ho] at hj;simp[ho];simpa using hj
 ·unfold acallee
  cases hop:o.op<;>try rfl
  rename_i c
  simp only
  cases hcal:c.callee<;>try rfl
  rename_i f
  simp only
  rw[hop] at hops
  have h1:=hops f (by simp[Op.operands,Call.operands,hcal])
  have h2:c.args.toList.map S'.val=c.args.toList.map S.val:=map_val fun x hx=>hops x (by simp[Op.operands,Call.operands,hcal];exact .inr (by simpa using hx))
  rw[h1,h2]
theorem const_ids{S:AS}{x:Operand}{id:Nat}(h:∀ t,x≠.tmp t)(hid:id ∈ (S.val x).ids):False:=by
 cases x with
 | tmp t=>exact h t rfl
 | const v =>
  have c1:∀ v,(cD1 v).ids1=[]:=by
   intro v;unfold cD1;split<;>(try split)<;>rfl
  simp only[AS.val] at hid
  unfold cD at hid
  split at hid
  ·split at hid
   ·simp only[D.ids,List.mem_flatMap,List.mem_map] at hid
    obtain⟨_,⟨v',_,rfl⟩,hid⟩:=hid
    rw[c1] at hid;cases hid
   ·simp[D.ids,D.ids1] at hid
  ·have:(cD1 v).ids=[]:=by
    have:=c1 v
    unfold cD1 at this ⊢
    split<;>(try split)<;>rfl
   rw[this] at hid;cases hid
 | global g=>simp[AS.val,D.ids,D.ids1] at hid
 | func f=>simp[AS.val,D.ids,D.ids1] at hid
section
variable {P:Program}{I:World→Prop}{E:OpF}{ops:Array Oper}{S:AS}{tr:Nat→D × Eff}{rg:Nat→Nat}{rd:Nat→Option (List Nat)}
set_option maxHeartbeats 4000000 in
theorem draw_anyX{G:GX}{Q:Exit→Act→World→Prop}(hE:OpSound P E)(hEm:OpMono E)(hd:dstsOk ops S.nt=true)(hok:drawOk ops=true)(heff:∀ i,i < ops.size→effRB ops rg rd i (tr i).2=true)
  (hrw:∀ i,i < ops.size→∀ l,rd i=some l→∀ p ∈ (tr i).2,p.1 ∈ l)
  (hm:∀ i,i < ops.size→rg i≤rg (i+1)) (hn0:G.n0≤rg 0) (hN:rg ops.size≤G.N) (hS:∀ id b,S.heap id=some b→¬ (rg 0≤id∧id < rg ops.size))
  (hT:∀ i o,ops[i]? = some o→St2 P I E ops o (stX ops S tr (fun _=>true) i) (∀ j,j < i→(tr j).2≠[]→((aheads ops).getD i 0).testBit j=true) (rg i) (rg (i+1)) (tr i).1 (tr i).2 (rd i))
  (hQ:∀ C a w,RX I G (Rg G.n0 (rg ops.size)) (stX ops S tr (fun _=>true) ops.size) C a w→Q .normal a w) :
  ∀ (fuel:Nat) (listed:Array Bool) (C:Cx) (a:Act) (w:World),listed.size=ops.size→(∀ j o,ops[j]? = some o→listed.getD j false=true→∀ e ∈ edgesOf o,listed.getD e false=true)→(listed.toList.filter (fun b=>!b)).length≤fuel →
   RX I G (fun id=>Rg G.n0 (rg 0) id∨∃ i,i < ops.size∧listed.getD i false=true∧rg i≤id∧id < rg (i+1)) (stX ops S tr (fun i=>listed.getD i false) ops.size) C a w→wpAny P .any ops Q fuel listed a w:=by
 -- the static conditions
 simp only[drawOk,Bool.and_eq_true] at hok
 obtain⟨hok1,hok2⟩:=hok
 have quiet:∀ j o,ops[j]? = some o→quietOp o.op=true∧∀ e ∈ edgesOf o,e < j:=by
  intro j o ho
  have hm:(o,j) ∈ ops.toList.zipIdx:=by
   rw[List.mem_zipIdx_iff_getElem?];simpa using ho
  have:=List.all_eq_true.1 hok1 (o,j) hm
  simp only[Bool.and_eq_true,List.all_eq_true,decide_eq_true_eq] at this
  exact this
 have order:∀ i j oi oj t,ops[i]? = some oi→ops[j]? = some oj→i≠j→oi.dst=some t→(t ∈ oj.looksAt ops∨oj.dst=some t)→((aheads ops).getD (max i j) 0).testBit (min i j)=true:=by
  intro i j oi oj t hi hj hne hdst ht
  have hm:(oj,j) ∈ ops.toList.zipIdx:=by rw[List.mem_zipIdx_iff_getElem?];simpa using hj
  have hm':(oi,i) ∈ ops.toList.zipIdx:=by rw[List.mem_zipIdx_iff_getElem?];simpa using hi
  have:=List.all_eq_true.1 (List.all_eq_true.1 hok2 (oj,j) hm) (oi,i) hm'
  simp only[hdst,Bool.or_eq_true,Bool.and_eq_true,beq_iff_eq,Bool.not_eq_true',bne_iff_ne,ne_eq] at this
  rcases this with h|h|h
  ·exact absurd h hne
  ·rcases ht with ht|ht
   ·have:(oj.looksAt ops).contains t=true:=by simpa using ht
    rw[this] at h;simp at h
   ·exact absurd ht h.2
  ·exact h
 have T_dst:∀ j o,ops[j]? = some o→j < ops.size:=by
  intro j o ho
  rcases Nat.lt_or_ge j ops.size with h|h
  ·exact h
  ·rw[Array.getElem?_eq_none h] at ho;cases ho
 have heavy:∀ i,i < ops.size→lightB rg i (tr i).2=false→effInB ops rg i (tr i).2=true∧∀ j,j < ops.size→j≠i→((aheads ops).getD (max j i) 0).testBit (min j i)=true∨apartB rg i (tr i).2 (rd j)=true:=by
  intro i hlt hi
  have:=heff i hlt
  unfold effRB at this
  rw[hi,Bool.false_or,Bool.and_eq_true,List.all_eq_true] at this
  refine⟨this.1,fun j hj hne=>?_⟩
  have h:=this.2 j (List.mem_range.2 hj)
  rw[Bool.or_eq_true,Bool.or_eq_true,Nat.beq_eq] at h
  rcases h with h|h|h
  ·exact absurd h hne
  ·exact .inl h
  ·exact .inr h
 have hvord:∀ i j,i < ops.size→j < ops.size→j≠i→∀ p ∈ (tr i).2,¬ (rg i≤p.1∧p.1 < rg (i+1))→(∀ l,rd j=some l→p.1 ∈ l)→((aheads ops).getD (max j i) 0).testBit (min j i)=true:=by
  intro i j hi hj hne p hp hno hin
  have hl:lightB rg i (tr i).2=false:=by
   cases h:lightB rg i (tr i).2 with
   | false=>rfl
   | true=>exact absurd (ownB_iff.1 (List.all_eq_true.1 h p hp)) hno
  rcases(heavy i hi hl).2 j hj hne with h|h
  ·exact h
  ·exfalso
   cases hr:rd j with
   | none=>rw[hr] at h;cases h
   | some l =>
    rw[hr] at h
    have h1:=List.all_eq_true.1 h p hp
    rw[Bool.or_eq_true] at h1
    rcases h1 with h1|h1
    ·exact hno (ownB_iff.1 h1)
    ·have:=List.all_eq_true.1 h1 p.1 (hin l hr)
     simp at this
 have rgm:=rg_mono hm
 have efflight:∀ i,lightB rg i (tr i).2=true→∀ p ∈ (tr i).2,rg i≤p.1∧p.1 < rg (i+1):=fun i he p hp=>ownB_iff.1 (List.all_eq_true.1 he p hp)
 have effin:∀ i,i < ops.size→∀ p ∈ (tr i).2,¬ (rg 0≤p.1∧p.1 < rg ops.size)∨(rg i≤p.1∧p.1 < rg (i+1))∨∃ j,j < i∧(rg j≤p.1∧p.1 < rg (j+1))∧((aheads ops).getD i 0).testBit j=true:=by
  intro i hi p hp
  cases he:lightB rg i (tr i).2 with
  | false =>
   have:=List.all_eq_true.1 (heavy i hi he).1 p hp
   simp only[Bool.or_eq_true,List.any_eq_true,Bool.and_eq_true,List.mem_range] at this
   rcases this with((h|h)|h)|⟨j,h1,h2,h3⟩
   ·rw[Nat.blt_eq] at h;exact .inl (by omega)
   ·rw[Nat.ble_eq] at h;exact .inl (by omega)
   ·exact .inr (.inl (ownB_iff.1 h))
   ·exact .inr (.inr ⟨j,h1,ownB_iff.1 h2,h3⟩)
  | true=>exact .inr (.inl (efflight i he p hp))
 -- ids of a later range are not there yet
 have fresh:∀ j i id,j≤i→i < ops.size→rg i≤id→id < rg (i+1)→∀ m,m≤ops.size→(stX ops S tr (fun i=>decide (i < j)) m).heap id=S.heap id:=by
  intro j i id hji hi h1 h2 m
  induction m with
  | zero=>intro _;rfl
  | succ m ihm =>
   intro hms
   simp only[stX]
   cases hom:ops[m]? with
   | none=>exact ihm (by omega)
   | some om =>
    simp only
    split
    ·rename_i hmj
     have hm':m < j:=by simpa using hmj
     simp only[AS.step]
     rw[appEff_notin _ _ _ (fun p hp hpe=>?_)]
     ·exact ihm (by omega)
     ·have g1:=rgm 0 i (by omega) (by omega)
      have g2:=rgm (i+1) ops.size (by omega) (Nat.le_refl _)
      rcases effin m (by omega) p hp with h|h|⟨j',hj',h,_⟩
      ·omega
      ·have:=own_one (i:=m) (j:=i) (id:=id) hm (by omega) hi (by rw[hpe] at h;exact h) ⟨h1,h2⟩;omega
      ·have:=own_one (i:=j') (j:=i) (id:=id) hm (by omega) hi (by rw[hpe] at h;exact h) ⟨h1,h2⟩;omega
    ·exact ihm (by omega)
 intro fuel
 have alldone:∀ (listed:Array Bool) (C:Cx) (a:Act) (w:World),(∀ i,i < ops.size→listed.getD i false=true)→RX I G (fun id=>Rg G.n0 (rg 0) id∨∃ i,i < ops.size∧listed.getD i false=true∧rg i≤id∧id < rg (i+1)) (stX ops S tr (fun i=>listed.getD i false) ops.size) C a w→Q .normal a w:=by
  intro listed C a w hall hR
  have hst:stX ops S tr (fun i=>listed.getD i false) ops.size=stX ops S tr (fun _=>true) ops.size :=
   AS.ext2 (fun t=>stX_env _ fun i o hi _ _=>hall i hi) (fun id=>stX_heapN _ (fun i hi _ _ _=>hall i hi)) (by rw[(stX_next _ _).1,(stX_next _ _).1]) (by rw[(stX_next _ _).2,(stX_next _ _).2])
  refine hQ C a w ?_
  rw[hst] at hR
  refine hR.widen fun id hl=>?_
  unfold Rg at *
  have g0:=rgm 0 ops.size (by omega) (Nat.le_refl _)
  rcases hl with h|⟨i,hi,_,h1,h2⟩
  ·omega
  ·have g1:=rgm 0 i (by omega) (by omega)
   have g2:=rgm (i+1) ops.size (by omega) (Nat.le_refl _)
   omega
 induction fuel with
 | zero =>
  intro listed C a w hsz hcl hfu hR
  have hall:∀ i,i < ops.size→listed.getD i false=true:=by
   intro i hi
   have hnil:listed.toList.filter (fun b=>!b)=[]:=List.eq_nil_of_length_eq_zero (by omega)
   rw[List.filter_eq_nil_iff] at hnil
   have hlt:i < listed.size:=by omega
   have:=hnil listed[i] (by simp)
   simpa[Array.getD,hlt] using this
  refine⟨?_,alldone listed C a w hall hR⟩
  cases hr:Region.ready .any ops listed with
  | nil=>rfl
  | cons j rest =>
   have hj:j ∈ Region.ready .any ops listed:=by rw[hr];simp
   obtain⟨o,ho,h1,_⟩:=mem_ready'.1 hj
   have h2:=hall j (T_dst j o ho)
   have hlt:j < listed.size:=by have:=T_dst j o ho;omega
   simp[Array.getD,hlt] at h1 h2
   rw[h1] at h2;cases h2
 | succ fuel ih =>
  intro listed C a w hsz hcl hfu hR
  refine⟨fun hr=>?_,fun j hj=>?_⟩
  ·-- nothing is ready: all are done
   have hall:∀ i,i < ops.size→listed.getD i false=true:=by
    intro i
    induction i using Nat.strongRecOn with
    | _ i ihi =>
     intro hi
     cases hb:listed.getD i false with
     | true=>rfl
     | false =>
      exfalso
      have ho:ops[i]? = some ops[i]:=Array.getElem?_eq_getElem hi
      have hlt:i < listed.size:=by omega
      have:i ∈ Region.ready .any ops listed:=mem_ready'.2 ⟨_,ho,by simpa[Array.getD,hlt] using hb,fun e he=>ihi e ((quiet i _ ho).2 e he) (by have:=(quiet i _ ho).2 e he;omega)⟩
      rw[hr] at this
      cases this
   exact alldone listed C a w hall hR
  ·obtain⟨o,ho,hl0,hed⟩:=mem_ready'.1 hj
   have hjlt:=T_dst j o ho
   have hjl:j < listed.size:=by omega
   have hjX:listed.getD j false=false:=by simpa[Array.getD,hjl] using hl0
   -- what lies ahead of j is done; what lies behind it is not
   have done:∀ i,((aheads ops).getD j 0).testBit i=true→listed.getD i false=true:=fun i hb=>aheads_spec (fun i=>listed.getD i false=true) hcl j o ho hed i hb
   have notdone:∀ i oi,ops[i]? = some oi→((aheads ops).getD i 0).testBit j=true→listed.getD i false=false:=by
    intro i oi hi hb
    cases hx:listed.getD i false with
    | false=>rfl
    | true =>
     have:=aheads_spec (fun i=>listed.getD i false=true) hcl i oi hi (hcl i oi hi hx) j hb
     rw[hjX] at this;cases this
   have agree:∀ t,(t ∈ o.looksAt ops∨o.dst=some t)→∀ i oi,ops[i]? = some oi→oi.dst=some t→i≠j→listed.getD i false=decide (i < j):=by
    intro t ht i oi hi hdst hne
    have hb:=order i j oi o t hi ho hne hdst ht
    by_cases hij:i < j
    ·rw[Nat.max_eq_right (by omega),Nat.min_eq_left (by omega)] at hb
     rw[done i hb,decide_eq_true hij]
    ·rw[Nat.max_eq_left (by omega),Nat.min_eq_right (by omega)] at hb
     rw[notdone i oi hi hb,decide_eq_false hij]
   have hcut:=stX_cut (ops:=ops) (S:=S) (tr:=tr) j ops.size (by omega)
   have henv:∀ t ∈ o.looksAt ops,(stX ops S tr (fun i=>listed.getD i false) ops.size).env t=(stX ops S tr (fun _=>true) j).env t:=by
    intro t ht
    rw[← hcut]
    refine stX_env _ fun i oi _ hi hdst=>?_
    by_cases hne:i=j
    ·subst hne;rw[hjX,decide_eq_false (by omega)]
    ·exact agree t (.inl ht) i oi hi hdst hne
   have hvj:∀ i,i < ops.size→∀ p ∈ (tr i).2,¬ (rg i≤p.1∧p.1 < rg (i+1))→(∀ l,rd j=some l→p.1 ∈ l)→listed.getD i false=decide (i < j):=by
    intro i hi p hp hno hin
    by_cases hne:i=j
    ·subst hne;rw[hjX,decide_eq_false (by omega)]
    ·have hb:=hvord i j hi hjlt (fun e=>hne e.symm) p hp hno hin
     have hoi:ops[i]? = some ops[i]:=Array.getElem?_eq_getElem hi
     by_cases hij:i < j
     ·rw[Nat.max_eq_left (by omega),Nat.min_eq_right (by omega)] at hb
      rw[done i hb,decide_eq_true hij]
     ·rw[Nat.max_eq_right (by omega),Nat.min_eq_left (by omega)] at hb
      rw[notdone i _ hoi hb,decide_eq_false hij]
   have hheap:∀ l,rd j=some l→∀ t ∈ o.looksAt ops,(∀ id ∈ ((stX ops S tr (fun _=>true) j).env t).ids,id ∈ l)→Sub (stX ops S tr (fun _=>true) j).heap (stX ops S tr (fun i=>listed.getD i false) ops.size).heap ((stX ops S tr (fun _=>true) j).env t).ids:=by
    intro l hl t ht hsub id hid b hb
    have hrep:=hR.ok.env t
    rw[henv t ht] at hrep
    have hlive:=hR.live id (hrep.liveS hid)
    rw[← hcut] at hb
    rw[← hb]
    refine stX_heapN _ fun i hi p hp hpe=>?_
    by_cases hown:rg i≤p.1∧p.1 < rg (i+1)
    ·rw[hpe] at hown
     have r1:=rgm 0 i (by omega) (by omega)
     have r2:=rgm (i+1) ops.size (by omega) (Nat.le_refl _)
     rcases hlive with h|h|⟨i',hi',hx,h⟩
     ·exact absurd h (G.fr id (by omega) (by omega))
     ·unfold Rg at h;omega
     ·obtain rfl:i=i':=own_one hm hi hi' hown h
      rw[hx]
      by_cases hij:i < j
      ·rw[decide_eq_true hij]
      ·exfalso
       rw[fresh j i id (by omega) hi hown.1 hown.2 ops.size (Nat.le_refl _)] at hb
       exact hS id b hb (by omega)
    ·exact hvj i hi p hp hown fun l' hl'=>by rw[hl] at hl';injection hl' with hl';rw[← hl',hpe];exact hsub id hid
   have hnt:=(stX_next (ops:=ops) (S:=S) (tr:=tr) (fun i=>listed.getD i false) ops.size).2
   -- the step at the machine's state
   obtain⟨hval,hwant,hcal⟩:=same_seenX (ops:=ops) henv
   have hstep1:StXZ P I ops o (stX ops S tr (fun i=>listed.getD i false) ops.size) (rg j) (rg (j+1)) (tr j).1 (appEff (stX ops S tr (fun i=>listed.getD i false) ops.size).heap (tr j).2):=by
    rcases hT j o ho with⟨h1,h2,h3⟩|⟨h1,h2⟩
    ·exact .inl ⟨by rw[hwant];exact h1,h2,by rw[h3];rfl⟩
    ·refine .inr ⟨by rw[hwant];exact h1,?_⟩
     rcases h2 with⟨h2,h3,h4,h5⟩|⟨f,ds,H0,h2,h3,h4⟩
     ·refine .inr ⟨by rw[hcal];exact h2,(tr j).2,h4,rfl,fun C a w B hSt hn=>hE o _ _ _ _ (hEm _ _ o.op _ _ _ (quiet j o ho).1 hval (fun hp x hx=>?_) h3) C a w B hSt hn⟩
      intro id hid b hb
      obtain⟨l,hl,hsub⟩:=h5 hp
      cases x with
      | tmp t=>exact hheap l hl t (by unfold Oper.looksAt;exact List.mem_append_left _ (List.mem_filterMap.2 ⟨_,hx,rfl⟩)) (hsub _ hx) id hid b hb
      | const v=>exact(const_ids (fun t=>by simp) hid).elim
      | global g=>exact(const_ids (fun t=>by simp) hid).elim
      | func f=>exact(const_ids (fun t=>by simp) hid).elim
     ·refine .inl ⟨f,ds,by rw[hcal];exact h2,h3 _ ?_⟩
      rcases h4 with rfl|⟨rfl,hA⟩
      ·intro id b hb;cases hb
      ·intro id b hb
       rw[← hcut] at hb
       rw[← hb]
       refine stX_heapN _ fun i hi p hp hpe=>?_
       by_cases hij:i < j
       ·rw[decide_eq_true hij]
        exact done i (hA.1 i hij fun h0=>by rw[h0] at hp;cases hp)
       ·by_cases hown:rg i≤p.1∧p.1 < rg (i+1)
        ·exfalso
         rw[hpe] at hown
         rw[fresh j i id (by omega) hi hown.1 hown.2 ops.size (Nat.le_refl _)] at hb
         have r1:=rgm 0 i (by omega) (by omega)
         have r2:=rgm (i+1) ops.size (by omega) (Nat.le_refl _)
         exact hS id b hb (by omega)
        ·exact hvj i hi p hp hown fun l hl=>by rw[hA.2] at hl;cases hl
   refine stX_sound hR (by rw[hnt];exact hd) ho ?_ hstep1 ?_
   ·intro id g1 g2
    have r1:=rgm 0 j (by omega) (by omega)
    have r2:=rgm (j+1) ops.size (by omega) (Nat.le_refl _)
    refine⟨G.fr id (by omega) (by omega),?_⟩
    rintro(h|⟨i,hi,hx,h⟩)
    ·unfold Rg at h;omega
    ·obtain rfl:i=j:=own_one hm hi hjlt h ⟨g1,g2⟩
     rw[hjX] at hx;cases hx
   ·intro C' a' w' hR'
    have hget:∀ i,(listed.setIfInBounds j true).getD i false=if i=j then true else listed.getD i false:=by
     intro i
     by_cases hij:i=j
     ·subst hij;simp[Array.getD,hjl]
     ·rw[if_neg hij];exact getD_set_ne false (fun e=>hij e.symm)
    have hstep:(stX ops S tr (fun i=>listed.getD i false) ops.size).stepH o (tr j).1 (appEff (stX ops S tr (fun i=>listed.getD i false) ops.size).heap (tr j).2)=stX ops S tr (fun i=>(listed.setIfInBounds j true).getD i false) ops.size:=by
     have hcut':=stX_cut (ops:=ops) (S:=S) (tr:=tr) (j+1) ops.size (by omega)
     refine AS.ext2 (fun t=>?_) (fun id=>?_) ?_ ?_
     ·by_cases hdt:o.dst=some t
      ·have h1:(stX ops S tr (fun i=>(listed.setIfInBounds j true).getD i false) ops.size).env t=(stX ops S tr (fun i=>decide (i < j+1)) ops.size).env t:=by
        refine stX_env _ fun i oi _ hi hdst=>?_
        rw[hget]
        by_cases hij:i=j
        ·subst hij;simp
        ·rw[if_neg hij,agree t (.inr hdt) i oi hi hdst hij]
         by_cases h:i < j
         ·rw[decide_eq_true h,decide_eq_true (by omega)]
         ·rw[decide_eq_false h,decide_eq_false (by omega)]
       rw[h1,hcut']
       simp[stX,ho,AS.step,AS.stepH,hdt,upd]
      ·have h1:(stX ops S tr (fun i=>(listed.setIfInBounds j true).getD i false) ops.size).env t=(stX ops S tr (fun i=>listed.getD i false) ops.size).env t:=by
        refine stX_env _ fun i oi _ hi hdst=>?_
        rw[hget]
        by_cases hij:i=j
        ·subst hij;rw[ho] at hi;injection hi with hi;subst hi;exact absurd hdst hdt
        ·rw[if_neg hij]
       rw[h1]
       simp only[AS.stepH]
       cases hdst:o.dst with
       | none=>rfl
       | some t'=>simp only[upd];rw[if_neg (fun e=>hdt (by rw[hdst,e]))]
     ·-- what j does to blocks commutes with what was done ahead of it
      simp only[AS.stepH]
      refine(stX_comm (X:=fun i=>listed.getD i false) (X':=fun i=>(listed.setIfInBounds j true).getD i false) hget hjX ho ?_ id ops.size (by omega) (Nat.le_refl _)).symm
      intro m hjm hms hxm p hp q hq hpq
      have hmj:m≠j:=by omega
      have hom:ops[m]? = some ops[m]:=Array.getElem?_eq_getElem hms
      have nob:((aheads ops).getD m 0).testBit j=true→False:=fun hb=>by
       have:=notdone m _ hom hb
       rw[hxm] at this;cases this
      have r1:=rgm 0 j (by omega) (by omega)
      have r2:=rgm (j+1) ops.size (by omega) (Nat.le_refl _)
      have r3:=rgm 0 m (by omega) (by omega)
      have r4:=rgm (m+1) ops.size (by omega) (Nat.le_refl _)
      by_cases hpj:rg j≤p.1∧p.1 < rg (j+1)
      ·rcases effin m hms q hq with h|h|⟨j',hj',h,hb⟩
       ·omega
       ·have:=own_one (i:=j) (j:=m) (id:=p.1) hm hjlt hms hpj (by rw[hpq];exact h);omega
       ·have:=own_one (i:=j) (j:=j') (id:=p.1) hm hjlt (by omega) hpj (by rw[hpq];exact h)
        subst this
        exact nob hb
      ·by_cases hqm:rg m≤q.1∧q.1 < rg (m+1)
       ·rcases effin j hjlt p hp with h|h|⟨j',hj',h,hb⟩
        ·omega
        ·exact hpj h
        ·have:=own_one (i:=j') (j:=m) (id:=p.1) hm (by omega) hms h (by rw[hpq];exact hqm);omega
       ·have hb:=hvord m j hms hjlt (by omega) q hq hqm fun l hl=>by rw[← hpq];exact hrw j hjlt l hl p hp
        rw[Nat.max_eq_right (by omega),Nat.min_eq_left (by omega)] at hb
        exact nob hb
     ·simp only[AS.stepH];rw[(stX_next _ _).1,(stX_next _ _).1]
     ·simp only[AS.stepH];rw[(stX_next _ _).2,(stX_next _ _).2]
    rw[hstep] at hR'
    refine ih (listed.setIfInBounds j true) C' a' w' (by simpa using hsz) ?_ ?_ ?_
    ·intro j' o' ho' hx e he
     rw[hget] at hx ⊢
     by_cases hej:e=j
     ·simp[hej]
     ·rw[if_neg hej]
      by_cases hjj:j'=j
      ·subst hjj;rw[ho] at ho';injection ho' with ho';subst ho';exact hed e he
      ·rw[if_neg hjj] at hx;exact hcl j' o' ho' hx e he
    ·-- one fewer is left
     have hcount:∀ (l:List Bool) (j:Nat),l[j]? = some false→((l.set j true).filter (fun b=>!b)).length+1=(l.filter (fun b=>!b)).length:=by
      intro l
      induction l with
      | nil=>intro j h;simp at h
      | cons b l ihl =>
       intro j h
       cases j with
       | zero=>simp at h;subst h;simp
       | succ j =>
        simp only[List.getElem?_cons_succ] at h
        have:=ihl j h
        cases b<;>simp at this ⊢<;>omega
     have:=hcount listed.toList j (by simpa[Array.getD,hjl] using hjX)
     simp only[Array.toList_setIfInBounds]
     omega
    ·refine hR'.widen fun id hl=>?_
     rcases hl with(h|⟨i,hi,hx,h⟩)|h
     ·exact .inl h
     ·exact .inr ⟨i,hi,by rw[hget];split<;>simp_all,h⟩
     ·exact .inr ⟨j,hjlt,by rw[hget];simp,h⟩
end
def logE (h:Tr Blk)(l:List Nat):Eff:=l.map fun id=>(id,h.get id)
def inB (n m id:Nat):Bool:=Nat.ble n id&&Nat.blt id m
theorem inB_iff{n m id:Nat}:inB n m id=true ↔ n≤id∧id < m:=by
 unfold inB
 rw[Bool.and_eq_true,Nat.ble_eq,Nat.blt_eq]
def retD (x:Option ES)(d:D)(eff:Eff)(rd:Option (List Nat)):Option (ES × D × Eff × Option (List Nat)):=match x with
 | some s=>some (s,d,eff,rd)
 | none=>none
def opIds(S:AS)(o:Oper):List Nat:=match heapy o.op with
 | true=>o.op.operands.toList.flatMap fun x=>(S.val x).ids
 | false=>[]
def stepE(E:OpF)(cf:CallF)(nt:Nat)(ops:Array Oper)(i:Nat)(prev:List Nat)(o:Oper)(s:ES):Option (ES × D × Eff × Option (List Nat)) :=
 match awant ops (envT s.env) o with
 | none=>none
 | some false=>retD (putE o s .undef s.heap s.n s.lg) .undef [] (some [])
 | some true=>match acallee (s.as nt) o.op with
  | none=>match E o.op s.n (s.as nt) with
   | some (d,eff)=>match appTr s.heap eff with
    | some h=>retD (putE o s d h (s.n+1) (eff.map (·.1)++s.lg)) d eff (some (opIds (s.as nt) o++eff.map (·.1)))
    | none=>none
   | none=>none
  | some (f,ds)=>match ds.flatMap D.ids with
   | []=>match cf f ds .nil s.n with
    | some (d,_,n,[])=>retD (putE o s d s.heap n s.lg) d [] (some [])
    | some (d,h,n,l)=>match l.all (inB s.n n),appTr s.heap (logE h l) with
     | true,some h'=>retD (putE o s d h' n (l++s.lg)) d (logE h l) (some l)
     | _,_=>none
    | none=>none
   | _::_=>match cf f ds s.heap s.n with
    | some (d,h,n,l)=>match l.all (fun id=>(s.heap.get id).isSome||inB s.n n id)&&prev.all (fun j=>((aheads ops).getD i 0).testBit j) with
     | true=>retD (putE o s d h n (l++s.lg)) d (logE h l) none
     | false=>none
    | none=>none
def nextP(i:Nat)(prev:List Nat):Eff→List Nat
 | []=>prev
 | _::_=>i::prev
def runE (E:OpF)(cf:CallF)(nt:Nat)(ops:Array Oper):List Oper→Nat→List Nat→ES→Option (ES × List (D × Eff × Nat × Option (List Nat)))
 | [],_,_,s=>some (s,[])
 | o::l,i,prev,s=>match stepE E cf nt ops i prev o s with
  | some (s',d,eff,rd)=>match runE E cf nt ops l (i+1) (nextP i prev eff) s' with
   | some (s'',T)=>some (s'',(d,eff,s'.n,rd)::T)
   | none=>none
  | none=>none
def trT (T:List (D × Eff × Nat × Option (List Nat)))(i:Nat):D × Eff:=match T[i]? with
 | some x=>(x.1,x.2.1)
 | none=>(.any,[])
def rgT (base:Nat)(T:List (D × Eff × Nat × Option (List Nat))):Nat→Nat
 | 0=>base
 | i+1=>match T[i]? with
  | some x=>x.2.2.1
  | none=>0
def rdT (T:List (D × Eff × Nat × Option (List Nat)))(i:Nat):Option (List Nat):=match T[i]? with
 | some x=>x.2.2.2
 | none=>none
def evD (E:OpF)(cf:CallF)(nt:Nat)(ops:Array Oper)(s:ES):Option ES:=match drawOk ops with
 | true=>match runE E cf nt ops ops.toList 0 [] s with
  | some (s',T)=>match (List.range ops.size).all (fun i=>effRB ops (rgT s.n T) (rdT T) i (trT T i).2) with
   | true=>some s'
   | false=>none
  | none=>none
 | false=>none
section
variable {P:Program}{I:World→Prop}{E:OpF}{cf:CallF}{nt:Nat}{ops:Array Oper}
theorem logE_app{H:Nat→Option Blk}{h:Tr Blk}{l:List Nat}(hl:∀ id,id ∉ l→h.get id=H id):appEff H (logE h l)=h.get:=appEff_log H h.get l hl
theorem retD_some{x:Option ES}{d d':D}{eff eff':Eff}{rd rd':Option (List Nat)}{s:ES}(h:retD x d eff rd=some (s,d',eff',rd')):x=some s∧d=d'∧eff=eff'∧rd=rd':=by
 cases x with
 | none=>cases h
 | some s1=>simp only[retD,Option.some.injEq,Prod.mk.injEq] at h;obtain⟨rfl,rfl,rfl,rfl⟩:=h;exact⟨rfl,rfl,rfl,rfl⟩
theorem logE_mem{h:Tr Blk}{l:List Nat}{p:Nat × Option Blk}(hp:p ∈ logE h l):p.1 ∈ l:=by
 obtain⟨id,hid,rfl⟩:=List.mem_map.1 hp;exact hid
theorem stepE_rel(hE:OpSound P E)(hcf:CallSound P I cf){i:Nat}{prev:List Nat}{o:Oper}{s s':ES}{d:D}{eff:Eff}{rd:Option (List Nat)}(h:stepE E cf nt ops i prev o s=some (s',d,eff,rd)) :
  Mo s s'∧St2 P I E ops o (s.as nt) (∀ j ∈ prev,((aheads ops).getD i 0).testBit j=true) s.n s'.n d eff rd∧(∀ l,rd=some l→∀ p ∈ eff,p.1 ∈ l)∧s'.as nt={ (s.as nt).step o d eff with next:=s'.n }:=by
 unfold stepE at h
 have fin:∀ {hh:Tr Blk} {n:Nat} {l:List Nat},putE o s d hh n l=some s'→hh.get=appEff s.heap.get eff→s'.as nt={ (s.as nt).step o d eff with next:=s'.n }:=by
  intro hh n l hp he
  obtain⟨h1,h2,_,_⟩:=putE_as (nt:=nt) hp
  rw[h2,h1,he]
  rfl
 cases hw:awant ops (envT s.env) o with
 | none=>rw[hw] at h;cases h
 | some r =>
  rw[hw] at h
  cases r with
  | false =>
   simp only at h
   obtain⟨hp,rfl,rfl,rfl⟩:=retD_some h
   obtain⟨h1,h2,h3,h4⟩:=putE_as (nt:=nt) hp
   exact⟨⟨by omega,fun id hi=>⟨by rw[h4] at hi;exact hi,by rw[h3]⟩⟩,.inl ⟨hw,rfl,rfl⟩,fun l _ p hp=>by(cases hp),fin hp rfl⟩
  | true =>
   simp only at h
   cases hc:acallee (s.as nt) o.op with
   | none =>
    rw[hc] at h
    simp only at h
    cases he:E o.op s.n (s.as nt) with
    | none=>rw[he] at h;cases h
    | some r =>
     obtain⟨d0,eff0⟩:=r
     rw[he] at h
     simp only at h
     cases ha:appTr s.heap eff0 with
     | none=>rw[ha] at h;cases h
     | some hh =>
      rw[ha] at h
      simp only at h
      obtain⟨hp,rfl,rfl,rfl⟩:=retD_some h
      obtain⟨h1,h2,h3,h4⟩:=putE_as (nt:=nt) hp
      refine⟨⟨by omega,fun id hi=>?_⟩,.inr ⟨hw,.inl ⟨hc,he,by omega,fun hh=>⟨_,rfl,fun x hx id hid=>List.mem_append_left _ (by unfold opIds;rw[hh];exact List.mem_flatMap.2 ⟨x,hx,hid⟩)⟩⟩⟩,fun l hl p hp=>by(injection hl with hl;rw[← hl];exact List.mem_append_right _ (List.mem_map.2 ⟨p,hp,rfl⟩)),fin hp (appTr_get eff0 ha)⟩
      rw[h4,List.mem_append] at hi
      refine⟨fun h=>hi (.inr h),?_⟩
      rw[h3,appTr_get eff0 ha]
      exact appEff_notin _ _ _ fun p hp he=>hi (.inl (List.mem_map.2 ⟨p,hp,he⟩))
   | some fds =>
    obtain⟨f,ds⟩:=fds
    rw[hc] at h
    simp only at h
    split at h
    ·-- no own blocks among the arguments
     split at h
     ·rename_i d0 h0 n0 hf
      obtain⟨hp,rfl,rfl,rfl⟩:=retD_some h
      obtain⟨k1,k2,k3⟩:=hcf f ds .nil s.n d0 h0 n0 [] hf
      obtain⟨h1,h2,h3,h4⟩:=putE_as (nt:=nt) hp
      have hg:h0.get=fun _=>none:=funext fun id=>k3 id (by simp)
      refine⟨⟨by omega,fun id hi=>⟨by rw[h4] at hi;exact hi,by rw[h3]⟩⟩,.inr ⟨hw,.inr ⟨f,ds,fun _=>none,hc,fun H' hs=>?_,.inl rfl⟩⟩,fun l _ p hp=>by(cases hp),fin hp rfl⟩
      rw[h2]
      refine XOK.frame (eff:=[]) (H0:=fun _=>none) ?_ hs (fun p hp=>by cases hp)
      rw[hg] at k2
      exact k2
     ·rename_i d0 h0 n0 l0 hne hf
      split at h
      ·rename_i h1' hall happ
       obtain⟨hp,rfl,rfl,rfl⟩:=retD_some h
       obtain⟨k1,k2,k3⟩:=hcf f ds .nil s.n d0 h0 n0 l0 hf
       obtain⟨h1,h2,h3,h4⟩:=putE_as (nt:=nt) hp
       have hin:∀ p ∈ logE h0 l0,s.n≤p.1∧p.1 < n0:=fun p hp=>inB_iff.1 (List.all_eq_true.1 hall p.1 (logE_mem hp))
       refine⟨⟨by omega,fun id hi=>?_⟩,.inr ⟨hw,.inr ⟨f,ds,fun _=>none,hc,fun H' hs=>?_,.inl rfl⟩⟩,fun l hl p hp=>by(injection hl with hl;rw[← hl];exact logE_mem hp),fin hp (appTr_get _ happ)⟩
       ·rw[h4,List.mem_append] at hi
        refine⟨fun h=>hi (.inr h),?_⟩
        rw[h3,appTr_get _ happ]
        exact appEff_notin _ _ _ fun p hp he=>hi (.inl (by rw[← he];exact logE_mem hp))
       ·rw[h2]
        refine XOK.frame (eff:=logE h0 l0) (H0:=fun _=>none) ?_ hs (fun p hp=>.inr (hin p hp))
        rw[logE_app (H:=fun _=>none) (fun id hi=>k3 id hi)]
        exact k2
      ·cases h
     ·cases h
    ·rename_i x xs hx
     split at h
     ·rename_i d0 h0 n0 l0 hf
      split at h
      ·rename_i hall
       obtain⟨hp,rfl,rfl,rfl⟩:=retD_some h
       obtain⟨k1,k2,k3⟩:=hcf f ds s.heap s.n d0 h0 n0 l0 hf
       obtain⟨h1,h2,h3,h4⟩:=putE_as (nt:=nt) hp
       rw[Bool.and_eq_true,List.all_eq_true,List.all_eq_true] at hall
       refine⟨⟨by omega,fun id hi=>?_⟩,.inr ⟨hw,.inr ⟨f,ds,s.heap.get,hc,fun H' hs=>?_,.inr ⟨rfl,hall.2,rfl⟩⟩⟩,fun l hl=>by(cases hl),fin hp (logE_app (fun id hi=>k3 id hi)).symm⟩
       ·rw[h4,List.mem_append] at hi
        exact⟨fun h=>hi (.inr h),by rw[h3];exact k3 id fun h=>hi (.inl h)⟩
       ·rw[h2]
        refine XOK.frame (eff:=logE h0 l0) (H0:=s.heap.get) ?_ hs (fun p hp=>?_)
        ·rw[logE_app (fun id hi=>k3 id hi)]
         exact k2
        ·have:=hall.1 p.1 (logE_mem hp)
         rw[Bool.or_eq_true] at this
         exact this.imp (fun h=>h) fun h=>inB_iff.1 h
      ·cases h
     ·cases h
theorem St2.next{S:AS}{o:Oper}{A A':Prop}{n m k:Nat}{d:D}{eff:Eff}{rd:Option (List Nat)}(hEm:OpMono E)(hq:quietOp o.op=true)(hA:A→A')(h:St2 P I E ops o { S with next:=k } A n m d eff rd):St2 P I E ops o S A' n m d eff rd:=by
 rcases h with h|⟨h1,h2⟩
 ·exact .inl h
 ·refine .inr ⟨h1,?_⟩
  rcases h2 with⟨h2,h3,h4,h5⟩|⟨f,ds,H0,h2,h3,h4⟩
  ·exact .inl ⟨h2,hEm { S with next:=k } S o.op _ _ _ hq (fun _ _=>rfl) (fun _ _ _ _ _ _ h=>h) h3,h4,h5⟩
  ·exact .inr ⟨f,ds,H0,h2,h3,h4.imp (fun h=>h) fun h=>⟨h.1,hA h.2.1,h.2.2⟩⟩
theorem runE_trace(hE:OpSound P E)(hEm:OpMono E)(hcf:CallSound P I cf)(hq:∀ (i:Nat) (o:Oper),ops[i]? = some o→quietOp o.op=true){S:AS}{tr:Nat→D × Eff}{rg:Nat→Nat}{rd:Nat→Option (List Nat)} :
  ∀ (l:List Oper) (i:Nat) (prev:List Nat) (s s':ES) (T:List (D × Eff × Nat × Option (List Nat))),ops.toList.drop i=l→runE E cf nt ops l i prev s=some (s',T)→(∀ k x,T[k]? = some x→tr (i+k)=(x.1,x.2.1)∧rg (i+k+1)=x.2.2.1∧rd (i+k)=x.2.2.2)→rg i=s.n →
   s.as nt={ stX ops S tr (fun _=>true) i with next:=s.n }→(∀ j,j < i→(tr j).2≠[]→j ∈ prev)→i≤ops.size →
   Mo s s'∧s'.as nt={ stX ops S tr (fun _=>true) ops.size with next:=s'.n }∧rg ops.size=s'.n∧(∀ (k:Nat) (o:Oper),i≤k→ops[k]? = some o→rg k≤rg (k+1)∧St2 P I E ops o (stX ops S tr (fun _=>true) k) (∀ j,j < k→(tr j).2≠[]→((aheads ops).getD k 0).testBit j=true) (rg k) (rg (k+1)) (tr k).1 (tr k).2 (rd k)∧∀ l,rd k=some l→∀ p ∈ (tr k).2,p.1 ∈ l):=by
 intro l
 induction l with
 | nil =>
  intro i prev s s' T hd h hT hrg has hprev hi
  simp only[runE,Option.some.injEq,Prod.mk.injEq] at h
  obtain⟨rfl,rfl⟩:=h
  obtain rfl:i=ops.size:=by have:=congrArg List.length hd;simp at this;omega
  refine⟨Mo.refl _,has,hrg,fun k o hk ho=>?_⟩
  exfalso
  rw[Array.getElem?_eq_none hk] at ho;cases ho
 | cons o l ih =>
  intro i prev s s' T hd h hT hrg has hprev hi
  have hoi:ops[i]? = some o:=by
   have:(ops.toList.drop i)[0]? = some o:=by rw[hd];rfl
   simpa using this
  have hd':ops.toList.drop (i+1)=l:=by rw[← List.drop_drop,hd];rfl
  have hi':i+1≤ops.size:=by have:=congrArg List.length hd;simp at this;omega
  simp only[runE] at h
  cases h1:stepE E cf nt ops i prev o s with
  | none=>rw[h1] at h;cases h
  | some r =>
   obtain⟨s1,d,eff,rd0⟩:=r
   rw[h1] at h
   simp only at h
   cases h2:runE E cf nt ops l (i+1) (nextP i prev eff) s1 with
   | none=>rw[h2] at h;cases h
   | some r =>
    obtain⟨s2,T1⟩:=r
    rw[h2] at h
    simp only[Option.some.injEq,Prod.mk.injEq] at h
    obtain⟨rfl,rfl⟩:=h
    obtain⟨hmo,hst,hrw,has1⟩:=stepE_rel (P:=P) (I:=I) hE hcf h1
    obtain⟨t0,t1,t2⟩:=hT 0 (d,eff,s1.n,rd0) rfl
    simp only[Nat.add_zero] at t0 t1 t2
    have hX:stX ops S tr (fun _=>true) (i+1)=(stX ops S tr (fun _=>true) i).step o d eff:=by
     simp[stX,hoi,t0]
    obtain⟨m1,m2,m3,m4⟩:=ih (i+1) (nextP i prev eff) s1 s2 T1 hd' h2 (fun k x hx=>by
     have:=hT (k+1) x hx
     rw[show i+(k+1)=i+1+k by omega] at this
     exact this) t1 (by rw[has1,hX,has];rfl) (fun j hj hne=>by
     by_cases hji:j=i
     ·subst hji
      rw[t0] at hne
      cases eff with
      | nil=>exact absurd rfl hne
      | cons p e=>exact List.mem_cons_self
     ·have:=hprev j (by omega) hne
      cases eff with
      | nil=>exact this
      | cons p e=>exact List.mem_cons_of_mem _ this) hi'
    refine⟨hmo.trans m1,m2,m3,fun k ok hk hok=>?_⟩
    by_cases hki:k=i
    ·subst hki
     rw[hoi] at hok;injection hok with hok;subst hok
     refine⟨by rw[hrg,t1];exact hmo.1,?_⟩
     rw[has] at hst
     rw[hrg,t1,t0,t2]
     exact⟨hst.next hEm (hq k _ hoi) fun hA j hj hne=>hA j (hprev j hj hne),hrw⟩
    ·exact m4 k ok (by omega) hok
theorem runE_len:∀ (l:List Oper) (i:Nat) (prev:List Nat) (s s':ES) (T:List (D × Eff × Nat × Option (List Nat))),runE E cf nt ops l i prev s=some (s',T)→T.length=l.length
 | [],i,prev,s,s',T,h=>by simp only[runE,Option.some.injEq,Prod.mk.injEq] at h;rw[← h.2];rfl
 | o::l,i,prev,s,s',T,h=>by
  simp only[runE] at h
  cases h1:stepE E cf nt ops i prev o s with
  | none=>rw[h1] at h;cases h
  | some r =>
   obtain⟨s1,d,eff,rd0⟩:=r
   rw[h1] at h
   simp only at h
   cases h2:runE E cf nt ops l (i+1) (nextP i prev eff) s1 with
   | none=>rw[h2] at h;cases h
   | some r =>
    obtain⟨s2,T1⟩:=r
    rw[h2] at h
    simp only[Option.some.injEq,Prod.mk.injEq] at h
    obtain⟨rfl,rfl⟩:=h
    simp[runE_len l _ _ _ _ _ h2]
theorem evD_sound(hE:OpSound P E)(hEm:OpMono E)(hmix:P.follows .mixedOrders=true)(hcf:CallSound P I cf):DrawSound P I (evD E cf):=by
 intro nt ops s s' h
 unfold evD at h
 split at h
 case h_2=>cases h
 rename_i hok
 split at h
 case h_2=>cases h
 rename_i s1 T hrun
 split at h
 case h_2=>cases h
 rename_i hchk
 simp only[Option.some.injEq] at h
 subst h
 have hc1:=List.all_eq_true.1 hchk
 have hquiet:∀ (i:Nat) (o:Oper),ops[i]? = some o→quietOp o.op=true:=by
  intro j o ho
  have hm:(o,j) ∈ ops.toList.zipIdx:=by rw[List.mem_zipIdx_iff_getElem?];simpa using ho
  have h1:=hok
  simp only[drawOk,Bool.and_eq_true] at h1
  have:=List.all_eq_true.1 h1.1 (o,j) hm
  simp only[Bool.and_eq_true] at this
  exact this.1
 have hlen:=runE_len (E:=E) (cf:=cf) (nt:=nt) (ops:=ops) _ _ _ _ _ _ hrun
 obtain⟨hmo,has,hrg,hst⟩:=runE_trace (P:=P) (I:=I) (S:=s.as nt) (tr:=trT T) (rg:=rgT s.n T) (rd:=rdT T) hE hEm hcf hquiet ops.toList 0 [] s s1 T (by simp) hrun (fun k x hx=>by
  simp only[Nat.zero_add]
  exact⟨by simp[trT,hx],by simp[rgT,hx],by simp[rdT,hx]⟩) rfl rfl (fun j hj=>by omega) (Nat.zero_le _)
 refine⟨hmo,fun G C a w rid Q hN hn0 hd hR hK=>?_⟩
 refine wp_region_any hmix ?_
 have hR':RX I G (Rg G.n0 s.n) (s.as nt) C a { w with drawn:=w.drawn+1 }:=by
  have hcell:∀ b o,C.F b o→({ w with drawn:=w.drawn+1 }:World).heap[b]? = w.heap[b]?:=fun _ _ _=>rfl
  have he:Ext C w C { w with drawn:=w.drawn+1 }:=⟨fun _ _ h=>h,hcell,fun _ h=>h,fun _ _=>rfl⟩
  refine⟨⟨fun t=>(hR.ok.env t).ext he,⟨fun id b hb=>?_,hR.ok.heap.own,hR.ok.heap.pin,hR.ok.heap.apart⟩,hR.ok.fb,hR.ok.base⟩,hR.inv,⟨hR.below.os,hR.below.tape,hR.below.output,hR.below.size,hR.below.block⟩,hR.new,hR.ext.trans he,hR.defers,hR.size,hR.live⟩
  obtain⟨k1,k2⟩:=hR.ok.heap.rep id b hb
  exact⟨k1,k2.keep k1 he (fun _ _=>rfl) (fun _ _ _ h=>h)⟩
 have hnone:∀ i,(Array.replicate ops.size false).getD i false=false:=by
  intro i
  rw[Array.getD_eq_getD_getElem?,Array.getElem?_replicate]
  split<;>rfl
 have hst0:∀ m,stX ops (s.as nt) (trT T) (fun i=>(Array.replicate ops.size false).getD i false) m=s.as nt:=by
  intro m
  rw[show(fun i=>(Array.replicate ops.size false).getD i false)=fun _=>false from funext hnone]
  induction m with
  | zero=>rfl
  | succ m ihm =>
   simp only[stX,ihm,Bool.false_eq_true,if_false]
   cases ops[m]?<;>rfl
 refine draw_anyX (rg:=rgT s.n T) (rd:=rdT T) hE hEm hd hok (fun i hi=>hc1 i (List.mem_range.2 hi)) (fun i hi=>(hst i ops[i] (Nat.zero_le _) (Array.getElem?_eq_getElem hi)).2.2) (fun i hi=>(hst i ops[i] (Nat.zero_le _) (Array.getElem?_eq_getElem hi)).1) hn0 (by rw[hrg];exact hN) (fun id b hb=>?_) (fun i o ho=>(hst i o (Nat.zero_le _) ho).2.1) (fun C' a' w' hr=>?_) ops.size (Array.replicate ops.size false) C a _ (by simp) (fun j o _ hx=>by rw[hnone] at hx;cases hx) (by simp[List.filter_replicate]) (by
  rw[hst0]
  exact hR'.widen fun id hl=>.inl hl)
 ·rintro⟨h1,h2⟩
  have h1':s.n≤id:=h1
  rw[hrg] at h2
  rcases hR'.live id (hR'.ok.heap.rep id b hb).1 with h|h
  ·exact G.fr id (by omega) (by omega) h
  ·unfold Rg at h;omega
 ·refine hK C' a' w' ?_
  rw[has]
  rw[hrg] at hr
  exact hr.nx
end
def pur1K(H:Nat→Option Blk):D→Option (D × Eff)
 | .nils=>some (.nils,[])
 | d=>pur1 H d
def purLK(H:Nat→Option Blk):List D→Option (List D × Eff)
 | []=>some ([],[])
 | d::ds=>match pur1K H d with
  | some (d',e)=>match purLK (appEff H e) ds with
   | some (ds',e')=>some (d'::ds',e++e')
   | none=>none
  | none=>none
def purDK(H:Nat→Option Blk):D→Option (D × Eff)
 | .agg ds=>match purLK H ds with
  | some (ds',e)=>some (.agg ds',e)
  | none=>none
 | d=>pur1K H d
def purDsK(H:Nat→Option Blk):List D→Option (List D × Eff)
 | []=>some ([],[])
 | d::ds=>match purDK H d with
  | some (d',e)=>match purDsK (appEff H e) ds with
   | some (ds',e')=>some (d'::ds',e++e')
   | none=>none
  | none=>none
def bsK (P:Program)(e:TypeId)(len:Nat)(parts:Array (Nat × Operand))(nid:Nat)(S:AS):Option (D × Eff):=match szT P e with
 | some k=>match zeroD P e with
  | some z=>match purDsK S.heap (parts.toList.map fun p=>S.val p.2) with
   | some (xs,ep)=>if parts.toList.map (·.1)=List.range len∧(∀ x ∈ xs,x.cells.length=k)∧len * k≤2 ^ 24∧0 < k∧z.okS=true∧z.cells.length=k then some (.own nid len,ep++[(nid,some (.vec e k xs false))]) else none
   | none=>none
  | none=>none
 | none=>none
def op2 (P:Program):OpF:=fun o nid S=>match o with
 | .buildSlice t len parts=>match sliceT P t with
  | some e=>match fullT P e with
   | true=>aop P (.buildSlice t len parts) nid S
   | false=>bsK P e len parts nid S
  | none=>none
 | o=>aop P o nid S
section
variable {P:Program}{o:Oper}{a:Act}{w:World}{C C':Cx}{B:Bx}{H:Nat→Option Blk}{nid:Nat}{S S':AS}{d:D}{eff:Eff}
theorem pur1K_eq(hd:d≠.nils):pur1K H d=pur1 H d:=by
 cases d<;>first|rfl|exact absurd rfl hd
theorem pur1K_sound{d':D}{ep:Eff}{v:Value}(hH:HOK C w B H)(hF:FB C w)(h:pur1K H d=some (d',ep))(hv:Rep w C v d):∃ C',Pub C w B H C' (appEff H ep)∧Rep w (cF C'.F) v d'∧(d'.ok1=true):=by
 by_cases hd:d=.nils
 ·subst hd
  simp only[pur1K,Option.some.injEq,Prod.mk.injEq] at h
  obtain⟨rfl,rfl⟩:=h
  cases hv
  exact⟨C,Pub.refl hH hF,.nils,rfl⟩
 ·rw[pur1K_eq hd] at h
  exact pur1_sound hH hF h hv
theorem purLK_sound:∀ (ds:List D) (vs:List Value) (C:Cx) (H:Nat→Option Blk) (ds':List D) (ep:Eff),HOK C w B H→FB C w→RepL C w vs ds→purLK H ds=some (ds',ep)→∃ C',Pub C w B H C' (appEff H ep)∧RepL (cF C'.F) w vs ds':=by
 intro ds
 induction ds with
 | nil =>
  intro vs C H ds' ep hH hF hL h
  simp[purLK] at h
  obtain⟨rfl,rfl⟩:=h
  have:vs=[]:=List.eq_nil_of_length_eq_zero hL.len
  subst this
  exact⟨C,Pub.refl hH hF,RepL.nil⟩
 | cons d ds ih =>
  intro vs C H ds' ep hH hF hL h
  cases vs with
  | nil=>have:=hL.len;simp at this
  | cons v vs =>
   simp only[purLK] at h
   cases h1:pur1K H d with
   | none=>rw[h1] at h;simp at h
   | some p =>
    obtain⟨d',e1⟩:=p
    rw[h1] at h
    simp only at h
    cases h2:purLK (appEff H e1) ds with
    | none=>rw[h2] at h;simp at h
    | some q =>
     obtain⟨ds'',e2⟩:=q
     rw[h2] at h
     simp at h
     obtain⟨rfl,rfl⟩:=h
     obtain⟨C1,p1,p2,_⟩:=pur1K_sound hH hF h1 (hL.rep 0 v d rfl rfl)
     have hL':RepL C1 w vs ds:=by
      have:=(hL.drop 1).ext p1.ext
      simpa using this
     obtain⟨C2,p3,p4⟩:=ih vs C1 _ _ _ p1.ok p1.fb hL' h2
     rw[appEff_append]
     refine⟨C2,p1.trans p3,?_⟩
     have h0:RepL (cF C2.F) w [v] [d']:=RepL.one1 (hL.one v (by simp)) (p2.ext p3.ext.cF)
     exact h0.append p4
theorem purDK_sound{d':D}{ep:Eff}{v:Value}(hH:HOK C w B H)(hF:FB C w)(h:purDK H d=some (d',ep))(hv:Rep w C v d):∃ C',Pub C w B H C' (appEff H ep)∧Rep w (cF C'.F) v d'∧d'.okS=true:=by
 unfold purDK at h
 split at h
 ·rename_i ds
  cases h1:purLK H ds with
  | none=>rw[h1] at h;simp at h
  | some p =>
   obtain⟨ds',e1⟩:=p
   rw[h1] at h
   simp at h
   obtain⟨rfl,rfl⟩:=h
   cases hv with
   | agg vs _ hl h2 h3 =>
    obtain⟨C',p1,p2⟩:=purLK_sound ds vs C H ds' e1 hH hF ⟨hl,h2,h3⟩ h1
    exact⟨C',p1,p2.agg,rfl⟩
 ·obtain⟨C',p1,p2,p3⟩:=pur1K_sound hH hF h hv
  refine⟨C',p1,p2,?_⟩
  cases d'<;>simp_all[D.okS,D.ok1]
theorem purDsK_sound:∀ (ds:List D) (vs:List Value) (C:Cx) (H:Nat→Option Blk) (ds':List D) (ep:Eff),HOK C w B H→FB C w→vs.length=ds.length→(∀ (i:Nat) v d,vs[i]? = some v→ds[i]? = some d→Rep w C v d)→purDsK H ds=some (ds',ep) →
  ∃ C',Pub C w B H C' (appEff H ep)∧vs.length=ds'.length∧∀ (i:Nat) v d,vs[i]? = some v→ds'[i]? = some d→Rep w (cF C'.F) v d∧d.okS=true:=by
 intro ds
 induction ds with
 | nil =>
  intro vs C H ds' ep hH hF hl _ h
  simp[purDsK] at h
  obtain⟨rfl,rfl⟩:=h
  exact⟨C,Pub.refl hH hF,hl,by simp⟩
 | cons d ds ih =>
  intro vs C H ds' ep hH hF hl hR h
  cases vs with
  | nil=>simp at hl
  | cons v vs =>
   simp only[purDsK] at h
   cases h1:purDK H d with
   | none=>rw[h1] at h;simp at h
   | some p =>
    obtain⟨d',e1⟩:=p
    rw[h1] at h
    simp only at h
    cases h2:purDsK (appEff H e1) ds with
    | none=>rw[h2] at h;simp at h
    | some q =>
     obtain⟨ds'',e2⟩:=q
     rw[h2] at h
     simp at h
     obtain⟨rfl,rfl⟩:=h
     obtain⟨C1,p1,p2,p2'⟩:=purDK_sound hH hF h1 (hR 0 v d rfl rfl)
     obtain⟨C2,p3,p4,p5⟩:=ih vs C1 _ _ _ p1.ok p1.fb (by simpa using hl) (fun i u x hu hx=>(hR (i+1) u x (by simpa using hu) (by simpa using hx)).ext p1.ext) h2
     rw[appEff_append]
     refine⟨C2,p1.trans p3,by simpa using p4,fun i u x hu hx=>?_⟩
     cases i with
     | zero=>simp at hu hx;subst hu hx;exact⟨p2.ext p3.ext.cF,p2'⟩
     | succ i=>exact p5 i u x (by simpa using hu) (by simpa using hx)
theorem pur1K_sub{H H':Nat→Option Blk}{d d':D}{e:Eff}(hs:Sub H H' d.ids1)(h:pur1K H d=some (d',e)):pur1K H' d=some (d',e):=by
 by_cases hd:d=.nils
 ·subst hd;exact h
 ·rw[pur1K_eq hd] at h ⊢
  exact pur1_sub hs h
theorem purLK_sub:∀ (ds:List D) (H H':Nat→Option Blk) (ds':List D) (e:Eff),Sub H H' (ds.flatMap D.ids1)→purLK H ds=some (ds',e)→purLK H' ds=some (ds',e)
 | [],H,H',ds',e,_,h=>by simpa[purLK] using h
 | d::ds,H,H',ds',e,hs,h=>by
  simp only[purLK] at h ⊢
  cases h1:pur1K H d with
  | none=>rw[h1] at h;simp at h
  | some p =>
   obtain⟨d1,e1⟩:=p
   rw[h1] at h
   rw[pur1K_sub (fun id hid=>hs id (by simp[hid])) h1]
   simp only at h ⊢
   cases h2:purLK (appEff H e1) ds with
   | none=>rw[h2] at h;simp at h
   | some q =>
    obtain⟨d2,e2⟩:=q
    rw[h2] at h
    rw[purLK_sub ds _ (appEff H' e1) d2 e2 (Sub.app (fun id hid=>hs id (by simp only[List.flatMap_cons,List.mem_append];exact .inr hid)) e1) h2]
    exact h
theorem purDK_sub{H H':Nat→Option Blk}{d':D}{e:Eff}(hs:Sub H H' d.ids)(h:purDK H d=some (d',e)):purDK H' d=some (d',e):=by
 unfold purDK at h ⊢
 split at h
 ·rename_i ds
  cases h1:purLK H ds with
  | none=>rw[h1] at h;simp at h
  | some p =>
   obtain⟨d1,e1⟩:=p
   rw[h1] at h
   simp only[purLK_sub ds H H' d1 e1 hs h1]
   exact h
 ·rename_i hd
  refine pur1K_sub (fun id hid=>hs id ?_) h
  cases d<;>first|exact hid|exact absurd rfl (hd _)|(simp[D.ids1] at hid)
theorem purDsK_sub:∀ (ds:List D) (H H':Nat→Option Blk) (ds':List D) (e:Eff),Sub H H' (ds.flatMap D.ids)→purDsK H ds=some (ds',e)→purDsK H' ds=some (ds',e)
 | [],H,H',ds',e,_,h=>by simpa[purDsK] using h
 | d::ds,H,H',ds',e,hs,h=>by
  simp only[purDsK] at h ⊢
  cases h1:purDK H d with
  | none=>rw[h1] at h;simp at h
  | some p =>
   obtain⟨d1,e1⟩:=p
   rw[h1] at h
   rw[purDK_sub (fun id hid=>hs id (by simp[hid])) h1]
   simp only at h ⊢
   cases h2:purDsK (appEff H e1) ds with
   | none=>rw[h2] at h;simp at h
   | some q =>
    obtain⟨d2,e2⟩:=q
    rw[h2] at h
    rw[purDsK_sub ds _ (appEff H' e1) d2 e2 (Sub.app (fun id hid=>hs id (by simp only[List.flatMap_cons,List.mem_append];exact .inr hid)) e1) h2]
    exact h
theorem s_buildSliceG(hS:StOK C w a B S)(hn:¬ C.live nid)(t e:TypeId)(len k:Nat)(parts:Array (Nat × Operand))(z:D)(xs:List D)(ep:Eff)(ht:sliceT P t=some e)(hk:szT P e=some k)(hpur:∃ C1,Pub C w B S.heap C1 (appEff S.heap ep)∧(parts.toList.map fun p=>a.eval p.2).length=xs.length∧∀ (i:Nat) v d,(parts.toList.map fun p=>a.eval p.2)[i]? = some v→xs[i]? = some d→Rep w (cF C1.F) v d∧d.okS=true)(hp:parts.toList.map (·.1)=List.range len)
  (hx:∀ x ∈ xs,x.cells.length=k) (hm:len * k≤2 ^ 24) (hk0:0 < k) (hz:zeroD P e=some z) (hzo:z.okS=true) (hzl:z.cells.length=k) (ho:o.op=.buildSlice t len parts) :
  OpOK P o a w C B S.heap nid (.own nid len) (ep++[(nid,some (.vec e k xs false))]):=by
 have hlen:parts.toList.length=len:=by have:=congrArg List.length hp;simpa using this
 obtain⟨C1,hP,hvl,hvr⟩:=hpur
 refine OpOK.after hP ?_
 have hn1:¬ C1.live nid:=by rw[hP.live];exact hn
 obtain⟨zv,hzr,hzR⟩:=zeroD_run (C:=cF C1.F) (w:=w) hz
 have hzc:=hzR.cellsS hzo
 have hzs:zv.cells.size=k:=by have:=hzc.len;simp at this;omega
 have hxl:xs.length=len:=by rw[← hvl];simp[← hlen]
 have hinit:RepL (cF C1.F) w ((Array.range (len * k)).map (zv.cells[· % zv.cells.size]!)).toList (List.replicate (xs.length * k) .any):=by
  refine⟨by simp[hxl],fun v hv=>?_,fun i v d hv hd=>?_⟩
  ·simp at hv
   obtain⟨i,hi,rfl⟩:=hv
   have hlt:i % zv.cells.size < zv.cells.size:=Nat.mod_lt _ (by omega)
   rw[getElem!_pos zv.cells (i % zv.cells.size) hlt]
   exact hzc.one _ (by simp)
  ·rw[List.getElem?_replicate] at hd
   split at hd
   ·injection hd with hd;subst hd;exact .any _
   ·cases hd
 have hrel:∀ (i:Nat) p q,(parts.map fun p=>(p.1,a.eval p.2)).toList[i]? = some p→((List.range' 0 xs.length).zip xs)[i]? = some q→p.1=q.1∧Rep w (cF C1.F) p.2 q.2:=by
  intro i p q hp' hq
  rw[List.getElem?_zip_eq_some] at hq
  simp only[Array.toList_map,List.getElem?_map] at hp'
  cases hi:parts.toList[i]? with
  | none=>rw[hi] at hp';simp at hp'
  | some r =>
   rw[hi] at hp'
   simp at hp'
   subst hp'
   have h1:(parts.toList.map (·.1))[i]? = some r.1:=by simp[hi]
   rw[hp] at h1
   obtain⟨hq1,hq2⟩:=hq
   have hlt:i < len:=by have:=(List.getElem?_eq_some_iff.1 h1).1;simpa using this
   rw[List.getElem?_range hlt] at h1
   rw[List.getElem?_range' (by omega)] at hq1
   injection h1 with h1
   injection hq1 with hq1
   exact⟨by simp;omega,(hvr i _ _ (by simp[hi]) hq2).1⟩
 have hxs:∀ x ∈ xs,x.okS=true∧x.cells.length=k:=by
  intro x hx'
  obtain⟨i,hi⟩:=List.getElem?_of_mem hx'
  have hil:i < (parts.toList.map fun p=>a.eval p.2).length:=by rw[hvl];exact(List.getElem?_eq_some_iff.1 hi).1
  exact⟨(hvr i _ x (List.getElem?_eq_getElem hil) hi).2,hx x hx'⟩
 obtain⟨cells',h1,h2⟩:=fill_rep (C:=cF C1.F) (w:=w) (fun i=>some (i * k,k)) (parts.map fun p=>(p.1,a.eval p.2)).toList ((List.range' 0 xs.length).zip xs) _ _ _ hinit (by simp[hxl,hlen]) hrel
  (by have:=fillD_all k xs [] 0 hxs (by simp);simpa using this)
 have hcl:cells'.toList.length=len * k:=by rw[h2.len,flat_len2 k xs hx,hxl]
 have hrun:(execOp a.eval o).run P w=.ok (.value (.slice (some ⟨w.heap.size,0,none⟩) len len)) (w.alloc (.cells cells' e)):=by
  have hnot:¬ (len * k > 2 ^ 24):=by omega
  simp only[execOp,ho,Instr.buildSlice,Sem.run_bind,underlying_run (sliceT_under ht),Result.andThen_ok,szT_run hk,hnot,if_false,Sem.run_pure]
  by_cases h0:len * k=0
  ·simp only[h0,if_true,Sem.run_bind,Sem.run_pure,Result.andThen_ok] at h1 ⊢
   have e0:(Array.range 0).map (fun x=>(#[]:Array Value)[x % (#[]:Array Value).size]!)=(Array.range 0).map (zv.cells[· % zv.cells.size]!):=by simp
   rw[e0,h1]
   rfl
  ·simp only[h0,if_false,Sem.run_bind,hzr,Result.andThen_ok,Sem.run_pure,h1]
   rfl
 have hml:len≤maxLen:=by
  have:len≤len * k:=Nat.le_mul_of_pos_right _ hk0
  unfold maxLen;omega
 have hown:=ownsRow_new (w:=w) e k len cells'.toList hcl hml
 rw[Array.toArray_toList] at hown
 have:=ok_vec (w':=w.alloc (.cells cells' e)) (xs:=xs) (P:=P) (o:=o) (a:=a) hP.ok hP.fb hn1 hx h2 (by rw[hxl];exact hown) (fun g hg=>Below.heap_alloc w _ g hg) ((BelM.refl _ _).alloc _) hS.base (fun g hg=>by simp[Value.ownBlock] at hg;omega) hrun
 rw[hxl] at this
 exact this
theorem op2_sound:OpSound P (op2 P):=by
 intro o n S d eff h C a w B hS hn
 generalize hop:o.op=op at h
 cases op with
 | buildSlice t len parts =>
  simp only[op2] at h
  cases ht:sliceT P t with
  | none=>rw[ht] at h;cases h
  | some e =>
   simp only[ht] at h
   cases hf:fullT P e with
   | true=>simp only[hf] at h;exact aop_sound hS hn (by rw[hop];exact h)
   | false =>
    simp only[hf] at h
    unfold bsK at h
    cases hk:szT P e with
    | none=>rw[hk] at h;cases h
    | some k =>
     simp only[hk] at h
     cases hz:zeroD P e with
     | none=>rw[hz] at h;cases h
     | some z =>
      simp only[hz] at h
      cases hp:purDsK S.heap (parts.toList.map fun p=>S.val p.2) with
      | none=>rw[hp] at h;cases h
      | some q =>
       obtain⟨xs,ep⟩:=q
       simp only[hp] at h
       split at h
       case isFalse=>cases h
       rename_i hc
       simp only[Option.some.injEq,Prod.mk.injEq] at h
       obtain⟨rfl,rfl⟩:=h
       refine s_buildSliceG hS hn t e len k parts z xs ep ht hk ?_ hc.1 hc.2.1 hc.2.2.1 hc.2.2.2.1 hz hc.2.2.2.2.1 hc.2.2.2.2.2 hop
       exact purDsK_sound (w:=w) (B:=B) _ (parts.toList.map fun p=>a.eval p.2) C S.heap xs ep hS.heap hS.fb (by simp) (fun i v d hv hd=>by
        simp only[List.getElem?_map] at hv hd
        cases hi:parts.toList[i]? with
        | none=>rw[hi] at hv;simp at hv
        | some r=>rw[hi] at hv hd;simp at hv hd;subst hv hd;exact hS.env.val _) hp
 | _=>exact aop_sound hS hn (by rw[hop];exact h)
theorem op2_mono:OpMono (op2 P):=by
 intro S S' op nid d eff hq hv hh h
 cases op with
 | buildSlice t len parts =>
  simp only[op2] at h ⊢
  cases ht:sliceT P t with
  | none=>rw[ht] at h;cases h
  | some e =>
   simp only[ht] at h ⊢
   cases hf:fullT P e with
   | true=>simp only[hf] at h ⊢;exact aop_mono hq hv hh h
   | false =>
    simp only[hf] at h ⊢
    have hmem:∀ p ∈ parts.toList,p.2 ∈ (Op.buildSlice t len parts).operands.toList:=fun p hp=>by simp[Op.operands];exact⟨p.1,by simpa using hp⟩
    have e1:(parts.toList.map fun p=>S'.val p.2)=parts.toList.map fun p=>S.val p.2:=List.map_congr_left fun p hp=>hv p.2 (hmem p hp)
    unfold bsK at h ⊢
    rw[e1]
    cases hk:szT P e with
    | none=>rw[hk] at h;cases h
    | some k =>
     simp only[hk] at h ⊢
     cases hz:zeroD P e with
     | none=>rw[hz] at h;cases h
     | some z =>
      simp only[hz] at h ⊢
      cases hp:purDsK S.heap (parts.toList.map fun p=>S.val p.2) with
      | none=>rw[hp] at h;cases h
      | some q =>
       obtain⟨xs,ep⟩:=q
       rw[purDsK_sub _ _ S'.heap xs ep (fun id hid=>by
        simp only[List.mem_flatMap,List.mem_map] at hid
        obtain⟨dd,⟨p,hp,rfl⟩,hid⟩:=hid
        exact hh rfl p.2 (hmem p hp) id hid) hp]
       simp only[hp] at h
       exact h
 | _=>exact aop_mono (P:=P) (nid:=nid) hq hv hh h
end
def nilD (H:Nat→Option Blk):D→Option Bool
 | .nils=>some true
 | .sl (_::_)=>some false
 | .own id (n+1)=>match H id with
  | some (.vec _ _ xs _)=>match Nat.beq xs.length (n+1) with
   | true=>some false
   | false=>none
  | _=>none
 | _=>none
def opS (P:Program):OpF:=fun o nid S=>match o with
 | .binOp .and _ x y _=>match S.val x,S.val y with
  | .int k a,.int k' b=>if k=k' then some (.int k (k.wrap (BitVec.ofInt k.bits a &&& BitVec.ofInt k.bits b).toNat),[]) else none
  | _,_=>none
 | .binOp .eql t x y _=>match S.val y,sliceT P t with
  | .nils,some _=>match nilD S.heap (S.val x) with
   | some b=>some (.bool b,[])
   | none=>none
  | _,_=>none
 | .binOp .neq t x y _=>match S.val y,sliceT P t with
  | .nils,some _=>match nilD S.heap (S.val x) with
   | some b=>some (.bool (!b),[])
   | none=>none
  | _,_=>none
 | .slice t x none (some hi) none=>match S.val x,S.val hi,sliceT P t with
  | .own id n,.int _ 0,some e=>match S.heap id,szT P e with
   | some (.vec e' k xs false),some _=>if xs.length=n then some (.own nid 0,[(id,none),(nid,some (.vec e' k [] false))]) else none
   | _,_=>none
  | _,_,_=>none
 | .call c=>match c.callee,c.args.toList,c.argTypes.toList with
  | .builtin .cap,[x],[t]=>match S.val x,sliceT P t with
   | .nils,some _=>some (.int .i64 0,[])
   | _,_=>none
  | _,_,_=>none
 | _=>none
def op1 (P:Program):OpF:=fun o nid S=>match opS P o nid S with
 | some r=>some r
 | none=>op2 P o nid S
section
variable {P:Program}{o:Oper}{a:Act}{w:World}{C C':Cx}{B:Bx}{H:Nat→Option Blk}{nid:Nat}{S S':AS}{d:D}{eff:Eff}
theorem nilD_sound{v:Value}{b:Bool}(hH:HOK C w B H)(hr:Rep w C v d)(h:nilD H d=some b):∃ A n c,v=.slice A n c∧A.isNone=b:=by
 unfold nilD at h
 split at h
 ·simp only[Option.some.injEq] at h
  subst h
  cases hr
  exact⟨none,0,0,rfl,rfl⟩
 ·simp only[Option.some.injEq] at h
  subst h
  cases hr
  exact⟨_,_,_,rfl,rfl⟩
 ·rename_i id n
  split at h
  ·rename_i e k xs pb hb
   split at h
   ·rename_i hl
    simp only[Option.some.injEq] at h
    subst h
    have hl':=Nat.eq_of_beq_eq_true hl
    cases hr with
    | own _ _ c A hlv hm hs =>
     obtain⟨_,vals,how,_⟩:=hH.rep id _ hb
     rw[hs] at how
     rcases how.2 with⟨h1,h2⟩|⟨g,cap,cur,h1,_⟩
     ·omega
     ·injection h1 with h1 _ _
      exact⟨A,_,c,rfl,by rw[h1];rfl⟩
   ·cases h
  ·cases h
 ·cases h
theorem s_and(hS:StOK C w a B S)(t t':TypeId)(x y:Operand)(k:IntKind)(m n:Int)(hx:S.val x=.int k m)(hy:S.val y=.int k n)(ho:o.op=.binOp .and t x y t') :
  OpOK P o a w C B S.heap nid (.int k (k.wrap (BitVec.ofInt k.bits m &&& BitVec.ofInt k.bits n).toNat)) []:=by
 have h:=hS.env.val x
 have h':=hS.env.val y
 rw[hx] at h
 rw[hy] at h'
 generalize hv:a.eval x=v at h
 generalize hu:a.eval y=u at h'
 cases h
 cases h'
 refine .same hS.heap hS.fb ?_ (.int _ _ (wrap_inR _ _))
 have hg:(eqGuard .and t x y (.int k m) (.int k n)).run P w=.ok () w:=rfl
 simp only[execOp,ho,hv,hu,Sem.run_bind,hg,Result.andThen_ok,binOp,Op.intBits,ne_eq,not_true_eq_false,if_false]
 rfl
theorem s_nilEq(hS:StOK C w a B S)(t e t':TypeId)(x y:Operand)(b:Bool)(ht:sliceT P t=some e)(hy:S.val y=.nils)(hx:nilD S.heap (S.val x)=some b)(ho:o.op=.binOp .eql t x y t'):OpOK P o a w C B S.heap nid (.bool b) []:=by
 obtain⟨A,n,c,hv,rfl⟩:=nilD_sound hS.heap (hS.env.val x) hx
 have h':=hS.env.val y
 rw[hy] at h'
 generalize hu:a.eval y=u at h'
 cases h'
 refine .same hS.heap hS.fb ?_ (.bool _)
 have hg:(eqGuard .eql t x y (.slice A n c) (.slice none 0 0))=pure ():=rfl
 simp only[execOp,ho,hv,hu,hg,Sem.run_bind,Sem.run_pure,Result.andThen_ok,Lib.run_eql_slice_nil w t e A n c 0 0 (sliceT_under ht)]
theorem s_nilNe(hS:StOK C w a B S)(t e t':TypeId)(x y:Operand)(b:Bool)(ht:sliceT P t=some e)(hy:S.val y=.nils)(hx:nilD S.heap (S.val x)=some b)(ho:o.op=.binOp .neq t x y t'):OpOK P o a w C B S.heap nid (.bool (!b)) []:=by
 obtain⟨A,n,c,hv,rfl⟩:=nilD_sound hS.heap (hS.env.val x) hx
 have h':=hS.env.val y
 rw[hy] at h'
 generalize hu:a.eval y=u at h'
 cases h'
 refine .same hS.heap hS.fb ?_ (.bool _)
 have hg:(eqGuard .neq t x y (.slice A n c) (.slice none 0 0))=pure ():=rfl
 simp only[execOp,ho,hv,hu,hg,Sem.run_bind,Sem.run_pure,Result.andThen_ok,run_neq_slice_nil_any w t e A n c 0 0 (sliceT_under ht)]
theorem s_capNil(hS:StOK C w a B S)(t e:TypeId)(x:Operand)(ht:sliceT P t=some e)(hx:S.val x=.nils)(ho:o.op=.call { callee:=.builtin .cap,args:=#[x],argTypes:=#[t] }):OpOK P o a w C B S.heap nid (.int .i64 0) []:=by
 have h:=hS.env.val x
 rw[hx] at h
 generalize hv:a.eval x=v at h
 cases h
 refine .same hS.heap hS.fb ?_ (.int _ _ (by decide))
 simp[execOp,ho,hv,resolve,invoke,builtin,Builtin.cap_,underlying_run (sliceT_under ht),goInt]
theorem s_cutOwn(hS:StOK C w a B S)(hn:¬ C.live nid)(t e e':TypeId)(sz k id n:Nat)(k1:IntKind)(x hi:Operand)(xs:List D)(ht:sliceT P t=some e)(hsz:szT P e=some sz)(hx:S.val x=.own id n)(hh:S.val hi=.int k1 0)(hid:S.heap id=some (.vec e' k xs false))(hxn:xs.length=n)(ho:o.op=.slice t x none (some hi) none) :
  OpOK P o a w C B S.heap nid (.own nid 0) [(id,none),(nid,some (.vec e' k [] false))]:=by
 have hs':=hS.env.val x
 rw[hx] at hs'
 generalize hv:a.eval x=v at hs'
 cases hs' with
 | own _ _ c0 A0 hl0 hmm0 hσ =>
  obtain⟨_,vals,q1,q2,q3,q4⟩:=hS.heap.rep id _ hid
  rw[hσ] at q1
  have hA:n≤c0∧A0.map (fun ad=>ad.add (0 * sz))=A0∧w.ownsRow 0 e' k (.slice A0 0 c0) 0 []:=by
   rcases q1.2 with⟨h1,h2⟩|⟨g,cap,cur,h1,h2,h3,h4,h5,h6,h7⟩
   ·injection h1 with h1 h1' h1''
    subst h1 h1''
    exact⟨by omega,rfl,⟨by simp,.inl ⟨rfl,rfl⟩⟩⟩
   ·injection h1 with h1 h1' h1''
    subst h1 h1''
    exact⟨by omega,by simp[addr_add],⟨by simp,.inr ⟨g,c0,cur,rfl,h2,h3,Nat.zero_le _,h5,h6,by simp⟩⟩⟩
  obtain⟨hnc,hadd,hown⟩:=hA
  obtain⟨hb,hb2⟩:=bounds_run (P:=P) (w:=w) (lo:=none) (hi:=some hi) (len:=n) (cap:=c0) (l:=0) (h:=0) true hS.env rfl (by simp[hiD,hh]) (Nat.le_refl _) hnc
  simp only[Option.map_none] at hb
  have hrun:(execOp a.eval o).run P w=.ok (.value (.slice A0 0 c0)) w:=by
   simp only[execOp,ho,hv,Instr.sliceAt,Instr.slice,Sem.run_bind,underlying_run (sliceT_under ht),Result.andThen_ok,Option.map_none,hb,szT_run hsz,Sem.run_pure,hadd,ite_self,Nat.sub_zero]
  have e1:=Cx.new_ext (C:=C) (w:=w) (w':=w) hn (.slice A0 0 c0) (fun _ _ _=>rfl)
  have hs2:(C.new nid (.slice A0 0 c0)).σ nid=.slice A0 0 c0:=by simp[Cx.new,upd]
  have hbl:∀ m,blockOf (.slice A0 m c0)=blockOf (.slice A0 0 c0):=fun m=>by cases A0<;>rfl
  refine⟨_,_,w,C.new nid (.slice A0 0 c0),hrun,.inl rfl,BelM.refl _ _,e1,.own nid 0 c0 A0 (.inr rfl) (Nat.zero_le _) hs2,?_,?_,fun id h=>h,fun _ _ h=>.inl h⟩
  ·refine HOK.swap hS.heap hid hn e1 (fun g hg1 hg2=>rfl) ⟨[],?_,(fun y hy=>by cases hy),RepL.nil,?_⟩ hS.base (fun k cs h=>by cases h) (.inr ?_)
   ·rw[hs2];exact hown
   ·intro g hg'
    rw[hs2] at hg'
    refine⟨fun o hF=>?_,fun h=>by cases h⟩
    have:=((q4 g (by rw[hσ];rw[← blockOf_own] at hg' ⊢;rw[hbl];exact hg')).1 o hF).1
    cases this
   ·rw[hσ,hbl n]
  ·exact hS.fb
theorem op1_sound:OpSound P (op1 P):=by
 intro o n S d eff h C a w B hS hn
 unfold op1 at h
 cases hs:opS P o.op n S with
 | none=>rw[hs] at h;exact op2_sound o n S d eff h C a w B hS hn
 | some r =>
  rw[hs] at h
  simp only[Option.some.injEq] at h
  subst h
  generalize hop:o.op=op at hs
  unfold opS at hs
  split at hs
  ·rename_i t x y t'
   split at hs
   ·rename_i k m k' m' hx hy
    split at hs
    ·rename_i hk
     subst hk
     simp only[Option.some.injEq,Prod.mk.injEq] at hs
     obtain⟨rfl,rfl⟩:=hs
     exact s_and hS t t' x y k m m' hx hy hop
    ·cases hs
   ·cases hs
  ·rename_i t x y t'
   split at hs
   ·rename_i e hy ht
    split at hs
    ·rename_i b hb
     simp only[Option.some.injEq,Prod.mk.injEq] at hs
     obtain⟨rfl,rfl⟩:=hs
     exact s_nilEq hS t e t' x y b ht hy hb hop
    ·cases hs
   ·cases hs
  ·rename_i t x y t'
   split at hs
   ·rename_i e hy ht
    split at hs
    ·rename_i b hb
     simp only[Option.some.injEq,Prod.mk.injEq] at hs
     obtain⟨rfl,rfl⟩:=hs
     exact s_nilNe hS t e t' x y b ht hy hb hop
    ·cases hs
   ·cases hs
  ·rename_i t x hi
   split at hs
   ·rename_i id m k1 e hx hh ht
    split at hs
    ·rename_i e' k xs sz hid hsz
     split at hs
     ·rename_i hxn
      simp only[Option.some.injEq,Prod.mk.injEq] at hs
      obtain⟨rfl,rfl⟩:=hs
      exact s_cutOwn hS hn t e e' sz k id m k1 x hi xs ht hsz hx hh hid hxn hop
     ·cases hs
    ·cases hs
   ·cases hs
  ·rename_i c
   obtain⟨callee,⟨args⟩,⟨argTypes⟩⟩:=c
   split at hs
   ·rename_i x t hc ha htt
    simp only at hc ha htt
    subst hc ha htt
    split at hs
    ·rename_i e hx ht
     simp only[Option.some.injEq,Prod.mk.injEq] at hs
     obtain⟨rfl,rfl⟩:=hs
     exact s_capNil hS t e x ht hx hop
    ·cases hs
   ·cases hs
  ·cases hs
end
section
variable {P:Program}{o:Oper}{a:Act}{w:World}{C C':Cx}{B:Bx}{H:Nat→Option Blk}{nid:Nat}{S S':AS}{d:D}{eff:Eff}
theorem s_zeros(hS:StOK C w a B S)(hn:¬ C.live nid)(s x:Operand)(t tn e:TypeId)(kn k1:IntKind)(k by_:Nat)(n:Int)(z:D)(ht:sliceT P t=some e)(htn:intT P tn=some kn)(hk:szT P e=some k)(hb:bytesT P e=some by_)(hz:zeroD P e=some z)(hzo:z.okS=true)(hzl:z.cells.length=k)
  (hs:S.val s=.nils) (hx:S.val x=.int k1 n) (h0:0 < n) (hk0:0 < k) (hm:n≤(maxLen:Int)) (hby:n * by_≤140737488355328) (ho:o.op=.call { callee:=.builtin .append,args:=#[s,x],argTypes:=#[t,tn] }) :
  OpOK P o a w C B S.heap nid (.own nid n.toNat) [(nid,some (.vec e k (List.replicate n.toNat z) false))]:=by
 obtain⟨i,zv,hi,hzv,rfl⟩:=zeroD_info hz
 have hsz:i.size=k:=by
  obtain⟨i',h1,h2⟩:=szT_info hk
  rw[hi] at h1;injection h1 with h1;rw[h1];exact h2
 have hbi:i.bytes=by_:=bytesT_info hb hi
 have hzR:Rep w (cF C.F) zv (cD zv):=rep_cD zv
 have hzc:=hzR.cellsS hzo
 have hzs:zv.cells.size=k:=by have:=hzc.len;simp at this;omega
 obtain⟨m,rfl⟩:∃ m:Nat,n=(m:Int):=⟨n.toNat,by omega⟩
 simp only[Int.toNat_natCast]
 have hs':=hS.env.val s
 rw[hs] at hs'
 generalize hv:a.eval s=v at hs'
 cases hs'
 have hxv:=rep_int1' (by have:=hS.env.val x;rw[hx] at this;exact this)
 have hml:m≤maxLen:=by omega
 have hxk:∀ x ∈ List.replicate m (cD zv),x.cells.length=k:=fun x hx=>by rw[List.eq_of_mem_replicate hx];exact hzl
 have hfl:((List.replicate m (cD zv)).flatMap D.cells).length=m * k:=by rw[flat_len2 k _ hxk,List.length_replicate]
 have hcl:(Builtin.zeroCells zv.cells m).toList.length=m * k:=by simp[Builtin.zeroCells,hzs]
 have hat:∀ i,i < m * k→zv.cells.toList[i % k]? = some (zv.cells[i % zv.cells.size]!):=by
  intro i hi
  have hlt:i % zv.cells.size < zv.cells.size:=Nat.mod_lt _ (by omega)
  rw[getElem!_pos zv.cells (i % zv.cells.size) hlt,← hzs]
  simp[hlt]
 have hL:RepL (cF C.F) w (Builtin.zeroCells zv.cells m).toList ((List.replicate m (cD zv)).flatMap D.cells):=by
  refine⟨by rw[hcl,hfl],fun v hv=>?_,fun i v d hv hd=>?_⟩
  ·simp[Builtin.zeroCells] at hv
   obtain⟨i,hi,rfl⟩:=hv
   exact hzc.one _ (List.mem_of_getElem? (hat i (by rw[← hzs];exact hi)))
  ·have hi:i < m * k:=by have:=(List.getElem?_eq_some_iff.1 hd).1;omega
   rw[flat_rep k (cD zv) hzl m i hi] at hd
   have hv':v=zv.cells[i % zv.cells.size]!:=by
    simp[Builtin.zeroCells,hzs,hi] at hv
    rw[hzs]
    exact hv.symm
   exact hzc.rep (i % k) v d (by rw[hat i hi,hv']) hd
 have hbm:m * i.bytes≤281474976710656:=by
  rw[hbi]
  have:((m * by_:Nat):Int)≤140737488355328:=by rw[Int.natCast_mul];exact hby
  omega
 have hrun:=Lib.run_append_nil_zeros (P:=P) w t tn o.type e i zv k1 kn (sliceT_under ht) (intT_under htn) hi hzv m (by omega) (by rw[hsz];exact hk0) (by unfold maxLen at hml;omega) hbm
 have hge:=grownCap_ge w m 0 e
 have hcm:=grownCap_le_maxLen w m 0 e hml
 have hxl:(List.replicate m (cD zv)).length=m:=List.length_replicate
 have hown:(w.drew.alloc (.cells (Builtin.zeroCells zv.cells m++Builtin.zeroCells zv.cells (grownCap w m 0 e - m)) e)).ownsRow 0 e k (.slice (some ⟨w.heap.size,0,none⟩) m (grownCap w m 0 e)) m (Builtin.zeroCells zv.cells m).toList:=by
  refine⟨hcl,.inr ⟨w.heap.size,_,_,rfl,Nat.zero_le _,heap_alloc_new w.drew _,hge,hcm,?_,?_⟩⟩
  ·rw[Array.size_append,size_zeroCells,size_zeroCells,hzs,← Nat.add_mul];congr 1;omega
  ·rw[Array.toList_append,← hcl];exact List.take_left
 have:=ok_vec (w':=w.drew.alloc (.cells (Builtin.zeroCells zv.cells m++Builtin.zeroCells zv.cells (grownCap w m 0 e - m)) e)) (v:=.slice (some ⟨w.heap.size,0,none⟩) m (grownCap w m 0 e)) (xs:=List.replicate m (cD zv)) (P:=P) (o:=o) (a:=a) hS.heap hS.fb hn hxk hL (by rw[hxl];exact hown) (fun g hg=>Below.heap_alloc w.drew _ g hg) ⟨rfl,rfl,rfl,by simp,fun g hg _=>Below.heap_alloc w.drew _ g hg⟩ hS.base (fun g hg=>by simp[Value.ownBlock] at hg;omega) (by
  simp only[execOp,ho,resolve,invoke,builtin,Sem.run_bind,Sem.run_pure,Result.andThen_ok,List.map_toArray,List.map_cons,List.map_nil,hv,hxv,hrun])
 rw[hxl] at this
 exact this
def opZ (P:Program)(c:Call)(nid:Nat)(S:AS):Option (D × Eff):=match c.callee,c.args.toList,c.argTypes.toList with
 | .builtin .append,[s,x],[t,tn]=>match S.val s,S.val x,sliceT P t,intT P tn with
  | .nils,.int _ n,some e,some _=>match szT P e,bytesT P e,zeroD P e with
   | some k,some by_,some z=>if 0 < n∧0 < k∧n≤(maxLen:Int)∧n * by_≤140737488355328∧z.okS=true∧z.cells.length=k then some (.own nid n.toNat,[(nid,some (.vec e k (List.replicate n.toNat z) false))]) else none
   | _,_,_=>none
  | _,_,_,_=>none
 | _,_,_=>none
def opE (P:Program):OpF:=fun o nid S=>match o with
 | .call c=>match opZ P c nid S with
  | some r=>some r
  | none=>op1 P (.call c) nid S
 | o=>op1 P o nid S
theorem opZ_sound(hS:StOK C w a B S)(hn:¬ C.live nid)(c:Call)(h:opZ P c nid S=some (d,eff))(hop:o.op=.call c):OpOK P o a w C B S.heap nid d eff:=by
 obtain⟨callee,⟨args⟩,⟨argTypes⟩⟩:=c
 unfold opZ at h
 split at h
 ·rename_i s x t tn hc ha htt
  simp only at hc ha htt
  subst hc ha htt
  split at h
  ·rename_i k1 n e kn hs hx ht htn
   split at h
   ·rename_i k by_ z hk hb hz
    split at h
    ·rename_i hcd
     simp only[Option.some.injEq,Prod.mk.injEq] at h
     obtain⟨rfl,rfl⟩:=h
     exact s_zeros hS hn s x t tn e kn k1 k by_ n z ht htn hk hb hz hcd.2.2.2.2.1 hcd.2.2.2.2.2 hs hx hcd.1 hcd.2.1 hcd.2.2.1 hcd.2.2.2.1 hop
    ·cases h
   ·cases h
  ·cases h
 ·cases h
theorem opE_sound:OpSound P (opE P):=by
 intro o n S d eff h C a w B hS hn
 generalize hop:o.op=op at h
 cases op with
 | call c =>
  simp only[opE] at h
  cases hz:opZ P c n S with
  | none=>rw[hz] at h;exact op1_sound o n S d eff (by rw[hop];exact h) C a w B hS hn
  | some r =>
   rw[hz] at h
   simp only[Option.some.injEq] at h
   subst h
   exact opZ_sound hS hn c hz hop
 | _=>exact op1_sound o n S d eff (by rw[hop];exact h) C a w B hS hn
end
def pureX(f0:FuncId)(g:List D→Option D):CallF:=fun f ds h n=>match Nat.beq f f0 with
 | true=>match purDs h.get ds with
  | some (ds',eff)=>match g ds',appTr h eff with
   | some d,some h'=>some (d,h',n,eff.map (·.1))
   | _,_=>none
  | none=>none
 | false=>none
def effX (f0:FuncId)(g:List D→Tr Blk→Nat→Option (D × Eff)):CallF:=fun f ds h n=>match Nat.beq f f0 with
 | true=>match g ds h n with
  | some (d,eff)=>match appTr h eff with
   | some h'=>some (d,h',n+1,eff.map (·.1))
   | none=>none
  | none=>none
 | false=>none
def orX (x y:CallF):CallF:=fun f ds h n=>match x f ds h n with
 | some r=>some r
 | none=>y f ds h n
section
variable {P:Program}{I:World→Prop}
theorem appTr_out{eff:Eff}{h h':Tr Blk}(ha:appTr h eff=some h')(id:Nat)(hi:id ∉ eff.map (·.1)):h'.get id=h.get id:=by
 rw[appTr_get eff ha]
 exact appEff_notin _ _ _ fun p hp he=>hi (List.mem_map.2 ⟨p,hp,he⟩)
theorem orX_sound{x y:CallF}(hx:CallSound P I x)(hy:CallSound P I y):CallSound P I (orX x y):=by
 intro f ds h n d h' m l hv
 unfold orX at hv
 split at hv
 ·rename_i r hr
  simp only[Option.some.injEq] at hv
  subst hv
  exact hx f ds h n d h' m l hr
 ·exact hy f ds h n d h' m l hv
theorem pureX_sound(hstab:Stab I){f0:FuncId}{g:List D→Option D}(hg:∀ ds d,g ds=some d→AFun P I f0 ds d):CallSound P I (pureX f0 g):=by
 intro f ds h n d h' m l hv
 unfold pureX at hv
 split at hv
 ·rename_i hf
  have hf':=Nat.eq_of_beq_eq_true hf
  subst hf'
  split at hv
  ·rename_i ds' eff hp
   split at hv
   ·rename_i d0 h0 hd ha
    simp only[Option.some.injEq,Prod.mk.injEq] at hv
    obtain⟨rfl,rfl,rfl,rfl⟩:=hv
    refine⟨Nat.le_refl _,?_,appTr_out ha⟩
    rw[appTr_get eff ha]
    exact XOK.pure hstab hp (hg _ _ hd)
   ·cases hv
  ·cases hv
 ·cases hv
theorem effX_sound{f0:FuncId}{g:List D→Tr Blk→Nat→Option (D × Eff)}(hg:∀ ds h n d eff,g ds h n=some (d,eff)→CallOK P I f0 ds h.get n d eff):CallSound P I (effX f0 g):=by
 intro f ds h n d h' m l hv
 unfold effX at hv
 split at hv
 ·rename_i hf
  have hf':=Nat.eq_of_beq_eq_true hf
  subst hf'
  split at hv
  ·rename_i d0 eff hd
   split at hv
   ·rename_i h0 ha
    simp only[Option.some.injEq,Prod.mk.injEq] at hv
    obtain⟨rfl,rfl,rfl,rfl⟩:=hv
    refine⟨by omega,?_,appTr_out ha⟩
    rw[appTr_get eff ha]
    exact XOK.of (hg _ _ _ _ _ hd)
   ·cases hv
  ·cases hv
 ·cases hv
theorem evF_xok{E E2:OpF}{X:CallF}{lf k:Nat}(hmix:P.follows .mixedOrders=true)(hE:OpSound P E)(hE2:OpSound P E2)(hm2:OpMono E2)(hX:CallSound P I X){f:FuncId}{ds:List D}{h h':Tr Blk}{n m:Nat}{d:D}{l:List Nat}(hv:evF P E X (fun cf=>evD E2 cf) lf k f ds h n=some (d,h',m,l)):XOK P I f ds h.get n m d h'.get :=
 (evF_sound hE hX (fun cf hcf=>evD_sound hE2 hm2 hmix hcf) k f ds h n d h' m l hv).2.1
def isTrue:Option (D × Tr Blk × Nat × List Nat)→Bool
 | some (.bool true,_)=>true
 | _=>false
theorem evF_true{E E2:OpF}{X:CallF}{lf k:Nat}(hstab:Stab I)(hmix:P.follows .mixedOrders=true)(hE:OpSound P E)(hE2:OpSound P E2)(hm2:OpMono E2)(hX:CallSound P I X){f:FuncId}(hv:isTrue (evF P E X (fun cf=>evD E2 cf) lf k f [] .nil 0)=true):AFun P I f [] (.bool true):=by
 unfold isTrue at hv
 split at hv
 ·rename_i r he
  obtain⟨h',m,l⟩:=r
  exact XOK.toFun hstab (H':=h'.get) (n:=0) (m:=m) (evF_xok hmix hE hE2 hm2 hX he)
 ·cases hv
end
end Go.Proofs.YthbmhmpppgdkmaaGreatDoor
