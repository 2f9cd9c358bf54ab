/- Texts of one proof, put together (Shelf, GM, GN, Base, Bld2, GB, GW, PA, Gv, PB, PC, PD). No condition but those that each theorem states. -/
import Derived.Test.YtedhognhhcihpaaGreatDoorX3
import Derived.Shelf.Strings.Builder1
import Derived.Shelf.Strings.Builder2
import Derived.Shelf.Small.Strs
import Derived.Shelf.Small.Wraps
import Derived.Shelf.Strings.BuilderF
import Derived.Shelf.Strings.BuilderK
import Derived.Shelf.Utf8.RuneCount
import Derived.Shelf.Strings.Builder2Cap
import Derived.Shelf.Strconv.Itoa0
import Derived.Shelf.Strconv.Itoa1
import Derived.Shelf.LaysM
import Derived.Shelf.Strconv.Itoa2
import Derived.Shelf.Strconv.Itoa3
import Derived.Shelf.Strconv.Itoa4
import Derived.Shelf.Strconv.ParseIntEmpty
import Derived.Shelf.Strconv.Clone
import Derived.Shelf.Strconv.SyntaxError
import Derived.Shelf.LaysC
import Derived.Shelf.Strconv.ToError
import Derived.Shelf.Strconv.Lower
import Derived.Shelf.Strconv.ParseUint10
import Derived.Shelf.Strconv.ParseUint10Empty
import Derived.Shelf.Strconv.ParseUint10Any
import Derived.Shelf.Strconv.ParseInt10
import Derived.Shelf.Strconv.RangeError
import Derived.Shelf.Strconv.ToErrorRange
import Derived.Shelf.Strconv.ParseUintEmpty
import Derived.Shelf.Strconv.ParseUint10b64
import Derived.Shelf.Strconv.ParseUint10b32
import Derived.Shelf.Strconv.ParseUint10b16
import Derived.Shelf.Strconv.ParseUint10b8
import Derived.Shelf.Strconv.ParseUint10At
import Derived.Shelf.Strconv.ParseInt10At64
import Derived.Shelf.Strconv.ParseInt10At32
import Derived.Shelf.Strconv.ParseInt10At16
import Derived.Shelf.Strconv.ParseInt10At8
import Derived.Shelf.Strconv.ParseInt10All
import Derived.Shelf.Strconv.ParseIntPublic10
import Derived.Shelf.Strconv.ErrVarParseInt
import Derived.Shelf.Strings.Search1
import Derived.Shelf.Strings.Search2
import Derived.Shelf.Strings.Search3
import Derived.Shelf.Strings.Count
import Derived.Shelf.Strings.Shaped
import Derived.Shelf.Strings.Prefix
import Derived.Shelf.Strings.Split
import Derived.Shelf.Strings.Replace
import Derived.Shelf.Strings.SplitShaped
import Derived.Shelf.Unicode.Decode
import Derived.Shelf.Strings.RuneCount
import Derived.Shelf.Strings.Explode
import Derived.Shelf.Unicode.DecodeSlow
import Derived.Shelf.Unicode.DecodeAny
import Derived.Shelf.Unicode.ValidAny
import Derived.Test.YtedhognhhcihpaaGreatDoorProg
import Derived.Lib.ItoaLen
import Derived.Lib.IndexLaws
import Derived.Lib.SplitLaws
import Derived.Lib.IndexBytes
import Derived.Lib.ParseIntB
import Derived.WalkKit
import Derived.WalkSpells
import Derived.WalkLawsBesides
import Derived.KernelRfl
import Derived.BigQuiet
import Derived.Deep.QuietTactic
import Derived.Deep.DeepCutAuto
import Derived.Deep.Draws
import Derived.Lib.Hide
import Derived.Lib.Builder
import Derived.Lib.AppendStr
set_option linter.unusedSimpArgs false
set_option linter.unusedVariables false
namespace Go.Proofs
open Go.Shelf
def Tryz.lays169_ren : Go.Shelf.Ren := ⟨fun | 169 => 56 | n => n, fun | 70 => 87 | 9 => 9 | 0 => 0 | 72 => 90 | 37 => 88 | 127 => 124 | 3 => 3 | 5 => 5 | n => n, fun | n => n⟩
theorem Tryz.lays169 : Go.Proofs.Lays.n169 Tryz.prog Tryz.lays169_ren := {
  mixed := by kernel_rfl
  f169 := Tryz.func56.trans (congrArg some (by kernel_rfl))
  t0 := Tryz.underlying0
  a0 := Tryz.isAgg0
  z0 := Tryz.sizeOf0
  v0 := Tryz.zeroValue0
  t3 := Tryz.underlying3
  a3 := Tryz.isAgg3
  z3 := Tryz.sizeOf3
  v3 := Tryz.zeroValue3
  t9 := Tryz.underlying9
  a9 := Tryz.isAgg9
  z9 := Tryz.sizeOf9
  v9 := Tryz.zeroValue9
  t37 := Tryz.underlying88
  a37 := Tryz.isAgg88
  z37 := Tryz.sizeOf88
  v37 := Tryz.zeroValue88
  t70 := Tryz.underlying87
  a70 := Tryz.isAgg87
  z70 := Tryz.sizeOf87
  v70 := Tryz.zeroValue87
  t72 := Tryz.underlying90
  a72 := Tryz.isAgg90
  z72 := Tryz.sizeOf90
  v72 := Tryz.zeroValue90
  t127 := Tryz.underlying124
  a127 := Tryz.isAgg124
  z127 := Tryz.sizeOf124
  v127 := Tryz.zeroValue124 }
theorem Tryz.Builder_Extra_169 : Builder.Extra Tryz.prog Tryz.lays169_ren := {
  sizeBuilder := by kernel_rfl
  liesBuilder := by kernel_rfl
  t5 := Tryz.underlying5
  a5 := Tryz.isAgg5
  z5 := Tryz.sizeOf5
  v5 := Tryz.zeroValue5
  infoByte := by kernel_rfl
  cellsByte := by kernel_rfl
  sizeByte := by kernel_rfl
  neB5 := by decide }
open Go.RowKit in
def Tryz.lays137_ren : Go.Shelf.Ren := ⟨fun | 137 => 104 | 217 => 110 | 266 => 122 | n => n, fun | 9 => 9 | 5 => 5 | 3 => 3 | n => n, fun | n => n⟩
theorem Tryz.lays137 : Go.Proofs.Lays.n137 Tryz.prog Tryz.lays137_ren := {
  mixed := by kernel_rfl
  f137 := Tryz.func104.trans (congrArg some (by kernel_rfl))
  f217 := Tryz.func110.trans (congrArg some (by kernel_rfl))
  f266 := Tryz.func122.trans (congrArg some (by kernel_rfl))
  t3 := Tryz.underlying3
  a3 := Tryz.isAgg3
  z3 := Tryz.sizeOf3
  v3 := Tryz.zeroValue3
  t5 := Tryz.underlying5
  a5 := Tryz.isAgg5
  z5 := Tryz.sizeOf5
  v5 := Tryz.zeroValue5
  t9 := Tryz.underlying9
  a9 := Tryz.isAgg9
  z9 := Tryz.sizeOf9
  v9 := Tryz.zeroValue9 }
open Go.RowKit in
theorem Tryz.strings_IndexByte (s : ByteArray) (c : Int) (w : World) :
    Calls Tryz.prog 104 #[.string s, .int .u8 c] w fun e w' => e = .returned (.int .i64 (Lib.indexByte s.data.toList c.toNat.toUInt8)) ∧ w' = w := Any.strings_IndexByte Tryz.lays137 s c w
def Tryz.lays103_ren : Go.Shelf.Ren := ⟨fun | 103 => 106 | 210 => 119 | 206 => 126 | n => n, fun | 9 => 9 | 4 => 4 | 24 => 131 | 3 => 3 | n => n, fun | n => n⟩
theorem Tryz.lays103 : Go.Proofs.Lays.n103 Tryz.prog Tryz.lays103_ren := {
  mixed := by kernel_rfl
  f103 := Tryz.func106.trans (congrArg some (by kernel_rfl))
  f206 := Tryz.func126.trans (congrArg some (by kernel_rfl))
  f210 := Tryz.func119.trans (congrArg some (by kernel_rfl))
  t3 := Tryz.underlying3
  a3 := Tryz.isAgg3
  z3 := Tryz.sizeOf3
  v3 := Tryz.zeroValue3
  t4 := Tryz.underlying4
  a4 := Tryz.isAgg4
  z4 := Tryz.sizeOf4
  v4 := Tryz.zeroValue4
  t9 := Tryz.underlying9
  a9 := Tryz.isAgg9
  z9 := Tryz.sizeOf9
  v9 := Tryz.zeroValue9
  t24 := Tryz.underlying131
  a24 := Tryz.isAgg131
  z24 := Tryz.sizeOf131
  v24 := Tryz.zeroValue131 }
open Go.RowKit in
theorem Tryz.strings_CutPrefix (s p : ByteArray) (w : World) :
    Calls Tryz.prog 106 #[.string s, .string p] w fun e w' => e = .returned (.tuple #[.string ⟨(Lib.trimPrefix s.data.toList p.data.toList).toArray⟩, .bool (Lib.hasPrefix s.data.toList p.data.toList)]) ∧ w' = w := Any.strings_CutPrefix Tryz.lays103 s p w
def Tryz.laysM173_ren : Go.Shelf.Ren := ⟨fun | 173 => 51 | 246 => 80 | 283 => 98 | 284 => 99 | 285 => 100 | 286 => 101 | 129 => 115 | 317 => 114 | 318 => 116 | 319 => 117 | 320 => 118 | 337 => 124 | 338 => 125 | n => n, fun | 2 => 2 | 3 => 3 | 9 => 9 | 4 => 4 | 171 => 143 | 0 => 0 | 53 => 125 | 37 => 88 | 5 => 5 | 173 => 146 | 212 => 157 | 51 => 158 | 20 => 20 | 213 => 159 | 46 => 122 | 232 => 173 | 233 => 174 | n => n, fun | 17 => 3 | 18 => 4 | 19 => 5 | n => n⟩
theorem Tryz.laysM173 : Go.Proofs.LaysM.n173 Tryz.prog Tryz.laysM173_ren := {
  mixed := by kernel_rfl
  f129 := Tryz.func115.trans (congrArg some (by kernel_rfl))
  f173 := Tryz.func51.trans (congrArg some (by kernel_rfl))
  f246 := Tryz.func80.trans (congrArg some (by kernel_rfl))
  f283 := Tryz.func98.trans (congrArg some (by kernel_rfl))
  f284 := Tryz.func99.trans (congrArg some (by kernel_rfl))
  f285 := Tryz.func100.trans (congrArg some (by kernel_rfl))
  f286 := Tryz.func101.trans (congrArg some (by kernel_rfl))
  f317 := Tryz.func114.trans (congrArg some (by kernel_rfl))
  f318 := Tryz.func116.trans (congrArg some (by kernel_rfl))
  f319 := Tryz.func117.trans (congrArg some (by kernel_rfl))
  f320 := Tryz.func118.trans (congrArg some (by kernel_rfl))
  f337 := Tryz.func124.trans (congrArg some (by kernel_rfl))
  f338 := Tryz.func125.trans (congrArg some (by kernel_rfl))
  t0 := Tryz.underlying0
  a0 := Tryz.isAgg0
  z0 := Tryz.sizeOf0
  v0 := Tryz.zeroValue0
  t2 := Tryz.underlying2
  a2 := Tryz.isAgg2
  z2 := Tryz.sizeOf2
  v2 := Tryz.zeroValue2
  t3 := Tryz.underlying3
  a3 := Tryz.isAgg3
  z3 := Tryz.sizeOf3
  v3 := Tryz.zeroValue3
  t4 := Tryz.underlying4
  a4 := Tryz.isAgg4
  z4 := Tryz.sizeOf4
  v4 := Tryz.zeroValue4
  t5 := Tryz.underlying5
  a5 := Tryz.isAgg5
  z5 := Tryz.sizeOf5
  v5 := Tryz.zeroValue5
  t9 := Tryz.underlying9
  a9 := Tryz.isAgg9
  z9 := Tryz.sizeOf9
  v9 := Tryz.zeroValue9
  t20 := Tryz.underlying20
  a20 := Tryz.isAgg20
  z20 := Tryz.sizeOf20
  v20 := Tryz.zeroValue20
  t37 := Tryz.underlying88
  a37 := Tryz.isAgg88
  z37 := Tryz.sizeOf88
  v37 := Tryz.zeroValue88
  t46 := Tryz.underlying122
  a46 := Tryz.isAgg122
  z46 := Tryz.sizeOf122
  v46 := Tryz.zeroValue122
  t51 := Tryz.underlying158
  a51 := Tryz.isAgg158
  z51 := Tryz.sizeOf158
  v51 := Tryz.zeroValue158
  t53 := Tryz.underlying125
  a53 := Tryz.isAgg125
  z53 := Tryz.sizeOf125
  v53 := Tryz.zeroValue125
  t171 := Tryz.underlying143
  a171 := Tryz.isAgg143
  z171 := Tryz.sizeOf143
  v171 := Tryz.zeroValue143
  t173 := Tryz.underlying146
  a173 := Tryz.isAgg146
  z173 := Tryz.sizeOf146
  v173 := Tryz.zeroValue146
  t212 := Tryz.underlying157
  a212 := Tryz.isAgg157
  z212 := Tryz.sizeOf157
  v212 := Tryz.zeroValue157
  t213 := Tryz.underlying159
  a213 := Tryz.isAgg159
  z213 := Tryz.sizeOf159
  t232 := Tryz.underlying173
  a232 := Tryz.isAgg173
  z232 := Tryz.sizeOf173
  v232 := Tryz.zeroValue173
  t233 := Tryz.underlying174
  a233 := Tryz.isAgg174
  z233 := Tryz.sizeOf174
  v233 := Tryz.zeroValue174
  g17 := by kernel_rfl
  g18 := by kernel_rfl
  g19 := by kernel_rfl
  i0 := by kernel_rfl
  i2 := by kernel_rfl
  i3 := by kernel_rfl
  i4 := by kernel_rfl
  i5 := by kernel_rfl
  i9 := by kernel_rfl
  i20 := by kernel_rfl
  i37 := by kernel_rfl
  i46 := by kernel_rfl
  i51 := by kernel_rfl
  i53 := by kernel_rfl
  i171 := by kernel_rfl
  i173 := by kernel_rfl
  i212 := by kernel_rfl
  i232 := by kernel_rfl
  i233 := by kernel_rfl
  m17 := by kernel_rfl
  m18 := by kernel_rfl
  m19 := by kernel_rfl }
open Go.RowKit Go.Sort Go.Lib in
theorem Tryz.strconv_FormatInt_10 (n : Int) (h0 : -9223372036854775808 ≤ n) (h1 : n ≤ 9223372036854775807) (w : World) (htab : Lib.TabIs Tryz.prog w "internal/strconv.uint64pow10" .u64 Lib.pow10Tab) :
    Calls Tryz.prog 51 #[.int .i64 n, .int .i64 10] w fun e w' => e = .returned (.string ⟨(Lib.itoa n).toArray⟩) ∧ ∃ k os, w' = grow (w.drewN k) os := Any.strconv_FormatInt_10 Tryz.laysM173 n h0 h1 w htab
def Tryz.laysC174_ren : Go.Shelf.Ren := ⟨fun | 174 => 107 | 247 => 120 | 245 => 121 | 287 => 127 | 279 => 128 | 280 => 129 | 281 => 130 | 282 => 131 | 321 => 132 | 322 => 133 | 316 => 134 | 171 => 136 | 205 => 135 | 243 => 137 | 246 => 80 | 283 => 98 | 284 => 99 | 285 => 100 | 286 => 101 | 129 => 115 | 317 => 114 | 318 => 116 | 319 => 117 | 320 => 118 | 337 => 124 | 338 => 125 | n => n, fun | 9 => 9 | 3 => 3 | 2 => 2 | 75 => 92 | 85 => 152 | 4 => 4 | 167 => 167 | 5 => 5 | 53 => 125 | 175 => 168 | 46 => 122 | 168 => 170 | 37 => 88 | 0 => 0 | 210 => 177 | 21 => 21 | 127 => 124 | 145 => 181 | 143 => 179 | 171 => 143 | 173 => 146 | 212 => 157 | 51 => 158 | 20 => 20 | 213 => 159 | 232 => 173 | 233 => 174 | 80 => 98 | n => n, fun | 15 => 6 | 16 => 7 | 17 => 3 | 18 => 4 | 19 => 5 | n => n⟩
theorem Tryz.laysC174 : Go.Proofs.LaysC.n174 Tryz.prog Tryz.laysC174_ren := {
  mixed := by kernel_rfl
  f129 := Tryz.func115.trans (congrArg some (by kernel_rfl))
  f171 := Tryz.func136.trans (congrArg some (by kernel_rfl))
  f174 := Tryz.func107.trans (congrArg some (by kernel_rfl))
  f205 := Tryz.func135.trans (congrArg some (by kernel_rfl))
  f243 := Tryz.func137.trans (congrArg some (by kernel_rfl))
  f245 := Tryz.func121.trans (congrArg some (by kernel_rfl))
  f246 := Tryz.func80.trans (congrArg some (by kernel_rfl))
  f247 := Tryz.func120.trans (congrArg some (by kernel_rfl))
  f279 := Tryz.func128.trans (congrArg some (by kernel_rfl))
  f280 := Tryz.func129.trans (congrArg some (by kernel_rfl))
  f281 := Tryz.func130.trans (congrArg some (by kernel_rfl))
  f282 := Tryz.func131.trans (congrArg some (by kernel_rfl))
  f283 := Tryz.func98.trans (congrArg some (by kernel_rfl))
  f284 := Tryz.func99.trans (congrArg some (by kernel_rfl))
  f285 := Tryz.func100.trans (congrArg some (by kernel_rfl))
  f286 := Tryz.func101.trans (congrArg some (by kernel_rfl))
  f287 := Tryz.func127.trans (congrArg some (by kernel_rfl))
  f316 := Tryz.func134.trans (congrArg some (by kernel_rfl))
  f317 := Tryz.func114.trans (congrArg some (by kernel_rfl))
  f318 := Tryz.func116.trans (congrArg some (by kernel_rfl))
  f319 := Tryz.func117.trans (congrArg some (by kernel_rfl))
  f320 := Tryz.func118.trans (congrArg some (by kernel_rfl))
  f321 := Tryz.func132.trans (congrArg some (by kernel_rfl))
  f322 := Tryz.func133.trans (congrArg some (by kernel_rfl))
  f337 := Tryz.func124.trans (congrArg some (by kernel_rfl))
  f338 := Tryz.func125.trans (congrArg some (by kernel_rfl))
  t0 := Tryz.underlying0
  a0 := Tryz.isAgg0
  z0 := Tryz.sizeOf0
  v0 := Tryz.zeroValue0
  t2 := Tryz.underlying2
  a2 := Tryz.isAgg2
  z2 := Tryz.sizeOf2
  v2 := Tryz.zeroValue2
  t3 := Tryz.underlying3
  a3 := Tryz.isAgg3
  z3 := Tryz.sizeOf3
  v3 := Tryz.zeroValue3
  t4 := Tryz.underlying4
  a4 := Tryz.isAgg4
  z4 := Tryz.sizeOf4
  v4 := Tryz.zeroValue4
  t5 := Tryz.underlying5
  a5 := Tryz.isAgg5
  z5 := Tryz.sizeOf5
  v5 := Tryz.zeroValue5
  t9 := Tryz.underlying9
  a9 := Tryz.isAgg9
  z9 := Tryz.sizeOf9
  v9 := Tryz.zeroValue9
  t20 := Tryz.underlying20
  a20 := Tryz.isAgg20
  z20 := Tryz.sizeOf20
  v20 := Tryz.zeroValue20
  t21 := Tryz.underlying21
  a21 := Tryz.isAgg21
  z21 := Tryz.sizeOf21
  v21 := Tryz.zeroValue21
  t37 := Tryz.underlying88
  a37 := Tryz.isAgg88
  z37 := Tryz.sizeOf88
  v37 := Tryz.zeroValue88
  t46 := Tryz.underlying122
  a46 := Tryz.isAgg122
  z46 := Tryz.sizeOf122
  v46 := Tryz.zeroValue122
  t51 := Tryz.underlying158
  a51 := Tryz.isAgg158
  z51 := Tryz.sizeOf158
  v51 := Tryz.zeroValue158
  t53 := Tryz.underlying125
  a53 := Tryz.isAgg125
  z53 := Tryz.sizeOf125
  v53 := Tryz.zeroValue125
  t75 := Tryz.underlying92
  a75 := Tryz.isAgg92
  z75 := Tryz.sizeOf92
  v75 := Tryz.zeroValue92
  t85 := Tryz.underlying152
  a85 := Tryz.isAgg152
  z85 := Tryz.sizeOf152
  v85 := Tryz.zeroValue152
  t127 := Tryz.underlying124
  a127 := Tryz.isAgg124
  z127 := Tryz.sizeOf124
  v127 := Tryz.zeroValue124
  t143 := Tryz.underlying179
  a143 := Tryz.isAgg179
  z143 := Tryz.sizeOf179
  v143 := Tryz.zeroValue179
  t145 := Tryz.underlying181
  a145 := Tryz.isAgg181
  z145 := Tryz.sizeOf181
  v145 := Tryz.zeroValue181
  t167 := Tryz.underlying167
  a167 := Tryz.isAgg167
  z167 := Tryz.sizeOf167
  v167 := Tryz.zeroValue167
  t168 := Tryz.underlying170
  a168 := Tryz.isAgg170
  z168 := Tryz.sizeOf170
  v168 := Tryz.zeroValue170
  t171 := Tryz.underlying143
  a171 := Tryz.isAgg143
  z171 := Tryz.sizeOf143
  v171 := Tryz.zeroValue143
  t173 := Tryz.underlying146
  a173 := Tryz.isAgg146
  z173 := Tryz.sizeOf146
  v173 := Tryz.zeroValue146
  t175 := Tryz.underlying168
  a175 := Tryz.isAgg168
  z175 := Tryz.sizeOf168
  v175 := Tryz.zeroValue168
  t210 := Tryz.underlying177
  a210 := Tryz.isAgg177
  z210 := Tryz.sizeOf177
  v210 := Tryz.zeroValue177
  t212 := Tryz.underlying157
  a212 := Tryz.isAgg157
  z212 := Tryz.sizeOf157
  v212 := Tryz.zeroValue157
  t213 := Tryz.underlying159
  a213 := Tryz.isAgg159
  z213 := Tryz.sizeOf159
  t232 := Tryz.underlying173
  a232 := Tryz.isAgg173
  z232 := Tryz.sizeOf173
  v232 := Tryz.zeroValue173
  t233 := Tryz.underlying174
  a233 := Tryz.isAgg174
  z233 := Tryz.sizeOf174
  v233 := Tryz.zeroValue174
  g15 := by kernel_rfl
  g16 := by kernel_rfl
  g17 := by kernel_rfl
  g18 := by kernel_rfl
  g19 := by kernel_rfl
  t80 := Tryz.underlying98
  a80 := Tryz.isAgg98
  z80 := Tryz.sizeOf98
  v80 := Tryz.zeroValue98
  i0 := by kernel_rfl
  i2 := by kernel_rfl
  i3 := by kernel_rfl
  i4 := by kernel_rfl
  i5 := by kernel_rfl
  i9 := by kernel_rfl
  i20 := by kernel_rfl
  i21 := by kernel_rfl
  i37 := by kernel_rfl
  i46 := by kernel_rfl
  i51 := by kernel_rfl
  i53 := by kernel_rfl
  i75 := by kernel_rfl
  i80 := by kernel_rfl
  i85 := by kernel_rfl
  i127 := by kernel_rfl
  i143 := by kernel_rfl
  i145 := by kernel_rfl
  i167 := by kernel_rfl
  i168 := by kernel_rfl
  i171 := by kernel_rfl
  i173 := by kernel_rfl
  i175 := by kernel_rfl
  i210 := by kernel_rfl
  i212 := by kernel_rfl
  i232 := by kernel_rfl
  i233 := by kernel_rfl
  m15 := by kernel_rfl
  m16 := by kernel_rfl
  m17 := by kernel_rfl
  m18 := by kernel_rfl
  m19 := by kernel_rfl
  c0 := by kernel_rfl
  c2 := by kernel_rfl
  c3 := by kernel_rfl
  c4 := by kernel_rfl
  c5 := by kernel_rfl
  c9 := by kernel_rfl
  c20 := by kernel_rfl
  c21 := by kernel_rfl
  c37 := by kernel_rfl
  c46 := by kernel_rfl
  c51 := by kernel_rfl
  c53 := by kernel_rfl
  c75 := by kernel_rfl
  c80 := by kernel_rfl
  c85 := by kernel_rfl
  c127 := by kernel_rfl
  c143 := by kernel_rfl
  c145 := by kernel_rfl
  c167 := by kernel_rfl
  c168 := by kernel_rfl
  c171 := by kernel_rfl
  c173 := by kernel_rfl
  c175 := by kernel_rfl
  c210 := by kernel_rfl
  c212 := by kernel_rfl
  c213 := by kernel_rfl
  c232 := by kernel_rfl
  c233 := by kernel_rfl }
open Go.RowKit in
theorem Tryz.strconv_ParseInt_10_at64_ok (s : ByteArray) (hmax : s.size ≤ 9223372036854775806) (v : Int) (h : Lib.parseIntB 64 s.data.toList = .ok v) (w : World) :
    Calls Tryz.prog 107 #[.string s, .int .i64 10, .int .i64 64] w fun e w' => e = .returned (.tuple #[.int .i64 v, .nilIface]) ∧ (w' = w ∨ ∃ t, w' = Lib.bytesWorld w 5 t) := Any.strconv_ParseInt_10_at64_ok Tryz.laysC174 s hmax v h w
open Go.RowKit in
theorem Tryz.strconv_ParseInt_10_at64_syntax (s : ByteArray) (hlim : s.size ≤ 281474976710656) (h : Lib.parseIntB 64 s.data.toList = Lib.parseIntB 64 []) (ev : Value) (w : World) (hv : w.cell? ⟨6, 0, none⟩ = some ev) (hev : ev = .nilIface ∨ ∃ te pe, ev = .iface te pe) :
    Calls Tryz.prog 107 #[.string s, .int .i64 10, .int .i64 64] w fun e w' => ∃ N, e = .returned (.tuple #[.int .i64 (0), .iface 170 (.pointer (some ⟨N, 0, none⟩))]) ∧ w.heap.size ≤ N ∧ w'.heap[N]? = some (.cells #[.string ⟨#[80, 97, 114, 115, 101, 73, 110, 116]⟩, .string s, ev] 177 (0, 0)) ∧ Below w.heap.size w w' := Any.strconv_ParseInt_10_at64_syntax Tryz.laysC174 s hlim h ev w hv hev
open Go.RowKit in
theorem Tryz.strconv_ParseInt_10_at64_range (s : ByteArray) (hlim : s.size ≤ 281474976710656) (h : Lib.parseIntB 64 s.data.toList = .range) (ev : Value) (w : World) (hv : w.cell? ⟨7, 0, none⟩ = some ev) (hev : ev = .nilIface ∨ ∃ te pe, ev = .iface te pe) :
    Calls Tryz.prog 107 #[.string s, .int .i64 10, .int .i64 64] w fun e w' => ∃ N, e = .returned (.tuple #[.int .i64 (Lib.intSat 64 s.data.toList), .iface 170 (.pointer (some ⟨N, 0, none⟩))]) ∧ w.heap.size ≤ N ∧ w'.heap[N]? = some (.cells #[.string ⟨#[80, 97, 114, 115, 101, 73, 110, 116]⟩, .string s, ev] 177 (0, 0)) ∧ Below w.heap.size w w' := Any.strconv_ParseInt_10_at64_range Tryz.laysC174 s hlim h ev w hv hev
def Tryz.lays146_ren : Go.Shelf.Ren := ⟨fun | 146 => 58 | 221 => 83 | 268 => 103 | 138 => 73 | 143 => 75 | 195 => 93 | 197 => 76 | 218 => 94 | 219 => 96 | 260 => 97 | 217 => 110 | 225 => 111 | 224 => 112 | 267 => 113 | 266 => 122 | 314 => 123 | n => n, fun | 9 => 9 | 31 => 58 | 3 => 3 | 4 => 4 | 0 => 0 | 105 => 114 | 21 => 21 | 5 => 5 | 46 => 122 | 119 => 118 | 139 => 121 | 138 => 120 | 146 => 163 | 51 => 158 | n => n, fun | 1 => 2 | 3 => 0 | 4 => 1 | n => n⟩
theorem Tryz.lays146 : Go.Proofs.Lays.n146 Tryz.prog Tryz.lays146_ren := {
  mixed := by kernel_rfl
  f138 := Tryz.func73.trans (congrArg some (by kernel_rfl))
  f143 := Tryz.func75.trans (congrArg some (by kernel_rfl))
  f146 := Tryz.func58.trans (congrArg some (by kernel_rfl))
  f195 := Tryz.func93.trans (congrArg some (by kernel_rfl))
  f197 := Tryz.func76.trans (congrArg some (by kernel_rfl))
  f217 := Tryz.func110.trans (congrArg some (by kernel_rfl))
  f218 := Tryz.func94.trans (congrArg some (by kernel_rfl))
  f219 := Tryz.func96.trans (congrArg some (by kernel_rfl))
  f221 := Tryz.func83.trans (congrArg some (by kernel_rfl))
  f224 := Tryz.func112.trans (congrArg some (by kernel_rfl))
  f225 := Tryz.func111.trans (congrArg some (by kernel_rfl))
  f260 := Tryz.func97.trans (congrArg some (by kernel_rfl))
  f266 := Tryz.func122.trans (congrArg some (by kernel_rfl))
  f267 := Tryz.func113.trans (congrArg some (by kernel_rfl))
  f268 := Tryz.func103.trans (congrArg some (by kernel_rfl))
  f314 := Tryz.func123.trans (congrArg some (by kernel_rfl))
  t0 := Tryz.underlying0
  a0 := Tryz.isAgg0
  z0 := Tryz.sizeOf0
  v0 := Tryz.zeroValue0
  t3 := Tryz.underlying3
  a3 := Tryz.isAgg3
  z3 := Tryz.sizeOf3
  v3 := Tryz.zeroValue3
  t4 := Tryz.underlying4
  a4 := Tryz.isAgg4
  z4 := Tryz.sizeOf4
  v4 := Tryz.zeroValue4
  t5 := Tryz.underlying5
  a5 := Tryz.isAgg5
  z5 := Tryz.sizeOf5
  v5 := Tryz.zeroValue5
  t9 := Tryz.underlying9
  a9 := Tryz.isAgg9
  z9 := Tryz.sizeOf9
  v9 := Tryz.zeroValue9
  t21 := Tryz.underlying21
  a21 := Tryz.isAgg21
  z21 := Tryz.sizeOf21
  v21 := Tryz.zeroValue21
  t31 := Tryz.underlying58
  a31 := Tryz.isAgg58
  z31 := Tryz.sizeOf58
  v31 := Tryz.zeroValue58
  t46 := Tryz.underlying122
  a46 := Tryz.isAgg122
  z46 := Tryz.sizeOf122
  v46 := Tryz.zeroValue122
  t51 := Tryz.underlying158
  a51 := Tryz.isAgg158
  z51 := Tryz.sizeOf158
  v51 := Tryz.zeroValue158
  t105 := Tryz.underlying114
  a105 := Tryz.isAgg114
  z105 := Tryz.sizeOf114
  v105 := Tryz.zeroValue114
  t119 := Tryz.underlying118
  a119 := Tryz.isAgg118
  z119 := Tryz.sizeOf118
  t138 := Tryz.underlying120
  a138 := Tryz.isAgg120
  z138 := Tryz.sizeOf120
  v138 := Tryz.zeroValue120
  t139 := Tryz.underlying121
  a139 := Tryz.isAgg121
  z139 := Tryz.sizeOf121
  v139 := Tryz.zeroValue121
  t146 := Tryz.underlying163
  a146 := Tryz.isAgg163
  z146 := Tryz.sizeOf163
  v146 := Tryz.zeroValue163
  g1 := by kernel_rfl
  g3 := by kernel_rfl
  g4 := by kernel_rfl }
open Go.RowKit Go.Lib in
theorem Tryz.strings_Split (s sep : ByteArray) (m : Int) (w : World) (hs : s.size < 4294967281) (hm : w.cell? ⟨2, 0, none⟩ = some (.int .i64 m)) (h1 : 1 ≤ sep.size) :
    Calls Tryz.prog 58 #[.string s, .string sep] w fun e w' =>
      e = .returned (.slice (some ⟨w.heap.size, 0, none⟩) (Lib.countB s sep + 1) (Lib.countB s sep + 1)) ∧ w' = w.alloc (.cells ((Lib.splitB sep 0 (Lib.countB s sep) s).map Value.string).toArray 9) := Any.strings_Split Tryz.lays146 (by kernel_rfl) s sep m w hs hm h1
def Tryz.lays155_ren : Go.Shelf.Ren := ⟨fun | 155 => 18 | 154 => 43 | 138 => 73 | 165 => 74 | 143 => 75 | 166 => 54 | 197 => 76 | 169 => 56 | 195 => 93 | 218 => 94 | 240 => 81 | 241 => 95 | 219 => 96 | 260 => 97 | 276 => 102 | 277 => 109 | 217 => 110 | 225 => 111 | 224 => 112 | 267 => 113 | 266 => 122 | 314 => 123 | n => n, fun | 9 => 9 | 3 => 3 | 4 => 4 | 72 => 90 | 0 => 0 | 76 => 96 | 105 => 114 | 21 => 21 | 5 => 5 | 70 => 87 | 20 => 20 | 37 => 88 | 75 => 92 | 127 => 124 | 164 => 148 | 46 => 122 | 119 => 118 | 139 => 121 | 138 => 120 | 146 => 163 | 51 => 158 | 80 => 98 | n => n, fun | 1 => 2 | 3 => 0 | 4 => 1 | n => n⟩
theorem Tryz.lays155 : Go.Proofs.Lays.n155 Tryz.prog Tryz.lays155_ren := {
  mixed := by kernel_rfl
  f138 := Tryz.func73.trans (congrArg some (by kernel_rfl))
  f143 := Tryz.func75.trans (congrArg some (by kernel_rfl))
  f154 := Tryz.func43.trans (congrArg some (by kernel_rfl))
  f155 := Tryz.func18.trans (congrArg some (by kernel_rfl))
  f165 := Tryz.func74.trans (congrArg some (by kernel_rfl))
  f166 := Tryz.func54.trans (congrArg some (by kernel_rfl))
  f169 := Tryz.func56.trans (congrArg some (by kernel_rfl))
  f195 := Tryz.func93.trans (congrArg some (by kernel_rfl))
  f197 := Tryz.func76.trans (congrArg some (by kernel_rfl))
  f217 := Tryz.func110.trans (congrArg some (by kernel_rfl))
  f218 := Tryz.func94.trans (congrArg some (by kernel_rfl))
  f219 := Tryz.func96.trans (congrArg some (by kernel_rfl))
  f224 := Tryz.func112.trans (congrArg some (by kernel_rfl))
  f225 := Tryz.func111.trans (congrArg some (by kernel_rfl))
  f240 := Tryz.func81.trans (congrArg some (by kernel_rfl))
  f241 := Tryz.func95.trans (congrArg some (by kernel_rfl))
  f260 := Tryz.func97.trans (congrArg some (by kernel_rfl))
  f266 := Tryz.func122.trans (congrArg some (by kernel_rfl))
  f267 := Tryz.func113.trans (congrArg some (by kernel_rfl))
  f276 := Tryz.func102.trans (congrArg some (by kernel_rfl))
  f277 := Tryz.func109.trans (congrArg some (by kernel_rfl))
  f314 := Tryz.func123.trans (congrArg some (by kernel_rfl))
  t0 := Tryz.underlying0
  a0 := Tryz.isAgg0
  z0 := Tryz.sizeOf0
  v0 := Tryz.zeroValue0
  t3 := Tryz.underlying3
  a3 := Tryz.isAgg3
  z3 := Tryz.sizeOf3
  v3 := Tryz.zeroValue3
  t4 := Tryz.underlying4
  a4 := Tryz.isAgg4
  z4 := Tryz.sizeOf4
  v4 := Tryz.zeroValue4
  t5 := Tryz.underlying5
  a5 := Tryz.isAgg5
  z5 := Tryz.sizeOf5
  v5 := Tryz.zeroValue5
  t9 := Tryz.underlying9
  a9 := Tryz.isAgg9
  z9 := Tryz.sizeOf9
  v9 := Tryz.zeroValue9
  t20 := Tryz.underlying20
  a20 := Tryz.isAgg20
  z20 := Tryz.sizeOf20
  v20 := Tryz.zeroValue20
  t21 := Tryz.underlying21
  a21 := Tryz.isAgg21
  z21 := Tryz.sizeOf21
  v21 := Tryz.zeroValue21
  t37 := Tryz.underlying88
  a37 := Tryz.isAgg88
  z37 := Tryz.sizeOf88
  v37 := Tryz.zeroValue88
  t46 := Tryz.underlying122
  a46 := Tryz.isAgg122
  z46 := Tryz.sizeOf122
  v46 := Tryz.zeroValue122
  t51 := Tryz.underlying158
  a51 := Tryz.isAgg158
  z51 := Tryz.sizeOf158
  v51 := Tryz.zeroValue158
  t70 := Tryz.underlying87
  a70 := Tryz.isAgg87
  z70 := Tryz.sizeOf87
  v70 := Tryz.zeroValue87
  t72 := Tryz.underlying90
  a72 := Tryz.isAgg90
  z72 := Tryz.sizeOf90
  v72 := Tryz.zeroValue90
  t75 := Tryz.underlying92
  a75 := Tryz.isAgg92
  z75 := Tryz.sizeOf92
  v75 := Tryz.zeroValue92
  t76 := Tryz.underlying96
  a76 := Tryz.isAgg96
  z76 := Tryz.sizeOf96
  v76 := Tryz.zeroValue96
  t105 := Tryz.underlying114
  a105 := Tryz.isAgg114
  z105 := Tryz.sizeOf114
  v105 := Tryz.zeroValue114
  t119 := Tryz.underlying118
  a119 := Tryz.isAgg118
  z119 := Tryz.sizeOf118
  t127 := Tryz.underlying124
  a127 := Tryz.isAgg124
  z127 := Tryz.sizeOf124
  v127 := Tryz.zeroValue124
  t138 := Tryz.underlying120
  a138 := Tryz.isAgg120
  z138 := Tryz.sizeOf120
  v138 := Tryz.zeroValue120
  t139 := Tryz.underlying121
  a139 := Tryz.isAgg121
  z139 := Tryz.sizeOf121
  v139 := Tryz.zeroValue121
  t146 := Tryz.underlying163
  a146 := Tryz.isAgg163
  z146 := Tryz.sizeOf163
  v146 := Tryz.zeroValue163
  t164 := Tryz.underlying148
  a164 := Tryz.isAgg148
  z164 := Tryz.sizeOf148
  v164 := Tryz.zeroValue148
  g1 := by kernel_rfl
  g3 := by kernel_rfl
  g4 := by kernel_rfl }
theorem Tryz.Builder_Extra_155 : Builder.Extra Tryz.prog Tryz.lays155_ren := {
  sizeBuilder := by kernel_rfl
  liesBuilder := by kernel_rfl
  t5 := Tryz.underlying5
  a5 := Tryz.isAgg5
  z5 := Tryz.sizeOf5
  v5 := Tryz.zeroValue5
  infoByte := by kernel_rfl
  cellsByte := by kernel_rfl
  sizeByte := by kernel_rfl
  neB5 := by decide }
open Go.RowKit Go.Lib in
theorem Tryz.strings_ReplaceAll (s old new : ByteArray) (m : Int) (w : World) (hs : s.size < 4294967281) (hm : w.cell? ⟨2, 0, none⟩ = some (.int .i64 m)) (h1 : 1 ≤ old.size) (hlen : s.size + Lib.countB s old * new.size ≤ 140737488355328) :
    Calls Tryz.prog 18 #[.string s, .string old, .string new] w fun e w' =>
      e = .returned (.string ⟨(Lib.replaceAll s.data.toList old.data.toList new.data.toList).toArray⟩) ∧ Below w.heap.size w w' := Any.strings_ReplaceAll Tryz.lays155 Tryz.Builder_Extra_155 s old new m w hs hm h1 hlen
def Tryz.laysValid_ren : Go.Shelf.Ren := ⟨fun | 196 => 46 | 259 => 77 | n => n, fun | 9 => 9 | 4 => 4 | 3 => 3 | 5 => 5 | 12 => 12 | 119 => 118 | 0 => 0 | 46 => 122 | 139 => 121 | 138 => 120 | 53 => 125 | n => n, fun | 3 => 0 | 4 => 1 | n => n⟩
theorem Tryz.laysValid : Go.Proofs.Lays.n196 Tryz.prog Tryz.laysValid_ren := {
  mixed := by kernel_rfl
  f196 := Tryz.func46.trans (congrArg some (by kernel_rfl))
  f259 := Tryz.func77.trans (congrArg some (by kernel_rfl))
  t0 := Tryz.underlying0
  a0 := Tryz.isAgg0
  z0 := Tryz.sizeOf0
  v0 := Tryz.zeroValue0
  t3 := Tryz.underlying3
  a3 := Tryz.isAgg3
  z3 := Tryz.sizeOf3
  v3 := Tryz.zeroValue3
  t4 := Tryz.underlying4
  a4 := Tryz.isAgg4
  z4 := Tryz.sizeOf4
  v4 := Tryz.zeroValue4
  t5 := Tryz.underlying5
  a5 := Tryz.isAgg5
  z5 := Tryz.sizeOf5
  v5 := Tryz.zeroValue5
  t9 := Tryz.underlying9
  a9 := Tryz.isAgg9
  z9 := Tryz.sizeOf9
  v9 := Tryz.zeroValue9
  t12 := Tryz.underlying12
  a12 := Tryz.isAgg12
  z12 := Tryz.sizeOf12
  v12 := Tryz.zeroValue12
  t46 := Tryz.underlying122
  a46 := Tryz.isAgg122
  z46 := Tryz.sizeOf122
  v46 := Tryz.zeroValue122
  t53 := Tryz.underlying125
  a53 := Tryz.isAgg125
  z53 := Tryz.sizeOf125
  v53 := Tryz.zeroValue125
  t119 := Tryz.underlying118
  a119 := Tryz.isAgg118
  z119 := Tryz.sizeOf118
  t138 := Tryz.underlying120
  a138 := Tryz.isAgg120
  z138 := Tryz.sizeOf120
  v138 := Tryz.zeroValue120
  t139 := Tryz.underlying121
  a139 := Tryz.isAgg121
  z139 := Tryz.sizeOf121
  v139 := Tryz.zeroValue121
  g3 := by kernel_rfl
  g4 := by kernel_rfl }
open Go.RowKit in
theorem Tryz.utf8_ValidString (s : ByteArray) (w : World) (hs : s.size ≤ 9223372036854775807) (hT : Lib.Utf8Tabs 0 1 w) :
    Calls Tryz.prog 46 #[.string s] w fun e w' => e = .returned (.bool (Lib.validD s.data.toList)) ∧ Below w.heap.size w w' := Any.utf8_ValidString Tryz.laysValid s w hs hT
end Go.Proofs
namespace Go.Proofs.YtedhognhhcihpaaGreatDoor
open Go.RowKit
set_option maxRecDepth 100000
def g_strconv_FormatInt (n b : Int) : Option (List UInt8) := if b = 10 then some (Lib.itoa n) else none
theorem a_strconv_FormatInt (I : World → Prop) (hI : Stab I) (hTab : ∀ w, I w → Tab w) (n b : Int) {r : List UInt8} (h : g_strconv_FormatInt n b = some r) : AFun Tryz.prog I 51 [.int .i64 n, .int .i64 b] (.str r) := by
  obtain ⟨rfl, h⟩ := ite_on h
  obtain rfl := Option.some.inj h
  refine AFun.sized (by kernel_rfl) fun hz => ?_
  simp only [List.mem_cons, List.not_mem_nil, or_false, forall_eq_or_imp, forall_eq, Sz_i64] at hz
  obtain ⟨⟨h0, h1⟩, _⟩ := hz
  refine AFun.of_calls (v := .string ⟨(Lib.itoa n).toArray⟩) (by kernel_rfl) (fun w F => .str _ (by have := Lib.itoa_length_le n h0 h1; unfold maxLen; omega)) ?_
  intro w F args hIw _ hl hr
  match args, hl with
  | [v, u], _ =>
    obtain rfl := rep_int1 (hr 0 v _ rfl rfl)
    obtain rfl := rep_int1 (hr 1 u _ rfl rfl)
    refine (Tryz.strconv_FormatInt_10 n h0 h1 w (hTab w hIw)).mono ?_
    rintro e w' ⟨rfl, k, os, rfl⟩
    refine ⟨rfl, rfl, rfl, rfl, ?_, fun i hi => ?_⟩
    · simp [Go.Sort.grow]
    · simp [Go.Sort.grow, Array.getElem?_append, hi]
theorem flat_strs (l : List (List UInt8)) : (l.map D.str).flatMap D.cells = l.map D.str := by
  induction l with
  | nil => rfl
  | cons a t ih => simp only [List.map_cons, List.flatMap_cons, ih, D.cells, List.singleton_append]
def g_strings_IndexByte (s : List UInt8) (c : Int) : Option Int := some (Lib.indexByte s c.toNat.toUInt8)
theorem indexByte_lt : ∀ (s : List UInt8) (c : UInt8), Lib.indexByte s c ≤ s.length
  | [], _ => by simp [Lib.indexByte]
  | b :: l, c => by
    have := indexByte_lt l c
    simp only [Lib.indexByte, List.length_cons]
    split
    · omega
    · split <;> omega
theorem a_strings_IndexByte (I : World → Prop) (hI : Stab I) (s : List UInt8) (c : Int) {r : Int} (h : g_strings_IndexByte s c = some r) : AFun Tryz.prog I 104 [.str s, .int .u8 c] (.int .i64 r) := by
  obtain rfl := Option.some.inj h
  refine AFun.sized (by kernel_rfl) fun hz => ?_
  simp only [List.mem_cons, List.not_mem_nil, or_false, forall_eq_or_imp, forall_eq, Sz_str] at hz
  refine AFun.of_calls (v := .int .i64 (Lib.indexByte s c.toNat.toUInt8)) (by kernel_rfl) (fun w F => .int _ _ ?_) ?_
  · have h1 := indexByte_lt s c.toNat.toUInt8
    have h2 := Lib.indexByte_ge s c.toNat.toUInt8
    simp only [inR, kLo, kHi]
    omega
  · intro w F args hIw _ hl hr
    match args, hl with
    | [v, u], _ =>
      obtain ⟨rfl, _⟩ := rep_str1 (hr 0 v _ rfl rfl)
      obtain rfl := rep_int1 (hr 1 u _ rfl rfl)
      refine (Tryz.strings_IndexByte ⟨s.toArray⟩ c w).mono ?_
      rintro e w' ⟨rfl, rfl⟩
      exact ⟨by simp, Below.refl _ _⟩
end Go.Proofs.YtedhognhhcihpaaGreatDoor
namespace Go.Proofs.YtedhognhhcihpaaGreatDoor
open Go.RowKit
set_option maxRecDepth 100000
theorem cell_below {w w' : World} {g : Nat} {v : Value} (h : w.cell? ⟨g, 0, none⟩ = some v) (hb : Below w.heap.size w w') : w'.cell? ⟨g, 0, none⟩ = some v := by
  have hlt : g < w.heap.size := by
    rcases Nat.lt_or_ge g w.heap.size with h1 | h1
    · exact h1
    · simp [World.cell?, Array.getElem?_eq_none h1] at h
  rw [World.cell?_of_block (hb.block g hlt)]
  exact h
def Shp (w : World) : Prop := ∃ m, w.cell? ⟨2, 0, none⟩ = some (.int .i64 m)
theorem stabShp : Stab Shp := fun _ _ ⟨m, h⟩ hb => ⟨m, cell_below h hb⟩
def PIv (w : World) : Prop := (∃ te pe, w.cell? ⟨6, 0, none⟩ = some (.iface te pe)) ∧ ∃ te pe, w.cell? ⟨7, 0, none⟩ = some (.iface te pe)
theorem stabPIv : Stab PIv := fun _ _ ⟨⟨a, b, h⟩, ⟨c, d, k⟩⟩ hb => ⟨⟨a, b, cell_below h hb⟩, ⟨c, d, cell_below k hb⟩⟩
section
variable {P : Program} {I : World → Prop} {f : FuncId} {ds : List D}
theorem AFun.of_strs (he : enterable P f = true) (l : List (List UInt8)) (t : TypeId) (hl : l.length ≤ maxLen) (hs : ∀ s ∈ l, s.length ≤ maxLen)
    (h : ∀ (w : World) (F : Nat → Nat → Prop) (args : List Value), I w → FB (cF F) w → args.length = ds.length → (∀ (i : Nat) v d, args[i]? = some v → ds[i]? = some d → Rep w (cF F) v d) →
      Calls P f args.toArray w fun e w' => e = .returned (.slice (some ⟨w.heap.size, 0, none⟩) l.length l.length) ∧ w' = w.alloc (.cells (l.map fun s => Value.string ⟨s.toArray⟩).toArray t)) : AFun P I f ds (.sl (l.map D.str)) := by
  refine ⟨he, fun w F args hI hfb hla hr => ?_⟩
  refine (h w F args hI hfb hla hr).mono ?_
  rintro e w' ⟨rfl, rfl⟩
  let F' : Nat → Nat → Prop := fun b o => F b o ∨ (b = w.heap.size ∧ o < l.length)
  have hbel : Below w.heap.size w (w.alloc (.cells (l.map fun s => Value.string ⟨s.toArray⟩).toArray t)) := (Below.refl _ _).alloc (Nat.le_refl _) _
  refine ⟨_, F', rfl, hbel, ⟨fun _ _ h => .inl h, fun b o hF => hbel.block b (hfb b o hF), fun _ h => h, fun _ _ => rfl⟩, fun b o hF => ?_, fun b o hF => ?_, ?_⟩
  · rcases hF with hF | ⟨rfl, _⟩
    · exact Nat.lt_of_lt_of_le (hfb b o hF) hbel.size
    · simp
  · rcases hF with hF | ⟨rfl, _⟩
    · exact .inl hF
    · exact .inr (Nat.le_refl _)
  · have := Rep.sl (w := w.alloc (.cells (l.map fun s => Value.string ⟨s.toArray⟩).toArray t)) (C := cF F') w.heap.size 0 1 l.length (l.map D.str) (l.map fun s => Value.string ⟨s.toArray⟩) (by simp) hl
      (by intro x hx; simp at hx; obtain ⟨a, _, rfl⟩ := hx; rfl) (by rw [flat_strs]; simp) (by intro v hv; simp at hv; obtain ⟨a, _, rfl⟩ := hv; rfl) (fun i hi => .inr ⟨rfl, by simpa using hi⟩) (fun i v hv => ?_) (fun i v d hv hd => ?_)
    · simpa using this
    · rw [World.cell?]
      simp only [Nat.zero_add, World.alloc, Array.getElem?_push_size]
      simpa using hv
    · rw [flat_strs] at hd
      simp only [List.getElem?_map] at hv hd
      cases hi : l[i]? with
      | none => rw [hi] at hv; simp at hv
      | some s =>
        rw [hi] at hv hd
        simp at hv hd
        subst hv hd
        exact .str s (hs s (List.mem_of_getElem? hi))
theorem AFun.of_vals (he : enterable P f = true) (d : D)
    (h : ∀ (w : World) (F : Nat → Nat → Prop) (args : List Value), I w → FB (cF F) w → args.length = ds.length → (∀ (i : Nat) v d, args[i]? = some v → ds[i]? = some d → Rep w (cF F) v d) → Calls P f args.toArray w fun e w' => ∃ v, e = .returned v ∧ Below w.heap.size w w' ∧ ∀ F, Rep w' (cF F) v d) : AFun P I f ds d := by
  refine ⟨he, fun w F args hI hfb hl hr => ?_⟩
  refine (h w F args hI hfb hl hr).mono ?_
  rintro e w' ⟨v, rfl, hb, hv⟩
  exact ⟨v, F, rfl, hb, ⟨fun _ _ h => h, fun b o hF => hb.block b (hfb b o hF), fun _ h => h, fun _ _ => rfl⟩, fun b o hF => Nat.lt_of_lt_of_le (hfb b o hF) hb.size, fun _ _ h => .inl h, hv F⟩
end
theorem rep_tup2 {w : World} {C : Cx} {u v : Value} {d e : D} (h : Rep w C u d) (k : Rep w C v e) : Rep w C (.tuple #[u, v]) (.tup [d, e]) := by
  refine .tup [u, v] [d, e] rfl fun i x y hx hy => ?_
  match i, hx, hy with
  | 0, hx, hy => simp at hx hy; subst hx hy; exact h
  | 1, hx, hy => simp at hx hy; subst hx hy; exact k
  | (n + 2), hx, hy => simp at hx
def g_strings_CutPrefix (s p : List UInt8) : Option (List UInt8 × Bool) := some (Lib.trimPrefix s p, Lib.hasPrefix s p)
theorem trimPrefix_len (s p : List UInt8) : (Lib.trimPrefix s p).length ≤ s.length := by
  unfold Lib.trimPrefix
  split
  · simp
  · exact Nat.le_refl _
theorem a_strings_CutPrefix (I : World → Prop) (hI : Stab I) (s p : List UInt8) {r : List UInt8 × Bool} (h : g_strings_CutPrefix s p = some r) : AFun Tryz.prog I 106 [.str s, .str p] (.tup [.str r.1, .bool r.2]) := by
  obtain rfl := Option.some.inj h
  refine AFun.of_vals (by kernel_rfl) _ ?_
  intro w F args hIw _ hl hr
  match args, hl with
  | [v, u], _ =>
    obtain ⟨rfl, hs⟩ := rep_str1 (hr 0 v _ rfl rfl)
    obtain ⟨rfl, _⟩ := rep_str1 (hr 1 u _ rfl rfl)
    refine (Tryz.strings_CutPrefix ⟨s.toArray⟩ ⟨p.toArray⟩ w).mono ?_
    rintro e w' ⟨rfl, rfl⟩
    exact ⟨_, rfl, Below.refl _ _, fun F => rep_tup2 (.str _ (by have := trimPrefix_len s p; simpa using Nat.le_trans this hs)) (.bool _)⟩
def g_strings_Split (s sep : List UInt8) : Option (List (List UInt8)) := if s.length < 4294967281 ∧ 1 ≤ sep.length then some (Lib.split s sep) else none
theorem splitK_le (sep : List UInt8) : ∀ (k : Nat) (s : List UInt8), ∀ x ∈ Lib.splitK sep 0 k s, x.length ≤ s.length
  | 0, s, x, h => by simp [Lib.splitK] at h; subst h; exact Nat.le_refl _
  | k + 1, s, x, h => by
    unfold Lib.splitK at h
    split at h
    · simp at h; subst h; exact Nat.le_refl _
    · rcases List.mem_cons.1 h with rfl | h
      · rw [List.length_take]; exact Nat.min_le_right _ _
      · have := splitK_le sep k _ x h
        rw [List.length_drop] at this; omega
theorem a_strings_Split (I : World → Prop) (hI : Stab I) (hShp : ∀ w, I w → Shp w) (s sep : List UInt8) {r : List (List UInt8)} (h : g_strings_Split s sep = some r) : AFun Tryz.prog I 58 [.str s, .str sep] (.sl (r.map D.str)) := by
  obtain ⟨⟨h1, h2⟩, h⟩ := ite_on h
  obtain rfl := Option.some.inj h
  have hd : (Lib.splitB ⟨sep.toArray⟩ 0 (Lib.countB ⟨s.toArray⟩ ⟨sep.toArray⟩) ⟨s.toArray⟩).map (·.data.toList) = Lib.split s sep := by
    rw [Lib.splitB_data]; rfl
  have hlen : (Lib.split s sep).length = Lib.countB ⟨s.toArray⟩ ⟨sep.toArray⟩ + 1 := by
    rw [← hd, List.length_map]; exact Lib.splitB_all _ (by simpa [ByteArray.size] using h2) 0 _ _ rfl
  have hcl := Lib.countB_le ⟨sep.toArray⟩ (by simpa [ByteArray.size] using h2) s.length ⟨s.toArray⟩ (by simp [ByteArray.size])
  refine AFun.of_strs (by kernel_rfl) _ 9 (by rw [hlen]; simp [ByteArray.size] at hcl; unfold maxLen; omega) (fun x hx => by have := splitK_le sep _ s x hx; unfold maxLen; omega) ?_
  intro w F args hIw _ hl hr
  match args, hl with
  | [v, u], _ =>
    obtain ⟨rfl, _⟩ := rep_str1 (hr 0 v _ rfl rfl)
    obtain ⟨rfl, _⟩ := rep_str1 (hr 1 u _ rfl rfl)
    obtain ⟨m, hm⟩ := hShp w hIw
    refine (Tryz.strings_Split ⟨s.toArray⟩ ⟨sep.toArray⟩ m w (by simpa [ByteArray.size] using h1) hm (by simpa [ByteArray.size] using h2)).mono ?_
    rintro e w' ⟨rfl, rfl⟩
    refine ⟨by rw [hlen], ?_⟩
    rw [← hd, List.map_map]
    rfl
def g_strconv_ParseInt (s : List UInt8) (b n : Int) : Option (Int × Bool) := if b = 10 ∧ n = 64 ∧ s.length ≤ 281474976710656 then (match Lib.parseIntB 64 s with
  | .ok v => some (v, false)
  | .range => some (Lib.intSat 64 s, true)
  | _ => some (0, true)) else none
theorem parseIntB_range (s : List UInt8) (v : Int) (h : Lib.parseIntB 64 s = .ok v) : -9223372036854775808 ≤ v ∧ v ≤ 9223372036854775807 := by
  unfold Lib.parseIntB at h
  split at h
  · cases h
  · simp only at h
    split at h
    · cases h
    · cases h
    · rename_i u _
      split at h
      · cases h
      · split at h
        · cases h
        · rename_i h1 h2
          injection h with h
          subst h
          split <;> simp_all <;> omega
theorem a_strconv_ParseInt (I : World → Prop) (hI : Stab I) (hPIv : ∀ w, I w → PIv w) (s : List UInt8) (b n : Int) {r : Int × Bool} (h : g_strconv_ParseInt s b n = some r) : AFun Tryz.prog I 107 [.str s, .int .i64 b, .int .i64 n] (.tup [.int .i64 r.1, .err r.2]) := by
  unfold g_strconv_ParseInt at h
  replace h := ite_on h
  obtain ⟨hc, h⟩ := h
  obtain ⟨rfl, rfl, h1⟩ := hc
  refine AFun.of_vals (by kernel_rfl) _ ?_
  intro w F args hIw _ hl hr
  match args, hl with
  | [v, u, x], _ =>
    obtain ⟨rfl, hs⟩ := rep_str1 (hr 0 v _ rfl rfl)
    obtain rfl := rep_int1 (hr 1 u _ rfl rfl)
    obtain rfl := rep_int1 (hr 2 x _ rfl rfl)
    obtain ⟨⟨ts, ps, hs1⟩, ⟨tr, pr, hr1⟩⟩ := hPIv w hIw
    cases hp : Lib.parseIntB 64 s
    · rename_i v
      rw [hp] at h
      obtain rfl := Option.some.inj h
      refine (Tryz.strconv_ParseInt_10_at64_ok ⟨s.toArray⟩ (by simp [ByteArray.size]; omega) v hp w).mono ?_
      rintro e w' ⟨rfl, hw⟩
      refine ⟨_, rfl, ?_, fun F => rep_tup2 (.int _ _ (parseIntB_range s v hp)) .err0⟩
      rcases hw with rfl | ⟨t, rfl⟩
      · exact Below.refl _ _
      · exact ⟨rfl, rfl, rfl, by rw [Lib.bytesWorld_size]; omega, fun j hj => Lib.bytesWorld_at_old _ _ _ j hj⟩
    · rw [hp] at h
      obtain rfl := Option.some.inj h
      refine (Tryz.strconv_ParseInt_10_at64_syntax ⟨s.toArray⟩ (by simpa [ByteArray.size] using h1) hp _ w hs1 (.inr ⟨_, _, rfl⟩)).mono ?_
      rintro e w' ⟨N, rfl, _, _, hb⟩
      exact ⟨_, rfl, hb, fun F => rep_tup2 (.int _ _ (by decide)) (.err1 _ _)⟩
    · rw [hp] at h
      obtain rfl := Option.some.inj h
      refine (Tryz.strconv_ParseInt_10_at64_range ⟨s.toArray⟩ (by simpa [ByteArray.size] using h1) hp _ w hr1 (.inr ⟨_, _, rfl⟩)).mono ?_
      rintro e w' ⟨N, rfl, _, _, hb⟩
      exact ⟨_, rfl, hb, fun F => rep_tup2 (.int _ _ (by show inR _ (Lib.intSat 64 s); unfold Lib.intSat inR; split <;> simp [kLo, kHi])) (.err1 _ _)⟩
end Go.Proofs.YtedhognhhcihpaaGreatDoor
namespace Go.Proofs.YtedhognhhcihpaaGreatDoor
open Go.RowKit
def RdL {α : Type} (enc : α → List Value) (k : Nat) (w : World) (B : Nat) (A : Option Addr) (L : List α) : Prop :=
  L = [] ∨ ∃ b off, A = some ⟨b, off, none⟩ ∧ b < B ∧ ∀ i x, L[i]? = some x → ∀ j v, (enc x)[j]? = some v → w.cell? ⟨b, off + i * k + j, none⟩ = some v
section
variable {α : Type} {enc : α → List Value} {k : Nat} {w w' : World} {B B' : Nat} {A : Option Addr} {L : List α}
theorem RdL.nil : RdL enc k w B A [] := .inl rfl
theorem RdL.keep (h : RdL enc k w B A L) (hk : ∀ p : Addr, p.block < B → w'.cell? p = w.cell? p) : RdL enc k w' B A L := by
  rcases h with h | ⟨b, off, e, hb, hc⟩
  · exact .inl h
  · exact .inr ⟨b, off, e, hb, fun i x hx j v hv => (hk _ hb).trans (hc i x hx j v hv)⟩
theorem RdL.below (h : RdL enc k w B A L) (hb : Below B w w') : RdL enc k w' B A L := h.keep fun _ hp => hb.cell hp
theorem RdL.drewN (h : RdL enc k w B A L) (q : Nat) : RdL enc k (w.drewN q) B A L := h
end
def encI (x : Int) : List Value := [.int .i64 x]
def RdI (w : World) (B : Nat) (A : Option Addr) (L : List Int) : Prop := RdL encI 1 w B A L
theorem RdI.below {w w' : World} {B : Nat} {A : Option Addr} {L : List Int} (h : RdI w B A L) (hb : Below B w w') : RdI w' B A L := RdL.below h hb
end Go.Proofs.YtedhognhhcihpaaGreatDoor
namespace Go.Proofs.YtedhognhhcihpaaGreatDoor
open Go.RowKit
theorem bSize : (Tryz.prog.info? 90).map (·.size) = some 2 := by kernel_rfl
theorem bLies : liesAt Tryz.prog Tryz.prog.depth 90 (2 / Tryz.prog.cellsOf 90) 0 90 1 = true := by kernel_rfl
theorem byte_info : (Tryz.prog.info? 5).map (fun i => (i.zero, i.size, i.bytes)) = some (some (.int .u8 0), 1, 1) := by kernel_rfl
set_option maxHeartbeats 1000000 in
set_option maxRecDepth 100000 in
theorem copyCheck_used (b : Nat) (w : World) (h0 : w.cell? ⟨b, 0, none⟩ = some (.pointer (some ⟨b, 0, none⟩))) :
    Calls Tryz.prog 81 #[.pointer (some ⟨b, 0, none⟩)] w fun e w' => e = .returned (.tuple #[]) ∧ w = w' := by
  obtain ⟨j, hj, _⟩ := Option.map_eq_some_iff.1 bSize
  go_enter Tryz.func81, Tryz.ntmps81
  go_wp2
  rw [Lib.run_neq_ptr_same w _ Tryz.underlying87 hj]
  go_wp2
  go_end0
  exact ⟨rfl, rfl⟩
set_option maxHeartbeats 1000000 in
set_option maxRecDepth 100000 in
theorem copyCheck_fresh (b : Nat) (w : World) (h0 : w.cell? ⟨b, 0, none⟩ = some (.pointer none)) (hsh : w.shape? b = some (90, 2)) (hfz : w.frozen? ⟨b, 0, none⟩ = false) :
    Calls Tryz.prog 81 #[.pointer (some ⟨b, 0, none⟩)] w fun e w' => e = .returned (.tuple #[]) ∧ w.setCell ⟨b, 0, none⟩ (.pointer (some ⟨b, 0, none⟩)) = w' := by
  obtain ⟨j, hj, hjs⟩ := Option.map_eq_some_iff.1 bSize
  go_enter Tryz.func81, Tryz.ntmps81
  go_wp2
  rw [Lib.run_to_unsafe w ⟨b, 0, none⟩ Tryz.underlying87 Tryz.underlying148 hj (by rw [hjs]; decide) hsh (Nat.zero_lt_succ 1)]
  simp only [Result.andThen]
  rw [Oper.upon_value]
  go_wp2
  rw [run_callFunc_extern Tryz.func102 (by kernel_rfl) (by kernel_rfl) (by kernel_rfl) (e := Extern.AbiNoEscape.same) (by kernel_rfl)]
  rw [Lib.run_noEscape]
  simp only [Result.andThen]
  rw [Oper.upon_value]
  go_wp2
  rw [Lib.run_from_unsafe w ⟨b, 0, none⟩ Tryz.underlying148 Tryz.underlying87 hj hsh bLies]
  simp only [Result.andThen]
  rw [Oper.upon_value]
  go_wp2
  go_end0
  exact ⟨rfl, rfl⟩
section
variable {P : Program} {w : World}
theorem append_str_where (t u ty e : TypeId) (i : TypeInfo) (ht : P.underlying t = some (.slice e)) (hu : P.underlying u = some .string) (hi : P.info? e = some i) (hz : i.zero = some (.int .u8 0)) (hsize : i.size = 1) (hby : i.bytes = 1)
    (v : Value) (n : Nat) (xs : List Value) (hown : w.ownsRow 0 e 1 v n xs) (s : ByteArray) (h63 : n + s.size ≤ maxLen) (hbytes : n + s.size ≤ 140737488355328) {v' : Value} {w' : World} (h : (Builtin.append_ #[t, u] ty #[v, .string s]).run P w = .ok v' w') :
    (∀ g, v'.ownBlock = some g → w.heap.size ≤ g) ∨ v'.ownBlock = v.ownBlock := by
  have hsmall : n + s.size ≤ 9223372036854775807 := by simp only [maxLen] at h63; omega
  have hxl : xs.length = n := by simpa using hown.1
  rcases hown.2 with ⟨rfl, rfl⟩ | ⟨g, cap, cur, rfl, hbg, hg, hnc, hcm, hcs, htake⟩
  · by_cases hm : s.size = 0
    · have hf := Lib.run_firstCells_string (P := P) (w := w) 1 s
      rw [hm] at hf
      have hr : (Builtin.append_ #[t, u] ty #[.slice none 0 0, .string s]).run P w = .ok (.slice none 0 0) w := by
        simp [Builtin.append_, run_underlying ht, run_underlying hu, sizeOf, typeInfo, hi, hsize, Builtin.lenOf, hm, hf]
      rw [hr] at h
      injection h with h1 h2
      subst h1
      exact .inr rfl
    · rw [run_append_nil_string (P := P) w t u ty e i (.int .u8 0) ht hu hi hz s (by omega) (by omega) (by rw [hby]; omega)] at h
      injection h with h1 h2
      subst h1
      exact .inl fun g hg => by simp [Value.ownBlock] at hg; omega
  · by_cases hroom : n + s.size ≤ cap
    · have hcs' : cur.size = cap := by simpa using hcs
      rw [Lib.run_append_room_string (P := P) w t u ty e i ht hu hi hsize g n cap cur hg s hroom (by omega)] at h
      injection h with h1 h2
      subst h1
      exact .inr rfl
    · have holds : ∀ j u, xs[j]? = some u → w.cell? ((⟨g, 0, none⟩ : Addr).add j) = some u := hown.cells (g := g) rfl
      rw [Lib.run_append_grow_string (P := P) w t u ty e i (.int .u8 0) ht hu hi hz ⟨g, 0, none⟩ n cap xs (by rw [hsize]; simpa using hxl) holds s (by omega) (by omega) (by rw [hby]; exact growslice_fits (by omega) (by omega))] at h
      injection h with h1 h2
      subst h1
      exact .inl fun g hg => by simp [Value.ownBlock] at hg; omega
theorem wpList_append_str2 {ops : Array Oper} {rest : List Oper} {o : Oper} {a : Act} {Q : Exit → Act → World → Prop} (hgd : o.guard = none) (sl x : Operand) (t u : TypeId)
    (ho : o.op = .call { callee := .builtin .append, args := #[sl, x], argTypes := #[t, u] }) (e : TypeId) (i : TypeInfo) (ht : P.underlying t = some (.slice e)) (hu : P.underlying u = some .string) (hi : P.info? e = some i) (hz : i.zero = some (.int .u8 0))
    (hsize : i.size = 1) (hby : i.bytes = 1) (v : Value) (n : Nat) (xs : List Value) (hs : a.eval sl = v) (hown : w.ownsRow 0 e 1 v n xs) (s : ByteArray) (hx : a.eval x = .string s) (h63 : n + s.size ≤ maxLen) (hbytes : n + s.size ≤ 140737488355328)
    (h : ∀ v' w', w'.ownsRow 0 e 1 v' (n + s.size) (xs ++ Lib.strCells s) → w.grownBy w' v.ownBlock → ((∀ g, v'.ownBlock = some g → w.heap.size ≤ g) ∨ v'.ownBlock = v.ownBlock) → wpList P ops Q rest (a.put o.dst v') w') : wpList P ops Q (o :: rest) a w := by
  refine wpList_plain hgd fun K hK => ?_
  obtain ⟨v', w', hr, h2, h3, _⟩ := Lib.run_append_own_string (P := P) w 0 t u o.type e i ht hu hi hz hsize hby v n xs hown s h63 hbytes (Nat.zero_le _)
  have hw := append_str_where (P := P) t u o.type e i ht hu hi hz hsize hby v n xs hown s h63 hbytes hr
  unfold Oper.wp execOp
  simp only [ho, resolve, invoke, builtin, Sem.run_bind, Sem.run_pure, Result.andThen_ok, List.map_toArray, List.map_cons, List.map_nil, hs, hx, hr]
  exact hK _ _ (h v' w' h2 h3 hw)
end
def BldAt (b : Nat) (v : Value) (w : World) : Prop := ∃ p, (p = .pointer none ∨ p = .pointer (some ⟨b, 0, none⟩)) ∧ w.heap[b]? = some (.cells #[p, v] 90 (0, 0))
theorem copyCheck_bld (b : Nat) (v : Value) (w : World) (h : BldAt b v w) : Calls Tryz.prog 81 #[.pointer (some ⟨b, 0, none⟩)] w fun e w' => e = .returned (.tuple #[]) ∧
    w'.heap[b]? = some (.cells #[.pointer (some ⟨b, 0, none⟩), v] 90 (0, 0)) ∧ w'.heap.size = w.heap.size ∧ w'.os = w.os ∧ w'.tape = w.tape ∧ w'.output = w.output ∧ ∀ k, k ≠ b → w'.heap[k]? = w.heap[k]? := by
  obtain ⟨p, hp, hb⟩ := h
  rcases hp with rfl | rfl
  · refine (copyCheck_fresh b w (by rw [Lib.cell_of_heap hb]; rfl) (by simp [World.shape?, hb]) (Lib.frozen_of_heap hb 0)).mono ?_
    rintro e w' ⟨rfl, rfl⟩
    exact ⟨rfl, by simp [World.setCell, Array.getElem?_modify, hb], by simp [World.setCell], rfl, rfl, rfl, fun k hk => Below.heap_setCell w ⟨b, 0, none⟩ _ k hk⟩
  · refine (copyCheck_used b w (by rw [Lib.cell_of_heap hb]; rfl)).mono ?_
    rintro e w' ⟨rfl, rfl⟩
    exact ⟨rfl, hb, rfl, rfl, rfl, rfl, fun _ _ => rfl⟩
set_option maxHeartbeats 2000000 in
set_option maxRecDepth 100000 in
theorem writeStr (b : Nat) (v : Value) (bs : List Value) (s : ByteArray) (w : World) (h : BldAt b v w) (hown : w.ownsRow 0 5 1 v bs.length bs) (hne : v.ownBlock ≠ some b) (hlen : bs.length + s.size ≤ 140737488355328) :
    Calls Tryz.prog 54 #[.pointer (some ⟨b, 0, none⟩), .string s] w fun e w' => e = .returned (.tuple #[.int .i64 s.size, .nilIface]) ∧
      ∃ v', w'.heap[b]? = some (.cells #[.pointer (some ⟨b, 0, none⟩), v'] 90 (0, 0)) ∧ w'.ownsRow 0 5 1 v' (bs.length + s.size) (bs ++ Lib.strCells s) ∧ v'.ownBlock ≠ some b ∧
        ((∀ g, v'.ownBlock = some g → w.heap.size ≤ g) ∨ v'.ownBlock = v.ownBlock) ∧ BelM (fun k => w.heap.size ≤ k ∨ k = b ∨ v.ownBlock = some k) w w' := by
  obtain ⟨i0, hi, hz0, hz1, hz2⟩ := info_parts byte_info
  have hltb : b < w.heap.size := by obtain ⟨p, _, hb⟩ := h; exact (Array.getElem?_eq_some_iff.1 hb).1
  go_enter Tryz.func54, Tryz.ntmps54
  go_wp2_with (go_at_call 81; refine (copyCheck_bld b v _ h).mono ?_)
  rintro e w1 ⟨rfl, hbk, hsz, hos, htp, hou, ho1⟩
  have HO1 := Lib.hid ho1
  have HS := Lib.hid hsz
  have HX := Lib.hid (And.intro hos (And.intro htp hou))
  clear ho1 hsz hos htp hou
  have hown1 : w1.ownsRow 0 5 1 v bs.length bs := by
    refine ⟨hown.1, ?_⟩
    rcases hown.2 with h0 | ⟨g, cap, cur, h1, h2, h3, h4⟩
    · exact .inl h0
    · exact .inr ⟨g, cap, cur, h1, h2, (HO1.out g (fun e => hne (by rw [h1, e]; rfl))).trans h3, h4⟩
  have c0 : w1.cell? ⟨b, 0, none⟩ = some (.pointer (some ⟨b, 0, none⟩)) := by rw [Lib.cell_of_heap hbk]; rfl
  have c1 : w1.cell? ⟨b, 1, none⟩ = some v := by rw [Lib.cell_of_heap hbk]; rfl
  go_wp2_with (at_builtin; refine wpList_append_str2 rfl _ _ 88 9 rfl 5 i0 Tryz.underlying88 Tryz.underlying9 hi hz0 hz1 hz2 _ _ _ rfl hown1 s rfl ?c3 ?c4 ?_)
  case c3 => unfold maxLen; omega
  case c4 => omega
  intro v' w2 hown' hgrow hwh
  have hlt : b < w1.heap.size := by rw [HS.out]; exact hltb
  have hb2 : w2.heap[b]? = some (.cells #[.pointer (some ⟨b, 0, none⟩), v] 90 (0, 0)) := by
    rw [hgrow.block b hlt (fun e => hne e.symm)]
    exact hbk
  have d0 : w2.cell? ⟨b, 0, none⟩ = some (.pointer (some ⟨b, 0, none⟩)) := by rw [Lib.cell_of_heap hb2]; rfl
  have d1 : w2.cell? ⟨b, 1, none⟩ = some v := by rw [Lib.cell_of_heap hb2]; rfl
  have f1 : w2.frozen? ⟨b, 1, none⟩ = false := Lib.frozen_of_heap hb2 1
  have hne' : v'.ownBlock ≠ some b := by
    intro e
    rcases hwh with h1 | h1
    · have := h1 b e; omega
    · exact hne (h1 ▸ e)
  have HW := Lib.hid hwh
  have HN := Lib.hid hne'
  have HG := Lib.hid hgrow
  clear hwh hne'
  obtain ⟨ao, n', cap, rfl⟩ : ∃ ao n' cap, v' = .slice ao n' cap := by
    rcases hown'.2 with ⟨hv, _⟩ | ⟨g, cap, cur, hv, _⟩
    · exact ⟨_, _, _, hv⟩
    · exact ⟨_, _, _, hv⟩
  go_wp2
  go_ret2
  refine ⟨rfl, .slice ao n' cap, ?_, ?_, HN.out, ?_, ?_⟩
  · simp [World.setCell, Array.getElem?_modify, hb2]
  · refine ⟨hown'.1, ?_⟩
    rcases hown'.2 with h0 | ⟨g, cap', cur, h1, h2, h3, h4⟩
    · exact .inl h0
    · exact .inr ⟨g, cap', cur, h1, h2, (Below.heap_setCell _ _ _ _ (fun e => HN.out (by rw [h1, e]; rfl))).trans h3, h4⟩
  · rw [HS.out] at HW; exact HW.out
  · have hX := HX.out
    refine ⟨HG.out.os.trans hX.1, HG.out.tape.trans hX.2.1, HG.out.output.trans hX.2.2, ?_, fun k hk hm => ?_⟩
    · have := HG.out.size; rw [HS.out] at this; simpa [World.setCell] using this
    · have hkb : k ≠ b := fun e => hm (.inr (.inl e))
      rw [Below.heap_setCell _ _ _ _ hkb, HG.out.block k (by rw [HS.out]; exact hk) (fun e => hm (.inr (.inr e.symm))), HO1.out k hkb]
end Go.Proofs.YtedhognhhcihpaaGreatDoor
namespace Go.Proofs.YtedhognhhcihpaaGreatDoor
open Go.RowKit
set_option maxRecDepth 100000
def toI (l : List UInt8) : List Int := l.map fun b => (b.toNat : Int)
theorem toI_length (l : List UInt8) : (toI l).length = l.length := by simp [toI]
theorem bytesOf_toI (l : List UInt8) : bytesOf (toI l) = l := by
  induction l with
  | nil => rfl
  | cons a t ih => simp only [bytesOf, toI, List.map_cons] at ih ⊢; rw [ih]; simp
theorem strCells_rep {w : World} {C : Cx} (s : List UInt8) : RepL C w (Lib.strCells ⟨s.toArray⟩) (((toI s).map (D.int .u8)).flatMap D.cells) := by
  rw [flatU8]
  have e : Lib.strCells ⟨s.toArray⟩ = s.map fun b => Value.int .u8 b.toNat := by simp [Lib.strCells]
  rw [e]
  refine ⟨by simp [toI], fun v hv => ?_, fun i v d hv hd => ?_⟩
  · obtain ⟨b, _, rfl⟩ := List.mem_map.1 hv; rfl
  · simp only [toI, List.getElem?_map] at hv hd
    cases hs : s[i]? with
    | none => rw [hs] at hv; simp at hv
    | some b =>
      rw [hs] at hv hd
      simp at hv hd
      subst hv hd
      exact .int _ _ (by have := b.toNat_lt; unfold inR; simp only [kLo, kHi]; omega)
theorem flatU8_len (l : List Int) : ∀ x ∈ l.map (D.int .u8), x.cells.length = 1 := by
  intro x hx; obtain ⟨n, _, rfl⟩ := List.mem_map.1 hx; rfl
theorem sp_cases {w : World} {C : Cx} {v : Value} {id : Nat} (h : Rep w C v (.sp id)) {g : Nat} (hs : C.σ id = .pointer (some ⟨g, 0, none⟩)) : v = .pointer none ∨ v = .pointer (some ⟨g, 0, none⟩) := by
  cases h with
  | sp0 _ _ => exact .inl rfl
  | sp1 _ g' _ h' => rw [hs] at h'; injection h' with h'; injection h' with h'; injection h' with h'; subst h'; exact .inr rfl
theorem bld_block {w : World} {C : Cx} {id g : Nat} {d : D} (hs : C.σ id = .pointer (some ⟨g, 0, none⟩)) (h : BRep C w 0 id (.bbox 90 [.sp id, d])) : ∃ v, BldAt g v w ∧ Rep w C v d ∧ ∀ o, ¬ C.F g o := by
  obtain ⟨g', vs, q1, q2, q3, q4, q5⟩ := h
  rw [hs] at q1; injection q1 with q1; injection q1 with q1; injection q1 with q1
  subst q1
  have hl := q4.len
  obtain ⟨p, v, hvs⟩ : ∃ p v, vs = #[p, v] := by
    obtain ⟨l⟩ := vs
    match l, hl with
    | [p, v], _ => exact ⟨p, v, rfl⟩
  subst hvs
  exact ⟨v, ⟨p, sp_cases (q4.rep 0 p _ rfl rfl) hs, q3⟩, q4.rep 1 v _ rfl rfl, q5⟩
theorem wrote (I : World → Prop) (id nid : Nat) (s : List UInt8) (l : List Int) (H : Nat → Option Blk) (d : D) (eff : Eff) (hid : H id = some (.bbox 90 [.sp id, d])) (hlen : l.length + s.length ≤ 140737488355328) (hne : nid ≠ id)
    (hd : (d = .nils ∧ l = [] ∧ eff = [(nid, some (.vec 5 1 ((l ++ toI s).map (D.int .u8)) false)), (id, some (.bbox 90 [.sp id, .own nid (l.length + s.length)]))]) ∨
      ∃ id2, d = .own id2 l.length ∧ H id2 = some (.vec 5 1 (l.map (D.int .u8)) false) ∧ id2 ≠ id ∧ eff = [(id2, none), (nid, some (.vec 5 1 ((l ++ toI s).map (D.int .u8)) false)), (id, some (.bbox 90 [.sp id, .own nid (l.length + s.length)]))]) :
    CallOK Tryz.prog I 54 [.ptr id 0, .str s] H nid (.tup [.int .i64 s.length, .err false]) eff := by
  refine ⟨by kernel_rfl, fun i0 w C B args hI hb0 hM hH hF hbase hn hal hrep => ?_⟩
  obtain ⟨a0, a1, rfl⟩ : ∃ a0 a1, args = [a0, a1] := by
    match args, hal with
    | [a, b], _ => exact ⟨a, b, rfl⟩
  have r0 := hrep 0 a0 _ rfl rfl
  have r1 := hrep 1 a1 _ rfl rfl
  clear hrep
  obtain ⟨rfl, hsl⟩ := rep_str1 r1
  cases r0 with
  | ptr _ _ g hlid hσ =>
  obtain ⟨k0, k1⟩ := hH.rep id _ hid
  obtain ⟨v, hB, hv, hnoF⟩ := bld_block hσ k1
  have hgM : B.M g := hH.own id _ hid g (by rw [hσ]; rfl)
  have hglt : g < w.heap.size := by obtain ⟨p, _, hb⟩ := hB; exact (Array.getElem?_eq_some_iff.1 hb).1
  -- the row
  obtain ⟨vals, hown, hvals, hvne, hvM, hvF⟩ : ∃ vals, w.ownsRow 0 5 1 v vals.length vals ∧ vals.length = l.length ∧ v.ownBlock ≠ some g ∧ (∀ k, v.ownBlock = some k → B.M k) ∧ (∀ k o, v.ownBlock = some k → ¬ C.F k o) := by
    rcases hd with ⟨rfl, rfl, _⟩ | ⟨id2, rfl, h2, h3, _⟩
    · cases hv
      exact ⟨[], World.ownsRow_nil _ _ _ _, rfl, by simp [Value.ownBlock], by simp [Value.ownBlock], by simp [Value.ownBlock]⟩
    · cases hv with
      | own _ _ c A hl2 hm2 hσ2 =>
        obtain ⟨_, vals, q1, q2, q3, q4⟩ := hH.rep id2 _ h2
        rw [hσ2] at q1
        have hvl : vals.length = l.length := by have := q1.1; simpa using this
        refine ⟨vals, by rw [hvl]; simpa using q1, hvl, fun e => ?_, fun k hk => hH.own id2 _ h2 k (by rw [hσ2, blockOf_own]; exact hk), fun k o hk hF' => ?_⟩
        · exact hH.apart id2 id _ _ h2 hid h3 g (by rw [hσ2, blockOf_own]; exact e) (by rw [hσ]; rfl)
        · have := ((q4 k (by rw [hσ2]; exact hk)).1 o hF').1; cases this
  have hssz : (⟨s.toArray⟩ : ByteArray).size = s.length := bsize s
  refine (writeStr g v vals ⟨s.toArray⟩ w hB hown hvne (by rw [hvals, hssz]; exact hlen)).mono ?_
  rintro e w' ⟨rfl, v', e1, e2, e3, e4, e5⟩
  rw [hssz, hvals] at e2
  have hbel : BelM B.M w w' := ⟨e5.os, e5.tape, e5.output, e5.size, fun k hk hm => e5.block k hk (by
    rintro (h | h | h)
    · omega
    · exact hm (h ▸ hgM)
    · exact hm (hvM k h))⟩
  -- outside the two blocks nothing has changed
  have hout : ∀ k, k < w.heap.size → k ≠ g → v.ownBlock ≠ some k → w'.heap[k]? = w.heap[k]? := fun k hk h1 h2 => e5.block k hk (by rintro (h | h | h); omega; exact h1 h; exact h2 h)
  have hFk : ∀ b o, C.F b o → w'.heap[b]? = w.heap[b]? := fun b o hb => hout b (hF b o hb) (fun e => hnoF o (e ▸ hb)) (fun e => hvF b o e hb)
  have ee := Cx.new_ext (C := C) (w := w) (w' := w') hn v' hFk
  have hs2 : (C.new nid v').σ nid = v' := by simp [Cx.new, upd]
  have hσ' : (C.new nid v').σ id = .pointer (some ⟨g, 0, none⟩) := by rw [ee.σ id hlid]; exact hσ
  obtain ⟨A', c', rfl⟩ : ∃ A' c', v' = .slice A' (l.length + s.length) c' := by
    rcases e2.2 with ⟨h1, h2⟩ | ⟨g', cap, cur, h1, _⟩
    · exact ⟨none, 0, by rw [h1, h2]⟩
    · exact ⟨_, _, h1⟩
  have hlm : l.length + s.length ≤ maxLen := by unfold maxLen; omega
  have hnewF : ∀ k, (Value.slice A' (l.length + s.length) c').ownBlock = some k → ∀ o, ¬ C.F k o := by
    intro k hk o hb
    rcases e4 with h | h
    · have := h k hk; have := hF k o hb; omega
    · exact hvF k o (h ▸ hk) hb
  -- the row's new block stands for the new list
  have hvec : ∀ (q3 : RepL (cF C.F) w vals ((l.map (D.int .u8)).flatMap D.cells)), BRep (C.new nid (.slice A' (l.length + s.length) c')) w' 0 nid (.vec 5 1 ((l ++ toI s).map (D.int .u8)) false) := by
    intro q3
    refine ⟨vals ++ Lib.strCells ⟨s.toArray⟩, ?_, flatU8_len _, ?_, ?_⟩
    · rw [hs2]; simpa [toI_length] using e2
    · rw [List.map_append, List.flatMap_append]
      exact (q3.ext ee.cF).append (strCells_rep s)
    · intro k hk
      rw [hs2] at hk
      exact ⟨fun o ho => absurd ho (hnewF k hk o), fun h => by cases h⟩
  have hbox : BRep (C.new nid (.slice A' (l.length + s.length) c')) w' 0 id (.bbox 90 [.sp id, .own nid (l.length + s.length)]) := by
    refine ⟨g, #[.pointer (some ⟨g, 0, none⟩), .slice A' (l.length + s.length) c'], hσ', Nat.zero_le _, e1, ?_, hnoF⟩
    have x1 : Rep w' (C.new nid (.slice A' (l.length + s.length) c')) (.pointer (some ⟨g, 0, none⟩)) (.sp id) := .sp1 id g (Or.inl hlid) hσ'
    have x2 : Rep w' (C.new nid (.slice A' (l.length + s.length) c')) (.slice A' (l.length + s.length) c') (.own nid (l.length + s.length)) := .own nid _ c' A' (Or.inr rfl) hlm hs2
    exact (RepL.one1 rfl x1).append (RepL.one1 rfl x2)
  -- everything else is as it was
  have hrest : ∀ j bj, j ≠ id → (∀ k, blockOf (C.σ j) = some k → v.ownBlock ≠ some k) → H j = some bj → (C.new nid (.slice A' (l.length + s.length) c')).live j ∧ BRep (C.new nid (.slice A' (l.length + s.length) c')) w' 0 j bj := by
    intro j bj hj hv hb
    obtain ⟨h1, h2⟩ := hH.rep j bj hb
    exact ⟨.inl h1, h2.keep h1 ee (fun k hk => hout k (h2.lt k hk).2 (fun e => hH.apart j id _ _ hb hid hj k hk (by rw [hσ, e]; rfl)) (hv k hk)) (fun k o _ h => h)⟩
  have hrepr : Rep w' (C.new nid (.slice A' (l.length + s.length) c')) (.tuple #[.int .i64 ((⟨s.toArray⟩ : ByteArray).size : Int), .nilIface]) (.tup [.int .i64 s.length, .err false]) := by
    rw [hssz]
    refine .tup [.int .i64 s.length, .nilIface] _ rfl ?_
    intro i v d hv hd
    match i with
    | 0 => simp at hv hd; subst hv hd; exact .int _ _ (by unfold inR; simp only [kLo, kHi]; omega)
    | 1 => simp at hv hd; subst hv hd; exact .err0
    | i + 2 => simp at hv
  have hdead : ∀ b, H nid ≠ some b := fun b hb => hn (hH.rep nid b hb).1
  have hfin : ∀ H', (∀ j, j ≠ id → j ≠ nid → ∀ b, H' j = some b → H j = some b ∧ ∀ k, blockOf (C.σ j) = some k → v.ownBlock ≠ some k) → H' nid = some (.vec 5 1 ((l ++ toI s).map (D.int .u8)) false) → H' id = some (.bbox 90 [.sp id, .own nid (l.length + s.length)]) →
      RepL (cF C.F) w vals ((l.map (D.int .u8)).flatMap D.cells) → HOK (C.new nid (.slice A' (l.length + s.length) c')) w' B H' := by
    intro H' hold hnew hnb q3
    have bσ : ∀ j b, j ≠ id → j ≠ nid → H' j = some b → (C.new nid (.slice A' (l.length + s.length) c')).σ j = C.σ j := fun j b h1 h2 h3 => ee.σ j (hH.rep j b (hold j h1 h2 b h3).1).1
    have bnid : ∀ k, blockOf (Value.slice A' (l.length + s.length) c') = some k → w.heap.size ≤ k ∨ v.ownBlock = some k := by
      intro k hk
      rw [blockOf_own] at hk
      rcases e4 with h | h
      · exact .inl (h k hk)
      · exact .inr (h ▸ hk)
    have apn : ∀ j b, j ≠ id → j ≠ nid → H' j = some b → ∀ k, blockOf (C.σ j) = some k → blockOf (Value.slice A' (l.length + s.length) c') ≠ some k := by
      intro j b h1 h2 h3 k hk hk2
      obtain ⟨h4, h5⟩ := hold j h1 h2 b h3
      rcases bnid k hk2 with h | h
      · have := ((hH.rep j b h4).2.lt k hk).2; omega
      · exact h5 k hk h
    have apb : ∀ j b, j ≠ id → j ≠ nid → H' j = some b → ∀ k, blockOf (C.σ j) = some k → k ≠ g := by
      intro j b h1 h2 h3 k hk e
      exact hH.apart j id b _ (hold j h1 h2 b h3).1 hid h1 k hk (by rw [hσ, e]; rfl)
    have apnb : ∀ k, blockOf (Value.slice A' (l.length + s.length) c') = some k → k ≠ g := by
      intro k hk e
      rcases bnid k hk with h | h
      · omega
      · exact hvne (e ▸ h)
    refine ⟨fun j b hj => ?_, fun j b hj k hk => ?_, fun j k cs hj => ?_, fun j j' b b' hj hj' hjj k hk hk' => ?_⟩
    · by_cases h1 : j = id
      · subst h1; rw [hnb] at hj; injection hj with hj; subst hj; exact ⟨.inl hlid, hbox⟩
      · by_cases h2 : j = nid
        · subst h2; rw [hnew] at hj; injection hj with hj; subst hj; exact ⟨.inr rfl, hvec q3⟩
        · obtain ⟨h3, h4⟩ := hold j h1 h2 b hj
          exact hrest j b h1 h4 h3
    · by_cases h1 : j = id
      · subst h1; rw [hσ'] at hk; simp [blockOf] at hk; subst hk; exact hgM
      · by_cases h2 : j = nid
        · subst h2
          rw [hs2] at hk
          rcases bnid k hk with h | h
          · exact hbase k h
          · exact hvM k h
        · rw [bσ j b h1 h2 hj] at hk
          exact hH.own j b (hold j h1 h2 b hj).1 k hk
    · by_cases h1 : j = id
      · subst h1; rw [hnb] at hj; cases hj
      · by_cases h2 : j = nid
        · subst h2; rw [hnew] at hj; cases hj
        · rw [bσ j _ h1 h2 hj]; exact hH.pin j k cs (hold j h1 h2 _ hj).1
    · by_cases h1 : j = id
      · subst h1
        rw [hσ'] at hk; simp [blockOf] at hk; subst hk
        by_cases h2 : j' = nid
        · subst h2; rw [hs2] at hk'; exact apnb _ hk' rfl
        · rw [bσ j' b' (fun e => hjj e.symm) h2 hj'] at hk'
          exact apb j' b' (fun e => hjj e.symm) h2 hj' _ hk' rfl
      · by_cases h2 : j = nid
        · subst h2
          rw [hs2] at hk
          by_cases h3 : j' = id
          · subst h3; rw [hσ'] at hk'; simp [blockOf] at hk'; subst hk'; exact apnb _ hk rfl
          · rw [bσ j' b' h3 (fun e => hjj e.symm) hj'] at hk'
            exact apn j' b' h3 (fun e => hjj e.symm) hj' k hk' hk
        · rw [bσ j b h1 h2 hj] at hk
          by_cases h3 : j' = id
          · subst h3; rw [hσ'] at hk'; simp [blockOf] at hk'; subst hk'; exact apb j b h1 h2 hj _ hk rfl
          · by_cases h4 : j' = nid
            · subst h4; rw [hs2] at hk'; exact apn j b h1 h2 hj k hk hk'
            · rw [bσ j' b' h3 h4 hj'] at hk'
              exact hH.apart j j' b b' (hold j h1 h2 b hj).1 (hold j' h3 h4 b' hj').1 hjj k hk hk'
  refine ⟨_, C.new nid (.slice A' (l.length + s.length) c'), rfl, hbel, ee, hrepr, ?_, fun b o h => Nat.lt_of_lt_of_le (hF b o h) e5.size, fun _ h => h, fun _ _ h => .inl h⟩
  rcases hd with ⟨rfl, rfl, rfl⟩ | ⟨id2, rfl, h2, h3, rfl⟩
  · cases hv
    have hvn : vals = [] := List.eq_nil_of_length_eq_zero hvals
    refine hfin _ (fun j h1 h2 b hb => ?_) (by simp [appEff, upd, hne]) (by simp [appEff, upd]) (by rw [hvn]; exact RepL.nil)
    simp [appEff, upd, h1, h2] at hb
    exact ⟨hb, by simp [Value.ownBlock]⟩
  · cases hv with
    | own _ _ c A hl2 hm2 hσ2 =>
      obtain ⟨_, vals2, q1, q2, q3, q4⟩ := hH.rep id2 _ h2
      rw [hσ2] at q1
      have hn2 : nid ≠ id2 := fun e => hdead _ (e ▸ h2)
      have hvv : vals2 = vals := by
        rcases q1.2 with ⟨r1, r2⟩ | ⟨g1, cap1, cur1, r1, r2, r3, r4, r5, r6, r7⟩
        · have r2' : l.length = 0 := by simpa using r2
          rw [List.eq_nil_of_length_eq_zero (l := vals) (by omega), List.eq_nil_of_length_eq_zero (l := vals2) (by have := q1.1; simp at this; omega)]
        · rcases hown.2 with ⟨t1, t2⟩ | ⟨g2, cap2, cur2, t1, t2, t3, t4, t5, t6, t7⟩
          · rw [t1] at r1; cases r1
          · rw [r1] at t1; injection t1 with t1 _ _; injection t1 with t1; injection t1 with t1
            subst t1
            rw [r3] at t3; injection t3 with t3; injection t3 with t3
            subst t3
            rw [← r7, ← t7]; simp [hvals]
      refine hfin _ (fun j h1 h2' b hb => ?_) (by simp [appEff, upd, hne]) (by simp [appEff, upd]) (by rw [← hvv]; exact q3)
      by_cases hj2 : j = id2
      · subst hj2; simp [appEff, upd, h1, h2'] at hb
      · simp [appEff, upd, h1, h2', hj2] at hb
        exact ⟨hb, fun k hk hk2 => hH.apart j id2 _ _ hb h2 hj2 k hk (by rw [hσ2, blockOf_own]; exact hk2)⟩
theorem c_WriteString1 (I : World → Prop) {id nid id2 n : Nat} {s : List UInt8} {l : List Int} {H : Nat → Option Blk} (hid : H id = some (.bbox 90 [.sp id, .own id2 n])) (h2 : H id2 = some (.vec 5 1 (l.map (D.int .u8)) false)) (hn : n = l.length) (hlen : l.length + s.length ≤ 140737488355328) (hne : nid ≠ id) :
    CallOK Tryz.prog I 54 [.ptr id 0, .str s] H nid (.tup [.int .i64 s.length, .err false]) [(id2, none), (nid, some (.vec 5 1 ((l ++ toI s).map (D.int .u8)) false)), (id, some (.bbox 90 [.sp id, .own nid (l ++ toI s).length]))] := by
  subst hn
  exact wrote I id nid s l H _ _ hid hlen hne (.inr ⟨id2, rfl, h2, fun e => (by rw [e, hid] at h2; cases h2), by simp [toI_length]⟩)
set_option maxHeartbeats 2000000 in
theorem bldString_row (b g cap : Nat) (p : Value) (cur : Array Value) (l : List UInt8) (w : World) (h0 : l ≠ []) (hbk : w.heap[b]? = some (.cells #[p, .slice (some ⟨g, 0, none⟩) l.length cap] 90 (0, 0)))
    (hown : w.ownsRow 0 5 1 (.slice (some ⟨g, 0, none⟩) l.length cap) l.length (Lib.byteCells l)) :
    Calls Tryz.prog 56 #[.pointer (some ⟨b, 0, none⟩)] w fun e w' => e = .returned (.string ⟨l.toArray⟩) ∧ BelM (fun k => w.heap.size ≤ k ∨ k = g) w w' := by
  have hl0 : l.length ≠ 0 := by simpa using h0
  obtain ⟨cur, hg, hnc, hcm, hcs⟩ : ∃ cur, w.heap[g]? = some (.cells cur 5 (0, 0)) ∧ l.length ≤ cap ∧ cap ≤ maxLen ∧ cur.size = cap * 1 := by
    rcases hown.2 with ⟨_, hz⟩ | ⟨g', cap', cur, hv, _, h1, h2, h3, h4, _⟩
    · exact absurd hz hl0
    · injection hv with hv1 _ hv2; injection hv1 with hv1; injection hv1 with hv1
      subst hv1 hv2; exact ⟨cur, h1, h2, h3, h4⟩
  have c1 : w.drew.cell? ⟨b, 1, none⟩ = some (.slice (some ⟨g, 0, none⟩) l.length cap) := by
    have : w.drew.heap[b]? = some (.cells #[p, .slice (some ⟨g, 0, none⟩) l.length cap] 90 (0, 0)) := hbk
    rw [Lib.cell_of_heap this]; rfl
  have hSD : (Builtin.unsafeSliceData_ #[88] 124 #[.slice (some ⟨g, 0, none⟩) l.length cap]).run Tryz.prog w.drew = .ok (.pointer (some ⟨g, 0, none⟩)) w.drew :=
    Lib.run_unsafeSliceData_row _ _ _ _ _ _ (by omega)
  have hUS : (Builtin.unsafeString_ #[124, 3] 9 #[.pointer (some ⟨g, 0, none⟩), .int .i64 l.length]).run Tryz.prog w.drew = .ok (.string ⟨l.toArray⟩) (w.drew.freeze ⟨g, 0, none⟩ l.length) := by
    refine Lib.run_unsafeString_row w.drew 124 3 9 5 Tryz.underlying124 (by kernel_rfl) g cur.size (by have hg' : w.drew.heap[g]? = some (.cells cur 5 (0, 0)) := hg; simp [World.shape?, hg']) l h0 (by omega) (by unfold maxLen at hcm; omega) ?_
    intro j x hx
    exact hown.cells (g := g) rfl j (.int .u8 x.toNat) (by simp [Lib.byteCells, hx])
  have mixed : Tryz.prog.follows .mixedOrders = true := by kernel_rfl
  have hbf := Lib.below_freeze (Below.drew (Below.refl g w)) (p := ⟨g, 0, none⟩) (Nat.le_refl _) l.length
  have hoth : ∀ k, k ≠ g → (w.drew.freeze ⟨g, 0, none⟩ l.length).heap[k]? = w.heap[k]? := by
    intro k hk
    simp only [World.freeze, hl0, if_false]
    rw [Array.getElem?_modify]
    simp only [Ne.symm hk, if_false]
    rfl
  have HB := Lib.hid (And.intro hbf hoth)
  clear hbf hoth
  go_enter Tryz.func56, Tryz.ntmps56
  go_wp2
  go_region_o
  all_goals (go_wp2; go_ret; exact ⟨rfl, HB.out.1.os, HB.out.1.tape, HB.out.1.output, HB.out.1.size, fun k _ hm => HB.out.2 k (fun e => hm (.inr e))⟩)
theorem callString {P : Program} {C : Cx} {w w' : World} {B : Bx} {H : Nat → Option Blk} {nid : Nat} {l : List UInt8} (hH : HOK C w B H) (hF : FB C w) (hb : Below w.heap.size w w') (hl : l.length ≤ maxLen) :
    ∃ v C', Ending.returned (.string ⟨l.toArray⟩) = .returned v ∧ BelM B.M w w' ∧ Ext C w C' w' ∧ Rep w' C' v (.str l) ∧ HOK C' w' B (appEff H []) ∧ FB C' w' ∧ (∀ id, C'.live id → C.live id ∨ id = nid) ∧ ∀ b o, C'.F b o → C.F b o ∨ B.M b := by
  have ee : Ext C w C w' := ⟨fun _ _ h => h, fun b o h => hb.block b (hF b o h), fun _ h => h, fun _ _ => rfl⟩
  refine ⟨_, C, rfl, BelM.of hb, ee, .str l hl, ⟨fun id b h => ?_, hH.own, hH.pin, hH.apart⟩, fun b o h => Nat.lt_of_lt_of_le (hF b o h) hb.size, fun _ h => .inl h, fun _ _ h => .inl h⟩
  obtain ⟨k1, k2⟩ := hH.rep id b h
  exact ⟨k1, k2.keep k1 ee (fun g hg => hb.block g (k2.lt g hg).2) (fun _ _ _ h => h)⟩
theorem byteCells_toI {w : World} {C : Cx} {vals : List Value} {l : List Int} (h : RepL C w vals ((l.map (D.int .u8)).flatMap D.cells)) : vals = Lib.byteCells (bytesOf l) := by
  rw [flatU8] at h
  have e := repU8 h
  rw [e]
  simp only [Lib.byteCells, bytesOf, List.map_map]
  apply List.map_congr_left
  intro n hn
  obtain ⟨i, hi⟩ := List.getElem?_of_mem hn
  have hv : vals[i]? = some (.int .u8 n) := by rw [e]; simp [hi]
  have := h.rep i _ (.int .u8 n) hv (by simp [hi])
  cases this with
  | int _ _ hr =>
    unfold inR at hr; simp only [kLo, kHi] at hr
    simp only [Function.comp, UInt8.toNat_ofNat']
    congr 1; omega
theorem c_String1 (I : World → Prop) {id nid id2 n : Nat} {l : List Int} {H : Nat → Option Blk} (hid : H id = some (.bbox 90 [.sp id, .own id2 n])) (h2 : H id2 = some (.vec 5 1 (l.map (D.int .u8)) false)) (hn : n = l.length) :
    CallOK Tryz.prog I 56 [.ptr id 0] H nid (.str (bytesOf l)) [(id2, none), (id, none)] := by
  subst hn
  refine ⟨by kernel_rfl, fun i0 w C B args hI hb0 hM hH hF hbase hn hal hrep => ?_⟩
  obtain ⟨a0, rfl⟩ : ∃ a0, args = [a0] := by
    match args, hal with
    | [a], _ => exact ⟨a, rfl⟩
  have r0 := hrep 0 a0 _ rfl rfl
  cases r0 with
  | ptr _ _ g hlid hσ =>
  obtain ⟨k0, k1⟩ := hH.rep id _ hid
  obtain ⟨v, ⟨p, hp, hB⟩, hv, hnoF⟩ := bld_block hσ k1
  have hdrop : HOK C w B (appEff H [(id2, none), (id, none)]) := (hH.drop id2).drop id
  have plain : ∀ w', Below w.heap.size w w' → bytesOf l = [] → ∃ v C', Ending.returned (.string ⟨#[]⟩) = .returned v ∧ BelM B.M w w' ∧ Ext C w C' w' ∧ Rep w' C' v (.str (bytesOf l)) ∧ HOK C' w' B (appEff H [(id2, none), (id, none)]) ∧ FB C' w' ∧ (∀ id, C'.live id → C.live id ∨ id = nid) ∧ ∀ b o, C'.F b o → C.F b o ∨ B.M b := by
    intro w' hb he
    rw [he]
    obtain ⟨v, C', x⟩ := callString (P := Tryz.prog) (l := []) (nid := nid) hdrop hF hb (by simp)
    exact ⟨v, C', x⟩
  cases hv with
  | own _ _ c A hl2 hm2 hσ2 =>
    obtain ⟨_, vals, q1, q2, q3, q4⟩ := hH.rep id2 _ h2
    rw [hσ2] at q1
    have hvals := byteCells_toI q3
    have hbl : (bytesOf l).length = l.length := by simp [bytesOf]
    rcases q1.2 with ⟨r1, r2⟩ | ⟨g1, cap1, cur1, r1, r2, r3, r4, r5, r6, r7⟩
    · injection r1 with r1 _ r3
      subst r1 r3
      have hl0 : l.length = 0 := by simpa using r2
      rw [hl0] at hB
      refine (Any.Builder_String_nil Tryz.lays169 Tryz.Builder_Extra_169 w.heap.size g p w hB).mono ?_
      rintro e w' ⟨rfl, hb⟩
      exact plain w' hb (List.eq_nil_of_length_eq_zero (by omega))
    · injection r1 with r1 _ r8
      subst r1 r8
      by_cases hl0 : l.length = 0
      · rw [hl0] at hB
        by_cases hc0 : c = 0
        · subst hc0
          refine (Any.Builder_String_noroom Tryz.lays169 Tryz.Builder_Extra_169 w.heap.size g g1 p cur1 w (Nat.le_refl _) hB r3).mono ?_
          rintro e w' ⟨rfl, hb⟩
          exact plain w' hb (List.eq_nil_of_length_eq_zero (by omega))
        · refine (Any.Builder_String_room Tryz.lays169 Tryz.Builder_Extra_169 w.heap.size g g1 c p w hc0 hB).mono ?_
          rintro e w' ⟨rfl, hb⟩
          exact plain w' hb (List.eq_nil_of_length_eq_zero (by omega))
      · have hb1 : w.heap[g]? = some (.cells #[p, .slice (some ⟨g1, 0, none⟩) (bytesOf l).length c] 90 (0, 0)) := by rw [hbl]; exact hB
        have ho1 : w.ownsRow 0 5 1 (.slice (some ⟨g1, 0, none⟩) (bytesOf l).length c) (bytesOf l).length (Lib.byteCells (bytesOf l)) := by rw [hbl, ← hvals]; simpa using q1
        refine (bldString_row g g1 c p cur1 (bytesOf l) w (fun e => hl0 (by rw [← hbl, e]; rfl)) hb1 ho1).mono ?_
        rintro e w' ⟨rfl, hb⟩
        have hg1M : B.M g1 := hH.own id2 _ h2 g1 (by rw [hσ2]; rfl)
        have hnoF1 : ∀ o, ¬ C.F g1 o := fun o ho => by have := ((q4 g1 (by rw [hσ2]; rfl)).1 o ho).1; cases this
        have hsame : ∀ k, k < w.heap.size → k ≠ g1 → w'.heap[k]? = w.heap[k]? := fun k hk h1 => hb.block k hk (by rintro (h | h); omega; exact h1 h)
        have ee : Ext C w C w' := ⟨fun _ _ h => h, fun b o h => hsame b (hF b o h) (fun e => hnoF1 o (e ▸ h)), fun _ h => h, fun _ _ => rfl⟩
        have hbm : BelM B.M w w' := ⟨hb.os, hb.tape, hb.output, hb.size, fun k hk hm => hsame k hk (fun e => hm (e ▸ hg1M))⟩
        refine ⟨_, C, rfl, hbm, ee, .str _ (by rw [hbl]; exact hm2), ⟨fun j b h => ?_, hdrop.own, hdrop.pin, hdrop.apart⟩, fun b o h => Nat.lt_of_lt_of_le (hF b o h) hb.size, fun _ h => .inl h, fun _ _ h => .inl h⟩
        by_cases h3 : j = id
        · subst h3; simp [appEff, upd] at h
        · by_cases h4 : j = id2
          · subst h4; simp [appEff, upd, h3] at h
          · have h5 : H j = some b := by simpa [appEff, upd, h3, h4] using h
            obtain ⟨t1, t2⟩ := hH.rep j b h5
            exact ⟨t1, t2.keep t1 ee (fun k hk => hsame k (t2.lt k hk).2 (fun e => hH.apart j id2 _ _ h5 h2 h4 k hk (by rw [hσ2, e]; rfl))) (fun _ _ _ h => h)⟩
end Go.Proofs.YtedhognhhcihpaaGreatDoor
namespace Go.Proofs.YtedhognhhcihpaaGreatDoor
open Go.RowKit
set_option maxRecDepth 100000
section
variable {P : Program} {w : World}
theorem wpList_append_own3 {ops : Array Oper} {rest : List Oper} {o : Oper} {a : Act} {Q : Exit → Act → World → Prop} (hgd : o.guard = none) (s x : Operand) (t : TypeId)
    (ho : o.op = .call { callee := .builtin .append, args := #[s, x], argTypes := #[t, t] })
    (e : TypeId) (i : TypeInfo) (z : Value) (size bytes : Nat) (ht : P.underlying t = some (.slice e)) (hi : P.info? e = some i) (hz : i.zero = some z)
    (hsize : i.size = size) (hby : i.bytes = bytes) (hzs : z.cells.size = size)
    (v : Value) (n : Nat) (xs : List Value) (hs : a.eval s = v) (hown : w.ownsRow 0 e size v n xs)
    (ad : Addr) (m c : Nat) (news : List Value) (hx : a.eval x = .slice (some ad) m c) (hl : news.length = m * size) (hnews : ∀ (j : Nat) u, news[j]? = some u → w.cell? (ad.add j) = some u) (h1 : ∀ u ∈ news, u.oneCell' = true)
    (h63 : n + m ≤ maxLen) (hbytes : (n + m) * bytes ≤ 140737488355328)
    (h : ∀ v' w', w'.ownsRow 0 e size v' (n + m) (xs ++ news) → w.grownBy w' v.ownBlock → ((∀ g, v'.ownBlock = some g → w.heap.size ≤ g) ∨ v'.ownBlock = v.ownBlock) → wpList P ops Q rest (a.put o.dst v') w') : wpList P ops Q (o :: rest) a w := by
  refine wpList_plain hgd fun K hK => ?_
  obtain ⟨v', w', hr, h2, h3, h4⟩ := run_append_own2 (P := P) (w := w) t o.type e i z size bytes ht hi hz hsize hby hzs v n xs hown (some ad) m c news hl (.inl ⟨ad, rfl, hnews⟩) h1 h63 hbytes
  unfold Oper.wp execOp
  simp only [ho, resolve, invoke, builtin, Sem.run_bind, Sem.run_pure, Result.andThen_ok, List.map_toArray, List.map_cons, List.map_nil, hs, hx, hr]
  exact hK _ _ (h v' w' h2 h3 h4)
end
set_option maxHeartbeats 2000000 in
set_option maxRecDepth 100000 in
theorem writeByte (b : Nat) (v : Value) (bs : List Value) (ch : Int) (s : List UInt8) (hc : 0 ≤ ch ∧ ch ≤ 255) (hs0 : s = [UInt8.ofNat ch.toNat]) (w : World) (h : BldAt b v w) (hown : w.ownsRow 0 5 1 v bs.length bs) (hne : v.ownBlock ≠ some b) (hlen : bs.length + s.length ≤ 140737488355328) :
    Calls Tryz.prog 52 #[.pointer (some ⟨b, 0, none⟩), .int .u8 ch] w fun e w' => e = .returned .nilIface ∧
      ∃ v', w'.heap[b]? = some (.cells #[.pointer (some ⟨b, 0, none⟩), v'] 90 (0, 0)) ∧ w'.ownsRow 0 5 1 v' (bs.length + s.length) (bs ++ Lib.strCells ⟨s.toArray⟩) ∧ v'.ownBlock ≠ some b ∧
        ((∀ g, v'.ownBlock = some g → w.heap.size ≤ g) ∨ v'.ownBlock = v.ownBlock) ∧ BelM (fun k => w.heap.size ≤ k ∨ k = b ∨ v.ownBlock = some k) w w' := by
  obtain ⟨i0, hi, hz0, hz1, hz2⟩ := info_parts byte_info
  have hltb : b < w.heap.size := by obtain ⟨p, _, hb⟩ := h; exact (Array.getElem?_eq_some_iff.1 hb).1
  have hsc : Lib.strCells ⟨s.toArray⟩ = [.int .u8 ch] := by
    subst hs0
    simp [Lib.strCells]
    omega
  have hsl : s.length = 1 := by subst hs0; rfl
  rw [hsc]
  rw [hsl] at hlen ⊢
  go_enter Tryz.func52, Tryz.ntmps52
  go_wp2_with (go_at_call 81; refine (copyCheck_bld b v _ h).mono ?_)
  rintro e w1 ⟨rfl, hbk, hsz, hos, htp, hou, ho1⟩
  have HO1 := Lib.hid ho1
  have HS := Lib.hid hsz
  have HX := Lib.hid (And.intro hos (And.intro htp hou))
  clear ho1 hsz hos htp hou
  have hown1 : w1.ownsRow 0 5 1 v bs.length bs := by
    refine ⟨hown.1, ?_⟩
    rcases hown.2 with h0 | ⟨g, cap, cur, h1, h2, h3, h4⟩
    · exact .inl h0
    · exact .inr ⟨g, cap, cur, h1, h2, (HO1.out g (fun e => hne (by rw [h1, e]; rfl))).trans h3, h4⟩
  have c0 : w1.cell? ⟨b, 0, none⟩ = some (.pointer (some ⟨b, 0, none⟩)) := by rw [Lib.cell_of_heap hbk]; rfl
  have c1 : w1.cell? ⟨b, 1, none⟩ = some v := by rw [Lib.cell_of_heap hbk]; rfl
  go_wp2_with (at_builtin; refine wpList_append_own3 rfl _ _ 88 rfl 5 i0 (.int .u8 0) 1 1 Tryz.underlying88 hi hz0 hz1 hz2 rfl _ _ _ rfl (hown1.alloc _) ⟨w1.heap.size, 0, none⟩ 1 1 [.int .u8 ch] rfl rfl ?c1 ?c2 ?c3 ?c4 ?_)
  case c1 =>
    intro j u hj
    match j, hj with
    | 0, hj => simp at hj; subst hj; simp [Addr.add]
  case c2 => intro u hu; simp at hu; subst hu; rfl
  case c3 => unfold maxLen; omega
  case c4 => omega
  intro v' w2 hown' hgrow0 hwh0
  have hgrow : w1.grownBy w2 v.ownBlock := ⟨hgrow0.os, hgrow0.tape, hgrow0.output, Nat.le_trans (by simp) hgrow0.size, fun g hg hne => (hgrow0.block g (by first | (simp; omega) | exact Nat.lt_of_lt_of_le hg (by simp)) hne).trans (Below.heap_alloc w1 _ g hg)⟩
  have hwh : (∀ g, v'.ownBlock = some g → w1.heap.size ≤ g) ∨ v'.ownBlock = v.ownBlock := hwh0.imp (fun h g hg => Nat.le_trans (by simp) (h g hg)) id
  clear hgrow0 hwh0
  have hlt : b < w1.heap.size := by rw [HS.out]; exact hltb
  have hb2 : w2.heap[b]? = some (.cells #[.pointer (some ⟨b, 0, none⟩), v] 90 (0, 0)) := by
    rw [hgrow.block b hlt (fun e => hne e.symm)]
    exact hbk
  have d0 : w2.cell? ⟨b, 0, none⟩ = some (.pointer (some ⟨b, 0, none⟩)) := by rw [Lib.cell_of_heap hb2]; rfl
  have d1 : w2.cell? ⟨b, 1, none⟩ = some v := by rw [Lib.cell_of_heap hb2]; rfl
  have f1 : w2.frozen? ⟨b, 1, none⟩ = false := Lib.frozen_of_heap hb2 1
  have hne' : v'.ownBlock ≠ some b := by
    intro e
    rcases hwh with h1 | h1
    · have := h1 b e; omega
    · exact hne (h1 ▸ e)
  have HW := Lib.hid hwh
  have HN := Lib.hid hne'
  have HG := Lib.hid hgrow
  clear hwh hne'
  obtain ⟨ao, n', cap, rfl⟩ : ∃ ao n' cap, v' = .slice ao n' cap := by
    rcases hown'.2 with ⟨hv, _⟩ | ⟨g, cap, cur, hv, _⟩
    · exact ⟨_, _, _, hv⟩
    · exact ⟨_, _, _, hv⟩
  go_wp2
  go_ret
  refine ⟨rfl, .slice ao n' cap, ?_, ?_, HN.out, ?_, ?_⟩
  · simp [World.setCell, Array.getElem?_modify, hb2]
  · refine ⟨hown'.1, ?_⟩
    rcases hown'.2 with h0 | ⟨g, cap', cur, h1, h2, h3, h4⟩
    · exact .inl h0
    · exact .inr ⟨g, cap', cur, h1, h2, (Below.heap_setCell _ _ _ _ (fun e => HN.out (by rw [h1, e]; rfl))).trans h3, h4⟩
  · rw [HS.out] at HW; exact HW.out
  · have hX := HX.out
    refine ⟨HG.out.os.trans hX.1, HG.out.tape.trans hX.2.1, HG.out.output.trans hX.2.2, ?_, fun k hk hm => ?_⟩
    · have := HG.out.size; rw [HS.out] at this; simpa [World.setCell] using this
    · have hkb : k ≠ b := fun e => hm (.inr (.inl e))
      rw [Below.heap_setCell _ _ _ _ hkb, HG.out.block k (by rw [HS.out]; exact hk) (fun e => hm (.inr (.inr e.symm))), HO1.out k hkb]
theorem wroteB (I : World → Prop) (id nid : Nat) (ch : Int) (hc : 0 ≤ ch ∧ ch ≤ 255) (s : List UInt8) (hs0 : s = [UInt8.ofNat ch.toNat]) (l : List Int) (H : Nat → Option Blk) (d : D) (eff : Eff) (hid : H id = some (.bbox 90 [.sp id, d])) (hlen : l.length + s.length ≤ 140737488355328) (hne : nid ≠ id)
    (hd : (d = .nils ∧ l = [] ∧ eff = [(nid, some (.vec 5 1 ((l ++ toI s).map (D.int .u8)) false)), (id, some (.bbox 90 [.sp id, .own nid (l.length + s.length)]))]) ∨
      ∃ id2, d = .own id2 l.length ∧ H id2 = some (.vec 5 1 (l.map (D.int .u8)) false) ∧ id2 ≠ id ∧ eff = [(id2, none), (nid, some (.vec 5 1 ((l ++ toI s).map (D.int .u8)) false)), (id, some (.bbox 90 [.sp id, .own nid (l.length + s.length)]))]) :
    CallOK Tryz.prog I 52 [.ptr id 0, .int .u8 ch] H nid (.err false) eff := by
  refine ⟨by kernel_rfl, fun i0 w C B args hI hb0 hM hH hF hbase hn hal hrep => ?_⟩
  obtain ⟨a0, a1, rfl⟩ : ∃ a0 a1, args = [a0, a1] := by
    match args, hal with
    | [a, b], _ => exact ⟨a, b, rfl⟩
  have r0 := hrep 0 a0 _ rfl rfl
  have r1 := hrep 1 a1 _ rfl rfl
  clear hrep
  obtain rfl := rep_int1' r1
  cases r0 with
  | ptr _ _ g hlid hσ =>
  obtain ⟨k0, k1⟩ := hH.rep id _ hid
  obtain ⟨v, hB, hv, hnoF⟩ := bld_block hσ k1
  have hgM : B.M g := hH.own id _ hid g (by rw [hσ]; rfl)
  have hglt : g < w.heap.size := by obtain ⟨p, _, hb⟩ := hB; exact (Array.getElem?_eq_some_iff.1 hb).1
  -- the row
  obtain ⟨vals, hown, hvals, hvne, hvM, hvF⟩ : ∃ vals, w.ownsRow 0 5 1 v vals.length vals ∧ vals.length = l.length ∧ v.ownBlock ≠ some g ∧ (∀ k, v.ownBlock = some k → B.M k) ∧ (∀ k o, v.ownBlock = some k → ¬ C.F k o) := by
    rcases hd with ⟨rfl, rfl, _⟩ | ⟨id2, rfl, h2, h3, _⟩
    · cases hv
      exact ⟨[], World.ownsRow_nil _ _ _ _, rfl, by simp [Value.ownBlock], by simp [Value.ownBlock], by simp [Value.ownBlock]⟩
    · cases hv with
      | own _ _ c A hl2 hm2 hσ2 =>
        obtain ⟨_, vals, q1, q2, q3, q4⟩ := hH.rep id2 _ h2
        rw [hσ2] at q1
        have hvl : vals.length = l.length := by have := q1.1; simpa using this
        refine ⟨vals, by rw [hvl]; simpa using q1, hvl, fun e => ?_, fun k hk => hH.own id2 _ h2 k (by rw [hσ2, blockOf_own]; exact hk), fun k o hk hF' => ?_⟩
        · exact hH.apart id2 id _ _ h2 hid h3 g (by rw [hσ2, blockOf_own]; exact e) (by rw [hσ]; rfl)
        · have := ((q4 k (by rw [hσ2]; exact hk)).1 o hF').1; cases this
  have hssz : (⟨s.toArray⟩ : ByteArray).size = s.length := bsize s
  refine (writeByte g v vals ch s hc hs0 w hB hown hvne (by rw [hvals]; exact hlen)).mono ?_
  rintro e w' ⟨rfl, v', e1, e2, e3, e4, e5⟩
  rw [hvals] at e2
  have hbel : BelM B.M w w' := ⟨e5.os, e5.tape, e5.output, e5.size, fun k hk hm => e5.block k hk (by
    rintro (h | h | h)
    · omega
    · exact hm (h ▸ hgM)
    · exact hm (hvM k h))⟩
  -- outside the two blocks nothing has changed
  have hout : ∀ k, k < w.heap.size → k ≠ g → v.ownBlock ≠ some k → w'.heap[k]? = w.heap[k]? := fun k hk h1 h2 => e5.block k hk (by rintro (h | h | h); omega; exact h1 h; exact h2 h)
  have hFk : ∀ b o, C.F b o → w'.heap[b]? = w.heap[b]? := fun b o hb => hout b (hF b o hb) (fun e => hnoF o (e ▸ hb)) (fun e => hvF b o e hb)
  have ee := Cx.new_ext (C := C) (w := w) (w' := w') hn v' hFk
  have hs2 : (C.new nid v').σ nid = v' := by simp [Cx.new, upd]
  have hσ' : (C.new nid v').σ id = .pointer (some ⟨g, 0, none⟩) := by rw [ee.σ id hlid]; exact hσ
  obtain ⟨A', c', rfl⟩ : ∃ A' c', v' = .slice A' (l.length + s.length) c' := by
    rcases e2.2 with ⟨h1, h2⟩ | ⟨g', cap, cur, h1, _⟩
    · exact ⟨none, 0, by rw [h1, h2]⟩
    · exact ⟨_, _, h1⟩
  have hlm : l.length + s.length ≤ maxLen := by unfold maxLen; omega
  have hnewF : ∀ k, (Value.slice A' (l.length + s.length) c').ownBlock = some k → ∀ o, ¬ C.F k o := by
    intro k hk o hb
    rcases e4 with h | h
    · have := h k hk; have := hF k o hb; omega
    · exact hvF k o (h ▸ hk) hb
  -- the row's new block stands for the new list
  have hvec : ∀ (q3 : RepL (cF C.F) w vals ((l.map (D.int .u8)).flatMap D.cells)), BRep (C.new nid (.slice A' (l.length + s.length) c')) w' 0 nid (.vec 5 1 ((l ++ toI s).map (D.int .u8)) false) := by
    intro q3
    refine ⟨vals ++ Lib.strCells ⟨s.toArray⟩, ?_, flatU8_len _, ?_, ?_⟩
    · rw [hs2]; simpa [toI_length] using e2
    · rw [List.map_append, List.flatMap_append]
      exact (q3.ext ee.cF).append (strCells_rep s)
    · intro k hk
      rw [hs2] at hk
      exact ⟨fun o ho => absurd ho (hnewF k hk o), fun h => by cases h⟩
  have hbox : BRep (C.new nid (.slice A' (l.length + s.length) c')) w' 0 id (.bbox 90 [.sp id, .own nid (l.length + s.length)]) := by
    refine ⟨g, #[.pointer (some ⟨g, 0, none⟩), .slice A' (l.length + s.length) c'], hσ', Nat.zero_le _, e1, ?_, hnoF⟩
    have x1 : Rep w' (C.new nid (.slice A' (l.length + s.length) c')) (.pointer (some ⟨g, 0, none⟩)) (.sp id) := .sp1 id g (Or.inl hlid) hσ'
    have x2 : Rep w' (C.new nid (.slice A' (l.length + s.length) c')) (.slice A' (l.length + s.length) c') (.own nid (l.length + s.length)) := .own nid _ c' A' (Or.inr rfl) hlm hs2
    exact (RepL.one1 rfl x1).append (RepL.one1 rfl x2)
  -- everything else is as it was
  have hrest : ∀ j bj, j ≠ id → (∀ k, blockOf (C.σ j) = some k → v.ownBlock ≠ some k) → H j = some bj → (C.new nid (.slice A' (l.length + s.length) c')).live j ∧ BRep (C.new nid (.slice A' (l.length + s.length) c')) w' 0 j bj := by
    intro j bj hj hv hb
    obtain ⟨h1, h2⟩ := hH.rep j bj hb
    exact ⟨.inl h1, h2.keep h1 ee (fun k hk => hout k (h2.lt k hk).2 (fun e => hH.apart j id _ _ hb hid hj k hk (by rw [hσ, e]; rfl)) (hv k hk)) (fun k o _ h => h)⟩
  have hrepr : Rep w' (C.new nid (.slice A' (l.length + s.length) c')) .nilIface (.err false) := .err0
  have hdead : ∀ b, H nid ≠ some b := fun b hb => hn (hH.rep nid b hb).1
  have hfin : ∀ H', (∀ j, j ≠ id → j ≠ nid → ∀ b, H' j = some b → H j = some b ∧ ∀ k, blockOf (C.σ j) = some k → v.ownBlock ≠ some k) → H' nid = some (.vec 5 1 ((l ++ toI s).map (D.int .u8)) false) → H' id = some (.bbox 90 [.sp id, .own nid (l.length + s.length)]) →
      RepL (cF C.F) w vals ((l.map (D.int .u8)).flatMap D.cells) → HOK (C.new nid (.slice A' (l.length + s.length) c')) w' B H' := by
    intro H' hold hnew hnb q3
    have bσ : ∀ j b, j ≠ id → j ≠ nid → H' j = some b → (C.new nid (.slice A' (l.length + s.length) c')).σ j = C.σ j := fun j b h1 h2 h3 => ee.σ j (hH.rep j b (hold j h1 h2 b h3).1).1
    have bnid : ∀ k, blockOf (Value.slice A' (l.length + s.length) c') = some k → w.heap.size ≤ k ∨ v.ownBlock = some k := by
      intro k hk
      rw [blockOf_own] at hk
      rcases e4 with h | h
      · exact .inl (h k hk)
      · exact .inr (h ▸ hk)
    have apn : ∀ j b, j ≠ id → j ≠ nid → H' j = some b → ∀ k, blockOf (C.σ j) = some k → blockOf (Value.slice A' (l.length + s.length) c') ≠ some k := by
      intro j b h1 h2 h3 k hk hk2
      obtain ⟨h4, h5⟩ := hold j h1 h2 b h3
      rcases bnid k hk2 with h | h
      · have := ((hH.rep j b h4).2.lt k hk).2; omega
      · exact h5 k hk h
    have apb : ∀ j b, j ≠ id → j ≠ nid → H' j = some b → ∀ k, blockOf (C.σ j) = some k → k ≠ g := by
      intro j b h1 h2 h3 k hk e
      exact hH.apart j id b _ (hold j h1 h2 b h3).1 hid h1 k hk (by rw [hσ, e]; rfl)
    have apnb : ∀ k, blockOf (Value.slice A' (l.length + s.length) c') = some k → k ≠ g := by
      intro k hk e
      rcases bnid k hk with h | h
      · omega
      · exact hvne (e ▸ h)
    refine ⟨fun j b hj => ?_, fun j b hj k hk => ?_, fun j k cs hj => ?_, fun j j' b b' hj hj' hjj k hk hk' => ?_⟩
    · by_cases h1 : j = id
      · subst h1; rw [hnb] at hj; injection hj with hj; subst hj; exact ⟨.inl hlid, hbox⟩
      · by_cases h2 : j = nid
        · subst h2; rw [hnew] at hj; injection hj with hj; subst hj; exact ⟨.inr rfl, hvec q3⟩
        · obtain ⟨h3, h4⟩ := hold j h1 h2 b hj
          exact hrest j b h1 h4 h3
    · by_cases h1 : j = id
      · subst h1; rw [hσ'] at hk; simp [blockOf] at hk; subst hk; exact hgM
      · by_cases h2 : j = nid
        · subst h2
          rw [hs2] at hk
          rcases bnid k hk with h | h
          · exact hbase k h
          · exact hvM k h
        · rw [bσ j b h1 h2 hj] at hk
          exact hH.own j b (hold j h1 h2 b hj).1 k hk
    · by_cases h1 : j = id
      · subst h1; rw [hnb] at hj; cases hj
      · by_cases h2 : j = nid
        · subst h2; rw [hnew] at hj; cases hj
        · rw [bσ j _ h1 h2 hj]; exact hH.pin j k cs (hold j h1 h2 _ hj).1
    · by_cases h1 : j = id
      · subst h1
        rw [hσ'] at hk; simp [blockOf] at hk; subst hk
        by_cases h2 : j' = nid
        · subst h2; rw [hs2] at hk'; exact apnb _ hk' rfl
        · rw [bσ j' b' (fun e => hjj e.symm) h2 hj'] at hk'
          exact apb j' b' (fun e => hjj e.symm) h2 hj' _ hk' rfl
      · by_cases h2 : j = nid
        · subst h2
          rw [hs2] at hk
          by_cases h3 : j' = id
          · subst h3; rw [hσ'] at hk'; simp [blockOf] at hk'; subst hk'; exact apnb _ hk rfl
          · rw [bσ j' b' h3 (fun e => hjj e.symm) hj'] at hk'
            exact apn j' b' h3 (fun e => hjj e.symm) hj' k hk' hk
        · rw [bσ j b h1 h2 hj] at hk
          by_cases h3 : j' = id
          · subst h3; rw [hσ'] at hk'; simp [blockOf] at hk'; subst hk'; exact apb j b h1 h2 hj _ hk rfl
          · by_cases h4 : j' = nid
            · subst h4; rw [hs2] at hk'; exact apn j b h1 h2 hj k hk hk'
            · rw [bσ j' b' h3 h4 hj'] at hk'
              exact hH.apart j j' b b' (hold j h1 h2 b hj).1 (hold j' h3 h4 b' hj').1 hjj k hk hk'
  refine ⟨_, C.new nid (.slice A' (l.length + s.length) c'), rfl, hbel, ee, hrepr, ?_, fun b o h => Nat.lt_of_lt_of_le (hF b o h) e5.size, fun _ h => h, fun _ _ h => .inl h⟩
  rcases hd with ⟨rfl, rfl, rfl⟩ | ⟨id2, rfl, h2, h3, rfl⟩
  · cases hv
    have hvn : vals = [] := List.eq_nil_of_length_eq_zero hvals
    refine hfin _ (fun j h1 h2 b hb => ?_) (by simp [appEff, upd, hne]) (by simp [appEff, upd]) (by rw [hvn]; exact RepL.nil)
    simp [appEff, upd, h1, h2] at hb
    exact ⟨hb, by simp [Value.ownBlock]⟩
  · cases hv with
    | own _ _ c A hl2 hm2 hσ2 =>
      obtain ⟨_, vals2, q1, q2, q3, q4⟩ := hH.rep id2 _ h2
      rw [hσ2] at q1
      have hn2 : nid ≠ id2 := fun e => hdead _ (e ▸ h2)
      have hvv : vals2 = vals := by
        rcases q1.2 with ⟨r1, r2⟩ | ⟨g1, cap1, cur1, r1, r2, r3, r4, r5, r6, r7⟩
        · have r2' : l.length = 0 := by simpa using r2
          rw [List.eq_nil_of_length_eq_zero (l := vals) (by omega), List.eq_nil_of_length_eq_zero (l := vals2) (by have := q1.1; simp at this; omega)]
        · rcases hown.2 with ⟨t1, t2⟩ | ⟨g2, cap2, cur2, t1, t2, t3, t4, t5, t6, t7⟩
          · rw [t1] at r1; cases r1
          · rw [r1] at t1; injection t1 with t1 _ _; injection t1 with t1; injection t1 with t1
            subst t1
            rw [r3] at t3; injection t3 with t3; injection t3 with t3
            subst t3
            rw [← r7, ← t7]; simp [hvals]
      refine hfin _ (fun j h1 h2' b hb => ?_) (by simp [appEff, upd, hne]) (by simp [appEff, upd]) (by rw [← hvv]; exact q3)
      by_cases hj2 : j = id2
      · subst hj2; simp [appEff, upd, h1, h2'] at hb
      · simp [appEff, upd, h1, h2', hj2] at hb
        exact ⟨hb, fun k hk hk2 => hH.apart j id2 _ _ hb h2 hj2 k hk (by rw [hσ2, blockOf_own]; exact hk2)⟩
theorem c_WriteByte1 (I : World → Prop) {id nid id2 n : Nat} {ch : Int} {l : List Int} {H : Nat → Option Blk} (hid : H id = some (.bbox 90 [.sp id, .own id2 n])) (h2 : H id2 = some (.vec 5 1 (l.map (D.int .u8)) false)) (hn : n = l.length) (hc : 0 ≤ ch ∧ ch ≤ 255) (hlen : l.length + 1 ≤ 140737488355328) (hne : nid ≠ id) :
    CallOK Tryz.prog I 52 [.ptr id 0, .int .u8 ch] H nid (.err false) [(id2, none), (nid, some (.vec 5 1 ((l ++ [ch]).map (D.int .u8)) false)), (id, some (.bbox 90 [.sp id, .own nid (l ++ [ch]).length]))] := by
  subst hn
  have h1 : toI [UInt8.ofNat ch.toNat] = [ch] := by
    simp [toI]
    omega
  have h3 := wroteB I id nid ch hc _ rfl l H _ _ hid (by simpa using hlen) hne (.inr ⟨id2, rfl, h2, fun e => (by rw [e, hid] at h2; cases h2), rfl⟩)
  rw [h1] at h3
  simpa using h3
end Go.Proofs.YtedhognhhcihpaaGreatDoor
namespace Go.Proofs.YtedhognhhcihpaaGreatDoor
open Go.RowKit
set_option maxRecDepth 100000
set_option maxHeartbeats 10000000
structure T_api_Field where
  Text : List UInt8
  Column : Int
  Quoted : Bool
  deriving DecidableEq
def T_api_Field.d (x : T_api_Field) : D := .agg [.str x.Text, .int .i64 x.Column, .bool x.Quoted]
structure T_api_Diag where
  Line : Int
  Column : Int
  Code : Int
  deriving DecidableEq
def T_api_Diag.d (x : T_api_Diag) : D := .agg [.int .i64 x.Line, .int .i64 x.Column, .int .i64 x.Code]
structure T_api_Line where
  Number : Int
  Fields : List T_api_Field
  deriving DecidableEq
def T_api_Line.d (x : T_api_Line) : D := .agg [.int .i64 x.Number, .sl (x.Fields.map T_api_Field.d)]
structure T_lines_Scanner where
  line_ : T_api_Line
  next_ : Int
  last_ : Int
  bad_ : T_api_Diag
  deriving DecidableEq
def T_lines_Scanner.d (x : T_lines_Scanner) : D := .agg [.int .i64 x.line_.Number, .sl (x.line_.Fields.map T_api_Field.d), .int .i64 x.next_, .int .i64 x.last_, .int .i64 x.bad_.Line, .int .i64 x.bad_.Column, .int .i64 x.bad_.Code]
theorem dd_PA : (∀ x, T_api_Field.d x = .agg [.str x.Text, .int .i64 x.Column, .bool x.Quoted]) ∧ (∀ x, T_api_Diag.d x = .agg [.int .i64 x.Line, .int .i64 x.Column, .int .i64 x.Code]) ∧ (∀ x, T_api_Line.d x = .agg [.int .i64 x.Number, .sl (x.Fields.map T_api_Field.d)]) ∧ (∀ x, T_lines_Scanner.d x = .agg [.int .i64 x.line_.Number, .sl (x.line_.Fields.map T_api_Field.d), .int .i64 x.next_, .int .i64 x.last_, .int .i64 x.bad_.Line, .int .i64 x.bad_.Column, .int .i64 x.bad_.Code]) := ⟨fun _ => rfl, fun _ => rfl, fun _ => rfl, fun _ => rfl⟩
def g_lines_quoted_s1 (s_0 : List UInt8) (x7 : (List Int) × Int) : Option (Nx ((List Int) × Int) (((List UInt8) × Int × Int) ⊕ Unit)) :=
  (if (decide (x7.2 < (s_0.length : Int))) then ((atI s_0 x7.2).bind fun b367 => (if ((b367.toNat : Int) == 34) then (((if (decide ((IntKind.i64.wrap (x7.2 + 1)) < (s_0.length : Int))) then ((atI s_0 (IntKind.i64.wrap (x7.2 + 1))).bind fun b379 => (some ((b379.toNat : Int) != 32))) else (some false)) : Option (Bool)).bind fun v376 => (if v376 then (some (.out (.inl ([], 0, (IntKind.i64.wrap (x7.2 + 1)))))) else (some (.out (.inl ((bytesOf x7.1), (IntKind.i64.wrap (x7.2 + 1)), -1)))))) else (if ((b367.toNat : Int) == 92) then (((if ((IntKind.i64.wrap (x7.2 + 1)) == (s_0.length : Int)) then (some true) else ((atI s_0 (IntKind.i64.wrap (x7.2 + 1))).bind fun b399 => ((g_strings_IndexByte [34, 92, 110] (b399.toNat : Int)).bind fun r401 => (some (decide (r401 < 0)))))) : Option (Bool)).bind fun v396 => (if v396 then (some (.out (.inl ([], 0, x7.2)))) else ((atI s_0 (IntKind.i64.wrap (x7.2 + 1))).bind fun b413 => (if ((b413.toNat : Int) == 110) then (if (x7.1.length + 1) * 1 ≤ 140737488355328 then (some (.go ((x7.1 ++ [10]), (IntKind.i64.wrap ((IntKind.i64.wrap (x7.2 + 1)) + 1))))) else none) else (if (x7.1.length + 1) * 1 ≤ 140737488355328 then (some (.go ((x7.1 ++ [(b413.toNat : Int)]), (IntKind.i64.wrap ((IntKind.i64.wrap (x7.2 + 1)) + 1))))) else none))))) else (((if (decide ((b367.toNat : Int) < 32)) then (some true) else (some ((b367.toNat : Int) == 127))) : Option (Bool)).bind fun v428 => (if v428 then (some (.out (.inl ([], 0, x7.2)))) else (if (x7.1.length + 1) * 1 ≤ 140737488355328 then (some (.go ((x7.1 ++ [(b367.toNat : Int)]), (IntKind.i64.wrap (x7.2 + 1))))) else none)))))) else (some (.out (.inr ()))))
def g_lines_quoted (s_0 : List UInt8) : Option ((List UInt8) × Int × Int) :=
  ((iter (g_lines_quoted_s1 s_0) ([], 1)).bind fun e8 => (match e8 with | Sum.inl e8 => (some (e8.1, e8.2.1, e8.2.2)) | Sum.inr (e8) => (some ([], 0, (s_0.length : Int)))))
theorem a_lines_quoted {I : World → Prop} (hI : Stab I) {s_0 : List UInt8} {r : (List UInt8) × Int × Int} (h : g_lines_quoted s_0 = some r) : AFun Tryz.prog I 84 [.str s_0] (.tup [.str r.1, .int .i64 r.2.1, .int .i64 r.2.2]) := by
  have dd := dd_PA; have k := True.intro; have q := k; have rs := Tryz.results84
  unfold g_lines_quoted at h
  refine .en hI Tryz.func84 Tryz.ntmps84 ?_
  refine xs <| rz ?_
  refine es <| xs <| rz ?_
  refine es <| xs <| xs <| rz ?_
  refine es <| xb ?_
  obtain ⟨e8, h440, h⟩ := bs h
  refine rb_loop (fun x7 => ⟨envL [(0, .str s_0), (5, .own 0 x7.1.length), (6, .int .i64 x7.2)], heapL [(0, .vec 5 1 (x7.1.map (D.int .u8)) false)], 1, 84⟩) (fun w => match w with | Sum.inl _ => .ret | Sum.inr (_) => .exit 0) (fun w => match w with | Sum.inl e8 => ⟨envL [(2, .str e8.1), (3, .int .i64 e8.2.1), (4, .int .i64 e8.2.2)], heapL [], 0, 84⟩ | Sum.inr (e8) => ⟨envL [(0, .str s_0)], heapL [], 0, 84⟩) h440 (wk [(0, none)]) (by intro w; rcases w with w | w <;> simp) ?_ ?_
  · clear h
    intro x7 y h
    unfold g_lines_quoted_s1 at h
    refine xs <| xs <| rz ?_
    refine es ?_
    rcases iK k h with ⟨k, h⟩ | ⟨k, h⟩
    · refine xt <| xk <| es <| xs <| xb <| xs <| rK fun K366 RK366 hK366 gK366 => zz ?_
      obtain ⟨b367, q, h⟩ := bK q h
      refine zz ?_
      subst hK366 gK366
      refine es <| xb <| xs <| rz ?_
      refine es ?_
      rcases iK k h with ⟨k, h⟩ | ⟨k, h⟩
      · refine xt <| xs ?_
        obtain ⟨v376, h381, h⟩ := bs h
        refine rb_cut (fun v376 => ⟨envL [(5, .own 0 x7.1.length), (6, .int .i64 x7.2), (35, .bool v376)], heapL [(0, .vec 5 1 (x7.1.map (D.int .u8)) false)], 1, 84⟩) h381 ?_ ?_
        · clear h
          intro v376 h
          refine rK fun K377 RK377 hK377 gK377 => zz ?_
          rcases iK k h with ⟨k, h⟩ | ⟨k, h⟩
          · refine zz ?_
            obtain ⟨b379, q, h⟩ := bK q h
            refine zz ?_
            subst hK377 gK377
            cases h
            exact en ⟨rfl, wk []⟩
          · refine zz ?_
            subst hK377 gK377
            cases h
            exact en ⟨rfl, wk []⟩
        · rcases iK k h with ⟨k, h⟩ | ⟨k, h⟩
          · refine xt <| xs <| rz ?_
            refine es <| xr <| er <| br <| br <| er ?_
            cases h
            exact en ⟨rfl, wk []⟩
          · refine xf <| xk <| es <| xs <| rz ?_
            refine es <| xr <| br <| br <| er ?_
            cases h
            exact en ⟨rfl, wk []⟩
      · refine xf <| xs <| rz ?_
        refine es ?_
        rcases iK k h with ⟨k, h⟩ | ⟨k, h⟩
        · refine xt <| xs ?_
          obtain ⟨v396, h403, h⟩ := bs h
          refine rb_cut (fun v396 => ⟨envL [(0, .str s_0), (5, .own 0 x7.1.length), (6, .int .i64 x7.2), (57, .bool v396)], heapL [(0, .vec 5 1 (x7.1.map (D.int .u8)) false)], 1, 84⟩) h403 ?_ ?_
          · clear h
            intro v396 h
            refine rK fun K397 RK397 hK397 gK397 => zz ?_
            rcases iK k h with ⟨k, h⟩ | ⟨k, h⟩
            · refine zz ?_
              subst hK397 gK397
              cases h
              exact en ⟨rfl, wk []⟩
            · refine zz ?_
              obtain ⟨b399, q, h⟩ := bK q h
              refine zz ?_
              obtain ⟨r401, h402, h⟩ := bs h
              refine cw (a_strings_IndexByte I hI [34, 92, 110] (b399.toNat : Int) h402) <| zz ?_
              subst hK397 gK397
              cases h
              exact en ⟨rfl, wk []⟩
          · rcases iK k h with ⟨k, h⟩ | ⟨k, h⟩
            · refine xt <| xs <| rz ?_
              refine es <| xr <| er <| br <| br <| er ?_
              cases h
              exact en ⟨rfl, wk []⟩
            · refine xf <| xk <| es <| xs <| rz ?_
              refine es <| xs <| rK fun K412 RK412 hK412 gK412 => zz ?_
              obtain ⟨b413, q, h⟩ := bK q h
              refine zz ?_
              subst hK412 gK412
              refine es ?_
              rcases iK k h with ⟨k, h⟩ | ⟨k, h⟩
              · refine xt <| rK fun K416 RK416 hK416 gK416 => zz ?_
                obtain ⟨h417, h⟩ := ite_on h
                have h418 : x7.1.length + 1 ≤ 9223372036854775807 := by omega
                try simp only [Nat.reduceLeDiff] at h418
                have h419 : x7.1.length + 1 ≤ 140737488355328 := by omega
                try simp only [Nat.reduceLeDiff] at h419
                have q := And.intro @h418 <| And.intro @h419 <| And.intro @h417 <| q
                refine zz ?_
                subst hK416 gK416
                refine bn <| bn <| es <| rz ?_
                cases h
                exact en ⟨rfl, wk [(0, some 10)]⟩
              · refine xf <| rK fun K421 RK421 hK421 gK421 => zz ?_
                obtain ⟨h422, h⟩ := ite_on h
                have h423 : x7.1.length + 1 ≤ 9223372036854775807 := by omega
                try simp only [Nat.reduceLeDiff] at h423
                have h424 : x7.1.length + 1 ≤ 140737488355328 := by omega
                try simp only [Nat.reduceLeDiff] at h424
                have q := And.intro @h423 <| And.intro @h424 <| And.intro @h422 <| q
                refine zz ?_
                subst hK421 gK421
                refine bn <| bn <| es <| rz ?_
                cases h
                exact en ⟨rfl, wk [(0, some 13)]⟩
        · refine xf ?_
          obtain ⟨v428, h431, h⟩ := bs h
          refine rb_cut (fun v428 => ⟨envL [(0, .str s_0), (5, .own 0 x7.1.length), (6, .int .i64 x7.2), (7, .int .u8 (b367.toNat : Int)), (74, .bool v428)], heapL [(0, .vec 5 1 (x7.1.map (D.int .u8)) false)], 1, 84⟩) h431 ?_ ?_
          · clear h
            intro v428 h
            refine rK fun K429 RK429 hK429 gK429 => zz ?_
            rcases iK k h with ⟨k, h⟩ | ⟨k, h⟩
            · refine zz ?_
              subst hK429 gK429
              cases h
              exact en ⟨rfl, wk []⟩
            · refine zz ?_
              subst hK429 gK429
              cases h
              exact en ⟨rfl, wk []⟩
          · rcases iK k h with ⟨k, h⟩ | ⟨k, h⟩
            · refine xt <| xs <| rz ?_
              refine es <| xr <| br <| br <| er ?_
              cases h
              exact en ⟨rfl, wk []⟩
            · refine xf <| rK fun K435 RK435 hK435 gK435 => zz ?_
              obtain ⟨h436, h⟩ := ite_on h
              have h437 : x7.1.length + 1 ≤ 9223372036854775807 := by omega
              try simp only [Nat.reduceLeDiff] at h437
              have h438 : x7.1.length + 1 ≤ 140737488355328 := by omega
              try simp only [Nat.reduceLeDiff] at h438
              have q := And.intro @h437 <| And.intro @h438 <| And.intro @h436 <| q
              refine zz ?_
              subst hK435 gK435
              refine bn <| bn <| es <| rz ?_
              cases h
              exact en ⟨rfl, wk [(0, some 4)]⟩
    · refine xf <| xx <| ee ?_
      cases h
      exact en ⟨rfl, wk []⟩
  · rcases e8 with e8 | e8
    · try dsimp only at h ⊢
      refine br <| er ?_
      cases h
      exact en fr
    · try dsimp only at h ⊢
      refine bh <| es <| xs <| rz ?_
      refine es <| xr ?_
      cases h
      exact en fr
def g_lines_isWord (b_0 : Int) : Option (Bool) :=
  (if (decide (32 < b_0)) then (if (decide (b_0 < 127)) then (some (b_0 != 34)) else (some false)) else (some false))
theorem a_lines_isWord {I : World → Prop} (hI : Stab I) {b_0 : Int} {r : Bool} (h : g_lines_isWord b_0 = some r) : AFun Tryz.prog I 82 [.int .u8 b_0] (.bool r) := by
  have dd := dd_PA; have k := True.intro; have q := k; have rs := Tryz.results82
  unfold g_lines_isWord at h
  refine .en hI Tryz.func82 Tryz.ntmps82 ?_
  refine xs <| rz ?_
  refine es <| xs <| rK fun K6 RK6 hK6 gK6 => zz ?_
  rcases iK k h with ⟨k, h⟩ | ⟨k, h⟩
  · refine zz ?_
    rcases iK k h with ⟨k, h⟩ | ⟨k, h⟩
    · refine zz ?_
      subst hK6 gK6
      refine es <| xr ?_
      cases h
      exact en fr
    · refine zz ?_
      subst hK6 gK6
      refine es <| xr ?_
      cases h
      exact en fr
  · refine zz ?_
    subst hK6 gK6
    refine es <| xr ?_
    cases h
    exact en fr
def g_lines_word_s1 (s_0 : List UInt8) (x5 : Int) : Option (Nx (Int) ((Int × Int) ⊕ Unit)) :=
  (if (decide (x5 < (s_0.length : Int))) then ((atI s_0 x5).bind fun b100 => (if ((b100.toNat : Int) == 32) then (some (.out (.inl (x5, -1)))) else ((((g_lines_isWord (b100.toNat : Int)).bind fun r112 => (if r112 then (if (x5 == 0) then (some ((b100.toNat : Int) == 35)) else (some false)) else (some true))) : Option (Bool)).bind fun v110 => (if v110 then (some (.out (.inl (0, x5)))) else (some (.go (IntKind.i64.wrap (x5 + 1)))))))) else (some (.out (.inr ()))))
def g_lines_word (s_0 : List UInt8) : Option (Int × Int) :=
  ((iter (g_lines_word_s1 s_0) 0).bind fun e6 => (match e6 with | Sum.inl e6 => (some (e6.1, e6.2)) | Sum.inr (e6) => (some ((s_0.length : Int), -1))))
theorem a_lines_word {I : World → Prop} (hI : Stab I) {s_0 : List UInt8} {r : Int × Int} (h : g_lines_word s_0 = some r) : AFun Tryz.prog I 53 [.str s_0] (.tup [.int .i64 r.1, .int .i64 r.2]) := by
  have dd := dd_PA; have k := True.intro; have q := k; have rs := Tryz.results53
  unfold g_lines_word at h
  refine .en hI Tryz.func53 Tryz.ntmps53 ?_
  refine xs <| rz ?_
  refine es <| xs <| xs <| rz ?_
  refine es <| xb ?_
  obtain ⟨e6, h121, h⟩ := bs h
  refine rb_loop (fun x5 => ⟨envL [(0, .str s_0), (6, .int .i64 (s_0.length : Int)), (7, .int .i64 x5)], heapL [], 0, 34⟩) (fun w => match w with | Sum.inl _ => .ret | Sum.inr (_) => .exit 0) (fun w => match w with | Sum.inl e6 => ⟨envL [(2, .int .i64 e6.1), (3, .int .i64 e6.2)], heapL [], 0, 34⟩ | Sum.inr (e6) => ⟨envL [(0, .str s_0)], heapL [], 0, 34⟩) h121 (wk []) (by intro w; rcases w with w | w <;> simp) ?_ ?_
  · clear h
    intro x5 y h
    unfold g_lines_word_s1 at h
    refine xs <| rz ?_
    refine es <| xs ?_
    rcases iK k h with ⟨k, h⟩ | ⟨k, h⟩
    · refine xt <| xk <| es <| xs <| xb <| xs <| rz ?_
      refine es <| xs <| xs <| rK fun K99 RK99 hK99 gK99 => zz ?_
      obtain ⟨b100, q, h⟩ := bK q h
      refine zz ?_
      subst hK99 gK99
      refine es ?_
      rcases iK k h with ⟨k, h⟩ | ⟨k, h⟩
      · refine xt <| xs <| rz ?_
        refine es <| xr <| er <| br <| er ?_
        cases h
        exact en ⟨rfl, wk []⟩
      · refine xf <| xk <| es ?_
        obtain ⟨v110, h116, h⟩ := bs h
        refine rb_cut (fun v110 => ⟨envL [(0, .str s_0), (4, .int .i64 x5), (6, .int .i64 (s_0.length : Int)), (7, .int .i64 x5), (29, .bool v110)], heapL [], 0, 34⟩) h116 ?_ ?_
        · clear h
          intro v110 h
          refine rK fun K111 RK111 hK111 gK111 => zz ?_
          obtain ⟨r112, h113, h⟩ := bs h
          refine cw (a_lines_isWord hI h113) <| zz ?_
          rcases iK k h with ⟨k, h⟩ | ⟨k, h⟩
          · refine zz ?_
            rcases iK k h with ⟨k, h⟩ | ⟨k, h⟩
            · refine zz ?_
              subst hK111 gK111
              cases h
              exact en ⟨rfl, wk []⟩
            · refine zz ?_
              subst hK111 gK111
              cases h
              exact en ⟨rfl, wk []⟩
          · refine zz ?_
            subst hK111 gK111
            cases h
            exact en ⟨rfl, wk []⟩
        · rcases iK k h with ⟨k, h⟩ | ⟨k, h⟩
          · refine xt <| xs <| rz ?_
            refine es <| xr <| br <| er ?_
            cases h
            exact en ⟨rfl, wk []⟩
          · refine xf <| xk <| bn <| es <| rz ?_
            cases h
            exact en ⟨rfl, wk []⟩
    · refine xf <| xx <| ee ?_
      cases h
      exact en ⟨rfl, wk []⟩
  · rcases e6 with e6 | e6
    · try dsimp only at h ⊢
      refine br <| er ?_
      cases h
      exact en fr
    · try dsimp only at h ⊢
      refine bh <| es <| xs <| rz ?_
      refine es <| xr ?_
      cases h
      exact en fr
def g_lines_fields_s1 (s_0 : List UInt8) (x7 : (List T_api_Field) × Int) : Option (Nx ((List T_api_Field) × Int) (((List T_api_Field)) ⊕ Int)) :=
  (if (decide (x7.2 < (s_0.length : Int))) then ((atI s_0 x7.2).bind fun b136 => (if ((b136.toNat : Int) == 32) then (some (.go (x7.1, (IntKind.i64.wrap (x7.2 + 1))))) else (if ((b136.toNat : Int) == 35) then (some (.out (.inl x7.1))) else (if ((b136.toNat : Int) == 34) then ((subL s_0 x7.2).bind fun z154 => ((g_lines_quoted z154).bind fun r159 => (if (decide (0 ≤ r159.2.2)) then (some (.out (.inr (IntKind.i64.wrap ((IntKind.i64.wrap (x7.2 + r159.2.2)) + 1))))) else (if (x7.1.length + 1) * 32 ≤ 140737488355328 then (some (.go ((x7.1 ++ [(T_api_Field.mk r159.1 (IntKind.i64.wrap (x7.2 + 1)) true)]), (IntKind.i64.wrap (x7.2 + r159.2.1))))) else none)))) else ((subL s_0 x7.2).bind fun z182 => ((g_lines_word z182).bind fun r187 => ((subI s_0 x7.2 (IntKind.i64.wrap (x7.2 + r187.1))).bind fun z190 => (if (decide (0 ≤ r187.2)) then (some (.out (.inr (IntKind.i64.wrap ((IntKind.i64.wrap (x7.2 + r187.2)) + 1))))) else (if (x7.1.length + 1) * 32 ≤ 140737488355328 then (some (.go ((x7.1 ++ [(T_api_Field.mk z190 (IntKind.i64.wrap (x7.2 + 1)) false)]), (IntKind.i64.wrap (x7.2 + r187.1))))) else none))))))))) else (some (.out (.inl x7.1))))
def g_lines_fields (s_0 : List UInt8) : Option ((List T_api_Field) × Int) :=
  ((iter (g_lines_fields_s1 s_0) ([], 0)).bind fun e8 => (match e8 with | Sum.inl e8 => (some (e8, 0)) | Sum.inr (e8) => (some ([], e8))))
theorem a_lines_fields {I : World → Prop} (hI : Stab I) {s_0 : List UInt8} {r : (List T_api_Field) × Int} (h : g_lines_fields s_0 = some r) : AFun Tryz.prog I 59 [.str s_0] (.tup [.sl (r.1.map T_api_Field.d), .int .i64 r.2]) := by
  have dd := dd_PA; have k := True.intro; have q := k; have rs := Tryz.results59
  unfold g_lines_fields at h
  refine .en hI Tryz.func59 Tryz.ntmps59 ?_
  refine xs <| rz ?_
  refine es <| xs <| rz ?_
  refine es <| xs <| xs <| rz ?_
  refine es <| xb ?_
  obtain ⟨e8, h209, h⟩ := bs h
  refine rb_loop (fun x7 => ⟨envL [(0, .str s_0), (4, .own 0 x7.1.length), (5, .int .i64 x7.2)], heapL [(0, .vec 61 3 (x7.1.map T_api_Field.d) false)], 1, 68⟩) (fun w => match w with | Sum.inl _ => .exit 0 | Sum.inr (_) => .ret) (fun w => match w with | Sum.inl e8 => ⟨envL [(4, .own 0 e8.length)], heapL [(0, .vec 61 3 (e8.map T_api_Field.d) false)], 1, 68⟩ | Sum.inr (e8) => ⟨envL [(2, .nils), (3, .int .i64 e8)], heapL [], 0, 68⟩) h209 (wk [(0, none)]) (by intro w; rcases w with w | w <;> simp) ?_ ?_
  · clear h
    intro x7 y h
    unfold g_lines_fields_s1 at h
    refine xs <| xs <| rz ?_
    refine es ?_
    rcases iK k h with ⟨k, h⟩ | ⟨k, h⟩
    · refine xt <| xk <| es <| xb <| xs <| xs <| rK fun K135 RK135 hK135 gK135 => zz ?_
      obtain ⟨b136, q, h⟩ := bK q h
      refine zz ?_
      subst hK135 gK135
      refine es ?_
      rcases iK k h with ⟨k, h⟩ | ⟨k, h⟩
      · refine xt <| xs <| rz ?_
        refine es <| xx <| ee <| bh ?_
        cases h
        exact en ⟨rfl, wk []⟩
      · refine xf <| xk <| es <| xs <| xs <| rz ?_
        refine es ?_
        rcases iK k h with ⟨k, h⟩ | ⟨k, h⟩
        · refine xt <| xx <| ee <| bm ?_
          cases h
          exact en ⟨rfl, wk []⟩
        · refine xf <| xk <| es <| xs <| rz ?_
          refine es <| xs <| rz ?_
          refine es <| xs <| xs <| rz ?_
          refine es ?_
          rcases iK k h with ⟨k, h⟩ | ⟨k, h⟩
          · refine xt <| xs <| rz ?_
            refine es <| rK fun K153 RK153 hK153 gK153 => zz ?_
            obtain ⟨z154, h155, h⟩ := bind_some h
            obtain ⟨⟨h156, h157⟩, h158⟩ := subL_some h155
            have q := And.intro @h156 <| And.intro @h157 <| q
            try simp -implicitDefEqProofs only [vt, vm, sevalprocAttr, dd, k, q] at h158
            have q := And.intro @h158 <| q
            refine zz ?_
            obtain ⟨r159, h160, h⟩ := bs h
            refine cw (a_lines_quoted hI h160) <| zz ?_
            subst hK153 gK153
            refine es <| xs <| xs <| rz ?_
            refine es ?_
            rcases iK k h with ⟨k, h⟩ | ⟨k, h⟩
            · refine xt <| xs <| rz ?_
              refine es <| xr <| er <| br ?_
              cases h
              exact en ⟨rfl, wk []⟩
            · refine xf <| xk <| es <| xs <| rK fun K169 RK169 hK169 gK169 => zz ?_
              obtain ⟨h170, h⟩ := ite_on h
              have h171 : x7.1.length + 1 ≤ 9223372036854775807 := by omega
              try simp only [Nat.reduceLeDiff] at h171
              have q := And.intro @h171 <| And.intro @h170 <| q
              refine zz ?_
              subst hK169 gK169
              refine es <| rz ?_
              refine bn ?_
              cases h
              exact en ⟨rfl, wk [(0, some 43)]⟩
          · refine xf <| xs <| rK fun K181 RK181 hK181 gK181 => zz ?_
            obtain ⟨z182, h183, h⟩ := bind_some h
            obtain ⟨⟨h184, h185⟩, h186⟩ := subL_some h183
            have q := And.intro @h184 <| And.intro @h185 <| q
            try simp -implicitDefEqProofs only [vt, vm, sevalprocAttr, dd, k, q] at h186
            have q := And.intro @h186 <| q
            refine zz ?_
            obtain ⟨r187, h188, h⟩ := bs h
            refine cw (a_lines_word hI h188) <| zz ?_
            subst hK181 gK181
            refine es <| rK fun K189 RK189 hK189 gK189 => zz ?_
            obtain ⟨z190, h191, h⟩ := bind_some h
            obtain ⟨⟨h192, h193, h194, h195⟩, h196⟩ := subI_some h191
            have q := And.intro @h192 <| And.intro @h193 <| And.intro @h194 <| And.intro @h195 <| q
            try simp -implicitDefEqProofs only [vt, vm, sevalprocAttr, dd, k, q] at h196
            have q := And.intro @h196 <| q
            refine zz ?_
            subst hK189 gK189
            refine es <| xs <| xs <| rz ?_
            refine es ?_
            rcases iK k h with ⟨k, h⟩ | ⟨k, h⟩
            · refine xt <| xs <| rz ?_
              refine es <| xr <| er <| br ?_
              cases h
              exact en ⟨rfl, wk []⟩
            · refine xf <| xk <| es <| xs <| rK fun K205 RK205 hK205 gK205 => zz ?_
              obtain ⟨h206, h⟩ := ite_on h
              have h207 : x7.1.length + 1 ≤ 9223372036854775807 := by omega
              try simp only [Nat.reduceLeDiff] at h207
              have q := And.intro @h207 <| And.intro @h206 <| q
              refine zz ?_
              subst hK205 gK205
              refine es <| rz ?_
              refine bn ?_
              cases h
              exact en ⟨rfl, wk [(0, some 46)]⟩
    · refine xf <| xx <| ee ?_
      cases h
      exact en ⟨rfl, wk []⟩
  · rcases e8 with e8 | e8
    · try dsimp only at h ⊢
      refine bh <| es <| xs <| rz ?_
      refine es <| xr ?_
      cases h
      exact en fr
    · try dsimp only at h ⊢
      refine br <| er ?_
      cases h
      exact en fr
def g_lines_Split_s1 (r16 : (List (List UInt8))) (x18 : (List T_api_Line) × (List T_api_Diag) × Int) : Option (Nx ((List T_api_Line) × (List T_api_Diag) × Int) ((List T_api_Line) × (List T_api_Diag))) :=
  (if (decide (x18.2.2 < (r16.length : Int))) then ((((atI r16 x18.2.2).bind fun y343 => (if (decide (1000 < (y343.length : Int))) then (if (decide (((x18.2.1.length : Nat) : Int) < 50)) then (if (x18.2.1.length + 1) * 24 ≤ 140737488355328 then (some (x18.1, (x18.2.1 ++ [(T_api_Diag.mk (IntKind.i64.wrap (x18.2.2 + 1)) 1001 9)]))) else none) else (some (x18.1, x18.2.1))) else ((g_lines_fields y343).bind fun r365 => (if (decide (0 < r365.2)) then (if (decide (((x18.2.1.length : Nat) : Int) < 50)) then (if (x18.2.1.length + 1) * 24 ≤ 140737488355328 then (some (x18.1, (x18.2.1 ++ [(T_api_Diag.mk (IntKind.i64.wrap (x18.2.2 + 1)) r365.2 4)]))) else none) else (some (x18.1, x18.2.1))) else (if (decide (0 < (r365.1.length : Int))) then (if (x18.1.length + 1) * 32 ≤ 140737488355328 then (some ((x18.1 ++ [(T_api_Line.mk (IntKind.i64.wrap (x18.2.2 + 1)) r365.1)]), x18.2.1)) else none) else (some (x18.1, x18.2.1))))))) : Option ((List T_api_Line) × (List T_api_Diag))).bind fun v338 => (some (.go (v338.1, v338.2, (IntKind.i64.wrap (x18.2.2 + 1)))))) else (some (.out (x18.1, x18.2.1))))
def g_lines_Split (src_0 : List UInt8) : Option ((List T_api_Line) × (List T_api_Diag)) :=
  (if (decide (262144 < (src_0.length : Int))) then (some ([], [(T_api_Diag.mk 1 1 9)])) else ((g_strings_Split src_0 [10]).bind fun r16 => ((iter (g_lines_Split_s1 r16) ([], [], 0)).bind fun e19 => (some (e19.1, e19.2)))))
theorem a_lines_Split {I : World → Prop} (hI : Stab I) (hShp : ∀ w, I w → Shp w) {src_0 : List UInt8} {r : (List T_api_Line) × (List T_api_Diag)} (h : g_lines_Split src_0 = some r) : AFun Tryz.prog I 36 [.str src_0] (.tup [.sl (r.1.map T_api_Line.d), .sl (r.2.map T_api_Diag.d)]) := by
  have dd := dd_PA; have k := True.intro; have q := k; have rs := Tryz.results36
  unfold g_lines_Split at h
  refine .en hI Tryz.func36 Tryz.ntmps36 ?_
  refine xs <| rz ?_
  refine es <| xs <| xs <| rz ?_
  refine es ?_
  rcases iK k h with ⟨k, h⟩ | ⟨k, h⟩
  · refine xt <| xs <| rz ?_
    refine es <| xr <| er ?_
    cases h
    exact en fr
  · refine xf <| xk <| es <| xs <| rz ?_
    refine es <| xs <| rz ?_
    refine es <| xs <| xs <| rK fun K15 RK15 hK15 gK15 => zz ?_
    obtain ⟨r16, h17, h⟩ := bs h
    refine cw (a_strings_Split I hI hShp src_0 [10] h17) <| zz ?_
    subst hK15 gK15
    refine es <| xb ?_
    obtain ⟨e19, h389, h⟩ := bs h
    refine rb_loop (fun x18 => ⟨envL [(4, .own 0 x18.1.length), (5, .own 1 x18.2.1.length), (16, .sl (r16.map D.str)), (17, .int .i64 (r16.length : Int)), (18, .int .i64 x18.2.2)], heapL [(0, .vec 64 2 (x18.1.map T_api_Line.d) false), (1, .vec 40 3 (x18.2.1.map T_api_Diag.d) false)], 2, 66⟩) (fun _ => .exit 0) (fun e19 => ⟨envL [(4, .own 0 e19.1.length), (5, .own 1 e19.2.length)], heapL [(0, .vec 64 2 (e19.1.map T_api_Line.d) false), (1, .vec 40 3 (e19.2.map T_api_Diag.d) false)], 2, 66⟩) h389 (wk [(0, none), (1, none)]) (by intro w; simp) ?_ ?_
    · clear h
      intro x18 y h
      unfold g_lines_Split_s1 at h
      refine xs <| rz ?_
      refine es <| xs ?_
      rcases iK k h with ⟨k, h⟩ | ⟨k, h⟩
      · refine xt <| xk <| es ?_
        obtain ⟨v338, h387, h⟩ := bs h
        refine rb_cut (fun v338 => ⟨envL [(4, .own 0 v338.1.length), (5, .own 1 v338.2.length), (16, .sl (r16.map D.str)), (17, .int .i64 (r16.length : Int)), (18, .int .i64 x18.2.2)], heapL [(0, .vec 64 2 (v338.1.map T_api_Line.d) false), (1, .vec 40 3 (v338.2.map T_api_Diag.d) false)], 2, 66⟩) h387 ?_ ?_
        · clear h
          intro v338 h
          refine xb <| xs <| rK fun K342 RK342 hK342 gK342 => zz ?_
          obtain ⟨y343, q, h⟩ := bK q h
          refine zz ?_
          subst hK342 gK342
          refine es <| xs <| rz ?_
          refine es <| xs <| rz ?_
          refine es <| xs <| xs <| rz ?_
          refine es ?_
          rcases iK k h with ⟨k, h⟩ | ⟨k, h⟩
          · refine xt <| rz ?_
            refine es <| xb <| xs <| rz ?_
            refine es <| xt <| xs <| rz ?_
            refine es ?_
            rcases iK k h with ⟨k, h⟩ | ⟨k, h⟩
            · refine xt <| rK fun K358 RK358 hK358 gK358 => zz ?_
              obtain ⟨h359, h⟩ := ite_on h
              have h360 : x18.2.1.length + 1 ≤ 9223372036854775807 := by omega
              try simp only [Nat.reduceLeDiff] at h360
              have q := And.intro @h360 <| And.intro @h359 <| q
              refine zz ?_
              subst hK358 gK358
              refine bn <| bn ?_
              cases h
              exact en ⟨rfl, wk [(1, some 31)]⟩
            · refine xf <| xk <| bn <| bn ?_
              cases h
              exact en ⟨rfl, wk []⟩
          · refine xf <| xs <| rK fun K364 RK364 hK364 gK364 => zz ?_
            obtain ⟨r365, h366, h⟩ := bs h
            refine cw (a_lines_fields hI h366) <| zz ?_
            subst hK364 gK364
            refine es <| xs <| rz ?_
            refine es ?_
            rcases iK k h with ⟨k, h⟩ | ⟨k, h⟩
            · refine xt <| rz ?_
              refine es <| xb <| xs <| rz ?_
              refine es <| xt <| xs <| rz ?_
              refine es ?_
              rcases iK k h with ⟨k, h⟩ | ⟨k, h⟩
              · refine xt <| rK fun K376 RK376 hK376 gK376 => zz ?_
                obtain ⟨h377, h⟩ := ite_on h
                have h378 : x18.2.1.length + 1 ≤ 9223372036854775807 := by omega
                try simp only [Nat.reduceLeDiff] at h378
                have q := And.intro @h378 <| And.intro @h377 <| q
                refine zz ?_
                subst hK376 gK376
                refine bn <| bn ?_
                cases h
                exact en ⟨rfl, wk [(1, some 40)]⟩
              · refine xf <| xk <| bn <| bn ?_
                cases h
                exact en ⟨rfl, wk []⟩
            · refine xf <| xk <| es <| xb <| xs <| rz ?_
              refine es <| xf <| xs <| rz ?_
              refine es ?_
              rcases iK k h with ⟨k, h⟩ | ⟨k, h⟩
              · refine xt <| rK fun K384 RK384 hK384 gK384 => zz ?_
                obtain ⟨h385, h⟩ := ite_on h
                have h386 : x18.1.length + 1 ≤ 9223372036854775807 := by omega
                try simp only [Nat.reduceLeDiff] at h386
                have q := And.intro @h386 <| And.intro @h385 <| q
                refine zz ?_
                subst hK384 gK384
                refine bn <| bn ?_
                cases h
                exact en ⟨rfl, wk [(0, some 42)]⟩
              · refine xf <| xk <| bn <| bn ?_
                cases h
                exact en ⟨rfl, wk []⟩
        · refine rz ?_
          cases h
          exact en ⟨rfl, wk []⟩
      · refine xf <| xx <| ee ?_
        cases h
        exact en ⟨rfl, wk []⟩
    · refine bh <| es <| xs <| rz ?_
      refine es <| xr ?_
      cases h
      exact en fr
def g_lines_Scan (l_0 : T_api_Line) : Option (T_lines_Scanner) :=
  (if l_0.Fields.length * 32 ≤ 140737488355328 then (some (T_lines_Scanner.mk l_0 0 0 (T_api_Diag.mk 0 0 0))) else none)
theorem a_lines_Scan {I : World → Prop} (hI : Stab I) {H : Nat → Option Blk} {nid : Nat} {l_0 : T_api_Line} {r : T_lines_Scanner} (h : g_lines_Scan l_0 = some r) : CallOK Tryz.prog I 60 [T_api_Line.d l_0] H nid (.ptr nid 0) [(nid, some (.box none [.int .i64 r.line_.Number, .sl (r.line_.Fields.map T_api_Field.d), .int .i64 r.next_, .int .i64 r.last_, .int .i64 r.bad_.Line, .int .i64 r.bad_.Column, .int .i64 r.bad_.Code]))] := by
  refine CallOK.intro (is := []) (css := []) (ds0 := [T_api_Line.d l_0]) (pl := []) hI Tryz.func60 rfl (by decide) (by simp [Tryz.f60]) (by kernel_rfl) rfl rfl rfl rfl (lentAll_of trivial) (by simp) ?_
  have dd := dd_PA; have k := True.intro; have q := k; have rs := Tryz.results60
  unfold g_lines_Scan at h
  simp only [lentH, List.length_cons, List.length_nil, Nat.zero_add, Nat.reduceAdd, Tryz.ntmps60, dd_PA]
  refine xs <| rz ?_
  refine es <| xs <| rD hI fun K6 RK6 hK6 gK6 => zz ?_
  obtain ⟨h7, h⟩ := ite_on h
  have h8 : l_0.Fields.length ≤ 9223372036854775807 := by omega
  try simp only [Nat.reduceLeDiff] at h8
  have q := And.intro @h8 <| And.intro @h7 <| q
  refine zz ?_
  subst hK6 gK6
  refine es <| xr ?_
  cases h
  exact en fp
def g_lines_Scanner_done (s_0 : T_lines_Scanner) : Option (Bool × T_lines_Scanner) :=
  (some ((s_0.bad_.Code != 0), s_0))
theorem a_lines_Scanner_done {I : World → Prop} (hI : Stab I) {H : Nat → Option Blk} {nid : Nat} {i0 : Nat} {p0 : Option Nat} {s_0 : T_lines_Scanner} {r : Bool × T_lines_Scanner} (h : g_lines_Scanner_done s_0 = some r) (b0 : H i0 = some (.box p0 [.int .i64 s_0.line_.Number, .sl (s_0.line_.Fields.map T_api_Field.d), .int .i64 s_0.next_, .int .i64 s_0.last_, .int .i64 s_0.bad_.Line, .int .i64 s_0.bad_.Column, .int .i64 s_0.bad_.Code])) : CallOK Tryz.prog I 105 [.ptr i0 0] H nid (.bool r.1) [(i0, some (.box p0 [.int .i64 r.2.line_.Number, .sl (r.2.line_.Fields.map T_api_Field.d), .int .i64 r.2.next_, .int .i64 r.2.last_, .int .i64 r.2.bad_.Line, .int .i64 r.2.bad_.Column, .int .i64 r.2.bad_.Code]))] := by
  refine CallOK.intro (is := [(i0, p0)]) (css := [[.int .i64 s_0.line_.Number, .sl (s_0.line_.Fields.map T_api_Field.d), .int .i64 s_0.next_, .int .i64 s_0.last_, .int .i64 s_0.bad_.Line, .int .i64 s_0.bad_.Column, .int .i64 s_0.bad_.Code]]) (ds0 := [.ptr 0 0]) (pl := [(0, none)]) hI Tryz.func105 rfl (by decide) (by simp [Tryz.f105]) (by kernel_rfl) rfl rfl rfl rfl (lentAll_of ⟨⟨b0, rfl⟩, trivial⟩) (by simp) ?_
  have dd := dd_PA; have k := True.intro; have q := k; have rs := Tryz.results105
  unfold g_lines_Scanner_done at h
  simp only [lentH, List.length_cons, List.length_nil, Nat.zero_add, Nat.reduceAdd, Tryz.ntmps105, dd_PA]
  refine xs <| rz ?_
  refine es <| xs <| rz ?_
  refine es <| xr ?_
  cases h
  exact en fp
def g_lines_Scanner_note (s_0 : T_lines_Scanner) (column_1 : Int) (e_2 : Int) : Option (T_lines_Scanner) :=
  ((((g_lines_Scanner_done s_0).bind fun r7 => (if r7.1 then (some (r7.2.line_.Number, r7.2.line_.Fields, r7.2.next_, r7.2.last_, r7.2.bad_.Line, r7.2.bad_.Column, r7.2.bad_.Code, false)) else (some (r7.2.line_.Number, r7.2.line_.Fields, r7.2.next_, r7.2.last_, r7.2.bad_.Line, r7.2.bad_.Column, r7.2.bad_.Code, (e_2 != 0))))) : Option (Int × (List T_api_Field) × Int × Int × Int × Int × Int × Bool)).bind fun v5 => (if v5.2.2.2.2.2.2.2 then (some (T_lines_Scanner.mk (T_api_Line.mk v5.1 v5.2.1) v5.2.2.1 v5.2.2.2.1 (T_api_Diag.mk v5.1 column_1 e_2))) else (some (T_lines_Scanner.mk (T_api_Line.mk v5.1 v5.2.1) v5.2.2.1 v5.2.2.2.1 (T_api_Diag.mk v5.2.2.2.2.1 v5.2.2.2.2.2.1 v5.2.2.2.2.2.2.1)))))
theorem a_lines_Scanner_note {I : World → Prop} (hI : Stab I) {H : Nat → Option Blk} {nid : Nat} {i0 : Nat} {p0 : Option Nat} {s_0 : T_lines_Scanner} {column_1 : Int} {e_2 : Int} {r : T_lines_Scanner} (h : g_lines_Scanner_note s_0 column_1 e_2 = some r) (b0 : H i0 = some (.box p0 [.int .i64 s_0.line_.Number, .sl (s_0.line_.Fields.map T_api_Field.d), .int .i64 s_0.next_, .int .i64 s_0.last_, .int .i64 s_0.bad_.Line, .int .i64 s_0.bad_.Column, .int .i64 s_0.bad_.Code])) : CallOK Tryz.prog I 87 [.ptr i0 0, .int .i64 column_1, .int .i64 e_2] H nid (.tup []) [(i0, some (.box p0 [.int .i64 r.line_.Number, .sl (r.line_.Fields.map T_api_Field.d), .int .i64 r.next_, .int .i64 r.last_, .int .i64 r.bad_.Line, .int .i64 r.bad_.Column, .int .i64 r.bad_.Code]))] := by
  refine CallOK.intro (is := [(i0, p0)]) (css := [[.int .i64 s_0.line_.Number, .sl (s_0.line_.Fields.map T_api_Field.d), .int .i64 s_0.next_, .int .i64 s_0.last_, .int .i64 s_0.bad_.Line, .int .i64 s_0.bad_.Column, .int .i64 s_0.bad_.Code]]) (ds0 := [.ptr 0 0, .int .i64 column_1, .int .i64 e_2]) (pl := [(0, none)]) hI Tryz.func87 rfl (by decide) (by simp [Tryz.f87]) (by kernel_rfl) rfl rfl rfl rfl (lentAll_of ⟨⟨b0, rfl⟩, trivial⟩) (by simp) ?_
  have dd := dd_PA; have k := True.intro; have q := k; have rs := Tryz.results87
  unfold g_lines_Scanner_note at h
  simp only [lentH, List.length_cons, List.length_nil, Nat.zero_add, Nat.reduceAdd, Tryz.ntmps87, dd_PA]
  obtain ⟨v5, h10, h⟩ := bs h
  refine rb_cut (fun v5 => ⟨envL [(0, .ptr 0 0), (1, .int .i64 column_1), (2, .int .i64 e_2), (12, .bool v5.2.2.2.2.2.2.2)], heapL [(0, .box (some 0) [.int .i64 v5.1, .sl (v5.2.1.map T_api_Field.d), .int .i64 v5.2.2.1, .int .i64 v5.2.2.2.1, .int .i64 v5.2.2.2.2.1, .int .i64 v5.2.2.2.2.2.1, .int .i64 v5.2.2.2.2.2.2.1])], 1, 24⟩) h10 ?_ ?_
  · clear h
    intro v5 h
    refine rK fun K6 RK6 hK6 gK6 => zz ?_
    obtain ⟨r7, h8, h⟩ := bs h
    refine eW.intro (a_lines_Scanner_done hI (nid := 2) (i0 := 0) (p0 := (some 0)) h8 fz) fi rfl <| zz ?_
    rcases iK k h with ⟨k, h⟩ | ⟨k, h⟩
    · refine zz ?_
      subst hK6 gK6
      cases h
      exact en ⟨rfl, wk []⟩
    · refine zz ?_
      subst hK6 gK6
      cases h
      exact en ⟨rfl, wk []⟩
  · rcases iK k h with ⟨k, h⟩ | ⟨k, h⟩
    · refine xt <| rz ?_
      cases h
      exact en fp
    · refine xf <| xk ?_
      cases h
      exact en fp
def g_lines_Scanner_take (s_0 : T_lines_Scanner) (quoted_1 : Bool) : Option ((List UInt8) × Bool × T_lines_Scanner) :=
  ((g_lines_Scanner_done s_0).bind fun r7 => (if r7.1 then (some ([], false, r7.2)) else (if (r7.2.next_ == (r7.2.line_.Fields.length : Int)) then ((g_lines_Scanner_note r7.2 0 4).bind fun r19 => (some ([], false, r19))) else ((atI r7.2.line_.Fields r7.2.next_).bind fun y27 => (if (y27.Quoted == quoted_1) then (some (y27.Text, true, (T_lines_Scanner.mk r7.2.line_ (IntKind.i64.wrap (r7.2.next_ + 1)) y27.Column r7.2.bad_))) else ((g_lines_Scanner_note r7.2 y27.Column 4).bind fun r42 => (some ([], false, r42))))))))
theorem a_lines_Scanner_take {I : World → Prop} (hI : Stab I) {H : Nat → Option Blk} {nid : Nat} {i0 : Nat} {p0 : Option Nat} {s_0 : T_lines_Scanner} {quoted_1 : Bool} {r : (List UInt8) × Bool × T_lines_Scanner} (h : g_lines_Scanner_take s_0 quoted_1 = some r) (b0 : H i0 = some (.box p0 [.int .i64 s_0.line_.Number, .sl (s_0.line_.Fields.map T_api_Field.d), .int .i64 s_0.next_, .int .i64 s_0.last_, .int .i64 s_0.bad_.Line, .int .i64 s_0.bad_.Column, .int .i64 s_0.bad_.Code])) : CallOK Tryz.prog I 85 [.ptr i0 0, .bool quoted_1] H nid (.tup [.str r.1, .bool r.2.1]) [(i0, some (.box p0 [.int .i64 r.2.2.line_.Number, .sl (r.2.2.line_.Fields.map T_api_Field.d), .int .i64 r.2.2.next_, .int .i64 r.2.2.last_, .int .i64 r.2.2.bad_.Line, .int .i64 r.2.2.bad_.Column, .int .i64 r.2.2.bad_.Code]))] := by
  refine CallOK.intro (is := [(i0, p0)]) (css := [[.int .i64 s_0.line_.Number, .sl (s_0.line_.Fields.map T_api_Field.d), .int .i64 s_0.next_, .int .i64 s_0.last_, .int .i64 s_0.bad_.Line, .int .i64 s_0.bad_.Column, .int .i64 s_0.bad_.Code]]) (ds0 := [.ptr 0 0, .bool quoted_1]) (pl := [(0, none)]) hI Tryz.func85 rfl (by decide) (by simp [Tryz.f85]) (by kernel_rfl) rfl rfl rfl rfl (lentAll_of ⟨⟨b0, rfl⟩, trivial⟩) (by simp) ?_
  have dd := dd_PA; have k := True.intro; have q := k; have rs := Tryz.results85
  unfold g_lines_Scanner_take at h
  simp only [lentH, List.length_cons, List.length_nil, Nat.zero_add, Nat.reduceAdd, Tryz.ntmps85, dd_PA]
  refine xs <| rz ?_
  refine es <| xs <| xs <| rK fun K6 RK6 hK6 gK6 => zz ?_
  obtain ⟨r7, h8, h⟩ := bs h
  refine eW.intro (a_lines_Scanner_done hI (nid := 4) (i0 := 0) (p0 := (some 0)) h8 fz) fi rfl <| zz ?_
  subst hK6 gK6
  refine es ?_
  rcases iK k h with ⟨k, h⟩ | ⟨k, h⟩
  · refine xt <| xs <| rz ?_
    refine es <| xr <| er ?_
    cases h
    exact en fp
  · refine xf <| xk <| es <| xs <| xs <| rd hI ?_
    refine es ?_
    rcases iK k h with ⟨k, h⟩ | ⟨k, h⟩
    · refine xt <| xs <| rK fun K18 RK18 hK18 gK18 => zz ?_
      obtain ⟨r19, h20, h⟩ := bs h
      refine eW.intro (a_lines_Scanner_note hI (nid := 17) (i0 := 0) (p0 := (some 0)) h20 fz) fi rfl <| zz ?_
      subst hK18 gK18
      refine es <| xs <| rz ?_
      refine es <| xr <| er ?_
      cases h
      exact en fp
    · refine xf <| xk <| es <| xs <| rD hI fun K26 RK26 hK26 gK26 => zz ?_
      obtain ⟨y27, q, h⟩ := bK q h
      refine zz ?_
      refine hd <| zz ?_
      subst hK26 gK26
      refine es <| xs <| xs <| rz ?_
      refine es ?_
      rcases iK k h with ⟨k, h⟩ | ⟨k, h⟩
      · refine xf <| xk <| es <| xs <| rz ?_
        refine es <| xs <| rz ?_
        refine es <| xs <| rz ?_
        refine es <| xr ?_
        cases h
        exact en fp
      · refine xt <| xs <| rK fun K41 RK41 hK41 gK41 => zz ?_
        obtain ⟨r42, h43, h⟩ := bs h
        refine eW.intro (a_lines_Scanner_note hI (nid := 36) (i0 := 0) (p0 := (some 0)) h43 fz) fi rfl <| zz ?_
        subst hK41 gK41
        refine es <| xs <| rz ?_
        refine es <| xr <| er ?_
        cases h
        exact en fp
def g_lines_Scanner_Quoted (s_0 : T_lines_Scanner) : Option ((List UInt8) × T_lines_Scanner) :=
  ((g_lines_Scanner_take s_0 true).bind fun r7 => (some (r7.1, r7.2.2)))
theorem a_lines_Scanner_Quoted {I : World → Prop} (hI : Stab I) {H : Nat → Option Blk} {nid : Nat} {i0 : Nat} {p0 : Option Nat} {s_0 : T_lines_Scanner} {r : (List UInt8) × T_lines_Scanner} (h : g_lines_Scanner_Quoted s_0 = some r) (b0 : H i0 = some (.box p0 [.int .i64 s_0.line_.Number, .sl (s_0.line_.Fields.map T_api_Field.d), .int .i64 s_0.next_, .int .i64 s_0.last_, .int .i64 s_0.bad_.Line, .int .i64 s_0.bad_.Column, .int .i64 s_0.bad_.Code])) : CallOK Tryz.prog I 65 [.ptr i0 0] H nid (.str r.1) [(i0, some (.box p0 [.int .i64 r.2.line_.Number, .sl (r.2.line_.Fields.map T_api_Field.d), .int .i64 r.2.next_, .int .i64 r.2.last_, .int .i64 r.2.bad_.Line, .int .i64 r.2.bad_.Column, .int .i64 r.2.bad_.Code]))] := by
  refine CallOK.intro (is := [(i0, p0)]) (css := [[.int .i64 s_0.line_.Number, .sl (s_0.line_.Fields.map T_api_Field.d), .int .i64 s_0.next_, .int .i64 s_0.last_, .int .i64 s_0.bad_.Line, .int .i64 s_0.bad_.Column, .int .i64 s_0.bad_.Code]]) (ds0 := [.ptr 0 0]) (pl := [(0, none)]) hI Tryz.func65 rfl (by decide) (by simp [Tryz.f65]) (by kernel_rfl) rfl rfl rfl rfl (lentAll_of ⟨⟨b0, rfl⟩, trivial⟩) (by simp) ?_
  have dd := dd_PA; have k := True.intro; have q := k; have rs := Tryz.results65
  unfold g_lines_Scanner_Quoted at h
  simp only [lentH, List.length_cons, List.length_nil, Nat.zero_add, Nat.reduceAdd, Tryz.ntmps65, dd_PA]
  refine xs <| rz ?_
  refine es <| xs <| rK fun K6 RK6 hK6 gK6 => zz ?_
  obtain ⟨r7, h8, h⟩ := bs h
  refine eW.intro (a_lines_Scanner_take hI (nid := 3) (i0 := 0) (p0 := (some 0)) h8 fz) fi rfl <| zz ?_
  subst hK6 gK6
  refine es <| xs <| rz ?_
  refine es <| xr ?_
  cases h
  exact en fp
def g_lines_Scanner_Word (s_0 : T_lines_Scanner) : Option ((List UInt8) × T_lines_Scanner) :=
  ((g_lines_Scanner_take s_0 false).bind fun r7 => (some (r7.1, r7.2.2)))
theorem a_lines_Scanner_Word {I : World → Prop} (hI : Stab I) {H : Nat → Option Blk} {nid : Nat} {i0 : Nat} {p0 : Option Nat} {s_0 : T_lines_Scanner} {r : (List UInt8) × T_lines_Scanner} (h : g_lines_Scanner_Word s_0 = some r) (b0 : H i0 = some (.box p0 [.int .i64 s_0.line_.Number, .sl (s_0.line_.Fields.map T_api_Field.d), .int .i64 s_0.next_, .int .i64 s_0.last_, .int .i64 s_0.bad_.Line, .int .i64 s_0.bad_.Column, .int .i64 s_0.bad_.Code])) : CallOK Tryz.prog I 61 [.ptr i0 0] H nid (.str r.1) [(i0, some (.box p0 [.int .i64 r.2.line_.Number, .sl (r.2.line_.Fields.map T_api_Field.d), .int .i64 r.2.next_, .int .i64 r.2.last_, .int .i64 r.2.bad_.Line, .int .i64 r.2.bad_.Column, .int .i64 r.2.bad_.Code]))] := by
  refine CallOK.intro (is := [(i0, p0)]) (css := [[.int .i64 s_0.line_.Number, .sl (s_0.line_.Fields.map T_api_Field.d), .int .i64 s_0.next_, .int .i64 s_0.last_, .int .i64 s_0.bad_.Line, .int .i64 s_0.bad_.Column, .int .i64 s_0.bad_.Code]]) (ds0 := [.ptr 0 0]) (pl := [(0, none)]) hI Tryz.func61 rfl (by decide) (by simp [Tryz.f61]) (by kernel_rfl) rfl rfl rfl rfl (lentAll_of ⟨⟨b0, rfl⟩, trivial⟩) (by simp) ?_
  have dd := dd_PA; have k := True.intro; have q := k; have rs := Tryz.results61
  unfold g_lines_Scanner_Word at h
  simp only [lentH, List.length_cons, List.length_nil, Nat.zero_add, Nat.reduceAdd, Tryz.ntmps61, dd_PA]
  refine xs <| rz ?_
  refine es <| xs <| rK fun K6 RK6 hK6 gK6 => zz ?_
  obtain ⟨r7, h8, h⟩ := bs h
  refine eW.intro (a_lines_Scanner_take hI (nid := 3) (i0 := 0) (p0 := (some 0)) h8 fz) fi rfl <| zz ?_
  subst hK6 gK6
  refine es <| xs <| rz ?_
  refine es <| xr ?_
  cases h
  exact en fp
def g_lines_Scanner_End (s_0 : T_lines_Scanner) : Option (T_api_Diag × Bool × T_lines_Scanner) :=
  (if (s_0.bad_.Code != 0) then (some (s_0.bad_, true, s_0)) else (if (decide (s_0.next_ < (s_0.line_.Fields.length : Int))) then ((atI s_0.line_.Fields s_0.next_).bind fun y33 => (some ((T_api_Diag.mk s_0.line_.Number y33.Column 4), true, s_0))) else (some ((T_api_Diag.mk 0 0 0), false, s_0))))
theorem a_lines_Scanner_End {I : World → Prop} (hI : Stab I) {H : Nat → Option Blk} {nid : Nat} {i0 : Nat} {p0 : Option Nat} {s_0 : T_lines_Scanner} {r : T_api_Diag × Bool × T_lines_Scanner} (h : g_lines_Scanner_End s_0 = some r) (b0 : H i0 = some (.box p0 [.int .i64 s_0.line_.Number, .sl (s_0.line_.Fields.map T_api_Field.d), .int .i64 s_0.next_, .int .i64 s_0.last_, .int .i64 s_0.bad_.Line, .int .i64 s_0.bad_.Column, .int .i64 s_0.bad_.Code])) : CallOK Tryz.prog I 66 [.ptr i0 0] H nid (.tup [T_api_Diag.d r.1, .bool r.2.1]) [(i0, some (.box p0 [.int .i64 r.2.2.line_.Number, .sl (r.2.2.line_.Fields.map T_api_Field.d), .int .i64 r.2.2.next_, .int .i64 r.2.2.last_, .int .i64 r.2.2.bad_.Line, .int .i64 r.2.2.bad_.Column, .int .i64 r.2.2.bad_.Code]))] := by
  refine CallOK.intro (is := [(i0, p0)]) (css := [[.int .i64 s_0.line_.Number, .sl (s_0.line_.Fields.map T_api_Field.d), .int .i64 s_0.next_, .int .i64 s_0.last_, .int .i64 s_0.bad_.Line, .int .i64 s_0.bad_.Column, .int .i64 s_0.bad_.Code]]) (ds0 := [.ptr 0 0]) (pl := [(0, none)]) hI Tryz.func66 rfl (by decide) (by simp [Tryz.f66]) (by kernel_rfl) rfl rfl rfl rfl (lentAll_of ⟨⟨b0, rfl⟩, trivial⟩) (by simp) ?_
  have dd := dd_PA; have k := True.intro; have q := k; have rs := Tryz.results66
  unfold g_lines_Scanner_End at h
  simp only [lentH, List.length_cons, List.length_nil, Nat.zero_add, Nat.reduceAdd, Tryz.ntmps66, dd_PA]
  refine xs <| rz ?_
  refine es <| xs <| xb <| xs <| rz ?_
  refine es <| xf <| xs <| rz ?_
  refine es ?_
  rcases iK k h with ⟨k, h⟩ | ⟨k, h⟩
  · refine xt <| xs <| rz ?_
    refine es <| xr <| br <| er ?_
    cases h
    exact en fp
  · refine xf <| xs <| rd hI ?_
    refine es ?_
    rcases iK k h with ⟨k, h⟩ | ⟨k, h⟩
    · refine xt <| xs <| rD hI fun K32 RK32 hK32 gK32 => zz ?_
      obtain ⟨y33, q, h⟩ := bK q h
      refine zz ?_
      refine hd <| zz ?_
      subst hK32 gK32
      refine es <| xr <| br <| er ?_
      cases h
      exact en fp
    · refine xf <| xk <| bn <| es <| xs <| rz ?_
      refine es <| xr ?_
      cases h
      exact en fp
def g_lines_Number_s1 (r7 : (List UInt8) × Bool) (x28 : Int) : Option (Nx (Int) (Unit ⊕ Unit)) :=
  (if (decide (x28 < (r7.1.length : Int))) then ((atI r7.1 x28).bind fun b91 => (if (decide ((b91.toNat : Int) < 48)) then (some (.out (.inl ()))) else (if (decide (57 < (b91.toNat : Int))) then (some (.out (.inl ()))) else (some (.go (IntKind.i64.wrap (x28 + 1))))))) else (some (.out (.inr ()))))
def g_lines_Number (s_0 : List UInt8) (lo_1 : Int) (hi_2 : Int) : Option (Int × Int) :=
  ((g_strings_CutPrefix s_0 [45]).bind fun r7 => (((if (r7.1 == ([] : List UInt8)) then (some true) else ((atI r7.1 0).bind fun b18 => (if ((b18.toNat : Int) == 48) then (if (decide (1 < (r7.1.length : Int))) then (some true) else (some r7.2)) else (some false)))) : Option (Bool)).bind fun v15 => (if v15 then (some (0, 4)) else ((iter (g_lines_Number_s1 r7) 0).bind fun e29 => (match e29 with | Sum.inl e29 => (some (0, 4)) | Sum.inr (e29) => ((g_strconv_ParseInt s_0 10 64).bind fun r105 => (((if r105.2 then (some true) else (if (decide (r105.1 < lo_1)) then (some true) else (some (decide (hi_2 < r105.1))))) : Option (Bool)).bind fun v110 => (if v110 then (some (0, 2)) else (some (r105.1, 0))))))))))
theorem a_lines_Number {I : World → Prop} (hI : Stab I) (hPIv : ∀ w, I w → PIv w) {s_0 : List UInt8} {lo_1 : Int} {hi_2 : Int} {r : Int × Int} (h : g_lines_Number s_0 lo_1 hi_2 = some r) : AFun Tryz.prog I 86 [.str s_0, .int .i64 lo_1, .int .i64 hi_2] (.tup [.int .i64 r.1, .int .i64 r.2]) := by
  have dd := dd_PA; have k := True.intro; have q := k; have rs := Tryz.results86
  unfold g_lines_Number at h
  refine .en hI Tryz.func86 Tryz.ntmps86 ?_
  refine xs <| rz ?_
  refine es <| xs <| rK fun K6 RK6 hK6 gK6 => zz ?_
  obtain ⟨r7, h8, h⟩ := bs h
  refine cw (a_strings_CutPrefix I hI s_0 [45] h8) <| zz ?_
  subst hK6 gK6
  refine es <| xs ?_
  obtain ⟨v15, h22, h⟩ := bs h
  refine rb_cut (fun v15 => ⟨envL [(0, .str s_0), (1, .int .i64 lo_1), (2, .int .i64 hi_2), (8, .str r7.1), (32, .bool v15)], heapL [], 0, 67⟩) h22 ?_ ?_
  · clear h
    intro v15 h
    refine rK fun K16 RK16 hK16 gK16 => zz ?_
    rcases iK k h with ⟨k, h⟩ | ⟨k, h⟩
    · refine zz ?_
      subst hK16 gK16
      cases h
      exact en ⟨rfl, wk []⟩
    · refine zz ?_
      obtain ⟨b18, q, h⟩ := bK q h
      refine zz ?_
      rcases iK k h with ⟨k, h⟩ | ⟨k, h⟩
      · refine zz ?_
        rcases iK k h with ⟨k, h⟩ | ⟨k, h⟩
        · refine zz ?_
          subst hK16 gK16
          cases h
          exact en ⟨rfl, wk []⟩
        · refine zz ?_
          subst hK16 gK16
          cases h
          exact en ⟨rfl, wk []⟩
      · refine zz ?_
        subst hK16 gK16
        cases h
        exact en ⟨rfl, wk []⟩
  · rcases iK k h with ⟨k, h⟩ | ⟨k, h⟩
    · refine xt <| xs <| rz ?_
      refine es <| xr <| er ?_
      cases h
      exact en fr
    · refine xf <| xk <| es <| xs <| xs <| rz ?_
      refine es <| xb ?_
      obtain ⟨e29, h100, h⟩ := bs h
      refine rb_loop (fun x28 => ⟨envL [(0, .str s_0), (1, .int .i64 lo_1), (2, .int .i64 hi_2), (8, .str r7.1), (34, .int .i64 (r7.1.length : Int)), (35, .int .i64 x28)], heapL [], 0, 67⟩) (fun w => match w with | Sum.inl _ => .ret | Sum.inr (_) => .exit 0) (fun w => match w with | Sum.inl e29 => ⟨envL [(6, .int .i64 0), (7, .int .i64 4)], heapL [], 0, 67⟩ | Sum.inr (e29) => ⟨envL [(0, .str s_0), (1, .int .i64 lo_1), (2, .int .i64 hi_2)], heapL [], 0, 67⟩) h100 (wk []) (by intro w; rcases w with w | w <;> simp) ?_ ?_
      · clear h
        intro x28 y h
        unfold g_lines_Number_s1 at h
        refine xs <| rz ?_
        refine es <| xs ?_
        rcases iK k h with ⟨k, h⟩ | ⟨k, h⟩
        · refine xt <| xk <| es <| xs <| xb <| xs <| rz ?_
          refine es <| xs <| rK fun K90 RK90 hK90 gK90 => zz ?_
          obtain ⟨b91, q, h⟩ := bK q h
          refine zz ?_
          rcases iK k h with ⟨k, h⟩ | ⟨k, h⟩
          · refine zz ?_
            subst hK90 gK90
            refine es <| xt <| xs <| rz ?_
            refine es <| xr <| br <| er ?_
            cases h
            exact en ⟨rfl, wk []⟩
          · refine zz ?_
            subst hK90 gK90
            refine es ?_
            rcases iK k h with ⟨k, h⟩ | ⟨k, h⟩
            · refine xt <| xs <| rz ?_
              refine es <| xr <| br <| er ?_
              cases h
              exact en ⟨rfl, wk []⟩
            · refine xf <| xk <| bn <| es <| rz ?_
              cases h
              exact en ⟨rfl, wk []⟩
        · refine xf <| xx <| ee ?_
          cases h
          exact en ⟨rfl, wk []⟩
      · rcases e29 with e29 | e29
        · try dsimp only at h ⊢
          refine br <| er ?_
          cases h
          exact en fr
        · try dsimp only at h ⊢
          refine bh <| es <| xs <| rK fun K104 RK104 hK104 gK104 => zz ?_
          obtain ⟨r105, h106, h⟩ := bs h
          refine cw (a_strconv_ParseInt I hI hPIv s_0 10 64 h106) <| zz ?_
          subst hK104 gK104
          refine es <| xs ?_
          obtain ⟨v110, h114, h⟩ := bs h
          refine rb_cut (fun v110 => ⟨envL [(11, .int .i64 r105.1), (65, .bool v110)], heapL [], 0, 67⟩) h114 ?_ ?_
          · clear h
            intro v110 h
            refine rK fun K111 RK111 hK111 gK111 => zz ?_
            rcases iK k h with ⟨k, h⟩ | ⟨k, h⟩
            · refine zz ?_
              subst hK111 gK111
              cases h
              exact en ⟨rfl, wk []⟩
            · refine zz ?_
              rcases iK k h with ⟨k, h⟩ | ⟨k, h⟩
              · refine zz ?_
                subst hK111 gK111
                cases h
                exact en ⟨rfl, wk []⟩
              · refine zz ?_
                subst hK111 gK111
                cases h
                exact en ⟨rfl, wk []⟩
          · rcases iK k h with ⟨k, h⟩ | ⟨k, h⟩
            · refine xt <| xs <| rz ?_
              refine es <| xr <| er ?_
              cases h
              exact en fr
            · refine xf <| xk <| es <| xs <| rz ?_
              refine es <| xr ?_
              cases h
              exact en fr
def g_lines_Scanner_Number (s_0 : T_lines_Scanner) (lo_1 : Int) (hi_2 : Int) : Option (Int × T_lines_Scanner) :=
  ((g_lines_Scanner_take s_0 false).bind fun r7 => (if r7.2.1 then ((g_lines_Number r7.1 lo_1 hi_2).bind fun r16 => (if (r16.2 != 0) then ((g_lines_Scanner_note r7.2.2 r7.2.2.last_ r16.2).bind fun r25 => (some (0, r25))) else (some (r16.1, r7.2.2)))) else (some (0, r7.2.2))))
theorem a_lines_Scanner_Number {I : World → Prop} (hI : Stab I) (hPIv : ∀ w, I w → PIv w) {H : Nat → Option Blk} {nid : Nat} {i0 : Nat} {p0 : Option Nat} {s_0 : T_lines_Scanner} {lo_1 : Int} {hi_2 : Int} {r : Int × T_lines_Scanner} (h : g_lines_Scanner_Number s_0 lo_1 hi_2 = some r) (b0 : H i0 = some (.box p0 [.int .i64 s_0.line_.Number, .sl (s_0.line_.Fields.map T_api_Field.d), .int .i64 s_0.next_, .int .i64 s_0.last_, .int .i64 s_0.bad_.Line, .int .i64 s_0.bad_.Column, .int .i64 s_0.bad_.Code])) : CallOK Tryz.prog I 63 [.ptr i0 0, .int .i64 lo_1, .int .i64 hi_2] H nid (.int .i64 r.1) [(i0, some (.box p0 [.int .i64 r.2.line_.Number, .sl (r.2.line_.Fields.map T_api_Field.d), .int .i64 r.2.next_, .int .i64 r.2.last_, .int .i64 r.2.bad_.Line, .int .i64 r.2.bad_.Column, .int .i64 r.2.bad_.Code]))] := by
  refine CallOK.intro (is := [(i0, p0)]) (css := [[.int .i64 s_0.line_.Number, .sl (s_0.line_.Fields.map T_api_Field.d), .int .i64 s_0.next_, .int .i64 s_0.last_, .int .i64 s_0.bad_.Line, .int .i64 s_0.bad_.Column, .int .i64 s_0.bad_.Code]]) (ds0 := [.ptr 0 0, .int .i64 lo_1, .int .i64 hi_2]) (pl := [(0, none)]) hI Tryz.func63 rfl (by decide) (by simp [Tryz.f63]) (by kernel_rfl) rfl rfl rfl rfl (lentAll_of ⟨⟨b0, rfl⟩, trivial⟩) (by simp) ?_
  have dd := dd_PA; have k := True.intro; have q := k; have rs := Tryz.results63
  unfold g_lines_Scanner_Number at h
  simp only [lentH, List.length_cons, List.length_nil, Nat.zero_add, Nat.reduceAdd, Tryz.ntmps63, dd_PA]
  refine xs <| rz ?_
  refine es <| xs <| rK fun K6 RK6 hK6 gK6 => zz ?_
  obtain ⟨r7, h8, h⟩ := bs h
  refine eW.intro (a_lines_Scanner_take hI (nid := 3) (i0 := 0) (p0 := (some 0)) h8 fz) fi rfl <| zz ?_
  subst hK6 gK6
  refine es <| xs <| xs <| rz ?_
  refine es ?_
  rcases iK k h with ⟨k, h⟩ | ⟨k, h⟩
  · refine xf <| xk <| es <| xs <| rK fun K15 RK15 hK15 gK15 => zz ?_
    obtain ⟨r16, h17, h⟩ := bs h
    refine cw (a_lines_Number hI hPIv h17) <| zz ?_
    subst hK15 gK15
    refine es <| xs <| xs <| rz ?_
    refine es ?_
    rcases iK k h with ⟨k, h⟩ | ⟨k, h⟩
    · refine xt <| xs <| rK fun K24 RK24 hK24 gK24 => zz ?_
      obtain ⟨r25, h26, h⟩ := bs h
      refine eW.intro (a_lines_Scanner_note hI (nid := 28) (i0 := 0) (p0 := (some 0)) h26 fz) fi rfl <| zz ?_
      subst hK24 gK24
      refine es <| xs <| rz ?_
      refine es <| xr <| er ?_
      cases h
      exact en fp
    · refine xf <| xk <| es <| xs <| rz ?_
      refine es <| xr ?_
      cases h
      exact en fp
  · refine xt <| xs <| rz ?_
    refine es <| xr <| er ?_
    cases h
    exact en fp
def g_lines_Name_s1 (s_0 : List UInt8) (x22 : Int) : Option (Nx (Int) (Unit ⊕ Unit)) :=
  (if (decide (x22 < (s_0.length : Int))) then ((atI s_0 x22).bind fun b144 => (((if (decide ((b144.toNat : Int) < 65)) then (if (decide ((b144.toNat : Int) < 48)) then (if ((b144.toNat : Int) != 95) then (some ((b144.toNat : Int) != 45)) else (some false)) else (if (decide (57 < (b144.toNat : Int))) then (if ((b144.toNat : Int) != 95) then (some ((b144.toNat : Int) != 45)) else (some false)) else (some false))) else (if (decide (90 < (b144.toNat : Int))) then (if (decide ((b144.toNat : Int) < 48)) then (if ((b144.toNat : Int) != 95) then (some ((b144.toNat : Int) != 45)) else (some false)) else (if (decide (57 < (b144.toNat : Int))) then (if ((b144.toNat : Int) != 95) then (some ((b144.toNat : Int) != 45)) else (some false)) else (some false))) else (some false))) : Option (Bool)).bind fun v157 => (if v157 then (some (.out (.inl ()))) else (some (.go (IntKind.i64.wrap (x22 + 1))))))) else (some (.out (.inr ()))))
def g_lines_Name (s_0 : List UInt8) : Option (Bool) :=
  (((if (decide ((s_0.length : Int) < 1)) then (some true) else (if (decide (16 < (s_0.length : Int))) then (some true) else ((atI s_0 0).bind fun b13 => (if (decide ((b13.toNat : Int) < 65)) then (some true) else (some (decide (90 < (b13.toNat : Int)))))))) : Option (Bool)).bind fun v9 => (if v9 then (some false) else ((iter (g_lines_Name_s1 s_0) 0).bind fun e23 => (match e23 with | Sum.inl e23 => (some false) | Sum.inr (e23) => (some true)))))
theorem a_lines_Name {I : World → Prop} (hI : Stab I) {s_0 : List UInt8} {r : Bool} (h : g_lines_Name s_0 = some r) : AFun Tryz.prog I 22 [.str s_0] (.bool r) := by
  have dd := dd_PA; have k := True.intro; have q := k; have rs := Tryz.results22
  unfold g_lines_Name at h
  refine .en hI Tryz.func22 Tryz.ntmps22 ?_
  refine xs <| rz ?_
  refine es <| xs ?_
  obtain ⟨v9, h16, h⟩ := bs h
  refine rb_cut (fun v9 => ⟨envL [(0, .str s_0), (22, .bool v9)], heapL [], 0, 54⟩) h16 ?_ ?_
  · clear h
    intro v9 h
    refine rK fun K10 RK10 hK10 gK10 => zz ?_
    rcases iK k h with ⟨k, h⟩ | ⟨k, h⟩
    · refine zz ?_
      subst hK10 gK10
      cases h
      exact en ⟨rfl, wk []⟩
    · refine zz ?_
      rcases iK k h with ⟨k, h⟩ | ⟨k, h⟩
      · refine zz ?_
        subst hK10 gK10
        cases h
        exact en ⟨rfl, wk []⟩
      · refine zz ?_
        obtain ⟨b13, q, h⟩ := bK q h
        refine zz ?_
        rcases iK k h with ⟨k, h⟩ | ⟨k, h⟩
        · refine zz ?_
          subst hK10 gK10
          cases h
          exact en ⟨rfl, wk []⟩
        · refine zz ?_
          subst hK10 gK10
          cases h
          exact en ⟨rfl, wk []⟩
  · rcases iK k h with ⟨k, h⟩ | ⟨k, h⟩
    · refine xt <| xs <| rz ?_
      refine es <| xr <| er ?_
      cases h
      exact en fr
    · refine xf <| xk <| es <| xs <| xs <| rz ?_
      refine es <| xb ?_
      obtain ⟨e23, h174, h⟩ := bs h
      refine rb_loop (fun x22 => ⟨envL [(0, .str s_0), (24, .int .i64 (s_0.length : Int)), (25, .int .i64 x22)], heapL [], 0, 54⟩) (fun w => match w with | Sum.inl _ => .ret | Sum.inr (_) => .exit 0) (fun w => match w with | Sum.inl e23 => ⟨envL [(2, .bool false)], heapL [], 0, 54⟩ | Sum.inr (e23) => ⟨envL [], heapL [], 0, 54⟩) h174 (wk []) (by intro w; rcases w with w | w <;> simp) ?_ ?_
      · clear h
        intro x22 y h
        unfold g_lines_Name_s1 at h
        refine xs <| rz ?_
        refine es <| xs ?_
        rcases iK k h with ⟨k, h⟩ | ⟨k, h⟩
        · refine xt <| xk <| es <| xs <| xb <| xs <| rz ?_
          refine es <| xs <| rK fun K143 RK143 hK143 gK143 => zz ?_
          obtain ⟨b144, q, h⟩ := bK q h
          refine zz ?_
          subst hK143 gK143
          refine es ?_
          obtain ⟨v157, h169, h⟩ := bs h
          refine rb_cut (fun v157 => ⟨envL [(0, .str s_0), (24, .int .i64 (s_0.length : Int)), (25, .int .i64 x22), (52, .bool v157)], heapL [], 0, 54⟩) h169 ?_ ?_
          · clear h
            intro v157 h
            refine rK fun K158 RK158 hK158 gK158 => zz ?_
            rcases iK k h with ⟨k, h⟩ | ⟨k, h⟩
            · refine zz ?_
              rcases iK k h with ⟨k, h⟩ | ⟨k, h⟩
              · refine zz ?_
                rcases iK k h with ⟨k, h⟩ | ⟨k, h⟩
                · refine zz ?_
                  subst hK158 gK158
                  cases h
                  exact en ⟨rfl, wk []⟩
                · refine zz ?_
                  subst hK158 gK158
                  cases h
                  exact en ⟨rfl, wk []⟩
              · refine zz ?_
                rcases iK k h with ⟨k, h⟩ | ⟨k, h⟩
                · refine zz ?_
                  rcases iK k h with ⟨k, h⟩ | ⟨k, h⟩
                  · refine zz ?_
                    subst hK158 gK158
                    cases h
                    exact en ⟨rfl, wk []⟩
                  · refine zz ?_
                    subst hK158 gK158
                    cases h
                    exact en ⟨rfl, wk []⟩
                · refine zz ?_
                  subst hK158 gK158
                  cases h
                  exact en ⟨rfl, wk []⟩
            · refine zz ?_
              rcases iK k h with ⟨k, h⟩ | ⟨k, h⟩
              · refine zz ?_
                rcases iK k h with ⟨k, h⟩ | ⟨k, h⟩
                · refine zz ?_
                  rcases iK k h with ⟨k, h⟩ | ⟨k, h⟩
                  · refine zz ?_
                    subst hK158 gK158
                    cases h
                    exact en ⟨rfl, wk []⟩
                  · refine zz ?_
                    subst hK158 gK158
                    cases h
                    exact en ⟨rfl, wk []⟩
                · refine zz ?_
                  rcases iK k h with ⟨k, h⟩ | ⟨k, h⟩
                  · refine zz ?_
                    rcases iK k h with ⟨k, h⟩ | ⟨k, h⟩
                    · refine zz ?_
                      subst hK158 gK158
                      cases h
                      exact en ⟨rfl, wk []⟩
                    · refine zz ?_
                      subst hK158 gK158
                      cases h
                      exact en ⟨rfl, wk []⟩
                  · refine zz ?_
                    subst hK158 gK158
                    cases h
                    exact en ⟨rfl, wk []⟩
              · refine zz ?_
                subst hK158 gK158
                cases h
                exact en ⟨rfl, wk []⟩
          · rcases iK k h with ⟨k, h⟩ | ⟨k, h⟩
            · refine xt <| xs <| rz ?_
              refine es <| xr <| br <| er ?_
              cases h
              exact en ⟨rfl, wk []⟩
            · refine xf <| xk <| bn <| es <| rz ?_
              cases h
              exact en ⟨rfl, wk []⟩
        · refine xf <| xx <| ee ?_
          cases h
          exact en ⟨rfl, wk []⟩
      · rcases e23 with e23 | e23
        · try dsimp only at h ⊢
          refine br <| er ?_
          cases h
          exact en fr
        · try dsimp only at h ⊢
          refine bh <| es <| xs <| rz ?_
          refine es <| xr ?_
          cases h
          exact en fr
def g_lines_Scanner_Name (s_0 : T_lines_Scanner) (empty_1 : Bool) : Option ((List UInt8) × T_lines_Scanner) :=
  ((g_lines_Scanner_take s_0 false).bind fun r7 => (((if r7.2.1 then (if empty_1 then (some (r7.1 == ([45] : List UInt8))) else (some false)) else (some true)) : Option (Bool)).bind fun v12 => (if v12 then (some ([], r7.2.2)) else ((g_lines_Name r7.1).bind fun r24 => (if r24 then (some (r7.1, r7.2.2)) else ((g_lines_Scanner_note r7.2.2 r7.2.2.last_ 5).bind fun r33 => (some ([], r33))))))))
theorem a_lines_Scanner_Name {I : World → Prop} (hI : Stab I) {H : Nat → Option Blk} {nid : Nat} {i0 : Nat} {p0 : Option Nat} {s_0 : T_lines_Scanner} {empty_1 : Bool} {r : (List UInt8) × T_lines_Scanner} (h : g_lines_Scanner_Name s_0 empty_1 = some r) (b0 : H i0 = some (.box p0 [.int .i64 s_0.line_.Number, .sl (s_0.line_.Fields.map T_api_Field.d), .int .i64 s_0.next_, .int .i64 s_0.last_, .int .i64 s_0.bad_.Line, .int .i64 s_0.bad_.Column, .int .i64 s_0.bad_.Code])) : CallOK Tryz.prog I 64 [.ptr i0 0, .bool empty_1] H nid (.str r.1) [(i0, some (.box p0 [.int .i64 r.2.line_.Number, .sl (r.2.line_.Fields.map T_api_Field.d), .int .i64 r.2.next_, .int .i64 r.2.last_, .int .i64 r.2.bad_.Line, .int .i64 r.2.bad_.Column, .int .i64 r.2.bad_.Code]))] := by
  refine CallOK.intro (is := [(i0, p0)]) (css := [[.int .i64 s_0.line_.Number, .sl (s_0.line_.Fields.map T_api_Field.d), .int .i64 s_0.next_, .int .i64 s_0.last_, .int .i64 s_0.bad_.Line, .int .i64 s_0.bad_.Column, .int .i64 s_0.bad_.Code]]) (ds0 := [.ptr 0 0, .bool empty_1]) (pl := [(0, none)]) hI Tryz.func64 rfl (by decide) (by simp [Tryz.f64]) (by kernel_rfl) rfl rfl rfl rfl (lentAll_of ⟨⟨b0, rfl⟩, trivial⟩) (by simp) ?_
  have dd := dd_PA; have k := True.intro; have q := k; have rs := Tryz.results64
  unfold g_lines_Scanner_Name at h
  simp only [lentH, List.length_cons, List.length_nil, Nat.zero_add, Nat.reduceAdd, Tryz.ntmps64, dd_PA]
  refine xs <| rz ?_
  refine es <| xs <| rK fun K6 RK6 hK6 gK6 => zz ?_
  obtain ⟨r7, h8, h⟩ := bs h
  refine eW.intro (a_lines_Scanner_take hI (nid := 3) (i0 := 0) (p0 := (some 0)) h8 fz) fi rfl <| zz ?_
  subst hK6 gK6
  refine es <| xs ?_
  obtain ⟨v12, h16, h⟩ := bs h
  refine rb_cut (fun v12 => ⟨envL [(0, .ptr 0 0), (5, .str r7.1), (20, .bool v12)], heapL [(0, .box (some 0) [.int .i64 r7.2.2.line_.Number, .sl (r7.2.2.line_.Fields.map T_api_Field.d), .int .i64 r7.2.2.next_, .int .i64 r7.2.2.last_, .int .i64 r7.2.2.bad_.Line, .int .i64 r7.2.2.bad_.Column, .int .i64 r7.2.2.bad_.Code])], 1, 31⟩) h16 ?_ ?_
  · clear h
    intro v12 h
    refine rK fun K13 RK13 hK13 gK13 => zz ?_
    rcases iK k h with ⟨k, h⟩ | ⟨k, h⟩
    · refine zz ?_
      rcases iK k h with ⟨k, h⟩ | ⟨k, h⟩
      · refine zz ?_
        subst hK13 gK13
        cases h
        exact en ⟨rfl, wk []⟩
      · refine zz ?_
        subst hK13 gK13
        cases h
        exact en ⟨rfl, wk []⟩
    · refine zz ?_
      subst hK13 gK13
      cases h
      exact en ⟨rfl, wk []⟩
  · rcases iK k h with ⟨k, h⟩ | ⟨k, h⟩
    · refine xt <| xs <| rz ?_
      refine es <| xr <| er ?_
      cases h
      exact en fp
    · refine xf <| xk <| es <| xs <| xs <| rK fun K23 RK23 hK23 gK23 => zz ?_
      obtain ⟨r24, h25, h⟩ := bs h
      refine cw (a_lines_Name hI h25) <| zz ?_
      subst hK23 gK23
      refine es ?_
      rcases iK k h with ⟨k, h⟩ | ⟨k, h⟩
      · refine xf <| xk <| es <| xs <| rz ?_
        refine es <| xr ?_
        cases h
        exact en fp
      · refine xt <| xs <| rK fun K32 RK32 hK32 gK32 => zz ?_
        obtain ⟨r33, h34, h⟩ := bs h
        refine eW.intro (a_lines_Scanner_note hI (nid := 9) (i0 := 0) (p0 := (some 0)) h34 fz) fi rfl <| zz ?_
        subst hK32 gK32
        refine es <| xs <| rz ?_
        refine es <| xr <| er ?_
        cases h
        exact en fp
def g_lines_Quote_s1 (s_0 : List UInt8) (x7 : Int × (List Int)) : Option (Nx (Int × (List Int)) ((List Int))) :=
  (if (decide (x7.1 < (s_0.length : Int))) then ((atI s_0 x7.1).bind fun b123 => (if ((b123.toNat : Int) == 34) then (if (x7.2.length + 2) * 1 ≤ 140737488355328 then (some (.go ((IntKind.i64.wrap (x7.1 + 1)), (x7.2 ++ [92, (b123.toNat : Int)])))) else none) else (if ((b123.toNat : Int) == 92) then (if (x7.2.length + 2) * 1 ≤ 140737488355328 then (some (.go ((IntKind.i64.wrap (x7.1 + 1)), (x7.2 ++ [92, (b123.toNat : Int)])))) else none) else (if ((b123.toNat : Int) == 10) then (if (x7.2.length + 2) * 1 ≤ 140737488355328 then (some (.go ((IntKind.i64.wrap (x7.1 + 1)), (x7.2 ++ [92, 110])))) else none) else (if (x7.2.length + 1) * 1 ≤ 140737488355328 then (some (.go ((IntKind.i64.wrap (x7.1 + 1)), (x7.2 ++ [(b123.toNat : Int)])))) else none))))) else (some (.out x7.2)))
def g_lines_Quote (s_0 : List UInt8) : Option ((List UInt8)) :=
  ((iter (g_lines_Quote_s1 s_0) (0, [34])).bind fun e8 => (if (e8.length + 1) * 1 ≤ 140737488355328 then (some (bytesOf (e8 ++ [34]))) else none))
theorem a_lines_Quote {I : World → Prop} (hI : Stab I) {s_0 : List UInt8} {r : (List UInt8)} (h : g_lines_Quote s_0 = some r) : AFun Tryz.prog I 55 [.str s_0] (.str r) := by
  have dd := dd_PA; have k := True.intro; have q := k; have rs := Tryz.results55
  unfold g_lines_Quote at h
  refine .en hI Tryz.func55 Tryz.ntmps55 ?_
  refine xs <| rz ?_
  refine es <| xs <| rz ?_
  refine es <| xs <| xs <| rz ?_
  refine es <| xb ?_
  obtain ⟨e8, h153, h⟩ := bs h
  refine rb_loop (fun x7 => ⟨envL [(0, .str s_0), (3, .own 0 x7.2.length), (7, .int .i64 (s_0.length : Int)), (8, .int .i64 x7.1)], heapL [(0, .vec 5 1 (x7.2.map (D.int .u8)) false)], 1, 39⟩) (fun _ => .exit 0) (fun e8 => ⟨envL [(3, .own 0 e8.length)], heapL [(0, .vec 5 1 (e8.map (D.int .u8)) false)], 1, 39⟩) h153 (wk [(0, some 1)]) (by intro w; simp) ?_ ?_
  · clear h
    intro x7 y h
    unfold g_lines_Quote_s1 at h
    refine xs <| rz ?_
    refine es <| xs ?_
    rcases iK k h with ⟨k, h⟩ | ⟨k, h⟩
    · refine xt <| xk <| es <| xs <| xb <| xs <| rz ?_
      refine es <| xs <| rK fun K122 RK122 hK122 gK122 => zz ?_
      obtain ⟨b123, q, h⟩ := bK q h
      refine zz ?_
      subst hK122 gK122
      refine es <| xb <| xs <| xs <| rz ?_
      refine es ?_
      rcases iK k h with ⟨k, h⟩ | ⟨k, h⟩
      · refine xt <| xk <| es <| xt <| rK fun K128 RK128 hK128 gK128 => zz ?_
        obtain ⟨h129, h⟩ := ite_on h
        have h130 : x7.2.length + 2 ≤ 9223372036854775807 := by omega
        try simp only [Nat.reduceLeDiff] at h130
        have h131 : x7.2.length + 2 ≤ 140737488355328 := by omega
        try simp only [Nat.reduceLeDiff] at h131
        have q := And.intro @h130 <| And.intro @h131 <| And.intro @h129 <| q
        refine zz ?_
        subst hK128 gK128
        refine bn <| bn <| es <| rz ?_
        cases h
        exact en ⟨rfl, wk [(0, some 14)]⟩
      · refine xf <| rz ?_
        refine es ?_
        rcases iK k h with ⟨k, h⟩ | ⟨k, h⟩
        · refine xt <| rK fun K135 RK135 hK135 gK135 => zz ?_
          obtain ⟨h136, h⟩ := ite_on h
          have h137 : x7.2.length + 2 ≤ 9223372036854775807 := by omega
          try simp only [Nat.reduceLeDiff] at h137
          have h138 : x7.2.length + 2 ≤ 140737488355328 := by omega
          try simp only [Nat.reduceLeDiff] at h138
          have q := And.intro @h137 <| And.intro @h138 <| And.intro @h136 <| q
          refine zz ?_
          subst hK135 gK135
          refine bn <| bn <| es <| rz ?_
          cases h
          exact en ⟨rfl, wk [(0, some 16)]⟩
        · refine xf <| xs <| rz ?_
          refine es ?_
          rcases iK k h with ⟨k, h⟩ | ⟨k, h⟩
          · refine xt <| rK fun K143 RK143 hK143 gK143 => zz ?_
            obtain ⟨h144, h⟩ := ite_on h
            have h145 : x7.2.length + 2 ≤ 9223372036854775807 := by omega
            try simp only [Nat.reduceLeDiff] at h145
            have h146 : x7.2.length + 2 ≤ 140737488355328 := by omega
            try simp only [Nat.reduceLeDiff] at h146
            have q := And.intro @h145 <| And.intro @h146 <| And.intro @h144 <| q
            refine zz ?_
            subst hK143 gK143
            refine bn <| bn <| es <| rz ?_
            cases h
            exact en ⟨rfl, wk [(0, some 15)]⟩
          · refine xf <| rK fun K148 RK148 hK148 gK148 => zz ?_
            obtain ⟨h149, h⟩ := ite_on h
            have h150 : x7.2.length + 1 ≤ 9223372036854775807 := by omega
            try simp only [Nat.reduceLeDiff] at h150
            have h151 : x7.2.length + 1 ≤ 140737488355328 := by omega
            try simp only [Nat.reduceLeDiff] at h151
            have q := And.intro @h150 <| And.intro @h151 <| And.intro @h149 <| q
            refine zz ?_
            subst hK148 gK148
            refine bn <| bn <| es <| rz ?_
            cases h
            exact en ⟨rfl, wk [(0, some 18)]⟩
    · refine xf <| xx <| ee ?_
      cases h
      exact en ⟨rfl, wk []⟩
  · refine bh <| es <| xs <| rK fun K158 RK158 hK158 gK158 => zz ?_
    obtain ⟨h159, h⟩ := ite_on h
    have h160 : e8.length + 1 ≤ 9223372036854775807 := by omega
    try simp only [Nat.reduceLeDiff] at h160
    have h161 : e8.length + 1 ≤ 140737488355328 := by omega
    try simp only [Nat.reduceLeDiff] at h161
    have q := And.intro @h160 <| And.intro @h161 <| And.intro @h159 <| q
    refine zz ?_
    subst hK158 gK158
    refine es <| xr ?_
    cases h
    exact en fr
def g_lines_Decimal (n_0 : Int) : Option ((List UInt8)) :=
  ((g_strconv_FormatInt n_0 10).bind fun r7 => (some r7))
theorem a_lines_Decimal {I : World → Prop} (hI : Stab I) (hTab : ∀ w, I w → Tab w) {n_0 : Int} {r : (List UInt8)} (h : g_lines_Decimal n_0 = some r) : AFun Tryz.prog I 32 [.int .i64 n_0] (.str r) := by
  have dd := dd_PA; have k := True.intro; have q := k; have rs := Tryz.results32
  unfold g_lines_Decimal at h
  refine .en hI Tryz.func32 Tryz.ntmps32 ?_
  refine xs <| rz ?_
  refine es <| xs <| rK fun K6 RK6 hK6 gK6 => zz ?_
  obtain ⟨r7, h8, h⟩ := bs h
  refine cw (a_strconv_FormatInt I hI hTab n_0 10 h8) <| zz ?_
  subst hK6 gK6
  refine es <| xr ?_
  cases h
  exact en fr
def g_lines_Write_s2 (y2126 : T_api_Line) (x2130 : Int × (List Int)) : Option (Nx (Int × (List Int)) ((List Int))) :=
  (if (decide (x2130.1 < (y2126.Fields.length : Int))) then ((atI y2126.Fields x2130.1).bind fun y2441 => (if (decide (0 < x2130.1)) then (if x2130.2.length + 1 ≤ 140737488355328 then ((g_lines_word y2441.Text).bind fun r2452 => (((if y2441.Quoted then (some true) else (if (y2441.Text == ([] : List UInt8)) then (some true) else (if (decide (0 ≤ r2452.2)) then (some true) else (some (r2452.1 != (y2441.Text.length : Int)))))) : Option (Bool)).bind fun v2458 => (if v2458 then ((g_lines_Quote y2441.Text).bind fun r2466 => (if (x2130.2 ++ [32]).length + r2466.length ≤ 140737488355328 then (some (.go ((IntKind.i64.wrap (x2130.1 + 1)), ((x2130.2 ++ [32]) ++ toI r2466)))) else none)) else (if (x2130.2 ++ [32]).length + y2441.Text.length ≤ 140737488355328 then (some (.go ((IntKind.i64.wrap (x2130.1 + 1)), ((x2130.2 ++ [32]) ++ toI y2441.Text)))) else none)))) else none) else ((g_lines_word y2441.Text).bind fun r2477 => (((if y2441.Quoted then (some true) else (if (y2441.Text == ([] : List UInt8)) then (some true) else (if (decide (0 ≤ r2477.2)) then (some true) else (some (r2477.1 != (y2441.Text.length : Int)))))) : Option (Bool)).bind fun v2483 => (if v2483 then ((g_lines_Quote y2441.Text).bind fun r2491 => (if x2130.2.length + r2491.length ≤ 140737488355328 then (some (.go ((IntKind.i64.wrap (x2130.1 + 1)), (x2130.2 ++ toI r2491)))) else none)) else (if x2130.2.length + y2441.Text.length ≤ 140737488355328 then (some (.go ((IntKind.i64.wrap (x2130.1 + 1)), (x2130.2 ++ toI y2441.Text)))) else none)))))) else (some (.out x2130.2)))
def g_lines_Write_s1 (l_0 : List T_api_Line) (x7 : Int × (List Int)) : Option (Nx (Int × (List Int)) ((List Int))) :=
  (if (decide (x7.1 < (l_0.length : Int))) then ((atI l_0 x7.1).bind fun y2126 => ((iter (g_lines_Write_s2 y2126) (0, x7.2)).bind fun e2131 => (if (decide (0 < (y2126.Fields.length : Int))) then (if e2131.length + 1 ≤ 140737488355328 then (some (.go ((IntKind.i64.wrap (x7.1 + 1)), (e2131 ++ [10])))) else none) else (some (.go ((IntKind.i64.wrap (x7.1 + 1)), e2131)))))) else (some (.out x7.2)))
def g_lines_Write (l_0 : List T_api_Line) : Option ((List UInt8)) :=
  ((iter (g_lines_Write_s1 l_0) (0, [])).bind fun e8 => (some (bytesOf e8)))
theorem a_lines_Write {I : World → Prop} (hI : Stab I) {l_0 : List T_api_Line} {r : (List UInt8)} (h : g_lines_Write l_0 = some r) : AFun Tryz.prog I 33 [.sl (l_0.map T_api_Line.d)] (.str r) := by
  have dd := dd_PA; have k := True.intro; have q := k; have rs := Tryz.results33
  unfold g_lines_Write at h
  refine .en hI Tryz.func33 Tryz.ntmps33 ?_
  refine xs <| rz ?_
  refine es <| xs <| rz ?_
  refine es <| xs <| xs <| rz ?_
  refine es <| xb ?_
  obtain ⟨e8, h2506, h⟩ := bs h
  refine rb_loop (fun x7 => ⟨envL [(3, .ptr 0 0), (10, .sl (l_0.map T_api_Line.d)), (11, .int .i64 (l_0.length : Int)), (12, .int .i64 x7.1)], heapL [(0, .bbox 90 [.sp 0, .own 1 x7.2.length]), (1, .vec 5 1 (x7.2.map (D.int .u8)) false)], 2, 66⟩) (fun _ => .exit 0) (fun e8 => ⟨envL [(3, .ptr 0 0)], heapL [(0, .bbox 90 [.sp 0, .own 1 e8.length]), (1, .vec 5 1 (e8.map (D.int .u8)) false)], 2, 66⟩) h2506 (wk [(0, some 1), (1, none)]) (by intro w; simp) ?_ ?_
  · clear h
    intro x7 y h
    unfold g_lines_Write_s1 at h
    refine xs <| rz ?_
    refine es <| xs ?_
    rcases iK k h with ⟨k, h⟩ | ⟨k, h⟩
    · refine xt <| xk <| es <| xs <| xb <| xs <| rK fun K2125 RK2125 hK2125 gK2125 => zz ?_
      obtain ⟨y2126, q, h⟩ := bK q h
      refine zz ?_
      subst hK2125 gK2125
      refine es <| xs <| xs <| rz ?_
      refine es <| xb ?_
      obtain ⟨e2131, h2498, h⟩ := bs h
      refine rb_loop (fun x2130 => ⟨envL [(3, .ptr 0 0), (5, .ptr 2 0), (10, .sl (l_0.map T_api_Line.d)), (11, .int .i64 (l_0.length : Int)), (12, .int .i64 x7.1), (17, .sl (y2126.Fields.map T_api_Field.d)), (18, .int .i64 (y2126.Fields.length : Int)), (19, .int .i64 x2130.1)], heapL [(0, .bbox 90 [.sp 0, .own 1 x2130.2.length]), (1, .vec 5 1 (x2130.2.map (D.int .u8)) false), (2, .box none [.int .i64 y2126.Number, .sl (y2126.Fields.map T_api_Field.d)])], 3, 66⟩) (fun _ => .exit 2) (fun e2131 => ⟨envL [(3, .ptr 0 0), (5, .ptr 2 0), (10, .sl (l_0.map T_api_Line.d)), (11, .int .i64 (l_0.length : Int)), (12, .int .i64 x7.1)], heapL [(0, .bbox 90 [.sp 0, .own 1 e2131.length]), (1, .vec 5 1 (e2131.map (D.int .u8)) false), (2, .box none [.int .i64 y2126.Number, .sl (y2126.Fields.map T_api_Field.d)])], 3, 66⟩) h2498 (wk [(2, some 5)]) (by intro w; simp) ?_ ?_
      · clear h
        intro x2130 y h
        unfold g_lines_Write_s2 at h
        refine xs <| rz ?_
        refine es <| xs ?_
        rcases iK k h with ⟨k, h⟩ | ⟨k, h⟩
        · refine xt <| xk <| es <| xs <| xb <| xs <| rK fun K2440 RK2440 hK2440 gK2440 => zz ?_
          obtain ⟨y2441, q, h⟩ := bK q h
          refine zz ?_
          subst hK2440 gK2440
          refine es <| xs <| xs <| rz ?_
          refine es ?_
          rcases iK k h with ⟨k, h⟩ | ⟨k, h⟩
          · refine xt <| rK fun K2446 RK2446 hK2446 gK2446 => zz ?_
            obtain ⟨h2447, h⟩ := ite_on h
            refine eW.intro (c_WriteByte1 I (id := 0) (nid := 12) (id2 := 1) (n := x2130.2.length) (ch := 32) (l := x2130.2) fz fz fs (by decide) h2447 (by decide)) fi rfl <| zz ?_
            subst hK2446 gK2446
            refine es <| xs <| rK fun K2451 RK2451 hK2451 gK2451 => zz ?_
            obtain ⟨r2452, h2453, h⟩ := bs h
            refine cw (a_lines_word hI h2453) <| zz ?_
            subst hK2451 gK2451
            refine es ?_
            obtain ⟨v2458, h2463, h⟩ := bs h
            refine rb_cut (fun v2458 => ⟨envL [(3, .ptr 0 0), (5, .ptr 2 0), (7, .ptr 3 0), (10, .sl (l_0.map T_api_Line.d)), (11, .int .i64 (l_0.length : Int)), (12, .int .i64 x7.1), (17, .sl (y2126.Fields.map T_api_Field.d)), (18, .int .i64 (y2126.Fields.length : Int)), (19, .int .i64 x2130.1), (50, .bool v2458)], heapL [(0, .bbox 90 [.sp 0, .own 1 ((x2130.2 ++ [32]).length)]), (1, .vec 5 1 ((x2130.2 ++ [32]).map (D.int .u8)) false), (2, .box none [.int .i64 y2126.Number, .sl (y2126.Fields.map T_api_Field.d)]), (3, .box none [.str y2441.Text, .int .i64 y2441.Column, .bool y2441.Quoted])], 4, 66⟩) h2463 ?_ ?_
            · clear h
              intro v2458 h
              refine rK fun K2459 RK2459 hK2459 gK2459 => zz ?_
              rcases iK k h with ⟨k, h⟩ | ⟨k, h⟩
              · refine zz ?_
                subst hK2459 gK2459
                cases h
                exact en ⟨rfl, wk [(1, some 12), (3, some 7)]⟩
              · refine zz ?_
                rcases iK k h with ⟨k, h⟩ | ⟨k, h⟩
                · refine zz ?_
                  subst hK2459 gK2459
                  cases h
                  exact en ⟨rfl, wk [(1, some 12), (3, some 7)]⟩
                · refine zz ?_
                  rcases iK k h with ⟨k, h⟩ | ⟨k, h⟩
                  · refine zz ?_
                    subst hK2459 gK2459
                    cases h
                    exact en ⟨rfl, wk [(1, some 12), (3, some 7)]⟩
                  · refine zz ?_
                    subst hK2459 gK2459
                    cases h
                    exact en ⟨rfl, wk [(1, some 12), (3, some 7)]⟩
            · rcases iK k h with ⟨k, h⟩ | ⟨k, h⟩
              · refine xt <| rK fun K2465 RK2465 hK2465 gK2465 => zz ?_
                obtain ⟨r2466, h2467, h⟩ := bs h
                refine cw (a_lines_Quote hI h2467) <| zz ?_
                obtain ⟨h2468, h⟩ := ite_on h
                refine eW.intro (c_WriteString1 I (id := 0) (nid := 7) (id2 := 1) (n := ((x2130.2 ++ [32]).length)) (s := r2466) (l := (x2130.2 ++ [32])) fz fz fs h2468 (by decide)) fi rfl <| zz ?_
                subst hK2465 gK2465
                refine bn <| es <| rz ?_
                cases h
                exact en ⟨rfl, wk [(1, some 7)]⟩
              · refine xf <| rK fun K2470 RK2470 hK2470 gK2470 => zz ?_
                obtain ⟨h2471, h⟩ := ite_on h
                refine eW.intro (c_WriteString1 I (id := 0) (nid := 6) (id2 := 1) (n := ((x2130.2 ++ [32]).length)) (s := y2441.Text) (l := (x2130.2 ++ [32])) fz fz fs h2471 (by decide)) fi rfl <| zz ?_
                subst hK2470 gK2470
                refine bn <| es <| rz ?_
                cases h
                exact en ⟨rfl, wk [(1, some 6)]⟩
          · refine xf <| xk <| es <| xs <| rK fun K2476 RK2476 hK2476 gK2476 => zz ?_
            obtain ⟨r2477, h2478, h⟩ := bs h
            refine cw (a_lines_word hI h2478) <| zz ?_
            subst hK2476 gK2476
            refine es ?_
            obtain ⟨v2483, h2488, h⟩ := bs h
            refine rb_cut (fun v2483 => ⟨envL [(3, .ptr 0 0), (5, .ptr 2 0), (7, .ptr 3 0), (10, .sl (l_0.map T_api_Line.d)), (11, .int .i64 (l_0.length : Int)), (12, .int .i64 x7.1), (17, .sl (y2126.Fields.map T_api_Field.d)), (18, .int .i64 (y2126.Fields.length : Int)), (19, .int .i64 x2130.1), (50, .bool v2483)], heapL [(0, .bbox 90 [.sp 0, .own 1 x2130.2.length]), (1, .vec 5 1 (x2130.2.map (D.int .u8)) false), (2, .box none [.int .i64 y2126.Number, .sl (y2126.Fields.map T_api_Field.d)]), (3, .box none [.str y2441.Text, .int .i64 y2441.Column, .bool y2441.Quoted])], 4, 66⟩) h2488 ?_ ?_
            · clear h
              intro v2483 h
              refine rK fun K2484 RK2484 hK2484 gK2484 => zz ?_
              rcases iK k h with ⟨k, h⟩ | ⟨k, h⟩
              · refine zz ?_
                subst hK2484 gK2484
                cases h
                exact en ⟨rfl, wk [(3, some 7)]⟩
              · refine zz ?_
                rcases iK k h with ⟨k, h⟩ | ⟨k, h⟩
                · refine zz ?_
                  subst hK2484 gK2484
                  cases h
                  exact en ⟨rfl, wk [(3, some 7)]⟩
                · refine zz ?_
                  rcases iK k h with ⟨k, h⟩ | ⟨k, h⟩
                  · refine zz ?_
                    subst hK2484 gK2484
                    cases h
                    exact en ⟨rfl, wk [(3, some 7)]⟩
                  · refine zz ?_
                    subst hK2484 gK2484
                    cases h
                    exact en ⟨rfl, wk [(3, some 7)]⟩
            · rcases iK k h with ⟨k, h⟩ | ⟨k, h⟩
              · refine xt <| rK fun K2490 RK2490 hK2490 gK2490 => zz ?_
                obtain ⟨r2491, h2492, h⟩ := bs h
                refine cw (a_lines_Quote hI h2492) <| zz ?_
                obtain ⟨h2493, h⟩ := ite_on h
                refine eW.intro (c_WriteString1 I (id := 0) (nid := 7) (id2 := 1) (n := x2130.2.length) (s := r2491) (l := x2130.2) fz fz fs h2493 (by decide)) fi rfl <| zz ?_
                subst hK2490 gK2490
                refine bn <| es <| rz ?_
                cases h
                exact en ⟨rfl, wk [(1, some 7)]⟩
              · refine xf <| rK fun K2495 RK2495 hK2495 gK2495 => zz ?_
                obtain ⟨h2496, h⟩ := ite_on h
                refine eW.intro (c_WriteString1 I (id := 0) (nid := 6) (id2 := 1) (n := x2130.2.length) (s := y2441.Text) (l := x2130.2) fz fz fs h2496 (by decide)) fi rfl <| zz ?_
                subst hK2495 gK2495
                refine bn <| es <| rz ?_
                cases h
                exact en ⟨rfl, wk [(1, some 6)]⟩
        · refine xf <| xx <| ee ?_
          cases h
          exact en ⟨rfl, wk []⟩
      · refine bh <| es <| xs <| rz ?_
        refine es ?_
        rcases iK k h with ⟨k, h⟩ | ⟨k, h⟩
        · refine xt <| rK fun K2502 RK2502 hK2502 gK2502 => zz ?_
          obtain ⟨h2503, h⟩ := ite_on h
          refine eW.intro (c_WriteByte1 I (id := 0) (nid := 7) (id2 := 1) (n := e2131.length) (ch := 10) (l := e2131) fz fz fs (by decide) h2503 (by decide)) fi rfl <| zz ?_
          subst hK2502 gK2502
          refine bn <| es <| rz ?_
          cases h
          exact en ⟨rfl, wk [(1, some 7)]⟩
        · refine xf <| xk <| bn <| es <| rz ?_
          cases h
          exact en ⟨rfl, wk []⟩
    · refine xf <| xx <| ee ?_
      cases h
      exact en ⟨rfl, wk []⟩
  · refine bh <| es <| xs <| rK fun K2508 RK2508 hK2508 gK2508 => zz ?_
    refine eW.intro (c_String1 I (id := 0) (nid := 2) (id2 := 1) (n := e8.length) (l := e8) fz fz fs) fi rfl <| zz ?_
    subst hK2508 gK2508
    refine es <| xr ?_
    cases h
    exact en fr
end Go.Proofs.YtedhognhhcihpaaGreatDoor
namespace Go.Proofs.YtedhognhhcihpaaGreatDoor
open Go.RowKit
set_option maxRecDepth 100000
def U8T (w : World) : Prop := Lib.Utf8Tabs 0 1 w
def g_unicode_utf8_ValidString (s : List UInt8) : Option Bool := some (Lib.validD s)
theorem a_unicode_utf8_ValidString (I : World → Prop) (hI : Stab I) (hU8T : ∀ w, I w → U8T w) (s : List UInt8) {r : Bool} (h : g_unicode_utf8_ValidString s = some r) : AFun Tryz.prog I 46 [.str s] (.bool r) := by
  obtain rfl := Option.some.inj h
  refine AFun.of_calls (v := .bool (Lib.validD s)) (by kernel_rfl) (fun w F => .bool _) ?_
  intro w F args hIw _ hl hr
  match args, hl with
  | [v], _ =>
    obtain ⟨rfl, hm⟩ := rep_str1 (hr 0 v _ rfl rfl)
    exact Tryz.utf8_ValidString ⟨s.toArray⟩ w (by rw [bsize]; unfold maxLen at hm; omega) (hU8T w hIw)
end Go.Proofs.YtedhognhhcihpaaGreatDoor
namespace Go.Proofs.YtedhognhhcihpaaGreatDoor
open Go.RowKit
set_option maxRecDepth 100000
set_option maxHeartbeats 10000000
structure T_timebase_rate where
  name_ : List UInt8
  ticks_ : Int
  nominal_ : Int
  drop_ : Bool
  deriving DecidableEq
def T_timebase_rate.d (x : T_timebase_rate) : D := .agg [.str x.name_, .int .i64 x.ticks_, .int .i64 x.nominal_, .bool x.drop_]
theorem dd_PB : (∀ x, T_timebase_rate.d x = .agg [.str x.name_, .int .i64 x.ticks_, .int .i64 x.nominal_, .bool x.drop_]) := fun _ => rfl
def g_timebase_of (r_0 : Int) : Option (T_timebase_rate) :=
  (if (decide (8 ≤ (IntKind.i64.wrap r_0))) then (some (T_timebase_rate.mk [] 0 0 false)) else (if r_0 == 0 then (some (T_timebase_rate.mk [] 0 0 false)) else (if r_0 == 1 then (some (T_timebase_rate.mk [50, 51, 46, 57, 55, 54] 5005 24 false)) else (if r_0 == 2 then (some (T_timebase_rate.mk [50, 52] 5000 24 false)) else (if r_0 == 3 then (some (T_timebase_rate.mk [50, 53] 4800 25 false)) else (if r_0 == 4 then (some (T_timebase_rate.mk [50, 57, 46, 57, 55] 4004 30 true)) else (if r_0 == 5 then (some (T_timebase_rate.mk [51, 48] 4000 30 false)) else (if r_0 == 6 then (some (T_timebase_rate.mk [53, 48] 2400 50 false)) else (if r_0 == 7 then (some (T_timebase_rate.mk [53, 57, 46, 57, 52] 2002 60 true)) else none)))))))))
theorem a_timebase_of {I : World → Prop} (hI : Stab I) {r_0 : Int} {r : T_timebase_rate} (h : g_timebase_of r_0 = some r) : AFun Tryz.prog I 44 [.int .u8 r_0] (T_timebase_rate.d r) := by
  have dd := dd_PB; have k := True.intro; have q := k; have rs := Tryz.results44
  unfold g_timebase_of at h
  refine .en hI Tryz.func44 Tryz.ntmps44 ?_
  refine xs <| rz ?_
  refine es <| xs <| rz ?_
  refine es <| xs <| xs <| rz ?_
  refine es ?_
  rcases iK k h with ⟨k, h⟩ | ⟨k, h⟩
  · refine xt <| xs <| rz ?_
    refine es <| xr <| er ?_
    cases h
    exact en fr
  · refine xf <| xk <| es <| xs <| rK fun K19 RK19 hK19 gK19 => zz ?_
    rcases ite_or h with ⟨k20, h⟩ | ⟨_, h⟩
    · have k := And.intro (eq_of_beq k20) k
      refine zz ?_
      subst hK19 gK19
      refine es <| xr ?_
      cases h
      exact en fr
    · rcases ite_or h with ⟨k21, h⟩ | ⟨_, h⟩
      · have k := And.intro (eq_of_beq k21) k
        refine zz ?_
        subst hK19 gK19
        refine es <| xr ?_
        cases h
        exact en fr
      · rcases ite_or h with ⟨k22, h⟩ | ⟨_, h⟩
        · have k := And.intro (eq_of_beq k22) k
          refine zz ?_
          subst hK19 gK19
          refine es <| xr ?_
          cases h
          exact en fr
        · rcases ite_or h with ⟨k23, h⟩ | ⟨_, h⟩
          · have k := And.intro (eq_of_beq k23) k
            refine zz ?_
            subst hK19 gK19
            refine es <| xr ?_
            cases h
            exact en fr
          · rcases ite_or h with ⟨k24, h⟩ | ⟨_, h⟩
            · have k := And.intro (eq_of_beq k24) k
              refine zz ?_
              subst hK19 gK19
              refine es <| xr ?_
              cases h
              exact en fr
            · rcases ite_or h with ⟨k25, h⟩ | ⟨_, h⟩
              · have k := And.intro (eq_of_beq k25) k
                refine zz ?_
                subst hK19 gK19
                refine es <| xr ?_
                cases h
                exact en fr
              · rcases ite_or h with ⟨k26, h⟩ | ⟨_, h⟩
                · have k := And.intro (eq_of_beq k26) k
                  refine zz ?_
                  subst hK19 gK19
                  refine es <| xr ?_
                  cases h
                  exact en fr
                · rcases ite_or h with ⟨k27, h⟩ | ⟨_, h⟩
                  · have k := And.intro (eq_of_beq k27) k
                    refine zz ?_
                    subst hK19 gK19
                    refine es <| xr ?_
                    cases h
                    exact en fr
                  · cases h
def g_timebase_Valid (r_0 : Int) : Option (Bool) :=
  ((g_timebase_of r_0).bind fun r7 => (some (decide (0 < r7.ticks_))))
theorem a_timebase_Valid {I : World → Prop} (hI : Stab I) {r_0 : Int} {r : Bool} (h : g_timebase_Valid r_0 = some r) : AFun Tryz.prog I 19 [.int .u8 r_0] (.bool r) := by
  have dd := dd_PB; have k := True.intro; have q := k; have rs := Tryz.results19
  unfold g_timebase_Valid at h
  refine .en hI Tryz.func19 Tryz.ntmps19 ?_
  refine xs <| rz ?_
  refine es <| xs <| rK fun K6 RK6 hK6 gK6 => zz ?_
  obtain ⟨r7, h8, h⟩ := bs h
  refine cw (a_timebase_of hI h8) <| zz ?_
  subst hK6 gK6
  refine es <| xr ?_
  cases h
  exact en fr
def g_timebase_Nominal (r_0 : Int) : Option (Int) :=
  ((g_timebase_of r_0).bind fun r7 => (some r7.nominal_))
theorem a_timebase_Nominal {I : World → Prop} (hI : Stab I) {r_0 : Int} {r : Int} (h : g_timebase_Nominal r_0 = some r) : AFun Tryz.prog I 20 [.int .u8 r_0] (.int .i64 r) := by
  have dd := dd_PB; have k := True.intro; have q := k; have rs := Tryz.results20
  unfold g_timebase_Nominal at h
  refine .en hI Tryz.func20 Tryz.ntmps20 ?_
  refine xs <| rz ?_
  refine es <| xs <| rK fun K6 RK6 hK6 gK6 => zz ?_
  obtain ⟨r7, h8, h⟩ := bs h
  refine cw (a_timebase_of hI h8) <| zz ?_
  subst hK6 gK6
  refine es <| xr ?_
  cases h
  exact en fr
def g_charset_place_s1 (s_0 : List UInt8) (r_1 : Int) (x7 : Int × Nat) : Option (Nx (Int × Nat) (Int ⊕ Unit)) :=
  (if (decide (x7.2 < s_0.length)) then (if ((runeAt s_0 x7.2) == r_1) then (some (.out (.inl x7.1))) else (some (.go ((IntKind.i64.wrap (x7.1 + 1)), (x7.2 + widthAt s_0 x7.2))))) else (some (.out (.inr ()))))
def g_charset_place (s_0 : List UInt8) (r_1 : Int) : Option (Int) :=
  ((iter (g_charset_place_s1 s_0 r_1) (0, 0)).bind fun e8 => (match e8 with | Sum.inl e8 => (some e8) | Sum.inr (e8) => (some (-1))))
theorem a_charset_place {I : World → Prop} (hI : Stab I) {s_0 : List UInt8} {r_1 : Int} {r : Int} (h : g_charset_place s_0 r_1 = some r) : AFun Tryz.prog I 78 [.str s_0, .int .i32 r_1] (.int .i64 r) := by
  have dd := dd_PB; have k := True.intro; have q := k; have rs := Tryz.results78
  unfold g_charset_place at h
  refine .en hI Tryz.func78 Tryz.ntmps78 ?_
  refine xs <| rz ?_
  refine es <| xs <| rz ?_
  refine es <| xs <| xs <| rz ?_
  refine es <| xb ?_
  obtain ⟨e8, h33, h⟩ := bs h
  refine rb_loop (fun x7 => ⟨envL [(1, .int .i32 r_1), (5, .int .i64 x7.1), (9, .ptr 0 0)], heapL [(0, .iter s_0 x7.2)], 1, 19⟩) (fun w => match w with | Sum.inl _ => .ret | Sum.inr (_) => .exit 0) (fun w => match w with | Sum.inl e8 => ⟨envL [(4, .int .i64 e8)], heapL [], 0, 19⟩ | Sum.inr (e8) => ⟨envL [], heapL [], 0, 19⟩) h33 (wk [(0, some 3)]) (by intro w; rcases w with w | w <;> simp) ?_ ?_
  · clear h
    intro x7 y h
    unfold g_charset_place_s1 at h
    refine xs <| rK fun K23 RK23 hK23 gK23 => zz ?_
    rcases iK k h with ⟨k, h⟩ | ⟨k, h⟩
    · have k := And.intro (of_decide_eq_true k.1) k.2
      refine zz ?_
      subst hK23 gK23
      refine es <| xs <| xt <| xk <| es <| xb <| xs <| rz ?_
      refine es <| xs <| xs <| rz ?_
      refine es ?_
      rcases iK k h with ⟨k, h⟩ | ⟨k, h⟩
      · refine xt <| xs <| rz ?_
        refine es <| xr <| er <| br ?_
        cases h
        exact en ⟨rfl, wk []⟩
      · refine xf <| xk <| es <| rz ?_
        refine bn ?_
        cases h
        exact en ⟨rfl, wk []⟩
    · have k := And.intro (of_decide_eq_false k.1) k.2
      refine zz ?_
      subst hK23 gK23
      refine es <| xs <| xf <| xx <| ee ?_
      cases h
      exact en ⟨rfl, wk []⟩
  · rcases e8 with e8 | e8
    · try dsimp only at h ⊢
      refine br <| er ?_
      cases h
      exact en fr
    · try dsimp only at h ⊢
      refine bh <| es <| xs <| rz ?_
      refine es <| xr ?_
      cases h
      exact en fr
def g_charset_Index (r_0 : Int) : Option (Int) :=
  (((if (decide (32 ≤ r_0)) then (some (decide (r_0 ≤ 126))) else (some false)) : Option (Bool)).bind fun v5 => (if v5 then (some (IntKind.i64.wrap (IntKind.i32.wrap (r_0 - 32)))) else ((g_charset_place [32, 33, 34, 35, 36, 37, 38, 39, 40, 41, 42, 43, 44, 45, 46, 47, 48, 49, 50, 51, 52, 53, 54, 55, 56, 57, 58, 59, 60, 61, 62, 63, 64, 65, 66, 67, 68, 69, 70, 71, 72, 73, 74, 75, 76, 77, 78, 79, 80, 81, 82, 83, 84, 85, 86, 87, 88, 89, 90, 91, 92, 93, 94, 95, 96, 97, 98, 99, 100, 101, 102, 103, 104, 105, 106, 107, 108, 109, 110, 111, 112, 113, 114, 115, 116, 117, 118, 119, 120, 121, 122, 123, 124, 125, 126, 194, 161, 194, 162, 194, 163, 194, 164, 194, 165, 194, 166, 194, 167, 194, 169, 194, 171, 194, 174, 194, 176, 194, 183, 194, 187, 194, 189, 194, 191, 195, 128, 195, 129, 195, 130, 195, 131, 195, 132, 195, 133, 195, 134, 195, 135, 195, 136, 195, 137, 195, 138, 195, 139, 195, 140, 195, 141, 195, 142, 195, 143, 195, 145, 195, 146, 195, 147, 195, 148, 195, 149, 195, 150, 195, 152, 195, 153, 195, 154, 195, 155, 195, 156, 195, 159, 195, 160, 195, 161, 195, 162, 195, 163, 195, 164, 195, 165, 195, 166, 195, 167, 195, 168, 195, 169, 195, 170, 195, 171, 195, 172, 195, 173, 195, 174, 195, 175, 195, 177, 195, 178, 195, 179, 195, 180, 195, 181, 195, 182, 195, 184, 195, 185, 195, 186, 195, 187, 195, 188, 197, 146, 197, 147, 226, 128, 148, 226, 128, 152, 226, 128, 153, 226, 128, 156, 226, 128, 157, 226, 128, 162, 226, 128, 166, 226, 132, 162, 226, 153, 170] r_0).bind fun r16 => (some r16))))
theorem a_charset_Index {I : World → Prop} (hI : Stab I) {r_0 : Int} {r : Int} (h : g_charset_Index r_0 = some r) : AFun Tryz.prog I 47 [.int .i32 r_0] (.int .i64 r) := by
  have dd := dd_PB; have k := True.intro; have q := k; have rs := Tryz.results47
  unfold g_charset_Index at h
  refine .en hI Tryz.func47 Tryz.ntmps47 ?_
  refine xs <| rz ?_
  refine es <| xs ?_
  obtain ⟨v5, h8, h⟩ := bs h
  refine rb_cut (fun v5 => ⟨envL [(0, .int .i32 r_0), (8, .bool v5)], heapL [], 0, 14⟩) h8 ?_ ?_
  · clear h
    intro v5 h
    refine rK fun K6 RK6 hK6 gK6 => zz ?_
    rcases iK k h with ⟨k, h⟩ | ⟨k, h⟩
    · refine zz ?_
      subst hK6 gK6
      cases h
      exact en ⟨rfl, wk []⟩
    · refine zz ?_
      subst hK6 gK6
      cases h
      exact en ⟨rfl, wk []⟩
  · rcases iK k h with ⟨k, h⟩ | ⟨k, h⟩
    · refine xt <| xs <| rz ?_
      refine es <| xr <| er ?_
      cases h
      exact en fr
    · refine xf <| xk <| es <| xs <| rK fun K15 RK15 hK15 gK15 => zz ?_
      obtain ⟨r16, h17, h⟩ := bs h
      refine cw (a_charset_place hI h17) <| zz ?_
      subst hK15 gK15
      refine es <| xr ?_
      cases h
      exact en fr
def g_charset_Valid_s1 (s_0 : List UInt8) (x12 : Nat) : Option (Nx (Nat) (Unit ⊕ Unit)) :=
  (if (decide (x12 < s_0.length)) then ((g_charset_Index (runeAt s_0 x12)).bind fun r39 => (if (decide (r39 < 0)) then (some (.out (.inl ()))) else (some (.go (x12 + widthAt s_0 x12))))) else (some (.out (.inr ()))))
def g_charset_Valid (s_0 : List UInt8) : Option (Bool) :=
  ((g_unicode_utf8_ValidString s_0).bind fun r7 => (if r7 then ((iter (g_charset_Valid_s1 s_0) 0).bind fun e13 => (match e13 with | Sum.inl e13 => (some false) | Sum.inr (e13) => (some true))) else (some false)))
theorem a_charset_Valid {I : World → Prop} (hI : Stab I) (hU8T : ∀ w, I w → U8T w) {s_0 : List UInt8} {r : Bool} (h : g_charset_Valid s_0 = some r) : AFun Tryz.prog I 24 [.str s_0] (.bool r) := by
  have dd := dd_PB; have k := True.intro; have q := k; have rs := Tryz.results24
  unfold g_charset_Valid at h
  refine .en hI Tryz.func24 Tryz.ntmps24 ?_
  refine xs <| rz ?_
  refine es <| xs <| xs <| rK fun K6 RK6 hK6 gK6 => zz ?_
  obtain ⟨r7, h8, h⟩ := bs h
  refine cw (a_unicode_utf8_ValidString I hI hU8T s_0 h8) <| zz ?_
  subst hK6 gK6
  refine es ?_
  rcases iK k h with ⟨k, h⟩ | ⟨k, h⟩
  · refine xf <| xk <| es <| xs <| xs <| rz ?_
    refine es <| xb ?_
    obtain ⟨e13, h44, h⟩ := bs h
    refine rb_loop (fun x12 => ⟨envL [(9, .ptr 0 0)], heapL [(0, .iter s_0 x12)], 1, 16⟩) (fun w => match w with | Sum.inl _ => .ret | Sum.inr (_) => .exit 0) (fun w => match w with | Sum.inl e13 => ⟨envL [(2, .bool false)], heapL [], 0, 16⟩ | Sum.inr (e13) => ⟨envL [], heapL [], 0, 16⟩) h44 (wk [(0, some 5)]) (by intro w; rcases w with w | w <;> simp) ?_ ?_
    · clear h
      intro x12 y h
      unfold g_charset_Valid_s1 at h
      refine xs <| rK fun K31 RK31 hK31 gK31 => zz ?_
      rcases iK k h with ⟨k, h⟩ | ⟨k, h⟩
      · have k := And.intro (of_decide_eq_true k.1) k.2
        refine zz ?_
        subst hK31 gK31
        refine es <| xs <| xt <| xk <| es <| xb <| xs <| rz ?_
        refine es <| xs <| rK fun K38 RK38 hK38 gK38 => zz ?_
        obtain ⟨r39, h40, h⟩ := bs h
        refine cw (a_charset_Index hI h40) <| zz ?_
        subst hK38 gK38
        refine es ?_
        rcases iK k h with ⟨k, h⟩ | ⟨k, h⟩
        · refine xt <| xs <| rz ?_
          refine es <| xr <| br ?_
          cases h
          exact en ⟨rfl, wk []⟩
        · refine xf <| xk <| bn ?_
          cases h
          exact en ⟨rfl, wk []⟩
      · have k := And.intro (of_decide_eq_false k.1) k.2
        refine zz ?_
        subst hK31 gK31
        refine es <| xs <| xf <| xx <| ee ?_
        cases h
        exact en ⟨rfl, wk []⟩
    · rcases e13 with e13 | e13
      · try dsimp only at h ⊢
        refine br <| er ?_
        cases h
        exact en fr
      · try dsimp only at h ⊢
        refine bh <| es <| xs <| rz ?_
        refine es <| xr ?_
        cases h
        exact en fr
  · refine xt <| xs <| rz ?_
    refine es <| xr <| er ?_
    cases h
    exact en fr
end Go.Proofs.YtedhognhhcihpaaGreatDoor
namespace Go.Proofs.YtedhognhhcihpaaGreatDoor
open Go.RowKit
set_option maxRecDepth 100000
set_option maxHeartbeats 10000000
structure T_api_Profile where
  Name : List UInt8
  Reading : Int
  MinFrames : Int
  MaxFrames : Int
  MinGap : Int
  ShotBefore : Int
  ShotAfter : Int
  Rows : Int
  Cols : Int
  Forbidden : List UInt8
  SafeTop : Int
  SafeBottom : Int
  SafeLeft : Int
  SafeRight : Int
  deriving DecidableEq
def T_api_Profile.d (x : T_api_Profile) : D := .agg [.str x.Name, .int .i64 x.Reading, .int .i64 x.MinFrames, .int .i64 x.MaxFrames, .int .i64 x.MinGap, .int .i64 x.ShotBefore, .int .i64 x.ShotAfter, .int .i64 x.Rows, .int .i64 x.Cols, .str x.Forbidden, .int .i64 x.SafeTop, .int .i64 x.SafeBottom, .int .i64 x.SafeLeft, .int .i64 x.SafeRight]
structure T_profile_limit where
  n_ : Int
  lo_ : Int
  hi_ : Int
  deriving DecidableEq
def T_profile_limit.d (x : T_profile_limit) : D := .agg [.int .i64 x.n_, .int .i64 x.lo_, .int .i64 x.hi_]
structure T_api_LineF where
  Number : Int
  Fields : FL T_api_Field
  deriving DecidableEq
def T_api_LineF.d (x : T_api_LineF) : D := .agg [.int .i64 x.Number, fD x.Fields.full (x.Fields.l.map T_api_Field.d)]
def T_api_LineF.un (x : T_api_LineF) : T_api_Line := ⟨x.Number, x.Fields.l⟩
theorem T_api_LineF.un_map {l : List T_api_LineF} (h : (l.all fun y => !y.Fields.full) = true) : l.map T_api_LineF.d = (l.map T_api_LineF.un).map T_api_Line.d := by
  rw [List.map_map]
  refine List.map_congr_left fun y hy => ?_
  have h1 := List.all_eq_true.1 h y hy
  obtain ⟨x0, ⟨b, x⟩⟩ := y
  simp at h1
  subst h1
  rfl
def dl_List_Int_i64 (x : List Int) : D := .sl (x.map (D.int .i64))
theorem dd_PC : (∀ x, T_api_Profile.d x = .agg [.str x.Name, .int .i64 x.Reading, .int .i64 x.MinFrames, .int .i64 x.MaxFrames, .int .i64 x.MinGap, .int .i64 x.ShotBefore, .int .i64 x.ShotAfter, .int .i64 x.Rows, .int .i64 x.Cols, .str x.Forbidden, .int .i64 x.SafeTop, .int .i64 x.SafeBottom, .int .i64 x.SafeLeft, .int .i64 x.SafeRight]) ∧ (∀ x, T_profile_limit.d x = .agg [.int .i64 x.n_, .int .i64 x.lo_, .int .i64 x.hi_]) ∧ (∀ x, T_api_Field.d x = .agg [.str x.Text, .int .i64 x.Column, .bool x.Quoted]) ∧ (∀ x, T_api_LineF.d x = .agg [.int .i64 x.Number, fD x.Fields.full (x.Fields.l.map T_api_Field.d)]) ∧ (∀ x, T_api_Line.d x = .agg [.int .i64 x.Number, .sl (x.Fields.map T_api_Field.d)]) ∧ (∀ x, T_api_Diag.d x = .agg [.int .i64 x.Line, .int .i64 x.Column, .int .i64 x.Code]) ∧ (∀ x, T_lines_Scanner.d x = .agg [.int .i64 x.line_.Number, .sl (x.line_.Fields.map T_api_Field.d), .int .i64 x.next_, .int .i64 x.last_, .int .i64 x.bad_.Line, .int .i64 x.bad_.Column, .int .i64 x.bad_.Code]) ∧ (∀ x : List Int, dl_List_Int_i64 x = .sl (x.map (D.int .i64))) := ⟨fun _ => rfl, fun _ => rfl, fun _ => rfl, fun _ => rfl, fun _ => rfl, fun _ => rfl, fun _ => rfl, fun _ => rfl⟩
def g_profile_Standard (rate_0 : Int) : Option (T_api_Profile × Int) :=
  ((g_timebase_Valid rate_0).bind fun r7 => (if r7 then ((g_timebase_Nominal rate_0).bind fun r14 => (some ((T_api_Profile.mk [83, 84, 65, 78, 68, 65, 82, 68] 1700 (IntKind.i64.wrap (Int.tdiv (IntKind.i64.wrap (r14 * 5)) 6)) (IntKind.i64.wrap (7 * r14)) 2 (IntKind.i64.wrap (Int.tdiv r14 2)) (IntKind.i64.wrap (Int.tdiv r14 2)) 2 32 [] 1 0 0 0), 0))) else (some ((T_api_Profile.mk [] 0 0 0 0 0 0 0 0 [] 0 0 0 0), 13))))
theorem a_profile_Standard {I : World → Prop} (hI : Stab I) {rate_0 : Int} {r : T_api_Profile × Int} (h : g_profile_Standard rate_0 = some r) : AFun Tryz.prog I 9 [.int .u8 rate_0] (.tup [T_api_Profile.d r.1, .int .i64 r.2]) := by
  have dd := dd_PC; have k := True.intro; have q := k; have rs := Tryz.results9
  unfold g_profile_Standard at h
  refine .en hI Tryz.func9 Tryz.ntmps9 ?_
  refine xs <| rz ?_
  refine es <| xs <| xs <| rK fun K6 RK6 hK6 gK6 => zz ?_
  obtain ⟨r7, h8, h⟩ := bs h
  refine cw (a_timebase_Valid hI h8) <| zz ?_
  subst hK6 gK6
  refine es ?_
  rcases iK k h with ⟨k, h⟩ | ⟨k, h⟩
  · refine xf <| xk <| es <| xs <| rK fun K13 RK13 hK13 gK13 => zz ?_
    obtain ⟨r14, h15, h⟩ := bs h
    refine cw (a_timebase_Nominal hI h15) <| zz ?_
    subst hK13 gK13
    refine es <| xs <| rz ?_
    refine es <| xr ?_
    cases h
    exact en fr
  · refine xt <| xs <| rz ?_
    refine es <| xr <| er ?_
    cases h
    exact en fr
def g_profile_limits_s1 (p_0 : T_api_Profile) (x7 : Int × (List T_profile_limit)) : Option (Nx (Int × (List T_profile_limit)) ((List T_profile_limit))) :=
  (if (decide (x7.1 < 4)) then ((atI [p_0.SafeTop, p_0.SafeBottom, p_0.SafeLeft, p_0.SafeRight] x7.1).bind fun y89 => (if (x7.2.length + 1) * 24 ≤ 140737488355328 then (some (.go ((IntKind.i64.wrap (x7.1 + 1)), (x7.2 ++ [(T_profile_limit.mk y89 0 31)])))) else none)) else (some (.out x7.2)))
def g_profile_limits (p_0 : T_api_Profile) : Option ((List T_profile_limit)) :=
  ((iter (g_profile_limits_s1 p_0) (0, [(T_profile_limit.mk p_0.Reading 1 10000), (T_profile_limit.mk p_0.MinFrames 1 5184000), (T_profile_limit.mk p_0.MaxFrames 1 5184000), (T_profile_limit.mk p_0.MinGap 0 1000), (T_profile_limit.mk p_0.ShotBefore 0 1000), (T_profile_limit.mk p_0.ShotAfter 0 1000), (T_profile_limit.mk p_0.Rows 1 4), (T_profile_limit.mk p_0.Cols 1 32)])).bind fun e8 => (some e8))
theorem a_profile_limits {I : World → Prop} (hI : Stab I) {p_0 : T_api_Profile} {r : (List T_profile_limit)} (h : g_profile_limits p_0 = some r) : AFun Tryz.prog I 23 [T_api_Profile.d p_0] (.sl (r.map T_profile_limit.d)) := by
  have dd := dd_PC; have k := True.intro; have q := k; have rs := Tryz.results23
  unfold g_profile_limits at h
  refine .en hI Tryz.func23 Tryz.ntmps23 ?_
  refine xs <| rz ?_
  refine es <| xs <| rz ?_
  refine es <| xs <| xs <| rz ?_
  refine es <| xb ?_
  obtain ⟨e8, h98, h⟩ := bs h
  refine rb_loop (fun x7 => ⟨envL [(3, .own 0 x7.2.length), (39, .own 1 4), (40, .int .i64 4), (41, .int .i64 x7.1)], heapL [(0, .vec 49 3 (x7.2.map T_profile_limit.d) false), (1, .vec 3 1 ([p_0.SafeTop, p_0.SafeBottom, p_0.SafeLeft, p_0.SafeRight].map (D.int .i64)) false)], 2, 52⟩) (fun _ => .exit 0) (fun e8 => ⟨envL [(3, .own 0 e8.length)], heapL [(0, .vec 49 3 (e8.map T_profile_limit.d) false)], 1, 52⟩) h98 (wk [(0, some 26), (1, some 36)]) (by intro w; simp) ?_ ?_
  · clear h
    intro x7 y h
    unfold g_profile_limits_s1 at h
    refine xs <| rz ?_
    refine es <| xs ?_
    rcases iK k h with ⟨k, h⟩ | ⟨k, h⟩
    · refine xt <| xk <| es <| xs <| xb <| xs <| rK fun K88 RK88 hK88 gK88 => zz ?_
      obtain ⟨y89, h90, h⟩ := bind_some h
      obtain ⟨h91, h92, h93⟩ := atI_own h90
      have h93 := h93 (D.int .i64)
      simp only [List.map_cons, List.map_nil, dd] at h93
      have h92 : x7.1 < 4 := by simpa using h92
      have q := And.intro h91 <| And.intro h92 <| And.intro @h93 q
      refine zz ?_
      subst hK88 gK88
      refine es <| rK fun K94 RK94 hK94 gK94 => zz ?_
      obtain ⟨h95, h⟩ := ite_on h
      have h96 : x7.2.length + 1 ≤ 9223372036854775807 := by omega
      try simp only [Nat.reduceLeDiff] at h96
      have q := And.intro @h96 <| And.intro @h95 <| q
      refine zz ?_
      subst hK94 gK94
      refine bn <| es <| rz ?_
      cases h
      exact en ⟨rfl, wk [(0, some 10)]⟩
    · refine xf <| xx <| ee ?_
      cases h
      exact en ⟨rfl, wk []⟩
  · refine bh <| es <| xs <| rz ?_
    refine es <| xr ?_
    cases h
    exact en fr
def g_profile_Check_s1 (r14 : (List T_profile_limit)) (x16 : Int) : Option (Nx (Int) (Unit ⊕ Unit)) :=
  (if (decide (x16 < (r14.length : Int))) then ((atI r14 x16).bind fun y111 => (if (decide (y111.n_ < y111.lo_)) then (some (.out (.inl ()))) else (if (decide (y111.hi_ < y111.n_)) then (some (.out (.inl ()))) else (some (.go (IntKind.i64.wrap (x16 + 1))))))) else (some (.out (.inr ()))))
def g_profile_Check_s2 (p_0 : T_api_Profile) (x172 : Int × Nat) : Option (Nx (Int × Nat) (Unit ⊕ Unit)) :=
  (if (decide (x172.2 < p_0.Forbidden.length)) then (if (decide ((runeAt p_0.Forbidden x172.2) ≤ x172.1)) then (some (.out (.inl ()))) else (some (.go ((runeAt p_0.Forbidden x172.2), (x172.2 + widthAt p_0.Forbidden x172.2))))) else (some (.out (.inr ()))))
def g_profile_Check (p_0 : T_api_Profile) : Option (Int) :=
  ((g_lines_Name p_0.Name).bind fun r7 => (if r7 then ((g_profile_limits p_0).bind fun r14 => ((iter (g_profile_Check_s1 r14) 0).bind fun e17 => (match e17 with | Sum.inl e17 => (some 2) | Sum.inr (e17) => (((if (decide (15 ≤ (IntKind.i64.wrap (p_0.SafeTop + p_0.SafeBottom)))) then (some true) else (some (decide (32 ≤ (IntKind.i64.wrap (p_0.SafeLeft + p_0.SafeRight)))))) : Option (Bool)).bind fun v149 => (if v149 then (some 2) else (if (decide (p_0.MaxFrames < p_0.MinFrames)) then (some 8) else ((g_charset_Valid p_0.Forbidden).bind fun r165 => (if r165 then ((iter (g_profile_Check_s2 p_0) (-1, 0)).bind fun e173 => (match e173 with | Sum.inl e173 => (some 8) | Sum.inr (e173) => (some 0))) else (some 10))))))))) else (some 5)))
theorem a_profile_Check {I : World → Prop} (hI : Stab I) (hU8T : ∀ w, I w → U8T w) {p_0 : T_api_Profile} {r : Int} (h : g_profile_Check p_0 = some r) : AFun Tryz.prog I 11 [T_api_Profile.d p_0] (.int .i64 r) := by
  have dd := dd_PC; have k := True.intro; have q := k; have rs := Tryz.results11
  unfold g_profile_Check at h
  refine .en hI Tryz.func11 Tryz.ntmps11 ?_
  refine xs <| rz ?_
  refine es <| xs <| xs <| rK fun K6 RK6 hK6 gK6 => zz ?_
  obtain ⟨r7, h8, h⟩ := bs h
  refine cw (a_lines_Name hI h8) <| zz ?_
  subst hK6 gK6
  refine es ?_
  rcases iK k h with ⟨k, h⟩ | ⟨k, h⟩
  · refine xf <| xk <| es <| xs <| xs <| rK fun K13 RK13 hK13 gK13 => zz ?_
    obtain ⟨r14, h15, h⟩ := bs h
    refine cw (a_profile_limits hI h15) <| zz ?_
    subst hK13 gK13
    refine es <| xb ?_
    obtain ⟨e17, h123, h⟩ := bs h
    refine rb_loop (fun x16 => ⟨envL [(1, .ptr 0 0), (13, .sl (r14.map T_profile_limit.d)), (14, .int .i64 (r14.length : Int)), (15, .int .i64 x16)], heapL [(0, .box none [.str p_0.Name, .int .i64 p_0.Reading, .int .i64 p_0.MinFrames, .int .i64 p_0.MaxFrames, .int .i64 p_0.MinGap, .int .i64 p_0.ShotBefore, .int .i64 p_0.ShotAfter, .int .i64 p_0.Rows, .int .i64 p_0.Cols, .str p_0.Forbidden, .int .i64 p_0.SafeTop, .int .i64 p_0.SafeBottom, .int .i64 p_0.SafeLeft, .int .i64 p_0.SafeRight])], 1, 68⟩) (fun w => match w with | Sum.inl _ => .ret | Sum.inr (_) => .exit 0) (fun w => match w with | Sum.inl e17 => ⟨envL [(2, .int .i64 2)], heapL [], 0, 68⟩ | Sum.inr (e17) => ⟨envL [(1, .ptr 0 0)], heapL [(0, .box none [.str p_0.Name, .int .i64 p_0.Reading, .int .i64 p_0.MinFrames, .int .i64 p_0.MaxFrames, .int .i64 p_0.MinGap, .int .i64 p_0.ShotBefore, .int .i64 p_0.ShotAfter, .int .i64 p_0.Rows, .int .i64 p_0.Cols, .str p_0.Forbidden, .int .i64 p_0.SafeTop, .int .i64 p_0.SafeBottom, .int .i64 p_0.SafeLeft, .int .i64 p_0.SafeRight])], 1, 68⟩) h123 (wk []) (by intro w; rcases w with w | w <;> simp) ?_ ?_
    · clear h
      intro x16 y h
      unfold g_profile_Check_s1 at h
      refine xs <| rz ?_
      refine es <| xs ?_
      rcases iK k h with ⟨k, h⟩ | ⟨k, h⟩
      · refine xt <| xk <| es <| xs <| xb <| xs <| rK fun K110 RK110 hK110 gK110 => zz ?_
        obtain ⟨y111, q, h⟩ := bK q h
        refine zz ?_
        subst hK110 gK110
        refine es <| xs <| rK fun K115 RK115 hK115 gK115 => zz ?_
        rcases iK k h with ⟨k, h⟩ | ⟨k, h⟩
        · refine zz ?_
          subst hK115 gK115
          refine es <| xt <| xs <| rz ?_
          refine es <| xr <| br <| er ?_
          cases h
          exact en ⟨rfl, wk []⟩
        · refine zz ?_
          subst hK115 gK115
          refine es ?_
          rcases iK k h with ⟨k, h⟩ | ⟨k, h⟩
          · refine xt <| xs <| rz ?_
            refine es <| xr <| br <| er ?_
            cases h
            exact en ⟨rfl, wk []⟩
          · refine xf <| xk <| bn <| es <| rz ?_
            cases h
            exact en ⟨rfl, wk []⟩
      · refine xf <| xx <| ee ?_
        cases h
        exact en ⟨rfl, wk []⟩
    · rcases e17 with e17 | e17
      · try dsimp only at h ⊢
        refine br <| er ?_
        cases h
        exact en fr
      · try dsimp only at h ⊢
        refine bh <| es <| xs <| xb ?_
        obtain ⟨v149, h152, h⟩ := bs h
        refine rb_cut (fun v149 => ⟨envL [(1, .ptr 0 0), (32, .bool v149)], heapL [(0, .box none [.str p_0.Name, .int .i64 p_0.Reading, .int .i64 p_0.MinFrames, .int .i64 p_0.MaxFrames, .int .i64 p_0.MinGap, .int .i64 p_0.ShotBefore, .int .i64 p_0.ShotAfter, .int .i64 p_0.Rows, .int .i64 p_0.Cols, .str p_0.Forbidden, .int .i64 p_0.SafeTop, .int .i64 p_0.SafeBottom, .int .i64 p_0.SafeLeft, .int .i64 p_0.SafeRight])], 1, 68⟩) h152 ?_ ?_
        · clear h
          intro v149 h
          refine rK fun K150 RK150 hK150 gK150 => zz ?_
          rcases iK k h with ⟨k, h⟩ | ⟨k, h⟩
          · refine zz ?_
            subst hK150 gK150
            cases h
            exact en ⟨rfl, wk []⟩
          · refine zz ?_
            subst hK150 gK150
            cases h
            exact en ⟨rfl, wk []⟩
        · rcases iK k h with ⟨k, h⟩ | ⟨k, h⟩
          · refine xt <| xs <| rz ?_
            refine es <| xr <| br <| er ?_
            cases h
            exact en fr
          · refine xf <| xs <| rz ?_
            refine es ?_
            rcases iK k h with ⟨k, h⟩ | ⟨k, h⟩
            · refine xt <| xs <| rz ?_
              refine es <| xr <| br <| er ?_
              cases h
              exact en fr
            · refine xf <| xs <| rK fun K164 RK164 hK164 gK164 => zz ?_
              obtain ⟨r165, h166, h⟩ := bs h
              refine cw (a_charset_Valid hI hU8T h166) <| zz ?_
              subst hK164 gK164
              refine es ?_
              rcases iK k h with ⟨k, h⟩ | ⟨k, h⟩
              · refine xf <| xk <| bn <| es <| xs <| rz ?_
                refine es <| xs <| xs <| rz ?_
                refine es <| xb ?_
                obtain ⟨e173, h198, h⟩ := bs h
                refine rb_loop (fun x172 => ⟨envL [(5, .int .i32 x172.1), (60, .ptr 0 0)], heapL [(0, .iter p_0.Forbidden x172.2)], 1, 68⟩) (fun w => match w with | Sum.inl _ => .ret | Sum.inr (_) => .exit 3) (fun w => match w with | Sum.inl e173 => ⟨envL [(2, .int .i64 8)], heapL [], 0, 68⟩ | Sum.inr (e173) => ⟨envL [], heapL [], 0, 68⟩) h198 (wk [(0, some 15)]) (by intro w; rcases w with w | w <;> simp) ?_ ?_
                · clear h
                  intro x172 y h
                  unfold g_profile_Check_s2 at h
                  refine xs <| rK fun K188 RK188 hK188 gK188 => zz ?_
                  rcases iK k h with ⟨k, h⟩ | ⟨k, h⟩
                  · have k := And.intro (of_decide_eq_true k.1) k.2
                    refine zz ?_
                    subst hK188 gK188
                    refine es <| xs <| xt <| xk <| es <| xb <| xs <| rz ?_
                    refine es <| xs <| xs <| rz ?_
                    refine es ?_
                    rcases iK k h with ⟨k, h⟩ | ⟨k, h⟩
                    · refine xt <| xs <| rz ?_
                      refine es <| xr <| er <| br ?_
                      cases h
                      exact en ⟨rfl, wk []⟩
                    · refine xf <| xk <| es <| rz ?_
                      refine bn ?_
                      cases h
                      exact en ⟨rfl, wk []⟩
                  · have k := And.intro (of_decide_eq_false k.1) k.2
                    refine zz ?_
                    subst hK188 gK188
                    refine es <| xs <| xf <| xx <| ee ?_
                    cases h
                    exact en ⟨rfl, wk []⟩
                · rcases e173 with e173 | e173
                  · try dsimp only at h ⊢
                    refine br <| er ?_
                    cases h
                    exact en fr
                  · try dsimp only at h ⊢
                    refine bh <| es <| xs <| rz ?_
                    refine es <| xr ?_
                    cases h
                    exact en fr
              · refine xt <| xs <| rz ?_
                refine es <| xr <| br <| er ?_
                cases h
                exact en fr
  · refine xt <| xs <| rz ?_
    refine es <| xr <| er ?_
    cases h
    exact en fr
def g_profile_numbers (p_0 : T_api_Profile) : Option ((List (List Int))) :=
  (some [[], [p_0.Reading], [p_0.MinFrames, p_0.MaxFrames], [p_0.MinGap], [p_0.ShotBefore, p_0.ShotAfter], [p_0.Rows, p_0.Cols], [p_0.SafeTop, p_0.SafeBottom, p_0.SafeLeft, p_0.SafeRight], []])
theorem a_profile_numbers {I : World → Prop} (hI : Stab I) {p_0 : T_api_Profile} {r : (List (List Int))} (h : g_profile_numbers p_0 = some r) : AFun Tryz.prog I 30 [T_api_Profile.d p_0] (.sl (r.map dl_List_Int_i64)) := by
  have dd := dd_PC; have k := True.intro; have q := k; have rs := Tryz.results30
  unfold g_profile_numbers at h
  refine .en hI Tryz.func30 Tryz.ntmps30 ?_
  refine xs <| rz ?_
  refine es <| xs <| rz ?_
  refine es <| xr ?_
  cases h
  exact en fr
def g_profile_words  : Option ((List (List UInt8))) :=
  (some [[80, 82, 79, 70, 73, 76, 69], [82, 69, 65, 68, 73, 78, 71], [70, 82, 65, 77, 69, 83], [71, 65, 80], [83, 72, 79, 84, 83], [83, 73, 90, 69], [83, 65, 70, 69], [70, 79, 82, 66, 73, 68, 68, 69, 78]])
theorem a_profile_words {I : World → Prop} (hI : Stab I)  {r : (List (List UInt8))} (h : g_profile_words  = some r) : AFun Tryz.prog I 31 [] (.sl (r.map D.str)) := by
  have dd := dd_PC; have k := True.intro; have q := k; have rs := Tryz.results31
  unfold g_profile_words at h
  refine .en hI Tryz.func31 Tryz.ntmps31 ?_
  refine xs <| rz ?_
  refine es <| xs <| rz ?_
  refine es <| xr ?_
  cases h
  exact en fr
def g_profile_Text_s2 (y1132 : List Int) (x1194 : Int × (List T_api_Field)) : Option (Nx (Int × (List T_api_Field)) ((List T_api_Field))) :=
  (if (decide (x1194.1 < (y1132.length : Int))) then ((atI y1132 x1194.1).bind fun y1269 => ((g_lines_Decimal y1269).bind fun r1272 => (if (x1194.2.length + 1) * 32 ≤ 140737488355328 then (some (.go ((IntKind.i64.wrap (x1194.1 + 1)), (x1194.2 ++ [(T_api_Field.mk r1272 0 false)])))) else none))) else (some (.out x1194.2)))
def g_profile_Text_s1 (r20 : (List (List Int))) (x22 : (List T_api_LineF) × Int) : Option (Nx ((List T_api_LineF) × Int) ((List T_api_LineF))) :=
  (if (decide (x22.2 < (r20.length : Int))) then ((atI r20 x22.2).bind fun y1132 => ((g_profile_words).bind fun r1140 => ((atI r1140 x22.2).bind fun y1142 => (if (decide (0 < (y1132.length : Int))) then ((atI y1132 0).bind fun y1188 => ((g_lines_Decimal y1188).bind fun r1191 => ((iter (g_profile_Text_s2 y1132) ((IntKind.i64.wrap 1), ([(T_api_Field.mk y1142 0 false)] ++ [(T_api_Field.mk r1191 0 false)]))).bind fun e1195 => (if (x22.1.length + 1) * 32 ≤ 140737488355328 then (some (.go ((x22.1 ++ [(T_api_LineF.mk 0 (FL.mk false e1195))]), (IntKind.i64.wrap (x22.2 + 1))))) else none)))) else (if (x22.1.length + 1) * 32 ≤ 140737488355328 then (some (.go ((x22.1 ++ [(T_api_LineF.mk 0 (FL.mk true [(T_api_Field.mk y1142 0 false)]))]), (IntKind.i64.wrap (x22.2 + 1))))) else none))))) else (some (.out x22.1)))
def g_profile_Text (p_0 : T_api_Profile) : Option ((List UInt8) × Int) :=
  ((g_profile_Check p_0).bind fun r7 => (if (r7 != 0) then (some ([], r7)) else ((g_profile_numbers p_0).bind fun r20 => ((iter (g_profile_Text_s1 r20) ([], 0)).bind fun e23 => ((atI e23 0).bind fun y1302 => (if y1302.Fields.full = true then (if (y1302.Fields.l.length + 1) * 32 ≤ 140737488355328 then ((setI e23 0 (T_api_LineF.mk y1302.Number (FL.mk false (y1302.Fields.l ++ [(T_api_Field.mk p_0.Name 0 false)])))).bind fun m1309 => ((atI m1309 7).bind fun y1330 => (if y1330.Fields.full = true then (if (y1330.Fields.l.length + 1) * 32 ≤ 140737488355328 then ((setI m1309 7 (T_api_LineF.mk y1330.Number (FL.mk false (y1330.Fields.l ++ [(T_api_Field.mk p_0.Forbidden 0 true)])))).bind fun m1337 => (if (m1337.all fun y => !y.Fields.full) = true then ((g_lines_Write (m1337.map T_api_LineF.un)).bind fun r1347 => (some (r1347, 0))) else none)) else none) else none))) else none) else none))))))
theorem a_profile_Text {I : World → Prop} (hI : Stab I) (hTab : ∀ w, I w → Tab w) (hU8T : ∀ w, I w → U8T w) {p_0 : T_api_Profile} {r : (List UInt8) × Int} (h : g_profile_Text p_0 = some r) : AFun Tryz.prog I 13 [T_api_Profile.d p_0] (.tup [.str r.1, .int .i64 r.2]) := by
  have dd := dd_PC; have k := True.intro; have q := k; have rs := Tryz.results13
  unfold g_profile_Text at h
  refine .en hI Tryz.func13 Tryz.ntmps13 ?_
  refine xs <| rz ?_
  refine es <| xs <| xs <| rK fun K6 RK6 hK6 gK6 => zz ?_
  obtain ⟨r7, h8, h⟩ := bs h
  refine cw (a_profile_Check hI hU8T h8) <| zz ?_
  subst hK6 gK6
  refine es <| xs <| rz ?_
  refine es ?_
  rcases iK k h with ⟨k, h⟩ | ⟨k, h⟩
  · refine xt <| xs <| rz ?_
    refine es <| xr <| er ?_
    cases h
    exact en fr
  · refine xf <| xk <| es <| xs <| rz ?_
    refine es <| xs <| xs <| rK fun K19 RK19 hK19 gK19 => zz ?_
    obtain ⟨r20, h21, h⟩ := bs h
    refine cw (a_profile_numbers hI h21) <| zz ?_
    subst hK19 gK19
    refine es <| xb ?_
    obtain ⟨e23, h1286, h⟩ := bs h
    refine rb_loop (fun x22 => ⟨envL [(1, .ptr 0 0), (5, .own 1 x22.1.length), (17, .sl (r20.map dl_List_Int_i64)), (18, .int .i64 (r20.length : Int)), (19, .int .i64 x22.2)], heapL [(0, .box none [.str p_0.Name, .int .i64 p_0.Reading, .int .i64 p_0.MinFrames, .int .i64 p_0.MaxFrames, .int .i64 p_0.MinGap, .int .i64 p_0.ShotBefore, .int .i64 p_0.ShotAfter, .int .i64 p_0.Rows, .int .i64 p_0.Cols, .str p_0.Forbidden, .int .i64 p_0.SafeTop, .int .i64 p_0.SafeBottom, .int .i64 p_0.SafeLeft, .int .i64 p_0.SafeRight]), (1, .vec 64 2 (x22.1.map T_api_LineF.d) false)], 2, 77⟩) (fun _ => .exit 0) (fun e23 => ⟨envL [(1, .ptr 0 0), (5, .own 1 e23.length)], heapL [(0, .box none [.str p_0.Name, .int .i64 p_0.Reading, .int .i64 p_0.MinFrames, .int .i64 p_0.MaxFrames, .int .i64 p_0.MinGap, .int .i64 p_0.ShotBefore, .int .i64 p_0.ShotAfter, .int .i64 p_0.Rows, .int .i64 p_0.Cols, .str p_0.Forbidden, .int .i64 p_0.SafeTop, .int .i64 p_0.SafeBottom, .int .i64 p_0.SafeLeft, .int .i64 p_0.SafeRight]), (1, .vec 64 2 (e23.map T_api_LineF.d) false)], 2, 77⟩) h1286 (wk [(1, none)]) (by intro w; simp) ?_ ?_
    · clear h
      intro x22 y h
      unfold g_profile_Text_s1 at h
      refine xs <| rz ?_
      refine es <| xs ?_
      rcases iK k h with ⟨k, h⟩ | ⟨k, h⟩
      · refine xt <| xk <| es <| xs <| xb <| xs <| rK fun K1131 RK1131 hK1131 gK1131 => zz ?_
        obtain ⟨y1132, q, h⟩ := bK q h
        refine zz ?_
        subst hK1131 gK1131
        refine es <| xs <| rK fun K1139 RK1139 hK1139 gK1139 => zz ?_
        obtain ⟨r1140, h1141, h⟩ := bs h
        refine cw (a_profile_words hI h1141) <| zz ?_
        obtain ⟨y1142, q, h⟩ := bK q h
        refine zz ?_
        subst hK1139 gK1139
        refine es <| xs <| xs <| rz ?_
        refine es <| xb <| rb_un 73786976294838206464 <| xs <| rz ?_
        refine es <| xs ?_
        rcases iK k h with ⟨k, h⟩ | ⟨k, h⟩
        · refine xt <| xk <| es <| xs <| xb <| xs <| rK fun K1187 RK1187 hK1187 gK1187 => zz ?_
          obtain ⟨y1188, q, h⟩ := bK q h
          refine zz ?_
          subst hK1187 gK1187
          refine es <| rD hI fun K1190 RK1190 hK1190 gK1190 => zz ?_
          obtain ⟨r1191, h1192, h⟩ := bs h
          refine cd (a_lines_Decimal hI hTab h1192) <| zz ?_
          refine hd <| zz ?_
          subst hK1190 gK1190
          refine bn <| es <| rz ?_
          obtain ⟨e1195, h1277, h⟩ := bs h
          refine un_loop (fun x1194 => ⟨envL [(1, .ptr 0 0), (5, .own 1 x22.1.length), (8, .ptr 2 0), (17, .sl (r20.map dl_List_Int_i64)), (18, .int .i64 (r20.length : Int)), (19, .int .i64 x22.2), (31, .sl (y1132.map (D.int .i64))), (32, .int .i64 (y1132.length : Int)), (33, .int .i64 x1194.1)], heapL [(0, .box none [.str p_0.Name, .int .i64 p_0.Reading, .int .i64 p_0.MinFrames, .int .i64 p_0.MaxFrames, .int .i64 p_0.MinGap, .int .i64 p_0.ShotBefore, .int .i64 p_0.ShotAfter, .int .i64 p_0.Rows, .int .i64 p_0.Cols, .str p_0.Forbidden, .int .i64 p_0.SafeTop, .int .i64 p_0.SafeBottom, .int .i64 p_0.SafeLeft, .int .i64 p_0.SafeRight]), (1, .vec 64 2 (x22.1.map T_api_LineF.d) false), (2, .box none [.int .i64 0, .own 3 x1194.2.length]), (3, .vec 61 3 (x1194.2.map T_api_Field.d) false)], 4, 77⟩) (fun _ => .exit 2) (fun e1195 => ⟨envL [(1, .ptr 0 0), (5, .own 1 x22.1.length), (8, .ptr 2 0), (17, .sl (r20.map dl_List_Int_i64)), (18, .int .i64 (r20.length : Int)), (19, .int .i64 x22.2)], heapL [(0, .box none [.str p_0.Name, .int .i64 p_0.Reading, .int .i64 p_0.MinFrames, .int .i64 p_0.MaxFrames, .int .i64 p_0.MinGap, .int .i64 p_0.ShotBefore, .int .i64 p_0.ShotAfter, .int .i64 p_0.Rows, .int .i64 p_0.Cols, .str p_0.Forbidden, .int .i64 p_0.SafeTop, .int .i64 p_0.SafeBottom, .int .i64 p_0.SafeLeft, .int .i64 p_0.SafeRight]), (1, .vec 64 2 (x22.1.map T_api_LineF.d) false), (2, .box none [.int .i64 0, .own 3 e1195.length]), (3, .vec 61 3 (e1195.map T_api_Field.d) false)], 4, 77⟩) h1277 (wk [(2, some 15), (3, some 30)]) (by intro w; simp) ?_ ?_
          · clear h
            intro x1194 y h
            unfold g_profile_Text_s2 at h
            refine xs <| rz ?_
            refine es <| xs ?_
            rcases iK k h with ⟨k, h⟩ | ⟨k, h⟩
            · refine xt <| xk <| es <| xs <| xb <| xs <| rK fun K1268 RK1268 hK1268 gK1268 => zz ?_
              obtain ⟨y1269, q, h⟩ := bK q h
              refine zz ?_
              subst hK1268 gK1268
              refine es <| rD hI fun K1271 RK1271 hK1271 gK1271 => zz ?_
              obtain ⟨r1272, h1273, h⟩ := bs h
              refine cd (a_lines_Decimal hI hTab h1273) <| zz ?_
              obtain ⟨h1274, h⟩ := ite_on h
              have h1275 : x1194.2.length + 1 ≤ 9223372036854775807 := by omega
              try simp only [Nat.reduceLeDiff] at h1275
              have q := And.intro @h1275 <| And.intro @h1274 <| q
              refine zz ?_
              refine hd <| zz ?_
              refine hd <| zz ?_
              subst hK1271 gK1271
              refine bn <| es <| rz ?_
              cases h
              exact en ⟨rfl, wk [(3, some 14)]⟩
            · refine xf <| xx <| ee ?_
              cases h
              exact en ⟨rfl, wk []⟩
          · refine bh <| es <| rK fun K1278 RK1278 hK1278 gK1278 => zz ?_
            obtain ⟨h1279, h⟩ := ite_on h
            have h1280 : x22.1.length + 1 ≤ 9223372036854775807 := by omega
            try simp only [Nat.reduceLeDiff] at h1280
            have q := And.intro @h1280 <| And.intro @h1279 <| q
            refine zz ?_
            subst hK1278 gK1278
            refine bn <| es <| rz ?_
            cases h
            exact en ⟨rfl, wk [(1, some 7)]⟩
        · refine xf <| xx <| ee <| un_e <| bh <| es <| rK fun K1282 RK1282 hK1282 gK1282 => zz ?_
          obtain ⟨h1283, h⟩ := ite_on h
          have h1284 : x22.1.length + 1 ≤ 9223372036854775807 := by omega
          try simp only [Nat.reduceLeDiff] at h1284
          have q := And.intro @h1284 <| And.intro @h1283 <| q
          refine zz ?_
          subst hK1282 gK1282
          refine bn <| es <| rz ?_
          cases h
          exact en ⟨rfl, wk [(1, some 24)]⟩
      · refine xf <| xx <| ee ?_
        cases h
        exact en ⟨rfl, wk []⟩
    · refine bh <| es <| xs <| rD hI fun K1301 RK1301 hK1301 gK1301 => zz ?_
      obtain ⟨y1302, h1303, h⟩ := bind_some h
      obtain ⟨h1304, h1305, h1306⟩ := atI_own h1303
      try simp only [Int.reduceToNat, Int.toNat_zero, Int.toNat_one] at h1306
      have q := And.intro h1304 <| And.intro h1305 <| And.intro @h1306 q
      refine zz ?_
      obtain ⟨q, h⟩ := oK q h
      obtain ⟨h1307, h⟩ := ite_on h
      have h1308 : y1302.Fields.l.length + 1 ≤ 9223372036854775807 := by omega
      try simp only [Nat.reduceLeDiff] at h1308
      have q := And.intro @h1308 <| And.intro @h1307 <| q
      refine zz ?_
      obtain ⟨m1309, h1310, h⟩ := bind_some h
      obtain ⟨h1311, h1312, h1313, h1314⟩ := setI_some h1310
      have h1314 := h1314 T_api_LineF.d
      try simp only [sevalprocAttr, List.map_nil, List.map_cons, List.map_append, fD_t, fD_f, dd] at h1314
      have q := And.intro @h1311 <| And.intro @h1312 <| And.intro @h1313 <| And.intro @h1314 <| q
      refine zz ?_
      refine hd <| zz ?_
      subst hK1301 gK1301
      refine es <| xs <| rD hI fun K1329 RK1329 hK1329 gK1329 => zz ?_
      obtain ⟨y1330, h1331, h⟩ := bind_some h
      obtain ⟨h1332, h1333, h1334⟩ := atI_own h1331
      try simp only [Int.reduceToNat, Int.toNat_zero, Int.toNat_one] at h1334
      have q := And.intro h1332 <| And.intro h1333 <| And.intro @h1334 q
      refine zz ?_
      obtain ⟨q, h⟩ := oK q h
      obtain ⟨h1335, h⟩ := ite_on h
      have h1336 : y1330.Fields.l.length + 1 ≤ 9223372036854775807 := by omega
      try simp only [Nat.reduceLeDiff] at h1336
      have q := And.intro @h1336 <| And.intro @h1335 <| q
      refine zz ?_
      obtain ⟨m1337, h1338, h⟩ := bind_some h
      obtain ⟨h1339, h1340, h1341, h1342⟩ := setI_some h1338
      have h1342 := h1342 T_api_LineF.d
      try simp only [sevalprocAttr, List.map_nil, List.map_cons, List.map_append, fD_t, fD_f, dd] at h1342
      have q := And.intro @h1339 <| And.intro @h1340 <| And.intro @h1341 <| And.intro @h1342 <| q
      refine zz ?_
      refine hd <| zz ?_
      subst hK1329 gK1329
      refine es <| xs <| rK fun K1346 RK1346 hK1346 gK1346 => zz ?_
      obtain ⟨q9, h⟩ := ite_on h
      have k := And.intro (T_api_LineF.un_map q9) k
      obtain ⟨r1347, h1348, h⟩ := bs h
      refine cw (a_lines_Write hI h1348) <| zz ?_
      subst hK1346 gK1346
      refine es <| xr ?_
      cases h
      exact en fr
def g_profile_take_1 (a_0 : T_lines_Scanner) : Option (Int × T_lines_Scanner) :=
  ((g_lines_Scanner_Number a_0 0 5184000).bind fun r7 => (some (r7.1, r7.2)))
theorem a_profile_take_1 {I : World → Prop} (hI : Stab I) (hPIv : ∀ w, I w → PIv w) {H : Nat → Option Blk} {nid : Nat} {i0 i1 : Nat} {p0 p1 : Option Nat} {a_0 : T_lines_Scanner} {r : Int × T_lines_Scanner} (h : g_profile_take_1 a_0 = some r) (b0 : H i0 = some (.box p0 [.ptr i1 0])) (b1 : H i1 = some (.box p1 [.int .i64 a_0.line_.Number, .sl (a_0.line_.Fields.map T_api_Field.d), .int .i64 a_0.next_, .int .i64 a_0.last_, .int .i64 a_0.bad_.Line, .int .i64 a_0.bad_.Column, .int .i64 a_0.bad_.Code])) (hne : [i0, i1].Nodup) : CallOK Tryz.prog I 62 [.ptr i0 0] H nid (.int .i64 r.1) [(i0, some (.box p0 [.ptr i1 0])), (i1, some (.box p1 [.int .i64 r.2.line_.Number, .sl (r.2.line_.Fields.map T_api_Field.d), .int .i64 r.2.next_, .int .i64 r.2.last_, .int .i64 r.2.bad_.Line, .int .i64 r.2.bad_.Column, .int .i64 r.2.bad_.Code]))] := by
  refine CallOK.intro (is := [(i0, p0), (i1, p1)]) (css := [[.ptr 1 0], [.int .i64 a_0.line_.Number, .sl (a_0.line_.Fields.map T_api_Field.d), .int .i64 a_0.next_, .int .i64 a_0.last_, .int .i64 a_0.bad_.Line, .int .i64 a_0.bad_.Column, .int .i64 a_0.bad_.Code]]) (ds0 := [.ptr 0 0]) (pl := [(0, none), (0, some 0)]) hI Tryz.func62 rfl (by decide) (by simp [Tryz.f62]) (by kernel_rfl) rfl rfl rfl rfl (lentAll_of ⟨⟨b0, rfl⟩, ⟨⟨b1, rfl⟩, trivial⟩⟩) hne ?_
  have dd := dd_PC; have k := True.intro; have q := k; have rs := Tryz.results62
  unfold g_profile_take_1 at h
  simp only [lentH, List.length_cons, List.length_nil, Nat.zero_add, Nat.reduceAdd, Tryz.ntmps62, dd_PC]
  refine xs <| rz ?_
  refine es <| xs <| rK fun K6 RK6 hK6 gK6 => zz ?_
  obtain ⟨r7, h8, h⟩ := bs h
  refine eW.intro (a_lines_Scanner_Number hI hPIv (nid := 4) (i0 := 1) (p0 := (some 1)) h8 fz) fi rfl <| zz ?_
  subst hK6 gK6
  refine es <| xr ?_
  cases h
  exact en fp
def g_profile_take (p_0 : T_api_Profile) (l_1 : T_api_Line) (i_2 : Int) : Option (T_api_Diag × Bool × T_api_Profile) :=
  ((atI l_1.Fields 0).bind fun y7 => (((if y7.Quoted then (some true) else ((g_profile_words).bind fun r18 => ((atI r18 i_2).bind fun y20 => (some (!(y7.Text == y20)))))) : Option (Bool)).bind fun v15 => (if v15 then (some ((T_api_Diag.mk l_1.Number y7.Column 4), true, p_0)) else ((g_lines_Scan l_1).bind fun r30 => ((g_lines_Scanner_Word r30).bind fun r36 => (if (i_2 == 0) then ((g_lines_Scanner_Name r36.2 false).bind fun r46 => ((g_lines_Scanner_End r46.2).bind fun r52 => (some (r52.1, r52.2.1, (T_api_Profile.mk r46.1 p_0.Reading p_0.MinFrames p_0.MaxFrames p_0.MinGap p_0.ShotBefore p_0.ShotAfter p_0.Rows p_0.Cols p_0.Forbidden p_0.SafeTop p_0.SafeBottom p_0.SafeLeft p_0.SafeRight))))) else (if (i_2 == 1) then ((g_profile_take_1 r36.2).bind fun r58 => ((g_lines_Scanner_End r58.2).bind fun r64 => (some (r64.1, r64.2.1, (T_api_Profile.mk p_0.Name r58.1 p_0.MinFrames p_0.MaxFrames p_0.MinGap p_0.ShotBefore p_0.ShotAfter p_0.Rows p_0.Cols p_0.Forbidden p_0.SafeTop p_0.SafeBottom p_0.SafeLeft p_0.SafeRight))))) else (if (i_2 == 2) then ((g_profile_take_1 r36.2).bind fun r73 => ((g_profile_take_1 r73.2).bind fun r76 => ((g_lines_Scanner_End r76.2).bind fun r82 => (some (r82.1, r82.2.1, (T_api_Profile.mk p_0.Name p_0.Reading r73.1 r76.1 p_0.MinGap p_0.ShotBefore p_0.ShotAfter p_0.Rows p_0.Cols p_0.Forbidden p_0.SafeTop p_0.SafeBottom p_0.SafeLeft p_0.SafeRight)))))) else (if (i_2 == 3) then ((g_profile_take_1 r36.2).bind fun r88 => ((g_lines_Scanner_End r88.2).bind fun r94 => (some (r94.1, r94.2.1, (T_api_Profile.mk p_0.Name p_0.Reading p_0.MinFrames p_0.MaxFrames r88.1 p_0.ShotBefore p_0.ShotAfter p_0.Rows p_0.Cols p_0.Forbidden p_0.SafeTop p_0.SafeBottom p_0.SafeLeft p_0.SafeRight))))) else (if (i_2 == 4) then ((g_profile_take_1 r36.2).bind fun r103 => ((g_profile_take_1 r103.2).bind fun r106 => ((g_lines_Scanner_End r106.2).bind fun r112 => (some (r112.1, r112.2.1, (T_api_Profile.mk p_0.Name p_0.Reading p_0.MinFrames p_0.MaxFrames p_0.MinGap r103.1 r106.1 p_0.Rows p_0.Cols p_0.Forbidden p_0.SafeTop p_0.SafeBottom p_0.SafeLeft p_0.SafeRight)))))) else (if (i_2 == 5) then ((g_profile_take_1 r36.2).bind fun r121 => ((g_profile_take_1 r121.2).bind fun r124 => ((g_lines_Scanner_End r124.2).bind fun r130 => (some (r130.1, r130.2.1, (T_api_Profile.mk p_0.Name p_0.Reading p_0.MinFrames p_0.MaxFrames p_0.MinGap p_0.ShotBefore p_0.ShotAfter r121.1 r124.1 p_0.Forbidden p_0.SafeTop p_0.SafeBottom p_0.SafeLeft p_0.SafeRight)))))) else (if (i_2 == 6) then ((g_profile_take_1 r36.2).bind fun r139 => ((g_profile_take_1 r139.2).bind fun r145 => ((g_profile_take_1 r145.2).bind fun r151 => ((g_profile_take_1 r151.2).bind fun r154 => ((g_lines_Scanner_End r154.2).bind fun r160 => (some (r160.1, r160.2.1, (T_api_Profile.mk p_0.Name p_0.Reading p_0.MinFrames p_0.MaxFrames p_0.MinGap p_0.ShotBefore p_0.ShotAfter p_0.Rows p_0.Cols p_0.Forbidden r139.1 r145.1 r151.1 r154.1)))))))) else ((g_lines_Scanner_Quoted r36.2).bind fun r163 => ((g_lines_Scanner_End r163.2).bind fun r169 => (some (r169.1, r169.2.1, (T_api_Profile.mk p_0.Name p_0.Reading p_0.MinFrames p_0.MaxFrames p_0.MinGap p_0.ShotBefore p_0.ShotAfter p_0.Rows p_0.Cols r163.1 p_0.SafeTop p_0.SafeBottom p_0.SafeLeft p_0.SafeRight)))))))))))))))))
theorem a_profile_take {I : World → Prop} (hI : Stab I) (hPIv : ∀ w, I w → PIv w) {H : Nat → Option Blk} {nid : Nat} {i0 : Nat} {p0 : Option Nat} {p_0 : T_api_Profile} {l_1 : T_api_Line} {i_2 : Int} {r : T_api_Diag × Bool × T_api_Profile} (h : g_profile_take p_0 l_1 i_2 = some r) (b0 : H i0 = some (.box p0 [.str p_0.Name, .int .i64 p_0.Reading, .int .i64 p_0.MinFrames, .int .i64 p_0.MaxFrames, .int .i64 p_0.MinGap, .int .i64 p_0.ShotBefore, .int .i64 p_0.ShotAfter, .int .i64 p_0.Rows, .int .i64 p_0.Cols, .str p_0.Forbidden, .int .i64 p_0.SafeTop, .int .i64 p_0.SafeBottom, .int .i64 p_0.SafeLeft, .int .i64 p_0.SafeRight])) : CallOK Tryz.prog I 37 [.ptr i0 0, T_api_Line.d l_1, .int .i64 i_2] H nid (.tup [T_api_Diag.d r.1, .bool r.2.1]) [(i0, some (.box p0 [.str r.2.2.Name, .int .i64 r.2.2.Reading, .int .i64 r.2.2.MinFrames, .int .i64 r.2.2.MaxFrames, .int .i64 r.2.2.MinGap, .int .i64 r.2.2.ShotBefore, .int .i64 r.2.2.ShotAfter, .int .i64 r.2.2.Rows, .int .i64 r.2.2.Cols, .str r.2.2.Forbidden, .int .i64 r.2.2.SafeTop, .int .i64 r.2.2.SafeBottom, .int .i64 r.2.2.SafeLeft, .int .i64 r.2.2.SafeRight]))] := by
  refine CallOK.intro (is := [(i0, p0)]) (css := [[.str p_0.Name, .int .i64 p_0.Reading, .int .i64 p_0.MinFrames, .int .i64 p_0.MaxFrames, .int .i64 p_0.MinGap, .int .i64 p_0.ShotBefore, .int .i64 p_0.ShotAfter, .int .i64 p_0.Rows, .int .i64 p_0.Cols, .str p_0.Forbidden, .int .i64 p_0.SafeTop, .int .i64 p_0.SafeBottom, .int .i64 p_0.SafeLeft, .int .i64 p_0.SafeRight]]) (ds0 := [.ptr 0 0, T_api_Line.d l_1, .int .i64 i_2]) (pl := [(0, none)]) hI Tryz.func37 rfl (by decide) (by simp [Tryz.f37]) (by kernel_rfl) rfl rfl rfl rfl (lentAll_of ⟨⟨b0, rfl⟩, trivial⟩) (by simp) ?_
  have dd := dd_PC; have k := True.intro; have q := k; have rs := Tryz.results37
  unfold g_profile_take at h
  simp only [lentH, List.length_cons, List.length_nil, Nat.zero_add, Nat.reduceAdd, Tryz.ntmps37, dd_PC]
  refine xs <| rz ?_
  refine es <| xs <| xs <| rK fun K6 RK6 hK6 gK6 => zz ?_
  obtain ⟨y7, q, h⟩ := bK q h
  refine zz ?_
  subst hK6 gK6
  refine es ?_
  obtain ⟨v15, h22, h⟩ := bs h
  refine rb_cut (fun v15 => ⟨envL [(0, .ptr 0 0), (2, .int .i64 i_2), (4, .ptr 1 0), (6, .ptr 2 0), (8, .ptr 3 0), (25, .bool v15)], heapL [(0, .box (some 0) [.str p_0.Name, .int .i64 p_0.Reading, .int .i64 p_0.MinFrames, .int .i64 p_0.MaxFrames, .int .i64 p_0.MinGap, .int .i64 p_0.ShotBefore, .int .i64 p_0.ShotAfter, .int .i64 p_0.Rows, .int .i64 p_0.Cols, .str p_0.Forbidden, .int .i64 p_0.SafeTop, .int .i64 p_0.SafeBottom, .int .i64 p_0.SafeLeft, .int .i64 p_0.SafeRight]), (1, .box none [.int .i64 l_1.Number, .sl (l_1.Fields.map T_api_Field.d)]), (2, .box none [.int .i64 0, .int .i64 0, .int .i64 0]), (3, .box none [.str y7.Text, .int .i64 y7.Column, .bool y7.Quoted])], 4, 125⟩) h22 ?_ ?_
  · clear h
    intro v15 h
    refine rD hI fun K16 RK16 hK16 gK16 => zz ?_
    rcases iK k h with ⟨k, h⟩ | ⟨k, h⟩
    · refine zz ?_
      subst hK16 gK16
      cases h
      exact en ⟨rfl, wk [(3, some 8)]⟩
    · refine zz ?_
      obtain ⟨r18, h19, h⟩ := bs h
      refine cd (a_profile_words hI h19) <| zz ?_
      obtain ⟨y20, q, h⟩ := bK q h
      refine zz ?_
      subst hK16 gK16
      cases h
      exact en ⟨rfl, wk [(3, some 8)]⟩
  · rcases iK k h with ⟨k, h⟩ | ⟨k, h⟩
    · refine xt <| xs <| rz ?_
      refine es <| xr <| er ?_
      cases h
      exact en fp
    · refine xf <| xk <| es <| xs <| rK fun K29 RK29 hK29 gK29 => zz ?_
      obtain ⟨r30, h31, h⟩ := bs h
      refine cW.introE (a_lines_Scan hI (nid := 5) h31) fz rfl <| zz ?_
      subst hK29 gK29
      refine es <| xs <| rK fun K35 RK35 hK35 gK35 => zz ?_
      obtain ⟨r36, h37, h⟩ := bs h
      refine eW.intro (a_lines_Scanner_Word hI (nid := 9) (i0 := 5) (p0 := none) h37 fz) fi rfl <| zz ?_
      subst hK35 gK35
      refine es <| xs <| rz ?_
      refine es <| xs <| xs <| rz ?_
      refine es <| xb <| xs <| rz ?_
      refine es ?_
      rcases iK k h with ⟨k, h⟩ | ⟨k, h⟩
      · refine xt <| rK fun K45 RK45 hK45 gK45 => zz ?_
        obtain ⟨r46, h47, h⟩ := bs h
        refine eW.intro (a_lines_Scanner_Name hI (nid := 17) (i0 := 5) (p0 := none) h47 fz) fi rfl <| zz ?_
        subst hK45 gK45
        refine bn <| es <| xs <| rK fun K51 RK51 hK51 gK51 => zz ?_
        obtain ⟨r52, h53, h⟩ := bs h
        refine eW.intro (a_lines_Scanner_End hI (nid := 22) (i0 := 5) (p0 := none) h53 fz) fi rfl <| zz ?_
        subst hK51 gK51
        refine es <| xr ?_
        cases h
        exact en fp
      · refine xf <| xs <| rz ?_
        refine es ?_
        rcases iK k h with ⟨k, h⟩ | ⟨k, h⟩
        · refine xt <| rK fun K57 RK57 hK57 gK57 => zz ?_
          obtain ⟨r58, h59, h⟩ := bs h
          refine eW.intro (a_profile_take_1 hI hPIv (nid := 19) (i0 := 6) (p0 := none) (i1 := 5) (p1 := none) h59 fz fz (by decide)) fi rfl <| zz ?_
          subst hK57 gK57
          refine bn <| es <| xs <| rK fun K63 RK63 hK63 gK63 => zz ?_
          obtain ⟨r64, h65, h⟩ := bs h
          refine eW.intro (a_lines_Scanner_End hI (nid := 24) (i0 := 5) (p0 := none) h65 fz) fi rfl <| zz ?_
          subst hK63 gK63
          refine es <| xr ?_
          cases h
          exact en fp
        · refine xf <| xs <| rz ?_
          refine es ?_
          rcases iK k h with ⟨k, h⟩ | ⟨k, h⟩
          · refine xt <| xs <| rK fun K72 RK72 hK72 gK72 => zz ?_
            obtain ⟨r73, h74, h⟩ := bs h
            refine eW.intro (a_profile_take_1 hI hPIv (nid := 21) (i0 := 6) (p0 := none) (i1 := 5) (p1 := none) h74 fz fz (by decide)) fi rfl <| zz ?_
            subst hK72 gK72
            refine es <| rK fun K75 RK75 hK75 gK75 => zz ?_
            obtain ⟨r76, h77, h⟩ := bs h
            refine eW.intro (a_profile_take_1 hI hPIv (nid := 27) (i0 := 6) (p0 := none) (i1 := 5) (p1 := none) h77 fz fz (by decide)) fi rfl <| zz ?_
            subst hK75 gK75
            refine bn <| es <| xs <| rK fun K81 RK81 hK81 gK81 => zz ?_
            obtain ⟨r82, h83, h⟩ := bs h
            refine eW.intro (a_lines_Scanner_End hI (nid := 32) (i0 := 5) (p0 := none) h83 fz) fi rfl <| zz ?_
            subst hK81 gK81
            refine es <| xr ?_
            cases h
            exact en fp
          · refine xf <| xs <| rz ?_
            refine es ?_
            rcases iK k h with ⟨k, h⟩ | ⟨k, h⟩
            · refine xt <| rK fun K87 RK87 hK87 gK87 => zz ?_
              obtain ⟨r88, h89, h⟩ := bs h
              refine eW.intro (a_profile_take_1 hI hPIv (nid := 23) (i0 := 6) (p0 := none) (i1 := 5) (p1 := none) h89 fz fz (by decide)) fi rfl <| zz ?_
              subst hK87 gK87
              refine bn <| es <| xs <| rK fun K93 RK93 hK93 gK93 => zz ?_
              obtain ⟨r94, h95, h⟩ := bs h
              refine eW.intro (a_lines_Scanner_End hI (nid := 28) (i0 := 5) (p0 := none) h95 fz) fi rfl <| zz ?_
              subst hK93 gK93
              refine es <| xr ?_
              cases h
              exact en fp
            · refine xf <| xs <| rz ?_
              refine es ?_
              rcases iK k h with ⟨k, h⟩ | ⟨k, h⟩
              · refine xt <| xs <| rK fun K102 RK102 hK102 gK102 => zz ?_
                obtain ⟨r103, h104, h⟩ := bs h
                refine eW.intro (a_profile_take_1 hI hPIv (nid := 25) (i0 := 6) (p0 := none) (i1 := 5) (p1 := none) h104 fz fz (by decide)) fi rfl <| zz ?_
                subst hK102 gK102
                refine es <| rK fun K105 RK105 hK105 gK105 => zz ?_
                obtain ⟨r106, h107, h⟩ := bs h
                refine eW.intro (a_profile_take_1 hI hPIv (nid := 31) (i0 := 6) (p0 := none) (i1 := 5) (p1 := none) h107 fz fz (by decide)) fi rfl <| zz ?_
                subst hK105 gK105
                refine bn <| es <| xs <| rK fun K111 RK111 hK111 gK111 => zz ?_
                obtain ⟨r112, h113, h⟩ := bs h
                refine eW.intro (a_lines_Scanner_End hI (nid := 36) (i0 := 5) (p0 := none) h113 fz) fi rfl <| zz ?_
                subst hK111 gK111
                refine es <| xr ?_
                cases h
                exact en fp
              · refine xf <| xs <| rz ?_
                refine es ?_
                rcases iK k h with ⟨k, h⟩ | ⟨k, h⟩
                · refine xt <| xs <| rK fun K120 RK120 hK120 gK120 => zz ?_
                  obtain ⟨r121, h122, h⟩ := bs h
                  refine eW.intro (a_profile_take_1 hI hPIv (nid := 27) (i0 := 6) (p0 := none) (i1 := 5) (p1 := none) h122 fz fz (by decide)) fi rfl <| zz ?_
                  subst hK120 gK120
                  refine es <| rK fun K123 RK123 hK123 gK123 => zz ?_
                  obtain ⟨r124, h125, h⟩ := bs h
                  refine eW.intro (a_profile_take_1 hI hPIv (nid := 33) (i0 := 6) (p0 := none) (i1 := 5) (p1 := none) h125 fz fz (by decide)) fi rfl <| zz ?_
                  subst hK123 gK123
                  refine bn <| es <| xs <| rK fun K129 RK129 hK129 gK129 => zz ?_
                  obtain ⟨r130, h131, h⟩ := bs h
                  refine eW.intro (a_lines_Scanner_End hI (nid := 38) (i0 := 5) (p0 := none) h131 fz) fi rfl <| zz ?_
                  subst hK129 gK129
                  refine es <| xr ?_
                  cases h
                  exact en fp
                · refine xf <| xs <| rz ?_
                  refine es ?_
                  rcases iK k h with ⟨k, h⟩ | ⟨k, h⟩
                  · refine xt <| xs <| rK fun K138 RK138 hK138 gK138 => zz ?_
                    obtain ⟨r139, h140, h⟩ := bs h
                    refine eW.intro (a_profile_take_1 hI hPIv (nid := 29) (i0 := 6) (p0 := none) (i1 := 5) (p1 := none) h140 fz fz (by decide)) fi rfl <| zz ?_
                    subst hK138 gK138
                    refine es <| xs <| rK fun K144 RK144 hK144 gK144 => zz ?_
                    obtain ⟨r145, h146, h⟩ := bs h
                    refine eW.intro (a_profile_take_1 hI hPIv (nid := 35) (i0 := 6) (p0 := none) (i1 := 5) (p1 := none) h146 fz fz (by decide)) fi rfl <| zz ?_
                    subst hK144 gK144
                    refine es <| xs <| rK fun K150 RK150 hK150 gK150 => zz ?_
                    obtain ⟨r151, h152, h⟩ := bs h
                    refine eW.intro (a_profile_take_1 hI hPIv (nid := 41) (i0 := 6) (p0 := none) (i1 := 5) (p1 := none) h152 fz fz (by decide)) fi rfl <| zz ?_
                    subst hK150 gK150
                    refine es <| rK fun K153 RK153 hK153 gK153 => zz ?_
                    obtain ⟨r154, h155, h⟩ := bs h
                    refine eW.intro (a_profile_take_1 hI hPIv (nid := 47) (i0 := 6) (p0 := none) (i1 := 5) (p1 := none) h155 fz fz (by decide)) fi rfl <| zz ?_
                    subst hK153 gK153
                    refine bn <| es <| xs <| rK fun K159 RK159 hK159 gK159 => zz ?_
                    obtain ⟨r160, h161, h⟩ := bs h
                    refine eW.intro (a_lines_Scanner_End hI (nid := 52) (i0 := 5) (p0 := none) h161 fz) fi rfl <| zz ?_
                    subst hK159 gK159
                    refine es <| xr ?_
                    cases h
                    exact en fp
                  · refine xf <| rK fun K162 RK162 hK162 gK162 => zz ?_
                    obtain ⟨r163, h164, h⟩ := bs h
                    refine eW.intro (a_lines_Scanner_Quoted hI (nid := 29) (i0 := 5) (p0 := none) h164 fz) fi rfl <| zz ?_
                    subst hK162 gK162
                    refine bn <| es <| xs <| rK fun K168 RK168 hK168 gK168 => zz ?_
                    obtain ⟨r169, h170, h⟩ := bs h
                    refine eW.intro (a_lines_Scanner_End hI (nid := 34) (i0 := 5) (p0 := none) h170 fz) fi rfl <| zz ?_
                    subst hK168 gK168
                    refine es <| xr ?_
                    cases h
                    exact en fp
def g_profile_Parse_s1 (r7 : (List T_api_Line) × (List T_api_Diag)) (r22 : (List (List UInt8))) (x24 : Int × Int × (List UInt8) × Int × Int × Int × Int × Int × Int × Int × Int × (List UInt8) × Int × Int × Int × Int) : Option (Nx (Int × Int × (List UInt8) × Int × Int × Int × Int × Int × Int × Int × Int × (List UInt8) × Int × Int × Int × Int) (((List T_api_Diag)) ⊕ ((List UInt8) × Int × Int × Int × Int × Int × Int × Int × Int × (List UInt8) × Int × Int × Int × Int))) :=
  (if (decide (x24.2.1 < (r22.length : Int))) then (if (decide ((r7.1.length : Int) ≤ x24.2.1)) then (some (.out (.inl [(T_api_Diag.mk x24.1 1 4)]))) else ((atI r7.1 x24.2.1).bind fun y168 => ((g_profile_take (T_api_Profile.mk x24.2.2.1 x24.2.2.2.1 x24.2.2.2.2.1 x24.2.2.2.2.2.1 x24.2.2.2.2.2.2.1 x24.2.2.2.2.2.2.2.1 x24.2.2.2.2.2.2.2.2.1 x24.2.2.2.2.2.2.2.2.2.1 x24.2.2.2.2.2.2.2.2.2.2.1 x24.2.2.2.2.2.2.2.2.2.2.2.1 x24.2.2.2.2.2.2.2.2.2.2.2.2.1 x24.2.2.2.2.2.2.2.2.2.2.2.2.2.1 x24.2.2.2.2.2.2.2.2.2.2.2.2.2.2.1 x24.2.2.2.2.2.2.2.2.2.2.2.2.2.2.2) y168 x24.2.1).bind fun r170 => (if r170.2.1 then (some (.out (.inl [r170.1]))) else (some (.go ((IntKind.i64.wrap (y168.Number + 1)), (IntKind.i64.wrap (x24.2.1 + 1)), r170.2.2.Name, r170.2.2.Reading, r170.2.2.MinFrames, r170.2.2.MaxFrames, r170.2.2.MinGap, r170.2.2.ShotBefore, r170.2.2.ShotAfter, r170.2.2.Rows, r170.2.2.Cols, r170.2.2.Forbidden, r170.2.2.SafeTop, r170.2.2.SafeBottom, r170.2.2.SafeLeft, r170.2.2.SafeRight))))))) else (some (.out (.inr (x24.2.2.1, x24.2.2.2.1, x24.2.2.2.2.1, x24.2.2.2.2.2.1, x24.2.2.2.2.2.2.1, x24.2.2.2.2.2.2.2.1, x24.2.2.2.2.2.2.2.2.1, x24.2.2.2.2.2.2.2.2.2.1, x24.2.2.2.2.2.2.2.2.2.2.1, x24.2.2.2.2.2.2.2.2.2.2.2.1, x24.2.2.2.2.2.2.2.2.2.2.2.2.1, x24.2.2.2.2.2.2.2.2.2.2.2.2.2.1, x24.2.2.2.2.2.2.2.2.2.2.2.2.2.2.1, x24.2.2.2.2.2.2.2.2.2.2.2.2.2.2.2)))))
def g_profile_Parse (src_0 : List UInt8) : Option (T_api_Profile × (List T_api_Diag)) :=
  ((g_lines_Split src_0).bind fun r7 => (if (decide (0 < (r7.2.length : Int))) then (some ((T_api_Profile.mk [] 0 0 0 0 0 0 0 0 [] 0 0 0 0), r7.2)) else ((g_profile_words).bind fun r22 => ((iter (g_profile_Parse_s1 r7 r22) (1, 0, [], 0, 0, 0, 0, 0, 0, 0, 0, [], 0, 0, 0, 0)).bind fun e25 => (match e25 with | Sum.inl e25 => (some ((T_api_Profile.mk [] 0 0 0 0 0 0 0 0 [] 0 0 0 0), e25)) | Sum.inr (e25) => ((g_profile_words).bind fun r184 => (if (decide ((r184.length : Int) < (r7.1.length : Int))) then ((g_profile_words).bind fun r193 => ((atI r7.1 (r193.length : Int)).bind fun y195 => ((atI y195.Fields 0).bind fun y201 => (some ((T_api_Profile.mk [] 0 0 0 0 0 0 0 0 [] 0 0 0 0), [(T_api_Diag.mk y195.Number y201.Column 4)]))))) else ((g_profile_Check (T_api_Profile.mk e25.1 e25.2.1 e25.2.2.1 e25.2.2.2.1 e25.2.2.2.2.1 e25.2.2.2.2.2.1 e25.2.2.2.2.2.2.1 e25.2.2.2.2.2.2.2.1 e25.2.2.2.2.2.2.2.2.1 e25.2.2.2.2.2.2.2.2.2.1 e25.2.2.2.2.2.2.2.2.2.2.1 e25.2.2.2.2.2.2.2.2.2.2.2.1 e25.2.2.2.2.2.2.2.2.2.2.2.2.1 e25.2.2.2.2.2.2.2.2.2.2.2.2.2)).bind fun r207 => (if (r207 != 0) then ((atI r7.1 0).bind fun y216 => (some ((T_api_Profile.mk [] 0 0 0 0 0 0 0 0 [] 0 0 0 0), [(T_api_Diag.mk y216.Number 1 r207)]))) else (some ((T_api_Profile.mk e25.1 e25.2.1 e25.2.2.1 e25.2.2.2.1 e25.2.2.2.2.1 e25.2.2.2.2.2.1 e25.2.2.2.2.2.2.1 e25.2.2.2.2.2.2.2.1 e25.2.2.2.2.2.2.2.2.1 e25.2.2.2.2.2.2.2.2.2.1 e25.2.2.2.2.2.2.2.2.2.2.1 e25.2.2.2.2.2.2.2.2.2.2.2.1 e25.2.2.2.2.2.2.2.2.2.2.2.2.1 e25.2.2.2.2.2.2.2.2.2.2.2.2.2), [])))))))))))
theorem a_profile_Parse {I : World → Prop} (hI : Stab I) (hPIv : ∀ w, I w → PIv w) (hShp : ∀ w, I w → Shp w) (hU8T : ∀ w, I w → U8T w) {src_0 : List UInt8} {r : T_api_Profile × (List T_api_Diag)} (h : g_profile_Parse src_0 = some r) : AFun Tryz.prog I 15 [.str src_0] (.tup [T_api_Profile.d r.1, .sl (r.2.map T_api_Diag.d)]) := by
  have dd := dd_PC; have k := True.intro; have q := k; have rs := Tryz.results15
  unfold g_profile_Parse at h
  refine .en hI Tryz.func15 Tryz.ntmps15 ?_
  refine xs <| rz ?_
  refine es <| xs <| rK fun K6 RK6 hK6 gK6 => zz ?_
  obtain ⟨r7, h8, h⟩ := bs h
  refine cw (a_lines_Split hI hShp h8) <| zz ?_
  subst hK6 gK6
  refine es <| xs <| xs <| rz ?_
  refine es ?_
  rcases iK k h with ⟨k, h⟩ | ⟨k, h⟩
  · refine xt <| xs <| rz ?_
    refine es <| xr <| er ?_
    cases h
    exact en fr
  · refine xf <| xk <| es <| xs <| rz ?_
    refine es <| xs <| rz ?_
    refine es <| xs <| xs <| rK fun K21 RK21 hK21 gK21 => zz ?_
    obtain ⟨r22, h23, h⟩ := bs h
    refine cw (a_profile_words hI h23) <| zz ?_
    subst hK21 gK21
    refine es <| xb ?_
    obtain ⟨e25, h179, h⟩ := bs h
    refine rb_loop (fun x24 => ⟨envL [(2, .ptr 0 0), (4, .sl (r7.1.map T_api_Line.d)), (6, .ptr 1 0), (7, .int .i64 x24.1), (24, .int .i64 (r22.length : Int)), (25, .int .i64 x24.2.1)], heapL [(0, .box none [.str [], .int .i64 0, .int .i64 0, .int .i64 0, .int .i64 0, .int .i64 0, .int .i64 0, .int .i64 0, .int .i64 0, .str [], .int .i64 0, .int .i64 0, .int .i64 0, .int .i64 0]), (1, .box none [.str x24.2.2.1, .int .i64 x24.2.2.2.1, .int .i64 x24.2.2.2.2.1, .int .i64 x24.2.2.2.2.2.1, .int .i64 x24.2.2.2.2.2.2.1, .int .i64 x24.2.2.2.2.2.2.2.1, .int .i64 x24.2.2.2.2.2.2.2.2.1, .int .i64 x24.2.2.2.2.2.2.2.2.2.1, .int .i64 x24.2.2.2.2.2.2.2.2.2.2.1, .str x24.2.2.2.2.2.2.2.2.2.2.2.1, .int .i64 x24.2.2.2.2.2.2.2.2.2.2.2.2.1, .int .i64 x24.2.2.2.2.2.2.2.2.2.2.2.2.2.1, .int .i64 x24.2.2.2.2.2.2.2.2.2.2.2.2.2.2.1, .int .i64 x24.2.2.2.2.2.2.2.2.2.2.2.2.2.2.2])], 2, 89⟩) (fun w => match w with | Sum.inl _ => .ret | Sum.inr (_) => .exit 0) (fun w => match w with | Sum.inl e25 => ⟨envL [(2, .ptr 0 0), (3, .own 1 e25.length)], heapL [(0, .box none [.str [], .int .i64 0, .int .i64 0, .int .i64 0, .int .i64 0, .int .i64 0, .int .i64 0, .int .i64 0, .int .i64 0, .str [], .int .i64 0, .int .i64 0, .int .i64 0, .int .i64 0]), (1, .vec 40 3 (e25.map T_api_Diag.d) false)], 2, 89⟩ | Sum.inr (e25) => ⟨envL [(2, .ptr 0 0), (4, .sl (r7.1.map T_api_Line.d)), (6, .ptr 1 0)], heapL [(0, .box none [.str [], .int .i64 0, .int .i64 0, .int .i64 0, .int .i64 0, .int .i64 0, .int .i64 0, .int .i64 0, .int .i64 0, .str [], .int .i64 0, .int .i64 0, .int .i64 0, .int .i64 0]), (1, .box none [.str e25.1, .int .i64 e25.2.1, .int .i64 e25.2.2.1, .int .i64 e25.2.2.2.1, .int .i64 e25.2.2.2.2.1, .int .i64 e25.2.2.2.2.2.1, .int .i64 e25.2.2.2.2.2.2.1, .int .i64 e25.2.2.2.2.2.2.2.1, .int .i64 e25.2.2.2.2.2.2.2.2.1, .str e25.2.2.2.2.2.2.2.2.2.1, .int .i64 e25.2.2.2.2.2.2.2.2.2.2.1, .int .i64 e25.2.2.2.2.2.2.2.2.2.2.2.1, .int .i64 e25.2.2.2.2.2.2.2.2.2.2.2.2.1, .int .i64 e25.2.2.2.2.2.2.2.2.2.2.2.2.2])], 2, 89⟩) h179 (wk [(1, some 12)]) (by intro w; rcases w with w | w <;> simp) ?_ ?_
    · clear h
      intro x24 y h
      unfold g_profile_Parse_s1 at h
      refine xs <| rz ?_
      refine es <| xs ?_
      rcases iK k h with ⟨k, h⟩ | ⟨k, h⟩
      · refine xt <| xk <| es <| xs <| xb <| xs <| rz ?_
        refine es <| xs <| xs <| rz ?_
        refine es ?_
        rcases iK k h with ⟨k, h⟩ | ⟨k, h⟩
        · refine xt <| xs <| rz ?_
          refine es <| xr <| er <| br <| er ?_
          cases h
          exact en ⟨rfl, wk [(1, some 12)]⟩
        · refine xf <| xk <| es <| xs <| xs <| rK fun K167 RK167 hK167 gK167 => zz ?_
          obtain ⟨y168, q, h⟩ := bK q h
          refine zz ?_
          obtain ⟨r170, h171, h⟩ := bs h
          refine eW.intro (a_profile_take hI hPIv (nid := 14) (i0 := 1) (p0 := none) h171 fz) fi rfl <| zz ?_
          subst hK167 gK167
          refine es <| xs <| rz ?_
          refine es ?_
          rcases iK k h with ⟨k, h⟩ | ⟨k, h⟩
          · refine xt <| xs <| rP hI fun K176 hK176 => rgP_cons <| zq ?_
            refine sP.light rfl fd <| rgP_cons <| zq ?_
            refine sP.foot (.cell 18 0 3) (fun _ => FootOK.ld rfl rfl rfl (by kernel_rfl) (by decide)) fd (by first | exact .inl (by first | rfl | decide) | exact .inr (by kernel_rfl)) <| rgP_cons <| zq ?_
            refine sP.foot (.ids []) (fun hN => FootOK.idsB [] (by rfl) rfl hN) fd (by first | exact .inl (by first | rfl | decide) | exact .inr (by kernel_rfl)) <| rgP_cons <| zq ?_
            refine sP.pat 0 0 14 rfl rfl rfl <| rgP_cons <| zq ?_
            refine sP.light rfl fd <| zq ?_
            refine rgP_nil fk ?_
            subst hK176
            refine es <| xr <| er <| br <| er ?_
            cases h
            exact en ⟨rfl, wk [(1, some 24)]⟩
          · refine xf <| xk <| es <| rz ?_
            refine bn <| es <| rz ?_
            cases h
            exact en ⟨rfl, wk []⟩
      · refine xf <| xx <| ee ?_
        cases h
        exact en ⟨rfl, wk []⟩
    · rcases e25 with e25 | e25
      · try dsimp only at h ⊢
        refine br <| er ?_
        cases h
        exact en fr
      · try dsimp only at h ⊢
        refine bh <| es <| xs <| xs <| rK fun K183 RK183 hK183 gK183 => zz ?_
        obtain ⟨r184, h185, h⟩ := bs h
        refine cw (a_profile_words hI h185) <| zz ?_
        subst hK183 gK183
        refine es ?_
        rcases iK k h with ⟨k, h⟩ | ⟨k, h⟩
        · refine xt <| xs <| rK fun K192 RK192 hK192 gK192 => zz ?_
          obtain ⟨r193, h194, h⟩ := bs h
          refine cw (a_profile_words hI h194) <| zz ?_
          obtain ⟨y195, q, h⟩ := bK q h
          refine zz ?_
          subst hK192 gK192
          refine es <| xs <| rP hI fun K200 hK200 => rgP_cons <| zq ?_
          refine sP.light rfl fd <| rgP_cons <| zq ?_
          refine sP.light rfl fd <| rgP_cons <| zq ?_
          refine sP.foot (.cell 12 0 1) (fun _ => FootOK.ld rfl rfl rfl (by kernel_rfl) (by decide)) fd (by first | exact .inl (by first | rfl | decide) | exact .inr (by kernel_rfl)) <| rgP_cons <| zq ?_
          refine sP.light rfl fd <| rgP_cons <| zq ?_
          refine sP.foot (.cell 12 1 1) (fun _ => FootOK.ld rfl rfl rfl (by kernel_rfl) (by decide)) fd (by first | exact .inl (by first | rfl | decide) | exact .inr (by kernel_rfl)) <| rgP_cons <| zq ?_
          obtain ⟨y201, q, h⟩ := bK q h
          refine zq ?_
          refine sP.foot (.ids []) (fun hN => FootOK.idsB [] (by rfl) rfl hN) fd (by first | exact .inl (by first | rfl | decide) | exact .inr (by kernel_rfl)) <| rgP_cons <| zq ?_
          refine sP.light rfl fd <| rgP_cons <| zq ?_
          refine sP.foot (.ids []) (fun hN => FootOK.idsB [] (by rfl) rfl hN) fd (by first | exact .inl (by first | rfl | decide) | exact .inr (by kernel_rfl)) <| rgP_cons <| zq ?_
          refine sP.light rfl fd <| rgP_cons <| zq ?_
          refine sP.foot (.ids []) (fun hN => FootOK.idsB [] (by rfl) rfl hN) fd (by first | exact .inl (by first | rfl | decide) | exact .inr (by kernel_rfl)) <| rgP_cons <| zq ?_
          refine sP.pat 0 0 14 rfl rfl rfl <| rgP_cons <| zq ?_
          refine sP.light rfl fd <| zq ?_
          refine rgP_nil fk ?_
          subst hK200
          refine es <| xr <| er ?_
          cases h
          exact en fr
        · refine xf <| xk <| es <| xs <| xs <| rK fun K206 RK206 hK206 gK206 => zz ?_
          obtain ⟨r207, h208, h⟩ := bs h
          refine cw (a_profile_Check hI hU8T h208) <| zz ?_
          subst hK206 gK206
          refine es <| xs <| rz ?_
          refine es ?_
          rcases iK k h with ⟨k, h⟩ | ⟨k, h⟩
          · refine xt <| xs <| rP hI fun K215 hK215 => rgP_cons <| zq ?_
            refine sP.light rfl fd <| rgP_cons <| zq ?_
            refine sP.light rfl fd <| rgP_cons <| zq ?_
            obtain ⟨y216, q, h⟩ := bK q h
            refine zq ?_
            refine sP.foot (.ids []) (fun hN => FootOK.idsB [] (by rfl) rfl hN) fd (by first | exact .inl (by first | rfl | decide) | exact .inr (by kernel_rfl)) <| rgP_cons <| zq ?_
            refine sP.light rfl fd <| rgP_cons <| zq ?_
            refine sP.foot (.ids []) (fun hN => FootOK.idsB [] (by rfl) rfl hN) fd (by first | exact .inl (by first | rfl | decide) | exact .inr (by kernel_rfl)) <| rgP_cons <| zq ?_
            refine sP.light rfl fd <| rgP_cons <| zq ?_
            refine sP.light rfl fd <| rgP_cons <| zq ?_
            refine sP.foot (.ids []) (fun hN => FootOK.idsB [] (by rfl) rfl hN) fd (by first | exact .inl (by first | rfl | decide) | exact .inr (by kernel_rfl)) <| rgP_cons <| zq ?_
            refine sP.pat 0 0 14 rfl rfl rfl <| rgP_cons <| zq ?_
            refine sP.light rfl fd <| zq ?_
            refine rgP_nil fk ?_
            subst hK215
            refine es <| xr <| er ?_
            cases h
            exact en fr
          · refine xf <| xk <| es <| xs <| rz ?_
            refine es <| xr ?_
            cases h
            exact en fr
end Go.Proofs.YtedhognhhcihpaaGreatDoor
namespace Go.Proofs.YtedhognhhcihpaaGreatDoor
open Go.RowKit
set_option maxRecDepth 100000
set_option maxHeartbeats 10000000
structure T_captionerref07_Scanner where
  Line : T_api_Line
  At : Int
  Code : Int
  Col : Int
  deriving DecidableEq
def T_captionerref07_Scanner.d (x : T_captionerref07_Scanner) : D := .agg [.int .i64 x.Line.Number, .sl (x.Line.Fields.map T_api_Field.d), .int .i64 x.At, .int .i64 x.Code, .int .i64 x.Col]
def g_ref08_Repertoire  : Option ((List UInt8)) :=
  (some [32, 33, 34, 35, 36, 37, 38, 39, 40, 41, 42, 43, 44, 45, 46, 47, 48, 49, 50, 51, 52, 53, 54, 55, 56, 57, 58, 59, 60, 61, 62, 63, 64, 65, 66, 67, 68, 69, 70, 71, 72, 73, 74, 75, 76, 77, 78, 79, 80, 81, 82, 83, 84, 85, 86, 87, 88, 89, 90, 91, 92, 93, 94, 95, 96, 97, 98, 99, 100, 101, 102, 103, 104, 105, 106, 107, 108, 109, 110, 111, 112, 113, 114, 115, 116, 117, 118, 119, 120, 121, 122, 123, 124, 125, 126, 194, 161, 194, 162, 194, 163, 194, 164, 194, 165, 194, 166, 194, 167, 194, 169, 194, 171, 194, 174, 194, 176, 194, 183, 194, 187, 194, 189, 194, 191, 195, 128, 195, 129, 195, 130, 195, 131, 195, 132, 195, 133, 195, 134, 195, 135, 195, 136, 195, 137, 195, 138, 195, 139, 195, 140, 195, 141, 195, 142, 195, 143, 195, 145, 195, 146, 195, 147, 195, 148, 195, 149, 195, 150, 195, 152, 195, 153, 195, 154, 195, 155, 195, 156, 195, 159, 195, 160, 195, 161, 195, 162, 195, 163, 195, 164, 195, 165, 195, 166, 195, 167, 195, 168, 195, 169, 195, 170, 195, 171, 195, 172, 195, 173, 195, 174, 195, 175, 195, 177, 195, 178, 195, 179, 195, 180, 195, 181, 195, 182, 195, 184, 195, 185, 195, 186, 195, 187, 195, 188, 197, 146, 197, 147, 226, 128, 148, 226, 128, 152, 226, 128, 153, 226, 128, 156, 226, 128, 157, 226, 128, 162, 226, 128, 166, 226, 132, 162, 226, 153, 170])
def g_ref08_Index_s1 (r_0 : Int) (r18 : (List UInt8)) (x20 : Int × Nat) : Option (Nx (Int × Nat) (Int ⊕ Unit)) :=
  (if (decide (x20.2 < r18.length)) then (if ((runeAt r18 x20.2) == r_0) then (some (.out (.inl x20.1))) else (some (.go ((IntKind.i64.wrap (x20.1 + 1)), (x20.2 + widthAt r18 x20.2))))) else (some (.out (.inr ()))))
def g_ref08_Index (r_0 : Int) : Option (Int) :=
  (((if (decide (32 ≤ r_0)) then (some (decide (r_0 ≤ 126))) else (some false)) : Option (Bool)).bind fun v5 => (if v5 then (some (IntKind.i64.wrap (IntKind.i32.wrap (r_0 - 32)))) else ((g_ref08_Repertoire).bind fun r18 => ((iter (g_ref08_Index_s1 r_0 r18) (0, 0)).bind fun e21 => (match e21 with | Sum.inl e21 => (some e21) | Sum.inr (e21) => (some (-1)))))))
def g_ref08_Valid_s1 (s_0 : List UInt8) (x5 : Nat) : Option (Nx (Nat) (Unit ⊕ Unit)) :=
  (if (decide (x5 < s_0.length)) then ((g_ref08_Index (runeAt s_0 x5)).bind fun r32 => (if (decide (r32 < 0)) then (some (.out (.inl ()))) else (some (.go (x5 + widthAt s_0 x5))))) else (some (.out (.inr ()))))
def g_ref08_Valid (s_0 : List UInt8) : Option (Bool) :=
  ((iter (g_ref08_Valid_s1 s_0) 0).bind fun e6 => (match e6 with | Sum.inl e6 => (some false) | Sum.inr (e6) => (some true)))
def g_ref08_runes_s1 (s_0 : List UInt8) (x7 : (List Int) × Nat) : Option (Nx ((List Int) × Nat) ((List Int))) :=
  (if (decide (x7.2 < s_0.length)) then (if (x7.1.length + 1) * 4 ≤ 140737488355328 then (some (.go ((x7.1 ++ [(runeAt s_0 x7.2)]), (x7.2 + widthAt s_0 x7.2)))) else none) else (some (.out x7.1)))
def g_ref08_runes (s_0 : List UInt8) : Option ((List Int)) :=
  ((iter (g_ref08_runes_s1 s_0) ([], 0)).bind fun e8 => (some e8))
def g_ref08_Chars (s_0 : List UInt8) : Option ((List Int)) :=
  ((g_ref08_Valid s_0).bind fun r7 => (if r7 then ((g_ref08_runes s_0).bind fun r14 => (some r14)) else (some [])))
def g_ref07_digit (c_0 : Int) : Option (Bool) :=
  (if (decide (48 ≤ c_0)) then (some (decide (c_0 ≤ 57))) else (some false))
def g_ref07_Name_s1 (s_0 : List UInt8) (x14 : Int) : Option (Nx (Int) (Unit ⊕ Unit)) :=
  (if (decide (x14 < (s_0.length : Int))) then ((((((atI s_0 x14).bind fun b133 => (if (decide (65 ≤ (b133.toNat : Int))) then (some (decide ((b133.toNat : Int) ≤ 90))) else (some false))) : Option (Bool)).bind fun v131 => (if v131 then (some (.go ())) else (if (x14 == 0) then (some (.out ())) else ((atI s_0 x14).bind fun b151 => ((g_ref07_digit (b151.toNat : Int)).bind fun r153 => (if r153 then (some (.go ())) else (if ((b151.toNat : Int) != 95) then (if ((b151.toNat : Int) != 45) then (some (.out ())) else (some (.go ()))) else (some (.go ()))))))))) : Option (Nx (Unit) (Unit))).bind fun w161 => match w161 with | .go v126 => (some (.go (IntKind.i64.wrap (x14 + 1)))) | .out e162 => (some (.out (.inl ())))) else (some (.out (.inr ()))))
def g_ref07_Name (s_0 : List UInt8) : Option (Bool) :=
  (((if (decide ((s_0.length : Int) < 1)) then (some true) else (some (decide (16 < (s_0.length : Int))))) : Option (Bool)).bind fun v5 => (if v5 then (some false) else ((iter (g_ref07_Name_s1 s_0) 0).bind fun e15 => (match e15 with | Sum.inl e15 => (some false) | Sum.inr (e15) => (some true)))))
def g_ref07_quoted_s1 (s_0 : List UInt8) (x226 : Int × (List UInt8)) : Option (Nx (Int × (List UInt8)) (((List UInt8) × Int × Int) ⊕ Unit)) :=
  (if (decide (x226.1 < (s_0.length : Int))) then ((atI s_0 x226.1).bind fun b343 => (if ((b343.toNat : Int) == 34) then (((if (decide ((IntKind.i64.wrap (x226.1 + 1)) < (s_0.length : Int))) then ((atI s_0 (IntKind.i64.wrap (x226.1 + 1))).bind fun b355 => (some ((b355.toNat : Int) != 32))) else (some false)) : Option (Bool)).bind fun v352 => (if v352 then (some (.out (.inl ([], 0, (IntKind.i64.wrap (x226.1 + 1)))))) else (some (.out (.inl (x226.2, (IntKind.i64.wrap (x226.1 + 1)), -1)))))) else (((if (decide ((b343.toNat : Int) < 32)) then (some true) else (some ((b343.toNat : Int) == 127))) : Option (Bool)).bind fun v365 => (if v365 then (some (.out (.inl ([], 0, x226.1)))) else (if ((b343.toNat : Int) != 92) then ((subI s_0 x226.1 (IntKind.i64.wrap (x226.1 + 1))).bind fun z386 => (if x226.2.length + z386.length ≤ 9223372036854775807 then (some (.go ((IntKind.i64.wrap (x226.1 + 1)), (x226.2 ++ z386)))) else none)) else (if (decide ((s_0.length : Int) ≤ (IntKind.i64.wrap (x226.1 + 1)))) then (some (.out (.inl ([], 0, x226.1)))) else ((atI s_0 (IntKind.i64.wrap (x226.1 + 1))).bind fun b406 => (if ((b406.toNat : Int) == 34) then ((subI s_0 (IntKind.i64.wrap (x226.1 + 1)) (IntKind.i64.wrap (x226.1 + 2))).bind fun z412 => (if x226.2.length + z412.length ≤ 9223372036854775807 then (some (.go ((IntKind.i64.wrap (x226.1 + 2)), (x226.2 ++ z412)))) else none)) else (if ((b406.toNat : Int) == 92) then ((subI s_0 (IntKind.i64.wrap (x226.1 + 1)) (IntKind.i64.wrap (x226.1 + 2))).bind fun z425 => (if x226.2.length + z425.length ≤ 9223372036854775807 then (some (.go ((IntKind.i64.wrap (x226.1 + 2)), (x226.2 ++ z425)))) else none)) else (if ((b406.toNat : Int) == 110) then (if x226.2.length + 1 ≤ 9223372036854775807 then (some (.go ((IntKind.i64.wrap (x226.1 + 2)), (x226.2 ++ [10])))) else none) else (some (.out (.inl ([], 0, x226.1)))))))))))))) else (some (.out (.inr ()))))
def g_ref07_quoted (s_0 : List UInt8) (i_1 : Int) : Option ((List UInt8) × Int × Int) :=
  ((iter (g_ref07_quoted_s1 s_0) ((IntKind.i64.wrap (i_1 + 1)), [])).bind fun e227 => (match e227 with | Sum.inl e227 => (some (e227.1, e227.2.1, e227.2.2)) | Sum.inr (e227) => (some ([], 0, (s_0.length : Int)))))
def g_ref07_wordByte (c_0 : Int) : Option (Bool) :=
  (if (decide (33 ≤ c_0)) then (if (decide (c_0 ≤ 126)) then (some (c_0 != 34)) else (some false)) else (some false))
def g_ref07_fields_s2 (s_0 : List UInt8) (x398 : Int) : Option (Nx (Int) (Int)) :=
  (if (decide (x398 < (s_0.length : Int))) then ((atI s_0 x398).bind fun b426 => (if ((b426.toNat : Int) == 32) then (some (.go (IntKind.i64.wrap (x398 + 1)))) else (some (.out x398)))) else (some (.out x398)))
def g_ref07_fields_s3 (s_0 : List UInt8) (x550 : Int) : Option (Nx (Int) (Int ⊕ Int)) :=
  (((if (decide (x550 < (s_0.length : Int))) then ((atI s_0 x550).bind fun b609 => (some ((b609.toNat : Int) != 32))) else (some false)) : Option (Bool)).bind fun v606 => (if v606 then ((atI s_0 x550).bind fun b619 => ((g_ref07_wordByte (b619.toNat : Int)).bind fun r621 => (if r621 then (some (.go (IntKind.i64.wrap (x550 + 1)))) else (some (.out (.inl x550)))))) else (some (.out (.inr x550)))))
def g_ref07_fields_s1 (s_0 : List UInt8) (x7 : (List T_api_Field) × Int) : Option (Nx ((List T_api_Field) × Int) ((List T_api_Field) × Int)) :=
  ((iter (g_ref07_fields_s2 s_0) x7.2).bind fun e399 => (((if (decide ((s_0.length : Int) ≤ e399)) then (some true) else ((atI s_0 e399).bind fun b438 => (some ((b438.toNat : Int) == 35)))) : Option (Bool)).bind fun v435 => (if v435 then (some (.out (x7.1, -1))) else ((atI s_0 e399).bind fun b450 => (if ((b450.toNat : Int) == 34) then ((g_ref07_quoted s_0 e399).bind fun r457 => (if (decide (0 ≤ r457.2.2)) then (some (.out ([], r457.2.2))) else (if (x7.1.length + 1) * 32 ≤ 140737488355328 then (some (.go ((x7.1 ++ [(T_api_Field.mk r457.1 (IntKind.i64.wrap (e399 + 1)) true)]), r457.2.1))) else none))) else ((iter (g_ref07_fields_s3 s_0) e399).bind fun e551 => (match e551 with | Sum.inl e551 => (some (.out ([], e551))) | Sum.inr (e551) => ((subI s_0 e399 e551).bind fun z629 => (if (x7.1.length + 1) * 32 ≤ 140737488355328 then (some (.go ((x7.1 ++ [(T_api_Field.mk z629 (IntKind.i64.wrap (e399 + 1)) false)]), e551))) else none)))))))))
def g_ref07_fields (s_0 : List UInt8) : Option ((List T_api_Field) × Int) :=
  ((iter (g_ref07_fields_s1 s_0) ([], 0)).bind fun e8 => (some (e8.1, e8.2)))
def g_ref07_Split_s1 (src_0 : List UInt8) (x16 : (List T_api_Line) × (List T_api_Diag) × Int × Int × Int) : Option (Nx ((List T_api_Line) × (List T_api_Diag) × Int × Int × Int) ((List T_api_Line) × (List T_api_Diag))) :=
  (if (decide (x16.2.2.2.2 ≤ (src_0.length : Int))) then (((((if (decide (x16.2.2.2.2 < (src_0.length : Int))) then ((atI src_0 x16.2.2.2.2).bind fun b468 => (some ((b468.toNat : Int) != 10))) else (some false)) : Option (Bool)).bind fun v465 => (if v465 then (some (x16.1, x16.2.1, x16.2.2.1, x16.2.2.2.1)) else ((subI src_0 x16.2.2.2.1 x16.2.2.2.2).bind fun z481 => (if (decide (1000 < (z481.length : Int))) then (if (x16.2.1.length + 1) * 24 ≤ 140737488355328 then (some (x16.1, (x16.2.1 ++ [(T_api_Diag.mk x16.2.2.1 1001 9)]), (IntKind.i64.wrap (x16.2.2.1 + 1)), (IntKind.i64.wrap (x16.2.2.2.2 + 1)))) else none) else ((g_ref07_fields z481).bind fun r501 => (if (decide (0 ≤ r501.2)) then (if (x16.2.1.length + 1) * 24 ≤ 140737488355328 then (some (x16.1, (x16.2.1 ++ [(T_api_Diag.mk x16.2.2.1 (IntKind.i64.wrap (r501.2 + 1)) 4)]), (IntKind.i64.wrap (x16.2.2.1 + 1)), (IntKind.i64.wrap (x16.2.2.2.2 + 1)))) else none) else (if (decide (0 < (r501.1.length : Int))) then (if (x16.1.length + 1) * 32 ≤ 140737488355328 then (some ((x16.1 ++ [(T_api_Line.mk x16.2.2.1 r501.1)]), x16.2.1, (IntKind.i64.wrap (x16.2.2.1 + 1)), (IntKind.i64.wrap (x16.2.2.2.2 + 1)))) else none) else (some (x16.1, x16.2.1, (IntKind.i64.wrap (x16.2.2.1 + 1)), (IntKind.i64.wrap (x16.2.2.2.2 + 1))))))))))) : Option ((List T_api_Line) × (List T_api_Diag) × Int × Int)).bind fun v460 => (some (.go (v460.1, v460.2.1, v460.2.2.1, v460.2.2.2, (IntKind.i64.wrap (x16.2.2.2.2 + 1)))))) else (some (.out (x16.1, x16.2.1))))
def g_ref07_Split (src_0 : List UInt8) : Option ((List T_api_Line) × (List T_api_Diag)) :=
  (if (decide (262144 < (src_0.length : Int))) then (some ([], [(T_api_Diag.mk 1 1 9)])) else ((iter (g_ref07_Split_s1 src_0) ([], [], 1, 0, 0)).bind fun e17 => ((subH e17.2 (if 50 < ((e17.2.length : Nat) : Int) then 50 else ((e17.2.length : Nat) : Int))).bind fun z534 => (some (e17.1, z534)))))
def g_ref07_Split_z_s1 (src_0 : List UInt8) (x16 : (List T_api_Line) × Int × Int × Int) : Option (Nx ((List T_api_Line) × Int × Int × Int) ((List T_api_Line))) :=
  (if (decide (x16.2.2.2 ≤ (src_0.length : Int))) then (((if (decide (x16.2.2.2 < (src_0.length : Int))) then ((atI src_0 x16.2.2.2).bind fun b297 => (some ((b297.toNat : Int) != 10))) else (some false)) : Option (Bool)).bind fun v294 => (if v294 then (some (.go (x16.1, x16.2.1, x16.2.2.1, (IntKind.i64.wrap (x16.2.2.2 + 1))))) else ((subI src_0 x16.2.2.1 x16.2.2.2).bind fun z311 => (if (decide (1000 < (z311.length : Int))) then none else ((g_ref07_fields z311).bind fun r326 => (if (decide (0 ≤ r326.2)) then none else (if (decide (0 < (r326.1.length : Int))) then (if (x16.1.length + 1) * 32 ≤ 140737488355328 then (some (.go ((x16.1 ++ [(T_api_Line.mk x16.2.1 r326.1)]), (IntKind.i64.wrap (x16.2.1 + 1)), (IntKind.i64.wrap (x16.2.2.2 + 1)), (IntKind.i64.wrap (x16.2.2.2 + 1))))) else none) else (some (.go (x16.1, (IntKind.i64.wrap (x16.2.1 + 1)), (IntKind.i64.wrap (x16.2.2.2 + 1)), (IntKind.i64.wrap (x16.2.2.2 + 1)))))))))))) else (some (.out x16.1)))
def g_ref07_Split_z (src_0 : List UInt8) : Option ((List T_api_Line) × (List T_api_Diag)) :=
  (if (decide (262144 < (src_0.length : Int))) then none else ((iter (g_ref07_Split_z_s1 src_0) ([], 1, 0, 0)).bind fun e17 => (some (e17, []))))
def g_ref07_Split_n (src_0 : List UInt8) : Option ((List T_api_Line) × (List T_api_Diag)) := (g_ref07_Split src_0).bind fun x => if x.2.isEmpty then ((g_ref07_Split_z src_0).bind fun l => some (l.1, [])) else some x
def g_ref07_Scan (l_0 : T_api_Line) : Option (T_captionerref07_Scanner) :=
  (some (T_captionerref07_Scanner.mk l_0 0 0 0))
def g_ref07_Scanner_Left (s_0 : T_captionerref07_Scanner) : Option (Int × T_captionerref07_Scanner) :=
  (if (s_0.Code != 0) then (some (0, s_0)) else (some ((IntKind.i64.wrap ((s_0.Line.Fields.length : Int) - s_0.At)), s_0)))
def g_ref07_Scanner_fail (s_0 : T_captionerref07_Scanner) (e_1 : Int) (column_2 : Int) : Option (T_captionerref07_Scanner) :=
  (if (s_0.Code == 0) then (some (T_captionerref07_Scanner.mk s_0.Line s_0.At e_1 column_2)) else (some s_0))
def g_ref07_Scanner_take (s_0 : T_captionerref07_Scanner) (quoted_1 : Bool) : Option (T_api_Field × Bool × T_captionerref07_Scanner) :=
  (if (s_0.Code != 0) then (some ((T_api_Field.mk [] 0 false), false, s_0)) else ((g_ref07_Scanner_Left s_0).bind fun r12 => (if (r12.1 == 0) then ((g_ref07_Scanner_fail r12.2 4 0).bind fun r19 => (some ((T_api_Field.mk [] 0 false), false, r19))) else ((atI r12.2.Line.Fields r12.2.At).bind fun y27 => (if (y27.Quoted == quoted_1) then (some (y27, true, (T_captionerref07_Scanner.mk r12.2.Line (IntKind.i64.wrap (r12.2.At + 1)) r12.2.Code r12.2.Col))) else ((g_ref07_Scanner_fail r12.2 4 y27.Column).bind fun r40 => (some ((T_api_Field.mk [] 0 false), false, r40))))))))
def g_ref07_Scanner_Choice_s1 (words_1 : List (List UInt8)) (r7 : T_api_Field × Bool × T_captionerref07_Scanner) (x14 : Int) : Option (Nx (Int) (Int ⊕ Unit)) :=
  (if (decide (x14 < (words_1.length : Int))) then ((atI words_1 x14).bind fun y89 => (if (y89 == r7.1.Text) then (some (.out (.inl x14))) else (some (.go (IntKind.i64.wrap (x14 + 1)))))) else (some (.out (.inr ()))))
def g_ref07_Scanner_Choice (s_0 : T_captionerref07_Scanner) (words_1 : List (List UInt8)) : Option (Int × T_captionerref07_Scanner) :=
  ((g_ref07_Scanner_take s_0 false).bind fun r7 => (if r7.2.1 then ((iter (g_ref07_Scanner_Choice_s1 words_1 r7) 0).bind fun e15 => (match e15 with | Sum.inl e15 => (some (e15, r7.2.2)) | Sum.inr (e15) => ((g_ref07_Scanner_fail r7.2.2 4 r7.1.Column).bind fun r102 => (some (-1, r102))))) else (some (-1, r7.2.2))))
def g_ref07_Scanner_Name (s_0 : T_captionerref07_Scanner) (empty_1 : Bool) : Option ((List UInt8) × T_captionerref07_Scanner) :=
  ((g_ref07_Scanner_take s_0 false).bind fun r7 => (((if r7.2.1 then (if empty_1 then (some (r7.1.Text == ([45] : List UInt8))) else (some false)) else (some true)) : Option (Bool)).bind fun v12 => (if v12 then (some ([], r7.2.2)) else ((g_ref07_Name r7.1.Text).bind fun r24 => (if r24 then (some (r7.1.Text, r7.2.2)) else ((g_ref07_Scanner_fail r7.2.2 5 r7.1.Column).bind fun r33 => (some ([], r33))))))))
def g_ref07_Number_s1 (z19 : List UInt8) (x43 : Int) : Option (Nx (Int) (Unit ⊕ Unit)) :=
  (if (decide (x43 < (z19.length : Int))) then ((atI z19 x43).bind fun b97 => ((g_ref07_digit (b97.toNat : Int)).bind fun r99 => (if r99 then (some (.go (IntKind.i64.wrap (x43 + 1)))) else (some (.out (.inl ())))))) else (some (.out (.inr ()))))
def g_ref07_Number_s2 (z19 : List UInt8) (x115 : Int × Int) : Option (Nx (Int × Int) (Int)) :=
  (if (decide (x115.2 < (z19.length : Int))) then ((atI z19 x115.2).bind fun b134 => (some (.go ((IntKind.u64.wrap ((IntKind.u64.wrap (10 * x115.1)) + (IntKind.u64.wrap (IntKind.u8.wrap ((b134.toNat : Int) - 48))))), (IntKind.i64.wrap (x115.2 + 1)))))) else (some (.out x115.1)))
def g_ref07_Number_s3 (s_0 : List UInt8) (x182 : Int) : Option (Nx (Int) (Unit ⊕ Unit)) :=
  (if (decide (x182 < (s_0.length : Int))) then ((atI s_0 x182).bind fun b236 => ((g_ref07_digit (b236.toNat : Int)).bind fun r238 => (if r238 then (some (.go (IntKind.i64.wrap (x182 + 1)))) else (some (.out (.inl ())))))) else (some (.out (.inr ()))))
def g_ref07_Number_s4 (s_0 : List UInt8) (x254 : Int × Int) : Option (Nx (Int × Int) (Int)) :=
  (if (decide (x254.2 < (s_0.length : Int))) then ((atI s_0 x254.2).bind fun b273 => (some (.go ((IntKind.u64.wrap ((IntKind.u64.wrap (10 * x254.1)) + (IntKind.u64.wrap (IntKind.u8.wrap ((b273.toNat : Int) - 48))))), (IntKind.i64.wrap (x254.2 + 1)))))) else (some (.out x254.1)))
def g_ref07_Number (s_0 : List UInt8) (lo_1 : Int) (hi_2 : Int) : Option (Int × Int) :=
  (((if (decide (0 < (s_0.length : Int))) then ((atI s_0 0).bind fun b12 => (some ((b12.toNat : Int) == 45))) else (some false)) : Option (Bool)).bind fun v9 => (if v9 then ((subL s_0 1).bind fun z19 => (((if ((z19.length : Int) == 0) then (some true) else ((atI z19 0).bind fun b33 => (if ((b33.toNat : Int) == 48) then (if (decide (1 < (z19.length : Int))) then (some true) else (some v9)) else (some false)))) : Option (Bool)).bind fun v30 => (if v30 then (some (0, 4)) else ((iter (g_ref07_Number_s1 z19) 0).bind fun e44 => (match e44 with | Sum.inl e44 => (some (0, 4)) | Sum.inr (e44) => (if (decide (19 < (z19.length : Int))) then (some (0, 2)) else ((iter (g_ref07_Number_s2 z19) (0, 0)).bind fun e116 => (((if (decide (9223372036854775808 < e116)) then (some true) else (some false)) : Option (Bool)).bind fun v140 => (if v140 then (some (0, 2)) else (if (decide ((IntKind.i64.wrap (0 - (IntKind.i64.wrap e116))) < lo_1)) then (some (0, 2)) else (if (decide (hi_2 < (IntKind.i64.wrap (0 - (IntKind.i64.wrap e116))))) then (some (0, 2)) else (some ((IntKind.i64.wrap (0 - (IntKind.i64.wrap e116))), 0))))))))))))) else (((if ((s_0.length : Int) == 0) then (some true) else ((atI s_0 0).bind fun b172 => (if ((b172.toNat : Int) == 48) then (if (decide (1 < (s_0.length : Int))) then (some true) else (some v9)) else (some false)))) : Option (Bool)).bind fun v169 => (if v169 then (some (0, 4)) else ((iter (g_ref07_Number_s3 s_0) 0).bind fun e183 => (match e183 with | Sum.inl e183 => (some (0, 4)) | Sum.inr (e183) => (if (decide (19 < (s_0.length : Int))) then (some (0, 2)) else ((iter (g_ref07_Number_s4 s_0) (0, 0)).bind fun e255 => (((if (decide (9223372036854775808 < e255)) then (some true) else (some (e255 == 9223372036854775808))) : Option (Bool)).bind fun v279 => (if v279 then (some (0, 2)) else (if (decide ((IntKind.i64.wrap e255) < lo_1)) then (some (0, 2)) else (if (decide (hi_2 < (IntKind.i64.wrap e255))) then (some (0, 2)) else (some ((IntKind.i64.wrap e255), 0))))))))))))))
def g_ref07_Scanner_Number (s_0 : T_captionerref07_Scanner) (lo_1 : Int) (hi_2 : Int) : Option (Int × T_captionerref07_Scanner) :=
  ((g_ref07_Scanner_take s_0 false).bind fun r7 => (if r7.2.1 then ((g_ref07_Number r7.1.Text lo_1 hi_2).bind fun r16 => (if (r16.2 != 0) then ((g_ref07_Scanner_fail r7.2.2 r16.2 r7.1.Column).bind fun r22 => (some (r16.1, r22))) else (some (r16.1, r7.2.2)))) else (some (0, r7.2.2))))
def g_ref07_Scanner_Quoted (s_0 : T_captionerref07_Scanner) : Option ((List UInt8) × T_captionerref07_Scanner) :=
  ((g_ref07_Scanner_take s_0 true).bind fun r7 => (some (r7.1.Text, r7.2.2)))
def g_ref07_Scanner_End (s_0 : T_captionerref07_Scanner) : Option (T_api_Diag × Bool × T_captionerref07_Scanner) :=
  (if (s_0.Code != 0) then (some ((T_api_Diag.mk s_0.Line.Number s_0.Col s_0.Code), true, s_0)) else ((g_ref07_Scanner_Left s_0).bind fun r14 => (if (decide (0 < r14.1)) then ((atI r14.2.Line.Fields r14.2.At).bind fun y21 => (some ((T_api_Diag.mk r14.2.Line.Number y21.Column 4), true, r14.2))) else (some ((T_api_Diag.mk 0 0 0), false, r14.2)))))
end Go.Proofs.YtedhognhhcihpaaGreatDoor
