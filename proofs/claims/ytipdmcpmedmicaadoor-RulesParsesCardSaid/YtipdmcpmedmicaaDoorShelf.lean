/- Contracts of Go's library at this seat's translation, laid by the kit's program (the contracts are the kit's theorems). No condition but those that each states. -/
import Derived.Shelf.Strings.Builder1
import Derived.Shelf.Strings.Builder2
import Derived.Shelf.Strings.OnBuilder
import Derived.Shelf.Small.Utf8
import Derived.Shelf.Small.Strs
import Derived.Shelf.Small.Wraps
import Derived.Shelf.Utf8.RuneCount
import Derived.Shelf.Strconv.Itoa0
import Derived.Shelf.Strconv.Itoa1
import Derived.Shelf.LaysM
import Derived.Shelf.Strconv.Itoa2
import Derived.Shelf.Strconv.Itoa3
import Derived.Shelf.Strconv.Itoa4
import Derived.Shelf.Strconv.ParseIntEmpty
import Derived.Shelf.Strconv.Clone
import Derived.Shelf.Strconv.SyntaxError
import Derived.Shelf.LaysC
import Derived.Shelf.Strconv.ToError
import Derived.Shelf.Strconv.Lower
import Derived.Shelf.Strconv.ParseUint10
import Derived.Shelf.Strconv.ParseUint10Empty
import Derived.Shelf.Strconv.ParseUint10Any
import Derived.Shelf.Strconv.ParseInt10
import Derived.Shelf.Strconv.RangeError
import Derived.Shelf.Strconv.ToErrorRange
import Derived.Shelf.Strconv.ParseUintEmpty
import Derived.Shelf.Strconv.ParseUint10b64
import Derived.Shelf.Strconv.ParseUint10b32
import Derived.Shelf.Strconv.ParseUint10b16
import Derived.Shelf.Strconv.ParseUint10b8
import Derived.Shelf.Strconv.ParseUint10At
import Derived.Shelf.Strconv.ParseInt10At64
import Derived.Shelf.Strconv.ParseInt10At32
import Derived.Shelf.Strconv.ParseInt10At16
import Derived.Shelf.Strconv.ParseInt10At8
import Derived.Shelf.Strconv.ParseInt10All
import Derived.Shelf.Strconv.ParseIntPublic10
import Derived.Shelf.Strconv.ErrVarParseInt
import Derived.Shelf.Strings.Search1
import Derived.Shelf.Strings.Search2
import Derived.Shelf.Strings.Search3
import Derived.Shelf.Strings.Cut
import Derived.Shelf.Strings.Count
import Derived.Shelf.Strings.Shaped
import Derived.Shelf.Strings.Prefix
import Derived.Shelf.Strings.Split
import Derived.Shelf.Strings.SplitShaped
import Derived.Shelf.Unicode.Decode
import Derived.Shelf.Strings.Runes
import Derived.Shelf.Strings.RuneCount
import Derived.Shelf.Strings.Explode
import Derived.Shelf.Unicode.DecodeSlow
import Derived.Shelf.Unicode.DecodeAny
import Derived.Test.YtipdmcpmedmicaaDoorProg
namespace Go.Proofs
open Go.Shelf
def Tryd.lays169_ren : Go.Shelf.Ren := ⟨fun | 169 => 70 | n => n, fun | 70 => 126 | 9 => 9 | 0 => 0 | 72 => 129 | 37 => 127 | 127 => 181 | 3 => 3 | 5 => 5 | n => n, fun | n => n⟩
theorem Tryd.lays169 : Go.Proofs.Lays.n169 Tryd.prog Tryd.lays169_ren := {
  mixed := by kernel_rfl
  f169 := Tryd.func70.trans (congrArg some (by kernel_rfl))
  t0 := Tryd.underlying0
  a0 := Tryd.isAgg0
  z0 := Tryd.sizeOf0
  v0 := Tryd.zeroValue0
  t3 := Tryd.underlying3
  a3 := Tryd.isAgg3
  z3 := Tryd.sizeOf3
  v3 := Tryd.zeroValue3
  t9 := Tryd.underlying9
  a9 := Tryd.isAgg9
  z9 := Tryd.sizeOf9
  v9 := Tryd.zeroValue9
  t37 := Tryd.underlying127
  a37 := Tryd.isAgg127
  z37 := Tryd.sizeOf127
  v37 := Tryd.zeroValue127
  t70 := Tryd.underlying126
  a70 := Tryd.isAgg126
  z70 := Tryd.sizeOf126
  v70 := Tryd.zeroValue126
  t72 := Tryd.underlying129
  a72 := Tryd.isAgg129
  z72 := Tryd.sizeOf129
  v72 := Tryd.zeroValue129
  t127 := Tryd.underlying181
  a127 := Tryd.isAgg181
  z127 := Tryd.sizeOf181
  v127 := Tryd.zeroValue181 }
theorem Tryd.Builder_Extra_169 : Builder.Extra Tryd.prog Tryd.lays169_ren := {
  sizeBuilder := by kernel_rfl
  liesBuilder := by kernel_rfl
  t5 := Tryd.underlying5
  a5 := Tryd.isAgg5
  z5 := Tryd.sizeOf5
  v5 := Tryd.zeroValue5
  infoByte := by kernel_rfl
  cellsByte := by kernel_rfl
  sizeByte := by kernel_rfl
  neB5 := by decide }
open Go.RowKit in
theorem Tryd.Builder_String_any (B b : Nat) (l : List UInt8) (w : World) (h : Lib.IsBuilder 129 5 B b (Lib.byteCells l) w) (hBw : B ≤ w.heap.size) :
    Calls Tryd.prog 70 #[.pointer (some ⟨b, 0, none⟩)] w fun e w' => e = .returned (.string ⟨l.toArray⟩) ∧ Below B w w' := Any.Builder_String_any Tryd.lays169 Tryd.Builder_Extra_169 B b l w h hBw
def Tryd.lays156_ren : Go.Shelf.Ren := ⟨fun | 156 => 54 | 165 => 93 | 166 => 69 | 169 => 70 | 240 => 107 | 241 => 123 | 276 => 139 | 277 => 158 | n => n, fun | 31 => 101 | 9 => 9 | 3 => 3 | 4 => 4 | 0 => 0 | 20 => 20 | 72 => 129 | 76 => 133 | 70 => 126 | 37 => 127 | 75 => 132 | 127 => 181 | 164 => 208 | 5 => 5 | 80 => 135 | n => n, fun | n => n⟩
theorem Tryd.lays156 : Go.Proofs.Lays.n156 Tryd.prog Tryd.lays156_ren := {
  mixed := by kernel_rfl
  f156 := Tryd.func54.trans (congrArg some (by kernel_rfl))
  f165 := Tryd.func93.trans (congrArg some (by kernel_rfl))
  f166 := Tryd.func69.trans (congrArg some (by kernel_rfl))
  f169 := Tryd.func70.trans (congrArg some (by kernel_rfl))
  f240 := Tryd.func107.trans (congrArg some (by kernel_rfl))
  f241 := Tryd.func123.trans (congrArg some (by kernel_rfl))
  f276 := Tryd.func139.trans (congrArg some (by kernel_rfl))
  f277 := Tryd.func158.trans (congrArg some (by kernel_rfl))
  t0 := Tryd.underlying0
  a0 := Tryd.isAgg0
  z0 := Tryd.sizeOf0
  v0 := Tryd.zeroValue0
  t3 := Tryd.underlying3
  a3 := Tryd.isAgg3
  z3 := Tryd.sizeOf3
  v3 := Tryd.zeroValue3
  t4 := Tryd.underlying4
  a4 := Tryd.isAgg4
  z4 := Tryd.sizeOf4
  v4 := Tryd.zeroValue4
  t9 := Tryd.underlying9
  a9 := Tryd.isAgg9
  z9 := Tryd.sizeOf9
  v9 := Tryd.zeroValue9
  t20 := Tryd.underlying20
  a20 := Tryd.isAgg20
  z20 := Tryd.sizeOf20
  v20 := Tryd.zeroValue20
  t31 := Tryd.underlying101
  a31 := Tryd.isAgg101
  z31 := Tryd.sizeOf101
  v31 := Tryd.zeroValue101
  t37 := Tryd.underlying127
  a37 := Tryd.isAgg127
  z37 := Tryd.sizeOf127
  v37 := Tryd.zeroValue127
  t70 := Tryd.underlying126
  a70 := Tryd.isAgg126
  z70 := Tryd.sizeOf126
  v70 := Tryd.zeroValue126
  t72 := Tryd.underlying129
  a72 := Tryd.isAgg129
  z72 := Tryd.sizeOf129
  v72 := Tryd.zeroValue129
  t75 := Tryd.underlying132
  a75 := Tryd.isAgg132
  z75 := Tryd.sizeOf132
  v75 := Tryd.zeroValue132
  t76 := Tryd.underlying133
  a76 := Tryd.isAgg133
  z76 := Tryd.sizeOf133
  v76 := Tryd.zeroValue133
  t127 := Tryd.underlying181
  a127 := Tryd.isAgg181
  z127 := Tryd.sizeOf181
  v127 := Tryd.zeroValue181
  t164 := Tryd.underlying208
  a164 := Tryd.isAgg208
  z164 := Tryd.sizeOf208
  v164 := Tryd.zeroValue208 }
theorem Tryd.Builder_Extra_156 : Builder.Extra Tryd.prog Tryd.lays156_ren := {
  sizeBuilder := by kernel_rfl
  liesBuilder := by kernel_rfl
  t5 := Tryd.underlying5
  a5 := Tryd.isAgg5
  z5 := Tryd.sizeOf5
  v5 := Tryd.zeroValue5
  infoByte := by kernel_rfl
  cellsByte := by kernel_rfl
  sizeByte := by kernel_rfl
  neB5 := by decide }
open Go.RowKit in
theorem Tryd.strings_Join_none (a : Option Addr) (c : Nat) (sep : ByteArray) (w : World) :
    Calls Tryd.prog 54 #[.slice a 0 c, .string sep] w fun e w' => e = .returned (.string ⟨#[]⟩) ∧ w' = w := Any.strings_Join_none Tryd.lays156 Tryd.Builder_Extra_156 a c sep w
open Go.RowKit in
theorem Tryd.strings_Join (bk o c : Nat) (xs : List ByteArray) (sep : ByteArray) (w : World) (hcells : ∀ (j : Nat) x, xs[j]? = some x → w.cell? ⟨bk, o + j, none⟩ = some (.string x)) (hbk : bk < w.heap.size) (hN : xs.length ≤ 140737488355328) (hcap : xs.length ≤ c) (hlen : (Lib.join (xs.map (·.data.toList)) sep.data.toList).length ≤ 140737488355328) :
    Calls Tryd.prog 54 #[.slice (some ⟨bk, o, none⟩) xs.length c, .string sep] w fun e w' => e = .returned (.string ⟨(Lib.join (xs.map (·.data.toList)) sep.data.toList).toArray⟩) ∧ Below w.heap.size w w' := Any.strings_Join Tryd.lays156 Tryd.Builder_Extra_156 bk o c xs sep w hcells hbk hN hcap hlen
def Tryd.lays137_ren : Go.Shelf.Ren := ⟨fun | 137 => 150 | 217 => 168 | 266 => 183 | n => n, fun | 9 => 9 | 5 => 5 | 3 => 3 | n => n, fun | n => n⟩
theorem Tryd.lays137 : Go.Proofs.Lays.n137 Tryd.prog Tryd.lays137_ren := {
  mixed := by kernel_rfl
  f137 := Tryd.func150.trans (congrArg some (by kernel_rfl))
  f217 := Tryd.func168.trans (congrArg some (by kernel_rfl))
  f266 := Tryd.func183.trans (congrArg some (by kernel_rfl))
  t3 := Tryd.underlying3
  a3 := Tryd.isAgg3
  z3 := Tryd.sizeOf3
  v3 := Tryd.zeroValue3
  t5 := Tryd.underlying5
  a5 := Tryd.isAgg5
  z5 := Tryd.sizeOf5
  v5 := Tryd.zeroValue5
  t9 := Tryd.underlying9
  a9 := Tryd.isAgg9
  z9 := Tryd.sizeOf9
  v9 := Tryd.zeroValue9 }
open Go.RowKit in
theorem Tryd.strings_IndexByte (s : ByteArray) (c : Int) (w : World) :
    Calls Tryd.prog 150 #[.string s, .int .u8 c] w fun e w' => e = .returned (.int .i64 (Lib.indexByte s.data.toList c.toNat.toUInt8)) ∧ w' = w := Any.strings_IndexByte Tryd.lays137 s c w
def Tryd.lays103_ren : Go.Shelf.Ren := ⟨fun | 103 => 96 | 210 => 128 | 206 => 161 | n => n, fun | 9 => 9 | 4 => 4 | 24 => 165 | 3 => 3 | n => n, fun | n => n⟩
theorem Tryd.lays103 : Go.Proofs.Lays.n103 Tryd.prog Tryd.lays103_ren := {
  mixed := by kernel_rfl
  f103 := Tryd.func96.trans (congrArg some (by kernel_rfl))
  f206 := Tryd.func161.trans (congrArg some (by kernel_rfl))
  f210 := Tryd.func128.trans (congrArg some (by kernel_rfl))
  t3 := Tryd.underlying3
  a3 := Tryd.isAgg3
  z3 := Tryd.sizeOf3
  v3 := Tryd.zeroValue3
  t4 := Tryd.underlying4
  a4 := Tryd.isAgg4
  z4 := Tryd.sizeOf4
  v4 := Tryd.zeroValue4
  t9 := Tryd.underlying9
  a9 := Tryd.isAgg9
  z9 := Tryd.sizeOf9
  v9 := Tryd.zeroValue9
  t24 := Tryd.underlying165
  a24 := Tryd.isAgg165
  z24 := Tryd.sizeOf165
  v24 := Tryd.zeroValue165 }
open Go.RowKit in
theorem Tryd.strings_CutPrefix (s p : ByteArray) (w : World) :
    Calls Tryd.prog 96 #[.string s, .string p] w fun e w' => e = .returned (.tuple #[.string ⟨(Lib.trimPrefix s.data.toList p.data.toList).toArray⟩, .bool (Lib.hasPrefix s.data.toList p.data.toList)]) ∧ w' = w := Any.strings_CutPrefix Tryd.lays103 s p w
def Tryd.laysM173_ren : Go.Shelf.Ren := ⟨fun | 173 => 92 | 246 => 122 | 283 => 154 | 284 => 155 | 285 => 156 | 286 => 157 | 129 => 173 | 317 => 172 | 318 => 174 | 319 => 175 | 320 => 176 | 337 => 185 | 338 => 186 | n => n, fun | 2 => 2 | 3 => 3 | 9 => 9 | 4 => 4 | 171 => 222 | 0 => 0 | 53 => 163 | 37 => 127 | 5 => 5 | 173 => 225 | 212 => 240 | 51 => 241 | 20 => 20 | 213 => 242 | 46 => 217 | 232 => 256 | 233 => 257 | n => n, fun | 17 => 3 | 18 => 6 | 19 => 7 | n => n⟩
theorem Tryd.laysM173 : Go.Proofs.LaysM.n173 Tryd.prog Tryd.laysM173_ren := {
  mixed := by kernel_rfl
  f129 := Tryd.func173.trans (congrArg some (by kernel_rfl))
  f173 := Tryd.func92.trans (congrArg some (by kernel_rfl))
  f246 := Tryd.func122.trans (congrArg some (by kernel_rfl))
  f283 := Tryd.func154.trans (congrArg some (by kernel_rfl))
  f284 := Tryd.func155.trans (congrArg some (by kernel_rfl))
  f285 := Tryd.func156.trans (congrArg some (by kernel_rfl))
  f286 := Tryd.func157.trans (congrArg some (by kernel_rfl))
  f317 := Tryd.func172.trans (congrArg some (by kernel_rfl))
  f318 := Tryd.func174.trans (congrArg some (by kernel_rfl))
  f319 := Tryd.func175.trans (congrArg some (by kernel_rfl))
  f320 := Tryd.func176.trans (congrArg some (by kernel_rfl))
  f337 := Tryd.func185.trans (congrArg some (by kernel_rfl))
  f338 := Tryd.func186.trans (congrArg some (by kernel_rfl))
  t0 := Tryd.underlying0
  a0 := Tryd.isAgg0
  z0 := Tryd.sizeOf0
  v0 := Tryd.zeroValue0
  t2 := Tryd.underlying2
  a2 := Tryd.isAgg2
  z2 := Tryd.sizeOf2
  v2 := Tryd.zeroValue2
  t3 := Tryd.underlying3
  a3 := Tryd.isAgg3
  z3 := Tryd.sizeOf3
  v3 := Tryd.zeroValue3
  t4 := Tryd.underlying4
  a4 := Tryd.isAgg4
  z4 := Tryd.sizeOf4
  v4 := Tryd.zeroValue4
  t5 := Tryd.underlying5
  a5 := Tryd.isAgg5
  z5 := Tryd.sizeOf5
  v5 := Tryd.zeroValue5
  t9 := Tryd.underlying9
  a9 := Tryd.isAgg9
  z9 := Tryd.sizeOf9
  v9 := Tryd.zeroValue9
  t20 := Tryd.underlying20
  a20 := Tryd.isAgg20
  z20 := Tryd.sizeOf20
  v20 := Tryd.zeroValue20
  t37 := Tryd.underlying127
  a37 := Tryd.isAgg127
  z37 := Tryd.sizeOf127
  v37 := Tryd.zeroValue127
  t46 := Tryd.underlying217
  a46 := Tryd.isAgg217
  z46 := Tryd.sizeOf217
  v46 := Tryd.zeroValue217
  t51 := Tryd.underlying241
  a51 := Tryd.isAgg241
  z51 := Tryd.sizeOf241
  v51 := Tryd.zeroValue241
  t53 := Tryd.underlying163
  a53 := Tryd.isAgg163
  z53 := Tryd.sizeOf163
  v53 := Tryd.zeroValue163
  t171 := Tryd.underlying222
  a171 := Tryd.isAgg222
  z171 := Tryd.sizeOf222
  v171 := Tryd.zeroValue222
  t173 := Tryd.underlying225
  a173 := Tryd.isAgg225
  z173 := Tryd.sizeOf225
  v173 := Tryd.zeroValue225
  t212 := Tryd.underlying240
  a212 := Tryd.isAgg240
  z212 := Tryd.sizeOf240
  v212 := Tryd.zeroValue240
  t213 := Tryd.underlying242
  a213 := Tryd.isAgg242
  z213 := Tryd.sizeOf242
  t232 := Tryd.underlying256
  a232 := Tryd.isAgg256
  z232 := Tryd.sizeOf256
  v232 := Tryd.zeroValue256
  t233 := Tryd.underlying257
  a233 := Tryd.isAgg257
  z233 := Tryd.sizeOf257
  v233 := Tryd.zeroValue257
  g17 := by kernel_rfl
  g18 := by kernel_rfl
  g19 := by kernel_rfl
  i0 := by kernel_rfl
  i2 := by kernel_rfl
  i3 := by kernel_rfl
  i4 := by kernel_rfl
  i5 := by kernel_rfl
  i9 := by kernel_rfl
  i20 := by kernel_rfl
  i37 := by kernel_rfl
  i46 := by kernel_rfl
  i51 := by kernel_rfl
  i53 := by kernel_rfl
  i171 := by kernel_rfl
  i173 := by kernel_rfl
  i212 := by kernel_rfl
  i232 := by kernel_rfl
  i233 := by kernel_rfl
  m17 := by kernel_rfl
  m18 := by kernel_rfl
  m19 := by kernel_rfl }
open Go.RowKit Go.Sort Go.Lib in
theorem Tryd.strconv_FormatInt_10 (n : Int) (h0 : -9223372036854775808 ≤ n) (h1 : n ≤ 9223372036854775807) (w : World) (htab : Lib.TabIs Tryd.prog w "internal/strconv.uint64pow10" .u64 Lib.pow10Tab) :
    Calls Tryd.prog 92 #[.int .i64 n, .int .i64 10] w fun e w' => e = .returned (.string ⟨(Lib.itoa n).toArray⟩) ∧ ∃ k os, w' = grow (w.drewN k) os := Any.strconv_FormatInt_10 Tryd.laysM173 n h0 h1 w htab
def Tryd.laysC174_ren : Go.Shelf.Ren := ⟨fun | 174 => 97 | 247 => 129 | 245 => 130 | 287 => 162 | 279 => 163 | 280 => 164 | 281 => 165 | 282 => 166 | 321 => 178 | 322 => 179 | 316 => 180 | 171 => 182 | 205 => 181 | 243 => 187 | 246 => 122 | 283 => 154 | 284 => 155 | 285 => 156 | 286 => 157 | 129 => 173 | 317 => 172 | 318 => 174 | 319 => 175 | 320 => 176 | 337 => 185 | 338 => 186 | n => n, fun | 9 => 9 | 3 => 3 | 2 => 2 | 75 => 132 | 85 => 167 | 4 => 4 | 167 => 230 | 5 => 5 | 53 => 163 | 175 => 231 | 46 => 217 | 168 => 233 | 37 => 127 | 0 => 0 | 210 => 248 | 21 => 21 | 127 => 181 | 145 => 255 | 143 => 253 | 171 => 222 | 173 => 225 | 212 => 240 | 51 => 241 | 20 => 20 | 213 => 242 | 232 => 256 | 233 => 257 | 80 => 135 | n => n, fun | 15 => 4 | 16 => 5 | 17 => 3 | 18 => 6 | 19 => 7 | n => n⟩
theorem Tryd.laysC174 : Go.Proofs.LaysC.n174 Tryd.prog Tryd.laysC174_ren := {
  mixed := by kernel_rfl
  f129 := Tryd.func173.trans (congrArg some (by kernel_rfl))
  f171 := Tryd.func182.trans (congrArg some (by kernel_rfl))
  f174 := Tryd.func97.trans (congrArg some (by kernel_rfl))
  f205 := Tryd.func181.trans (congrArg some (by kernel_rfl))
  f243 := Tryd.func187.trans (congrArg some (by kernel_rfl))
  f245 := Tryd.func130.trans (congrArg some (by kernel_rfl))
  f246 := Tryd.func122.trans (congrArg some (by kernel_rfl))
  f247 := Tryd.func129.trans (congrArg some (by kernel_rfl))
  f279 := Tryd.func163.trans (congrArg some (by kernel_rfl))
  f280 := Tryd.func164.trans (congrArg some (by kernel_rfl))
  f281 := Tryd.func165.trans (congrArg some (by kernel_rfl))
  f282 := Tryd.func166.trans (congrArg some (by kernel_rfl))
  f283 := Tryd.func154.trans (congrArg some (by kernel_rfl))
  f284 := Tryd.func155.trans (congrArg some (by kernel_rfl))
  f285 := Tryd.func156.trans (congrArg some (by kernel_rfl))
  f286 := Tryd.func157.trans (congrArg some (by kernel_rfl))
  f287 := Tryd.func162.trans (congrArg some (by kernel_rfl))
  f316 := Tryd.func180.trans (congrArg some (by kernel_rfl))
  f317 := Tryd.func172.trans (congrArg some (by kernel_rfl))
  f318 := Tryd.func174.trans (congrArg some (by kernel_rfl))
  f319 := Tryd.func175.trans (congrArg some (by kernel_rfl))
  f320 := Tryd.func176.trans (congrArg some (by kernel_rfl))
  f321 := Tryd.func178.trans (congrArg some (by kernel_rfl))
  f322 := Tryd.func179.trans (congrArg some (by kernel_rfl))
  f337 := Tryd.func185.trans (congrArg some (by kernel_rfl))
  f338 := Tryd.func186.trans (congrArg some (by kernel_rfl))
  t0 := Tryd.underlying0
  a0 := Tryd.isAgg0
  z0 := Tryd.sizeOf0
  v0 := Tryd.zeroValue0
  t2 := Tryd.underlying2
  a2 := Tryd.isAgg2
  z2 := Tryd.sizeOf2
  v2 := Tryd.zeroValue2
  t3 := Tryd.underlying3
  a3 := Tryd.isAgg3
  z3 := Tryd.sizeOf3
  v3 := Tryd.zeroValue3
  t4 := Tryd.underlying4
  a4 := Tryd.isAgg4
  z4 := Tryd.sizeOf4
  v4 := Tryd.zeroValue4
  t5 := Tryd.underlying5
  a5 := Tryd.isAgg5
  z5 := Tryd.sizeOf5
  v5 := Tryd.zeroValue5
  t9 := Tryd.underlying9
  a9 := Tryd.isAgg9
  z9 := Tryd.sizeOf9
  v9 := Tryd.zeroValue9
  t20 := Tryd.underlying20
  a20 := Tryd.isAgg20
  z20 := Tryd.sizeOf20
  v20 := Tryd.zeroValue20
  t21 := Tryd.underlying21
  a21 := Tryd.isAgg21
  z21 := Tryd.sizeOf21
  v21 := Tryd.zeroValue21
  t37 := Tryd.underlying127
  a37 := Tryd.isAgg127
  z37 := Tryd.sizeOf127
  v37 := Tryd.zeroValue127
  t46 := Tryd.underlying217
  a46 := Tryd.isAgg217
  z46 := Tryd.sizeOf217
  v46 := Tryd.zeroValue217
  t51 := Tryd.underlying241
  a51 := Tryd.isAgg241
  z51 := Tryd.sizeOf241
  v51 := Tryd.zeroValue241
  t53 := Tryd.underlying163
  a53 := Tryd.isAgg163
  z53 := Tryd.sizeOf163
  v53 := Tryd.zeroValue163
  t75 := Tryd.underlying132
  a75 := Tryd.isAgg132
  z75 := Tryd.sizeOf132
  v75 := Tryd.zeroValue132
  t85 := Tryd.underlying167
  a85 := Tryd.isAgg167
  z85 := Tryd.sizeOf167
  v85 := Tryd.zeroValue167
  t127 := Tryd.underlying181
  a127 := Tryd.isAgg181
  z127 := Tryd.sizeOf181
  v127 := Tryd.zeroValue181
  t143 := Tryd.underlying253
  a143 := Tryd.isAgg253
  z143 := Tryd.sizeOf253
  v143 := Tryd.zeroValue253
  t145 := Tryd.underlying255
  a145 := Tryd.isAgg255
  z145 := Tryd.sizeOf255
  v145 := Tryd.zeroValue255
  t167 := Tryd.underlying230
  a167 := Tryd.isAgg230
  z167 := Tryd.sizeOf230
  v167 := Tryd.zeroValue230
  t168 := Tryd.underlying233
  a168 := Tryd.isAgg233
  z168 := Tryd.sizeOf233
  v168 := Tryd.zeroValue233
  t171 := Tryd.underlying222
  a171 := Tryd.isAgg222
  z171 := Tryd.sizeOf222
  v171 := Tryd.zeroValue222
  t173 := Tryd.underlying225
  a173 := Tryd.isAgg225
  z173 := Tryd.sizeOf225
  v173 := Tryd.zeroValue225
  t175 := Tryd.underlying231
  a175 := Tryd.isAgg231
  z175 := Tryd.sizeOf231
  v175 := Tryd.zeroValue231
  t210 := Tryd.underlying248
  a210 := Tryd.isAgg248
  z210 := Tryd.sizeOf248
  v210 := Tryd.zeroValue248
  t212 := Tryd.underlying240
  a212 := Tryd.isAgg240
  z212 := Tryd.sizeOf240
  v212 := Tryd.zeroValue240
  t213 := Tryd.underlying242
  a213 := Tryd.isAgg242
  z213 := Tryd.sizeOf242
  t232 := Tryd.underlying256
  a232 := Tryd.isAgg256
  z232 := Tryd.sizeOf256
  v232 := Tryd.zeroValue256
  t233 := Tryd.underlying257
  a233 := Tryd.isAgg257
  z233 := Tryd.sizeOf257
  v233 := Tryd.zeroValue257
  g15 := by kernel_rfl
  g16 := by kernel_rfl
  g17 := by kernel_rfl
  g18 := by kernel_rfl
  g19 := by kernel_rfl
  t80 := Tryd.underlying135
  a80 := Tryd.isAgg135
  z80 := Tryd.sizeOf135
  v80 := Tryd.zeroValue135
  i0 := by kernel_rfl
  i2 := by kernel_rfl
  i3 := by kernel_rfl
  i4 := by kernel_rfl
  i5 := by kernel_rfl
  i9 := by kernel_rfl
  i20 := by kernel_rfl
  i21 := by kernel_rfl
  i37 := by kernel_rfl
  i46 := by kernel_rfl
  i51 := by kernel_rfl
  i53 := by kernel_rfl
  i75 := by kernel_rfl
  i80 := by kernel_rfl
  i85 := by kernel_rfl
  i127 := by kernel_rfl
  i143 := by kernel_rfl
  i145 := by kernel_rfl
  i167 := by kernel_rfl
  i168 := by kernel_rfl
  i171 := by kernel_rfl
  i173 := by kernel_rfl
  i175 := by kernel_rfl
  i210 := by kernel_rfl
  i212 := by kernel_rfl
  i232 := by kernel_rfl
  i233 := by kernel_rfl
  m15 := by kernel_rfl
  m16 := by kernel_rfl
  m17 := by kernel_rfl
  m18 := by kernel_rfl
  m19 := by kernel_rfl
  c0 := by kernel_rfl
  c2 := by kernel_rfl
  c3 := by kernel_rfl
  c4 := by kernel_rfl
  c5 := by kernel_rfl
  c9 := by kernel_rfl
  c20 := by kernel_rfl
  c21 := by kernel_rfl
  c37 := by kernel_rfl
  c46 := by kernel_rfl
  c51 := by kernel_rfl
  c53 := by kernel_rfl
  c75 := by kernel_rfl
  c80 := by kernel_rfl
  c85 := by kernel_rfl
  c127 := by kernel_rfl
  c143 := by kernel_rfl
  c145 := by kernel_rfl
  c167 := by kernel_rfl
  c168 := by kernel_rfl
  c171 := by kernel_rfl
  c173 := by kernel_rfl
  c175 := by kernel_rfl
  c210 := by kernel_rfl
  c212 := by kernel_rfl
  c213 := by kernel_rfl
  c232 := by kernel_rfl
  c233 := by kernel_rfl }
open Go.RowKit in
theorem Tryd.strconv_ParseInt_10_at64_ok (s : ByteArray) (hmax : s.size ≤ 9223372036854775806) (v : Int) (h : Lib.parseIntB 64 s.data.toList = .ok v) (w : World) :
    Calls Tryd.prog 97 #[.string s, .int .i64 10, .int .i64 64] w fun e w' => e = .returned (.tuple #[.int .i64 v, .nilIface]) ∧ (w' = w ∨ ∃ t, w' = Lib.bytesWorld w 5 t) := Any.strconv_ParseInt_10_at64_ok Tryd.laysC174 s hmax v h w
open Go.RowKit in
theorem Tryd.strconv_ParseInt_10_at64_syntax (s : ByteArray) (hlim : s.size ≤ 281474976710656) (h : Lib.parseIntB 64 s.data.toList = Lib.parseIntB 64 []) (ev : Value) (w : World) (hv : w.cell? ⟨4, 0, none⟩ = some ev) (hev : ev = .nilIface ∨ ∃ te pe, ev = .iface te pe) :
    Calls Tryd.prog 97 #[.string s, .int .i64 10, .int .i64 64] w fun e w' => ∃ N, e = .returned (.tuple #[.int .i64 (0), .iface 233 (.pointer (some ⟨N, 0, none⟩))]) ∧ w.heap.size ≤ N ∧ w'.heap[N]? = some (.cells #[.string ⟨#[80, 97, 114, 115, 101, 73, 110, 116]⟩, .string s, ev] 248 (0, 0)) ∧ Below w.heap.size w w' := Any.strconv_ParseInt_10_at64_syntax Tryd.laysC174 s hlim h ev w hv hev
open Go.RowKit in
theorem Tryd.strconv_ParseInt_10_at64_range (s : ByteArray) (hlim : s.size ≤ 281474976710656) (h : Lib.parseIntB 64 s.data.toList = .range) (ev : Value) (w : World) (hv : w.cell? ⟨5, 0, none⟩ = some ev) (hev : ev = .nilIface ∨ ∃ te pe, ev = .iface te pe) :
    Calls Tryd.prog 97 #[.string s, .int .i64 10, .int .i64 64] w fun e w' => ∃ N, e = .returned (.tuple #[.int .i64 (Lib.intSat 64 s.data.toList), .iface 233 (.pointer (some ⟨N, 0, none⟩))]) ∧ w.heap.size ≤ N ∧ w'.heap[N]? = some (.cells #[.string ⟨#[80, 97, 114, 115, 101, 73, 110, 116]⟩, .string s, ev] 248 (0, 0)) ∧ Below w.heap.size w w' := Any.strconv_ParseInt_10_at64_range Tryd.laysC174 s hlim h ev w hv hev
def Tryd.lays145_ren : Go.Shelf.Ren := ⟨fun | 145 => 72 | 220 => 108 | 219 => 140 | 217 => 168 | 225 => 153 | 224 => 152 | 267 => 169 | 266 => 183 | 314 => 184 | n => n, fun | 9 => 9 | 4 => 4 | 59 => 136 | 3 => 3 | 5 => 5 | 46 => 217 | 146 => 250 | 51 => 241 | n => n, fun | 1 => 2 | n => n⟩
theorem Tryd.lays145 : Go.Proofs.Lays.n145 Tryd.prog Tryd.lays145_ren := {
  mixed := by kernel_rfl
  f145 := Tryd.func72.trans (congrArg some (by kernel_rfl))
  f217 := Tryd.func168.trans (congrArg some (by kernel_rfl))
  f219 := Tryd.func140.trans (congrArg some (by kernel_rfl))
  f220 := Tryd.func108.trans (congrArg some (by kernel_rfl))
  f224 := Tryd.func152.trans (congrArg some (by kernel_rfl))
  f225 := Tryd.func153.trans (congrArg some (by kernel_rfl))
  f266 := Tryd.func183.trans (congrArg some (by kernel_rfl))
  f267 := Tryd.func169.trans (congrArg some (by kernel_rfl))
  f314 := Tryd.func184.trans (congrArg some (by kernel_rfl))
  t3 := Tryd.underlying3
  a3 := Tryd.isAgg3
  z3 := Tryd.sizeOf3
  v3 := Tryd.zeroValue3
  t4 := Tryd.underlying4
  a4 := Tryd.isAgg4
  z4 := Tryd.sizeOf4
  v4 := Tryd.zeroValue4
  t5 := Tryd.underlying5
  a5 := Tryd.isAgg5
  z5 := Tryd.sizeOf5
  v5 := Tryd.zeroValue5
  t9 := Tryd.underlying9
  a9 := Tryd.isAgg9
  z9 := Tryd.sizeOf9
  v9 := Tryd.zeroValue9
  t46 := Tryd.underlying217
  a46 := Tryd.isAgg217
  z46 := Tryd.sizeOf217
  v46 := Tryd.zeroValue217
  t51 := Tryd.underlying241
  a51 := Tryd.isAgg241
  z51 := Tryd.sizeOf241
  v51 := Tryd.zeroValue241
  t59 := Tryd.underlying136
  a59 := Tryd.isAgg136
  z59 := Tryd.sizeOf136
  v59 := Tryd.zeroValue136
  t146 := Tryd.underlying250
  a146 := Tryd.isAgg250
  z146 := Tryd.sizeOf250
  v146 := Tryd.zeroValue250
  g1 := by kernel_rfl }
open Go.RowKit Go.Lib in
theorem Tryd.strings_Cut (s sep : ByteArray) (m : Int) (w : World) (hs : s.size < 4294967281) (hm : w.cell? ⟨2, 0, none⟩ = some (.int .i64 m)) :
    Calls Tryd.prog 72 #[.string s, .string sep] w fun e w' => e = .returned (.tuple #[.string ⟨(Lib.cut s.data.toList sep.data.toList).1.toArray⟩, .string ⟨(Lib.cut s.data.toList sep.data.toList).2.1.toArray⟩, .bool (Lib.cut s.data.toList sep.data.toList).2.2]) ∧ ∃ n, w' = w.drewN n := Any.strings_Cut Tryd.lays145 s sep m w hs hm
def Tryd.lays146_ren : Go.Shelf.Ren := ⟨fun | 146 => 59 | 221 => 95 | 268 => 125 | 138 => 126 | 143 => 127 | 195 => 149 | 197 => 159 | 218 => 160 | 219 => 140 | 260 => 177 | 217 => 168 | 225 => 153 | 224 => 152 | 267 => 169 | 266 => 183 | 314 => 184 | n => n, fun | 9 => 9 | 31 => 101 | 3 => 3 | 4 => 4 | 0 => 0 | 105 => 228 | 21 => 21 | 5 => 5 | 46 => 217 | 119 => 213 | 139 => 216 | 138 => 215 | 146 => 250 | 51 => 241 | n => n, fun | 1 => 2 | 3 => 0 | 4 => 1 | n => n⟩
theorem Tryd.lays146 : Go.Proofs.Lays.n146 Tryd.prog Tryd.lays146_ren := {
  mixed := by kernel_rfl
  f138 := Tryd.func126.trans (congrArg some (by kernel_rfl))
  f143 := Tryd.func127.trans (congrArg some (by kernel_rfl))
  f146 := Tryd.func59.trans (congrArg some (by kernel_rfl))
  f195 := Tryd.func149.trans (congrArg some (by kernel_rfl))
  f197 := Tryd.func159.trans (congrArg some (by kernel_rfl))
  f217 := Tryd.func168.trans (congrArg some (by kernel_rfl))
  f218 := Tryd.func160.trans (congrArg some (by kernel_rfl))
  f219 := Tryd.func140.trans (congrArg some (by kernel_rfl))
  f221 := Tryd.func95.trans (congrArg some (by kernel_rfl))
  f224 := Tryd.func152.trans (congrArg some (by kernel_rfl))
  f225 := Tryd.func153.trans (congrArg some (by kernel_rfl))
  f260 := Tryd.func177.trans (congrArg some (by kernel_rfl))
  f266 := Tryd.func183.trans (congrArg some (by kernel_rfl))
  f267 := Tryd.func169.trans (congrArg some (by kernel_rfl))
  f268 := Tryd.func125.trans (congrArg some (by kernel_rfl))
  f314 := Tryd.func184.trans (congrArg some (by kernel_rfl))
  t0 := Tryd.underlying0
  a0 := Tryd.isAgg0
  z0 := Tryd.sizeOf0
  v0 := Tryd.zeroValue0
  t3 := Tryd.underlying3
  a3 := Tryd.isAgg3
  z3 := Tryd.sizeOf3
  v3 := Tryd.zeroValue3
  t4 := Tryd.underlying4
  a4 := Tryd.isAgg4
  z4 := Tryd.sizeOf4
  v4 := Tryd.zeroValue4
  t5 := Tryd.underlying5
  a5 := Tryd.isAgg5
  z5 := Tryd.sizeOf5
  v5 := Tryd.zeroValue5
  t9 := Tryd.underlying9
  a9 := Tryd.isAgg9
  z9 := Tryd.sizeOf9
  v9 := Tryd.zeroValue9
  t21 := Tryd.underlying21
  a21 := Tryd.isAgg21
  z21 := Tryd.sizeOf21
  v21 := Tryd.zeroValue21
  t31 := Tryd.underlying101
  a31 := Tryd.isAgg101
  z31 := Tryd.sizeOf101
  v31 := Tryd.zeroValue101
  t46 := Tryd.underlying217
  a46 := Tryd.isAgg217
  z46 := Tryd.sizeOf217
  v46 := Tryd.zeroValue217
  t51 := Tryd.underlying241
  a51 := Tryd.isAgg241
  z51 := Tryd.sizeOf241
  v51 := Tryd.zeroValue241
  t105 := Tryd.underlying228
  a105 := Tryd.isAgg228
  z105 := Tryd.sizeOf228
  v105 := Tryd.zeroValue228
  t119 := Tryd.underlying213
  a119 := Tryd.isAgg213
  z119 := Tryd.sizeOf213
  t138 := Tryd.underlying215
  a138 := Tryd.isAgg215
  z138 := Tryd.sizeOf215
  v138 := Tryd.zeroValue215
  t139 := Tryd.underlying216
  a139 := Tryd.isAgg216
  z139 := Tryd.sizeOf216
  v139 := Tryd.zeroValue216
  t146 := Tryd.underlying250
  a146 := Tryd.isAgg250
  z146 := Tryd.sizeOf250
  v146 := Tryd.zeroValue250
  g1 := by kernel_rfl
  g3 := by kernel_rfl
  g4 := by kernel_rfl }
open Go.RowKit Go.Lib in
theorem Tryd.strings_Split (s sep : ByteArray) (m : Int) (w : World) (hs : s.size < 4294967281) (hm : w.cell? ⟨2, 0, none⟩ = some (.int .i64 m)) (h1 : 1 ≤ sep.size) :
    Calls Tryd.prog 59 #[.string s, .string sep] w fun e w' =>
      e = .returned (.slice (some ⟨w.heap.size, 0, none⟩) (Lib.countB s sep + 1) (Lib.countB s sep + 1)) ∧ w' = w.alloc (.cells ((Lib.splitB sep 0 (Lib.countB s sep) s).map Value.string).toArray 9) := Any.strings_Split Tryd.lays146 (by kernel_rfl) s sep m w hs hm h1
end Go.Proofs
