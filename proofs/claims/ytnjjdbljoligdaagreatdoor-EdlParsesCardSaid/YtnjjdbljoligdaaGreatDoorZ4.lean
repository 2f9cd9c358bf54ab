/- Texts of one proof, put together (Shelf, GM, GN, GC2, Gv, EB, ED, M1, M2, M3, Base, Bld2, GB). No condition but those that each theorem states. -/
import Derived.Test.YtnjjdbljoligdaaGreatDoorZ3
import Derived.Shelf.Strings.Builder1
import Derived.Shelf.Strings.Builder2
import Derived.Shelf.Strings.OnBuilder
import Derived.Shelf.Small.Strs
import Derived.Shelf.Small.Wraps
import Derived.Shelf.Utf8.RuneCount
import Derived.Shelf.Strconv.Itoa0
import Derived.Shelf.Strconv.Itoa1
import Derived.Shelf.LaysM
import Derived.Shelf.Strconv.Itoa2
import Derived.Shelf.Strconv.Itoa3
import Derived.Shelf.Strconv.Itoa4
import Derived.Shelf.Strconv.ParseIntEmpty
import Derived.Shelf.Strconv.Clone
import Derived.Shelf.Strconv.SyntaxError
import Derived.Shelf.LaysC
import Derived.Shelf.Strconv.ToError
import Derived.Shelf.Strconv.Lower
import Derived.Shelf.Strconv.ParseUint10
import Derived.Shelf.Strconv.ParseUint10Empty
import Derived.Shelf.Strconv.ParseUint10Any
import Derived.Shelf.Strconv.ParseInt10
import Derived.Shelf.Strconv.RangeError
import Derived.Shelf.Strconv.ToErrorRange
import Derived.Shelf.Strconv.ParseUintEmpty
import Derived.Shelf.Strconv.ParseUint10b64
import Derived.Shelf.Strconv.ParseUint10b32
import Derived.Shelf.Strconv.ParseUint10b16
import Derived.Shelf.Strconv.ParseUint10b8
import Derived.Shelf.Strconv.ParseUint10At
import Derived.Shelf.Strconv.ParseInt10At64
import Derived.Shelf.Strconv.ParseInt10At32
import Derived.Shelf.Strconv.ParseInt10At16
import Derived.Shelf.Strconv.ParseInt10At8
import Derived.Shelf.Strconv.ParseInt10All
import Derived.Shelf.Strconv.ParseIntPublic10
import Derived.Shelf.Strconv.ErrVarParseInt
import Derived.Shelf.Strings.Search1
import Derived.Shelf.Strings.Search2
import Derived.Shelf.Strings.Search3
import Derived.Shelf.Strings.Cut
import Derived.Shelf.Strings.Count
import Derived.Shelf.Strings.Shaped
import Derived.Shelf.Strings.Prefix
import Derived.Shelf.Strings.Split
import Derived.Shelf.Strings.SplitShaped
import Derived.Shelf.Unicode.Decode
import Derived.Shelf.Strings.RuneCount
import Derived.Shelf.Strings.Explode
import Derived.Shelf.Unicode.DecodeSlow
import Derived.Shelf.Unicode.DecodeAny
import Derived.Shelf.Slices.CompactS
import Derived.Shelf.Slices.In.SortNone
import Derived.Shelf.Unicode.ValidAny
import Derived.Test.YtnjjdbljoligdaaGreatDoorProg
import Derived.Lib.ItoaLen
import Derived.Lib.IndexLaws
import Derived.Lib.SplitLaws
import Derived.Lib.IndexBytes
import Derived.Lib.ParseIntB
import Derived.Lib.CutLaws
import Derived.Lib.ValidLaws
import Derived.WalkKit
import Derived.WalkSpells
import Derived.WalkLawsBesides
import Derived.KernelRfl
import Derived.BigQuiet
import Derived.Deep.QuietTactic
import Derived.Deep.DeepCutAuto
import Derived.Deep.Draws
import Derived.Lib.Hide
import Derived.Lib.Builder
import Derived.Lib.AppendStr
set_option linter.unusedSimpArgs false
set_option linter.unusedVariables false
namespace Go.Proofs
open Go.Shelf
def Tryz.lays169_ren : Go.Shelf.Ren := ⟨fun | 169 => 43 | n => n, fun | 70 => 64 | 9 => 9 | 0 => 0 | 72 => 67 | 37 => 65 | 127 => 112 | 3 => 3 | 5 => 5 | n => n, fun | n => n⟩
theorem Tryz.lays169 : Go.Proofs.Lays.n169 Tryz.prog Tryz.lays169_ren := {
  mixed := by kernel_rfl
  f169 := Tryz.func43.trans (congrArg some (by kernel_rfl))
  t0 := Tryz.underlying0
  a0 := Tryz.isAgg0
  z0 := Tryz.sizeOf0
  v0 := Tryz.zeroValue0
  t3 := Tryz.underlying3
  a3 := Tryz.isAgg3
  z3 := Tryz.sizeOf3
  v3 := Tryz.zeroValue3
  t9 := Tryz.underlying9
  a9 := Tryz.isAgg9
  z9 := Tryz.sizeOf9
  v9 := Tryz.zeroValue9
  t37 := Tryz.underlying65
  a37 := Tryz.isAgg65
  z37 := Tryz.sizeOf65
  v37 := Tryz.zeroValue65
  t70 := Tryz.underlying64
  a70 := Tryz.isAgg64
  z70 := Tryz.sizeOf64
  v70 := Tryz.zeroValue64
  t72 := Tryz.underlying67
  a72 := Tryz.isAgg67
  z72 := Tryz.sizeOf67
  v72 := Tryz.zeroValue67
  t127 := Tryz.underlying112
  a127 := Tryz.isAgg112
  z127 := Tryz.sizeOf112
  v127 := Tryz.zeroValue112 }
theorem Tryz.Builder_Extra_169 : Builder.Extra Tryz.prog Tryz.lays169_ren := {
  sizeBuilder := by kernel_rfl
  liesBuilder := by kernel_rfl
  t5 := Tryz.underlying5
  a5 := Tryz.isAgg5
  z5 := Tryz.sizeOf5
  v5 := Tryz.zeroValue5
  infoByte := by kernel_rfl
  cellsByte := by kernel_rfl
  sizeByte := by kernel_rfl
  neB5 := by decide }
open Go.RowKit in
def Tryz.lays156_ren : Go.Shelf.Ren := ⟨fun | 156 => 39 | 165 => 75 | 166 => 36 | 169 => 43 | 240 => 74 | 241 => 128 | 276 => 127 | 277 => 166 | n => n, fun | 31 => 33 | 9 => 9 | 3 => 3 | 4 => 4 | 0 => 0 | 20 => 20 | 72 => 67 | 76 => 70 | 70 => 64 | 37 => 65 | 75 => 69 | 127 => 112 | 164 => 162 | 5 => 5 | 80 => 78 | n => n, fun | n => n⟩
theorem Tryz.lays156 : Go.Proofs.Lays.n156 Tryz.prog Tryz.lays156_ren := {
  mixed := by kernel_rfl
  f156 := Tryz.func39.trans (congrArg some (by kernel_rfl))
  f165 := Tryz.func75.trans (congrArg some (by kernel_rfl))
  f166 := Tryz.func36.trans (congrArg some (by kernel_rfl))
  f169 := Tryz.func43.trans (congrArg some (by kernel_rfl))
  f240 := Tryz.func74.trans (congrArg some (by kernel_rfl))
  f241 := Tryz.func128.trans (congrArg some (by kernel_rfl))
  f276 := Tryz.func127.trans (congrArg some (by kernel_rfl))
  f277 := Tryz.func166.trans (congrArg some (by kernel_rfl))
  t0 := Tryz.underlying0
  a0 := Tryz.isAgg0
  z0 := Tryz.sizeOf0
  v0 := Tryz.zeroValue0
  t3 := Tryz.underlying3
  a3 := Tryz.isAgg3
  z3 := Tryz.sizeOf3
  v3 := Tryz.zeroValue3
  t4 := Tryz.underlying4
  a4 := Tryz.isAgg4
  z4 := Tryz.sizeOf4
  v4 := Tryz.zeroValue4
  t9 := Tryz.underlying9
  a9 := Tryz.isAgg9
  z9 := Tryz.sizeOf9
  v9 := Tryz.zeroValue9
  t20 := Tryz.underlying20
  a20 := Tryz.isAgg20
  z20 := Tryz.sizeOf20
  v20 := Tryz.zeroValue20
  t31 := Tryz.underlying33
  a31 := Tryz.isAgg33
  z31 := Tryz.sizeOf33
  v31 := Tryz.zeroValue33
  t37 := Tryz.underlying65
  a37 := Tryz.isAgg65
  z37 := Tryz.sizeOf65
  v37 := Tryz.zeroValue65
  t70 := Tryz.underlying64
  a70 := Tryz.isAgg64
  z70 := Tryz.sizeOf64
  v70 := Tryz.zeroValue64
  t72 := Tryz.underlying67
  a72 := Tryz.isAgg67
  z72 := Tryz.sizeOf67
  v72 := Tryz.zeroValue67
  t75 := Tryz.underlying69
  a75 := Tryz.isAgg69
  z75 := Tryz.sizeOf69
  v75 := Tryz.zeroValue69
  t76 := Tryz.underlying70
  a76 := Tryz.isAgg70
  z76 := Tryz.sizeOf70
  v76 := Tryz.zeroValue70
  t127 := Tryz.underlying112
  a127 := Tryz.isAgg112
  z127 := Tryz.sizeOf112
  v127 := Tryz.zeroValue112
  t164 := Tryz.underlying162
  a164 := Tryz.isAgg162
  z164 := Tryz.sizeOf162
  v164 := Tryz.zeroValue162 }
theorem Tryz.Builder_Extra_156 : Builder.Extra Tryz.prog Tryz.lays156_ren := {
  sizeBuilder := by kernel_rfl
  liesBuilder := by kernel_rfl
  t5 := Tryz.underlying5
  a5 := Tryz.isAgg5
  z5 := Tryz.sizeOf5
  v5 := Tryz.zeroValue5
  infoByte := by kernel_rfl
  cellsByte := by kernel_rfl
  sizeByte := by kernel_rfl
  neB5 := by decide }
open Go.RowKit in
theorem Tryz.strings_Join_none (a : Option Addr) (c : Nat) (sep : ByteArray) (w : World) :
    Calls Tryz.prog 39 #[.slice a 0 c, .string sep] w fun e w' => e = .returned (.string ⟨#[]⟩) ∧ w' = w := Any.strings_Join_none Tryz.lays156 Tryz.Builder_Extra_156 a c sep w
open Go.RowKit in
theorem Tryz.strings_Join (bk o c : Nat) (xs : List ByteArray) (sep : ByteArray) (w : World) (hcells : ∀ (j : Nat) x, xs[j]? = some x → w.cell? ⟨bk, o + j, none⟩ = some (.string x)) (hbk : bk < w.heap.size) (hN : xs.length ≤ 140737488355328) (hcap : xs.length ≤ c) (hlen : (Lib.join (xs.map (·.data.toList)) sep.data.toList).length ≤ 140737488355328) :
    Calls Tryz.prog 39 #[.slice (some ⟨bk, o, none⟩) xs.length c, .string sep] w fun e w' => e = .returned (.string ⟨(Lib.join (xs.map (·.data.toList)) sep.data.toList).toArray⟩) ∧ Below w.heap.size w w' := Any.strings_Join Tryz.lays156 Tryz.Builder_Extra_156 bk o c xs sep w hcells hbk hN hcap hlen
def Tryz.lays137_ren : Go.Shelf.Ren := ⟨fun | 137 => 174 | 217 => 189 | 266 => 202 | n => n, fun | 9 => 9 | 5 => 5 | 3 => 3 | n => n, fun | n => n⟩
theorem Tryz.lays137 : Go.Proofs.Lays.n137 Tryz.prog Tryz.lays137_ren := {
  mixed := by kernel_rfl
  f137 := Tryz.func174.trans (congrArg some (by kernel_rfl))
  f217 := Tryz.func189.trans (congrArg some (by kernel_rfl))
  f266 := Tryz.func202.trans (congrArg some (by kernel_rfl))
  t3 := Tryz.underlying3
  a3 := Tryz.isAgg3
  z3 := Tryz.sizeOf3
  v3 := Tryz.zeroValue3
  t5 := Tryz.underlying5
  a5 := Tryz.isAgg5
  z5 := Tryz.sizeOf5
  v5 := Tryz.zeroValue5
  t9 := Tryz.underlying9
  a9 := Tryz.isAgg9
  z9 := Tryz.sizeOf9
  v9 := Tryz.zeroValue9 }
open Go.RowKit in
theorem Tryz.strings_IndexByte (s : ByteArray) (c : Int) (w : World) :
    Calls Tryz.prog 174 #[.string s, .int .u8 c] w fun e w' => e = .returned (.int .i64 (Lib.indexByte s.data.toList c.toNat.toUInt8)) ∧ w' = w := Any.strings_IndexByte Tryz.lays137 s c w
def Tryz.lays103_ren : Go.Shelf.Ren := ⟨fun | 103 => 176 | 210 => 190 | 206 => 203 | n => n, fun | 9 => 9 | 4 => 4 | 24 => 174 | 3 => 3 | n => n, fun | n => n⟩
theorem Tryz.lays103 : Go.Proofs.Lays.n103 Tryz.prog Tryz.lays103_ren := {
  mixed := by kernel_rfl
  f103 := Tryz.func176.trans (congrArg some (by kernel_rfl))
  f206 := Tryz.func203.trans (congrArg some (by kernel_rfl))
  f210 := Tryz.func190.trans (congrArg some (by kernel_rfl))
  t3 := Tryz.underlying3
  a3 := Tryz.isAgg3
  z3 := Tryz.sizeOf3
  v3 := Tryz.zeroValue3
  t4 := Tryz.underlying4
  a4 := Tryz.isAgg4
  z4 := Tryz.sizeOf4
  v4 := Tryz.zeroValue4
  t9 := Tryz.underlying9
  a9 := Tryz.isAgg9
  z9 := Tryz.sizeOf9
  v9 := Tryz.zeroValue9
  t24 := Tryz.underlying174
  a24 := Tryz.isAgg174
  z24 := Tryz.sizeOf174
  v24 := Tryz.zeroValue174 }
open Go.RowKit in
theorem Tryz.strings_CutPrefix (s p : ByteArray) (w : World) :
    Calls Tryz.prog 176 #[.string s, .string p] w fun e w' => e = .returned (.tuple #[.string ⟨(Lib.trimPrefix s.data.toList p.data.toList).toArray⟩, .bool (Lib.hasPrefix s.data.toList p.data.toList)]) ∧ w' = w := Any.strings_CutPrefix Tryz.lays103 s p w
def Tryz.laysM173_ren : Go.Shelf.Ren := ⟨fun | 173 => 76 | 246 => 129 | 283 => 167 | 284 => 168 | 285 => 169 | 286 => 170 | 129 => 126 | 317 => 181 | 318 => 182 | 319 => 183 | 320 => 184 | 337 => 196 | 338 => 197 | n => n, fun | 2 => 2 | 3 => 3 | 9 => 9 | 4 => 4 | 171 => 205 | 0 => 0 | 53 => 161 | 37 => 65 | 5 => 5 | 173 => 207 | 212 => 219 | 51 => 159 | 20 => 20 | 213 => 220 | 46 => 104 | 232 => 235 | 233 => 236 | n => n, fun | 17 => 3 | 18 => 6 | 19 => 7 | n => n⟩
theorem Tryz.laysM173 : Go.Proofs.LaysM.n173 Tryz.prog Tryz.laysM173_ren := {
  mixed := by kernel_rfl
  f129 := Tryz.func126.trans (congrArg some (by kernel_rfl))
  f173 := Tryz.func76.trans (congrArg some (by kernel_rfl))
  f246 := Tryz.func129.trans (congrArg some (by kernel_rfl))
  f283 := Tryz.func167.trans (congrArg some (by kernel_rfl))
  f284 := Tryz.func168.trans (congrArg some (by kernel_rfl))
  f285 := Tryz.func169.trans (congrArg some (by kernel_rfl))
  f286 := Tryz.func170.trans (congrArg some (by kernel_rfl))
  f317 := Tryz.func181.trans (congrArg some (by kernel_rfl))
  f318 := Tryz.func182.trans (congrArg some (by kernel_rfl))
  f319 := Tryz.func183.trans (congrArg some (by kernel_rfl))
  f320 := Tryz.func184.trans (congrArg some (by kernel_rfl))
  f337 := Tryz.func196.trans (congrArg some (by kernel_rfl))
  f338 := Tryz.func197.trans (congrArg some (by kernel_rfl))
  t0 := Tryz.underlying0
  a0 := Tryz.isAgg0
  z0 := Tryz.sizeOf0
  v0 := Tryz.zeroValue0
  t2 := Tryz.underlying2
  a2 := Tryz.isAgg2
  z2 := Tryz.sizeOf2
  v2 := Tryz.zeroValue2
  t3 := Tryz.underlying3
  a3 := Tryz.isAgg3
  z3 := Tryz.sizeOf3
  v3 := Tryz.zeroValue3
  t4 := Tryz.underlying4
  a4 := Tryz.isAgg4
  z4 := Tryz.sizeOf4
  v4 := Tryz.zeroValue4
  t5 := Tryz.underlying5
  a5 := Tryz.isAgg5
  z5 := Tryz.sizeOf5
  v5 := Tryz.zeroValue5
  t9 := Tryz.underlying9
  a9 := Tryz.isAgg9
  z9 := Tryz.sizeOf9
  v9 := Tryz.zeroValue9
  t20 := Tryz.underlying20
  a20 := Tryz.isAgg20
  z20 := Tryz.sizeOf20
  v20 := Tryz.zeroValue20
  t37 := Tryz.underlying65
  a37 := Tryz.isAgg65
  z37 := Tryz.sizeOf65
  v37 := Tryz.zeroValue65
  t46 := Tryz.underlying104
  a46 := Tryz.isAgg104
  z46 := Tryz.sizeOf104
  v46 := Tryz.zeroValue104
  t51 := Tryz.underlying159
  a51 := Tryz.isAgg159
  z51 := Tryz.sizeOf159
  v51 := Tryz.zeroValue159
  t53 := Tryz.underlying161
  a53 := Tryz.isAgg161
  z53 := Tryz.sizeOf161
  v53 := Tryz.zeroValue161
  t171 := Tryz.underlying205
  a171 := Tryz.isAgg205
  z171 := Tryz.sizeOf205
  v171 := Tryz.zeroValue205
  t173 := Tryz.underlying207
  a173 := Tryz.isAgg207
  z173 := Tryz.sizeOf207
  v173 := Tryz.zeroValue207
  t212 := Tryz.underlying219
  a212 := Tryz.isAgg219
  z212 := Tryz.sizeOf219
  v212 := Tryz.zeroValue219
  t213 := Tryz.underlying220
  a213 := Tryz.isAgg220
  z213 := Tryz.sizeOf220
  t232 := Tryz.underlying235
  a232 := Tryz.isAgg235
  z232 := Tryz.sizeOf235
  v232 := Tryz.zeroValue235
  t233 := Tryz.underlying236
  a233 := Tryz.isAgg236
  z233 := Tryz.sizeOf236
  v233 := Tryz.zeroValue236
  g17 := by kernel_rfl
  g18 := by kernel_rfl
  g19 := by kernel_rfl
  i0 := by kernel_rfl
  i2 := by kernel_rfl
  i3 := by kernel_rfl
  i4 := by kernel_rfl
  i5 := by kernel_rfl
  i9 := by kernel_rfl
  i20 := by kernel_rfl
  i37 := by kernel_rfl
  i46 := by kernel_rfl
  i51 := by kernel_rfl
  i53 := by kernel_rfl
  i171 := by kernel_rfl
  i173 := by kernel_rfl
  i212 := by kernel_rfl
  i232 := by kernel_rfl
  i233 := by kernel_rfl
  m17 := by kernel_rfl
  m18 := by kernel_rfl
  m19 := by kernel_rfl }
open Go.RowKit Go.Sort Go.Lib in
theorem Tryz.strconv_FormatInt_10 (n : Int) (h0 : -9223372036854775808 ≤ n) (h1 : n ≤ 9223372036854775807) (w : World) (htab : Lib.TabIs Tryz.prog w "internal/strconv.uint64pow10" .u64 Lib.pow10Tab) :
    Calls Tryz.prog 76 #[.int .i64 n, .int .i64 10] w fun e w' => e = .returned (.string ⟨(Lib.itoa n).toArray⟩) ∧ ∃ k os, w' = grow (w.drewN k) os := Any.strconv_FormatInt_10 Tryz.laysM173 n h0 h1 w htab
def Tryz.laysC174_ren : Go.Shelf.Ren := ⟨fun | 174 => 146 | 247 => 178 | 245 => 179 | 287 => 191 | 279 => 192 | 280 => 193 | 281 => 194 | 282 => 195 | 321 => 204 | 322 => 205 | 316 => 206 | 171 => 208 | 205 => 207 | 243 => 210 | 246 => 129 | 283 => 167 | 284 => 168 | 285 => 169 | 286 => 170 | 129 => 126 | 317 => 181 | 318 => 182 | 319 => 183 | 320 => 184 | 337 => 196 | 338 => 197 | n => n, fun | 9 => 9 | 3 => 3 | 2 => 2 | 75 => 69 | 85 => 184 | 4 => 4 | 167 => 225 | 5 => 5 | 53 => 161 | 175 => 226 | 46 => 104 | 168 => 228 | 37 => 65 | 0 => 0 | 210 => 233 | 21 => 21 | 127 => 112 | 145 => 241 | 143 => 239 | 171 => 205 | 173 => 207 | 212 => 219 | 51 => 159 | 20 => 20 | 213 => 220 | 232 => 235 | 233 => 236 | 80 => 78 | n => n, fun | 15 => 4 | 16 => 5 | 17 => 3 | 18 => 6 | 19 => 7 | n => n⟩
theorem Tryz.laysC174 : Go.Proofs.LaysC.n174 Tryz.prog Tryz.laysC174_ren := {
  mixed := by kernel_rfl
  f129 := Tryz.func126.trans (congrArg some (by kernel_rfl))
  f171 := Tryz.func208.trans (congrArg some (by kernel_rfl))
  f174 := Tryz.func146.trans (congrArg some (by kernel_rfl))
  f205 := Tryz.func207.trans (congrArg some (by kernel_rfl))
  f243 := Tryz.func210.trans (congrArg some (by kernel_rfl))
  f245 := Tryz.func179.trans (congrArg some (by kernel_rfl))
  f246 := Tryz.func129.trans (congrArg some (by kernel_rfl))
  f247 := Tryz.func178.trans (congrArg some (by kernel_rfl))
  f279 := Tryz.func192.trans (congrArg some (by kernel_rfl))
  f280 := Tryz.func193.trans (congrArg some (by kernel_rfl))
  f281 := Tryz.func194.trans (congrArg some (by kernel_rfl))
  f282 := Tryz.func195.trans (congrArg some (by kernel_rfl))
  f283 := Tryz.func167.trans (congrArg some (by kernel_rfl))
  f284 := Tryz.func168.trans (congrArg some (by kernel_rfl))
  f285 := Tryz.func169.trans (congrArg some (by kernel_rfl))
  f286 := Tryz.func170.trans (congrArg some (by kernel_rfl))
  f287 := Tryz.func191.trans (congrArg some (by kernel_rfl))
  f316 := Tryz.func206.trans (congrArg some (by kernel_rfl))
  f317 := Tryz.func181.trans (congrArg some (by kernel_rfl))
  f318 := Tryz.func182.trans (congrArg some (by kernel_rfl))
  f319 := Tryz.func183.trans (congrArg some (by kernel_rfl))
  f320 := Tryz.func184.trans (congrArg some (by kernel_rfl))
  f321 := Tryz.func204.trans (congrArg some (by kernel_rfl))
  f322 := Tryz.func205.trans (congrArg some (by kernel_rfl))
  f337 := Tryz.func196.trans (congrArg some (by kernel_rfl))
  f338 := Tryz.func197.trans (congrArg some (by kernel_rfl))
  t0 := Tryz.underlying0
  a0 := Tryz.isAgg0
  z0 := Tryz.sizeOf0
  v0 := Tryz.zeroValue0
  t2 := Tryz.underlying2
  a2 := Tryz.isAgg2
  z2 := Tryz.sizeOf2
  v2 := Tryz.zeroValue2
  t3 := Tryz.underlying3
  a3 := Tryz.isAgg3
  z3 := Tryz.sizeOf3
  v3 := Tryz.zeroValue3
  t4 := Tryz.underlying4
  a4 := Tryz.isAgg4
  z4 := Tryz.sizeOf4
  v4 := Tryz.zeroValue4
  t5 := Tryz.underlying5
  a5 := Tryz.isAgg5
  z5 := Tryz.sizeOf5
  v5 := Tryz.zeroValue5
  t9 := Tryz.underlying9
  a9 := Tryz.isAgg9
  z9 := Tryz.sizeOf9
  v9 := Tryz.zeroValue9
  t20 := Tryz.underlying20
  a20 := Tryz.isAgg20
  z20 := Tryz.sizeOf20
  v20 := Tryz.zeroValue20
  t21 := Tryz.underlying21
  a21 := Tryz.isAgg21
  z21 := Tryz.sizeOf21
  v21 := Tryz.zeroValue21
  t37 := Tryz.underlying65
  a37 := Tryz.isAgg65
  z37 := Tryz.sizeOf65
  v37 := Tryz.zeroValue65
  t46 := Tryz.underlying104
  a46 := Tryz.isAgg104
  z46 := Tryz.sizeOf104
  v46 := Tryz.zeroValue104
  t51 := Tryz.underlying159
  a51 := Tryz.isAgg159
  z51 := Tryz.sizeOf159
  v51 := Tryz.zeroValue159
  t53 := Tryz.underlying161
  a53 := Tryz.isAgg161
  z53 := Tryz.sizeOf161
  v53 := Tryz.zeroValue161
  t75 := Tryz.underlying69
  a75 := Tryz.isAgg69
  z75 := Tryz.sizeOf69
  v75 := Tryz.zeroValue69
  t85 := Tryz.underlying184
  a85 := Tryz.isAgg184
  z85 := Tryz.sizeOf184
  v85 := Tryz.zeroValue184
  t127 := Tryz.underlying112
  a127 := Tryz.isAgg112
  z127 := Tryz.sizeOf112
  v127 := Tryz.zeroValue112
  t143 := Tryz.underlying239
  a143 := Tryz.isAgg239
  z143 := Tryz.sizeOf239
  v143 := Tryz.zeroValue239
  t145 := Tryz.underlying241
  a145 := Tryz.isAgg241
  z145 := Tryz.sizeOf241
  v145 := Tryz.zeroValue241
  t167 := Tryz.underlying225
  a167 := Tryz.isAgg225
  z167 := Tryz.sizeOf225
  v167 := Tryz.zeroValue225
  t168 := Tryz.underlying228
  a168 := Tryz.isAgg228
  z168 := Tryz.sizeOf228
  v168 := Tryz.zeroValue228
  t171 := Tryz.underlying205
  a171 := Tryz.isAgg205
  z171 := Tryz.sizeOf205
  v171 := Tryz.zeroValue205
  t173 := Tryz.underlying207
  a173 := Tryz.isAgg207
  z173 := Tryz.sizeOf207
  v173 := Tryz.zeroValue207
  t175 := Tryz.underlying226
  a175 := Tryz.isAgg226
  z175 := Tryz.sizeOf226
  v175 := Tryz.zeroValue226
  t210 := Tryz.underlying233
  a210 := Tryz.isAgg233
  z210 := Tryz.sizeOf233
  v210 := Tryz.zeroValue233
  t212 := Tryz.underlying219
  a212 := Tryz.isAgg219
  z212 := Tryz.sizeOf219
  v212 := Tryz.zeroValue219
  t213 := Tryz.underlying220
  a213 := Tryz.isAgg220
  z213 := Tryz.sizeOf220
  t232 := Tryz.underlying235
  a232 := Tryz.isAgg235
  z232 := Tryz.sizeOf235
  v232 := Tryz.zeroValue235
  t233 := Tryz.underlying236
  a233 := Tryz.isAgg236
  z233 := Tryz.sizeOf236
  v233 := Tryz.zeroValue236
  g15 := by kernel_rfl
  g16 := by kernel_rfl
  g17 := by kernel_rfl
  g18 := by kernel_rfl
  g19 := by kernel_rfl
  t80 := Tryz.underlying78
  a80 := Tryz.isAgg78
  z80 := Tryz.sizeOf78
  v80 := Tryz.zeroValue78
  i0 := by kernel_rfl
  i2 := by kernel_rfl
  i3 := by kernel_rfl
  i4 := by kernel_rfl
  i5 := by kernel_rfl
  i9 := by kernel_rfl
  i20 := by kernel_rfl
  i21 := by kernel_rfl
  i37 := by kernel_rfl
  i46 := by kernel_rfl
  i51 := by kernel_rfl
  i53 := by kernel_rfl
  i75 := by kernel_rfl
  i80 := by kernel_rfl
  i85 := by kernel_rfl
  i127 := by kernel_rfl
  i143 := by kernel_rfl
  i145 := by kernel_rfl
  i167 := by kernel_rfl
  i168 := by kernel_rfl
  i171 := by kernel_rfl
  i173 := by kernel_rfl
  i175 := by kernel_rfl
  i210 := by kernel_rfl
  i212 := by kernel_rfl
  i232 := by kernel_rfl
  i233 := by kernel_rfl
  m15 := by kernel_rfl
  m16 := by kernel_rfl
  m17 := by kernel_rfl
  m18 := by kernel_rfl
  m19 := by kernel_rfl
  c0 := by kernel_rfl
  c2 := by kernel_rfl
  c3 := by kernel_rfl
  c4 := by kernel_rfl
  c5 := by kernel_rfl
  c9 := by kernel_rfl
  c20 := by kernel_rfl
  c21 := by kernel_rfl
  c37 := by kernel_rfl
  c46 := by kernel_rfl
  c51 := by kernel_rfl
  c53 := by kernel_rfl
  c75 := by kernel_rfl
  c80 := by kernel_rfl
  c85 := by kernel_rfl
  c127 := by kernel_rfl
  c143 := by kernel_rfl
  c145 := by kernel_rfl
  c167 := by kernel_rfl
  c168 := by kernel_rfl
  c171 := by kernel_rfl
  c173 := by kernel_rfl
  c175 := by kernel_rfl
  c210 := by kernel_rfl
  c212 := by kernel_rfl
  c213 := by kernel_rfl
  c232 := by kernel_rfl
  c233 := by kernel_rfl }
open Go.RowKit in
theorem Tryz.strconv_ParseInt_10_at64_ok (s : ByteArray) (hmax : s.size ≤ 9223372036854775806) (v : Int) (h : Lib.parseIntB 64 s.data.toList = .ok v) (w : World) :
    Calls Tryz.prog 146 #[.string s, .int .i64 10, .int .i64 64] w fun e w' => e = .returned (.tuple #[.int .i64 v, .nilIface]) ∧ (w' = w ∨ ∃ t, w' = Lib.bytesWorld w 5 t) := Any.strconv_ParseInt_10_at64_ok Tryz.laysC174 s hmax v h w
open Go.RowKit in
theorem Tryz.strconv_ParseInt_10_at64_syntax (s : ByteArray) (hlim : s.size ≤ 281474976710656) (h : Lib.parseIntB 64 s.data.toList = Lib.parseIntB 64 []) (ev : Value) (w : World) (hv : w.cell? ⟨4, 0, none⟩ = some ev) (hev : ev = .nilIface ∨ ∃ te pe, ev = .iface te pe) :
    Calls Tryz.prog 146 #[.string s, .int .i64 10, .int .i64 64] w fun e w' => ∃ N, e = .returned (.tuple #[.int .i64 (0), .iface 228 (.pointer (some ⟨N, 0, none⟩))]) ∧ w.heap.size ≤ N ∧ w'.heap[N]? = some (.cells #[.string ⟨#[80, 97, 114, 115, 101, 73, 110, 116]⟩, .string s, ev] 233 (0, 0)) ∧ Below w.heap.size w w' := Any.strconv_ParseInt_10_at64_syntax Tryz.laysC174 s hlim h ev w hv hev
open Go.RowKit in
theorem Tryz.strconv_ParseInt_10_at64_range (s : ByteArray) (hlim : s.size ≤ 281474976710656) (h : Lib.parseIntB 64 s.data.toList = .range) (ev : Value) (w : World) (hv : w.cell? ⟨5, 0, none⟩ = some ev) (hev : ev = .nilIface ∨ ∃ te pe, ev = .iface te pe) :
    Calls Tryz.prog 146 #[.string s, .int .i64 10, .int .i64 64] w fun e w' => ∃ N, e = .returned (.tuple #[.int .i64 (Lib.intSat 64 s.data.toList), .iface 228 (.pointer (some ⟨N, 0, none⟩))]) ∧ w.heap.size ≤ N ∧ w'.heap[N]? = some (.cells #[.string ⟨#[80, 97, 114, 115, 101, 73, 110, 116]⟩, .string s, ev] 233 (0, 0)) ∧ Below w.heap.size w w' := Any.strconv_ParseInt_10_at64_range Tryz.laysC174 s hlim h ev w hv hev
open Go.RowKit in
open Go.RowKit in
def Tryz.lays145_ren : Go.Shelf.Ren := ⟨fun | 145 => 145 | 220 => 177 | 219 => 188 | 217 => 189 | 225 => 199 | 224 => 200 | 267 => 201 | 266 => 202 | 314 => 209 | n => n, fun | 9 => 9 | 4 => 4 | 59 => 182 | 3 => 3 | 5 => 5 | 46 => 104 | 146 => 237 | 51 => 159 | n => n, fun | 1 => 2 | n => n⟩
theorem Tryz.lays145 : Go.Proofs.Lays.n145 Tryz.prog Tryz.lays145_ren := {
  mixed := by kernel_rfl
  f145 := Tryz.func145.trans (congrArg some (by kernel_rfl))
  f217 := Tryz.func189.trans (congrArg some (by kernel_rfl))
  f219 := Tryz.func188.trans (congrArg some (by kernel_rfl))
  f220 := Tryz.func177.trans (congrArg some (by kernel_rfl))
  f224 := Tryz.func200.trans (congrArg some (by kernel_rfl))
  f225 := Tryz.func199.trans (congrArg some (by kernel_rfl))
  f266 := Tryz.func202.trans (congrArg some (by kernel_rfl))
  f267 := Tryz.func201.trans (congrArg some (by kernel_rfl))
  f314 := Tryz.func209.trans (congrArg some (by kernel_rfl))
  t3 := Tryz.underlying3
  a3 := Tryz.isAgg3
  z3 := Tryz.sizeOf3
  v3 := Tryz.zeroValue3
  t4 := Tryz.underlying4
  a4 := Tryz.isAgg4
  z4 := Tryz.sizeOf4
  v4 := Tryz.zeroValue4
  t5 := Tryz.underlying5
  a5 := Tryz.isAgg5
  z5 := Tryz.sizeOf5
  v5 := Tryz.zeroValue5
  t9 := Tryz.underlying9
  a9 := Tryz.isAgg9
  z9 := Tryz.sizeOf9
  v9 := Tryz.zeroValue9
  t46 := Tryz.underlying104
  a46 := Tryz.isAgg104
  z46 := Tryz.sizeOf104
  v46 := Tryz.zeroValue104
  t51 := Tryz.underlying159
  a51 := Tryz.isAgg159
  z51 := Tryz.sizeOf159
  v51 := Tryz.zeroValue159
  t59 := Tryz.underlying182
  a59 := Tryz.isAgg182
  z59 := Tryz.sizeOf182
  v59 := Tryz.zeroValue182
  t146 := Tryz.underlying237
  a146 := Tryz.isAgg237
  z146 := Tryz.sizeOf237
  v146 := Tryz.zeroValue237
  g1 := by kernel_rfl }
open Go.RowKit Go.Lib in
theorem Tryz.strings_Cut (s sep : ByteArray) (m : Int) (w : World) (hs : s.size < 4294967281) (hm : w.cell? ⟨2, 0, none⟩ = some (.int .i64 m)) :
    Calls Tryz.prog 145 #[.string s, .string sep] w fun e w' => e = .returned (.tuple #[.string ⟨(Lib.cut s.data.toList sep.data.toList).1.toArray⟩, .string ⟨(Lib.cut s.data.toList sep.data.toList).2.1.toArray⟩, .bool (Lib.cut s.data.toList sep.data.toList).2.2]) ∧ ∃ n, w' = w.drewN n := Any.strings_Cut Tryz.lays145 s sep m w hs hm
open Go.RowKit Go.Lib in
def Tryz.lays146_ren : Go.Shelf.Ren := ⟨fun | 146 => 81 | 221 => 135 | 268 => 171 | 138 => 172 | 143 => 173 | 195 => 185 | 197 => 186 | 218 => 187 | 219 => 188 | 260 => 198 | 217 => 189 | 225 => 199 | 224 => 200 | 267 => 201 | 266 => 202 | 314 => 209 | n => n, fun | 9 => 9 | 31 => 33 | 3 => 3 | 4 => 4 | 0 => 0 | 105 => 223 | 21 => 21 | 5 => 5 | 46 => 104 | 119 => 137 | 139 => 140 | 138 => 139 | 146 => 237 | 51 => 159 | n => n, fun | 1 => 2 | 3 => 0 | 4 => 1 | n => n⟩
theorem Tryz.lays146 : Go.Proofs.Lays.n146 Tryz.prog Tryz.lays146_ren := {
  mixed := by kernel_rfl
  f138 := Tryz.func172.trans (congrArg some (by kernel_rfl))
  f143 := Tryz.func173.trans (congrArg some (by kernel_rfl))
  f146 := Tryz.func81.trans (congrArg some (by kernel_rfl))
  f195 := Tryz.func185.trans (congrArg some (by kernel_rfl))
  f197 := Tryz.func186.trans (congrArg some (by kernel_rfl))
  f217 := Tryz.func189.trans (congrArg some (by kernel_rfl))
  f218 := Tryz.func187.trans (congrArg some (by kernel_rfl))
  f219 := Tryz.func188.trans (congrArg some (by kernel_rfl))
  f221 := Tryz.func135.trans (congrArg some (by kernel_rfl))
  f224 := Tryz.func200.trans (congrArg some (by kernel_rfl))
  f225 := Tryz.func199.trans (congrArg some (by kernel_rfl))
  f260 := Tryz.func198.trans (congrArg some (by kernel_rfl))
  f266 := Tryz.func202.trans (congrArg some (by kernel_rfl))
  f267 := Tryz.func201.trans (congrArg some (by kernel_rfl))
  f268 := Tryz.func171.trans (congrArg some (by kernel_rfl))
  f314 := Tryz.func209.trans (congrArg some (by kernel_rfl))
  t0 := Tryz.underlying0
  a0 := Tryz.isAgg0
  z0 := Tryz.sizeOf0
  v0 := Tryz.zeroValue0
  t3 := Tryz.underlying3
  a3 := Tryz.isAgg3
  z3 := Tryz.sizeOf3
  v3 := Tryz.zeroValue3
  t4 := Tryz.underlying4
  a4 := Tryz.isAgg4
  z4 := Tryz.sizeOf4
  v4 := Tryz.zeroValue4
  t5 := Tryz.underlying5
  a5 := Tryz.isAgg5
  z5 := Tryz.sizeOf5
  v5 := Tryz.zeroValue5
  t9 := Tryz.underlying9
  a9 := Tryz.isAgg9
  z9 := Tryz.sizeOf9
  v9 := Tryz.zeroValue9
  t21 := Tryz.underlying21
  a21 := Tryz.isAgg21
  z21 := Tryz.sizeOf21
  v21 := Tryz.zeroValue21
  t31 := Tryz.underlying33
  a31 := Tryz.isAgg33
  z31 := Tryz.sizeOf33
  v31 := Tryz.zeroValue33
  t46 := Tryz.underlying104
  a46 := Tryz.isAgg104
  z46 := Tryz.sizeOf104
  v46 := Tryz.zeroValue104
  t51 := Tryz.underlying159
  a51 := Tryz.isAgg159
  z51 := Tryz.sizeOf159
  v51 := Tryz.zeroValue159
  t105 := Tryz.underlying223
  a105 := Tryz.isAgg223
  z105 := Tryz.sizeOf223
  v105 := Tryz.zeroValue223
  t119 := Tryz.underlying137
  a119 := Tryz.isAgg137
  z119 := Tryz.sizeOf137
  t138 := Tryz.underlying139
  a138 := Tryz.isAgg139
  z138 := Tryz.sizeOf139
  v138 := Tryz.zeroValue139
  t139 := Tryz.underlying140
  a139 := Tryz.isAgg140
  z139 := Tryz.sizeOf140
  v139 := Tryz.zeroValue140
  t146 := Tryz.underlying237
  a146 := Tryz.isAgg237
  z146 := Tryz.sizeOf237
  v146 := Tryz.zeroValue237
  g1 := by kernel_rfl
  g3 := by kernel_rfl
  g4 := by kernel_rfl }
open Go.RowKit Go.Lib in
theorem Tryz.strings_Split (s sep : ByteArray) (m : Int) (w : World) (hs : s.size < 4294967281) (hm : w.cell? ⟨2, 0, none⟩ = some (.int .i64 m)) (h1 : 1 ≤ sep.size) :
    Calls Tryz.prog 81 #[.string s, .string sep] w fun e w' =>
      e = .returned (.slice (some ⟨w.heap.size, 0, none⟩) (Lib.countB s sep + 1) (Lib.countB s sep + 1)) ∧ w' = w.alloc (.cells ((Lib.splitB sep 0 (Lib.countB s sep) s).map Value.string).toArray 9) := Any.strings_Split Tryz.lays146 (by kernel_rfl) s sep m w hs hm h1
open Go.RowKit Go.Lib in
def Tryz.lays194_ren : Go.Shelf.Ren := ⟨fun | 194 => 35 | n => n, fun | 31 => 33 | 9 => 9 | 3 => 3 | 4 => 4 | 0 => 0 | n => n, fun | n => n⟩
theorem Tryz.lays194 : Go.Proofs.Lays.n194 Tryz.prog Tryz.lays194_ren := {
  mixed := by kernel_rfl
  f194 := Tryz.func35.trans (congrArg some (by kernel_rfl))
  t0 := Tryz.underlying0
  a0 := Tryz.isAgg0
  z0 := Tryz.sizeOf0
  v0 := Tryz.zeroValue0
  t3 := Tryz.underlying3
  a3 := Tryz.isAgg3
  z3 := Tryz.sizeOf3
  v3 := Tryz.zeroValue3
  t4 := Tryz.underlying4
  a4 := Tryz.isAgg4
  z4 := Tryz.sizeOf4
  v4 := Tryz.zeroValue4
  t9 := Tryz.underlying9
  a9 := Tryz.isAgg9
  z9 := Tryz.sizeOf9
  v9 := Tryz.zeroValue9
  t31 := Tryz.underlying33
  a31 := Tryz.isAgg33
  z31 := Tryz.sizeOf33
  v31 := Tryz.zeroValue33 }
def Tryz.lays190_ren : Go.Shelf.Ren := ⟨fun | 190 => 34 | 125 => 73 | 258 => 72 | 128 => 125 | 129 => 126 | 302 => 116 | 303 => 117 | 304 => 118 | 305 => 119 | 306 => 120 | 307 => 121 | 308 => 122 | 309 => 123 | 310 => 124 | 333 => 160 | 329 => 161 | 330 => 162 | 334 => 163 | 335 => 164 | 336 => 165 | 344 => 180 | n => n, fun | 31 => 33 | 9 => 9 | 3 => 3 | 46 => 104 | 0 => 0 | 51 => 159 | 53 => 161 | 4 => 4 | 183 => 151 | 182 => 150 | 131 => 156 | 5 => 5 | 218 => 198 | 222 => 202 | 228 => 215 | 229 => 170 | n => n, fun | n => n⟩
theorem Tryz.lays190 : Go.Proofs.Lays.n190 Tryz.prog Tryz.lays190_ren := {
  mixed := by kernel_rfl
  f125 := Tryz.func73.trans (congrArg some (by kernel_rfl))
  f128 := Tryz.func125.trans (congrArg some (by kernel_rfl))
  f129 := Tryz.func126.trans (congrArg some (by kernel_rfl))
  f190 := Tryz.func34.trans (congrArg some (by kernel_rfl))
  f258 := Tryz.func72.trans (congrArg some (by kernel_rfl))
  f302 := Tryz.func116.trans (congrArg some (by kernel_rfl))
  f303 := Tryz.func117.trans (congrArg some (by kernel_rfl))
  f304 := Tryz.func118.trans (congrArg some (by kernel_rfl))
  f305 := Tryz.func119.trans (congrArg some (by kernel_rfl))
  f306 := Tryz.func120.trans (congrArg some (by kernel_rfl))
  f307 := Tryz.func121.trans (congrArg some (by kernel_rfl))
  f308 := Tryz.func122.trans (congrArg some (by kernel_rfl))
  f309 := Tryz.func123.trans (congrArg some (by kernel_rfl))
  f310 := Tryz.func124.trans (congrArg some (by kernel_rfl))
  f329 := Tryz.func161.trans (congrArg some (by kernel_rfl))
  f330 := Tryz.func162.trans (congrArg some (by kernel_rfl))
  f333 := Tryz.func160.trans (congrArg some (by kernel_rfl))
  f334 := Tryz.func163.trans (congrArg some (by kernel_rfl))
  f335 := Tryz.func164.trans (congrArg some (by kernel_rfl))
  f336 := Tryz.func165.trans (congrArg some (by kernel_rfl))
  f344 := Tryz.func180.trans (congrArg some (by kernel_rfl))
  t0 := Tryz.underlying0
  a0 := Tryz.isAgg0
  z0 := Tryz.sizeOf0
  v0 := Tryz.zeroValue0
  t3 := Tryz.underlying3
  a3 := Tryz.isAgg3
  z3 := Tryz.sizeOf3
  v3 := Tryz.zeroValue3
  t4 := Tryz.underlying4
  a4 := Tryz.isAgg4
  z4 := Tryz.sizeOf4
  v4 := Tryz.zeroValue4
  t5 := Tryz.underlying5
  a5 := Tryz.isAgg5
  z5 := Tryz.sizeOf5
  v5 := Tryz.zeroValue5
  t9 := Tryz.underlying9
  a9 := Tryz.isAgg9
  z9 := Tryz.sizeOf9
  v9 := Tryz.zeroValue9
  t31 := Tryz.underlying33
  a31 := Tryz.isAgg33
  z31 := Tryz.sizeOf33
  v31 := Tryz.zeroValue33
  t46 := Tryz.underlying104
  a46 := Tryz.isAgg104
  z46 := Tryz.sizeOf104
  v46 := Tryz.zeroValue104
  t51 := Tryz.underlying159
  a51 := Tryz.isAgg159
  z51 := Tryz.sizeOf159
  v51 := Tryz.zeroValue159
  t53 := Tryz.underlying161
  a53 := Tryz.isAgg161
  z53 := Tryz.sizeOf161
  v53 := Tryz.zeroValue161
  t131 := Tryz.underlying156
  a131 := Tryz.isAgg156
  z131 := Tryz.sizeOf156
  v131 := Tryz.zeroValue156
  t182 := Tryz.underlying150
  a182 := Tryz.isAgg150
  z182 := Tryz.sizeOf150
  v182 := Tryz.zeroValue150
  t183 := Tryz.underlying151
  a183 := Tryz.isAgg151
  z183 := Tryz.sizeOf151
  v183 := Tryz.zeroValue151
  t218 := Tryz.underlying198
  a218 := Tryz.isAgg198
  z218 := Tryz.sizeOf198
  v218 := Tryz.zeroValue198
  t222 := Tryz.underlying202
  a222 := Tryz.isAgg202
  z222 := Tryz.sizeOf202
  v222 := Tryz.zeroValue202
  t228 := Tryz.underlying215
  a228 := Tryz.isAgg215
  z228 := Tryz.sizeOf215
  v228 := Tryz.zeroValue215
  t229 := Tryz.underlying170
  a229 := Tryz.isAgg170
  z229 := Tryz.sizeOf170
  v229 := Tryz.zeroValue170 }
def Tryz.laysValid_ren : Go.Shelf.Ren := ⟨fun | 196 => 55 | 259 => 108 | n => n, fun | 9 => 9 | 4 => 4 | 3 => 3 | 5 => 5 | 12 => 12 | 119 => 137 | 0 => 0 | 46 => 104 | 139 => 140 | 138 => 139 | 53 => 161 | n => n, fun | 3 => 0 | 4 => 1 | n => n⟩
theorem Tryz.laysValid : Go.Proofs.Lays.n196 Tryz.prog Tryz.laysValid_ren := {
  mixed := by kernel_rfl
  f196 := Tryz.func55.trans (congrArg some (by kernel_rfl))
  f259 := Tryz.func108.trans (congrArg some (by kernel_rfl))
  t0 := Tryz.underlying0
  a0 := Tryz.isAgg0
  z0 := Tryz.sizeOf0
  v0 := Tryz.zeroValue0
  t3 := Tryz.underlying3
  a3 := Tryz.isAgg3
  z3 := Tryz.sizeOf3
  v3 := Tryz.zeroValue3
  t4 := Tryz.underlying4
  a4 := Tryz.isAgg4
  z4 := Tryz.sizeOf4
  v4 := Tryz.zeroValue4
  t5 := Tryz.underlying5
  a5 := Tryz.isAgg5
  z5 := Tryz.sizeOf5
  v5 := Tryz.zeroValue5
  t9 := Tryz.underlying9
  a9 := Tryz.isAgg9
  z9 := Tryz.sizeOf9
  v9 := Tryz.zeroValue9
  t12 := Tryz.underlying12
  a12 := Tryz.isAgg12
  z12 := Tryz.sizeOf12
  v12 := Tryz.zeroValue12
  t46 := Tryz.underlying104
  a46 := Tryz.isAgg104
  z46 := Tryz.sizeOf104
  v46 := Tryz.zeroValue104
  t53 := Tryz.underlying161
  a53 := Tryz.isAgg161
  z53 := Tryz.sizeOf161
  v53 := Tryz.zeroValue161
  t119 := Tryz.underlying137
  a119 := Tryz.isAgg137
  z119 := Tryz.sizeOf137
  t138 := Tryz.underlying139
  a138 := Tryz.isAgg139
  z138 := Tryz.sizeOf139
  v138 := Tryz.zeroValue139
  t139 := Tryz.underlying140
  a139 := Tryz.isAgg140
  z139 := Tryz.sizeOf140
  v139 := Tryz.zeroValue140
  g3 := by kernel_rfl
  g4 := by kernel_rfl }
open Go.RowKit in
theorem Tryz.utf8_ValidString (s : ByteArray) (w : World) (hs : s.size ≤ 9223372036854775807) (hT : Lib.Utf8Tabs 0 1 w) :
    Calls Tryz.prog 55 #[.string s] w fun e w' => e = .returned (.bool (Lib.validD s.data.toList)) ∧ Below w.heap.size w w' := Any.utf8_ValidString Tryz.laysValid s w hs hT
end Go.Proofs
namespace Go.Proofs.YtnjjdbljoligdaaGreatDoor
open Go.RowKit
set_option maxRecDepth 100000
def g_strconv_FormatInt (n b : Int) : Option (List UInt8) := if b = 10 then some (Lib.itoa n) else none
theorem a_strconv_FormatInt (I : World → Prop) (hI : Stab I) (hTab : ∀ w, I w → Tab w) (n b : Int) {r : List UInt8} (h : g_strconv_FormatInt n b = some r) : AFun Tryz.prog I 76 [.int .i64 n, .int .i64 b] (.str r) := by
  obtain ⟨rfl, h⟩ := ite_on h
  obtain rfl := Option.some.inj h
  refine AFun.sized (by kernel_rfl) fun hz => ?_
  simp only [List.mem_cons, List.not_mem_nil, or_false, forall_eq_or_imp, forall_eq, Sz_i64] at hz
  obtain ⟨⟨h0, h1⟩, _⟩ := hz
  refine AFun.of_calls (v := .string ⟨(Lib.itoa n).toArray⟩) (by kernel_rfl) (fun w F => .str _ (by have := Lib.itoa_length_le n h0 h1; unfold maxLen; omega)) ?_
  intro w F args hIw _ hl hr
  match args, hl with
  | [v, u], _ =>
    obtain rfl := rep_int1 (hr 0 v _ rfl rfl)
    obtain rfl := rep_int1 (hr 1 u _ rfl rfl)
    refine (Tryz.strconv_FormatInt_10 n h0 h1 w (hTab w hIw)).mono ?_
    rintro e w' ⟨rfl, k, os, rfl⟩
    refine ⟨rfl, rfl, rfl, rfl, ?_, fun i hi => ?_⟩
    · simp [Go.Sort.grow]
    · simp [Go.Sort.grow, Array.getElem?_append, hi]
theorem flat_strs (l : List (List UInt8)) : (l.map D.str).flatMap D.cells = l.map D.str := by
  induction l with
  | nil => rfl
  | cons a t ih => simp only [List.map_cons, List.flatMap_cons, ih, D.cells, List.singleton_append]
theorem a_Join (I : World → Prop) (l : List (List UInt8)) (sep : List UInt8) (hne : l ≠ []) (h1 : l.length ≤ 140737488355328) (h2 : (Lib.join l sep).length ≤ 140737488355328) : AFun Tryz.prog I 39 [.sl (l.map D.str), .str sep] (.str (Lib.join l sep)) := by
  refine AFun.of_calls (v := .string ⟨(Lib.join l sep).toArray⟩) (by kernel_rfl) (fun w F => .str _ (by unfold maxLen; omega)) ?_
  intro w F args hI hfb hl hr
  match args, hl with
  | [v1, v2], _ =>
    obtain ⟨rfl, _⟩ := rep_str1 (hr 1 v2 _ rfl rfl)
    have hv := hr 0 v1 _ rfl rfl
    generalize hxs : l.map D.str = xs at hv
    cases hv with
    | sl0 A c hm => exact absurd (List.map_eq_nil_iff.1 hxs) hne
    | sl b off k c _ vals hc hm hk hlv hone hF hcell hrep =>
      subst hxs
      rw [flat_strs] at hlv hrep
      have hpos : 0 < vals.length := by rw [hlv, List.length_map]; exact List.length_pos_iff.2 hne
      have hb : b < w.heap.size := hfb b (off + 0) (hF 0 hpos)
      have hmm : (l.map fun s => (⟨s.toArray⟩ : ByteArray)).map (·.data.toList) = l := by rw [List.map_map]; exact List.map_id'' (fun s => by simp) l
      have := Tryz.strings_Join b off c (l.map fun s => (⟨s.toArray⟩ : ByteArray)) ⟨sep.toArray⟩ w (fun j x hx => by
        simp only [List.getElem?_map] at hx
        cases hj : l[j]? with
        | none => rw [hj] at hx; simp at hx
        | some s =>
          rw [hj] at hx
          simp at hx
          subst hx
          have hjl : j < vals.length := by rw [hlv, List.length_map]; exact (List.getElem?_eq_some_iff.1 hj).1
          have hv := hrep j _ (.str s) (List.getElem?_eq_getElem hjl) (by simp [hj])
          obtain ⟨hv, _⟩ := rep_str1 hv
          rw [hcell j _ (List.getElem?_eq_getElem hjl), hv]) hb (by simpa using h1) (by simpa using hc) (by rw [hmm]; exact h2)
      rw [hmm] at this
      simpa using this
def g_strings_Join (l : List (List UInt8)) (sep : List UInt8) : Option (List UInt8) := if l.length ≤ 140737488355328 ∧ (Lib.join l sep).length ≤ 140737488355328 then some (Lib.join l sep) else none
theorem a_strings_Join (I : World → Prop) (hI : Stab I) (l : List (List UInt8)) (sep : List UInt8) {r : List UInt8} (h : g_strings_Join l sep = some r) : AFun Tryz.prog I 39 [.sl (l.map D.str), .str sep] (.str r) := by
  unfold g_strings_Join at h
  obtain ⟨hc, h⟩ := ite_on h
  obtain rfl := Option.some.inj h
  by_cases hne : l = []
  · subst hne
    refine AFun.of_calls (v := .string ⟨#[]⟩) (by kernel_rfl) (fun w F => ?_) ?_
    · have : (Lib.join ([] : List (List UInt8)) sep) = [] := rfl
      rw [this]
      exact .str [] (by simp)
    · intro w F args hI hfb hl hr
      match args, hl with
      | [v1, v2], _ =>
        obtain ⟨rfl, _⟩ := rep_str1 (hr 1 v2 _ rfl rfl)
        have hv := hr 0 v1 _ rfl rfl
        simp only [List.map_nil] at hv
        cases hv with
        | sl0 A c hm =>
          refine (Tryz.strings_Join_none A c _ w).mono ?_
          rintro e w' ⟨rfl, rfl⟩
          exact ⟨rfl, Below.refl _ _⟩
        | sl b off k c _ vals hc hm hk hlv hone hF hcell hrep =>
          refine (Tryz.strings_Join_none _ c _ w).mono ?_
          rintro e w' ⟨rfl, rfl⟩
          exact ⟨rfl, Below.refl _ _⟩
  · exact a_Join I l sep hne hc.1 hc.2
def g_strings_IndexByte (s : List UInt8) (c : Int) : Option Int := some (Lib.indexByte s c.toNat.toUInt8)
theorem indexByte_lt : ∀ (s : List UInt8) (c : UInt8), Lib.indexByte s c ≤ s.length
  | [], _ => by simp [Lib.indexByte]
  | b :: l, c => by
    have := indexByte_lt l c
    simp only [Lib.indexByte, List.length_cons]
    split
    · omega
    · split <;> omega
theorem a_strings_IndexByte (I : World → Prop) (hI : Stab I) (s : List UInt8) (c : Int) {r : Int} (h : g_strings_IndexByte s c = some r) : AFun Tryz.prog I 174 [.str s, .int .u8 c] (.int .i64 r) := by
  obtain rfl := Option.some.inj h
  refine AFun.sized (by kernel_rfl) fun hz => ?_
  simp only [List.mem_cons, List.not_mem_nil, or_false, forall_eq_or_imp, forall_eq, Sz_str] at hz
  refine AFun.of_calls (v := .int .i64 (Lib.indexByte s c.toNat.toUInt8)) (by kernel_rfl) (fun w F => .int _ _ ?_) ?_
  · have h1 := indexByte_lt s c.toNat.toUInt8
    have h2 := Lib.indexByte_ge s c.toNat.toUInt8
    simp only [inR, kLo, kHi]
    omega
  · intro w F args hIw _ hl hr
    match args, hl with
    | [v, u], _ =>
      obtain ⟨rfl, _⟩ := rep_str1 (hr 0 v _ rfl rfl)
      obtain rfl := rep_int1 (hr 1 u _ rfl rfl)
      refine (Tryz.strings_IndexByte ⟨s.toArray⟩ c w).mono ?_
      rintro e w' ⟨rfl, rfl⟩
      exact ⟨by simp, Below.refl _ _⟩
end Go.Proofs.YtnjjdbljoligdaaGreatDoor
namespace Go.Proofs.YtnjjdbljoligdaaGreatDoor
open Go.RowKit
set_option maxRecDepth 100000
theorem cell_below {w w' : World} {g : Nat} {v : Value} (h : w.cell? ⟨g, 0, none⟩ = some v) (hb : Below w.heap.size w w') : w'.cell? ⟨g, 0, none⟩ = some v := by
  have hlt : g < w.heap.size := by
    rcases Nat.lt_or_ge g w.heap.size with h1 | h1
    · exact h1
    · simp [World.cell?, Array.getElem?_eq_none h1] at h
  rw [World.cell?_of_block (hb.block g hlt)]
  exact h
def Shp (w : World) : Prop := ∃ m, w.cell? ⟨2, 0, none⟩ = some (.int .i64 m)
theorem stabShp : Stab Shp := fun _ _ ⟨m, h⟩ hb => ⟨m, cell_below h hb⟩
def PIv (w : World) : Prop := (∃ te pe, w.cell? ⟨4, 0, none⟩ = some (.iface te pe)) ∧ ∃ te pe, w.cell? ⟨5, 0, none⟩ = some (.iface te pe)
theorem stabPIv : Stab PIv := fun _ _ ⟨⟨a, b, h⟩, ⟨c, d, k⟩⟩ hb => ⟨⟨a, b, cell_below h hb⟩, ⟨c, d, cell_below k hb⟩⟩
section
variable {P : Program} {I : World → Prop} {f : FuncId} {ds : List D}
theorem AFun.of_strs (he : enterable P f = true) (l : List (List UInt8)) (t : TypeId) (hl : l.length ≤ maxLen) (hs : ∀ s ∈ l, s.length ≤ maxLen)
    (h : ∀ (w : World) (F : Nat → Nat → Prop) (args : List Value), I w → FB (cF F) w → args.length = ds.length → (∀ (i : Nat) v d, args[i]? = some v → ds[i]? = some d → Rep w (cF F) v d) →
      Calls P f args.toArray w fun e w' => e = .returned (.slice (some ⟨w.heap.size, 0, none⟩) l.length l.length) ∧ w' = w.alloc (.cells (l.map fun s => Value.string ⟨s.toArray⟩).toArray t)) : AFun P I f ds (.sl (l.map D.str)) := by
  refine ⟨he, fun w F args hI hfb hla hr => ?_⟩
  refine (h w F args hI hfb hla hr).mono ?_
  rintro e w' ⟨rfl, rfl⟩
  let F' : Nat → Nat → Prop := fun b o => F b o ∨ (b = w.heap.size ∧ o < l.length)
  have hbel : Below w.heap.size w (w.alloc (.cells (l.map fun s => Value.string ⟨s.toArray⟩).toArray t)) := (Below.refl _ _).alloc (Nat.le_refl _) _
  refine ⟨_, F', rfl, hbel, ⟨fun _ _ h => .inl h, fun b o hF => hbel.block b (hfb b o hF), fun _ h => h, fun _ _ => rfl⟩, fun b o hF => ?_, fun b o hF => ?_, ?_⟩
  · rcases hF with hF | ⟨rfl, _⟩
    · exact Nat.lt_of_lt_of_le (hfb b o hF) hbel.size
    · simp
  · rcases hF with hF | ⟨rfl, _⟩
    · exact .inl hF
    · exact .inr (Nat.le_refl _)
  · have := Rep.sl (w := w.alloc (.cells (l.map fun s => Value.string ⟨s.toArray⟩).toArray t)) (C := cF F') w.heap.size 0 1 l.length (l.map D.str) (l.map fun s => Value.string ⟨s.toArray⟩) (by simp) hl
      (by intro x hx; simp at hx; obtain ⟨a, _, rfl⟩ := hx; rfl) (by rw [flat_strs]; simp) (by intro v hv; simp at hv; obtain ⟨a, _, rfl⟩ := hv; rfl) (fun i hi => .inr ⟨rfl, by simpa using hi⟩) (fun i v hv => ?_) (fun i v d hv hd => ?_)
    · simpa using this
    · rw [World.cell?]
      simp only [Nat.zero_add, World.alloc, Array.getElem?_push_size]
      simpa using hv
    · rw [flat_strs] at hd
      simp only [List.getElem?_map] at hv hd
      cases hi : l[i]? with
      | none => rw [hi] at hv; simp at hv
      | some s =>
        rw [hi] at hv hd
        simp at hv hd
        subst hv hd
        exact .str s (hs s (List.mem_of_getElem? hi))
theorem AFun.of_vals (he : enterable P f = true) (d : D)
    (h : ∀ (w : World) (F : Nat → Nat → Prop) (args : List Value), I w → FB (cF F) w → args.length = ds.length → (∀ (i : Nat) v d, args[i]? = some v → ds[i]? = some d → Rep w (cF F) v d) → Calls P f args.toArray w fun e w' => ∃ v, e = .returned v ∧ Below w.heap.size w w' ∧ ∀ F, Rep w' (cF F) v d) : AFun P I f ds d := by
  refine ⟨he, fun w F args hI hfb hl hr => ?_⟩
  refine (h w F args hI hfb hl hr).mono ?_
  rintro e w' ⟨v, rfl, hb, hv⟩
  exact ⟨v, F, rfl, hb, ⟨fun _ _ h => h, fun b o hF => hb.block b (hfb b o hF), fun _ h => h, fun _ _ => rfl⟩, fun b o hF => Nat.lt_of_lt_of_le (hfb b o hF) hb.size, fun _ _ h => .inl h, hv F⟩
end
theorem rep_tup2 {w : World} {C : Cx} {u v : Value} {d e : D} (h : Rep w C u d) (k : Rep w C v e) : Rep w C (.tuple #[u, v]) (.tup [d, e]) := by
  refine .tup [u, v] [d, e] rfl fun i x y hx hy => ?_
  match i, hx, hy with
  | 0, hx, hy => simp at hx hy; subst hx hy; exact h
  | 1, hx, hy => simp at hx hy; subst hx hy; exact k
  | (n + 2), hx, hy => simp at hx
def g_strings_CutPrefix (s p : List UInt8) : Option (List UInt8 × Bool) := some (Lib.trimPrefix s p, Lib.hasPrefix s p)
theorem trimPrefix_len (s p : List UInt8) : (Lib.trimPrefix s p).length ≤ s.length := by
  unfold Lib.trimPrefix
  split
  · simp
  · exact Nat.le_refl _
theorem a_strings_CutPrefix (I : World → Prop) (hI : Stab I) (s p : List UInt8) {r : List UInt8 × Bool} (h : g_strings_CutPrefix s p = some r) : AFun Tryz.prog I 176 [.str s, .str p] (.tup [.str r.1, .bool r.2]) := by
  obtain rfl := Option.some.inj h
  refine AFun.of_vals (by kernel_rfl) _ ?_
  intro w F args hIw _ hl hr
  match args, hl with
  | [v, u], _ =>
    obtain ⟨rfl, hs⟩ := rep_str1 (hr 0 v _ rfl rfl)
    obtain ⟨rfl, _⟩ := rep_str1 (hr 1 u _ rfl rfl)
    refine (Tryz.strings_CutPrefix ⟨s.toArray⟩ ⟨p.toArray⟩ w).mono ?_
    rintro e w' ⟨rfl, rfl⟩
    exact ⟨_, rfl, Below.refl _ _, fun F => rep_tup2 (.str _ (by have := trimPrefix_len s p; simpa using Nat.le_trans this hs)) (.bool _)⟩
def g_strings_Split (s sep : List UInt8) : Option (List (List UInt8)) := if s.length < 4294967281 ∧ 1 ≤ sep.length then some (Lib.split s sep) else none
theorem splitK_le (sep : List UInt8) : ∀ (k : Nat) (s : List UInt8), ∀ x ∈ Lib.splitK sep 0 k s, x.length ≤ s.length
  | 0, s, x, h => by simp [Lib.splitK] at h; subst h; exact Nat.le_refl _
  | k + 1, s, x, h => by
    unfold Lib.splitK at h
    split at h
    · simp at h; subst h; exact Nat.le_refl _
    · rcases List.mem_cons.1 h with rfl | h
      · rw [List.length_take]; exact Nat.min_le_right _ _
      · have := splitK_le sep k _ x h
        rw [List.length_drop] at this; omega
theorem a_strings_Split (I : World → Prop) (hI : Stab I) (hShp : ∀ w, I w → Shp w) (s sep : List UInt8) {r : List (List UInt8)} (h : g_strings_Split s sep = some r) : AFun Tryz.prog I 81 [.str s, .str sep] (.sl (r.map D.str)) := by
  obtain ⟨⟨h1, h2⟩, h⟩ := ite_on h
  obtain rfl := Option.some.inj h
  have hd : (Lib.splitB ⟨sep.toArray⟩ 0 (Lib.countB ⟨s.toArray⟩ ⟨sep.toArray⟩) ⟨s.toArray⟩).map (·.data.toList) = Lib.split s sep := by
    rw [Lib.splitB_data]; rfl
  have hlen : (Lib.split s sep).length = Lib.countB ⟨s.toArray⟩ ⟨sep.toArray⟩ + 1 := by
    rw [← hd, List.length_map]; exact Lib.splitB_all _ (by simpa [ByteArray.size] using h2) 0 _ _ rfl
  have hcl := Lib.countB_le ⟨sep.toArray⟩ (by simpa [ByteArray.size] using h2) s.length ⟨s.toArray⟩ (by simp [ByteArray.size])
  refine AFun.of_strs (by kernel_rfl) _ 9 (by rw [hlen]; simp [ByteArray.size] at hcl; unfold maxLen; omega) (fun x hx => by have := splitK_le sep _ s x hx; unfold maxLen; omega) ?_
  intro w F args hIw _ hl hr
  match args, hl with
  | [v, u], _ =>
    obtain ⟨rfl, _⟩ := rep_str1 (hr 0 v _ rfl rfl)
    obtain ⟨rfl, _⟩ := rep_str1 (hr 1 u _ rfl rfl)
    obtain ⟨m, hm⟩ := hShp w hIw
    refine (Tryz.strings_Split ⟨s.toArray⟩ ⟨sep.toArray⟩ m w (by simpa [ByteArray.size] using h1) hm (by simpa [ByteArray.size] using h2)).mono ?_
    rintro e w' ⟨rfl, rfl⟩
    refine ⟨by rw [hlen], ?_⟩
    rw [← hd, List.map_map]
    rfl
def g_strconv_ParseInt (s : List UInt8) (b n : Int) : Option (Int × Bool) := if b = 10 ∧ n = 64 ∧ s.length ≤ 281474976710656 then (match Lib.parseIntB 64 s with
  | .ok v => some (v, false)
  | .range => some (Lib.intSat 64 s, true)
  | _ => some (0, true)) else none
theorem parseIntB_range (s : List UInt8) (v : Int) (h : Lib.parseIntB 64 s = .ok v) : -9223372036854775808 ≤ v ∧ v ≤ 9223372036854775807 := by
  unfold Lib.parseIntB at h
  split at h
  · cases h
  · simp only at h
    split at h
    · cases h
    · cases h
    · rename_i u _
      split at h
      · cases h
      · split at h
        · cases h
        · rename_i h1 h2
          injection h with h
          subst h
          split <;> simp_all <;> omega
theorem a_strconv_ParseInt (I : World → Prop) (hI : Stab I) (hPIv : ∀ w, I w → PIv w) (s : List UInt8) (b n : Int) {r : Int × Bool} (h : g_strconv_ParseInt s b n = some r) : AFun Tryz.prog I 146 [.str s, .int .i64 b, .int .i64 n] (.tup [.int .i64 r.1, .err r.2]) := by
  unfold g_strconv_ParseInt at h
  replace h := ite_on h
  obtain ⟨hc, h⟩ := h
  obtain ⟨rfl, rfl, h1⟩ := hc
  refine AFun.of_vals (by kernel_rfl) _ ?_
  intro w F args hIw _ hl hr
  match args, hl with
  | [v, u, x], _ =>
    obtain ⟨rfl, hs⟩ := rep_str1 (hr 0 v _ rfl rfl)
    obtain rfl := rep_int1 (hr 1 u _ rfl rfl)
    obtain rfl := rep_int1 (hr 2 x _ rfl rfl)
    obtain ⟨⟨ts, ps, hs1⟩, ⟨tr, pr, hr1⟩⟩ := hPIv w hIw
    cases hp : Lib.parseIntB 64 s
    · rename_i v
      rw [hp] at h
      obtain rfl := Option.some.inj h
      refine (Tryz.strconv_ParseInt_10_at64_ok ⟨s.toArray⟩ (by simp [ByteArray.size]; omega) v hp w).mono ?_
      rintro e w' ⟨rfl, hw⟩
      refine ⟨_, rfl, ?_, fun F => rep_tup2 (.int _ _ (parseIntB_range s v hp)) .err0⟩
      rcases hw with rfl | ⟨t, rfl⟩
      · exact Below.refl _ _
      · exact ⟨rfl, rfl, rfl, by rw [Lib.bytesWorld_size]; omega, fun j hj => Lib.bytesWorld_at_old _ _ _ j hj⟩
    · rw [hp] at h
      obtain rfl := Option.some.inj h
      refine (Tryz.strconv_ParseInt_10_at64_syntax ⟨s.toArray⟩ (by simpa [ByteArray.size] using h1) hp _ w hs1 (.inr ⟨_, _, rfl⟩)).mono ?_
      rintro e w' ⟨N, rfl, _, _, hb⟩
      exact ⟨_, rfl, hb, fun F => rep_tup2 (.int _ _ (by decide)) (.err1 _ _)⟩
    · rw [hp] at h
      obtain rfl := Option.some.inj h
      refine (Tryz.strconv_ParseInt_10_at64_range ⟨s.toArray⟩ (by simpa [ByteArray.size] using h1) hp _ w hr1 (.inr ⟨_, _, rfl⟩)).mono ?_
      rintro e w' ⟨N, rfl, _, _, hb⟩
      exact ⟨_, rfl, hb, fun F => rep_tup2 (.int _ _ (by show inR _ (Lib.intSat 64 s); unfold Lib.intSat inR; split <;> simp [kLo, kHi])) (.err1 _ _)⟩
end Go.Proofs.YtnjjdbljoligdaaGreatDoor
namespace Go.Proofs.YtnjjdbljoligdaaGreatDoor
open Go.RowKit
set_option maxRecDepth 100000
theorem cut_len (s sep : List UInt8) : (Lib.cut s sep).1.length ≤ s.length ∧ (Lib.cut s sep).2.1.length ≤ s.length := by
  unfold Lib.cut
  split
  · exact ⟨by rw [List.length_take]; omega, by rw [List.length_drop]; omega⟩
  · exact ⟨Nat.le_refl _, Nat.zero_le _⟩
theorem rep_tup3 {w : World} {C : Cx} {u v x : Value} {d e f : D} (h : Rep w C u d) (k : Rep w C v e) (l : Rep w C x f) : Rep w C (.tuple #[u, v, x]) (.tup [d, e, f]) := by
  refine .tup [u, v, x] [d, e, f] rfl fun i x y hx hy => ?_
  match i, hx, hy with
  | 0, hx, hy => simp at hx hy; subst hx hy; exact h
  | 1, hx, hy => simp at hx hy; subst hx hy; exact k
  | 2, hx, hy => simp at hx hy; subst hx hy; exact l
  | (n + 3), hx, hy => simp at hx
theorem below_drewN (w : World) (n : Nat) : Below w.heap.size w (w.drewN n) := ⟨rfl, rfl, rfl, Nat.le_refl _, fun _ _ => rfl⟩
def g_strings_Cut (s sep : List UInt8) : Option (List UInt8 × List UInt8 × Bool) := if s.length < 4294967281 then some (Lib.cut s sep) else none
theorem a_strings_Cut (I : World → Prop) (hI : Stab I) (hShp : ∀ w, I w → Shp w) (s sep : List UInt8) {r : List UInt8 × List UInt8 × Bool} (h : g_strings_Cut s sep = some r) : AFun Tryz.prog I 145 [.str s, .str sep] (.tup [.str r.1, .str r.2.1, .bool r.2.2]) := by
  obtain ⟨hs, h⟩ := ite_on h
  obtain rfl := Option.some.inj h
  refine AFun.of_vals (by kernel_rfl) _ ?_
  intro w F args hIw _ hl hr
  match args, hl with
  | [v, u], _ =>
    obtain ⟨rfl, hs1⟩ := rep_str1 (hr 0 v _ rfl rfl)
    obtain ⟨rfl, _⟩ := rep_str1 (hr 1 u _ rfl rfl)
    obtain ⟨m, hm⟩ := hShp w hIw
    refine (Tryz.strings_Cut ⟨s.toArray⟩ ⟨sep.toArray⟩ m w (by simpa [ByteArray.size] using hs) hm).mono ?_
    rintro e w' ⟨rfl, n, rfl⟩
    have := cut_len s sep
    exact ⟨_, rfl, below_drewN w n, fun F => rep_tup3 (.str _ (by simpa using Nat.le_trans this.1 hs1)) (.str _ (by simpa using Nat.le_trans this.2 hs1)) (.bool _)⟩
end Go.Proofs.YtnjjdbljoligdaaGreatDoor
namespace Go.Proofs.YtnjjdbljoligdaaGreatDoor
open Go.RowKit
set_option maxRecDepth 100000
def U8T (w : World) : Prop := Lib.Utf8Tabs 0 1 w
def g_unicode_utf8_ValidString (s : List UInt8) : Option Bool := some (Lib.validD s)
theorem a_unicode_utf8_ValidString (I : World → Prop) (hI : Stab I) (hU8T : ∀ w, I w → U8T w) (s : List UInt8) {r : Bool} (h : g_unicode_utf8_ValidString s = some r) : AFun Tryz.prog I 55 [.str s] (.bool r) := by
  obtain rfl := Option.some.inj h
  refine AFun.of_calls (v := .bool (Lib.validD s)) (by kernel_rfl) (fun w F => .bool _) ?_
  intro w F args hIw _ hl hr
  match args, hl with
  | [v], _ =>
    obtain ⟨rfl, hm⟩ := rep_str1 (hr 0 v _ rfl rfl)
    exact Tryz.utf8_ValidString ⟨s.toArray⟩ w (by rw [bsize]; unfold maxLen at hm; omega) (hU8T w hIw)
end Go.Proofs.YtnjjdbljoligdaaGreatDoor
namespace Go.Proofs.YtnjjdbljoligdaaGreatDoor
open Go.RowKit
set_option maxRecDepth 100000
set_option maxHeartbeats 10000000
structure T_timebase_rate where
  name_ : List UInt8
  ticks_ : Int
  nominal_ : Int
  drop_ : Bool
  deriving DecidableEq
def T_timebase_rate.d (x : T_timebase_rate) : D := .agg [.str x.name_, .int .i64 x.ticks_, .int .i64 x.nominal_, .bool x.drop_]
structure T_api_Label where
  H : Int
  M : Int
  S : Int
  F : Int
  Drop : Bool
  deriving DecidableEq
def T_api_Label.d (x : T_api_Label) : D := .agg [.int .i64 x.H, .int .i64 x.M, .int .i64 x.S, .int .i64 x.F, .bool x.Drop]
structure T_api_Ratio where
  Num : Int
  Den : Int
  deriving DecidableEq
def T_api_Ratio.d (x : T_api_Ratio) : D := .agg [.int .i64 x.Num, .int .i64 x.Den]
theorem dd_EB : (∀ x, T_timebase_rate.d x = .agg [.str x.name_, .int .i64 x.ticks_, .int .i64 x.nominal_, .bool x.drop_]) ∧ (∀ x, T_api_Label.d x = .agg [.int .i64 x.H, .int .i64 x.M, .int .i64 x.S, .int .i64 x.F, .bool x.Drop]) ∧ (∀ x, T_api_Ratio.d x = .agg [.int .i64 x.Num, .int .i64 x.Den]) := ⟨fun _ => rfl, fun _ => rfl, fun _ => rfl⟩
def g_timebase_Rates  : Option ((List Int)) :=
  (some [1, 2, 3, 4, 5, 6, 7])
theorem a_timebase_Rates {I : World → Prop} (hI : Stab I)  {r : (List Int)} (h : g_timebase_Rates  = some r) : AFun Tryz.prog I 140 [] (.sl (r.map (D.int .u8))) := by
  have dd := dd_EB; have k := True.intro; have q := k; have rs := Tryz.results140
  unfold g_timebase_Rates at h
  refine .en hI Tryz.func140 Tryz.ntmps140 ?_
  refine xs <| rz ?_
  refine es <| xs <| rz ?_
  refine es <| xr ?_
  cases h
  exact en fr
def g_timebase_of (r_0 : Int) : Option (T_timebase_rate) :=
  (if (decide (8 ≤ (IntKind.i64.wrap r_0))) then (some (T_timebase_rate.mk [] 0 0 false)) else (if r_0 == 0 then (some (T_timebase_rate.mk [] 0 0 false)) else (if r_0 == 1 then (some (T_timebase_rate.mk [50, 51, 46, 57, 55, 54] 5005 24 false)) else (if r_0 == 2 then (some (T_timebase_rate.mk [50, 52] 5000 24 false)) else (if r_0 == 3 then (some (T_timebase_rate.mk [50, 53] 4800 25 false)) else (if r_0 == 4 then (some (T_timebase_rate.mk [50, 57, 46, 57, 55] 4004 30 true)) else (if r_0 == 5 then (some (T_timebase_rate.mk [51, 48] 4000 30 false)) else (if r_0 == 6 then (some (T_timebase_rate.mk [53, 48] 2400 50 false)) else (if r_0 == 7 then (some (T_timebase_rate.mk [53, 57, 46, 57, 52] 2002 60 true)) else none)))))))))
theorem a_timebase_of {I : World → Prop} (hI : Stab I) {r_0 : Int} {r : T_timebase_rate} (h : g_timebase_of r_0 = some r) : AFun Tryz.prog I 57 [.int .u8 r_0] (T_timebase_rate.d r) := by
  have dd := dd_EB; have k := True.intro; have q := k; have rs := Tryz.results57
  unfold g_timebase_of at h
  refine .en hI Tryz.func57 Tryz.ntmps57 ?_
  refine xs <| rz ?_
  refine es <| xs <| rz ?_
  refine es <| xs <| xs <| rz ?_
  refine es ?_
  rcases iK k h with ⟨k, h⟩ | ⟨k, h⟩
  · refine xt <| xs <| rz ?_
    refine es <| xr <| er ?_
    cases h
    exact en fr
  · refine xf <| xk <| es <| xs <| rK fun K19 RK19 hK19 gK19 => zz ?_
    rcases ite_or h with ⟨k20, h⟩ | ⟨_, h⟩
    · have k := And.intro (eq_of_beq k20) k
      refine zz ?_
      subst hK19 gK19
      refine es <| xr ?_
      cases h
      exact en fr
    · rcases ite_or h with ⟨k21, h⟩ | ⟨_, h⟩
      · have k := And.intro (eq_of_beq k21) k
        refine zz ?_
        subst hK19 gK19
        refine es <| xr ?_
        cases h
        exact en fr
      · rcases ite_or h with ⟨k22, h⟩ | ⟨_, h⟩
        · have k := And.intro (eq_of_beq k22) k
          refine zz ?_
          subst hK19 gK19
          refine es <| xr ?_
          cases h
          exact en fr
        · rcases ite_or h with ⟨k23, h⟩ | ⟨_, h⟩
          · have k := And.intro (eq_of_beq k23) k
            refine zz ?_
            subst hK19 gK19
            refine es <| xr ?_
            cases h
            exact en fr
          · rcases ite_or h with ⟨k24, h⟩ | ⟨_, h⟩
            · have k := And.intro (eq_of_beq k24) k
              refine zz ?_
              subst hK19 gK19
              refine es <| xr ?_
              cases h
              exact en fr
            · rcases ite_or h with ⟨k25, h⟩ | ⟨_, h⟩
              · have k := And.intro (eq_of_beq k25) k
                refine zz ?_
                subst hK19 gK19
                refine es <| xr ?_
                cases h
                exact en fr
              · rcases ite_or h with ⟨k26, h⟩ | ⟨_, h⟩
                · have k := And.intro (eq_of_beq k26) k
                  refine zz ?_
                  subst hK19 gK19
                  refine es <| xr ?_
                  cases h
                  exact en fr
                · rcases ite_or h with ⟨k27, h⟩ | ⟨_, h⟩
                  · have k := And.intro (eq_of_beq k27) k
                    refine zz ?_
                    subst hK19 gK19
                    refine es <| xr ?_
                    cases h
                    exact en fr
                  · cases h
def g_timebase_Name (r_0 : Int) : Option ((List UInt8)) :=
  ((g_timebase_of r_0).bind fun r7 => (some r7.name_))
theorem a_timebase_Name {I : World → Prop} (hI : Stab I) {r_0 : Int} {r : (List UInt8)} (h : g_timebase_Name r_0 = some r) : AFun Tryz.prog I 38 [.int .u8 r_0] (.str r) := by
  have dd := dd_EB; have k := True.intro; have q := k; have rs := Tryz.results38
  unfold g_timebase_Name at h
  refine .en hI Tryz.func38 Tryz.ntmps38 ?_
  refine xs <| rz ?_
  refine es <| xs <| rK fun K6 RK6 hK6 gK6 => zz ?_
  obtain ⟨r7, h8, h⟩ := bs h
  refine cw (a_timebase_of hI h8) <| zz ?_
  subst hK6 gK6
  refine es <| xr ?_
  cases h
  exact en fr
def g_timebase_Parse_s1 (s_0 : List UInt8) (r7 : (List Int)) (x9 : Int) : Option (Nx (Int) (Int ⊕ Unit)) :=
  (if (decide (x9 < (r7.length : Int))) then ((atI r7 x9).bind fun y69 => ((g_timebase_Name y69).bind fun r75 => (if (r75 == s_0) then (some (.out (.inl y69))) else (some (.go (IntKind.i64.wrap (x9 + 1))))))) else (some (.out (.inr ()))))
def g_timebase_Parse (s_0 : List UInt8) : Option (Int × Int) :=
  ((g_timebase_Rates).bind fun r7 => ((iter (g_timebase_Parse_s1 s_0 r7) 0).bind fun e10 => (match e10 with | Sum.inl e10 => (some (e10, 0)) | Sum.inr (e10) => (some (0, 4)))))
theorem a_timebase_Parse {I : World → Prop} (hI : Stab I) {s_0 : List UInt8} {r : Int × Int} (h : g_timebase_Parse s_0 = some r) : AFun Tryz.prog I 86 [.str s_0] (.tup [.int .u8 r.1, .int .i64 r.2]) := by
  have dd := dd_EB; have k := True.intro; have q := k; have rs := Tryz.results86
  unfold g_timebase_Parse at h
  refine .en hI Tryz.func86 Tryz.ntmps86 ?_
  refine xs <| rz ?_
  refine es <| xs <| xs <| rK fun K6 RK6 hK6 gK6 => zz ?_
  obtain ⟨r7, h8, h⟩ := bs h
  refine cw (a_timebase_Rates hI h8) <| zz ?_
  subst hK6 gK6
  refine es <| xb ?_
  obtain ⟨e10, h81, h⟩ := bs h
  refine rb_loop (fun x9 => ⟨envL [(0, .str s_0), (6, .sl (r7.map (D.int .u8))), (7, .int .i64 (r7.length : Int)), (8, .int .i64 x9)], heapL [], 0, 18⟩) (fun w => match w with | Sum.inl _ => .ret | Sum.inr (_) => .exit 0) (fun w => match w with | Sum.inl e10 => ⟨envL [(2, .int .u8 e10), (3, .int .i64 0)], heapL [], 0, 18⟩ | Sum.inr (e10) => ⟨envL [], heapL [], 0, 18⟩) h81 (wk []) (by intro w; rcases w with w | w <;> simp) ?_ ?_
  · clear h
    intro x9 y h
    unfold g_timebase_Parse_s1 at h
    refine xs <| rz ?_
    refine es <| xs ?_
    rcases iK k h with ⟨k, h⟩ | ⟨k, h⟩
    · refine xt <| xk <| es <| xs <| xb <| xs <| rK fun K68 RK68 hK68 gK68 => zz ?_
      obtain ⟨y69, q, h⟩ := bK q h
      refine zz ?_
      subst hK68 gK68
      refine es <| xs <| rK fun K74 RK74 hK74 gK74 => zz ?_
      obtain ⟨r75, h76, h⟩ := bs h
      refine cw (a_timebase_Name hI h76) <| zz ?_
      subst hK74 gK74
      refine es ?_
      rcases iK k h with ⟨k, h⟩ | ⟨k, h⟩
      · refine xt <| xs <| rz ?_
        refine es <| xr <| br <| er ?_
        cases h
        exact en ⟨rfl, wk []⟩
      · refine xf <| xk <| bn <| es <| rz ?_
        cases h
        exact en ⟨rfl, wk []⟩
    · refine xf <| xx <| ee ?_
      cases h
      exact en ⟨rfl, wk []⟩
  · rcases e10 with e10 | e10
    · try dsimp only at h ⊢
      refine br <| er ?_
      cases h
      exact en fr
    · try dsimp only at h ⊢
      refine bh <| es <| xs <| rz ?_
      refine es <| xr ?_
      cases h
      exact en fr
def g_timebase_CanDrop (r_0 : Int) : Option (Bool) :=
  ((g_timebase_of r_0).bind fun r7 => (some r7.drop_))
theorem a_timebase_CanDrop {I : World → Prop} (hI : Stab I) {r_0 : Int} {r : Bool} (h : g_timebase_CanDrop r_0 = some r) : AFun Tryz.prog I 28 [.int .u8 r_0] (.bool r) := by
  have dd := dd_EB; have k := True.intro; have q := k; have rs := Tryz.results28
  unfold g_timebase_CanDrop at h
  refine .en hI Tryz.func28 Tryz.ntmps28 ?_
  refine xs <| rz ?_
  refine es <| xs <| rK fun K6 RK6 hK6 gK6 => zz ?_
  obtain ⟨r7, h8, h⟩ := bs h
  refine cw (a_timebase_of hI h8) <| zz ?_
  subst hK6 gK6
  refine es <| xr ?_
  cases h
  exact en fr
def g_timebase_Valid (r_0 : Int) : Option (Bool) :=
  ((g_timebase_of r_0).bind fun r7 => (some (decide (0 < r7.ticks_))))
theorem a_timebase_Valid {I : World → Prop} (hI : Stab I) {r_0 : Int} {r : Bool} (h : g_timebase_Valid r_0 = some r) : AFun Tryz.prog I 27 [.int .u8 r_0] (.bool r) := by
  have dd := dd_EB; have k := True.intro; have q := k; have rs := Tryz.results27
  unfold g_timebase_Valid at h
  refine .en hI Tryz.func27 Tryz.ntmps27 ?_
  refine xs <| rz ?_
  refine es <| xs <| rK fun K6 RK6 hK6 gK6 => zz ?_
  obtain ⟨r7, h8, h⟩ := bs h
  refine cw (a_timebase_of hI h8) <| zz ?_
  subst hK6 gK6
  refine es <| xr ?_
  cases h
  exact en fr
def g_timebase_Nominal (r_0 : Int) : Option (Int) :=
  ((g_timebase_of r_0).bind fun r7 => (some r7.nominal_))
theorem a_timebase_Nominal {I : World → Prop} (hI : Stab I) {r_0 : Int} {r : Int} (h : g_timebase_Nominal r_0 = some r) : AFun Tryz.prog I 59 [.int .u8 r_0] (.int .i64 r) := by
  have dd := dd_EB; have k := True.intro; have q := k; have rs := Tryz.results59
  unfold g_timebase_Nominal at h
  refine .en hI Tryz.func59 Tryz.ntmps59 ?_
  refine xs <| rz ?_
  refine es <| xs <| rK fun K6 RK6 hK6 gK6 => zz ?_
  obtain ⟨r7, h8, h⟩ := bs h
  refine cw (a_timebase_of hI h8) <| zz ?_
  subst hK6 gK6
  refine es <| xr ?_
  cases h
  exact en fr
def g_timecode_rateError (r_0 : Int) (drop_1 : Bool) : Option (Int) :=
  ((g_timebase_Valid r_0).bind fun r27 => (if r27 then (if drop_1 then ((g_timebase_CanDrop r_0).bind fun r36 => (if r36 then (some 0) else (some 13))) else (some 0)) else (some 3)))
theorem a_timecode_rateError {I : World → Prop} (hI : Stab I) {r_0 : Int} {drop_1 : Bool} {r : Int} (h : g_timecode_rateError r_0 drop_1 = some r) : AFun Tryz.prog I 58 [.int .u8 r_0, .bool drop_1] (.int .i64 r) := by
  have dd := dd_EB; have k := True.intro; have q := k; have rs := Tryz.results58
  unfold g_timecode_rateError at h
  refine .en hI Tryz.func58 Tryz.ntmps58 ?_
  refine xs <| rz ?_
  refine es <| xs <| xb <| xs <| rK fun K26 RK26 hK26 gK26 => zz ?_
  obtain ⟨r27, h28, h⟩ := bs h
  refine cw (a_timebase_Valid hI h28) <| zz ?_
  subst hK26 gK26
  refine es ?_
  rcases iK k h with ⟨k, h⟩ | ⟨k, h⟩
  · refine xf <| xs <| rK fun K34 RK34 hK34 gK34 => zz ?_
    rcases iK k h with ⟨k, h⟩ | ⟨k, h⟩
    · refine zz ?_
      obtain ⟨r36, h37, h⟩ := bs h
      refine cw (a_timebase_CanDrop hI h37) <| zz ?_
      subst hK34 gK34
      refine es ?_
      rcases iK k h with ⟨k, h⟩ | ⟨k, h⟩
      · refine xf <| xk <| bn <| es <| xs <| rz ?_
        refine es <| xr ?_
        cases h
        exact en fr
      · refine xt <| xs <| rz ?_
        refine es <| xr <| br <| er ?_
        cases h
        exact en fr
    · refine zz ?_
      subst hK34 gK34
      refine es <| xf <| xk <| bn <| es <| xs <| rz ?_
      refine es <| xr ?_
      cases h
      exact en fr
  · refine xt <| xs <| rz ?_
    refine es <| xr <| br <| er ?_
    cases h
    exact en fr
def g_timecode_dropped (r_0 : Int) (drop_1 : Bool) : Option (Int) :=
  (if drop_1 then (if (r_0 == 7) then (some 4) else (some 2)) else (some 0))
theorem a_timecode_dropped {I : World → Prop} (hI : Stab I) {r_0 : Int} {drop_1 : Bool} {r : Int} (h : g_timecode_dropped r_0 drop_1 = some r) : AFun Tryz.prog I 60 [.int .u8 r_0, .bool drop_1] (.int .i64 r) := by
  have dd := dd_EB; have k := True.intro; have q := k; have rs := Tryz.results60
  unfold g_timecode_dropped at h
  refine .en hI Tryz.func60 Tryz.ntmps60 ?_
  refine xs <| rz ?_
  refine es <| xs <| xb <| xs <| rz ?_
  refine es ?_
  rcases iK k h with ⟨k, h⟩ | ⟨k, h⟩
  · refine xf <| xs <| rz ?_
    refine es ?_
    rcases iK k h with ⟨k, h⟩ | ⟨k, h⟩
    · refine xt <| xs <| rz ?_
      refine es <| xr <| br <| er ?_
      cases h
      exact en fr
    · refine xf <| xk <| bn <| es <| xs <| rz ?_
      refine es <| xr ?_
      cases h
      exact en fr
  · refine xt <| xs <| rz ?_
    refine es <| xr <| br <| er ?_
    cases h
    exact en fr
def g_timecode_Check (r_0 : Int) (l_1 : T_api_Label) : Option (Int) :=
  ((g_timecode_rateError r_0 l_1.Drop).bind fun r7 => (if (r7 != 0) then (some r7) else (((if (decide (l_1.H < 0)) then (some true) else (if (decide (23 < l_1.H)) then (some true) else (if (decide (l_1.M < 0)) then (some true) else (if (decide (59 < l_1.M)) then (some true) else (if (decide (l_1.S < 0)) then (some true) else (if (decide (59 < l_1.S)) then (some true) else (if (decide (l_1.F < 0)) then (some true) else ((g_timebase_Nominal r_0).bind fun r33 => (some (decide (r33 ≤ l_1.F))))))))))) : Option (Bool)).bind fun v24 => (if v24 then (some 2) else (if (l_1.S == 0) then (if ((Int.tmod l_1.M 10) != 0) then ((g_timecode_dropped r_0 l_1.Drop).bind fun r47 => (if (decide (l_1.F < r47)) then (some 6) else (some 0))) else (some 0)) else (some 0))))))
theorem a_timecode_Check {I : World → Prop} (hI : Stab I) {r_0 : Int} {l_1 : T_api_Label} {r : Int} (h : g_timecode_Check r_0 l_1 = some r) : AFun Tryz.prog I 130 [.int .u8 r_0, T_api_Label.d l_1] (.int .i64 r) := by
  have dd := dd_EB; have k := True.intro; have q := k; have rs := Tryz.results130
  unfold g_timecode_Check at h
  refine .en hI Tryz.func130 Tryz.ntmps130 ?_
  refine xs <| rz ?_
  refine es <| xs <| xs <| rK fun K6 RK6 hK6 gK6 => zz ?_
  obtain ⟨r7, h8, h⟩ := bs h
  refine cw (a_timecode_rateError hI h8) <| zz ?_
  subst hK6 gK6
  refine es <| xs <| rz ?_
  refine es ?_
  rcases iK k h with ⟨k, h⟩ | ⟨k, h⟩
  · refine xt <| xs <| rz ?_
    refine es <| xr <| er ?_
    cases h
    exact en fr
  · refine xf <| xk <| es <| xs ?_
    obtain ⟨v24, h35, h⟩ := bs h
    refine rb_cut (fun v24 => ⟨envL [(0, .int .u8 r_0), (3, .ptr 0 0), (52, .bool v24)], heapL [(0, .box none [.int .i64 l_1.H, .int .i64 l_1.M, .int .i64 l_1.S, .int .i64 l_1.F, .bool l_1.Drop])], 1, 71⟩) h35 ?_ ?_
    · clear h
      intro v24 h
      refine rD hI fun K25 RK25 hK25 gK25 => zz ?_
      rcases iK k h with ⟨k, h⟩ | ⟨k, h⟩
      · refine zz ?_
        subst hK25 gK25
        cases h
        exact en ⟨rfl, wk []⟩
      · refine zz ?_
        rcases iK k h with ⟨k, h⟩ | ⟨k, h⟩
        · refine zz ?_
          subst hK25 gK25
          cases h
          exact en ⟨rfl, wk []⟩
        · refine zz ?_
          rcases iK k h with ⟨k, h⟩ | ⟨k, h⟩
          · refine zz ?_
            subst hK25 gK25
            cases h
            exact en ⟨rfl, wk []⟩
          · refine zz ?_
            rcases iK k h with ⟨k, h⟩ | ⟨k, h⟩
            · refine zz ?_
              subst hK25 gK25
              cases h
              exact en ⟨rfl, wk []⟩
            · refine zz ?_
              rcases iK k h with ⟨k, h⟩ | ⟨k, h⟩
              · refine zz ?_
                subst hK25 gK25
                cases h
                exact en ⟨rfl, wk []⟩
              · refine zz ?_
                rcases iK k h with ⟨k, h⟩ | ⟨k, h⟩
                · refine zz ?_
                  subst hK25 gK25
                  cases h
                  exact en ⟨rfl, wk []⟩
                · refine zz ?_
                  rcases iK k h with ⟨k, h⟩ | ⟨k, h⟩
                  · refine zz ?_
                    subst hK25 gK25
                    cases h
                    exact en ⟨rfl, wk []⟩
                  · refine zz ?_
                    obtain ⟨r33, h34, h⟩ := bs h
                    refine cd (a_timebase_Nominal hI h34) <| zz ?_
                    subst hK25 gK25
                    cases h
                    exact en ⟨rfl, wk []⟩
    · rcases iK k h with ⟨k, h⟩ | ⟨k, h⟩
      · refine xt <| xs <| rz ?_
        refine es <| xr <| er ?_
        cases h
        exact en fr
      · refine xf <| xk <| es <| xs <| xs <| rD hI fun K44 RK44 hK44 gK44 => zz ?_
        rcases iK k h with ⟨k, h⟩ | ⟨k, h⟩
        · refine zz ?_
          rcases iK k h with ⟨k, h⟩ | ⟨k, h⟩
          · refine zz ?_
            obtain ⟨r47, h48, h⟩ := bs h
            refine cd (a_timecode_dropped hI h48) <| zz ?_
            subst hK44 gK44
            refine es ?_
            rcases iK k h with ⟨k, h⟩ | ⟨k, h⟩
            · refine xt <| xs <| rz ?_
              refine es <| xr <| er ?_
              cases h
              exact en fr
            · refine xf <| xk <| es <| xs <| rz ?_
              refine es <| xr ?_
              cases h
              exact en fr
          · refine zz ?_
            subst hK44 gK44
            refine es <| xf <| xk <| es <| xs <| rz ?_
            refine es <| xr ?_
            cases h
            exact en fr
        · refine zz ?_
          subst hK44 gK44
          refine es <| xf <| xk <| es <| xs <| rz ?_
          refine es <| xr ?_
          cases h
          exact en fr
def g_timecode_Parse_s1 (s_1 : List UInt8) (x41 : Int × Int × Int × Int × Int) : Option (Nx (Int × Int × Int × Int × Int) (Unit ⊕ (Int × Int × Int × Int))) :=
  (if (decide (x41.1 < 4)) then ((atI s_1 (IntKind.i64.wrap (3 * x41.1))).bind fun b221 => ((atI s_1 (IntKind.i64.wrap ((IntKind.i64.wrap (3 * x41.1)) + 1))).bind fun b223 => (((if (decide ((b221.toNat : Int) < 48)) then (some true) else (if (decide (57 < (b221.toNat : Int))) then (some true) else (if (decide ((b223.toNat : Int) < 48)) then (some true) else (some (decide (57 < (b223.toNat : Int))))))) : Option (Bool)).bind fun v229 => (if v229 then (some (.out (.inl ()))) else (if x41.1 == 0 then (some (.go ((IntKind.i64.wrap (x41.1 + 1)), (IntKind.i64.wrap ((IntKind.i64.wrap (10 * (IntKind.i64.wrap (IntKind.u8.wrap ((b221.toNat : Int) - 48))))) + (IntKind.i64.wrap (IntKind.u8.wrap ((b223.toNat : Int) - 48))))), x41.2.2.1, x41.2.2.2.1, x41.2.2.2.2))) else (if x41.1 == 1 then (some (.go ((IntKind.i64.wrap (x41.1 + 1)), x41.2.1, (IntKind.i64.wrap ((IntKind.i64.wrap (10 * (IntKind.i64.wrap (IntKind.u8.wrap ((b221.toNat : Int) - 48))))) + (IntKind.i64.wrap (IntKind.u8.wrap ((b223.toNat : Int) - 48))))), x41.2.2.2.1, x41.2.2.2.2))) else (if x41.1 == 2 then (some (.go ((IntKind.i64.wrap (x41.1 + 1)), x41.2.1, x41.2.2.1, (IntKind.i64.wrap ((IntKind.i64.wrap (10 * (IntKind.i64.wrap (IntKind.u8.wrap ((b221.toNat : Int) - 48))))) + (IntKind.i64.wrap (IntKind.u8.wrap ((b223.toNat : Int) - 48))))), x41.2.2.2.2))) else (if x41.1 == 3 then (some (.go ((IntKind.i64.wrap (x41.1 + 1)), x41.2.1, x41.2.2.1, x41.2.2.2.1, (IntKind.i64.wrap ((IntKind.i64.wrap (10 * (IntKind.i64.wrap (IntKind.u8.wrap ((b221.toNat : Int) - 48))))) + (IntKind.i64.wrap (IntKind.u8.wrap ((b223.toNat : Int) - 48)))))))) else none)))))))) else (some (.out (.inr (x41.2.1, x41.2.2.1, x41.2.2.2.1, x41.2.2.2.2)))))
def g_timecode_Parse (r_0 : Int) (s_1 : List UInt8) : Option (T_api_Label × Int) :=
  ((g_timebase_Valid r_0).bind fun r7 => (if r7 then (((if ((s_1.length : Int) != 11) then (some true) else ((atI s_1 2).bind fun b24 => (if ((b24.toNat : Int) != 58) then (some true) else ((atI s_1 5).bind fun b27 => (if ((b27.toNat : Int) != 58) then (some true) else ((atI s_1 8).bind fun b30 => (if ((b30.toNat : Int) != 58) then (some ((b30.toNat : Int) != 59)) else (some false)))))))) : Option (Bool)).bind fun v21 => (if v21 then (some ((T_api_Label.mk 0 0 0 0 false), 4)) else ((iter (g_timecode_Parse_s1 s_1) (0, 0, 0, 0, 0)).bind fun e42 => (match e42 with | Sum.inl e42 => (some ((T_api_Label.mk 0 0 0 0 false), 4)) | Sum.inr (e42) => ((atI s_1 8).bind fun b252 => ((g_timecode_Check r_0 (T_api_Label.mk e42.1 e42.2.1 e42.2.2.1 e42.2.2.2 ((b252.toNat : Int) == 59))).bind fun r258 => (if (r258 != 0) then (some ((T_api_Label.mk 0 0 0 0 false), r258)) else (some ((T_api_Label.mk e42.1 e42.2.1 e42.2.2.1 e42.2.2.2 ((b252.toNat : Int) == 59)), 0))))))))) else (some ((T_api_Label.mk 0 0 0 0 false), 3))))
theorem a_timecode_Parse {I : World → Prop} (hI : Stab I) {r_0 : Int} {s_1 : List UInt8} {r : T_api_Label × Int} (h : g_timecode_Parse r_0 s_1 = some r) : AFun Tryz.prog I 142 [.int .u8 r_0, .str s_1] (.tup [T_api_Label.d r.1, .int .i64 r.2]) := by
  have dd := dd_EB; have k := True.intro; have q := k; have rs := Tryz.results142
  unfold g_timecode_Parse at h
  refine .en hI Tryz.func142 Tryz.ntmps142 ?_
  refine xs <| rz ?_
  refine es <| xs <| xs <| rK fun K6 RK6 hK6 gK6 => zz ?_
  obtain ⟨r7, h8, h⟩ := bs h
  refine cw (a_timebase_Valid hI h8) <| zz ?_
  subst hK6 gK6
  refine es ?_
  rcases iK k h with ⟨k, h⟩ | ⟨k, h⟩
  · refine xf <| xk <| es <| xs ?_
    obtain ⟨v21, h33, h⟩ := bs h
    refine rb_cut (fun v21 => ⟨envL [(0, .int .u8 r_0), (1, .str s_1), (4, .ptr 0 0), (38, .bool v21)], heapL [(0, .box none [.int .i64 0, .int .i64 0, .int .i64 0, .int .i64 0, .bool false])], 1, 98⟩) h33 ?_ ?_
    · clear h
      intro v21 h
      refine rK fun K22 RK22 hK22 gK22 => zz ?_
      rcases iK k h with ⟨k, h⟩ | ⟨k, h⟩
      · refine zz ?_
        subst hK22 gK22
        cases h
        exact en ⟨rfl, wk []⟩
      · refine zz ?_
        obtain ⟨b24, q, h⟩ := bK q h
        refine zz ?_
        rcases iK k h with ⟨k, h⟩ | ⟨k, h⟩
        · refine zz ?_
          subst hK22 gK22
          cases h
          exact en ⟨rfl, wk []⟩
        · refine zz ?_
          obtain ⟨b27, q, h⟩ := bK q h
          refine zz ?_
          rcases iK k h with ⟨k, h⟩ | ⟨k, h⟩
          · refine zz ?_
            subst hK22 gK22
            cases h
            exact en ⟨rfl, wk []⟩
          · refine zz ?_
            obtain ⟨b30, q, h⟩ := bK q h
            refine zz ?_
            rcases iK k h with ⟨k, h⟩ | ⟨k, h⟩
            · refine zz ?_
              subst hK22 gK22
              cases h
              exact en ⟨rfl, wk []⟩
            · refine zz ?_
              subst hK22 gK22
              cases h
              exact en ⟨rfl, wk []⟩
    · rcases iK k h with ⟨k, h⟩ | ⟨k, h⟩
      · refine xt <| xs <| rz ?_
        refine es <| xr <| er ?_
        cases h
        exact en fr
      · refine xf <| xk <| es <| xs <| rz ?_
        refine es <| xs <| xs <| rz ?_
        refine es <| xb ?_
        obtain ⟨e42, h247, h⟩ := bs h
        refine rb_loop (fun x41 => ⟨envL [(0, .int .u8 r_0), (1, .str s_1), (4, .ptr 0 0), (6, .ptr 1 0), (40, .int .i64 x41.1)], heapL [(0, .box none [.int .i64 0, .int .i64 0, .int .i64 0, .int .i64 0, .bool false]), (1, .box none [.int .i64 x41.2.1, .int .i64 x41.2.2.1, .int .i64 x41.2.2.2.1, .int .i64 x41.2.2.2.2])], 2, 98⟩) (fun w => match w with | Sum.inl _ => .ret | Sum.inr (_) => .exit 0) (fun w => match w with | Sum.inl e42 => ⟨envL [(4, .ptr 0 0), (5, .int .i64 4)], heapL [(0, .box none [.int .i64 0, .int .i64 0, .int .i64 0, .int .i64 0, .bool false])], 1, 98⟩ | Sum.inr (e42) => ⟨envL [(0, .int .u8 r_0), (1, .str s_1), (4, .ptr 0 0), (6, .ptr 1 0)], heapL [(0, .box none [.int .i64 0, .int .i64 0, .int .i64 0, .int .i64 0, .bool false]), (1, .box none [.int .i64 e42.1, .int .i64 e42.2.1, .int .i64 e42.2.2.1, .int .i64 e42.2.2.2])], 2, 98⟩) h247 (wk []) (by intro w; rcases w with w | w <;> simp) ?_ ?_
        · clear h
          intro x41 y h
          unfold g_timecode_Parse_s1 at h
          refine xs <| rz ?_
          refine es <| xs ?_
          rcases iK k h with ⟨k, h⟩ | ⟨k, h⟩
          · refine xt <| xk <| es <| xs <| xb <| xs <| rz ?_
            refine es <| xs <| rD hI fun K220 RK220 hK220 gK220 => zz ?_
            obtain ⟨b221, q, h⟩ := bK q h
            refine zz ?_
            obtain ⟨b223, q, h⟩ := bK q h
            refine zz ?_
            subst hK220 gK220
            refine es <| xs ?_
            obtain ⟨v229, h234, h⟩ := bs h
            refine rb_cut (fun v229 => ⟨envL [(0, .int .u8 r_0), (1, .str s_1), (4, .ptr 0 0), (6, .ptr 1 0), (7, .int .i64 x41.1), (8, .int .u8 (b221.toNat : Int)), (9, .int .u8 (b223.toNat : Int)), (40, .int .i64 x41.1), (65, .bool v229)], heapL [(0, .box none [.int .i64 0, .int .i64 0, .int .i64 0, .int .i64 0, .bool false]), (1, .box none [.int .i64 x41.2.1, .int .i64 x41.2.2.1, .int .i64 x41.2.2.2.1, .int .i64 x41.2.2.2.2])], 2, 98⟩) h234 ?_ ?_
            · clear h
              intro v229 h
              refine rK fun K230 RK230 hK230 gK230 => zz ?_
              rcases iK k h with ⟨k, h⟩ | ⟨k, h⟩
              · refine zz ?_
                subst hK230 gK230
                cases h
                exact en ⟨rfl, wk []⟩
              · refine zz ?_
                rcases iK k h with ⟨k, h⟩ | ⟨k, h⟩
                · refine zz ?_
                  subst hK230 gK230
                  cases h
                  exact en ⟨rfl, wk []⟩
                · refine zz ?_
                  rcases iK k h with ⟨k, h⟩ | ⟨k, h⟩
                  · refine zz ?_
                    subst hK230 gK230
                    cases h
                    exact en ⟨rfl, wk []⟩
                  · refine zz ?_
                    subst hK230 gK230
                    cases h
                    exact en ⟨rfl, wk []⟩
            · rcases iK k h with ⟨k, h⟩ | ⟨k, h⟩
              · refine xt <| xs <| rz ?_
                refine es <| xr <| er <| br <| er ?_
                cases h
                exact en ⟨rfl, wk []⟩
              · refine xf <| xk <| es <| rK fun K238 RK238 hK238 gK238 => zz ?_
                rcases ite_or h with ⟨k239, h⟩ | ⟨_, h⟩
                · have k := And.intro (eq_of_beq k239) k
                  refine zz ?_
                  subst hK238 gK238
                  refine bn <| es <| rz ?_
                  cases h
                  exact en ⟨rfl, wk []⟩
                · rcases ite_or h with ⟨k241, h⟩ | ⟨_, h⟩
                  · have k := And.intro (eq_of_beq k241) k
                    refine zz ?_
                    subst hK238 gK238
                    refine bn <| es <| rz ?_
                    cases h
                    exact en ⟨rfl, wk []⟩
                  · rcases ite_or h with ⟨k243, h⟩ | ⟨_, h⟩
                    · have k := And.intro (eq_of_beq k243) k
                      refine zz ?_
                      subst hK238 gK238
                      refine bn <| es <| rz ?_
                      cases h
                      exact en ⟨rfl, wk []⟩
                    · rcases ite_or h with ⟨k245, h⟩ | ⟨_, h⟩
                      · have k := And.intro (eq_of_beq k245) k
                        refine zz ?_
                        subst hK238 gK238
                        refine bn <| es <| rz ?_
                        cases h
                        exact en ⟨rfl, wk []⟩
                      · cases h
          · refine xf <| xx <| ee ?_
            cases h
            exact en ⟨rfl, wk []⟩
        · rcases e42 with e42 | e42
          · try dsimp only at h ⊢
            refine br <| er ?_
            cases h
            exact en fr
          · try dsimp only at h ⊢
            refine bh <| es <| xs <| rD hI fun K251 RK251 hK251 gK251 => zz ?_
            obtain ⟨b252, q, h⟩ := bK q h
            refine zz ?_
            refine hd <| zz ?_
            subst hK251 gK251
            refine es <| xs <| xs <| rK fun K257 RK257 hK257 gK257 => zz ?_
            obtain ⟨r258, h259, h⟩ := bs h
            refine cw (a_timecode_Check hI h259) <| zz ?_
            subst hK257 gK257
            refine es <| xs <| rz ?_
            refine es ?_
            rcases iK k h with ⟨k, h⟩ | ⟨k, h⟩
            · refine xt <| xs <| rz ?_
              refine es <| xr <| er ?_
              cases h
              exact en fr
            · refine xf <| xk <| es <| xs <| rz ?_
              refine es <| xr ?_
              cases h
              exact en fr
  · refine xt <| xs <| rz ?_
    refine es <| xr <| er ?_
    cases h
    exact en fr
def g_timecode_Frame (r_0 : Int) (l_1 : T_api_Label) : Option (Int × Int) :=
  ((g_timecode_Check r_0 l_1).bind fun r7 => (if (r7 != 0) then (some (0, r7)) else ((g_timebase_Nominal r_0).bind fun r20 => ((g_timecode_dropped r_0 l_1.Drop).bind fun r26 => (some ((IntKind.i64.wrap ((IntKind.i64.wrap ((IntKind.i64.wrap ((IntKind.i64.wrap ((IntKind.i64.wrap ((IntKind.i64.wrap ((IntKind.i64.wrap (l_1.H * 60)) + l_1.M)) * 60)) + l_1.S)) * r20)) + l_1.F)) - (IntKind.i64.wrap (r26 * (IntKind.i64.wrap ((IntKind.i64.wrap ((IntKind.i64.wrap (l_1.H * 60)) + l_1.M)) - (IntKind.i64.wrap (Int.tdiv (IntKind.i64.wrap ((IntKind.i64.wrap (l_1.H * 60)) + l_1.M)) 10)))))))), 0))))))
theorem a_timecode_Frame {I : World → Prop} (hI : Stab I) {r_0 : Int} {l_1 : T_api_Label} {r : Int × Int} (h : g_timecode_Frame r_0 l_1 = some r) : AFun Tryz.prog I 143 [.int .u8 r_0, T_api_Label.d l_1] (.tup [.int .i64 r.1, .int .i64 r.2]) := by
  have dd := dd_EB; have k := True.intro; have q := k; have rs := Tryz.results143
  unfold g_timecode_Frame at h
  refine .en hI Tryz.func143 Tryz.ntmps143 ?_
  refine xs <| rz ?_
  refine es <| xs <| xs <| rK fun K6 RK6 hK6 gK6 => zz ?_
  obtain ⟨r7, h8, h⟩ := bs h
  refine cw (a_timecode_Check hI h8) <| zz ?_
  subst hK6 gK6
  refine es <| xs <| rz ?_
  refine es ?_
  rcases iK k h with ⟨k, h⟩ | ⟨k, h⟩
  · refine xt <| xs <| rz ?_
    refine es <| xr <| er ?_
    cases h
    exact en fr
  · refine xf <| xk <| es <| xs <| rz ?_
    refine es <| xs <| rD hI fun K19 RK19 hK19 gK19 => zz ?_
    obtain ⟨r20, h21, h⟩ := bs h
    refine cd (a_timebase_Nominal hI h21) <| zz ?_
    subst hK19 gK19
    refine es <| xs <| rK fun K25 RK25 hK25 gK25 => zz ?_
    obtain ⟨r26, h27, h⟩ := bs h
    refine cw (a_timecode_dropped hI h27) <| zz ?_
    subst hK25 gK25
    refine es <| xr ?_
    cases h
    exact en fr
def g_ratio_inParts (n_0 : Int) (d_1 : Int) : Option (Bool) :=
  (if (decide ((-2147483648) ≤ n_0)) then (if (decide (n_0 ≤ 2147483648)) then (if (decide (1 ≤ d_1)) then (some (decide (d_1 ≤ 2147483648))) else (some false)) else (some false)) else (some false))
theorem a_ratio_inParts {I : World → Prop} (hI : Stab I) {n_0 : Int} {d_1 : Int} {r : Bool} (h : g_ratio_inParts n_0 d_1 = some r) : AFun Tryz.prog I 110 [.int .i64 n_0, .int .i64 d_1] (.bool r) := by
  have dd := dd_EB; have k := True.intro; have q := k; have rs := Tryz.results110
  unfold g_ratio_inParts at h
  refine .en hI Tryz.func110 Tryz.ntmps110 ?_
  refine xs <| rz ?_
  refine es <| xs <| rK fun K7 RK7 hK7 gK7 => zz ?_
  rcases iK k h with ⟨k, h⟩ | ⟨k, h⟩
  · refine zz ?_
    rcases iK k h with ⟨k, h⟩ | ⟨k, h⟩
    · refine zz ?_
      rcases iK k h with ⟨k, h⟩ | ⟨k, h⟩
      · refine zz ?_
        subst hK7 gK7
        refine es <| xr ?_
        cases h
        exact en fr
      · refine zz ?_
        subst hK7 gK7
        refine es <| xr ?_
        cases h
        exact en fr
    · refine zz ?_
      subst hK7 gK7
      refine es <| xr ?_
      cases h
      exact en fr
  · refine zz ?_
    subst hK7 gK7
    refine es <| xr ?_
    cases h
    exact en fr
def g_ratio_Gcd_s1  (x25 : Int × Int) : Option (Nx (Int × Int) (Int)) :=
  (if (x25.2 != 0) then (if ¬ x25.2 = 0 then (some (.go (x25.2, (Int.tmod x25.1 x25.2)))) else none) else (some (.out x25.1)))
def g_ratio_Gcd (a_0 : Int) (b_1 : Int) : Option (Int) :=
  (((if (a_0 == (-9223372036854775808)) then (some true) else (some (b_1 == (-9223372036854775808)))) : Option (Bool)).bind fun v5 => (if v5 then (some 0) else ((iter (g_ratio_Gcd_s1) ((if (IntKind.i64.wrap (0 - a_0)) > a_0 then (IntKind.i64.wrap (0 - a_0)) else a_0), (if (IntKind.i64.wrap (0 - b_1)) > b_1 then (IntKind.i64.wrap (0 - b_1)) else b_1))).bind fun e26 => (some e26))))
theorem a_ratio_Gcd {I : World → Prop} (hI : Stab I) {a_0 : Int} {b_1 : Int} {r : Int} (h : g_ratio_Gcd a_0 b_1 = some r) : AFun Tryz.prog I 111 [.int .i64 a_0, .int .i64 b_1] (.int .i64 r) := by
  have dd := dd_EB; have k := True.intro; have q := k; have rs := Tryz.results111
  unfold g_ratio_Gcd at h
  refine .en hI Tryz.func111 Tryz.ntmps111 ?_
  refine xs <| rz ?_
  refine es <| xs ?_
  obtain ⟨v5, h8, h⟩ := bs h
  refine rb_cut (fun v5 => ⟨envL [(0, .int .i64 a_0), (1, .int .i64 b_1), (12, .bool v5)], heapL [], 0, 28⟩) h8 ?_ ?_
  · clear h
    intro v5 h
    refine rK fun K6 RK6 hK6 gK6 => zz ?_
    rcases iK k h with ⟨k, h⟩ | ⟨k, h⟩
    · refine zz ?_
      subst hK6 gK6
      cases h
      exact en ⟨rfl, wk []⟩
    · refine zz ?_
      subst hK6 gK6
      cases h
      exact en ⟨rfl, wk []⟩
  · rcases iK k h with ⟨k, h⟩ | ⟨k, h⟩
    · refine xt <| xs <| rz ?_
      refine es <| xr <| er ?_
      cases h
      exact en fr
    · refine xf <| xk <| es <| xs <| rz ?_
      refine es <| xs <| xb ?_
      obtain ⟨e26, h35, h⟩ := bs h
      refine rb_loop (fun x25 => ⟨envL [(5, .int .i64 x25.1), (6, .int .i64 x25.2)], heapL [], 0, 28⟩) (fun _ => .exit 0) (fun e26 => ⟨envL [(5, .int .i64 e26)], heapL [], 0, 28⟩) h35 (wk []) (by intro w; simp) ?_ ?_
      · clear h
        intro x25 y h
        unfold g_ratio_Gcd_s1 at h
        refine xs <| xs <| rz ?_
        refine es ?_
        rcases iK k h with ⟨k, h⟩ | ⟨k, h⟩
        · refine xt <| xk <| es <| xb <| rD hI fun K34 RK34 hK34 gK34 => zz ?_
          obtain ⟨q, h⟩ := oK q h
          refine zz ?_
          subst hK34 gK34
          refine bn ?_
          cases h
          exact en ⟨rfl, wk []⟩
        · refine xf <| xx <| ee ?_
          cases h
          exact en ⟨rfl, wk []⟩
      · refine bh <| es <| xs <| rz ?_
        refine es <| xr ?_
        cases h
        exact en fr
def g_ratio_Valid (r_0 : T_api_Ratio) : Option (Bool) :=
  ((g_ratio_inParts r_0.Num r_0.Den).bind fun r10 => (if r10 then ((g_ratio_Gcd r_0.Num r_0.Den).bind fun r13 => (some (r13 == 1))) else (some false)))
theorem a_ratio_Valid {I : World → Prop} (hI : Stab I) {r_0 : T_api_Ratio} {r : Bool} (h : g_ratio_Valid r_0 = some r) : AFun Tryz.prog I 62 [T_api_Ratio.d r_0] (.bool r) := by
  have dd := dd_EB; have k := True.intro; have q := k; have rs := Tryz.results62
  unfold g_ratio_Valid at h
  refine .en hI Tryz.func62 Tryz.ntmps62 ?_
  refine xs <| rz ?_
  refine es <| xs <| rK fun K9 RK9 hK9 gK9 => zz ?_
  obtain ⟨r10, h11, h⟩ := bs h
  refine cw (a_ratio_inParts hI h11) <| zz ?_
  rcases iK k h with ⟨k, h⟩ | ⟨k, h⟩
  · refine zz ?_
    obtain ⟨r13, h14, h⟩ := bs h
    refine cw (a_ratio_Gcd hI h14) <| zz ?_
    subst hK9 gK9
    refine es <| xr ?_
    cases h
    exact en fr
  · refine zz ?_
    subst hK9 gK9
    refine es <| xr ?_
    cases h
    exact en fr
def g_ratio_Text (r_0 : T_api_Ratio) : Option ((List UInt8)) :=
  ((g_ratio_Valid r_0).bind fun r7 => (if r7 then ((g_strconv_FormatInt r_0.Num 10).bind fun r20 => (if r20.length + 1 ≤ 9223372036854775807 then ((g_strconv_FormatInt r_0.Den 10).bind fun r24 => (if (r20.length + 1) + r24.length ≤ 9223372036854775807 then (some ((r20 ++ [47]) ++ r24)) else none)) else none)) else (some [])))
theorem a_ratio_Text {I : World → Prop} (hI : Stab I) (hTab : ∀ w, I w → Tab w) {r_0 : T_api_Ratio} {r : (List UInt8)} (h : g_ratio_Text r_0 = some r) : AFun Tryz.prog I 42 [T_api_Ratio.d r_0] (.str r) := by
  have dd := dd_EB; have k := True.intro; have q := k; have rs := Tryz.results42
  unfold g_ratio_Text at h
  refine .en hI Tryz.func42 Tryz.ntmps42 ?_
  refine xs <| rz ?_
  refine es <| xs <| xs <| rK fun K6 RK6 hK6 gK6 => zz ?_
  obtain ⟨r7, h8, h⟩ := bs h
  refine cw (a_ratio_Valid hI h8) <| zz ?_
  subst hK6 gK6
  refine es ?_
  rcases iK k h with ⟨k, h⟩ | ⟨k, h⟩
  · refine xf <| xk <| es <| xs <| rD hI fun K19 RK19 hK19 gK19 => zz ?_
    obtain ⟨r20, h21, h⟩ := bs h
    refine cd (a_strconv_FormatInt I hI hTab r_0.Num 10 h21) <| zz ?_
    obtain ⟨h22, h⟩ := ite_on h
    have h23 : r20.length + ([47] : List UInt8).length ≤ 9223372036854775807 := by (try simp only [List.length_append, List.length_cons, List.length_nil]); omega
    try simp -implicitDefEqProofs only [vt, vm, sevalprocAttr, dd, k, q] at h23
    have q := And.intro @h23 <| And.intro @h22 <| q
    refine zz ?_
    obtain ⟨r24, h25, h⟩ := bs h
    refine cd (a_strconv_FormatInt I hI hTab r_0.Den 10 h25) <| zz ?_
    obtain ⟨h26, h⟩ := ite_on h
    have h27 : (r20 ++ [47]).length + r24.length ≤ 9223372036854775807 := by (try simp only [List.length_append, List.length_cons, List.length_nil]); omega
    try simp -implicitDefEqProofs only [vt, vm, sevalprocAttr, dd, k, q] at h27
    have q := And.intro @h27 <| And.intro @h26 <| q
    refine zz ?_
    subst hK19 gK19
    refine es <| xr ?_
    cases h
    exact en fr
  · refine xt <| xs <| rz ?_
    refine es <| xr <| er ?_
    cases h
    exact en fr
def g_ratio_Parse (s_0 : List UInt8) : Option (T_api_Ratio × Int) :=
  ((g_strings_Cut s_0 [47]).bind fun r7 => ((g_strconv_ParseInt r7.1 10 64).bind fun r13 => ((g_strconv_ParseInt r7.2.1 10 64).bind fun r19 => (((if r13.2 then (some true) else (if r19.2 then (some true) else ((g_ratio_Text (T_api_Ratio.mk r13.1 r19.1)).bind fun r32 => (some (!(r32 == s_0)))))) : Option (Bool)).bind fun v28 => (if v28 then (some ((T_api_Ratio.mk 0 0), 4)) else (some ((T_api_Ratio.mk r13.1 r19.1), 0)))))))
theorem a_ratio_Parse {I : World → Prop} (hI : Stab I) (hPIv : ∀ w, I w → PIv w) (hShp : ∀ w, I w → Shp w) (hTab : ∀ w, I w → Tab w) {s_0 : List UInt8} {r : T_api_Ratio × Int} (h : g_ratio_Parse s_0 = some r) : AFun Tryz.prog I 94 [.str s_0] (.tup [T_api_Ratio.d r.1, .int .i64 r.2]) := by
  have dd := dd_EB; have k := True.intro; have q := k; have rs := Tryz.results94
  unfold g_ratio_Parse at h
  refine .en hI Tryz.func94 Tryz.ntmps94 ?_
  refine xs <| rz ?_
  refine es <| xs <| rK fun K6 RK6 hK6 gK6 => zz ?_
  obtain ⟨r7, h8, h⟩ := bs h
  refine cw (a_strings_Cut I hI hShp s_0 [47] h8) <| zz ?_
  subst hK6 gK6
  refine es <| xs <| rK fun K12 RK12 hK12 gK12 => zz ?_
  obtain ⟨r13, h14, h⟩ := bs h
  refine cw (a_strconv_ParseInt I hI hPIv r7.1 10 64 h14) <| zz ?_
  subst hK12 gK12
  refine es <| xs <| rK fun K18 RK18 hK18 gK18 => zz ?_
  obtain ⟨r19, h20, h⟩ := bs h
  refine cw (a_strconv_ParseInt I hI hPIv r7.2.1 10 64 h20) <| zz ?_
  subst hK18 gK18
  refine es <| xs <| rz ?_
  refine es <| xs ?_
  obtain ⟨v28, h34, h⟩ := bs h
  refine rb_cut (fun v28 => ⟨envL [(2, .ptr 0 0), (11, .ptr 1 0), (42, .bool v28)], heapL [(0, .box none [.int .i64 0, .int .i64 0]), (1, .box none [.int .i64 r13.1, .int .i64 r19.1])], 2, 45⟩) h34 ?_ ?_
  · clear h
    intro v28 h
    refine rK fun K29 RK29 hK29 gK29 => zz ?_
    rcases iK k h with ⟨k, h⟩ | ⟨k, h⟩
    · refine zz ?_
      subst hK29 gK29
      cases h
      exact en ⟨rfl, wk [(1, some 28)]⟩
    · refine zz ?_
      rcases iK k h with ⟨k, h⟩ | ⟨k, h⟩
      · refine zz ?_
        subst hK29 gK29
        cases h
        exact en ⟨rfl, wk [(1, some 28)]⟩
      · refine zz ?_
        obtain ⟨r32, h33, h⟩ := bs h
        refine cw (a_ratio_Text hI hTab h33) <| zz ?_
        subst hK29 gK29
        cases h
        exact en ⟨rfl, wk [(1, some 28)]⟩
  · rcases iK k h with ⟨k, h⟩ | ⟨k, h⟩
    · refine xt <| xs <| rz ?_
      refine es <| xr <| er ?_
      cases h
      exact en fr
    · refine xf <| xk <| es <| xs <| rz ?_
      refine es <| xr ?_
      cases h
      exact en fr
def g_charset_place_s1 (s_0 : List UInt8) (r_1 : Int) (x7 : Int × Nat) : Option (Nx (Int × Nat) (Int ⊕ Unit)) :=
  (if (decide (x7.2 < s_0.length)) then (if ((runeAt s_0 x7.2) == r_1) then (some (.out (.inl x7.1))) else (some (.go ((IntKind.i64.wrap (x7.1 + 1)), (x7.2 + widthAt s_0 x7.2))))) else (some (.out (.inr ()))))
def g_charset_place (s_0 : List UInt8) (r_1 : Int) : Option (Int) :=
  ((iter (g_charset_place_s1 s_0 r_1) (0, 0)).bind fun e8 => (match e8 with | Sum.inl e8 => (some e8) | Sum.inr (e8) => (some (-1))))
theorem a_charset_place {I : World → Prop} (hI : Stab I) {s_0 : List UInt8} {r_1 : Int} {r : Int} (h : g_charset_place s_0 r_1 = some r) : AFun Tryz.prog I 109 [.str s_0, .int .i32 r_1] (.int .i64 r) := by
  have dd := dd_EB; have k := True.intro; have q := k; have rs := Tryz.results109
  unfold g_charset_place at h
  refine .en hI Tryz.func109 Tryz.ntmps109 ?_
  refine xs <| rz ?_
  refine es <| xs <| rz ?_
  refine es <| xs <| xs <| rz ?_
  refine es <| xb ?_
  obtain ⟨e8, h33, h⟩ := bs h
  refine rb_loop (fun x7 => ⟨envL [(1, .int .i32 r_1), (5, .int .i64 x7.1), (9, .ptr 0 0)], heapL [(0, .iter s_0 x7.2)], 1, 19⟩) (fun w => match w with | Sum.inl _ => .ret | Sum.inr (_) => .exit 0) (fun w => match w with | Sum.inl e8 => ⟨envL [(4, .int .i64 e8)], heapL [], 0, 19⟩ | Sum.inr (e8) => ⟨envL [], heapL [], 0, 19⟩) h33 (wk [(0, some 3)]) (by intro w; rcases w with w | w <;> simp) ?_ ?_
  · clear h
    intro x7 y h
    unfold g_charset_place_s1 at h
    refine xs <| rK fun K23 RK23 hK23 gK23 => zz ?_
    rcases iK k h with ⟨k, h⟩ | ⟨k, h⟩
    · have k := And.intro (of_decide_eq_true k.1) k.2
      refine zz ?_
      subst hK23 gK23
      refine es <| xs <| xt <| xk <| es <| xb <| xs <| rz ?_
      refine es <| xs <| xs <| rz ?_
      refine es ?_
      rcases iK k h with ⟨k, h⟩ | ⟨k, h⟩
      · refine xt <| xs <| rz ?_
        refine es <| xr <| er <| br ?_
        cases h
        exact en ⟨rfl, wk []⟩
      · refine xf <| xk <| es <| rz ?_
        refine bn ?_
        cases h
        exact en ⟨rfl, wk []⟩
    · have k := And.intro (of_decide_eq_false k.1) k.2
      refine zz ?_
      subst hK23 gK23
      refine es <| xs <| xf <| xx <| ee ?_
      cases h
      exact en ⟨rfl, wk []⟩
  · rcases e8 with e8 | e8
    · try dsimp only at h ⊢
      refine br <| er ?_
      cases h
      exact en fr
    · try dsimp only at h ⊢
      refine bh <| es <| xs <| rz ?_
      refine es <| xr ?_
      cases h
      exact en fr
def g_charset_Index (r_0 : Int) : Option (Int) :=
  (((if (decide (32 ≤ r_0)) then (some (decide (r_0 ≤ 126))) else (some false)) : Option (Bool)).bind fun v5 => (if v5 then (some (IntKind.i64.wrap (IntKind.i32.wrap (r_0 - 32)))) else ((g_charset_place [32, 33, 34, 35, 36, 37, 38, 39, 40, 41, 42, 43, 44, 45, 46, 47, 48, 49, 50, 51, 52, 53, 54, 55, 56, 57, 58, 59, 60, 61, 62, 63, 64, 65, 66, 67, 68, 69, 70, 71, 72, 73, 74, 75, 76, 77, 78, 79, 80, 81, 82, 83, 84, 85, 86, 87, 88, 89, 90, 91, 92, 93, 94, 95, 96, 97, 98, 99, 100, 101, 102, 103, 104, 105, 106, 107, 108, 109, 110, 111, 112, 113, 114, 115, 116, 117, 118, 119, 120, 121, 122, 123, 124, 125, 126, 194, 161, 194, 162, 194, 163, 194, 164, 194, 165, 194, 166, 194, 167, 194, 169, 194, 171, 194, 174, 194, 176, 194, 183, 194, 187, 194, 189, 194, 191, 195, 128, 195, 129, 195, 130, 195, 131, 195, 132, 195, 133, 195, 134, 195, 135, 195, 136, 195, 137, 195, 138, 195, 139, 195, 140, 195, 141, 195, 142, 195, 143, 195, 145, 195, 146, 195, 147, 195, 148, 195, 149, 195, 150, 195, 152, 195, 153, 195, 154, 195, 155, 195, 156, 195, 159, 195, 160, 195, 161, 195, 162, 195, 163, 195, 164, 195, 165, 195, 166, 195, 167, 195, 168, 195, 169, 195, 170, 195, 171, 195, 172, 195, 173, 195, 174, 195, 175, 195, 177, 195, 178, 195, 179, 195, 180, 195, 181, 195, 182, 195, 184, 195, 185, 195, 186, 195, 187, 195, 188, 197, 146, 197, 147, 226, 128, 148, 226, 128, 152, 226, 128, 153, 226, 128, 156, 226, 128, 157, 226, 128, 162, 226, 128, 166, 226, 132, 162, 226, 153, 170] r_0).bind fun r16 => (some r16))))
theorem a_charset_Index {I : World → Prop} (hI : Stab I) {r_0 : Int} {r : Int} (h : g_charset_Index r_0 = some r) : AFun Tryz.prog I 56 [.int .i32 r_0] (.int .i64 r) := by
  have dd := dd_EB; have k := True.intro; have q := k; have rs := Tryz.results56
  unfold g_charset_Index at h
  refine .en hI Tryz.func56 Tryz.ntmps56 ?_
  refine xs <| rz ?_
  refine es <| xs ?_
  obtain ⟨v5, h8, h⟩ := bs h
  refine rb_cut (fun v5 => ⟨envL [(0, .int .i32 r_0), (8, .bool v5)], heapL [], 0, 14⟩) h8 ?_ ?_
  · clear h
    intro v5 h
    refine rK fun K6 RK6 hK6 gK6 => zz ?_
    rcases iK k h with ⟨k, h⟩ | ⟨k, h⟩
    · refine zz ?_
      subst hK6 gK6
      cases h
      exact en ⟨rfl, wk []⟩
    · refine zz ?_
      subst hK6 gK6
      cases h
      exact en ⟨rfl, wk []⟩
  · rcases iK k h with ⟨k, h⟩ | ⟨k, h⟩
    · refine xt <| xs <| rz ?_
      refine es <| xr <| er ?_
      cases h
      exact en fr
    · refine xf <| xk <| es <| xs <| rK fun K15 RK15 hK15 gK15 => zz ?_
      obtain ⟨r16, h17, h⟩ := bs h
      refine cw (a_charset_place hI h17) <| zz ?_
      subst hK15 gK15
      refine es <| xr ?_
      cases h
      exact en fr
def g_charset_Valid_s1 (s_0 : List UInt8) (x12 : Nat) : Option (Nx (Nat) (Unit ⊕ Unit)) :=
  (if (decide (x12 < s_0.length)) then ((g_charset_Index (runeAt s_0 x12)).bind fun r39 => (if (decide (r39 < 0)) then (some (.out (.inl ()))) else (some (.go (x12 + widthAt s_0 x12))))) else (some (.out (.inr ()))))
def g_charset_Valid (s_0 : List UInt8) : Option (Bool) :=
  ((g_unicode_utf8_ValidString s_0).bind fun r7 => (if r7 then ((iter (g_charset_Valid_s1 s_0) 0).bind fun e13 => (match e13 with | Sum.inl e13 => (some false) | Sum.inr (e13) => (some true))) else (some false)))
theorem a_charset_Valid {I : World → Prop} (hI : Stab I) (hU8T : ∀ w, I w → U8T w) {s_0 : List UInt8} {r : Bool} (h : g_charset_Valid s_0 = some r) : AFun Tryz.prog I 26 [.str s_0] (.bool r) := by
  have dd := dd_EB; have k := True.intro; have q := k; have rs := Tryz.results26
  unfold g_charset_Valid at h
  refine .en hI Tryz.func26 Tryz.ntmps26 ?_
  refine xs <| rz ?_
  refine es <| xs <| xs <| rK fun K6 RK6 hK6 gK6 => zz ?_
  obtain ⟨r7, h8, h⟩ := bs h
  refine cw (a_unicode_utf8_ValidString I hI hU8T s_0 h8) <| zz ?_
  subst hK6 gK6
  refine es ?_
  rcases iK k h with ⟨k, h⟩ | ⟨k, h⟩
  · refine xf <| xk <| es <| xs <| xs <| rz ?_
    refine es <| xb ?_
    obtain ⟨e13, h44, h⟩ := bs h
    refine rb_loop (fun x12 => ⟨envL [(9, .ptr 0 0)], heapL [(0, .iter s_0 x12)], 1, 16⟩) (fun w => match w with | Sum.inl _ => .ret | Sum.inr (_) => .exit 0) (fun w => match w with | Sum.inl e13 => ⟨envL [(2, .bool false)], heapL [], 0, 16⟩ | Sum.inr (e13) => ⟨envL [], heapL [], 0, 16⟩) h44 (wk [(0, some 5)]) (by intro w; rcases w with w | w <;> simp) ?_ ?_
    · clear h
      intro x12 y h
      unfold g_charset_Valid_s1 at h
      refine xs <| rK fun K31 RK31 hK31 gK31 => zz ?_
      rcases iK k h with ⟨k, h⟩ | ⟨k, h⟩
      · have k := And.intro (of_decide_eq_true k.1) k.2
        refine zz ?_
        subst hK31 gK31
        refine es <| xs <| xt <| xk <| es <| xb <| xs <| rz ?_
        refine es <| xs <| rK fun K38 RK38 hK38 gK38 => zz ?_
        obtain ⟨r39, h40, h⟩ := bs h
        refine cw (a_charset_Index hI h40) <| zz ?_
        subst hK38 gK38
        refine es ?_
        rcases iK k h with ⟨k, h⟩ | ⟨k, h⟩
        · refine xt <| xs <| rz ?_
          refine es <| xr <| br ?_
          cases h
          exact en ⟨rfl, wk []⟩
        · refine xf <| xk <| bn ?_
          cases h
          exact en ⟨rfl, wk []⟩
      · have k := And.intro (of_decide_eq_false k.1) k.2
        refine zz ?_
        subst hK31 gK31
        refine es <| xs <| xf <| xx <| ee ?_
        cases h
        exact en ⟨rfl, wk []⟩
    · rcases e13 with e13 | e13
      · try dsimp only at h ⊢
        refine br <| er ?_
        cases h
        exact en fr
      · try dsimp only at h ⊢
        refine bh <| es <| xs <| rz ?_
        refine es <| xr ?_
        cases h
        exact en fr
  · refine xt <| xs <| rz ?_
    refine es <| xr <| er ?_
    cases h
    exact en fr
def g_timecode_Day (r_0 : Int) (drop_1 : Bool) : Option (Int) :=
  ((g_timecode_rateError r_0 drop_1).bind fun r7 => (if (r7 != 0) then (some 0) else ((g_timebase_Nominal r_0).bind fun r18 => ((g_timecode_dropped r_0 drop_1).bind fun r20 => (some (IntKind.i64.wrap ((IntKind.i64.wrap (86400 * r18)) - (IntKind.i64.wrap (1296 * r20)))))))))
theorem a_timecode_Day {I : World → Prop} (hI : Stab I) {r_0 : Int} {drop_1 : Bool} {r : Int} (h : g_timecode_Day r_0 drop_1 = some r) : AFun Tryz.prog I 29 [.int .u8 r_0, .bool drop_1] (.int .i64 r) := by
  have dd := dd_EB; have k := True.intro; have q := k; have rs := Tryz.results29
  unfold g_timecode_Day at h
  refine .en hI Tryz.func29 Tryz.ntmps29 ?_
  refine xs <| rz ?_
  refine es <| xs <| xs <| rK fun K6 RK6 hK6 gK6 => zz ?_
  obtain ⟨r7, h8, h⟩ := bs h
  refine cw (a_timecode_rateError hI h8) <| zz ?_
  subst hK6 gK6
  refine es ?_
  rcases iK k h with ⟨k, h⟩ | ⟨k, h⟩
  · refine xt <| xs <| rz ?_
    refine es <| xr <| er ?_
    cases h
    exact en fr
  · refine xf <| xk <| es <| xs <| rK fun K17 RK17 hK17 gK17 => zz ?_
    obtain ⟨r18, h19, h⟩ := bs h
    refine cw (a_timebase_Nominal hI h19) <| zz ?_
    obtain ⟨r20, h21, h⟩ := bs h
    refine cw (a_timecode_dropped hI h21) <| zz ?_
    subst hK17 gK17
    refine es <| xr ?_
    cases h
    exact en fr
def g_ratio_known (mode_0 : Int) : Option (Bool) :=
  (if (decide (1 ≤ mode_0)) then (some (decide (mode_0 ≤ 3))) else (some false))
theorem a_ratio_known {I : World → Prop} (hI : Stab I) {mode_0 : Int} {r : Bool} (h : g_ratio_known mode_0 = some r) : AFun Tryz.prog I 156 [.int .u8 mode_0] (.bool r) := by
  have dd := dd_EB; have k := True.intro; have q := k; have rs := Tryz.results156
  unfold g_ratio_known at h
  refine .en hI Tryz.func156 Tryz.ntmps156 ?_
  refine xs <| rz ?_
  refine es <| xs <| rK fun K5 RK5 hK5 gK5 => zz ?_
  rcases iK k h with ⟨k, h⟩ | ⟨k, h⟩
  · refine zz ?_
    subst hK5 gK5
    refine es <| xr ?_
    cases h
    exact en fr
  · refine zz ?_
    subst hK5 gK5
    refine es <| xr ?_
    cases h
    exact en fr
def g_ratio_size (a_0 : Int) : Option (Int) :=
  (if (decide (a_0 < 0)) then (some (IntKind.u64.wrap (0 - (IntKind.u64.wrap a_0)))) else (some (IntKind.u64.wrap a_0)))
theorem a_ratio_size {I : World → Prop} (hI : Stab I) {a_0 : Int} {r : Int} (h : g_ratio_size a_0 = some r) : AFun Tryz.prog I 157 [.int .i64 a_0] (.int .u64 r) := by
  have dd := dd_EB; have k := True.intro; have q := k; have rs := Tryz.results157
  unfold g_ratio_size at h
  refine .en hI Tryz.func157 Tryz.ntmps157 ?_
  refine xs <| rz ?_
  refine es <| xs <| xs <| rz ?_
  refine es ?_
  rcases iK k h with ⟨k, h⟩ | ⟨k, h⟩
  · refine xt <| xs <| rz ?_
    refine es <| xr <| er ?_
    cases h
    exact en fr
  · refine xf <| xk <| es <| xs <| rz ?_
    refine es <| xr ?_
    cases h
    exact en fr
def g_ratio_away (neg_0 : Bool) (r_1 : Int) (d_2 : Int) (mode_3 : Int) : Option (Bool) :=
  (if (r_1 == 0) then (some false) else (if (mode_3 == 1) then (some neg_0) else (if (mode_3 == 3) then (some (!neg_0)) else (if (decide ((IntKind.u64.wrap (d_2 - r_1)) < r_1)) then (some true) else (if (r_1 == (IntKind.u64.wrap (d_2 - r_1))) then (some (!neg_0)) else (some false))))))
theorem a_ratio_away {I : World → Prop} (hI : Stab I) {neg_0 : Bool} {r_1 : Int} {d_2 : Int} {mode_3 : Int} {r : Bool} (h : g_ratio_away neg_0 r_1 d_2 mode_3 = some r) : AFun Tryz.prog I 158 [.bool neg_0, .int .u64 r_1, .int .u64 d_2, .int .u8 mode_3] (.bool r) := by
  have dd := dd_EB; have k := True.intro; have q := k; have rs := Tryz.results158
  unfold g_ratio_away at h
  refine .en hI Tryz.func158 Tryz.ntmps158 ?_
  refine xs <| rz ?_
  refine es <| xs <| xb <| xs <| rz ?_
  refine es ?_
  rcases iK k h with ⟨k, h⟩ | ⟨k, h⟩
  · refine xt <| xs <| rz ?_
    refine es <| xr <| br <| er ?_
    cases h
    exact en fr
  · refine xf <| xs <| rz ?_
    refine es ?_
    rcases iK k h with ⟨k, h⟩ | ⟨k, h⟩
    · refine xt <| xs <| rz ?_
      refine es <| xr <| br <| er ?_
      cases h
      exact en fr
    · refine xf <| xs <| rz ?_
      refine es ?_
      rcases iK k h with ⟨k, h⟩ | ⟨k, h⟩
      · refine xt <| xs <| rz ?_
        refine es <| xr <| br <| er ?_
        cases h
        exact en fr
      · refine xf <| xk <| bn <| es <| xs <| rK fun K36 RK36 hK36 gK36 => zz ?_
        rcases iK k h with ⟨k, h⟩ | ⟨k, h⟩
        · refine zz ?_
          subst hK36 gK36
          refine es <| xr ?_
          cases h
          exact en fr
        · refine zz ?_
          rcases iK k h with ⟨k, h⟩ | ⟨k, h⟩
          · refine zz ?_
            subst hK36 gK36
            refine es <| xr ?_
            cases h
            exact en fr
          · refine zz ?_
            subst hK36 gK36
            refine es <| xr ?_
            cases h
            exact en fr
def g_ratio_Quotient (n_0 : Int) (d_1 : Int) (mode_2 : Int) : Option (Int × Int) :=
  (if (d_1 == 0) then (some (0, 1)) else ((g_ratio_known mode_2).bind fun r26 => (if r26 then ((g_ratio_size n_0).bind fun r41 => ((g_ratio_size d_1).bind fun r43 => (if ¬ r43 = 0 then ((g_ratio_size n_0).bind fun r45 => ((g_ratio_size d_1).bind fun r47 => (if ¬ r47 = 0 then ((g_ratio_size d_1).bind fun r55 => ((g_ratio_away (!((decide (n_0 < 0)) == (decide (d_1 < 0)))) (Int.tmod r45 r47) r55 mode_2).bind fun r57 => (if r57 then (if ((decide (n_0 < 0)) == (decide (d_1 < 0))) then (if (decide (9223372036854775807 < (IntKind.u64.wrap ((IntKind.u64.wrap (Int.tdiv r41 r43)) + 1)))) then (some (0, 2)) else (some ((IntKind.i64.wrap (IntKind.u64.wrap ((IntKind.u64.wrap (Int.tdiv r41 r43)) + 1))), 0))) else (some ((IntKind.i64.wrap (IntKind.u64.wrap (0 - (IntKind.u64.wrap ((IntKind.u64.wrap (Int.tdiv r41 r43)) + 1))))), 0))) else (if ((decide (n_0 < 0)) == (decide (d_1 < 0))) then (if (decide (9223372036854775807 < (IntKind.u64.wrap (Int.tdiv r41 r43)))) then (some (0, 2)) else (some ((IntKind.i64.wrap (IntKind.u64.wrap (Int.tdiv r41 r43))), 0))) else (some ((IntKind.i64.wrap (IntKind.u64.wrap (0 - (IntKind.u64.wrap (Int.tdiv r41 r43))))), 0)))))) else none))) else none))) else (some (0, 3)))))
theorem a_ratio_Quotient {I : World → Prop} (hI : Stab I) {n_0 : Int} {d_1 : Int} {mode_2 : Int} {r : Int × Int} (h : g_ratio_Quotient n_0 d_1 mode_2 = some r) : AFun Tryz.prog I 112 [.int .i64 n_0, .int .i64 d_1, .int .u8 mode_2] (.tup [.int .i64 r.1, .int .i64 r.2]) := by
  have dd := dd_EB; have k := True.intro; have q := k; have rs := Tryz.results112
  unfold g_ratio_Quotient at h
  refine .en hI Tryz.func112 Tryz.ntmps112 ?_
  refine xs <| rz ?_
  refine es <| xs <| xb <| xs <| rz ?_
  refine es ?_
  rcases iK k h with ⟨k, h⟩ | ⟨k, h⟩
  · refine xt <| xs <| rz ?_
    refine es <| xr <| br <| er ?_
    cases h
    exact en fr
  · refine xf <| xs <| rK fun K25 RK25 hK25 gK25 => zz ?_
    obtain ⟨r26, h27, h⟩ := bs h
    refine cw (a_ratio_known hI h27) <| zz ?_
    subst hK25 gK25
    refine es ?_
    rcases iK k h with ⟨k, h⟩ | ⟨k, h⟩
    · refine xf <| xk <| bn <| es <| xs <| rz ?_
      refine es <| xs <| rD hI fun K40 RK40 hK40 gK40 => zz ?_
      obtain ⟨r41, h42, h⟩ := bs h
      refine cd (a_ratio_size hI h42) <| zz ?_
      obtain ⟨r43, h44, h⟩ := bs h
      refine cd (a_ratio_size hI h44) <| zz ?_
      obtain ⟨q, h⟩ := oK q h
      refine zz ?_
      obtain ⟨r45, h46, h⟩ := bs h
      refine cd (a_ratio_size hI h46) <| zz ?_
      obtain ⟨r47, h48, h⟩ := bs h
      refine cd (a_ratio_size hI h48) <| zz ?_
      obtain ⟨q, h⟩ := oK q h
      refine zz ?_
      subst hK40 gK40
      refine es <| xs <| xs <| rK fun K54 RK54 hK54 gK54 => zz ?_
      obtain ⟨r55, h56, h⟩ := bs h
      refine cw (a_ratio_size hI h56) <| zz ?_
      obtain ⟨r57, h58, h⟩ := bs h
      refine cw (a_ratio_away hI h58) <| zz ?_
      subst hK54 gK54
      refine es ?_
      rcases iK k h with ⟨k, h⟩ | ⟨k, h⟩
      · refine xt <| rz ?_
        refine es <| xs <| xb <| xs <| rz ?_
        refine es ?_
        rcases iK k h with ⟨k, h⟩ | ⟨k, h⟩
        · refine xf <| xs <| rz ?_
          refine es ?_
          rcases iK k h with ⟨k, h⟩ | ⟨k, h⟩
          · refine xt <| xs <| rz ?_
            refine es <| xr <| br <| er ?_
            cases h
            exact en fr
          · refine xf <| xk <| bn <| es <| xs <| rz ?_
            refine es <| xr ?_
            cases h
            exact en fr
        · refine xt <| xs <| rz ?_
          refine es <| xr <| br <| er ?_
          cases h
          exact en fr
      · refine xf <| xk <| es <| xs <| xb <| xs <| rz ?_
        refine es ?_
        rcases iK k h with ⟨k, h⟩ | ⟨k, h⟩
        · refine xf <| xs <| rz ?_
          refine es ?_
          rcases iK k h with ⟨k, h⟩ | ⟨k, h⟩
          · refine xt <| xs <| rz ?_
            refine es <| xr <| br <| er ?_
            cases h
            exact en fr
          · refine xf <| xk <| bn <| es <| xs <| rz ?_
            refine es <| xr ?_
            cases h
            exact en fr
        · refine xt <| xs <| rz ?_
          refine es <| xr <| br <| er ?_
          cases h
          exact en fr
    · refine xt <| xs <| rz ?_
      refine es <| xr <| br <| er ?_
      cases h
      exact en fr
def g_timecode_Label (r_0 : Int) (drop_1 : Bool) (frame_2 : Int) : Option (T_api_Label × Int) :=
  ((g_timecode_rateError r_0 drop_1).bind fun r7 => (if (r7 != 0) then (some ((T_api_Label.mk 0 0 0 0 false), r7)) else (((if (decide (frame_2 < 0)) then (some true) else ((g_timecode_Day r_0 drop_1).bind fun r21 => (some (decide (r21 ≤ frame_2))))) : Option (Bool)).bind fun v18 => (if v18 then (some ((T_api_Label.mk 0 0 0 0 false), 2)) else ((g_timebase_Nominal r_0).bind fun r33 => ((g_timecode_dropped r_0 drop_1).bind fun r35 => (if ¬ (IntKind.i64.wrap ((IntKind.i64.wrap (600 * r33)) - (IntKind.i64.wrap (9 * r35)))) = 0 then (if ¬ (IntKind.i64.wrap ((IntKind.i64.wrap (600 * r33)) - (IntKind.i64.wrap (9 * r35)))) = 0 then (if (decide ((IntKind.i64.wrap (60 * r33)) ≤ (Int.tmod frame_2 (IntKind.i64.wrap ((IntKind.i64.wrap (600 * r33)) - (IntKind.i64.wrap (9 * r35))))))) then (if ¬ (IntKind.i64.wrap ((IntKind.i64.wrap (60 * r33)) - r35)) = 0 then (if ¬ r33 = 0 then (if ¬ r33 = 0 then (some ((T_api_Label.mk (IntKind.i64.wrap (Int.tdiv (IntKind.i64.wrap (Int.tdiv (IntKind.i64.wrap ((IntKind.i64.wrap (frame_2 + (IntKind.i64.wrap ((IntKind.i64.wrap (9 * r35)) * (IntKind.i64.wrap (Int.tdiv frame_2 (IntKind.i64.wrap ((IntKind.i64.wrap (600 * r33)) - (IntKind.i64.wrap (9 * r35)))))))))) + (IntKind.i64.wrap (r35 * (IntKind.i64.wrap ((IntKind.i64.wrap (Int.tdiv (IntKind.i64.wrap ((Int.tmod frame_2 (IntKind.i64.wrap ((IntKind.i64.wrap (600 * r33)) - (IntKind.i64.wrap (9 * r35))))) - (IntKind.i64.wrap (60 * r33)))) (IntKind.i64.wrap ((IntKind.i64.wrap (60 * r33)) - r35)))) + 1)))))) r33)) 3600)) (Int.tmod (IntKind.i64.wrap (Int.tdiv (IntKind.i64.wrap (Int.tdiv (IntKind.i64.wrap ((IntKind.i64.wrap (frame_2 + (IntKind.i64.wrap ((IntKind.i64.wrap (9 * r35)) * (IntKind.i64.wrap (Int.tdiv frame_2 (IntKind.i64.wrap ((IntKind.i64.wrap (600 * r33)) - (IntKind.i64.wrap (9 * r35)))))))))) + (IntKind.i64.wrap (r35 * (IntKind.i64.wrap ((IntKind.i64.wrap (Int.tdiv (IntKind.i64.wrap ((Int.tmod frame_2 (IntKind.i64.wrap ((IntKind.i64.wrap (600 * r33)) - (IntKind.i64.wrap (9 * r35))))) - (IntKind.i64.wrap (60 * r33)))) (IntKind.i64.wrap ((IntKind.i64.wrap (60 * r33)) - r35)))) + 1)))))) r33)) 60)) 60) (Int.tmod (IntKind.i64.wrap (Int.tdiv (IntKind.i64.wrap ((IntKind.i64.wrap (frame_2 + (IntKind.i64.wrap ((IntKind.i64.wrap (9 * r35)) * (IntKind.i64.wrap (Int.tdiv frame_2 (IntKind.i64.wrap ((IntKind.i64.wrap (600 * r33)) - (IntKind.i64.wrap (9 * r35)))))))))) + (IntKind.i64.wrap (r35 * (IntKind.i64.wrap ((IntKind.i64.wrap (Int.tdiv (IntKind.i64.wrap ((Int.tmod frame_2 (IntKind.i64.wrap ((IntKind.i64.wrap (600 * r33)) - (IntKind.i64.wrap (9 * r35))))) - (IntKind.i64.wrap (60 * r33)))) (IntKind.i64.wrap ((IntKind.i64.wrap (60 * r33)) - r35)))) + 1)))))) r33)) 60) (Int.tmod (IntKind.i64.wrap ((IntKind.i64.wrap (frame_2 + (IntKind.i64.wrap ((IntKind.i64.wrap (9 * r35)) * (IntKind.i64.wrap (Int.tdiv frame_2 (IntKind.i64.wrap ((IntKind.i64.wrap (600 * r33)) - (IntKind.i64.wrap (9 * r35)))))))))) + (IntKind.i64.wrap (r35 * (IntKind.i64.wrap ((IntKind.i64.wrap (Int.tdiv (IntKind.i64.wrap ((Int.tmod frame_2 (IntKind.i64.wrap ((IntKind.i64.wrap (600 * r33)) - (IntKind.i64.wrap (9 * r35))))) - (IntKind.i64.wrap (60 * r33)))) (IntKind.i64.wrap ((IntKind.i64.wrap (60 * r33)) - r35)))) + 1)))))) r33) drop_1), 0)) else none) else none) else none) else (if ¬ r33 = 0 then (if ¬ r33 = 0 then (some ((T_api_Label.mk (IntKind.i64.wrap (Int.tdiv (IntKind.i64.wrap (Int.tdiv (IntKind.i64.wrap (frame_2 + (IntKind.i64.wrap ((IntKind.i64.wrap (9 * r35)) * (IntKind.i64.wrap (Int.tdiv frame_2 (IntKind.i64.wrap ((IntKind.i64.wrap (600 * r33)) - (IntKind.i64.wrap (9 * r35)))))))))) r33)) 3600)) (Int.tmod (IntKind.i64.wrap (Int.tdiv (IntKind.i64.wrap (Int.tdiv (IntKind.i64.wrap (frame_2 + (IntKind.i64.wrap ((IntKind.i64.wrap (9 * r35)) * (IntKind.i64.wrap (Int.tdiv frame_2 (IntKind.i64.wrap ((IntKind.i64.wrap (600 * r33)) - (IntKind.i64.wrap (9 * r35)))))))))) r33)) 60)) 60) (Int.tmod (IntKind.i64.wrap (Int.tdiv (IntKind.i64.wrap (frame_2 + (IntKind.i64.wrap ((IntKind.i64.wrap (9 * r35)) * (IntKind.i64.wrap (Int.tdiv frame_2 (IntKind.i64.wrap ((IntKind.i64.wrap (600 * r33)) - (IntKind.i64.wrap (9 * r35)))))))))) r33)) 60) (Int.tmod (IntKind.i64.wrap (frame_2 + (IntKind.i64.wrap ((IntKind.i64.wrap (9 * r35)) * (IntKind.i64.wrap (Int.tdiv frame_2 (IntKind.i64.wrap ((IntKind.i64.wrap (600 * r33)) - (IntKind.i64.wrap (9 * r35)))))))))) r33) drop_1), 0)) else none) else none)) else none) else none)))))))
theorem a_timecode_Label {I : World → Prop} (hI : Stab I) {r_0 : Int} {drop_1 : Bool} {frame_2 : Int} {r : T_api_Label × Int} (h : g_timecode_Label r_0 drop_1 frame_2 = some r) : AFun Tryz.prog I 77 [.int .u8 r_0, .bool drop_1, .int .i64 frame_2] (.tup [T_api_Label.d r.1, .int .i64 r.2]) := by
  have dd := dd_EB; have k := True.intro; have q := k; have rs := Tryz.results77
  unfold g_timecode_Label at h
  refine .en hI Tryz.func77 Tryz.ntmps77 ?_
  refine xs <| rz ?_
  refine es <| xs <| xs <| rK fun K6 RK6 hK6 gK6 => zz ?_
  obtain ⟨r7, h8, h⟩ := bs h
  refine cw (a_timecode_rateError hI h8) <| zz ?_
  subst hK6 gK6
  refine es <| xs <| rz ?_
  refine es ?_
  rcases iK k h with ⟨k, h⟩ | ⟨k, h⟩
  · refine xt <| xs <| rz ?_
    refine es <| xr <| er ?_
    cases h
    exact en fr
  · refine xf <| xk <| es <| xs ?_
    obtain ⟨v18, h23, h⟩ := bs h
    refine rb_cut (fun v18 => ⟨envL [(0, .int .u8 r_0), (1, .bool drop_1), (2, .int .i64 frame_2), (6, .ptr 0 0), (31, .bool v18)], heapL [(0, .box none [.int .i64 0, .int .i64 0, .int .i64 0, .int .i64 0, .bool false])], 1, 88⟩) h23 ?_ ?_
    · clear h
      intro v18 h
      refine rK fun K19 RK19 hK19 gK19 => zz ?_
      rcases iK k h with ⟨k, h⟩ | ⟨k, h⟩
      · refine zz ?_
        subst hK19 gK19
        cases h
        exact en ⟨rfl, wk []⟩
      · refine zz ?_
        obtain ⟨r21, h22, h⟩ := bs h
        refine cw (a_timecode_Day hI h22) <| zz ?_
        subst hK19 gK19
        cases h
        exact en ⟨rfl, wk []⟩
    · rcases iK k h with ⟨k, h⟩ | ⟨k, h⟩
      · refine xt <| xs <| rz ?_
        refine es <| xr <| er ?_
        cases h
        exact en fr
      · refine xf <| xk <| es <| xs <| rK fun K32 RK32 hK32 gK32 => zz ?_
        obtain ⟨r33, h34, h⟩ := bs h
        refine cw (a_timebase_Nominal hI h34) <| zz ?_
        obtain ⟨r35, h36, h⟩ := bs h
        refine cw (a_timecode_dropped hI h36) <| zz ?_
        subst hK32 gK32
        refine es <| xs <| rz ?_
        refine es <| xs <| rD hI fun K40 RK40 hK40 gK40 => zz ?_
        obtain ⟨q, h⟩ := oK q h
        refine zz ?_
        obtain ⟨q, h⟩ := oK q h
        refine zz ?_
        subst hK40 gK40
        refine es <| xs <| rz ?_
        refine es <| xs <| xs <| rz ?_
        refine es ?_
        rcases iK k h with ⟨k, h⟩ | ⟨k, h⟩
        · refine xt <| rK fun K46 RK46 hK46 gK46 => zz ?_
          obtain ⟨q, h⟩ := oK q h
          refine zz ?_
          subst hK46 gK46
          refine es <| xs <| rK fun K48 RK48 hK48 gK48 => zz ?_
          obtain ⟨q, h⟩ := oK q h
          refine zz ?_
          subst hK48 gK48
          refine es <| xs <| rK fun K50 RK50 hK50 gK50 => zz ?_
          obtain ⟨q, h⟩ := oK q h
          refine zz ?_
          subst hK50 gK50
          refine es <| xr ?_
          cases h
          exact en fr
        · refine xf <| xk <| es <| xs <| rK fun K52 RK52 hK52 gK52 => zz ?_
          obtain ⟨q, h⟩ := oK q h
          refine zz ?_
          subst hK52 gK52
          refine es <| xs <| rK fun K54 RK54 hK54 gK54 => zz ?_
          obtain ⟨q, h⟩ := oK q h
          refine zz ?_
          subst hK54 gK54
          refine es <| xr ?_
          cases h
          exact en fr
def g_timecode_digits (b_0 : List Int) (n_1 : Int) : Option ((List Int)) :=
  (if (b_0.length + 2) * 1 ≤ 140737488355328 then (some (b_0 ++ [(IntKind.u8.wrap (IntKind.i64.wrap (48 + (IntKind.i64.wrap (Int.tdiv n_1 10))))), (IntKind.u8.wrap (IntKind.i64.wrap (48 + (Int.tmod n_1 10))))])) else none)
theorem a_timecode_digits {I : World → Prop} (hI : Stab I) {H : Nat → Option Blk} {nid i0 : Nat} {b_0 : List Int} {n_1 : Int} {r : (List Int)} (h : g_timecode_digits b_0 n_1 = some r) (b0 : H i0 = some (.vec 5 1 (b_0.map (D.int .u8)) false)) : CallOK Tryz.prog I 131 [.own i0 b_0.length, .int .i64 n_1] H nid (.own nid r.length) [(i0, none), (nid, some (.vec 5 1 (r.map (D.int .u8)) false))] := by
  refine CallOK.row (is := [i0]) (bs := [.vec 5 1 (b_0.map (D.int .u8)) false]) (ds0 := [.own 0 b_0.length, .int .i64 n_1]) hI Tryz.func131 rfl (by decide) (by simp [Tryz.f131]) (by kernel_rfl) rfl rfl ⟨⟨b0, _, _, _, rfl⟩, trivial⟩ (by simp) ?_
  have dd := dd_EB; have k := True.intro; have q := k; have rs := Tryz.results131
  unfold g_timecode_digits at h
  simp only [lentR, List.length_cons, List.length_nil, Nat.zero_add, Nat.reduceAdd, Tryz.ntmps131, dd]
  refine xs <| rz ?_
  refine es <| xs <| rK fun K7 RK7 hK7 gK7 => zz ?_
  obtain ⟨h8, h⟩ := ite_on h
  have h9 : b_0.length + 2 ≤ 9223372036854775807 := by omega
  try simp only [Nat.reduceLeDiff] at h9
  have h10 : b_0.length + 2 ≤ 140737488355328 := by omega
  try simp only [Nat.reduceLeDiff] at h10
  have q := And.intro @h9 <| And.intro @h10 <| And.intro @h8 <| q
  refine zz ?_
  subst hK7 gK7
  refine es <| xr ?_
  cases h
  exact en fv
def g_timecode_digits0 (n_1 : Int) : Option ((List Int)) :=
  (some [(IntKind.u8.wrap (IntKind.i64.wrap (48 + (IntKind.i64.wrap (Int.tdiv n_1 10))))), (IntKind.u8.wrap (IntKind.i64.wrap (48 + (Int.tmod n_1 10))))])
theorem a_timecode_digits0 {I : World → Prop} (hI : Stab I) {H : Nat → Option Blk} {nid : Nat} {n_1 : Int} {r : (List Int)} (h : g_timecode_digits0 n_1 = some r) : CallOK Tryz.prog I 131 [.nils, .int .i64 n_1] H nid (.own nid r.length) [(nid, some (.vec 5 1 (r.map (D.int .u8)) false))] := by
  refine CallOK.row (is := []) (bs := []) (ds0 := [.nils, .int .i64 n_1]) hI Tryz.func131 rfl (by decide) (by simp [Tryz.f131]) (by kernel_rfl) rfl rfl trivial (by simp) ?_
  have dd := dd_EB; have k := True.intro; have q := k; have rs := Tryz.results131
  unfold g_timecode_digits0 at h
  simp only [lentR, List.length_cons, List.length_nil, Nat.zero_add, Nat.reduceAdd, Tryz.ntmps131, dd]
  refine xs <| rz ?_
  refine es <| xs <| rz ?_
  refine es <| xr ?_
  cases h
  exact en fv
def g_timecode_Text (r_0 : Int) (l_1 : T_api_Label) : Option ((List UInt8) × Int) :=
  ((g_timecode_Check r_0 l_1).bind fun r7 => (if (r7 != 0) then (some ([], r7)) else (if l_1.Drop then ((g_timecode_digits0 l_1.H).bind fun r27 => (if (r27.length + 1) * 1 ≤ 140737488355328 then ((g_timecode_digits (r27 ++ [58]) l_1.M).bind fun r39 => (if (r39.length + 1) * 1 ≤ 140737488355328 then ((g_timecode_digits (r39 ++ [58]) l_1.S).bind fun r51 => (if (r51.length + 1) * 1 ≤ 140737488355328 then ((g_timecode_digits (r51 ++ [59]) l_1.F).bind fun r60 => (some ((bytesOf r60), 0))) else none)) else none)) else none)) else ((g_timecode_digits0 l_1.H).bind fun r69 => (if (r69.length + 1) * 1 ≤ 140737488355328 then ((g_timecode_digits (r69 ++ [58]) l_1.M).bind fun r81 => (if (r81.length + 1) * 1 ≤ 140737488355328 then ((g_timecode_digits (r81 ++ [58]) l_1.S).bind fun r93 => (if (r93.length + 1) * 1 ≤ 140737488355328 then ((g_timecode_digits (r93 ++ [58]) l_1.F).bind fun r102 => (some ((bytesOf r102), 0))) else none)) else none)) else none)))))
theorem a_timecode_Text {I : World → Prop} (hI : Stab I) {r_0 : Int} {l_1 : T_api_Label} {r : (List UInt8) × Int} (h : g_timecode_Text r_0 l_1 = some r) : AFun Tryz.prog I 78 [.int .u8 r_0, T_api_Label.d l_1] (.tup [.str r.1, .int .i64 r.2]) := by
  have dd := dd_EB; have k := True.intro; have q := k; have rs := Tryz.results78
  unfold g_timecode_Text at h
  refine .en hI Tryz.func78 Tryz.ntmps78 ?_
  refine xs <| rz ?_
  refine es <| xs <| xs <| rK fun K6 RK6 hK6 gK6 => zz ?_
  obtain ⟨r7, h8, h⟩ := bs h
  refine cw (a_timecode_Check hI h8) <| zz ?_
  subst hK6 gK6
  refine es <| xs <| rz ?_
  refine es ?_
  rcases iK k h with ⟨k, h⟩ | ⟨k, h⟩
  · refine xt <| xs <| rz ?_
    refine es <| xr <| er ?_
    cases h
    exact en fr
  · refine xf <| xk <| es <| xs <| rz ?_
    refine es <| xs <| xs <| rz ?_
    refine es ?_
    rcases iK k h with ⟨k, h⟩ | ⟨k, h⟩
    · refine xt <| rz ?_
      refine es <| xs <| rK fun K26 RK26 hK26 gK26 => zz ?_
      obtain ⟨r27, h28, h⟩ := bs h
      refine cW.introR (a_timecode_digits0 hI (nid := 15) h28) fs rfl <| zz ?_
      obtain ⟨h29, h⟩ := ite_on h
      have h30 : r27.length + 1 ≤ 9223372036854775807 := by omega
      try simp only [Nat.reduceLeDiff] at h30
      have h31 : r27.length + 1 ≤ 140737488355328 := by omega
      try simp only [Nat.reduceLeDiff] at h31
      have q := And.intro @h30 <| And.intro @h31 <| And.intro @h29 <| q
      refine zz ?_
      subst hK26 gK26
      refine es <| xs <| rK fun K38 RK38 hK38 gK38 => zz ?_
      obtain ⟨r39, h40, h⟩ := bs h
      refine cW.introR (a_timecode_digits hI (nid := 22) (i0 := 17) h40 fz) fs rfl <| zz ?_
      obtain ⟨h41, h⟩ := ite_on h
      have h42 : r39.length + 1 ≤ 9223372036854775807 := by omega
      try simp only [Nat.reduceLeDiff] at h42
      have h43 : r39.length + 1 ≤ 140737488355328 := by omega
      try simp only [Nat.reduceLeDiff] at h43
      have q := And.intro @h42 <| And.intro @h43 <| And.intro @h41 <| q
      refine zz ?_
      subst hK38 gK38
      refine es <| xs <| rK fun K50 RK50 hK50 gK50 => zz ?_
      obtain ⟨r51, h52, h⟩ := bs h
      refine cW.introR (a_timecode_digits hI (nid := 29) (i0 := 24) h52 fz) fs rfl <| zz ?_
      obtain ⟨h53, h⟩ := ite_on h
      have h54 : r51.length + 1 ≤ 9223372036854775807 := by omega
      try simp only [Nat.reduceLeDiff] at h54
      have h55 : r51.length + 1 ≤ 140737488355328 := by omega
      try simp only [Nat.reduceLeDiff] at h55
      have q := And.intro @h54 <| And.intro @h55 <| And.intro @h53 <| q
      refine zz ?_
      subst hK50 gK50
      refine es <| xs <| rK fun K59 RK59 hK59 gK59 => zz ?_
      obtain ⟨r60, h61, h⟩ := bs h
      refine cW.introR (a_timecode_digits hI (nid := 37) (i0 := 32) h61 fz) fs rfl <| zz ?_
      subst hK59 gK59
      refine es <| xr ?_
      cases h
      exact en fr
    · refine xf <| xk <| es <| xs <| rK fun K68 RK68 hK68 gK68 => zz ?_
      obtain ⟨r69, h70, h⟩ := bs h
      refine cW.introR (a_timecode_digits0 hI (nid := 14) h70) fs rfl <| zz ?_
      obtain ⟨h71, h⟩ := ite_on h
      have h72 : r69.length + 1 ≤ 9223372036854775807 := by omega
      try simp only [Nat.reduceLeDiff] at h72
      have h73 : r69.length + 1 ≤ 140737488355328 := by omega
      try simp only [Nat.reduceLeDiff] at h73
      have q := And.intro @h72 <| And.intro @h73 <| And.intro @h71 <| q
      refine zz ?_
      subst hK68 gK68
      refine es <| xs <| rK fun K80 RK80 hK80 gK80 => zz ?_
      obtain ⟨r81, h82, h⟩ := bs h
      refine cW.introR (a_timecode_digits hI (nid := 21) (i0 := 16) h82 fz) fs rfl <| zz ?_
      obtain ⟨h83, h⟩ := ite_on h
      have h84 : r81.length + 1 ≤ 9223372036854775807 := by omega
      try simp only [Nat.reduceLeDiff] at h84
      have h85 : r81.length + 1 ≤ 140737488355328 := by omega
      try simp only [Nat.reduceLeDiff] at h85
      have q := And.intro @h84 <| And.intro @h85 <| And.intro @h83 <| q
      refine zz ?_
      subst hK80 gK80
      refine es <| xs <| rK fun K92 RK92 hK92 gK92 => zz ?_
      obtain ⟨r93, h94, h⟩ := bs h
      refine cW.introR (a_timecode_digits hI (nid := 28) (i0 := 23) h94 fz) fs rfl <| zz ?_
      obtain ⟨h95, h⟩ := ite_on h
      have h96 : r93.length + 1 ≤ 9223372036854775807 := by omega
      try simp only [Nat.reduceLeDiff] at h96
      have h97 : r93.length + 1 ≤ 140737488355328 := by omega
      try simp only [Nat.reduceLeDiff] at h97
      have q := And.intro @h96 <| And.intro @h97 <| And.intro @h95 <| q
      refine zz ?_
      subst hK92 gK92
      refine es <| xs <| rK fun K101 RK101 hK101 gK101 => zz ?_
      obtain ⟨r102, h103, h⟩ := bs h
      refine cW.introR (a_timecode_digits hI (nid := 36) (i0 := 31) h103 fz) fs rfl <| zz ?_
      subst hK101 gK101
      refine es <| xr ?_
      cases h
      exact en fr
end Go.Proofs.YtnjjdbljoligdaaGreatDoor
namespace Go.Proofs.YtnjjdbljoligdaaGreatDoor
open Go.RowKit
set_option maxRecDepth 100000
set_option maxHeartbeats 10000000
theorem dd_ED : (∀ x, T_api_Ratio.d x = .agg [.int .i64 x.Num, .int .i64 x.Den]) ∧ (∀ x, T_api_Label.d x = .agg [.int .i64 x.H, .int .i64 x.M, .int .i64 x.S, .int .i64 x.F, .bool x.Drop]) := ⟨fun _ => rfl, fun _ => rfl⟩
def g_ref08_Repertoire  : Option ((List UInt8)) :=
  (some [32, 33, 34, 35, 36, 37, 38, 39, 40, 41, 42, 43, 44, 45, 46, 47, 48, 49, 50, 51, 52, 53, 54, 55, 56, 57, 58, 59, 60, 61, 62, 63, 64, 65, 66, 67, 68, 69, 70, 71, 72, 73, 74, 75, 76, 77, 78, 79, 80, 81, 82, 83, 84, 85, 86, 87, 88, 89, 90, 91, 92, 93, 94, 95, 96, 97, 98, 99, 100, 101, 102, 103, 104, 105, 106, 107, 108, 109, 110, 111, 112, 113, 114, 115, 116, 117, 118, 119, 120, 121, 122, 123, 124, 125, 126, 194, 161, 194, 162, 194, 163, 194, 164, 194, 165, 194, 166, 194, 167, 194, 169, 194, 171, 194, 174, 194, 176, 194, 183, 194, 187, 194, 189, 194, 191, 195, 128, 195, 129, 195, 130, 195, 131, 195, 132, 195, 133, 195, 134, 195, 135, 195, 136, 195, 137, 195, 138, 195, 139, 195, 140, 195, 141, 195, 142, 195, 143, 195, 145, 195, 146, 195, 147, 195, 148, 195, 149, 195, 150, 195, 152, 195, 153, 195, 154, 195, 155, 195, 156, 195, 159, 195, 160, 195, 161, 195, 162, 195, 163, 195, 164, 195, 165, 195, 166, 195, 167, 195, 168, 195, 169, 195, 170, 195, 171, 195, 172, 195, 173, 195, 174, 195, 175, 195, 177, 195, 178, 195, 179, 195, 180, 195, 181, 195, 182, 195, 184, 195, 185, 195, 186, 195, 187, 195, 188, 197, 146, 197, 147, 226, 128, 148, 226, 128, 152, 226, 128, 153, 226, 128, 156, 226, 128, 157, 226, 128, 162, 226, 128, 166, 226, 132, 162, 226, 153, 170])
theorem a_ref08_Repertoire {I : World → Prop} (hI : Stab I)  {r : (List UInt8)} (h : g_ref08_Repertoire  = some r) : AFun Tryz.prog I 113 [] (.str r) := by
  have dd := dd_ED; have k := True.intro; have q := k; have rs := Tryz.results113
  unfold g_ref08_Repertoire at h
  refine .en hI Tryz.func113 Tryz.ntmps113 ?_
  refine xs <| rz ?_
  refine es <| xs <| rz ?_
  refine es <| xr ?_
  cases h
  exact en fr
def g_ref08_Index_s1 (r_0 : Int) (r18 : (List UInt8)) (x20 : Int × Nat) : Option (Nx (Int × Nat) (Int ⊕ Unit)) :=
  (if (decide (x20.2 < r18.length)) then (if ((runeAt r18 x20.2) == r_0) then (some (.out (.inl x20.1))) else (some (.go ((IntKind.i64.wrap (x20.1 + 1)), (x20.2 + widthAt r18 x20.2))))) else (some (.out (.inr ()))))
def g_ref08_Index (r_0 : Int) : Option (Int) :=
  (((if (decide (32 ≤ r_0)) then (some (decide (r_0 ≤ 126))) else (some false)) : Option (Bool)).bind fun v5 => (if v5 then (some (IntKind.i64.wrap (IntKind.i32.wrap (r_0 - 32)))) else ((g_ref08_Repertoire).bind fun r18 => ((iter (g_ref08_Index_s1 r_0 r18) (0, 0)).bind fun e21 => (match e21 with | Sum.inl e21 => (some e21) | Sum.inr (e21) => (some (-1)))))))
theorem a_ref08_Index {I : World → Prop} (hI : Stab I) {r_0 : Int} {r : Int} (h : g_ref08_Index r_0 = some r) : AFun Tryz.prog I 64 [.int .i32 r_0] (.int .i64 r) := by
  have dd := dd_ED; have k := True.intro; have q := k; have rs := Tryz.results64
  unfold g_ref08_Index at h
  refine .en hI Tryz.func64 Tryz.ntmps64 ?_
  refine xs <| rz ?_
  refine es <| xs ?_
  obtain ⟨v5, h8, h⟩ := bs h
  refine rb_cut (fun v5 => ⟨envL [(0, .int .i32 r_0), (11, .bool v5)], heapL [], 0, 26⟩) h8 ?_ ?_
  · clear h
    intro v5 h
    refine rK fun K6 RK6 hK6 gK6 => zz ?_
    rcases iK k h with ⟨k, h⟩ | ⟨k, h⟩
    · refine zz ?_
      subst hK6 gK6
      cases h
      exact en ⟨rfl, wk []⟩
    · refine zz ?_
      subst hK6 gK6
      cases h
      exact en ⟨rfl, wk []⟩
  · rcases iK k h with ⟨k, h⟩ | ⟨k, h⟩
    · refine xt <| xs <| rz ?_
      refine es <| xr <| er ?_
      cases h
      exact en fr
    · refine xf <| xk <| es <| xs <| rz ?_
      refine es <| xs <| xs <| rK fun K17 RK17 hK17 gK17 => zz ?_
      obtain ⟨r18, h19, h⟩ := bs h
      refine cw (a_ref08_Repertoire hI h19) <| zz ?_
      subst hK17 gK17
      refine es <| xb ?_
      obtain ⟨e21, h46, h⟩ := bs h
      refine rb_loop (fun x20 => ⟨envL [(0, .int .i32 r_0), (3, .int .i64 x20.1), (16, .ptr 0 0)], heapL [(0, .iter r18 x20.2)], 1, 26⟩) (fun w => match w with | Sum.inl _ => .ret | Sum.inr (_) => .exit 0) (fun w => match w with | Sum.inl e21 => ⟨envL [(2, .int .i64 e21)], heapL [], 0, 26⟩ | Sum.inr (e21) => ⟨envL [], heapL [], 0, 26⟩) h46 (wk [(0, some 2)]) (by intro w; rcases w with w | w <;> simp) ?_ ?_
      · clear h
        intro x20 y h
        unfold g_ref08_Index_s1 at h
        refine xs <| rK fun K36 RK36 hK36 gK36 => zz ?_
        rcases iK k h with ⟨k, h⟩ | ⟨k, h⟩
        · have k := And.intro (of_decide_eq_true k.1) k.2
          refine zz ?_
          subst hK36 gK36
          refine es <| xs <| xt <| xk <| es <| xb <| xs <| rz ?_
          refine es <| xs <| xs <| rz ?_
          refine es ?_
          rcases iK k h with ⟨k, h⟩ | ⟨k, h⟩
          · refine xt <| xs <| rz ?_
            refine es <| xr <| er <| br ?_
            cases h
            exact en ⟨rfl, wk []⟩
          · refine xf <| xk <| es <| rz ?_
            refine bn ?_
            cases h
            exact en ⟨rfl, wk []⟩
        · have k := And.intro (of_decide_eq_false k.1) k.2
          refine zz ?_
          subst hK36 gK36
          refine es <| xs <| xf <| xx <| ee ?_
          cases h
          exact en ⟨rfl, wk []⟩
      · rcases e21 with e21 | e21
        · try dsimp only at h ⊢
          refine br <| er ?_
          cases h
          exact en fr
        · try dsimp only at h ⊢
          refine bh <| es <| xs <| rz ?_
          refine es <| xr ?_
          cases h
          exact en fr
def g_ref08_Valid_s1 (s_0 : List UInt8) (x5 : Nat) : Option (Nx (Nat) (Unit ⊕ Unit)) :=
  (if (decide (x5 < s_0.length)) then ((g_ref08_Index (runeAt s_0 x5)).bind fun r32 => (if (decide (r32 < 0)) then (some (.out (.inl ()))) else (some (.go (x5 + widthAt s_0 x5))))) else (some (.out (.inr ()))))
def g_ref08_Valid (s_0 : List UInt8) : Option (Bool) :=
  ((iter (g_ref08_Valid_s1 s_0) 0).bind fun e6 => (match e6 with | Sum.inl e6 => (some false) | Sum.inr (e6) => (some true)))
theorem a_ref08_Valid {I : World → Prop} (hI : Stab I) {s_0 : List UInt8} {r : Bool} (h : g_ref08_Valid s_0 = some r) : AFun Tryz.prog I 31 [.str s_0] (.bool r) := by
  have dd := dd_ED; have k := True.intro; have q := k; have rs := Tryz.results31
  unfold g_ref08_Valid at h
  refine .en hI Tryz.func31 Tryz.ntmps31 ?_
  refine xs <| rz ?_
  refine es <| xs <| xs <| rz ?_
  refine es <| xb ?_
  obtain ⟨e6, h37, h⟩ := bs h
  refine rb_loop (fun x5 => ⟨envL [(6, .ptr 0 0)], heapL [(0, .iter s_0 x5)], 1, 13⟩) (fun w => match w with | Sum.inl _ => .ret | Sum.inr (_) => .exit 0) (fun w => match w with | Sum.inl e6 => ⟨envL [(2, .bool false)], heapL [], 0, 13⟩ | Sum.inr (e6) => ⟨envL [], heapL [], 0, 13⟩) h37 (wk [(0, some 2)]) (by intro w; rcases w with w | w <;> simp) ?_ ?_
  · clear h
    intro x5 y h
    unfold g_ref08_Valid_s1 at h
    refine xs <| rK fun K24 RK24 hK24 gK24 => zz ?_
    rcases iK k h with ⟨k, h⟩ | ⟨k, h⟩
    · have k := And.intro (of_decide_eq_true k.1) k.2
      refine zz ?_
      subst hK24 gK24
      refine es <| xs <| xt <| xk <| es <| xb <| xs <| rz ?_
      refine es <| xs <| rK fun K31 RK31 hK31 gK31 => zz ?_
      obtain ⟨r32, h33, h⟩ := bs h
      refine cw (a_ref08_Index hI h33) <| zz ?_
      subst hK31 gK31
      refine es ?_
      rcases iK k h with ⟨k, h⟩ | ⟨k, h⟩
      · refine xt <| xs <| rz ?_
        refine es <| xr <| br ?_
        cases h
        exact en ⟨rfl, wk []⟩
      · refine xf <| xk <| bn ?_
        cases h
        exact en ⟨rfl, wk []⟩
    · have k := And.intro (of_decide_eq_false k.1) k.2
      refine zz ?_
      subst hK24 gK24
      refine es <| xs <| xf <| xx <| ee ?_
      cases h
      exact en ⟨rfl, wk []⟩
  · rcases e6 with e6 | e6
    · try dsimp only at h ⊢
      refine br <| er ?_
      cases h
      exact en fr
    · try dsimp only at h ⊢
      refine bh <| es <| xs <| rz ?_
      refine es <| xr ?_
      cases h
      exact en fr
def g_ref02_Valid (r_0 : Int) : Option (Bool) :=
  (if (decide (1 ≤ r_0)) then (some (decide (r_0 ≤ 7))) else (some false))
theorem a_ref02_Valid {I : World → Prop} (hI : Stab I) {r_0 : Int} {r : Bool} (h : g_ref02_Valid r_0 = some r) : AFun Tryz.prog I 65 [.int .u8 r_0] (.bool r) := by
  have dd := dd_ED; have k := True.intro; have q := k; have rs := Tryz.results65
  unfold g_ref02_Valid at h
  refine .en hI Tryz.func65 Tryz.ntmps65 ?_
  refine xs <| rz ?_
  refine es <| xs <| rK fun K5 RK5 hK5 gK5 => zz ?_
  rcases iK k h with ⟨k, h⟩ | ⟨k, h⟩
  · refine zz ?_
    subst hK5 gK5
    refine es <| xr ?_
    cases h
    exact en fr
  · refine zz ?_
    subst hK5 gK5
    refine es <| xr ?_
    cases h
    exact en fr
def g_ref02_CanDrop (r_0 : Int) : Option (Bool) :=
  (if (r_0 == 4) then (some true) else (some (r_0 == 7)))
theorem a_ref02_CanDrop {I : World → Prop} (hI : Stab I) {r_0 : Int} {r : Bool} (h : g_ref02_CanDrop r_0 = some r) : AFun Tryz.prog I 66 [.int .u8 r_0] (.bool r) := by
  have dd := dd_ED; have k := True.intro; have q := k; have rs := Tryz.results66
  unfold g_ref02_CanDrop at h
  refine .en hI Tryz.func66 Tryz.ntmps66 ?_
  refine xs <| rz ?_
  refine es <| xs <| rK fun K5 RK5 hK5 gK5 => zz ?_
  rcases iK k h with ⟨k, h⟩ | ⟨k, h⟩
  · refine zz ?_
    subst hK5 gK5
    refine es <| xr ?_
    cases h
    exact en fr
  · refine zz ?_
    subst hK5 gK5
    refine es <| xr ?_
    cases h
    exact en fr
def g_ref02_Nominal (r_0 : Int) : Option (Int) :=
  ((g_ref02_Valid r_0).bind fun r7 => (if r7 then ((atI [24, 24, 25, 30, 30, 50, 60] (IntKind.u8.wrap (r_0 - 1))).bind fun y17 => (some y17)) else (some 0)))
theorem a_ref02_Nominal {I : World → Prop} (hI : Stab I) {r_0 : Int} {r : Int} (h : g_ref02_Nominal r_0 = some r) : AFun Tryz.prog I 67 [.int .u8 r_0] (.int .i64 r) := by
  have dd := dd_ED; have k := True.intro; have q := k; have rs := Tryz.results67
  unfold g_ref02_Nominal at h
  refine .en hI Tryz.func67 Tryz.ntmps67 ?_
  refine xs <| rz ?_
  refine es <| xs <| xs <| rK fun K6 RK6 hK6 gK6 => zz ?_
  obtain ⟨r7, h8, h⟩ := bs h
  refine cw (a_ref02_Valid hI h8) <| zz ?_
  subst hK6 gK6
  refine es ?_
  rcases iK k h with ⟨k, h⟩ | ⟨k, h⟩
  · refine xf <| xk <| es <| xs <| rK fun K16 RK16 hK16 gK16 => zz ?_
    obtain ⟨y17, h18, h⟩ := bind_some h
    obtain ⟨h19, h20, h21⟩ := atI_own h18
    have h21 := h21 (D.int .i64)
    simp only [List.map_cons, List.map_nil, dd] at h21
    have h20 : (IntKind.u8.wrap (r_0 - 1)) < 7 := by simpa using h20
    have q := And.intro h19 <| And.intro h20 <| And.intro @h21 q
    refine zz ?_
    subst hK16 gK16
    refine es <| xr ?_
    cases h
    exact en fr
  · refine xt <| xs <| rz ?_
    refine es <| xr <| er ?_
    cases h
    exact en fr
def g_ref02_Name (r_0 : Int) : Option ((List UInt8)) :=
  ((g_ref02_Valid r_0).bind fun r7 => (if r7 then ((atI [[50, 51, 46, 57, 55, 54], [50, 52], [50, 53], [50, 57, 46, 57, 55], [51, 48], [53, 48], [53, 57, 46, 57, 52]] (IntKind.u8.wrap (r_0 - 1))).bind fun y17 => (some y17)) else (some [])))
theorem a_ref02_Name {I : World → Prop} (hI : Stab I) {r_0 : Int} {r : (List UInt8)} (h : g_ref02_Name r_0 = some r) : AFun Tryz.prog I 45 [.int .u8 r_0] (.str r) := by
  have dd := dd_ED; have k := True.intro; have q := k; have rs := Tryz.results45
  unfold g_ref02_Name at h
  refine .en hI Tryz.func45 Tryz.ntmps45 ?_
  refine xs <| rz ?_
  refine es <| xs <| xs <| rK fun K6 RK6 hK6 gK6 => zz ?_
  obtain ⟨r7, h8, h⟩ := bs h
  refine cw (a_ref02_Valid hI h8) <| zz ?_
  subst hK6 gK6
  refine es ?_
  rcases iK k h with ⟨k, h⟩ | ⟨k, h⟩
  · refine xf <| xk <| es <| xs <| rK fun K16 RK16 hK16 gK16 => zz ?_
    obtain ⟨y17, h18, h⟩ := bind_some h
    obtain ⟨h19, h20, h21⟩ := atI_own h18
    have h21 := h21 D.str
    simp only [List.map_cons, List.map_nil, dd] at h21
    have h20 : (IntKind.u8.wrap (r_0 - 1)) < 7 := by simpa using h20
    have q := And.intro h19 <| And.intro h20 <| And.intro @h21 q
    refine zz ?_
    subst hK16 gK16
    refine es <| xr ?_
    cases h
    exact en fr
  · refine xt <| xs <| rz ?_
    refine es <| xr <| er ?_
    cases h
    exact en fr
def g_ref02_Rates  : Option ((List Int)) :=
  (some [1, 2, 3, 4, 5, 6, 7])
theorem a_ref02_Rates {I : World → Prop} (hI : Stab I)  {r : (List Int)} (h : g_ref02_Rates  = some r) : AFun Tryz.prog I 150 [] (.sl (r.map (D.int .u8))) := by
  have dd := dd_ED; have k := True.intro; have q := k; have rs := Tryz.results150
  unfold g_ref02_Rates at h
  refine .en hI Tryz.func150 Tryz.ntmps150 ?_
  refine xs <| rz ?_
  refine es <| xs <| rz ?_
  refine es <| xr ?_
  cases h
  exact en fr
def g_ref02_Parse_s1 (s_0 : List UInt8) (r7 : (List Int)) (x9 : Int) : Option (Nx (Int) (Int ⊕ Unit)) :=
  (if (decide (x9 < (r7.length : Int))) then ((atI r7 x9).bind fun y69 => ((g_ref02_Name y69).bind fun r75 => (if (r75 == s_0) then (some (.out (.inl y69))) else (some (.go (IntKind.i64.wrap (x9 + 1))))))) else (some (.out (.inr ()))))
def g_ref02_Parse (s_0 : List UInt8) : Option (Int × Int) :=
  ((g_ref02_Rates).bind fun r7 => ((iter (g_ref02_Parse_s1 s_0 r7) 0).bind fun e10 => (match e10 with | Sum.inl e10 => (some (e10, 0)) | Sum.inr (e10) => (some (0, 4)))))
theorem a_ref02_Parse {I : World → Prop} (hI : Stab I) {s_0 : List UInt8} {r : Int × Int} (h : g_ref02_Parse s_0 = some r) : AFun Tryz.prog I 99 [.str s_0] (.tup [.int .u8 r.1, .int .i64 r.2]) := by
  have dd := dd_ED; have k := True.intro; have q := k; have rs := Tryz.results99
  unfold g_ref02_Parse at h
  refine .en hI Tryz.func99 Tryz.ntmps99 ?_
  refine xs <| rz ?_
  refine es <| xs <| xs <| rK fun K6 RK6 hK6 gK6 => zz ?_
  obtain ⟨r7, h8, h⟩ := bs h
  refine cw (a_ref02_Rates hI h8) <| zz ?_
  subst hK6 gK6
  refine es <| xb ?_
  obtain ⟨e10, h81, h⟩ := bs h
  refine rb_loop (fun x9 => ⟨envL [(0, .str s_0), (6, .sl (r7.map (D.int .u8))), (7, .int .i64 (r7.length : Int)), (8, .int .i64 x9)], heapL [], 0, 18⟩) (fun w => match w with | Sum.inl _ => .ret | Sum.inr (_) => .exit 0) (fun w => match w with | Sum.inl e10 => ⟨envL [(2, .int .u8 e10), (3, .int .i64 0)], heapL [], 0, 18⟩ | Sum.inr (e10) => ⟨envL [], heapL [], 0, 18⟩) h81 (wk []) (by intro w; rcases w with w | w <;> simp) ?_ ?_
  · clear h
    intro x9 y h
    unfold g_ref02_Parse_s1 at h
    refine xs <| rz ?_
    refine es <| xs ?_
    rcases iK k h with ⟨k, h⟩ | ⟨k, h⟩
    · refine xt <| xk <| es <| xs <| xb <| xs <| rK fun K68 RK68 hK68 gK68 => zz ?_
      obtain ⟨y69, q, h⟩ := bK q h
      refine zz ?_
      subst hK68 gK68
      refine es <| xs <| rK fun K74 RK74 hK74 gK74 => zz ?_
      obtain ⟨r75, h76, h⟩ := bs h
      refine cw (a_ref02_Name hI h76) <| zz ?_
      subst hK74 gK74
      refine es ?_
      rcases iK k h with ⟨k, h⟩ | ⟨k, h⟩
      · refine xt <| xs <| rz ?_
        refine es <| xr <| br <| er ?_
        cases h
        exact en ⟨rfl, wk []⟩
      · refine xf <| xk <| bn <| es <| rz ?_
        cases h
        exact en ⟨rfl, wk []⟩
    · refine xf <| xx <| ee ?_
      cases h
      exact en ⟨rfl, wk []⟩
  · rcases e10 with e10 | e10
    · try dsimp only at h ⊢
      refine br <| er ?_
      cases h
      exact en fr
    · try dsimp only at h ⊢
      refine bh <| es <| xs <| rz ?_
      refine es <| xr ?_
      cases h
      exact en fr
def g_ref03_Dropped (r_0 : Int) : Option (Int) :=
  (if (r_0 == 7) then (some 4) else (some 2))
theorem a_ref03_Dropped {I : World → Prop} (hI : Stab I) {r_0 : Int} {r : Int} (h : g_ref03_Dropped r_0 = some r) : AFun Tryz.prog I 68 [.int .u8 r_0] (.int .i64 r) := by
  have dd := dd_ED; have k := True.intro; have q := k; have rs := Tryz.results68
  unfold g_ref03_Dropped at h
  refine .en hI Tryz.func68 Tryz.ntmps68 ?_
  refine xs <| rz ?_
  refine es <| xs <| xs <| rz ?_
  refine es ?_
  rcases iK k h with ⟨k, h⟩ | ⟨k, h⟩
  · refine xt <| xs <| rz ?_
    refine es <| xr <| er ?_
    cases h
    exact en fr
  · refine xf <| xk <| es <| xs <| rz ?_
    refine es <| xr ?_
    cases h
    exact en fr
def g_ref03_Day (r_0 : Int) (drop_1 : Bool) : Option (Int) :=
  ((((g_ref02_Valid r_0).bind fun r12 => (if r12 then (if drop_1 then ((g_ref02_CanDrop r_0).bind fun r16 => (some (!r16))) else (some false)) else (some true))) : Option (Bool)).bind fun v10 => (if v10 then (some 0) else ((g_ref02_Nominal r_0).bind fun r26 => (if drop_1 then ((g_ref03_Dropped r_0).bind fun r32 => (some (IntKind.i64.wrap ((IntKind.i64.wrap (86400 * r26)) - (IntKind.i64.wrap (r32 * 1296)))))) else (some (IntKind.i64.wrap (86400 * r26)))))))
theorem a_ref03_Day {I : World → Prop} (hI : Stab I) {r_0 : Int} {drop_1 : Bool} {r : Int} (h : g_ref03_Day r_0 drop_1 = some r) : AFun Tryz.prog I 32 [.int .u8 r_0, .bool drop_1] (.int .i64 r) := by
  have dd := dd_ED; have k := True.intro; have q := k; have rs := Tryz.results32
  unfold g_ref03_Day at h
  refine .en hI Tryz.func32 Tryz.ntmps32 ?_
  refine xs <| rz ?_
  refine es <| xs ?_
  obtain ⟨v10, h18, h⟩ := bs h
  refine rb_cut (fun v10 => ⟨envL [(0, .int .u8 r_0), (1, .bool drop_1), (16, .bool v10)], heapL [], 0, 27⟩) h18 ?_ ?_
  · clear h
    intro v10 h
    refine rK fun K11 RK11 hK11 gK11 => zz ?_
    obtain ⟨r12, h13, h⟩ := bs h
    refine cw (a_ref02_Valid hI h13) <| zz ?_
    rcases iK k h with ⟨k, h⟩ | ⟨k, h⟩
    · refine zz ?_
      rcases iK k h with ⟨k, h⟩ | ⟨k, h⟩
      · refine zz ?_
        obtain ⟨r16, h17, h⟩ := bs h
        refine cw (a_ref02_CanDrop hI h17) <| zz ?_
        subst hK11 gK11
        cases h
        exact en ⟨rfl, wk []⟩
      · refine zz ?_
        subst hK11 gK11
        cases h
        exact en ⟨rfl, wk []⟩
    · refine zz ?_
      subst hK11 gK11
      cases h
      exact en ⟨rfl, wk []⟩
  · rcases iK k h with ⟨k, h⟩ | ⟨k, h⟩
    · refine xt <| xs <| rz ?_
      refine es <| xr <| er ?_
      cases h
      exact en fr
    · refine xf <| xk <| es <| xs <| rK fun K25 RK25 hK25 gK25 => zz ?_
      obtain ⟨r26, h27, h⟩ := bs h
      refine cw (a_ref02_Nominal hI h27) <| zz ?_
      subst hK25 gK25
      refine es <| xs <| xs <| rz ?_
      refine es ?_
      rcases iK k h with ⟨k, h⟩ | ⟨k, h⟩
      · refine xt <| rK fun K31 RK31 hK31 gK31 => zz ?_
        obtain ⟨r32, h33, h⟩ := bs h
        refine cw (a_ref03_Dropped hI h33) <| zz ?_
        subst hK31 gK31
        refine es <| xs <| rz ?_
        refine es <| xr ?_
        cases h
        exact en fr
      · refine xf <| xk <| es <| xs <| rz ?_
        refine es <| xr ?_
        cases h
        exact en fr
def g_ref01_Size (n_0 : Int) : Option (Int) :=
  (if (decide (n_0 < 0)) then (some (IntKind.i64.wrap (0 - n_0))) else (some n_0))
theorem a_ref01_Size {I : World → Prop} (hI : Stab I) {n_0 : Int} {r : Int} (h : g_ref01_Size n_0 = some r) : AFun Tryz.prog I 159 [.int .i64 n_0] (.int .i64 r) := by
  have dd := dd_ED; have k := True.intro; have q := k; have rs := Tryz.results159
  unfold g_ref01_Size at h
  refine .en hI Tryz.func159 Tryz.ntmps159 ?_
  refine xs <| rz ?_
  refine es <| xs <| xs <| rz ?_
  refine es ?_
  rcases iK k h with ⟨k, h⟩ | ⟨k, h⟩
  · refine xt <| xs <| rz ?_
    refine es <| xr <| er ?_
    cases h
    exact en fr
  · refine xf <| xk <| es <| xs <| rz ?_
    refine es <| xr ?_
    cases h
    exact en fr
def g_ref01_Gcd_s1  (x33 : Int × Int) : Option (Nx (Int × Int) (Int)) :=
  (if (x33.2 != 0) then (if ¬ x33.2 = 0 then (some (.go (x33.2, (Int.tmod x33.1 x33.2)))) else none) else (some (.out x33.1)))
def g_ref01_Gcd (a_0 : Int) (b_1 : Int) : Option (Int) :=
  (((if (a_0 == (-9223372036854775808)) then (some true) else (some (b_1 == (-9223372036854775808)))) : Option (Bool)).bind fun v5 => (if v5 then (some 0) else ((g_ref01_Size a_0).bind fun r18 => ((g_ref01_Size b_1).bind fun r20 => ((iter (g_ref01_Gcd_s1) (r18, r20)).bind fun e34 => (some e34))))))
theorem a_ref01_Gcd {I : World → Prop} (hI : Stab I) {a_0 : Int} {b_1 : Int} {r : Int} (h : g_ref01_Gcd a_0 b_1 = some r) : AFun Tryz.prog I 115 [.int .i64 a_0, .int .i64 b_1] (.int .i64 r) := by
  have dd := dd_ED; have k := True.intro; have q := k; have rs := Tryz.results115
  unfold g_ref01_Gcd at h
  refine .en hI Tryz.func115 Tryz.ntmps115 ?_
  refine xs <| rz ?_
  refine es <| xs ?_
  obtain ⟨v5, h8, h⟩ := bs h
  refine rb_cut (fun v5 => ⟨envL [(0, .int .i64 a_0), (1, .int .i64 b_1), (10, .bool v5)], heapL [], 0, 22⟩) h8 ?_ ?_
  · clear h
    intro v5 h
    refine rK fun K6 RK6 hK6 gK6 => zz ?_
    rcases iK k h with ⟨k, h⟩ | ⟨k, h⟩
    · refine zz ?_
      subst hK6 gK6
      cases h
      exact en ⟨rfl, wk []⟩
    · refine zz ?_
      subst hK6 gK6
      cases h
      exact en ⟨rfl, wk []⟩
  · rcases iK k h with ⟨k, h⟩ | ⟨k, h⟩
    · refine xt <| xs <| rz ?_
      refine es <| xr <| er ?_
      cases h
      exact en fr
    · refine xf <| xk <| es <| xs <| rK fun K17 RK17 hK17 gK17 => zz ?_
      obtain ⟨r18, h19, h⟩ := bs h
      refine cw (a_ref01_Size hI h19) <| zz ?_
      obtain ⟨r20, h21, h⟩ := bs h
      refine cw (a_ref01_Size hI h21) <| zz ?_
      subst hK17 gK17
      refine es <| xs <| xb ?_
      obtain ⟨e34, h43, h⟩ := bs h
      refine rb_loop (fun x33 => ⟨envL [(0, .int .i64 x33.1), (1, .int .i64 x33.2)], heapL [], 0, 22⟩) (fun _ => .exit 0) (fun e34 => ⟨envL [(0, .int .i64 e34)], heapL [], 0, 22⟩) h43 (wk []) (by intro w; simp) ?_ ?_
      · clear h
        intro x33 y h
        unfold g_ref01_Gcd_s1 at h
        refine xs <| xs <| rz ?_
        refine es ?_
        rcases iK k h with ⟨k, h⟩ | ⟨k, h⟩
        · refine xt <| xk <| es <| xb <| rD hI fun K42 RK42 hK42 gK42 => zz ?_
          obtain ⟨q, h⟩ := oK q h
          refine zz ?_
          subst hK42 gK42
          refine bn ?_
          cases h
          exact en ⟨rfl, wk []⟩
        · refine xf <| xx <| ee ?_
          cases h
          exact en ⟨rfl, wk []⟩
      · refine bh <| es <| xs <| rz ?_
        refine es <| xr ?_
        cases h
        exact en fr
def g_ref01_Valid (r_0 : T_api_Ratio) : Option (Bool) :=
  (if (decide (1 ≤ r_0.Den)) then (if (decide (r_0.Den ≤ 2147483648)) then (if (decide ((-2147483648) ≤ r_0.Num)) then (if (decide (r_0.Num ≤ 2147483648)) then ((g_ref01_Gcd r_0.Num r_0.Den).bind fun r15 => (some (r15 == 1))) else (some false)) else (some false)) else (some false)) else (some false))
theorem a_ref01_Valid {I : World → Prop} (hI : Stab I) {r_0 : T_api_Ratio} {r : Bool} (h : g_ref01_Valid r_0 = some r) : AFun Tryz.prog I 70 [T_api_Ratio.d r_0] (.bool r) := by
  have dd := dd_ED; have k := True.intro; have q := k; have rs := Tryz.results70
  unfold g_ref01_Valid at h
  refine .en hI Tryz.func70 Tryz.ntmps70 ?_
  refine xs <| rz ?_
  refine es <| xs <| rK fun K10 RK10 hK10 gK10 => zz ?_
  rcases iK k h with ⟨k, h⟩ | ⟨k, h⟩
  · refine zz ?_
    rcases iK k h with ⟨k, h⟩ | ⟨k, h⟩
    · refine zz ?_
      rcases iK k h with ⟨k, h⟩ | ⟨k, h⟩
      · refine zz ?_
        rcases iK k h with ⟨k, h⟩ | ⟨k, h⟩
        · refine zz ?_
          obtain ⟨r15, h16, h⟩ := bs h
          refine cw (a_ref01_Gcd hI h16) <| zz ?_
          subst hK10 gK10
          refine es <| xr ?_
          cases h
          exact en fr
        · refine zz ?_
          subst hK10 gK10
          refine es <| xr ?_
          cases h
          exact en fr
      · refine zz ?_
        subst hK10 gK10
        refine es <| xr ?_
        cases h
        exact en fr
    · refine zz ?_
      subst hK10 gK10
      refine es <| xr ?_
      cases h
      exact en fr
  · refine zz ?_
    subst hK10 gK10
    refine es <| xr ?_
    cases h
    exact en fr
def g_ref01_Decimal_b (rec : Int → Option ((List UInt8))) (n_0 : Int) : Option ((List UInt8)) :=
  (if (decide (n_0 < 0)) then ((rec (IntKind.i64.wrap (0 - n_0))).bind fun r12 => (if 1 + r12.length ≤ 9223372036854775807 then (some ([45] ++ r12)) else none)) else (if (decide (10 ≤ n_0)) then ((rec (IntKind.i64.wrap (Int.tdiv n_0 10))).bind fun r22 => (if r22.length + (bytesOf [(IntKind.u8.wrap (IntKind.i64.wrap (48 + (Int.tmod n_0 10))))]).length ≤ 9223372036854775807 then (some (r22 ++ (bytesOf [(IntKind.u8.wrap (IntKind.i64.wrap (48 + (Int.tmod n_0 10))))]))) else none)) else (some (bytesOf [(IntKind.u8.wrap (IntKind.i64.wrap (48 + (Int.tmod n_0 10))))]))))
theorem a_ref01_Decimal_b {I : World → Prop} (hI : Stab I) {rec : Int → Option ((List UInt8))} (hrec : ∀ {n_0 : Int} {r : (List UInt8)}, rec n_0 = some r → AFun Tryz.prog I 46 [.int .i64 n_0] (.str r)) {n_0 : Int} {r : (List UInt8)} (h : g_ref01_Decimal_b rec n_0 = some r) : AFun Tryz.prog I 46 [.int .i64 n_0] (.str r) := by
  have dd := dd_ED; have k := True.intro; have q := k; have rs := Tryz.results46
  unfold g_ref01_Decimal_b at h
  refine .en hI Tryz.func46 Tryz.ntmps46 ?_
  refine xs <| rz ?_
  refine es <| xs <| xs <| rz ?_
  refine es ?_
  rcases iK k h with ⟨k, h⟩ | ⟨k, h⟩
  · refine xt <| xs <| rK fun K11 RK11 hK11 gK11 => zz ?_
    obtain ⟨r12, h13, h⟩ := bs h
    refine cw (hrec h13) <| zz ?_
    obtain ⟨h14, h⟩ := ite_on h
    have h15 : ([45] : List UInt8).length + r12.length ≤ 9223372036854775807 := by (try simp only [List.length_append, List.length_cons, List.length_nil]); omega
    try simp -implicitDefEqProofs only [vt, vm, sevalprocAttr, dd, k, q] at h15
    have q := And.intro @h15 <| And.intro @h14 <| q
    refine zz ?_
    subst hK11 gK11
    refine es <| xr <| er ?_
    cases h
    exact en fr
  · refine xf <| xk <| es <| xs <| rz ?_
    refine es <| xs <| xs <| rz ?_
    refine es ?_
    rcases iK k h with ⟨k, h⟩ | ⟨k, h⟩
    · refine xt <| rK fun K21 RK21 hK21 gK21 => zz ?_
      obtain ⟨r22, h23, h⟩ := bs h
      refine cw (hrec h23) <| zz ?_
      obtain ⟨h24, h⟩ := ite_on h
      have h25 : r22.length + (bytesOf [(IntKind.u8.wrap (IntKind.i64.wrap (48 + (Int.tmod n_0 10))))]).length ≤ 9223372036854775807 := by (try simp only [List.length_append, List.length_cons, List.length_nil]); omega
      try simp -implicitDefEqProofs only [vt, vm, sevalprocAttr, dd, k, q] at h25
      have q := And.intro @h25 <| And.intro @h24 <| q
      refine zz ?_
      subst hK21 gK21
      refine es <| xs <| rz ?_
      refine es <| xr ?_
      cases h
      exact en fr
    · refine xf <| xk <| es <| xs <| rz ?_
      refine es <| xr ?_
      cases h
      exact en fr
def g_ref01_Decimal_n : Nat → Int → Option ((List UInt8))
  | 0 => fun _ => none
  | n + 1 => fun n_0 => g_ref01_Decimal_b (g_ref01_Decimal_n n) n_0
theorem a_ref01_Decimal_n {I : World → Prop} (hI : Stab I) : ∀ (n : Nat) {n_0 : Int} {r : (List UInt8)}, g_ref01_Decimal_n n n_0 = some r → AFun Tryz.prog I 46 [.int .i64 n_0] (.str r)
  | 0, _, _, h => by cases h
  | n + 1, _, _, h => a_ref01_Decimal_b hI (a_ref01_Decimal_n hI n) h
def g_ref01_Decimal (n_0 : Int) : Option ((List UInt8)) := g_ref01_Decimal_n 100 n_0
theorem a_ref01_Decimal {I : World → Prop} (hI : Stab I) {n_0 : Int} {r : (List UInt8)} (h : g_ref01_Decimal n_0 = some r) : AFun Tryz.prog I 46 [.int .i64 n_0] (.str r) := a_ref01_Decimal_n hI 100 h
def g_ref03_kind (r_0 : Int) (drop_1 : Bool) : Option (Int) :=
  ((g_ref02_Valid r_0).bind fun r7 => (if r7 then (if drop_1 then ((g_ref02_CanDrop r_0).bind fun r16 => (if r16 then (some 0) else (some 13))) else (some 0)) else (some 3)))
theorem a_ref03_kind {I : World → Prop} (hI : Stab I) {r_0 : Int} {drop_1 : Bool} {r : Int} (h : g_ref03_kind r_0 drop_1 = some r) : AFun Tryz.prog I 132 [.int .u8 r_0, .bool drop_1] (.int .i64 r) := by
  have dd := dd_ED; have k := True.intro; have q := k; have rs := Tryz.results132
  unfold g_ref03_kind at h
  refine .en hI Tryz.func132 Tryz.ntmps132 ?_
  refine xs <| rz ?_
  refine es <| xs <| xs <| rK fun K6 RK6 hK6 gK6 => zz ?_
  obtain ⟨r7, h8, h⟩ := bs h
  refine cw (a_ref02_Valid hI h8) <| zz ?_
  subst hK6 gK6
  refine es ?_
  rcases iK k h with ⟨k, h⟩ | ⟨k, h⟩
  · refine xf <| xk <| es <| xs <| xs <| rK fun K14 RK14 hK14 gK14 => zz ?_
    rcases iK k h with ⟨k, h⟩ | ⟨k, h⟩
    · refine zz ?_
      obtain ⟨r16, h17, h⟩ := bs h
      refine cw (a_ref02_CanDrop hI h17) <| zz ?_
      subst hK14 gK14
      refine es ?_
      rcases iK k h with ⟨k, h⟩ | ⟨k, h⟩
      · refine xf <| xk <| es <| xs <| rz ?_
        refine es <| xr ?_
        cases h
        exact en fr
      · refine xt <| xs <| rz ?_
        refine es <| xr <| er ?_
        cases h
        exact en fr
    · refine zz ?_
      subst hK14 gK14
      refine es <| xf <| xk <| es <| xs <| rz ?_
      refine es <| xr ?_
      cases h
      exact en fr
  · refine xt <| xs <| rz ?_
    refine es <| xr <| er ?_
    cases h
    exact en fr
def g_ref03_Check (r_0 : Int) (l_1 : T_api_Label) : Option (Int) :=
  ((g_ref03_kind r_0 l_1.Drop).bind fun r7 => (if (r7 != 0) then (some r7) else (((if (decide (l_1.H < 0)) then (some true) else (if (decide (23 < l_1.H)) then (some true) else (if (decide (l_1.M < 0)) then (some true) else (if (decide (59 < l_1.M)) then (some true) else (if (decide (l_1.S < 0)) then (some true) else (if (decide (59 < l_1.S)) then (some true) else (if (decide (l_1.F < 0)) then (some true) else ((g_ref02_Nominal r_0).bind fun r33 => (some (decide (r33 ≤ l_1.F))))))))))) : Option (Bool)).bind fun v24 => (if v24 then (some 2) else (if l_1.Drop then (if (l_1.S == 0) then (if ((Int.tmod l_1.M 10) != 0) then ((g_ref03_Dropped r_0).bind fun r49 => (if (decide (l_1.F < r49)) then (some 6) else (some 0))) else (some 0)) else (some 0)) else (some 0))))))
theorem a_ref03_Check {I : World → Prop} (hI : Stab I) {r_0 : Int} {l_1 : T_api_Label} {r : Int} (h : g_ref03_Check r_0 l_1 = some r) : AFun Tryz.prog I 133 [.int .u8 r_0, T_api_Label.d l_1] (.int .i64 r) := by
  have dd := dd_ED; have k := True.intro; have q := k; have rs := Tryz.results133
  unfold g_ref03_Check at h
  refine .en hI Tryz.func133 Tryz.ntmps133 ?_
  refine xs <| rz ?_
  refine es <| xs <| xs <| rK fun K6 RK6 hK6 gK6 => zz ?_
  obtain ⟨r7, h8, h⟩ := bs h
  refine cw (a_ref03_kind hI h8) <| zz ?_
  subst hK6 gK6
  refine es <| xs <| rz ?_
  refine es ?_
  rcases iK k h with ⟨k, h⟩ | ⟨k, h⟩
  · refine xt <| xs <| rz ?_
    refine es <| xr <| er ?_
    cases h
    exact en fr
  · refine xf <| xk <| es <| xs ?_
    obtain ⟨v24, h35, h⟩ := bs h
    refine rb_cut (fun v24 => ⟨envL [(0, .int .u8 r_0), (3, .ptr 0 0), (52, .bool v24)], heapL [(0, .box none [.int .i64 l_1.H, .int .i64 l_1.M, .int .i64 l_1.S, .int .i64 l_1.F, .bool l_1.Drop])], 1, 73⟩) h35 ?_ ?_
    · clear h
      intro v24 h
      refine rD hI fun K25 RK25 hK25 gK25 => zz ?_
      rcases iK k h with ⟨k, h⟩ | ⟨k, h⟩
      · refine zz ?_
        subst hK25 gK25
        cases h
        exact en ⟨rfl, wk []⟩
      · refine zz ?_
        rcases iK k h with ⟨k, h⟩ | ⟨k, h⟩
        · refine zz ?_
          subst hK25 gK25
          cases h
          exact en ⟨rfl, wk []⟩
        · refine zz ?_
          rcases iK k h with ⟨k, h⟩ | ⟨k, h⟩
          · refine zz ?_
            subst hK25 gK25
            cases h
            exact en ⟨rfl, wk []⟩
          · refine zz ?_
            rcases iK k h with ⟨k, h⟩ | ⟨k, h⟩
            · refine zz ?_
              subst hK25 gK25
              cases h
              exact en ⟨rfl, wk []⟩
            · refine zz ?_
              rcases iK k h with ⟨k, h⟩ | ⟨k, h⟩
              · refine zz ?_
                subst hK25 gK25
                cases h
                exact en ⟨rfl, wk []⟩
              · refine zz ?_
                rcases iK k h with ⟨k, h⟩ | ⟨k, h⟩
                · refine zz ?_
                  subst hK25 gK25
                  cases h
                  exact en ⟨rfl, wk []⟩
                · refine zz ?_
                  rcases iK k h with ⟨k, h⟩ | ⟨k, h⟩
                  · refine zz ?_
                    subst hK25 gK25
                    cases h
                    exact en ⟨rfl, wk []⟩
                  · refine zz ?_
                    obtain ⟨r33, h34, h⟩ := bs h
                    refine cd (a_ref02_Nominal hI h34) <| zz ?_
                    subst hK25 gK25
                    cases h
                    exact en ⟨rfl, wk []⟩
    · rcases iK k h with ⟨k, h⟩ | ⟨k, h⟩
      · refine xt <| xs <| rz ?_
        refine es <| xr <| er ?_
        cases h
        exact en fr
      · refine xf <| xk <| es <| xs <| xs <| rD hI fun K45 RK45 hK45 gK45 => zz ?_
        rcases iK k h with ⟨k, h⟩ | ⟨k, h⟩
        · refine zz ?_
          rcases iK k h with ⟨k, h⟩ | ⟨k, h⟩
          · refine zz ?_
            rcases iK k h with ⟨k, h⟩ | ⟨k, h⟩
            · refine zz ?_
              obtain ⟨r49, h50, h⟩ := bs h
              refine cd (a_ref03_Dropped hI h50) <| zz ?_
              subst hK45 gK45
              refine es ?_
              rcases iK k h with ⟨k, h⟩ | ⟨k, h⟩
              · refine xt <| xs <| rz ?_
                refine es <| xr <| er ?_
                cases h
                exact en fr
              · refine xf <| xk <| es <| xs <| rz ?_
                refine es <| xr ?_
                cases h
                exact en fr
            · refine zz ?_
              subst hK45 gK45
              refine es <| xf <| xk <| es <| xs <| rz ?_
              refine es <| xr ?_
              cases h
              exact en fr
          · refine zz ?_
            subst hK45 gK45
            refine es <| xf <| xk <| es <| xs <| rz ?_
            refine es <| xr ?_
            cases h
            exact en fr
        · refine zz ?_
          subst hK45 gK45
          refine es <| xf <| xk <| es <| xs <| rz ?_
          refine es <| xr ?_
          cases h
          exact en fr
def g_ref01_Text (r_0 : T_api_Ratio) : Option ((List UInt8)) :=
  ((g_ref01_Valid r_0).bind fun r7 => (if r7 then ((g_ref01_Decimal r_0.Num).bind fun r20 => (if r20.length + 1 ≤ 9223372036854775807 then ((g_ref01_Decimal r_0.Den).bind fun r24 => (if (r20.length + 1) + r24.length ≤ 9223372036854775807 then (some ((r20 ++ [47]) ++ r24)) else none)) else none)) else (some [])))
theorem a_ref01_Text {I : World → Prop} (hI : Stab I) {r_0 : T_api_Ratio} {r : (List UInt8)} (h : g_ref01_Text r_0 = some r) : AFun Tryz.prog I 48 [T_api_Ratio.d r_0] (.str r) := by
  have dd := dd_ED; have k := True.intro; have q := k; have rs := Tryz.results48
  unfold g_ref01_Text at h
  refine .en hI Tryz.func48 Tryz.ntmps48 ?_
  refine xs <| rz ?_
  refine es <| xs <| xs <| rK fun K6 RK6 hK6 gK6 => zz ?_
  obtain ⟨r7, h8, h⟩ := bs h
  refine cw (a_ref01_Valid hI h8) <| zz ?_
  subst hK6 gK6
  refine es ?_
  rcases iK k h with ⟨k, h⟩ | ⟨k, h⟩
  · refine xf <| xk <| es <| xs <| rD hI fun K19 RK19 hK19 gK19 => zz ?_
    obtain ⟨r20, h21, h⟩ := bs h
    refine cd (a_ref01_Decimal hI h21) <| zz ?_
    obtain ⟨h22, h⟩ := ite_on h
    have h23 : r20.length + ([47] : List UInt8).length ≤ 9223372036854775807 := by (try simp only [List.length_append, List.length_cons, List.length_nil]); omega
    try simp -implicitDefEqProofs only [vt, vm, sevalprocAttr, dd, k, q] at h23
    have q := And.intro @h23 <| And.intro @h22 <| q
    refine zz ?_
    obtain ⟨r24, h25, h⟩ := bs h
    refine cd (a_ref01_Decimal hI h25) <| zz ?_
    obtain ⟨h26, h⟩ := ite_on h
    have h27 : (r20 ++ [47]).length + r24.length ≤ 9223372036854775807 := by (try simp only [List.length_append, List.length_cons, List.length_nil]); omega
    try simp -implicitDefEqProofs only [vt, vm, sevalprocAttr, dd, k, q] at h27
    have q := And.intro @h27 <| And.intro @h26 <| q
    refine zz ?_
    subst hK19 gK19
    refine es <| xr ?_
    cases h
    exact en fr
  · refine xt <| xs <| rz ?_
    refine es <| xr <| er ?_
    cases h
    exact en fr
def g_ref03_Parse_s1 (s_1 : List UInt8) (x41 : Int × Int × Int × Int × Int) : Option (Nx (Int × Int × Int × Int × Int) (Unit ⊕ (Int × Int × Int × Int))) :=
  (if (decide (x41.1 < 4)) then ((atI s_1 (IntKind.i64.wrap (3 * x41.1))).bind fun b221 => ((atI s_1 (IntKind.i64.wrap ((IntKind.i64.wrap (3 * x41.1)) + 1))).bind fun b223 => (((if (decide ((b221.toNat : Int) < 48)) then (some true) else (if (decide (57 < (b221.toNat : Int))) then (some true) else (if (decide ((b223.toNat : Int) < 48)) then (some true) else (some (decide (57 < (b223.toNat : Int))))))) : Option (Bool)).bind fun v229 => (if v229 then (some (.out (.inl ()))) else (if x41.1 == 0 then (some (.go ((IntKind.i64.wrap (x41.1 + 1)), (IntKind.i64.wrap ((IntKind.i64.wrap ((IntKind.i64.wrap (IntKind.u8.wrap ((b221.toNat : Int) - 48))) * 10)) + (IntKind.i64.wrap (IntKind.u8.wrap ((b223.toNat : Int) - 48))))), x41.2.2.1, x41.2.2.2.1, x41.2.2.2.2))) else (if x41.1 == 1 then (some (.go ((IntKind.i64.wrap (x41.1 + 1)), x41.2.1, (IntKind.i64.wrap ((IntKind.i64.wrap ((IntKind.i64.wrap (IntKind.u8.wrap ((b221.toNat : Int) - 48))) * 10)) + (IntKind.i64.wrap (IntKind.u8.wrap ((b223.toNat : Int) - 48))))), x41.2.2.2.1, x41.2.2.2.2))) else (if x41.1 == 2 then (some (.go ((IntKind.i64.wrap (x41.1 + 1)), x41.2.1, x41.2.2.1, (IntKind.i64.wrap ((IntKind.i64.wrap ((IntKind.i64.wrap (IntKind.u8.wrap ((b221.toNat : Int) - 48))) * 10)) + (IntKind.i64.wrap (IntKind.u8.wrap ((b223.toNat : Int) - 48))))), x41.2.2.2.2))) else (if x41.1 == 3 then (some (.go ((IntKind.i64.wrap (x41.1 + 1)), x41.2.1, x41.2.2.1, x41.2.2.2.1, (IntKind.i64.wrap ((IntKind.i64.wrap ((IntKind.i64.wrap (IntKind.u8.wrap ((b221.toNat : Int) - 48))) * 10)) + (IntKind.i64.wrap (IntKind.u8.wrap ((b223.toNat : Int) - 48)))))))) else none)))))))) else (some (.out (.inr (x41.2.1, x41.2.2.1, x41.2.2.2.1, x41.2.2.2.2)))))
def g_ref03_Parse (r_0 : Int) (s_1 : List UInt8) : Option (T_api_Label × Int) :=
  ((g_ref02_Valid r_0).bind fun r7 => (if r7 then (((if ((s_1.length : Int) != 11) then (some true) else ((atI s_1 2).bind fun b24 => (if ((b24.toNat : Int) != 58) then (some true) else ((atI s_1 5).bind fun b27 => (if ((b27.toNat : Int) != 58) then (some true) else ((atI s_1 8).bind fun b30 => (if ((b30.toNat : Int) != 58) then (some ((b30.toNat : Int) != 59)) else (some false)))))))) : Option (Bool)).bind fun v21 => (if v21 then (some ((T_api_Label.mk 0 0 0 0 false), 4)) else ((iter (g_ref03_Parse_s1 s_1) (0, 0, 0, 0, 0)).bind fun e42 => (match e42 with | Sum.inl e42 => (some ((T_api_Label.mk 0 0 0 0 false), 4)) | Sum.inr (e42) => ((atI s_1 8).bind fun b252 => ((g_ref03_Check r_0 (T_api_Label.mk e42.1 e42.2.1 e42.2.2.1 e42.2.2.2 ((b252.toNat : Int) == 59))).bind fun r258 => (if (r258 != 0) then (some ((T_api_Label.mk 0 0 0 0 false), r258)) else (some ((T_api_Label.mk e42.1 e42.2.1 e42.2.2.1 e42.2.2.2 ((b252.toNat : Int) == 59)), 0))))))))) else (some ((T_api_Label.mk 0 0 0 0 false), 3))))
theorem a_ref03_Parse {I : World → Prop} (hI : Stab I) {r_0 : Int} {s_1 : List UInt8} {r : T_api_Label × Int} (h : g_ref03_Parse r_0 s_1 = some r) : AFun Tryz.prog I 153 [.int .u8 r_0, .str s_1] (.tup [T_api_Label.d r.1, .int .i64 r.2]) := by
  have dd := dd_ED; have k := True.intro; have q := k; have rs := Tryz.results153
  unfold g_ref03_Parse at h
  refine .en hI Tryz.func153 Tryz.ntmps153 ?_
  refine xs <| rz ?_
  refine es <| xs <| xs <| rK fun K6 RK6 hK6 gK6 => zz ?_
  obtain ⟨r7, h8, h⟩ := bs h
  refine cw (a_ref02_Valid hI h8) <| zz ?_
  subst hK6 gK6
  refine es ?_
  rcases iK k h with ⟨k, h⟩ | ⟨k, h⟩
  · refine xf <| xk <| es <| xs ?_
    obtain ⟨v21, h33, h⟩ := bs h
    refine rb_cut (fun v21 => ⟨envL [(0, .int .u8 r_0), (1, .str s_1), (4, .ptr 0 0), (38, .bool v21)], heapL [(0, .box none [.int .i64 0, .int .i64 0, .int .i64 0, .int .i64 0, .bool false])], 1, 98⟩) h33 ?_ ?_
    · clear h
      intro v21 h
      refine rK fun K22 RK22 hK22 gK22 => zz ?_
      rcases iK k h with ⟨k, h⟩ | ⟨k, h⟩
      · refine zz ?_
        subst hK22 gK22
        cases h
        exact en ⟨rfl, wk []⟩
      · refine zz ?_
        obtain ⟨b24, q, h⟩ := bK q h
        refine zz ?_
        rcases iK k h with ⟨k, h⟩ | ⟨k, h⟩
        · refine zz ?_
          subst hK22 gK22
          cases h
          exact en ⟨rfl, wk []⟩
        · refine zz ?_
          obtain ⟨b27, q, h⟩ := bK q h
          refine zz ?_
          rcases iK k h with ⟨k, h⟩ | ⟨k, h⟩
          · refine zz ?_
            subst hK22 gK22
            cases h
            exact en ⟨rfl, wk []⟩
          · refine zz ?_
            obtain ⟨b30, q, h⟩ := bK q h
            refine zz ?_
            rcases iK k h with ⟨k, h⟩ | ⟨k, h⟩
            · refine zz ?_
              subst hK22 gK22
              cases h
              exact en ⟨rfl, wk []⟩
            · refine zz ?_
              subst hK22 gK22
              cases h
              exact en ⟨rfl, wk []⟩
    · rcases iK k h with ⟨k, h⟩ | ⟨k, h⟩
      · refine xt <| xs <| rz ?_
        refine es <| xr <| er ?_
        cases h
        exact en fr
      · refine xf <| xk <| es <| xs <| rz ?_
        refine es <| xs <| xs <| rz ?_
        refine es <| xb ?_
        obtain ⟨e42, h247, h⟩ := bs h
        refine rb_loop (fun x41 => ⟨envL [(0, .int .u8 r_0), (1, .str s_1), (4, .ptr 0 0), (6, .ptr 1 0), (40, .int .i64 x41.1)], heapL [(0, .box none [.int .i64 0, .int .i64 0, .int .i64 0, .int .i64 0, .bool false]), (1, .box none [.int .i64 x41.2.1, .int .i64 x41.2.2.1, .int .i64 x41.2.2.2.1, .int .i64 x41.2.2.2.2])], 2, 98⟩) (fun w => match w with | Sum.inl _ => .ret | Sum.inr (_) => .exit 0) (fun w => match w with | Sum.inl e42 => ⟨envL [(4, .ptr 0 0), (5, .int .i64 4)], heapL [(0, .box none [.int .i64 0, .int .i64 0, .int .i64 0, .int .i64 0, .bool false])], 1, 98⟩ | Sum.inr (e42) => ⟨envL [(0, .int .u8 r_0), (1, .str s_1), (4, .ptr 0 0), (6, .ptr 1 0)], heapL [(0, .box none [.int .i64 0, .int .i64 0, .int .i64 0, .int .i64 0, .bool false]), (1, .box none [.int .i64 e42.1, .int .i64 e42.2.1, .int .i64 e42.2.2.1, .int .i64 e42.2.2.2])], 2, 98⟩) h247 (wk []) (by intro w; rcases w with w | w <;> simp) ?_ ?_
        · clear h
          intro x41 y h
          unfold g_ref03_Parse_s1 at h
          refine xs <| rz ?_
          refine es <| xs ?_
          rcases iK k h with ⟨k, h⟩ | ⟨k, h⟩
          · refine xt <| xk <| es <| xs <| xb <| xs <| rz ?_
            refine es <| xs <| rD hI fun K220 RK220 hK220 gK220 => zz ?_
            obtain ⟨b221, q, h⟩ := bK q h
            refine zz ?_
            obtain ⟨b223, q, h⟩ := bK q h
            refine zz ?_
            subst hK220 gK220
            refine es <| xs ?_
            obtain ⟨v229, h234, h⟩ := bs h
            refine rb_cut (fun v229 => ⟨envL [(0, .int .u8 r_0), (1, .str s_1), (4, .ptr 0 0), (6, .ptr 1 0), (7, .int .i64 x41.1), (8, .int .u8 (b221.toNat : Int)), (9, .int .u8 (b223.toNat : Int)), (40, .int .i64 x41.1), (65, .bool v229)], heapL [(0, .box none [.int .i64 0, .int .i64 0, .int .i64 0, .int .i64 0, .bool false]), (1, .box none [.int .i64 x41.2.1, .int .i64 x41.2.2.1, .int .i64 x41.2.2.2.1, .int .i64 x41.2.2.2.2])], 2, 98⟩) h234 ?_ ?_
            · clear h
              intro v229 h
              refine rK fun K230 RK230 hK230 gK230 => zz ?_
              rcases iK k h with ⟨k, h⟩ | ⟨k, h⟩
              · refine zz ?_
                subst hK230 gK230
                cases h
                exact en ⟨rfl, wk []⟩
              · refine zz ?_
                rcases iK k h with ⟨k, h⟩ | ⟨k, h⟩
                · refine zz ?_
                  subst hK230 gK230
                  cases h
                  exact en ⟨rfl, wk []⟩
                · refine zz ?_
                  rcases iK k h with ⟨k, h⟩ | ⟨k, h⟩
                  · refine zz ?_
                    subst hK230 gK230
                    cases h
                    exact en ⟨rfl, wk []⟩
                  · refine zz ?_
                    subst hK230 gK230
                    cases h
                    exact en ⟨rfl, wk []⟩
            · rcases iK k h with ⟨k, h⟩ | ⟨k, h⟩
              · refine xt <| xs <| rz ?_
                refine es <| xr <| er <| br <| er ?_
                cases h
                exact en ⟨rfl, wk []⟩
              · refine xf <| xk <| es <| rK fun K238 RK238 hK238 gK238 => zz ?_
                rcases ite_or h with ⟨k239, h⟩ | ⟨_, h⟩
                · have k := And.intro (eq_of_beq k239) k
                  refine zz ?_
                  subst hK238 gK238
                  refine bn <| es <| rz ?_
                  cases h
                  exact en ⟨rfl, wk []⟩
                · rcases ite_or h with ⟨k241, h⟩ | ⟨_, h⟩
                  · have k := And.intro (eq_of_beq k241) k
                    refine zz ?_
                    subst hK238 gK238
                    refine bn <| es <| rz ?_
                    cases h
                    exact en ⟨rfl, wk []⟩
                  · rcases ite_or h with ⟨k243, h⟩ | ⟨_, h⟩
                    · have k := And.intro (eq_of_beq k243) k
                      refine zz ?_
                      subst hK238 gK238
                      refine bn <| es <| rz ?_
                      cases h
                      exact en ⟨rfl, wk []⟩
                    · rcases ite_or h with ⟨k245, h⟩ | ⟨_, h⟩
                      · have k := And.intro (eq_of_beq k245) k
                        refine zz ?_
                        subst hK238 gK238
                        refine bn <| es <| rz ?_
                        cases h
                        exact en ⟨rfl, wk []⟩
                      · cases h
          · refine xf <| xx <| ee ?_
            cases h
            exact en ⟨rfl, wk []⟩
        · rcases e42 with e42 | e42
          · try dsimp only at h ⊢
            refine br <| er ?_
            cases h
            exact en fr
          · try dsimp only at h ⊢
            refine bh <| es <| xs <| rD hI fun K251 RK251 hK251 gK251 => zz ?_
            obtain ⟨b252, q, h⟩ := bK q h
            refine zz ?_
            refine hd <| zz ?_
            subst hK251 gK251
            refine es <| xs <| xs <| rK fun K257 RK257 hK257 gK257 => zz ?_
            obtain ⟨r258, h259, h⟩ := bs h
            refine cw (a_ref03_Check hI h259) <| zz ?_
            subst hK257 gK257
            refine es <| xs <| rz ?_
            refine es ?_
            rcases iK k h with ⟨k, h⟩ | ⟨k, h⟩
            · refine xt <| xs <| rz ?_
              refine es <| xr <| er ?_
              cases h
              exact en fr
            · refine xf <| xk <| es <| xs <| rz ?_
              refine es <| xr ?_
              cases h
              exact en fr
  · refine xt <| xs <| rz ?_
    refine es <| xr <| er ?_
    cases h
    exact en fr
def g_ref03_Frame (r_0 : Int) (l_1 : T_api_Label) : Option (Int × Int) :=
  ((g_ref03_Check r_0 l_1).bind fun r7 => (if (r7 != 0) then (some (0, r7)) else ((g_ref02_Nominal r_0).bind fun r18 => (if l_1.Drop then ((g_ref03_Dropped r_0).bind fun r28 => (some ((IntKind.i64.wrap ((IntKind.i64.wrap ((IntKind.i64.wrap ((IntKind.i64.wrap ((IntKind.i64.wrap ((IntKind.i64.wrap ((IntKind.i64.wrap (l_1.H * 60)) + l_1.M)) * 60)) + l_1.S)) * r18)) + l_1.F)) - (IntKind.i64.wrap (r28 * (IntKind.i64.wrap ((IntKind.i64.wrap ((IntKind.i64.wrap (l_1.H * 60)) + l_1.M)) - (IntKind.i64.wrap (Int.tdiv (IntKind.i64.wrap ((IntKind.i64.wrap (l_1.H * 60)) + l_1.M)) 10)))))))), 0))) else (some ((IntKind.i64.wrap ((IntKind.i64.wrap ((IntKind.i64.wrap ((IntKind.i64.wrap ((IntKind.i64.wrap ((IntKind.i64.wrap (l_1.H * 60)) + l_1.M)) * 60)) + l_1.S)) * r18)) + l_1.F)), 0))))))
theorem a_ref03_Frame {I : World → Prop} (hI : Stab I) {r_0 : Int} {l_1 : T_api_Label} {r : Int × Int} (h : g_ref03_Frame r_0 l_1 = some r) : AFun Tryz.prog I 154 [.int .u8 r_0, T_api_Label.d l_1] (.tup [.int .i64 r.1, .int .i64 r.2]) := by
  have dd := dd_ED; have k := True.intro; have q := k; have rs := Tryz.results154
  unfold g_ref03_Frame at h
  refine .en hI Tryz.func154 Tryz.ntmps154 ?_
  refine xs <| rz ?_
  refine es <| xs <| xs <| rK fun K6 RK6 hK6 gK6 => zz ?_
  obtain ⟨r7, h8, h⟩ := bs h
  refine cw (a_ref03_Check hI h8) <| zz ?_
  subst hK6 gK6
  refine es <| xs <| rz ?_
  refine es ?_
  rcases iK k h with ⟨k, h⟩ | ⟨k, h⟩
  · refine xt <| xs <| rz ?_
    refine es <| xr <| er ?_
    cases h
    exact en fr
  · refine xf <| xk <| es <| xs <| rK fun K17 RK17 hK17 gK17 => zz ?_
    obtain ⟨r18, h19, h⟩ := bs h
    refine cw (a_ref02_Nominal hI h19) <| zz ?_
    subst hK17 gK17
    refine es <| xs <| rz ?_
    refine es <| xs <| rz ?_
    refine es <| xs <| xs <| rz ?_
    refine es ?_
    rcases iK k h with ⟨k, h⟩ | ⟨k, h⟩
    · refine xt <| rK fun K27 RK27 hK27 gK27 => zz ?_
      obtain ⟨r28, h29, h⟩ := bs h
      refine cw (a_ref03_Dropped hI h29) <| zz ?_
      subst hK27 gK27
      refine es <| xs <| rz ?_
      refine es <| xr ?_
      cases h
      exact en fr
    · refine xf <| xk <| es <| xs <| rz ?_
      refine es <| xr ?_
      cases h
      exact en fr
def g_ref01_Number_s1 (z17 : List UInt8) (x35 : Int × Int) : Option (Nx (Int × Int) (Unit ⊕ Int)) :=
  (if (decide (x35.2 < (z17.length : Int))) then ((((atI z17 x35.2).bind fun b98 => (if (decide ((b98.toNat : Int) < 48)) then (some true) else (some (decide (57 < (b98.toNat : Int)))))) : Option (Bool)).bind fun v96 => (if v96 then (some (.out (.inl ()))) else ((atI z17 x35.2).bind fun b106 => (some (.go ((IntKind.i64.wrap ((IntKind.i64.wrap (10 * x35.1)) + (IntKind.i64.wrap (IntKind.u8.wrap ((b106.toNat : Int) - 48))))), (IntKind.i64.wrap (x35.2 + 1)))))))) else (some (.out (.inr x35.1))))
def g_ref01_Number_s2 (s_0 : List UInt8) (x139 : Int × Int) : Option (Nx (Int × Int) (Unit ⊕ Int)) :=
  (if (decide (x139.2 < (s_0.length : Int))) then ((((atI s_0 x139.2).bind fun b202 => (if (decide ((b202.toNat : Int) < 48)) then (some true) else (some (decide (57 < (b202.toNat : Int)))))) : Option (Bool)).bind fun v200 => (if v200 then (some (.out (.inl ()))) else ((atI s_0 x139.2).bind fun b210 => (some (.go ((IntKind.i64.wrap ((IntKind.i64.wrap (10 * x139.1)) + (IntKind.i64.wrap (IntKind.u8.wrap ((b210.toNat : Int) - 48))))), (IntKind.i64.wrap (x139.2 + 1)))))))) else (some (.out (.inr x139.1))))
def g_ref01_Number (s_0 : List UInt8) : Option (Int × Bool) :=
  (((if (decide (0 < (s_0.length : Int))) then ((atI s_0 0).bind fun b12 => (some ((b12.toNat : Int) == 45))) else (some false)) : Option (Bool)).bind fun v9 => (if v9 then ((subL s_0 1).bind fun z17 => (((if ((z17.length : Int) == 0) then (some true) else (some (decide (12 < (z17.length : Int))))) : Option (Bool)).bind fun v24 => (if v24 then (some (0, false)) else ((iter (g_ref01_Number_s1 z17) (0, 0)).bind fun e36 => (match e36 with | Sum.inl e36 => (some (0, false)) | Sum.inr (e36) => (if (z17 == s_0) then ((g_ref01_Decimal e36).bind fun r117 => (some (e36, (r117 == s_0)))) else ((g_ref01_Decimal (IntKind.i64.wrap (0 - e36))).bind fun r124 => (some ((IntKind.i64.wrap (0 - e36)), (r124 == s_0)))))))))) else (((if ((s_0.length : Int) == 0) then (some true) else (some (decide (12 < (s_0.length : Int))))) : Option (Bool)).bind fun v128 => (if v128 then (some (0, false)) else ((iter (g_ref01_Number_s2 s_0) (0, 0)).bind fun e140 => (match e140 with | Sum.inl e140 => (some (0, false)) | Sum.inr (e140) => ((g_ref01_Decimal e140).bind fun r220 => (some (e140, (r220 == s_0))))))))))
theorem a_ref01_Number {I : World → Prop} (hI : Stab I) {s_0 : List UInt8} {r : Int × Bool} (h : g_ref01_Number s_0 = some r) : AFun Tryz.prog I 155 [.str s_0] (.tup [.int .i64 r.1, .bool r.2]) := by
  have dd := dd_ED; have k := True.intro; have q := k; have rs := Tryz.results155
  unfold g_ref01_Number at h
  refine .en hI Tryz.func155 Tryz.ntmps155 ?_
  refine xs <| rz ?_
  refine es <| xs <| rz ?_
  refine es <| xs ?_
  obtain ⟨v9, h14, h⟩ := bs h
  refine rb_cut (fun v9 => ⟨envL [(0, .str s_0), (4, .str s_0), (15, .bool v9)], heapL [], 0, 60⟩) h14 ?_ ?_
  · clear h
    intro v9 h
    refine rK fun K10 RK10 hK10 gK10 => zz ?_
    rcases iK k h with ⟨k, h⟩ | ⟨k, h⟩
    · refine zz ?_
      obtain ⟨b12, q, h⟩ := bK q h
      refine zz ?_
      subst hK10 gK10
      cases h
      exact en ⟨rfl, wk []⟩
    · refine zz ?_
      subst hK10 gK10
      cases h
      exact en ⟨rfl, wk []⟩
  · rcases iK k h with ⟨k, h⟩ | ⟨k, h⟩
    · refine xt <| rK fun K16 RK16 hK16 gK16 => zz ?_
      obtain ⟨z17, h18, h⟩ := bind_some h
      obtain ⟨⟨h19, h20⟩, h21⟩ := subL_some h18
      try simp only [List.length_cons, List.length_nil, Nat.zero_add, Nat.reduceAdd, Int.reduceToNat] at h20
      have q := And.intro @h20 <| q
      try simp -implicitDefEqProofs only [vt, vm, sevalprocAttr, dd, k, q] at h21
      have q := And.intro @h21 <| q
      refine zz ?_
      subst hK16 gK16
      refine es <| xs ?_
      obtain ⟨v24, h27, h⟩ := bs h
      refine rb_cut (fun v24 => ⟨envL [(0, .str s_0), (4, .str z17), (25, .bool v24)], heapL [], 0, 60⟩) h27 ?_ ?_
      · clear h
        intro v24 h
        refine rK fun K25 RK25 hK25 gK25 => zz ?_
        rcases iK k h with ⟨k, h⟩ | ⟨k, h⟩
        · refine zz ?_
          subst hK25 gK25
          cases h
          exact en ⟨rfl, wk []⟩
        · refine zz ?_
          subst hK25 gK25
          cases h
          exact en ⟨rfl, wk []⟩
      · rcases iK k h with ⟨k, h⟩ | ⟨k, h⟩
        · refine xt <| xs <| rz ?_
          refine es <| xr <| er ?_
          cases h
          exact en fr
        · refine xf <| xk <| es <| xs <| rz ?_
          refine es <| xs <| xs <| rz ?_
          refine es <| xb ?_
          obtain ⟨e36, h109, h⟩ := bs h
          refine rb_loop (fun x35 => ⟨envL [(0, .str s_0), (4, .str z17), (5, .int .i64 x35.1), (6, .int .i64 x35.2)], heapL [], 0, 60⟩) (fun w => match w with | Sum.inl _ => .ret | Sum.inr (_) => .exit 0) (fun w => match w with | Sum.inl e36 => ⟨envL [(2, .int .i64 0), (3, .bool false)], heapL [], 0, 60⟩ | Sum.inr (e36) => ⟨envL [(0, .str s_0), (4, .str z17), (5, .int .i64 e36)], heapL [], 0, 60⟩) h109 (wk []) (by intro w; rcases w with w | w <;> simp) ?_ ?_
          · clear h
            intro x35 y h
            unfold g_ref01_Number_s1 at h
            refine xs <| xs <| rz ?_
            refine es ?_
            rcases iK k h with ⟨k, h⟩ | ⟨k, h⟩
            · refine xt <| xk <| es <| xs <| xb <| xs ?_
              obtain ⟨v96, h101, h⟩ := bs h
              refine rb_cut (fun v96 => ⟨envL [(0, .str s_0), (4, .str z17), (5, .int .i64 x35.1), (6, .int .i64 x35.2), (41, .bool v96)], heapL [], 0, 60⟩) h101 ?_ ?_
              · clear h
                intro v96 h
                refine rK fun K97 RK97 hK97 gK97 => zz ?_
                obtain ⟨b98, q, h⟩ := bK q h
                refine zz ?_
                rcases iK k h with ⟨k, h⟩ | ⟨k, h⟩
                · refine zz ?_
                  subst hK97 gK97
                  cases h
                  exact en ⟨rfl, wk []⟩
                · refine zz ?_
                  subst hK97 gK97
                  cases h
                  exact en ⟨rfl, wk []⟩
              · rcases iK k h with ⟨k, h⟩ | ⟨k, h⟩
                · refine xt <| xs <| rz ?_
                  refine es <| xr <| er <| br <| er ?_
                  cases h
                  exact en ⟨rfl, wk []⟩
                · refine xf <| xk <| es <| rK fun K105 RK105 hK105 gK105 => zz ?_
                  obtain ⟨b106, q, h⟩ := bK q h
                  refine zz ?_
                  subst hK105 gK105
                  refine bn <| es <| rz ?_
                  cases h
                  exact en ⟨rfl, wk []⟩
            · refine xf <| xx <| ee ?_
              cases h
              exact en ⟨rfl, wk []⟩
          · rcases e36 with e36 | e36
            · try dsimp only at h ⊢
              refine br <| er ?_
              cases h
              exact en fr
            · try dsimp only at h ⊢
              refine bh <| es <| xs <| xs <| rz ?_
              refine es ?_
              rcases iK k h with ⟨k, h⟩ | ⟨k, h⟩
              · refine xf <| xk <| es <| xs <| rK fun K116 RK116 hK116 gK116 => zz ?_
                obtain ⟨r117, h118, h⟩ := bs h
                refine cw (a_ref01_Decimal hI h118) <| zz ?_
                subst hK116 gK116
                refine es <| xr ?_
                cases h
                exact en fr
              · refine xt <| rz ?_
                refine es <| xs <| rK fun K123 RK123 hK123 gK123 => zz ?_
                obtain ⟨r124, h125, h⟩ := bs h
                refine cw (a_ref01_Decimal hI h125) <| zz ?_
                subst hK123 gK123
                refine es <| xr ?_
                cases h
                exact en fr
    · refine xf <| xk <| es <| xs ?_
      obtain ⟨v128, h131, h⟩ := bs h
      refine rb_cut (fun v128 => ⟨envL [(0, .str s_0), (4, .str s_0), (25, .bool v128)], heapL [], 0, 60⟩) h131 ?_ ?_
      · clear h
        intro v128 h
        refine rK fun K129 RK129 hK129 gK129 => zz ?_
        rcases iK k h with ⟨k, h⟩ | ⟨k, h⟩
        · refine zz ?_
          subst hK129 gK129
          cases h
          exact en ⟨rfl, wk []⟩
        · refine zz ?_
          subst hK129 gK129
          cases h
          exact en ⟨rfl, wk []⟩
      · rcases iK k h with ⟨k, h⟩ | ⟨k, h⟩
        · refine xt <| xs <| rz ?_
          refine es <| xr <| er ?_
          cases h
          exact en fr
        · refine xf <| xk <| es <| xs <| rz ?_
          refine es <| xs <| xs <| rz ?_
          refine es <| xb ?_
          obtain ⟨e140, h213, h⟩ := bs h
          refine rb_loop (fun x139 => ⟨envL [(0, .str s_0), (4, .str s_0), (5, .int .i64 x139.1), (6, .int .i64 x139.2)], heapL [], 0, 60⟩) (fun w => match w with | Sum.inl _ => .ret | Sum.inr (_) => .exit 0) (fun w => match w with | Sum.inl e140 => ⟨envL [(2, .int .i64 0), (3, .bool false)], heapL [], 0, 60⟩ | Sum.inr (e140) => ⟨envL [(0, .str s_0), (4, .str s_0), (5, .int .i64 e140)], heapL [], 0, 60⟩) h213 (wk []) (by intro w; rcases w with w | w <;> simp) ?_ ?_
          · clear h
            intro x139 y h
            unfold g_ref01_Number_s2 at h
            refine xs <| xs <| rz ?_
            refine es ?_
            rcases iK k h with ⟨k, h⟩ | ⟨k, h⟩
            · refine xt <| xk <| es <| xs <| xb <| xs ?_
              obtain ⟨v200, h205, h⟩ := bs h
              refine rb_cut (fun v200 => ⟨envL [(0, .str s_0), (4, .str s_0), (5, .int .i64 x139.1), (6, .int .i64 x139.2), (41, .bool v200)], heapL [], 0, 60⟩) h205 ?_ ?_
              · clear h
                intro v200 h
                refine rK fun K201 RK201 hK201 gK201 => zz ?_
                obtain ⟨b202, q, h⟩ := bK q h
                refine zz ?_
                rcases iK k h with ⟨k, h⟩ | ⟨k, h⟩
                · refine zz ?_
                  subst hK201 gK201
                  cases h
                  exact en ⟨rfl, wk []⟩
                · refine zz ?_
                  subst hK201 gK201
                  cases h
                  exact en ⟨rfl, wk []⟩
              · rcases iK k h with ⟨k, h⟩ | ⟨k, h⟩
                · refine xt <| xs <| rz ?_
                  refine es <| xr <| er <| br <| er ?_
                  cases h
                  exact en ⟨rfl, wk []⟩
                · refine xf <| xk <| es <| rK fun K209 RK209 hK209 gK209 => zz ?_
                  obtain ⟨b210, q, h⟩ := bK q h
                  refine zz ?_
                  subst hK209 gK209
                  refine bn <| es <| rz ?_
                  cases h
                  exact en ⟨rfl, wk []⟩
            · refine xf <| xx <| ee ?_
              cases h
              exact en ⟨rfl, wk []⟩
          · rcases e140 with e140 | e140
            · try dsimp only at h ⊢
              refine br <| er ?_
              cases h
              exact en fr
            · try dsimp only at h ⊢
              refine bh <| es <| xs <| xs <| rz ?_
              refine es <| xf <| xk <| es <| xs <| rK fun K219 RK219 hK219 gK219 => zz ?_
              obtain ⟨r220, h221, h⟩ := bs h
              refine cw (a_ref01_Decimal hI h221) <| zz ?_
              subst hK219 gK219
              refine es <| xr ?_
              cases h
              exact en fr
def g_ref01_Parse_s1 (s_0 : List UInt8) (x5 : Int) : Option (Nx (Int) ((Int × Int × Int) ⊕ Unit)) :=
  (if (decide (x5 < (s_0.length : Int))) then ((atI s_0 x5).bind fun b312 => (if ((b312.toNat : Int) != 47) then (some (.go (IntKind.i64.wrap (x5 + 1)))) else ((subH s_0 x5).bind fun z325 => ((g_ref01_Number z325).bind fun r330 => ((subL s_0 (IntKind.i64.wrap (x5 + 1))).bind fun z341 => ((g_ref01_Number z341).bind fun r346 => (((if r330.2 then (if r346.2 then ((g_ref01_Text (T_api_Ratio.mk r330.1 r346.1)).bind fun r359 => (some (!(r359 == s_0)))) else (some true)) else (some true)) : Option (Bool)).bind fun v355 => (if v355 then (some (.out (.inl (0, 0, 4)))) else (some (.out (.inl (r330.1, r346.1, 0)))))))))))) else (some (.out (.inr ()))))
def g_ref01_Parse (s_0 : List UInt8) : Option (T_api_Ratio × Int) :=
  ((iter (g_ref01_Parse_s1 s_0) 0).bind fun e6 => (match e6 with | Sum.inl e6 => (some ((T_api_Ratio.mk e6.1 e6.2.1), e6.2.2)) | Sum.inr (e6) => (some ((T_api_Ratio.mk 0 0), 4))))
theorem a_ref01_Parse {I : World → Prop} (hI : Stab I) {s_0 : List UInt8} {r : T_api_Ratio × Int} (h : g_ref01_Parse s_0 = some r) : AFun Tryz.prog I 107 [.str s_0] (.tup [T_api_Ratio.d r.1, .int .i64 r.2]) := by
  have dd := dd_ED; have k := True.intro; have q := k; have rs := Tryz.results107
  unfold g_ref01_Parse at h
  refine .en hI Tryz.func107 Tryz.ntmps107 ?_
  refine xs <| rz ?_
  refine es <| xs <| xs <| rz ?_
  refine es <| xb ?_
  obtain ⟨e6, h367, h⟩ := bs h
  refine rb_loop (fun x5 => ⟨envL [(0, .str s_0), (2, .ptr 0 0), (4, .int .i64 x5)], heapL [(0, .box none [.int .i64 0, .int .i64 0])], 1, 53⟩) (fun w => match w with | Sum.inl _ => .ret | Sum.inr (_) => .exit 0) (fun w => match w with | Sum.inl e6 => ⟨envL [(2, .ptr 0 0), (3, .int .i64 e6.2.2)], heapL [(0, .box none [.int .i64 e6.1, .int .i64 e6.2.1])], 1, 53⟩ | Sum.inr (e6) => ⟨envL [(2, .ptr 0 0)], heapL [(0, .box none [.int .i64 0, .int .i64 0])], 1, 53⟩) h367 (wk []) (by intro w; rcases w with w | w <;> simp) ?_ ?_
  · clear h
    intro x5 y h
    unfold g_ref01_Parse_s1 at h
    refine xs <| xs <| rz ?_
    refine es ?_
    rcases iK k h with ⟨k, h⟩ | ⟨k, h⟩
    · refine xt <| xk <| es <| xs <| xb <| xs <| xs <| rK fun K311 RK311 hK311 gK311 => zz ?_
      obtain ⟨b312, q, h⟩ := bK q h
      refine zz ?_
      subst hK311 gK311
      refine es ?_
      rcases iK k h with ⟨k, h⟩ | ⟨k, h⟩
      · refine xt <| xx <| ee <| bh <| es <| rz ?_
        cases h
        exact en ⟨rfl, wk []⟩
      · refine xf <| xk <| es <| xs <| rK fun K324 RK324 hK324 gK324 => zz ?_
        obtain ⟨z325, h326, h⟩ := bind_some h
        obtain ⟨⟨h327, h328⟩, h329⟩ := subH_some h326
        have q := And.intro @h327 <| And.intro @h328 <| q
        try simp -implicitDefEqProofs only [vt, vm, sevalprocAttr, dd, k, q] at h329
        have q := And.intro @h329 <| q
        refine zz ?_
        obtain ⟨r330, h331, h⟩ := bs h
        refine cw (a_ref01_Number hI h331) <| zz ?_
        subst hK324 gK324
        refine es <| xs <| rK fun K340 RK340 hK340 gK340 => zz ?_
        obtain ⟨z341, h342, h⟩ := bind_some h
        obtain ⟨⟨h343, h344⟩, h345⟩ := subL_some h342
        have q := And.intro @h343 <| And.intro @h344 <| q
        try simp -implicitDefEqProofs only [vt, vm, sevalprocAttr, dd, k, q] at h345
        have q := And.intro @h345 <| q
        refine zz ?_
        obtain ⟨r346, h347, h⟩ := bs h
        refine cw (a_ref01_Number hI h347) <| zz ?_
        subst hK340 gK340
        refine es <| xs <| rz ?_
        refine es <| xs ?_
        obtain ⟨v355, h361, h⟩ := bs h
        refine rb_cut (fun v355 => ⟨envL [(2, .ptr 0 0), (9, .ptr 1 0), (49, .bool v355)], heapL [(0, .box none [.int .i64 0, .int .i64 0]), (1, .box none [.int .i64 r330.1, .int .i64 r346.1])], 2, 53⟩) h361 ?_ ?_
        · clear h
          intro v355 h
          refine rK fun K356 RK356 hK356 gK356 => zz ?_
          rcases iK k h with ⟨k, h⟩ | ⟨k, h⟩
          · refine zz ?_
            rcases iK k h with ⟨k, h⟩ | ⟨k, h⟩
            · refine zz ?_
              obtain ⟨r359, h360, h⟩ := bs h
              refine cw (a_ref01_Text hI h360) <| zz ?_
              subst hK356 gK356
              cases h
              exact en ⟨rfl, wk [(1, some 31)]⟩
            · refine zz ?_
              subst hK356 gK356
              cases h
              exact en ⟨rfl, wk [(1, some 31)]⟩
          · refine zz ?_
            subst hK356 gK356
            cases h
            exact en ⟨rfl, wk [(1, some 31)]⟩
        · rcases iK k h with ⟨k, h⟩ | ⟨k, h⟩
          · refine xt <| xs <| rz ?_
            refine es <| xr <| er <| br <| er ?_
            cases h
            exact en ⟨rfl, wk []⟩
          · refine xf <| xk <| es <| xs <| rz ?_
            refine es <| xr <| br <| er ?_
            cases h
            exact en ⟨rfl, wk []⟩
    · refine xf <| xx <| ee ?_
      cases h
      exact en ⟨rfl, wk []⟩
  · rcases e6 with e6 | e6
    · try dsimp only at h ⊢
      refine br <| er ?_
      cases h
      exact en fr
    · try dsimp only at h ⊢
      refine bh <| es <| xs <| rz ?_
      refine es <| xr ?_
      cases h
      exact en fr
end Go.Proofs.YtnjjdbljoligdaaGreatDoor
namespace Go.Proofs.YtnjjdbljoligdaaGreatDoor
set_option maxRecDepth 100000
def rV (r : Int) : Bool := decide (1 ≤ r) && decide (r ≤ 7)
def rN (r : Int) : Int := if r = 1 then 24 else if r = 2 then 24 else if r = 3 then 25 else if r = 4 then 30 else if r = 5 then 30 else if r = 6 then 50 else if r = 7 then 60 else 0
def rDr (r : Int) : Bool := r == 4 || r == 7
def rS (r : Int) : List UInt8 := if r = 1 then [50, 51, 46, 57, 55, 54] else if r = 2 then [50, 52] else if r = 3 then [50, 53] else if r = 4 then [50, 57, 46, 57, 55] else if r = 5 then [51, 48] else if r = 6 then [53, 48] else if r = 7 then [53, 57, 46, 57, 52] else []
def kd (r : Int) (d : Bool) : Int := if rV r then (if d && !rDr r then 13 else 0) else 3
def dp (r : Int) (d : Bool) : Int := if d then (if r = 7 then 4 else 2) else 0
def dayS (r : Int) (d : Bool) : Int := if kd r d = 0 then 86400 * rN r - 1296 * dp r d else 0
theorem rates_fin : ∀ r : Fin 256, g_timebase_Valid ((r.val : Nat) : Int) = some (rV ((r.val : Nat) : Int)) ∧ g_ref02_Valid ((r.val : Nat) : Int) = some (rV ((r.val : Nat) : Int)) ∧ g_timebase_Nominal ((r.val : Nat) : Int) = some (rN ((r.val : Nat) : Int)) ∧ g_ref02_Nominal ((r.val : Nat) : Int) = some (rN ((r.val : Nat) : Int)) ∧ g_timebase_CanDrop ((r.val : Nat) : Int) = some (rDr ((r.val : Nat) : Int)) ∧ g_ref02_CanDrop ((r.val : Nat) : Int) = some (rDr ((r.val : Nat) : Int)) ∧ g_timebase_Name ((r.val : Nat) : Int) = some (rS ((r.val : Nat) : Int)) ∧ g_ref02_Name ((r.val : Nat) : Int) = some (rS ((r.val : Nat) : Int)) := by decide +kernel
theorem days_fin : ∀ r : Fin 256, ∀ d : Bool, g_timecode_rateError ((r.val : Nat) : Int) d = some (kd ((r.val : Nat) : Int) d) ∧ g_ref03_kind ((r.val : Nat) : Int) d = some (kd ((r.val : Nat) : Int) d) ∧ g_timecode_Day ((r.val : Nat) : Int) d = some (dayS ((r.val : Nat) : Int) d) ∧ g_ref03_Day ((r.val : Nat) : Int) d = some (dayS ((r.val : Nat) : Int) d) := by decide +kernel
theorem rates {r : Int} (h : 0 ≤ r ∧ r ≤ 255) : g_timebase_Valid r = some (rV r) ∧ g_ref02_Valid r = some (rV r) ∧ g_timebase_Nominal r = some (rN r) ∧ g_ref02_Nominal r = some (rN r) ∧ g_timebase_CanDrop r = some (rDr r) ∧ g_ref02_CanDrop r = some (rDr r) ∧ g_timebase_Name r = some (rS r) ∧ g_ref02_Name r = some (rS r) := by
  have := rates_fin ⟨r.toNat, by omega⟩
  have e : ((r.toNat : Nat) : Int) = r := by omega
  simp only [e] at this
  exact this
theorem days {r : Int} (h : 0 ≤ r ∧ r ≤ 255) (d : Bool) : g_timecode_rateError r d = some (kd r d) ∧ g_ref03_kind r d = some (kd r d) ∧ g_timecode_Day r d = some (dayS r d) ∧ g_ref03_Day r d = some (dayS r d) := by
  have := days_fin ⟨r.toNat, by omega⟩ d
  have e : ((r.toNat : Nat) : Int) = r := by omega
  simp only [e] at this
  exact this
theorem dropped_eq (r : Int) (d : Bool) : g_timecode_dropped r d = some (dp r d) := by
  unfold g_timecode_dropped dp
  cases d
  · rfl
  · by_cases h : r = 7 <;> simp [h]
theorem Dropped_eq (r : Int) : g_ref03_Dropped r = some (dp r true) := by
  unfold g_ref03_Dropped dp
  by_cases h : r = 7 <;> simp [h]
def rF (s : List UInt8) : List Int → Int ⊕ Unit
  | [] => .inr ()
  | r :: l => if rS r == s then .inl r else rF s l
def rPs (s : List UInt8) : Int × Int := match rF s [1, 2, 3, 4, 5, 6, 7] with
  | .inl r => (r, 0)
  | .inr _ => (0, 4)
theorem rates_at {i : Nat} (h : i < 7) : ([1, 2, 3, 4, 5, 6, 7] : List Int)[i]'h = (i : Int) + 1 ∧ ([1, 2, 3, 4, 5, 6, 7] : List Int).drop i = ((i : Int) + 1) :: ([1, 2, 3, 4, 5, 6, 7] : List Int).drop (i + 1) := by
  match i, h with
  | 0, _ | 1, _ | 2, _ | 3, _ | 4, _ | 5, _ | 6, _ => exact ⟨rfl, rfl⟩
theorem rate_Parse (s : List UInt8) : g_timebase_Parse s = some (rPs s) := by
  have hl : iter (g_timebase_Parse_s1 s [1, 2, 3, 4, 5, 6, 7]) 0 = some (rF s [1, 2, 3, 4, 5, 6, 7]) := by
    refine iter_idx 7 (by omega) (fun i => rF s (([1, 2, 3, 4, 5, 6, 7] : List Int).drop i)) (fun i hi => ?_) ?_
    · obtain ⟨e1, e2⟩ := rates_at hi
      have h1 : decide ((i : Int) < ((([1, 2, 3, 4, 5, 6, 7] : List Int).length : Nat) : Int)) = true := by simp; omega
      have h2 : atI ([1, 2, 3, 4, 5, 6, 7] : List Int) (i : Int) = some ((i : Int) + 1) := by rw [atI_nat hi, e1]
      unfold g_timebase_Parse_s1
      rw [if_pos h1, h2]
      simp only [Option.bind_some, (rates (r := (i : Int) + 1) (by omega)).2.2.2.2.2.2.1, e2, rF]
      rw [wr64 (by omega)]
      by_cases h3 : (rS ((i : Int) + 1) == s) = true
      · right; simp [h3]
      · left; simp [h3]
    · unfold g_timebase_Parse_s1
      rfl
  unfold g_timebase_Parse rPs
  simp only [show g_timebase_Rates = some [1, 2, 3, 4, 5, 6, 7] from rfl, Option.bind_some, hl]
  cases rF s [1, 2, 3, 4, 5, 6, 7] <;> rfl
theorem ref_rate_Parse (s : List UInt8) : g_ref02_Parse s = some (rPs s) := by
  have hl : iter (g_ref02_Parse_s1 s [1, 2, 3, 4, 5, 6, 7]) 0 = some (rF s [1, 2, 3, 4, 5, 6, 7]) := by
    refine iter_idx 7 (by omega) (fun i => rF s (([1, 2, 3, 4, 5, 6, 7] : List Int).drop i)) (fun i hi => ?_) ?_
    · obtain ⟨e1, e2⟩ := rates_at hi
      have h1 : decide ((i : Int) < ((([1, 2, 3, 4, 5, 6, 7] : List Int).length : Nat) : Int)) = true := by simp; omega
      have h2 : atI ([1, 2, 3, 4, 5, 6, 7] : List Int) (i : Int) = some ((i : Int) + 1) := by rw [atI_nat hi, e1]
      unfold g_ref02_Parse_s1
      rw [if_pos h1, h2]
      simp only [Option.bind_some, (rates (r := (i : Int) + 1) (by omega)).2.2.2.2.2.2.2, e2, rF]
      rw [wr64 (by omega)]
      by_cases h3 : (rS ((i : Int) + 1) == s) = true
      · right; simp [h3]
      · left; simp [h3]
    · unfold g_ref02_Parse_s1
      rfl
  unfold g_ref02_Parse rPs
  simp only [show g_ref02_Rates = some [1, 2, 3, 4, 5, 6, 7] from rfl, Option.bind_some, hl]
  cases rF s [1, 2, 3, 4, 5, 6, 7] <;> rfl
def lbad (r : Int) (l : T_api_Label) : Prop := l.H < 0 ∨ 23 < l.H ∨ l.M < 0 ∨ 59 < l.M ∨ l.S < 0 ∨ 59 < l.S ∨ l.F < 0 ∨ rN r ≤ l.F
instance (r : Int) (l : T_api_Label) : Decidable (lbad r l) := by unfold lbad; infer_instance
def chkL (r : Int) (l : T_api_Label) : Int := if kd r l.Drop ≠ 0 then kd r l.Drop else if lbad r l then 2 else if l.S = 0 ∧ l.M % 10 ≠ 0 ∧ l.F < dp r l.Drop then 6 else 0
theorem lbad_if (r : Int) (l : T_api_Label) : (if decide (l.H < 0) = true then some true else if decide (23 < l.H) = true then some true else if decide (l.M < 0) = true then some true else if decide (59 < l.M) = true then some true else if decide (l.S < 0) = true then some true else if decide (59 < l.S) = true then some true else if decide (l.F < 0) = true then some true else some (decide (rN r ≤ l.F))) = some (decide (lbad r l)) := by
  unfold lbad
  simp only [decide_eq_true_eq]
  grind
theorem tc_Check {r : Int} (h : 0 ≤ r ∧ r ≤ 255) (l : T_api_Label) : g_timecode_Check r l = some (chkL r l) := by
  unfold g_timecode_Check chkL
  simp only [(days h l.Drop).1, (rates h).2.2.1, dropped_eq, Option.bind_some]
  by_cases hk : kd r l.Drop = 0
  · simp only [hk, bne_self_eq_false, Bool.false_eq_true, if_false, ne_eq, not_true_eq_false]
    by_cases hb : lbad r l
    · rw [if_pos hb, lbad_if]
      simp [hb]
    · rw [if_neg hb]
      unfold lbad at hb
      have hm : Int.tmod l.M 10 = l.M % 10 := Int.tmod_eq_emod_of_nonneg (by omega)
      simp only [hm]
      rw [if_neg (by simp; omega), if_neg (by simp; omega), if_neg (by simp; omega), if_neg (by simp; omega), if_neg (by simp; omega), if_neg (by simp; omega), if_neg (by simp; omega)]
      simp only [Option.bind_some, decide_eq_true_eq]
      rw [if_neg (by omega)]
      by_cases h1 : l.S = 0
      · by_cases h2 : l.M % 10 = 0
        · simp [h1, h2]
        · by_cases h3 : l.F < dp r l.Drop <;> simp [h1, h2, h3]
      · simp [h1]
  · have : (kd r l.Drop != 0) = true := by simpa using hk
    rw [if_pos this, if_pos hk]
theorem ref_tc_Check {r : Int} (h : 0 ≤ r ∧ r ≤ 255) (l : T_api_Label) : g_ref03_Check r l = some (chkL r l) := by
  unfold g_ref03_Check chkL
  simp only [(days h l.Drop).2.1, (rates h).2.2.2.1, Dropped_eq, Option.bind_some]
  by_cases hk : kd r l.Drop = 0
  · simp only [hk, bne_self_eq_false, Bool.false_eq_true, if_false, ne_eq, not_true_eq_false]
    by_cases hb : lbad r l
    · rw [if_pos hb, lbad_if]
      simp [hb]
    · rw [if_neg hb]
      unfold lbad at hb
      have hm : Int.tmod l.M 10 = l.M % 10 := Int.tmod_eq_emod_of_nonneg (by omega)
      simp only [hm]
      rw [if_neg (by simp; omega), if_neg (by simp; omega), if_neg (by simp; omega), if_neg (by simp; omega), if_neg (by simp; omega), if_neg (by simp; omega), if_neg (by simp; omega)]
      simp only [Option.bind_some, decide_eq_true_eq]
      rw [if_neg (by omega)]
      cases hd : l.Drop
      · have : ¬ l.F < dp r false := by simp [dp]; omega
        simp [this]
      · by_cases h1 : l.S = 0
        · by_cases h2 : l.M % 10 = 0
          · simp [h1, h2]
          · by_cases h3 : l.F < dp r true <;> simp [h1, h2, h3]
        · simp [h1]
  · have : (kd r l.Drop != 0) = true := by simpa using hk
    rw [if_pos this, if_pos hk]
end Go.Proofs.YtnjjdbljoligdaaGreatDoor
namespace Go.Proofs.YtnjjdbljoligdaaGreatDoor
set_option maxRecDepth 100000
def zL : T_api_Label := ⟨0, 0, 0, 0, false⟩
def npOK (n p : Int) : Prop := (n = 24 ∧ p = 0) ∨ (n = 25 ∧ p = 0) ∨ (n = 30 ∧ p = 0) ∨ (n = 50 ∧ p = 0) ∨ (n = 60 ∧ p = 0) ∨ (n = 30 ∧ p = 2) ∨ (n = 60 ∧ p = 4)
theorem kd_np {r : Int} {d : Bool} (h : kd r d = 0) : npOK (rN r) (dp r d) ∧ (d = false → dp r d = 0) ∧ dayS r d = 86400 * rN r - 1296 * dp r d := by
  have hd : dayS r d = 86400 * rN r - 1296 * dp r d := by unfold dayS; rw [if_pos h]
  refine ⟨?_, fun hf => by subst hf; rfl, hd⟩
  unfold kd at h
  split at h
  · rename_i hv
    simp only [rV, Bool.and_eq_true, decide_eq_true_eq] at hv
    have : r = 1 ∨ r = 2 ∨ r = 3 ∨ r = 4 ∨ r = 5 ∨ r = 6 ∨ r = 7 := by omega
    rcases this with rfl | rfl | rfl | rfl | rfl | rfl | rfl <;> cases d <;> first | (simp [rDr] at h; done) | (simp [npOK, rN, dp])
  · omega
theorem np_range {n p : Int} (h : npOK n p) : 24 ≤ n ∧ n ≤ 60 ∧ 0 ≤ p ∧ p ≤ 4 := by unfold npOK at h; omega
def frm (n p : Int) (l : T_api_Label) : Int := ((l.H * 60 + l.M) * 60 + l.S) * n + l.F - p * ((l.H * 60 + l.M) - (l.H * 60 + l.M) / 10)
def frmS (r : Int) (l : T_api_Label) : Int × Int := if chkL r l ≠ 0 then (0, chkL r l) else (frm (rN r) (dp r l.Drop) l, 0)
theorem chkL_0 {r : Int} {l : T_api_Label} (h : chkL r l = 0) : kd r l.Drop = 0 ∧ ¬ lbad r l := by
  unfold chkL at h
  split at h
  · rename_i hk; exact absurd h hk
  · rename_i hk
    split at h
    · cases h
    · rename_i hb; exact ⟨by simpa using hk, hb⟩
theorem tc_Frame {r : Int} (h : 0 ≤ r ∧ r ≤ 255) (l : T_api_Label) : g_timecode_Frame r l = some (frmS r l) := by
  unfold g_timecode_Frame frmS
  simp only [tc_Check h, (rates h).2.2.1, dropped_eq, Option.bind_some]
  by_cases hc : chkL r l = 0
  · have h1 : ¬ ((chkL r l != 0) = true) := by simpa using hc
    have h2 : ¬ (chkL r l ≠ 0) := by simpa using hc
    rw [if_neg h1, if_neg h2]
    obtain ⟨hk, hb⟩ := chkL_0 hc
    obtain ⟨hnp, _, _⟩ := kd_np hk
    unfold lbad at hb
    clear hk hc h1 h2
    unfold frm
    generalize rN r = n at *
    generalize dp r l.Drop = p at *
    obtain ⟨H, M, S, F, dr⟩ := l
    dsimp only at *
    have a1 : 0 ≤ H ∧ H ≤ 23 ∧ 0 ≤ M ∧ M ≤ 59 ∧ 0 ≤ S ∧ S ≤ 59 ∧ 0 ≤ F ∧ F < n := by omega
    clear hb
    rcases hnp with ⟨rfl, rfl⟩ | ⟨rfl, rfl⟩ | ⟨rfl, rfl⟩ | ⟨rfl, rfl⟩ | ⟨rfl, rfl⟩ | ⟨rfl, rfl⟩ | ⟨rfl, rfl⟩
    all_goals
      simp (disch := omega) only [wr64, Int.tdiv_eq_ediv_of_nonneg]
  · have : (chkL r l != 0) = true := by simpa using hc
    rw [if_pos this, if_pos hc]
theorem ref_tc_Frame {r : Int} (h : 0 ≤ r ∧ r ≤ 255) (l : T_api_Label) : g_ref03_Frame r l = some (frmS r l) := by
  unfold g_ref03_Frame frmS
  simp only [ref_tc_Check h, (rates h).2.2.2.1, Dropped_eq, Option.bind_some]
  by_cases hc : chkL r l = 0
  · have h1 : ¬ ((chkL r l != 0) = true) := by simpa using hc
    have h2 : ¬ (chkL r l ≠ 0) := by simpa using hc
    rw [if_neg h1, if_neg h2]
    obtain ⟨hk, hb⟩ := chkL_0 hc
    obtain ⟨hnp, hf, _⟩ := kd_np hk
    unfold lbad at hb
    clear hk hc h1 h2
    unfold frm
    obtain ⟨H, M, S, F, dr⟩ := l
    dsimp only at *
    cases dr
    · rw [hf rfl] at hnp ⊢
      simp only [Bool.false_eq_true, if_false]
      generalize rN r = n at *
      have a1 : 0 ≤ H ∧ H ≤ 23 ∧ 0 ≤ M ∧ M ≤ 59 ∧ 0 ≤ S ∧ S ≤ 59 ∧ 0 ≤ F ∧ F < n := by omega
      clear hb hf
      rcases hnp with ⟨rfl, hq⟩ | ⟨rfl, hq⟩ | ⟨rfl, hq⟩ | ⟨rfl, hq⟩ | ⟨rfl, hq⟩ | ⟨rfl, hq⟩ | ⟨rfl, hq⟩
      all_goals
        simp (disch := omega) only [wr64, Int.zero_mul, Int.sub_zero]
    · simp only [if_true]
      generalize rN r = n at *
      generalize dp r true = p at *
      have a1 : 0 ≤ H ∧ H ≤ 23 ∧ 0 ≤ M ∧ M ≤ 59 ∧ 0 ≤ S ∧ S ≤ 59 ∧ 0 ≤ F ∧ F < n := by omega
      clear hb hf
      rcases hnp with ⟨rfl, rfl⟩ | ⟨rfl, rfl⟩ | ⟨rfl, rfl⟩ | ⟨rfl, rfl⟩ | ⟨rfl, rfl⟩ | ⟨rfl, rfl⟩ | ⟨rfl, rfl⟩
      all_goals
        simp (disch := omega) only [wr64, Int.tdiv_eq_ediv_of_nonneg]
  · have : (chkL r l != 0) = true := by simpa using hc
    rw [if_pos this, if_pos hc]
end Go.Proofs.YtnjjdbljoligdaaGreatDoor
namespace Go.Proofs.YtnjjdbljoligdaaGreatDoor
set_option maxRecDepth 100000
theorem decL_dec {l : List UInt8} (h : l ≠ []) : decL l = Lib.decodeL l := by
  unfold Lib.decodeL
  have := decL_eq l 0 ((List.length_pos_iff.2 h))
  rw [this]; simp
theorem decL_wd {l : List UInt8} (h : l ≠ []) : 1 ≤ (decL l).2 := by rw [decL_dec h]; exact Lib.decodeL_width l
theorem wd_pos {s : List UInt8} {p : Nat} (h : p < s.length) : 1 ≤ widthAt s p := by
  unfold widthAt
  refine decL_wd fun h0 => ?_
  have := congrArg List.length h0
  simp at this; omega
theorem place_same (s : List UInt8) (r : Int) : g_charset_place_s1 s r = g_ref08_Index_s1 r s := by
  funext x
  unfold g_charset_place_s1 g_ref08_Index_s1
  rfl
theorem place_total (s : List UInt8) (hs : s.length ≤ 1000) (r : Int) : ∃ e, iter (g_ref08_Index_s1 r s) (0, 0) = some e := by
  have := iter_post (step := g_ref08_Index_s1 r s) (fun x => 0 ≤ x.1 ∧ x.1 ≤ x.2) (fun x => s.length - x.2) (fun _ => True) (x := (0, 0)) ⟨Int.le_refl _, by simp⟩ (by show s.length - 0 < _; omega) ?_
  · obtain ⟨e, h, _⟩ := this; exact ⟨e, h⟩
  · rintro ⟨n, p⟩ ⟨h0, h1⟩
    dsimp only at h0 h1
    unfold g_ref08_Index_s1
    dsimp only
    by_cases hp : p < s.length
    · rw [if_pos (by simpa using hp)]
      by_cases hr : (runeAt s p == r) = true
      · right; rw [if_pos hr]; exact ⟨_, rfl, trivial⟩
      · left; rw [if_neg hr]
        have hw := wd_pos hp
        refine ⟨_, rfl, ?_, ?_⟩
        · dsimp only
          rw [wr64 (by omega)]
          omega
        · dsimp only; omega
    · right; rw [if_neg (by simpa using hp)]; exact ⟨_, rfl, trivial⟩
theorem Index_same (r : Int) : ∃ v, g_charset_Index r = some v ∧ g_ref08_Index r = some v := by
  unfold g_charset_Index g_ref08_Index g_charset_place
  by_cases h : 32 ≤ r ∧ r ≤ 126
  · rw [if_pos (by simpa using h.1)]
    simp only [Option.bind_some]
    rw [if_pos (by simpa using h.2), if_pos (by simpa using h.2)]
    exact ⟨_, rfl, rfl⟩
  · have : (if decide (32 ≤ r) = true then some (decide (r ≤ 126)) else some false : Option Bool) = some false := by
      by_cases h1 : 32 ≤ r
      · have : ¬ r ≤ 126 := fun h2 => h ⟨h1, h2⟩
        simp [h1, this]
      · simp [h1]
    rw [this]
    simp only [Option.bind_some, Bool.false_eq_true, if_false, place_same, g_ref08_Repertoire]
    obtain ⟨e, he⟩ := place_total g_ref08_Repertoire.get! (by decide) r
    simp only [g_ref08_Repertoire, Option.get!] at he
    rw [he]
    cases e <;> exact ⟨_, rfl, rfl⟩
def ixv (r : Int) : Int := (g_ref08_Index r).getD 0
theorem ix_eq (r : Int) : g_charset_Index r = some (ixv r) ∧ g_ref08_Index r = some (ixv r) := by
  obtain ⟨v, h1, h2⟩ := Index_same r
  unfold ixv
  rw [h2]
  exact ⟨h1, rfl⟩
theorem ixv_bad : g_ref08_Index 65533 = some (-1) := by decide +kernel
def gv (l : List UInt8) : Bool := if h : l = [] then true else decide (0 ≤ ixv (decL l).1) && gv (l.drop (decL l).2)
termination_by l.length
decreasing_by
  have := decL_wd h
  have := (List.length_pos_iff.2 h)
  simp; omega
theorem gv_nil : gv [] = true := by unfold gv; simp
theorem gv_ne {l : List UInt8} (h : l ≠ []) : gv l = (decide (0 ≤ ixv (decL l).1) && gv (l.drop (decL l).2)) := by
  rw [gv, dif_neg h]
theorem gv_loop {step : Nat → Option (Nx Nat (Unit ⊕ Unit))} (s : List UInt8) (hs : s.length < 73786976294838206464) (hst : ∀ p, step p = (if decide (p < s.length) = true then (if decide (ixv (runeAt s p) < 0) = true then some (.out (.inl ())) else some (.go (p + widthAt s p))) else some (.out (.inr ())))) :
    iter step 0 = some (if gv s then .inr () else .inl ()) := by
  refine iter_of (fun p e => e = if gv (s.drop p) then .inr () else .inl ()) (fun p => s.length - p) ?_ (x := 0) (by simp) (by show s.length - 0 < _; omega)
  rintro p e rfl
  rw [hst]
  by_cases hp : p < s.length
  · rw [if_pos (by simpa using hp)]
    have hne : s.drop p ≠ [] := fun h0 => by have := congrArg List.length h0; simp at this; omega
    by_cases hr : ixv (runeAt s p) < 0
    · right
      rw [if_pos (by simpa using hr), gv_ne hne]
      have : ¬ 0 ≤ ixv (decL (s.drop p)).1 := by unfold runeAt at hr; omega
      simp [this]
    · left
      rw [if_neg (by simpa using hr)]
      have hw := wd_pos hp
      refine ⟨_, rfl, ?_, by omega⟩
      rw [gv_ne hne]
      have : 0 ≤ ixv (decL (s.drop p)).1 := by unfold runeAt at hr; omega
      simp only [this, decide_true, Bool.true_and, List.drop_drop]
      rfl
  · right
    rw [if_neg (by simpa using hp), List.drop_eq_nil_of_le (by omega), gv_nil]; rfl
theorem ref_Valid_eq (s : List UInt8) (hs : s.length ≤ 140737488355328) : g_ref08_Valid s = some (gv s) := by
  unfold g_ref08_Valid
  rw [gv_loop s (by omega) (fun p => by unfold g_ref08_Valid_s1; simp only [(ix_eq _).2, Option.bind_some])]
  cases gv s <;> rfl
theorem gv_valid : ∀ (n : Nat) (l : List UInt8), l.length ≤ n → gv l = true → Lib.validD l = true := by
  intro n
  induction n with
  | zero => intro l hl _; have : l = [] := List.eq_nil_of_length_eq_zero (by omega); subst this; rfl
  | succ n ih =>
    intro l hl h
    by_cases hne : l = []
    · subst hne; rfl
    · rw [gv_ne hne, Bool.and_eq_true, decide_eq_true_eq] at h
      have hw := decL_wd hne
      have hlen := List.length_pos_iff.2 hne
      rw [Lib.validD_step l hne, ← decL_dec hne, if_neg]
      · exact ih _ (by simp; omega) h.2
      · rintro ⟨h1, _⟩
        have h2 := h.1
        rw [h1] at h2
        unfold ixv at h2
        rw [show (((65533 : Nat) : Nat) : Int) = 65533 from rfl, ixv_bad] at h2
        simp at h2
theorem prog_Valid_eq (s : List UInt8) (hs : s.length ≤ 140737488355328) : g_charset_Valid s = some (gv s) := by
  unfold g_charset_Valid g_unicode_utf8_ValidString
  simp only [Option.bind_some]
  rw [gv_loop s (by omega) (fun p => by unfold g_charset_Valid_s1; simp only [(ix_eq _).1, Option.bind_some])]
  cases hg : gv s
  · cases Lib.validD s <;> rfl
  · rw [gv_valid s.length s (Nat.le_refl _) hg]; rfl
end Go.Proofs.YtnjjdbljoligdaaGreatDoor
namespace Go.Proofs.YtnjjdbljoligdaaGreatDoor
open Go.RowKit
def RdL {α : Type} (enc : α → List Value) (k : Nat) (w : World) (B : Nat) (A : Option Addr) (L : List α) : Prop :=
  L = [] ∨ ∃ b off, A = some ⟨b, off, none⟩ ∧ b < B ∧ ∀ i x, L[i]? = some x → ∀ j v, (enc x)[j]? = some v → w.cell? ⟨b, off + i * k + j, none⟩ = some v
section
variable {α : Type} {enc : α → List Value} {k : Nat} {w w' : World} {B B' : Nat} {A : Option Addr} {L : List α}
theorem RdL.nil : RdL enc k w B A [] := .inl rfl
theorem RdL.keep (h : RdL enc k w B A L) (hk : ∀ p : Addr, p.block < B → w'.cell? p = w.cell? p) : RdL enc k w' B A L := by
  rcases h with h | ⟨b, off, e, hb, hc⟩
  · exact .inl h
  · exact .inr ⟨b, off, e, hb, fun i x hx j v hv => (hk _ hb).trans (hc i x hx j v hv)⟩
theorem RdL.below (h : RdL enc k w B A L) (hb : Below B w w') : RdL enc k w' B A L := h.keep fun _ hp => hb.cell hp
theorem RdL.drewN (h : RdL enc k w B A L) (q : Nat) : RdL enc k (w.drewN q) B A L := h
end
def encI (x : Int) : List Value := [.int .i64 x]
def RdI (w : World) (B : Nat) (A : Option Addr) (L : List Int) : Prop := RdL encI 1 w B A L
theorem RdI.below {w w' : World} {B : Nat} {A : Option Addr} {L : List Int} (h : RdI w B A L) (hb : Below B w w') : RdI w' B A L := RdL.below h hb
end Go.Proofs.YtnjjdbljoligdaaGreatDoor
namespace Go.Proofs.YtnjjdbljoligdaaGreatDoor
open Go.RowKit
theorem bSize : (Tryz.prog.info? 67).map (·.size) = some 2 := by kernel_rfl
theorem bLies : liesAt Tryz.prog Tryz.prog.depth 67 (2 / Tryz.prog.cellsOf 67) 0 67 1 = true := by kernel_rfl
theorem byte_info : (Tryz.prog.info? 5).map (fun i => (i.zero, i.size, i.bytes)) = some (some (.int .u8 0), 1, 1) := by kernel_rfl
set_option maxHeartbeats 1000000 in
set_option maxRecDepth 100000 in
theorem copyCheck_used (b : Nat) (w : World) (h0 : w.cell? ⟨b, 0, none⟩ = some (.pointer (some ⟨b, 0, none⟩))) :
    Calls Tryz.prog 74 #[.pointer (some ⟨b, 0, none⟩)] w fun e w' => e = .returned (.tuple #[]) ∧ w = w' := by
  obtain ⟨j, hj, _⟩ := Option.map_eq_some_iff.1 bSize
  go_enter Tryz.func74, Tryz.ntmps74
  go_wp2
  rw [Lib.run_neq_ptr_same w _ Tryz.underlying64 hj]
  go_wp2
  go_end0
  exact ⟨rfl, rfl⟩
set_option maxHeartbeats 1000000 in
set_option maxRecDepth 100000 in
theorem copyCheck_fresh (b : Nat) (w : World) (h0 : w.cell? ⟨b, 0, none⟩ = some (.pointer none)) (hsh : w.shape? b = some (67, 2)) (hfz : w.frozen? ⟨b, 0, none⟩ = false) :
    Calls Tryz.prog 74 #[.pointer (some ⟨b, 0, none⟩)] w fun e w' => e = .returned (.tuple #[]) ∧ w.setCell ⟨b, 0, none⟩ (.pointer (some ⟨b, 0, none⟩)) = w' := by
  obtain ⟨j, hj, hjs⟩ := Option.map_eq_some_iff.1 bSize
  go_enter Tryz.func74, Tryz.ntmps74
  go_wp2
  rw [Lib.run_to_unsafe w ⟨b, 0, none⟩ Tryz.underlying64 Tryz.underlying162 hj (by rw [hjs]; decide) hsh (Nat.zero_lt_succ 1)]
  simp only [Result.andThen]
  rw [Oper.upon_value]
  go_wp2
  rw [run_callFunc_extern Tryz.func127 (by kernel_rfl) (by kernel_rfl) (by kernel_rfl) (e := Extern.AbiNoEscape.same) (by kernel_rfl)]
  rw [Lib.run_noEscape]
  simp only [Result.andThen]
  rw [Oper.upon_value]
  go_wp2
  rw [Lib.run_from_unsafe w ⟨b, 0, none⟩ Tryz.underlying162 Tryz.underlying64 hj hsh bLies]
  simp only [Result.andThen]
  rw [Oper.upon_value]
  go_wp2
  go_end0
  exact ⟨rfl, rfl⟩
section
variable {P : Program} {w : World}
theorem append_str_where (t u ty e : TypeId) (i : TypeInfo) (ht : P.underlying t = some (.slice e)) (hu : P.underlying u = some .string) (hi : P.info? e = some i) (hz : i.zero = some (.int .u8 0)) (hsize : i.size = 1) (hby : i.bytes = 1)
    (v : Value) (n : Nat) (xs : List Value) (hown : w.ownsRow 0 e 1 v n xs) (s : ByteArray) (h63 : n + s.size ≤ maxLen) (hbytes : n + s.size ≤ 140737488355328) {v' : Value} {w' : World} (h : (Builtin.append_ #[t, u] ty #[v, .string s]).run P w = .ok v' w') :
    (∀ g, v'.ownBlock = some g → w.heap.size ≤ g) ∨ v'.ownBlock = v.ownBlock := by
  have hsmall : n + s.size ≤ 9223372036854775807 := by simp only [maxLen] at h63; omega
  have hxl : xs.length = n := by simpa using hown.1
  rcases hown.2 with ⟨rfl, rfl⟩ | ⟨g, cap, cur, rfl, hbg, hg, hnc, hcm, hcs, htake⟩
  · by_cases hm : s.size = 0
    · have hf := Lib.run_firstCells_string (P := P) (w := w) 1 s
      rw [hm] at hf
      have hr : (Builtin.append_ #[t, u] ty #[.slice none 0 0, .string s]).run P w = .ok (.slice none 0 0) w := by
        simp [Builtin.append_, run_underlying ht, run_underlying hu, sizeOf, typeInfo, hi, hsize, Builtin.lenOf, hm, hf]
      rw [hr] at h
      injection h with h1 h2
      subst h1
      exact .inr rfl
    · rw [run_append_nil_string (P := P) w t u ty e i (.int .u8 0) ht hu hi hz s (by omega) (by omega) (by rw [hby]; omega)] at h
      injection h with h1 h2
      subst h1
      exact .inl fun g hg => by simp [Value.ownBlock] at hg; omega
  · by_cases hroom : n + s.size ≤ cap
    · have hcs' : cur.size = cap := by simpa using hcs
      rw [Lib.run_append_room_string (P := P) w t u ty e i ht hu hi hsize g n cap cur hg s hroom (by omega)] at h
      injection h with h1 h2
      subst h1
      exact .inr rfl
    · have holds : ∀ j u, xs[j]? = some u → w.cell? ((⟨g, 0, none⟩ : Addr).add j) = some u := hown.cells (g := g) rfl
      rw [Lib.run_append_grow_string (P := P) w t u ty e i (.int .u8 0) ht hu hi hz ⟨g, 0, none⟩ n cap xs (by rw [hsize]; simpa using hxl) holds s (by omega) (by omega) (by rw [hby]; exact growslice_fits (by omega) (by omega))] at h
      injection h with h1 h2
      subst h1
      exact .inl fun g hg => by simp [Value.ownBlock] at hg; omega
theorem wpList_append_str2 {ops : Array Oper} {rest : List Oper} {o : Oper} {a : Act} {Q : Exit → Act → World → Prop} (hgd : o.guard = none) (sl x : Operand) (t u : TypeId)
    (ho : o.op = .call { callee := .builtin .append, args := #[sl, x], argTypes := #[t, u] }) (e : TypeId) (i : TypeInfo) (ht : P.underlying t = some (.slice e)) (hu : P.underlying u = some .string) (hi : P.info? e = some i) (hz : i.zero = some (.int .u8 0))
    (hsize : i.size = 1) (hby : i.bytes = 1) (v : Value) (n : Nat) (xs : List Value) (hs : a.eval sl = v) (hown : w.ownsRow 0 e 1 v n xs) (s : ByteArray) (hx : a.eval x = .string s) (h63 : n + s.size ≤ maxLen) (hbytes : n + s.size ≤ 140737488355328)
    (h : ∀ v' w', w'.ownsRow 0 e 1 v' (n + s.size) (xs ++ Lib.strCells s) → w.grownBy w' v.ownBlock → ((∀ g, v'.ownBlock = some g → w.heap.size ≤ g) ∨ v'.ownBlock = v.ownBlock) → wpList P ops Q rest (a.put o.dst v') w') : wpList P ops Q (o :: rest) a w := by
  refine wpList_plain hgd fun K hK => ?_
  obtain ⟨v', w', hr, h2, h3, _⟩ := Lib.run_append_own_string (P := P) w 0 t u o.type e i ht hu hi hz hsize hby v n xs hown s h63 hbytes (Nat.zero_le _)
  have hw := append_str_where (P := P) t u o.type e i ht hu hi hz hsize hby v n xs hown s h63 hbytes hr
  unfold Oper.wp execOp
  simp only [ho, resolve, invoke, builtin, Sem.run_bind, Sem.run_pure, Result.andThen_ok, List.map_toArray, List.map_cons, List.map_nil, hs, hx, hr]
  exact hK _ _ (h v' w' h2 h3 hw)
end
def BldAt (b : Nat) (v : Value) (w : World) : Prop := ∃ p, (p = .pointer none ∨ p = .pointer (some ⟨b, 0, none⟩)) ∧ w.heap[b]? = some (.cells #[p, v] 67 (0, 0))
theorem copyCheck_bld (b : Nat) (v : Value) (w : World) (h : BldAt b v w) : Calls Tryz.prog 74 #[.pointer (some ⟨b, 0, none⟩)] w fun e w' => e = .returned (.tuple #[]) ∧
    w'.heap[b]? = some (.cells #[.pointer (some ⟨b, 0, none⟩), v] 67 (0, 0)) ∧ w'.heap.size = w.heap.size ∧ w'.os = w.os ∧ w'.tape = w.tape ∧ w'.output = w.output ∧ ∀ k, k ≠ b → w'.heap[k]? = w.heap[k]? := by
  obtain ⟨p, hp, hb⟩ := h
  rcases hp with rfl | rfl
  · refine (copyCheck_fresh b w (by rw [Lib.cell_of_heap hb]; rfl) (by simp [World.shape?, hb]) (Lib.frozen_of_heap hb 0)).mono ?_
    rintro e w' ⟨rfl, rfl⟩
    exact ⟨rfl, by simp [World.setCell, Array.getElem?_modify, hb], by simp [World.setCell], rfl, rfl, rfl, fun k hk => Below.heap_setCell w ⟨b, 0, none⟩ _ k hk⟩
  · refine (copyCheck_used b w (by rw [Lib.cell_of_heap hb]; rfl)).mono ?_
    rintro e w' ⟨rfl, rfl⟩
    exact ⟨rfl, hb, rfl, rfl, rfl, rfl, fun _ _ => rfl⟩
set_option maxHeartbeats 2000000 in
set_option maxRecDepth 100000 in
theorem writeStr (b : Nat) (v : Value) (bs : List Value) (s : ByteArray) (w : World) (h : BldAt b v w) (hown : w.ownsRow 0 5 1 v bs.length bs) (hne : v.ownBlock ≠ some b) (hlen : bs.length + s.size ≤ 140737488355328) :
    Calls Tryz.prog 36 #[.pointer (some ⟨b, 0, none⟩), .string s] w fun e w' => e = .returned (.tuple #[.int .i64 s.size, .nilIface]) ∧
      ∃ v', w'.heap[b]? = some (.cells #[.pointer (some ⟨b, 0, none⟩), v'] 67 (0, 0)) ∧ w'.ownsRow 0 5 1 v' (bs.length + s.size) (bs ++ Lib.strCells s) ∧ v'.ownBlock ≠ some b ∧
        ((∀ g, v'.ownBlock = some g → w.heap.size ≤ g) ∨ v'.ownBlock = v.ownBlock) ∧ BelM (fun k => w.heap.size ≤ k ∨ k = b ∨ v.ownBlock = some k) w w' := by
  obtain ⟨i0, hi, hz0, hz1, hz2⟩ := info_parts byte_info
  have hltb : b < w.heap.size := by obtain ⟨p, _, hb⟩ := h; exact (Array.getElem?_eq_some_iff.1 hb).1
  go_enter Tryz.func36, Tryz.ntmps36
  go_wp2_with (go_at_call 74; refine (copyCheck_bld b v _ h).mono ?_)
  rintro e w1 ⟨rfl, hbk, hsz, hos, htp, hou, ho1⟩
  have HO1 := Lib.hid ho1
  have HS := Lib.hid hsz
  have HX := Lib.hid (And.intro hos (And.intro htp hou))
  clear ho1 hsz hos htp hou
  have hown1 : w1.ownsRow 0 5 1 v bs.length bs := by
    refine ⟨hown.1, ?_⟩
    rcases hown.2 with h0 | ⟨g, cap, cur, h1, h2, h3, h4⟩
    · exact .inl h0
    · exact .inr ⟨g, cap, cur, h1, h2, (HO1.out g (fun e => hne (by rw [h1, e]; rfl))).trans h3, h4⟩
  have c0 : w1.cell? ⟨b, 0, none⟩ = some (.pointer (some ⟨b, 0, none⟩)) := by rw [Lib.cell_of_heap hbk]; rfl
  have c1 : w1.cell? ⟨b, 1, none⟩ = some v := by rw [Lib.cell_of_heap hbk]; rfl
  go_wp2_with (at_builtin; refine wpList_append_str2 rfl _ _ 65 9 rfl 5 i0 Tryz.underlying65 Tryz.underlying9 hi hz0 hz1 hz2 _ _ _ rfl hown1 s rfl ?c3 ?c4 ?_)
  case c3 => unfold maxLen; omega
  case c4 => omega
  intro v' w2 hown' hgrow hwh
  have hlt : b < w1.heap.size := by rw [HS.out]; exact hltb
  have hb2 : w2.heap[b]? = some (.cells #[.pointer (some ⟨b, 0, none⟩), v] 67 (0, 0)) := by
    rw [hgrow.block b hlt (fun e => hne e.symm)]
    exact hbk
  have d0 : w2.cell? ⟨b, 0, none⟩ = some (.pointer (some ⟨b, 0, none⟩)) := by rw [Lib.cell_of_heap hb2]; rfl
  have d1 : w2.cell? ⟨b, 1, none⟩ = some v := by rw [Lib.cell_of_heap hb2]; rfl
  have f1 : w2.frozen? ⟨b, 1, none⟩ = false := Lib.frozen_of_heap hb2 1
  have hne' : v'.ownBlock ≠ some b := by
    intro e
    rcases hwh with h1 | h1
    · have := h1 b e; omega
    · exact hne (h1 ▸ e)
  have HW := Lib.hid hwh
  have HN := Lib.hid hne'
  have HG := Lib.hid hgrow
  clear hwh hne'
  obtain ⟨ao, n', cap, rfl⟩ : ∃ ao n' cap, v' = .slice ao n' cap := by
    rcases hown'.2 with ⟨hv, _⟩ | ⟨g, cap, cur, hv, _⟩
    · exact ⟨_, _, _, hv⟩
    · exact ⟨_, _, _, hv⟩
  go_wp2
  go_ret2
  refine ⟨rfl, .slice ao n' cap, ?_, ?_, HN.out, ?_, ?_⟩
  · simp [World.setCell, Array.getElem?_modify, hb2]
  · refine ⟨hown'.1, ?_⟩
    rcases hown'.2 with h0 | ⟨g, cap', cur, h1, h2, h3, h4⟩
    · exact .inl h0
    · exact .inr ⟨g, cap', cur, h1, h2, (Below.heap_setCell _ _ _ _ (fun e => HN.out (by rw [h1, e]; rfl))).trans h3, h4⟩
  · rw [HS.out] at HW; exact HW.out
  · have hX := HX.out
    refine ⟨HG.out.os.trans hX.1, HG.out.tape.trans hX.2.1, HG.out.output.trans hX.2.2, ?_, fun k hk hm => ?_⟩
    · have := HG.out.size; rw [HS.out] at this; simpa [World.setCell] using this
    · have hkb : k ≠ b := fun e => hm (.inr (.inl e))
      rw [Below.heap_setCell _ _ _ _ hkb, HG.out.block k (by rw [HS.out]; exact hk) (fun e => hm (.inr (.inr e.symm))), HO1.out k hkb]
end Go.Proofs.YtnjjdbljoligdaaGreatDoor
namespace Go.Proofs.YtnjjdbljoligdaaGreatDoor
open Go.RowKit
set_option maxRecDepth 100000
def toI (l : List UInt8) : List Int := l.map fun b => (b.toNat : Int)
theorem toI_length (l : List UInt8) : (toI l).length = l.length := by simp [toI]
theorem strCells_rep {w : World} {C : Cx} (s : List UInt8) : RepL C w (Lib.strCells ⟨s.toArray⟩) (((toI s).map (D.int .u8)).flatMap D.cells) := by
  rw [flatU8]
  have e : Lib.strCells ⟨s.toArray⟩ = s.map fun b => Value.int .u8 b.toNat := by simp [Lib.strCells]
  rw [e]
  refine ⟨by simp [toI], fun v hv => ?_, fun i v d hv hd => ?_⟩
  · obtain ⟨b, _, rfl⟩ := List.mem_map.1 hv; rfl
  · simp only [toI, List.getElem?_map] at hv hd
    cases hs : s[i]? with
    | none => rw [hs] at hv; simp at hv
    | some b =>
      rw [hs] at hv hd
      simp at hv hd
      subst hv hd
      exact .int _ _ (by have := b.toNat_lt; unfold inR; simp only [kLo, kHi]; omega)
theorem flatU8_len (l : List Int) : ∀ x ∈ l.map (D.int .u8), x.cells.length = 1 := by
  intro x hx; obtain ⟨n, _, rfl⟩ := List.mem_map.1 hx; rfl
theorem sp_cases {w : World} {C : Cx} {v : Value} {id : Nat} (h : Rep w C v (.sp id)) {g : Nat} (hs : C.σ id = .pointer (some ⟨g, 0, none⟩)) : v = .pointer none ∨ v = .pointer (some ⟨g, 0, none⟩) := by
  cases h with
  | sp0 _ _ => exact .inl rfl
  | sp1 _ g' _ h' => rw [hs] at h'; injection h' with h'; injection h' with h'; injection h' with h'; subst h'; exact .inr rfl
theorem bld_block {w : World} {C : Cx} {id g : Nat} {d : D} (hs : C.σ id = .pointer (some ⟨g, 0, none⟩)) (h : BRep C w 0 id (.bbox 67 [.sp id, d])) : ∃ v, BldAt g v w ∧ Rep w C v d ∧ ∀ o, ¬ C.F g o := by
  obtain ⟨g', vs, q1, q2, q3, q4, q5⟩ := h
  rw [hs] at q1; injection q1 with q1; injection q1 with q1; injection q1 with q1
  subst q1
  have hl := q4.len
  obtain ⟨p, v, hvs⟩ : ∃ p v, vs = #[p, v] := by
    obtain ⟨l⟩ := vs
    match l, hl with
    | [p, v], _ => exact ⟨p, v, rfl⟩
  subst hvs
  exact ⟨v, ⟨p, sp_cases (q4.rep 0 p _ rfl rfl) hs, q3⟩, q4.rep 1 v _ rfl rfl, q5⟩
theorem wrote (I : World → Prop) (id nid : Nat) (s : List UInt8) (l : List Int) (H : Nat → Option Blk) (d : D) (eff : Eff) (hid : H id = some (.bbox 67 [.sp id, d])) (hlen : l.length + s.length ≤ 140737488355328) (hne : nid ≠ id)
    (hd : (d = .nils ∧ l = [] ∧ eff = [(nid, some (.vec 5 1 ((l ++ toI s).map (D.int .u8)) false)), (id, some (.bbox 67 [.sp id, .own nid (l.length + s.length)]))]) ∨
      ∃ id2, d = .own id2 l.length ∧ H id2 = some (.vec 5 1 (l.map (D.int .u8)) false) ∧ id2 ≠ id ∧ eff = [(id2, none), (nid, some (.vec 5 1 ((l ++ toI s).map (D.int .u8)) false)), (id, some (.bbox 67 [.sp id, .own nid (l.length + s.length)]))]) :
    CallOK Tryz.prog I 36 [.ptr id 0, .str s] H nid (.tup [.int .i64 s.length, .err false]) eff := by
  refine ⟨by kernel_rfl, fun i0 w C B args hI hb0 hM hH hF hbase hn hal hrep => ?_⟩
  obtain ⟨a0, a1, rfl⟩ : ∃ a0 a1, args = [a0, a1] := by
    match args, hal with
    | [a, b], _ => exact ⟨a, b, rfl⟩
  have r0 := hrep 0 a0 _ rfl rfl
  have r1 := hrep 1 a1 _ rfl rfl
  clear hrep
  obtain ⟨rfl, hsl⟩ := rep_str1 r1
  cases r0 with
  | ptr _ _ g hlid hσ =>
  obtain ⟨k0, k1⟩ := hH.rep id _ hid
  obtain ⟨v, hB, hv, hnoF⟩ := bld_block hσ k1
  have hgM : B.M g := hH.own id _ hid g (by rw [hσ]; rfl)
  have hglt : g < w.heap.size := by obtain ⟨p, _, hb⟩ := hB; exact (Array.getElem?_eq_some_iff.1 hb).1
  -- the row
  obtain ⟨vals, hown, hvals, hvne, hvM, hvF⟩ : ∃ vals, w.ownsRow 0 5 1 v vals.length vals ∧ vals.length = l.length ∧ v.ownBlock ≠ some g ∧ (∀ k, v.ownBlock = some k → B.M k) ∧ (∀ k o, v.ownBlock = some k → ¬ C.F k o) := by
    rcases hd with ⟨rfl, rfl, _⟩ | ⟨id2, rfl, h2, h3, _⟩
    · cases hv
      exact ⟨[], World.ownsRow_nil _ _ _ _, rfl, by simp [Value.ownBlock], by simp [Value.ownBlock], by simp [Value.ownBlock]⟩
    · cases hv with
      | own _ _ c A hl2 hm2 hσ2 =>
        obtain ⟨_, vals, q1, q2, q3, q4⟩ := hH.rep id2 _ h2
        rw [hσ2] at q1
        have hvl : vals.length = l.length := by have := q1.1; simpa using this
        refine ⟨vals, by rw [hvl]; simpa using q1, hvl, fun e => ?_, fun k hk => hH.own id2 _ h2 k (by rw [hσ2, blockOf_own]; exact hk), fun k o hk hF' => ?_⟩
        · exact hH.apart id2 id _ _ h2 hid h3 g (by rw [hσ2, blockOf_own]; exact e) (by rw [hσ]; rfl)
        · have := ((q4 k (by rw [hσ2]; exact hk)).1 o hF').1; cases this
  have hssz : (⟨s.toArray⟩ : ByteArray).size = s.length := bsize s
  refine (writeStr g v vals ⟨s.toArray⟩ w hB hown hvne (by rw [hvals, hssz]; exact hlen)).mono ?_
  rintro e w' ⟨rfl, v', e1, e2, e3, e4, e5⟩
  rw [hssz, hvals] at e2
  have hbel : BelM B.M w w' := ⟨e5.os, e5.tape, e5.output, e5.size, fun k hk hm => e5.block k hk (by
    rintro (h | h | h)
    · omega
    · exact hm (h ▸ hgM)
    · exact hm (hvM k h))⟩
  -- outside the two blocks nothing has changed
  have hout : ∀ k, k < w.heap.size → k ≠ g → v.ownBlock ≠ some k → w'.heap[k]? = w.heap[k]? := fun k hk h1 h2 => e5.block k hk (by rintro (h | h | h); omega; exact h1 h; exact h2 h)
  have hFk : ∀ b o, C.F b o → w'.heap[b]? = w.heap[b]? := fun b o hb => hout b (hF b o hb) (fun e => hnoF o (e ▸ hb)) (fun e => hvF b o e hb)
  have ee := Cx.new_ext (C := C) (w := w) (w' := w') hn v' hFk
  have hs2 : (C.new nid v').σ nid = v' := by simp [Cx.new, upd]
  have hσ' : (C.new nid v').σ id = .pointer (some ⟨g, 0, none⟩) := by rw [ee.σ id hlid]; exact hσ
  obtain ⟨A', c', rfl⟩ : ∃ A' c', v' = .slice A' (l.length + s.length) c' := by
    rcases e2.2 with ⟨h1, h2⟩ | ⟨g', cap, cur, h1, _⟩
    · exact ⟨none, 0, by rw [h1, h2]⟩
    · exact ⟨_, _, h1⟩
  have hlm : l.length + s.length ≤ maxLen := by unfold maxLen; omega
  have hnewF : ∀ k, (Value.slice A' (l.length + s.length) c').ownBlock = some k → ∀ o, ¬ C.F k o := by
    intro k hk o hb
    rcases e4 with h | h
    · have := h k hk; have := hF k o hb; omega
    · exact hvF k o (h ▸ hk) hb
  -- the row's new block stands for the new list
  have hvec : ∀ (q3 : RepL (cF C.F) w vals ((l.map (D.int .u8)).flatMap D.cells)), BRep (C.new nid (.slice A' (l.length + s.length) c')) w' 0 nid (.vec 5 1 ((l ++ toI s).map (D.int .u8)) false) := by
    intro q3
    refine ⟨vals ++ Lib.strCells ⟨s.toArray⟩, ?_, flatU8_len _, ?_, ?_⟩
    · rw [hs2]; simpa [toI_length] using e2
    · rw [List.map_append, List.flatMap_append]
      exact (q3.ext ee.cF).append (strCells_rep s)
    · intro k hk
      rw [hs2] at hk
      exact ⟨fun o ho => absurd ho (hnewF k hk o), fun h => by cases h⟩
  have hbox : BRep (C.new nid (.slice A' (l.length + s.length) c')) w' 0 id (.bbox 67 [.sp id, .own nid (l.length + s.length)]) := by
    refine ⟨g, #[.pointer (some ⟨g, 0, none⟩), .slice A' (l.length + s.length) c'], hσ', Nat.zero_le _, e1, ?_, hnoF⟩
    have x1 : Rep w' (C.new nid (.slice A' (l.length + s.length) c')) (.pointer (some ⟨g, 0, none⟩)) (.sp id) := .sp1 id g (Or.inl hlid) hσ'
    have x2 : Rep w' (C.new nid (.slice A' (l.length + s.length) c')) (.slice A' (l.length + s.length) c') (.own nid (l.length + s.length)) := .own nid _ c' A' (Or.inr rfl) hlm hs2
    exact (RepL.one1 rfl x1).append (RepL.one1 rfl x2)
  -- everything else is as it was
  have hrest : ∀ j bj, j ≠ id → (∀ k, blockOf (C.σ j) = some k → v.ownBlock ≠ some k) → H j = some bj → (C.new nid (.slice A' (l.length + s.length) c')).live j ∧ BRep (C.new nid (.slice A' (l.length + s.length) c')) w' 0 j bj := by
    intro j bj hj hv hb
    obtain ⟨h1, h2⟩ := hH.rep j bj hb
    exact ⟨.inl h1, h2.keep h1 ee (fun k hk => hout k (h2.lt k hk).2 (fun e => hH.apart j id _ _ hb hid hj k hk (by rw [hσ, e]; rfl)) (hv k hk)) (fun k o _ h => h)⟩
  have hrepr : Rep w' (C.new nid (.slice A' (l.length + s.length) c')) (.tuple #[.int .i64 ((⟨s.toArray⟩ : ByteArray).size : Int), .nilIface]) (.tup [.int .i64 s.length, .err false]) := by
    rw [hssz]
    refine .tup [.int .i64 s.length, .nilIface] _ rfl ?_
    intro i v d hv hd
    match i with
    | 0 => simp at hv hd; subst hv hd; exact .int _ _ (by unfold inR; simp only [kLo, kHi]; omega)
    | 1 => simp at hv hd; subst hv hd; exact .err0
    | i + 2 => simp at hv
  have hdead : ∀ b, H nid ≠ some b := fun b hb => hn (hH.rep nid b hb).1
  have hfin : ∀ H', (∀ j, j ≠ id → j ≠ nid → ∀ b, H' j = some b → H j = some b ∧ ∀ k, blockOf (C.σ j) = some k → v.ownBlock ≠ some k) → H' nid = some (.vec 5 1 ((l ++ toI s).map (D.int .u8)) false) → H' id = some (.bbox 67 [.sp id, .own nid (l.length + s.length)]) →
      RepL (cF C.F) w vals ((l.map (D.int .u8)).flatMap D.cells) → HOK (C.new nid (.slice A' (l.length + s.length) c')) w' B H' := by
    intro H' hold hnew hnb q3
    have bσ : ∀ j b, j ≠ id → j ≠ nid → H' j = some b → (C.new nid (.slice A' (l.length + s.length) c')).σ j = C.σ j := fun j b h1 h2 h3 => ee.σ j (hH.rep j b (hold j h1 h2 b h3).1).1
    have bnid : ∀ k, blockOf (Value.slice A' (l.length + s.length) c') = some k → w.heap.size ≤ k ∨ v.ownBlock = some k := by
      intro k hk
      rw [blockOf_own] at hk
      rcases e4 with h | h
      · exact .inl (h k hk)
      · exact .inr (h ▸ hk)
    have apn : ∀ j b, j ≠ id → j ≠ nid → H' j = some b → ∀ k, blockOf (C.σ j) = some k → blockOf (Value.slice A' (l.length + s.length) c') ≠ some k := by
      intro j b h1 h2 h3 k hk hk2
      obtain ⟨h4, h5⟩ := hold j h1 h2 b h3
      rcases bnid k hk2 with h | h
      · have := ((hH.rep j b h4).2.lt k hk).2; omega
      · exact h5 k hk h
    have apb : ∀ j b, j ≠ id → j ≠ nid → H' j = some b → ∀ k, blockOf (C.σ j) = some k → k ≠ g := by
      intro j b h1 h2 h3 k hk e
      exact hH.apart j id b _ (hold j h1 h2 b h3).1 hid h1 k hk (by rw [hσ, e]; rfl)
    have apnb : ∀ k, blockOf (Value.slice A' (l.length + s.length) c') = some k → k ≠ g := by
      intro k hk e
      rcases bnid k hk with h | h
      · omega
      · exact hvne (e ▸ h)
    refine ⟨fun j b hj => ?_, fun j b hj k hk => ?_, fun j k cs hj => ?_, fun j j' b b' hj hj' hjj k hk hk' => ?_⟩
    · by_cases h1 : j = id
      · subst h1; rw [hnb] at hj; injection hj with hj; subst hj; exact ⟨.inl hlid, hbox⟩
      · by_cases h2 : j = nid
        · subst h2; rw [hnew] at hj; injection hj with hj; subst hj; exact ⟨.inr rfl, hvec q3⟩
        · obtain ⟨h3, h4⟩ := hold j h1 h2 b hj
          exact hrest j b h1 h4 h3
    · by_cases h1 : j = id
      · subst h1; rw [hσ'] at hk; simp [blockOf] at hk; subst hk; exact hgM
      · by_cases h2 : j = nid
        · subst h2
          rw [hs2] at hk
          rcases bnid k hk with h | h
          · exact hbase k h
          · exact hvM k h
        · rw [bσ j b h1 h2 hj] at hk
          exact hH.own j b (hold j h1 h2 b hj).1 k hk
    · by_cases h1 : j = id
      · subst h1; rw [hnb] at hj; cases hj
      · by_cases h2 : j = nid
        · subst h2; rw [hnew] at hj; cases hj
        · rw [bσ j _ h1 h2 hj]; exact hH.pin j k cs (hold j h1 h2 _ hj).1
    · by_cases h1 : j = id
      · subst h1
        rw [hσ'] at hk; simp [blockOf] at hk; subst hk
        by_cases h2 : j' = nid
        · subst h2; rw [hs2] at hk'; exact apnb _ hk' rfl
        · rw [bσ j' b' (fun e => hjj e.symm) h2 hj'] at hk'
          exact apb j' b' (fun e => hjj e.symm) h2 hj' _ hk' rfl
      · by_cases h2 : j = nid
        · subst h2
          rw [hs2] at hk
          by_cases h3 : j' = id
          · subst h3; rw [hσ'] at hk'; simp [blockOf] at hk'; subst hk'; exact apnb _ hk rfl
          · rw [bσ j' b' h3 (fun e => hjj e.symm) hj'] at hk'
            exact apn j' b' h3 (fun e => hjj e.symm) hj' k hk' hk
        · rw [bσ j b h1 h2 hj] at hk
          by_cases h3 : j' = id
          · subst h3; rw [hσ'] at hk'; simp [blockOf] at hk'; subst hk'; exact apb j b h1 h2 hj _ hk rfl
          · by_cases h4 : j' = nid
            · subst h4; rw [hs2] at hk'; exact apn j b h1 h2 hj k hk hk'
            · rw [bσ j' b' h3 h4 hj'] at hk'
              exact hH.apart j j' b b' (hold j h1 h2 b hj).1 (hold j' h3 h4 b' hj').1 hjj k hk hk'
  refine ⟨_, C.new nid (.slice A' (l.length + s.length) c'), rfl, hbel, ee, hrepr, ?_, fun b o h => Nat.lt_of_lt_of_le (hF b o h) e5.size, fun _ h => h, fun _ _ h => .inl h⟩
  rcases hd with ⟨rfl, rfl, rfl⟩ | ⟨id2, rfl, h2, h3, rfl⟩
  · cases hv
    have hvn : vals = [] := List.eq_nil_of_length_eq_zero hvals
    refine hfin _ (fun j h1 h2 b hb => ?_) (by simp [appEff, upd, hne]) (by simp [appEff, upd]) (by rw [hvn]; exact RepL.nil)
    simp [appEff, upd, h1, h2] at hb
    exact ⟨hb, by simp [Value.ownBlock]⟩
  · cases hv with
    | own _ _ c A hl2 hm2 hσ2 =>
      obtain ⟨_, vals2, q1, q2, q3, q4⟩ := hH.rep id2 _ h2
      rw [hσ2] at q1
      have hn2 : nid ≠ id2 := fun e => hdead _ (e ▸ h2)
      have hvv : vals2 = vals := by
        rcases q1.2 with ⟨r1, r2⟩ | ⟨g1, cap1, cur1, r1, r2, r3, r4, r5, r6, r7⟩
        · have r2' : l.length = 0 := by simpa using r2
          rw [List.eq_nil_of_length_eq_zero (l := vals) (by omega), List.eq_nil_of_length_eq_zero (l := vals2) (by have := q1.1; simp at this; omega)]
        · rcases hown.2 with ⟨t1, t2⟩ | ⟨g2, cap2, cur2, t1, t2, t3, t4, t5, t6, t7⟩
          · rw [t1] at r1; cases r1
          · rw [r1] at t1; injection t1 with t1 _ _; injection t1 with t1; injection t1 with t1
            subst t1
            rw [r3] at t3; injection t3 with t3; injection t3 with t3
            subst t3
            rw [← r7, ← t7]; simp [hvals]
      refine hfin _ (fun j h1 h2' b hb => ?_) (by simp [appEff, upd, hne]) (by simp [appEff, upd]) (by rw [← hvv]; exact q3)
      by_cases hj2 : j = id2
      · subst hj2; simp [appEff, upd, h1, h2'] at hb
      · simp [appEff, upd, h1, h2', hj2] at hb
        exact ⟨hb, fun k hk hk2 => hH.apart j id2 _ _ hb h2 hj2 k hk (by rw [hσ2, blockOf_own]; exact hk2)⟩
theorem c_WriteString0 (I : World → Prop) {id nid : Nat} {s : List UInt8} {H : Nat → Option Blk} (hid : H id = some (.bbox 67 [.sp id, .nils])) (hlen : s.length ≤ 140737488355328) (hne : nid ≠ id) :
    CallOK Tryz.prog I 36 [.ptr id 0, .str s] H nid (.tup [.int .i64 s.length, .err false]) [(nid, some (.vec 5 1 ((toI s).map (D.int .u8)) false)), (id, some (.bbox 67 [.sp id, .own nid (toI s).length]))] :=
  wrote I id nid s [] H .nils _ hid (by simpa using hlen) hne (.inl ⟨rfl, rfl, by simp [toI_length]⟩)
theorem c_WriteString1 (I : World → Prop) {id nid id2 n : Nat} {s : List UInt8} {l : List Int} {H : Nat → Option Blk} (hid : H id = some (.bbox 67 [.sp id, .own id2 n])) (h2 : H id2 = some (.vec 5 1 (l.map (D.int .u8)) false)) (hn : n = l.length) (hlen : l.length + s.length ≤ 140737488355328) (hne : nid ≠ id) :
    CallOK Tryz.prog I 36 [.ptr id 0, .str s] H nid (.tup [.int .i64 s.length, .err false]) [(id2, none), (nid, some (.vec 5 1 ((l ++ toI s).map (D.int .u8)) false)), (id, some (.bbox 67 [.sp id, .own nid (l ++ toI s).length]))] := by
  subst hn
  exact wrote I id nid s l H _ _ hid hlen hne (.inr ⟨id2, rfl, h2, fun e => (by rw [e, hid] at h2; cases h2), by simp [toI_length]⟩)
set_option maxHeartbeats 2000000 in
theorem bldString_row (b g cap : Nat) (p : Value) (cur : Array Value) (l : List UInt8) (w : World) (h0 : l ≠ []) (hbk : w.heap[b]? = some (.cells #[p, .slice (some ⟨g, 0, none⟩) l.length cap] 67 (0, 0)))
    (hown : w.ownsRow 0 5 1 (.slice (some ⟨g, 0, none⟩) l.length cap) l.length (Lib.byteCells l)) :
    Calls Tryz.prog 43 #[.pointer (some ⟨b, 0, none⟩)] w fun e w' => e = .returned (.string ⟨l.toArray⟩) ∧ BelM (fun k => w.heap.size ≤ k ∨ k = g) w w' := by
  have hl0 : l.length ≠ 0 := by simpa using h0
  obtain ⟨cur, hg, hnc, hcm, hcs⟩ : ∃ cur, w.heap[g]? = some (.cells cur 5 (0, 0)) ∧ l.length ≤ cap ∧ cap ≤ maxLen ∧ cur.size = cap * 1 := by
    rcases hown.2 with ⟨_, hz⟩ | ⟨g', cap', cur, hv, _, h1, h2, h3, h4, _⟩
    · exact absurd hz hl0
    · injection hv with hv1 _ hv2; injection hv1 with hv1; injection hv1 with hv1
      subst hv1 hv2; exact ⟨cur, h1, h2, h3, h4⟩
  have c1 : w.drew.cell? ⟨b, 1, none⟩ = some (.slice (some ⟨g, 0, none⟩) l.length cap) := by
    have : w.drew.heap[b]? = some (.cells #[p, .slice (some ⟨g, 0, none⟩) l.length cap] 67 (0, 0)) := hbk
    rw [Lib.cell_of_heap this]; rfl
  have hSD : (Builtin.unsafeSliceData_ #[65] 112 #[.slice (some ⟨g, 0, none⟩) l.length cap]).run Tryz.prog w.drew = .ok (.pointer (some ⟨g, 0, none⟩)) w.drew :=
    Lib.run_unsafeSliceData_row _ _ _ _ _ _ (by omega)
  have hUS : (Builtin.unsafeString_ #[112, 3] 9 #[.pointer (some ⟨g, 0, none⟩), .int .i64 l.length]).run Tryz.prog w.drew = .ok (.string ⟨l.toArray⟩) (w.drew.freeze ⟨g, 0, none⟩ l.length) := by
    refine Lib.run_unsafeString_row w.drew 112 3 9 5 Tryz.underlying112 (by kernel_rfl) g cur.size (by have hg' : w.drew.heap[g]? = some (.cells cur 5 (0, 0)) := hg; simp [World.shape?, hg']) l h0 (by omega) (by unfold maxLen at hcm; omega) ?_
    intro j x hx
    exact hown.cells (g := g) rfl j (.int .u8 x.toNat) (by simp [Lib.byteCells, hx])
  have mixed : Tryz.prog.follows .mixedOrders = true := by kernel_rfl
  have hbf := Lib.below_freeze (Below.drew (Below.refl g w)) (p := ⟨g, 0, none⟩) (Nat.le_refl _) l.length
  have hoth : ∀ k, k ≠ g → (w.drew.freeze ⟨g, 0, none⟩ l.length).heap[k]? = w.heap[k]? := by
    intro k hk
    simp only [World.freeze, hl0, if_false]
    rw [Array.getElem?_modify]
    simp only [Ne.symm hk, if_false]
    rfl
  have HB := Lib.hid (And.intro hbf hoth)
  clear hbf hoth
  go_enter Tryz.func43, Tryz.ntmps43
  go_wp2
  go_region_o
  all_goals (go_wp2; go_ret; exact ⟨rfl, HB.out.1.os, HB.out.1.tape, HB.out.1.output, HB.out.1.size, fun k _ hm => HB.out.2 k (fun e => hm (.inr e))⟩)
theorem callString {P : Program} {C : Cx} {w w' : World} {B : Bx} {H : Nat → Option Blk} {nid : Nat} {l : List UInt8} (hH : HOK C w B H) (hF : FB C w) (hb : Below w.heap.size w w') (hl : l.length ≤ maxLen) :
    ∃ v C', Ending.returned (.string ⟨l.toArray⟩) = .returned v ∧ BelM B.M w w' ∧ Ext C w C' w' ∧ Rep w' C' v (.str l) ∧ HOK C' w' B (appEff H []) ∧ FB C' w' ∧ (∀ id, C'.live id → C.live id ∨ id = nid) ∧ ∀ b o, C'.F b o → C.F b o ∨ B.M b := by
  have ee : Ext C w C w' := ⟨fun _ _ h => h, fun b o h => hb.block b (hF b o h), fun _ h => h, fun _ _ => rfl⟩
  refine ⟨_, C, rfl, BelM.of hb, ee, .str l hl, ⟨fun id b h => ?_, hH.own, hH.pin, hH.apart⟩, fun b o h => Nat.lt_of_lt_of_le (hF b o h) hb.size, fun _ h => .inl h, fun _ _ h => .inl h⟩
  obtain ⟨k1, k2⟩ := hH.rep id b h
  exact ⟨k1, k2.keep k1 ee (fun g hg => hb.block g (k2.lt g hg).2) (fun _ _ _ h => h)⟩
theorem byteCells_toI {w : World} {C : Cx} {vals : List Value} {l : List Int} (h : RepL C w vals ((l.map (D.int .u8)).flatMap D.cells)) : vals = Lib.byteCells (bytesOf l) := by
  rw [flatU8] at h
  have e := repU8 h
  rw [e]
  simp only [Lib.byteCells, bytesOf, List.map_map]
  apply List.map_congr_left
  intro n hn
  obtain ⟨i, hi⟩ := List.getElem?_of_mem hn
  have hv : vals[i]? = some (.int .u8 n) := by rw [e]; simp [hi]
  have := h.rep i _ (.int .u8 n) hv (by simp [hi])
  cases this with
  | int _ _ hr =>
    unfold inR at hr; simp only [kLo, kHi] at hr
    simp only [Function.comp, UInt8.toNat_ofNat']
    congr 1; omega
theorem c_String1 (I : World → Prop) {id nid id2 n : Nat} {l : List Int} {H : Nat → Option Blk} (hid : H id = some (.bbox 67 [.sp id, .own id2 n])) (h2 : H id2 = some (.vec 5 1 (l.map (D.int .u8)) false)) (hn : n = l.length) :
    CallOK Tryz.prog I 43 [.ptr id 0] H nid (.str (bytesOf l)) [(id2, none), (id, none)] := by
  subst hn
  refine ⟨by kernel_rfl, fun i0 w C B args hI hb0 hM hH hF hbase hn hal hrep => ?_⟩
  obtain ⟨a0, rfl⟩ : ∃ a0, args = [a0] := by
    match args, hal with
    | [a], _ => exact ⟨a, rfl⟩
  have r0 := hrep 0 a0 _ rfl rfl
  cases r0 with
  | ptr _ _ g hlid hσ =>
  obtain ⟨k0, k1⟩ := hH.rep id _ hid
  obtain ⟨v, ⟨p, hp, hB⟩, hv, hnoF⟩ := bld_block hσ k1
  have hdrop : HOK C w B (appEff H [(id2, none), (id, none)]) := (hH.drop id2).drop id
  have plain : ∀ w', Below w.heap.size w w' → bytesOf l = [] → ∃ v C', Ending.returned (.string ⟨#[]⟩) = .returned v ∧ BelM B.M w w' ∧ Ext C w C' w' ∧ Rep w' C' v (.str (bytesOf l)) ∧ HOK C' w' B (appEff H [(id2, none), (id, none)]) ∧ FB C' w' ∧ (∀ id, C'.live id → C.live id ∨ id = nid) ∧ ∀ b o, C'.F b o → C.F b o ∨ B.M b := by
    intro w' hb he
    rw [he]
    obtain ⟨v, C', x⟩ := callString (P := Tryz.prog) (l := []) (nid := nid) hdrop hF hb (by simp)
    exact ⟨v, C', x⟩
  cases hv with
  | own _ _ c A hl2 hm2 hσ2 =>
    obtain ⟨_, vals, q1, q2, q3, q4⟩ := hH.rep id2 _ h2
    rw [hσ2] at q1
    have hvals := byteCells_toI q3
    have hbl : (bytesOf l).length = l.length := by simp [bytesOf]
    rcases q1.2 with ⟨r1, r2⟩ | ⟨g1, cap1, cur1, r1, r2, r3, r4, r5, r6, r7⟩
    · injection r1 with r1 _ r3
      subst r1 r3
      have hl0 : l.length = 0 := by simpa using r2
      rw [hl0] at hB
      refine (Any.Builder_String_nil Tryz.lays169 Tryz.Builder_Extra_169 w.heap.size g p w hB).mono ?_
      rintro e w' ⟨rfl, hb⟩
      exact plain w' hb (List.eq_nil_of_length_eq_zero (by omega))
    · injection r1 with r1 _ r8
      subst r1 r8
      by_cases hl0 : l.length = 0
      · rw [hl0] at hB
        by_cases hc0 : c = 0
        · subst hc0
          refine (Any.Builder_String_noroom Tryz.lays169 Tryz.Builder_Extra_169 w.heap.size g g1 p cur1 w (Nat.le_refl _) hB r3).mono ?_
          rintro e w' ⟨rfl, hb⟩
          exact plain w' hb (List.eq_nil_of_length_eq_zero (by omega))
        · refine (Any.Builder_String_room Tryz.lays169 Tryz.Builder_Extra_169 w.heap.size g g1 c p w hc0 hB).mono ?_
          rintro e w' ⟨rfl, hb⟩
          exact plain w' hb (List.eq_nil_of_length_eq_zero (by omega))
      · have hb1 : w.heap[g]? = some (.cells #[p, .slice (some ⟨g1, 0, none⟩) (bytesOf l).length c] 67 (0, 0)) := by rw [hbl]; exact hB
        have ho1 : w.ownsRow 0 5 1 (.slice (some ⟨g1, 0, none⟩) (bytesOf l).length c) (bytesOf l).length (Lib.byteCells (bytesOf l)) := by rw [hbl, ← hvals]; simpa using q1
        refine (bldString_row g g1 c p cur1 (bytesOf l) w (fun e => hl0 (by rw [← hbl, e]; rfl)) hb1 ho1).mono ?_
        rintro e w' ⟨rfl, hb⟩
        have hg1M : B.M g1 := hH.own id2 _ h2 g1 (by rw [hσ2]; rfl)
        have hnoF1 : ∀ o, ¬ C.F g1 o := fun o ho => by have := ((q4 g1 (by rw [hσ2]; rfl)).1 o ho).1; cases this
        have hsame : ∀ k, k < w.heap.size → k ≠ g1 → w'.heap[k]? = w.heap[k]? := fun k hk h1 => hb.block k hk (by rintro (h | h); omega; exact h1 h)
        have ee : Ext C w C w' := ⟨fun _ _ h => h, fun b o h => hsame b (hF b o h) (fun e => hnoF1 o (e ▸ h)), fun _ h => h, fun _ _ => rfl⟩
        have hbm : BelM B.M w w' := ⟨hb.os, hb.tape, hb.output, hb.size, fun k hk hm => hsame k hk (fun e => hm (e ▸ hg1M))⟩
        refine ⟨_, C, rfl, hbm, ee, .str _ (by rw [hbl]; exact hm2), ⟨fun j b h => ?_, hdrop.own, hdrop.pin, hdrop.apart⟩, fun b o h => Nat.lt_of_lt_of_le (hF b o h) hb.size, fun _ h => .inl h, fun _ _ h => .inl h⟩
        by_cases h3 : j = id
        · subst h3; simp [appEff, upd] at h
        · by_cases h4 : j = id2
          · subst h4; simp [appEff, upd, h3] at h
          · have h5 : H j = some b := by simpa [appEff, upd, h3, h4] using h
            obtain ⟨t1, t2⟩ := hH.rep j b h5
            exact ⟨t1, t2.keep t1 ee (fun k hk => hsame k (t2.lt k hk).2 (fun e => hH.apart j id2 _ _ h5 h2 h4 k hk (by rw [hσ2, e]; rfl))) (fun _ _ _ h => h)⟩
end Go.Proofs.YtnjjdbljoligdaaGreatDoor
