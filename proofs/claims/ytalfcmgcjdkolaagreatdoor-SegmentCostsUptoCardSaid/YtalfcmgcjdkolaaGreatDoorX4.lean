/- Texts of one proof, put together (Shelf, Gs, Base, Gx, EA, EB, EC, ED, EN). No condition but those that each theorem states. -/
import Derived.Test.YtalfcmgcjdkolaaGreatDoorX3
import Derived.Shelf.Strings.Builder1
import Derived.Shelf.Strings.Builder2
import Derived.Shelf.Strings.OnBuilder
import Derived.Shelf.Strings.Trim
import Derived.Shelf.Small.Utf8
import Derived.Shelf.Small.Strs
import Derived.Shelf.Utf8.RuneCount
import Derived.Shelf.Strings.Search1
import Derived.Shelf.Strings.Search2
import Derived.Shelf.Strings.Search3
import Derived.Shelf.Strings.Count
import Derived.Shelf.LaysM
import Derived.Shelf.Strings.Shaped
import Derived.Shelf.Strings.Split
import Derived.Shelf.Strings.SplitShaped
import Derived.Shelf.Unicode.Decode
import Derived.Shelf.Strings.Runes
import Derived.Shelf.Strings.RuneCount
import Derived.Shelf.Strings.AsciiSet
import Derived.Shelf.Strings.Explode
import Derived.Shelf.Unicode.DecodeSlow
import Derived.Shelf.Unicode.DecodeAny
import Derived.Shelf.Unicode.ValidAny
import Derived.Shelf.Strings.SlTrimAscii
import Derived.Test.YtalfcmgcjdkolaaGreatDoorProg
import Derived.Lib.RuneCount
import Derived.Lib.SplitLaws
import Derived.Lib.SlTrimSet
import Derived.WalkKit
import Derived.WalkSpells
import Derived.WalkLawsBesides
import Derived.KernelRfl
import Derived.BigQuiet
import Derived.Deep.QuietTactic
import Derived.Deep.DeepCutAuto
import Derived.Deep.Draws
import Derived.Lib.Hide
import Derived.Laws.IdiomStrings
set_option linter.unusedSimpArgs false
set_option linter.unusedVariables false
namespace Go.Proofs
open Go.Shelf
open Go.RowKit in
def Tryz.lays156_ren : Go.Shelf.Ren := ⟨fun | 156 => 134 | 165 => 163 | 166 => 58 | 169 => 59 | 240 => 99 | 241 => 175 | 276 => 135 | 277 => 183 | n => n, fun | 31 => 117 | 9 => 9 | 3 => 3 | 4 => 4 | 0 => 0 | 20 => 20 | 72 => 132 | 76 => 135 | 70 => 129 | 37 => 130 | 75 => 134 | 127 => 171 | 164 => 208 | 5 => 5 | 80 => 137 | n => n, fun | n => n⟩
theorem Tryz.lays156 : Go.Proofs.Lays.n156 Tryz.prog Tryz.lays156_ren := {
 mixed := by kernel_rfl
 f156 := Tryz.func134.trans (congrArg some (by kernel_rfl))
 f165 := Tryz.func163.trans (congrArg some (by kernel_rfl))
 f166 := Tryz.func58.trans (congrArg some (by kernel_rfl))
 f169 := Tryz.func59.trans (congrArg some (by kernel_rfl))
 f240 := Tryz.func99.trans (congrArg some (by kernel_rfl))
 f241 := Tryz.func175.trans (congrArg some (by kernel_rfl))
 f276 := Tryz.func135.trans (congrArg some (by kernel_rfl))
 f277 := Tryz.func183.trans (congrArg some (by kernel_rfl))
 t0 := Tryz.underlying0
 a0 := Tryz.isAgg0
 z0 := Tryz.sizeOf0
 v0 := Tryz.zeroValue0
 t3 := Tryz.underlying3
 a3 := Tryz.isAgg3
 z3 := Tryz.sizeOf3
 v3 := Tryz.zeroValue3
 t4 := Tryz.underlying4
 a4 := Tryz.isAgg4
 z4 := Tryz.sizeOf4
 v4 := Tryz.zeroValue4
 t9 := Tryz.underlying9
 a9 := Tryz.isAgg9
 z9 := Tryz.sizeOf9
 v9 := Tryz.zeroValue9
 t20 := Tryz.underlying20
 a20 := Tryz.isAgg20
 z20 := Tryz.sizeOf20
 v20 := Tryz.zeroValue20
 t31 := Tryz.underlying117
 a31 := Tryz.isAgg117
 z31 := Tryz.sizeOf117
 v31 := Tryz.zeroValue117
 t37 := Tryz.underlying130
 a37 := Tryz.isAgg130
 z37 := Tryz.sizeOf130
 v37 := Tryz.zeroValue130
 t70 := Tryz.underlying129
 a70 := Tryz.isAgg129
 z70 := Tryz.sizeOf129
 v70 := Tryz.zeroValue129
 t72 := Tryz.underlying132
 a72 := Tryz.isAgg132
 z72 := Tryz.sizeOf132
 v72 := Tryz.zeroValue132
 t75 := Tryz.underlying134
 a75 := Tryz.isAgg134
 z75 := Tryz.sizeOf134
 v75 := Tryz.zeroValue134
 t76 := Tryz.underlying135
 a76 := Tryz.isAgg135
 z76 := Tryz.sizeOf135
 v76 := Tryz.zeroValue135
 t127 := Tryz.underlying171
 a127 := Tryz.isAgg171
 z127 := Tryz.sizeOf171
 v127 := Tryz.zeroValue171
 t164 := Tryz.underlying208
 a164 := Tryz.isAgg208
 z164 := Tryz.sizeOf208
 v164 := Tryz.zeroValue208 }
theorem Tryz.Builder_Extra_156 : Builder.Extra Tryz.prog Tryz.lays156_ren := {
 sizeBuilder := by kernel_rfl
 liesBuilder := by kernel_rfl
 t5 := Tryz.underlying5
 a5 := Tryz.isAgg5
 z5 := Tryz.sizeOf5
 v5 := Tryz.zeroValue5
 infoByte := by kernel_rfl
 cellsByte := by kernel_rfl
 sizeByte := by kernel_rfl
 neB5 := by decide }
open Go.RowKit in
theorem Tryz.strings_Join_none (a : Option Addr) (c : Nat) (sep : ByteArray) (w : World) :
  Calls Tryz.prog 134 #[.slice a 0 c, .string sep] w fun e w' => e = .returned (.string ⟨#[]⟩) ∧ w' = w := Any.strings_Join_none Tryz.lays156 Tryz.Builder_Extra_156 a c sep w
open Go.RowKit in
theorem Tryz.strings_Join (bk o c : Nat) (xs : List ByteArray) (sep : ByteArray) (w : World) (hcells : ∀ (j : Nat) x, xs[j]? = some x → w.cell? ⟨bk, o + j, none⟩ = some (.string x)) (hbk : bk < w.heap.size) (hN : xs.length ≤ 140737488355328) (hcap : xs.length ≤ c) (hlen : (Lib.join (xs.map (·.data.toList)) sep.data.toList).length ≤ 140737488355328) :
  Calls Tryz.prog 134 #[.slice (some ⟨bk, o, none⟩) xs.length c, .string sep] w fun e w' => e = .returned (.string ⟨(Lib.join (xs.map (·.data.toList)) sep.data.toList).toArray⟩) ∧ Below w.heap.size w w' := Any.strings_Join Tryz.lays156 Tryz.Builder_Extra_156 bk o c xs sep w hcells hbk hN hcap hlen
def Tryz.lays195_ren : Go.Shelf.Ren := ⟨fun | 195 => 98 | n => n, fun | 9 => 9 | 3 => 3 | 0 => 0 | 4 => 4 | n => n, fun | n => n⟩
theorem Tryz.lays195 : Go.Proofs.Lays.n195 Tryz.prog Tryz.lays195_ren := {
 mixed := by kernel_rfl
 f195 := Tryz.func98.trans (congrArg some (by kernel_rfl))
 t0 := Tryz.underlying0
 a0 := Tryz.isAgg0
 z0 := Tryz.sizeOf0
 v0 := Tryz.zeroValue0
 t3 := Tryz.underlying3
 a3 := Tryz.isAgg3
 z3 := Tryz.sizeOf3
 v3 := Tryz.zeroValue3
 t4 := Tryz.underlying4
 a4 := Tryz.isAgg4
 z4 := Tryz.sizeOf4
 v4 := Tryz.zeroValue4
 t9 := Tryz.underlying9
 a9 := Tryz.isAgg9
 z9 := Tryz.sizeOf9
 v9 := Tryz.zeroValue9 }
open Go.RowKit in
theorem Tryz.utf8_RuneCountInString (s : ByteArray) (w : World) (hs : s.size < 9223372036854775807) :
  Calls Tryz.prog 98 #[.string s] w fun e w' => e = .returned (.int .i64 (Lib.runeCount s)) ∧ ∃ pos, w' = w.iter s pos := Any.utf8_RuneCountInString Tryz.lays195 s w hs
def Tryz.lays144_ren : Go.Shelf.Ren := ⟨fun | 144 => 81 | 143 => 129 | 219 => 160 | 217 => 171 | 225 => 172 | 224 => 173 | 267 => 174 | 266 => 181 | 314 => 182 | n => n, fun | 9 => 9 | 4 => 4 | 3 => 3 | 5 => 5 | 46 => 237 | 146 => 251 | 51 => 250 | n => n, fun | 1 => 2 | n => n⟩
theorem Tryz.lays144 : Go.Proofs.Lays.n144 Tryz.prog Tryz.lays144_ren := {
 mixed := by kernel_rfl
 f143 := Tryz.func129.trans (congrArg some (by kernel_rfl))
 f144 := Tryz.func81.trans (congrArg some (by kernel_rfl))
 f217 := Tryz.func171.trans (congrArg some (by kernel_rfl))
 f219 := Tryz.func160.trans (congrArg some (by kernel_rfl))
 f224 := Tryz.func173.trans (congrArg some (by kernel_rfl))
 f225 := Tryz.func172.trans (congrArg some (by kernel_rfl))
 f266 := Tryz.func181.trans (congrArg some (by kernel_rfl))
 f267 := Tryz.func174.trans (congrArg some (by kernel_rfl))
 f314 := Tryz.func182.trans (congrArg some (by kernel_rfl))
 t3 := Tryz.underlying3
 a3 := Tryz.isAgg3
 z3 := Tryz.sizeOf3
 v3 := Tryz.zeroValue3
 t4 := Tryz.underlying4
 a4 := Tryz.isAgg4
 z4 := Tryz.sizeOf4
 v4 := Tryz.zeroValue4
 t5 := Tryz.underlying5
 a5 := Tryz.isAgg5
 z5 := Tryz.sizeOf5
 v5 := Tryz.zeroValue5
 t9 := Tryz.underlying9
 a9 := Tryz.isAgg9
 z9 := Tryz.sizeOf9
 v9 := Tryz.zeroValue9
 t46 := Tryz.underlying237
 a46 := Tryz.isAgg237
 z46 := Tryz.sizeOf237
 v46 := Tryz.zeroValue237
 t51 := Tryz.underlying250
 a51 := Tryz.isAgg250
 z51 := Tryz.sizeOf250
 v51 := Tryz.zeroValue250
 t146 := Tryz.underlying251
 a146 := Tryz.isAgg251
 z146 := Tryz.sizeOf251
 v146 := Tryz.zeroValue251
 g1 := by kernel_rfl }
open Go.RowKit Go.Lib in
theorem Tryz.strings_Contains_one (s : ByteArray) (c : UInt8) (w : World) :
  Calls Tryz.prog 81 #[.string s, .string ⟨#[c]⟩] w fun e w' => e = .returned (.bool (decide (0 ≤ Lib.indexByte s.data.toList c))) ∧ w' = w := Any.strings_Contains_one Tryz.lays144 s c w
open Go.RowKit Go.Lib in
def Tryz.lays146_ren : Go.Shelf.Ren := ⟨fun | 146 => 157 | 221 => 170 | 268 => 179 | 138 => 180 | 143 => 129 | 195 => 98 | 197 => 177 | 218 => 187 | 219 => 160 | 260 => 184 | 217 => 171 | 225 => 172 | 224 => 173 | 267 => 174 | 266 => 181 | 314 => 182 | n => n, fun | 9 => 9 | 31 => 117 | 3 => 3 | 4 => 4 | 0 => 0 | 105 => 242 | 21 => 21 | 5 => 5 | 46 => 237 | 119 => 233 | 139 => 236 | 138 => 235 | 146 => 251 | 51 => 250 | n => n, fun | 1 => 2 | 3 => 0 | 4 => 1 | n => n⟩
theorem Tryz.lays146 : Go.Proofs.Lays.n146 Tryz.prog Tryz.lays146_ren := {
 mixed := by kernel_rfl
 f138 := Tryz.func180.trans (congrArg some (by kernel_rfl))
 f143 := Tryz.func129.trans (congrArg some (by kernel_rfl))
 f146 := Tryz.func157.trans (congrArg some (by kernel_rfl))
 f195 := Tryz.func98.trans (congrArg some (by kernel_rfl))
 f197 := Tryz.func177.trans (congrArg some (by kernel_rfl))
 f217 := Tryz.func171.trans (congrArg some (by kernel_rfl))
 f218 := Tryz.func187.trans (congrArg some (by kernel_rfl))
 f219 := Tryz.func160.trans (congrArg some (by kernel_rfl))
 f221 := Tryz.func170.trans (congrArg some (by kernel_rfl))
 f224 := Tryz.func173.trans (congrArg some (by kernel_rfl))
 f225 := Tryz.func172.trans (congrArg some (by kernel_rfl))
 f260 := Tryz.func184.trans (congrArg some (by kernel_rfl))
 f266 := Tryz.func181.trans (congrArg some (by kernel_rfl))
 f267 := Tryz.func174.trans (congrArg some (by kernel_rfl))
 f268 := Tryz.func179.trans (congrArg some (by kernel_rfl))
 f314 := Tryz.func182.trans (congrArg some (by kernel_rfl))
 t0 := Tryz.underlying0
 a0 := Tryz.isAgg0
 z0 := Tryz.sizeOf0
 v0 := Tryz.zeroValue0
 t3 := Tryz.underlying3
 a3 := Tryz.isAgg3
 z3 := Tryz.sizeOf3
 v3 := Tryz.zeroValue3
 t4 := Tryz.underlying4
 a4 := Tryz.isAgg4
 z4 := Tryz.sizeOf4
 v4 := Tryz.zeroValue4
 t5 := Tryz.underlying5
 a5 := Tryz.isAgg5
 z5 := Tryz.sizeOf5
 v5 := Tryz.zeroValue5
 t9 := Tryz.underlying9
 a9 := Tryz.isAgg9
 z9 := Tryz.sizeOf9
 v9 := Tryz.zeroValue9
 t21 := Tryz.underlying21
 a21 := Tryz.isAgg21
 z21 := Tryz.sizeOf21
 v21 := Tryz.zeroValue21
 t31 := Tryz.underlying117
 a31 := Tryz.isAgg117
 z31 := Tryz.sizeOf117
 v31 := Tryz.zeroValue117
 t46 := Tryz.underlying237
 a46 := Tryz.isAgg237
 z46 := Tryz.sizeOf237
 v46 := Tryz.zeroValue237
 t51 := Tryz.underlying250
 a51 := Tryz.isAgg250
 z51 := Tryz.sizeOf250
 v51 := Tryz.zeroValue250
 t105 := Tryz.underlying242
 a105 := Tryz.isAgg242
 z105 := Tryz.sizeOf242
 v105 := Tryz.zeroValue242
 t119 := Tryz.underlying233
 a119 := Tryz.isAgg233
 z119 := Tryz.sizeOf233
 t138 := Tryz.underlying235
 a138 := Tryz.isAgg235
 z138 := Tryz.sizeOf235
 v138 := Tryz.zeroValue235
 t139 := Tryz.underlying236
 a139 := Tryz.isAgg236
 z139 := Tryz.sizeOf236
 v139 := Tryz.zeroValue236
 t146 := Tryz.underlying251
 a146 := Tryz.isAgg251
 z146 := Tryz.sizeOf251
 v146 := Tryz.zeroValue251
 g1 := by kernel_rfl
 g3 := by kernel_rfl
 g4 := by kernel_rfl }
open Go.RowKit Go.Lib in
theorem Tryz.strings_Split (s sep : ByteArray) (m : Int) (w : World) (hs : s.size < 4294967281) (hm : w.cell? ⟨2, 0, none⟩ = some (.int .i64 m)) (h1 : 1 ≤ sep.size) :
  Calls Tryz.prog 157 #[.string s, .string sep] w fun e w' =>
   e = .returned (.slice (some ⟨w.heap.size, 0, none⟩) (Lib.countB s sep + 1) (Lib.countB s sep + 1)) ∧ w' = w.alloc (.cells ((Lib.splitB sep 0 (Lib.countB s sep) s).map Value.string).toArray 9) := Any.strings_Split Tryz.lays146 (by kernel_rfl) s sep m w hs hm h1
def Tryz.laysValid_ren : Go.Shelf.Ren := ⟨fun | 196 => 130 | 259 => 161 | n => n, fun | 9 => 9 | 4 => 4 | 3 => 3 | 5 => 5 | 12 => 12 | 119 => 233 | 0 => 0 | 46 => 237 | 139 => 236 | 138 => 235 | 53 => 248 | n => n, fun | 3 => 0 | 4 => 1 | n => n⟩
theorem Tryz.laysValid : Go.Proofs.Lays.n196 Tryz.prog Tryz.laysValid_ren := {
 mixed := by kernel_rfl
 f196 := Tryz.func130.trans (congrArg some (by kernel_rfl))
 f259 := Tryz.func161.trans (congrArg some (by kernel_rfl))
 t0 := Tryz.underlying0
 a0 := Tryz.isAgg0
 z0 := Tryz.sizeOf0
 v0 := Tryz.zeroValue0
 t3 := Tryz.underlying3
 a3 := Tryz.isAgg3
 z3 := Tryz.sizeOf3
 v3 := Tryz.zeroValue3
 t4 := Tryz.underlying4
 a4 := Tryz.isAgg4
 z4 := Tryz.sizeOf4
 v4 := Tryz.zeroValue4
 t5 := Tryz.underlying5
 a5 := Tryz.isAgg5
 z5 := Tryz.sizeOf5
 v5 := Tryz.zeroValue5
 t9 := Tryz.underlying9
 a9 := Tryz.isAgg9
 z9 := Tryz.sizeOf9
 v9 := Tryz.zeroValue9
 t12 := Tryz.underlying12
 a12 := Tryz.isAgg12
 z12 := Tryz.sizeOf12
 v12 := Tryz.zeroValue12
 t46 := Tryz.underlying237
 a46 := Tryz.isAgg237
 z46 := Tryz.sizeOf237
 v46 := Tryz.zeroValue237
 t53 := Tryz.underlying248
 a53 := Tryz.isAgg248
 z53 := Tryz.sizeOf248
 v53 := Tryz.zeroValue248
 t119 := Tryz.underlying233
 a119 := Tryz.isAgg233
 z119 := Tryz.sizeOf233
 t138 := Tryz.underlying235
 a138 := Tryz.isAgg235
 z138 := Tryz.sizeOf235
 v138 := Tryz.zeroValue235
 t139 := Tryz.underlying236
 a139 := Tryz.isAgg236
 z139 := Tryz.sizeOf236
 v139 := Tryz.zeroValue236
 g3 := by kernel_rfl
 g4 := by kernel_rfl }
open Go.RowKit in
theorem Tryz.utf8_ValidString (s : ByteArray) (w : World) (hs : s.size ≤ 9223372036854775807) (hT : Lib.Utf8Tabs 0 1 w) :
  Calls Tryz.prog 130 #[.string s] w fun e w' => e = .returned (.bool (Lib.validD s.data.toList)) ∧ Below w.heap.size w w' := Any.utf8_ValidString Tryz.laysValid s w hs hT
def Tryz.lays162_ren : Go.Shelf.Ren := ⟨fun | 162 => 119 | 232 => 153 | 227 => 154 | 234 => 155 | 236 => 156 | 228 => 167 | 271 => 168 | 151 => 169 | 120 => 176 | 197 => 177 | 152 => 178 | 260 => 184 | 137 => 185 | 119 => 186 | 224 => 173 | 225 => 172 | 217 => 171 | 266 => 181 | n => n, fun | 9 => 9 | 4 => 4 | 3 => 3 | 5 => 5 | 117 => 226 | 116 => 225 | 0 => 0 | 124 => 229 | 21 => 21 | 105 => 242 | 46 => 237 | 119 => 233 | 139 => 236 | 138 => 235 | n => n, fun | 3 => 0 | 4 => 1 | n => n⟩
theorem Tryz.lays162 : Go.Proofs.Lays.n162 Tryz.prog Tryz.lays162_ren := {
 mixed := by kernel_rfl
 f119 := Tryz.func186.trans (congrArg some (by kernel_rfl))
 f120 := Tryz.func176.trans (congrArg some (by kernel_rfl))
 f137 := Tryz.func185.trans (congrArg some (by kernel_rfl))
 f151 := Tryz.func169.trans (congrArg some (by kernel_rfl))
 f152 := Tryz.func178.trans (congrArg some (by kernel_rfl))
 f162 := Tryz.func119.trans (congrArg some (by kernel_rfl))
 f197 := Tryz.func177.trans (congrArg some (by kernel_rfl))
 f217 := Tryz.func171.trans (congrArg some (by kernel_rfl))
 f224 := Tryz.func173.trans (congrArg some (by kernel_rfl))
 f225 := Tryz.func172.trans (congrArg some (by kernel_rfl))
 f227 := Tryz.func154.trans (congrArg some (by kernel_rfl))
 f228 := Tryz.func167.trans (congrArg some (by kernel_rfl))
 f232 := Tryz.func153.trans (congrArg some (by kernel_rfl))
 f234 := Tryz.func155.trans (congrArg some (by kernel_rfl))
 f236 := Tryz.func156.trans (congrArg some (by kernel_rfl))
 f260 := Tryz.func184.trans (congrArg some (by kernel_rfl))
 f266 := Tryz.func181.trans (congrArg some (by kernel_rfl))
 f271 := Tryz.func168.trans (congrArg some (by kernel_rfl))
 t0 := Tryz.underlying0
 a0 := Tryz.isAgg0
 z0 := Tryz.sizeOf0
 v0 := Tryz.zeroValue0
 t3 := Tryz.underlying3
 a3 := Tryz.isAgg3
 z3 := Tryz.sizeOf3
 v3 := Tryz.zeroValue3
 t4 := Tryz.underlying4
 a4 := Tryz.isAgg4
 z4 := Tryz.sizeOf4
 v4 := Tryz.zeroValue4
 t5 := Tryz.underlying5
 a5 := Tryz.isAgg5
 z5 := Tryz.sizeOf5
 v5 := Tryz.zeroValue5
 t9 := Tryz.underlying9
 a9 := Tryz.isAgg9
 z9 := Tryz.sizeOf9
 v9 := Tryz.zeroValue9
 t21 := Tryz.underlying21
 a21 := Tryz.isAgg21
 z21 := Tryz.sizeOf21
 v21 := Tryz.zeroValue21
 t46 := Tryz.underlying237
 a46 := Tryz.isAgg237
 z46 := Tryz.sizeOf237
 v46 := Tryz.zeroValue237
 t105 := Tryz.underlying242
 a105 := Tryz.isAgg242
 z105 := Tryz.sizeOf242
 v105 := Tryz.zeroValue242
 t116 := Tryz.underlying225
 a116 := Tryz.isAgg225
 z116 := Tryz.sizeOf225
 t117 := Tryz.underlying226
 a117 := Tryz.isAgg226
 z117 := Tryz.sizeOf226
 v117 := Tryz.zeroValue226
 t119 := Tryz.underlying233
 a119 := Tryz.isAgg233
 z119 := Tryz.sizeOf233
 t124 := Tryz.underlying229
 a124 := Tryz.isAgg229
 z124 := Tryz.sizeOf229
 v124 := Tryz.zeroValue229
 t138 := Tryz.underlying235
 a138 := Tryz.isAgg235
 z138 := Tryz.sizeOf235
 v138 := Tryz.zeroValue235
 t139 := Tryz.underlying236
 a139 := Tryz.isAgg236
 z139 := Tryz.sizeOf236
 v139 := Tryz.zeroValue236
 g3 := by kernel_rfl
 g4 := by kernel_rfl }
open Go.RowKit in
theorem Tryz.strings_TrimRight (s cutset : ByteArray) (w : World) (hs : s.size ≤ 9223372036854775807) (hcs : cutset.size < 4294967281) (hascii : ∀ (j : Nat) b, cutset.data.toList[j]? = some b → b.toNat < 128) :
  Calls Tryz.prog 119 #[.string s, .string cutset] w fun e w' => e = .returned (.string ⟨(Lib.trimRightS s.data.toList cutset.data.toList).toArray⟩) ∧ Below w.heap.size w w' := Any.strings_TrimRight_laid Tryz.lays162 (by kernel_rfl) s cutset w hs hcs hascii
end Go.Proofs
namespace Go.Proofs.YtalfcmgcjdkolaaGreatDoor
open Go.RowKit
set_option maxRecDepth 100000
def U8T (w : World) : Prop := Lib.Utf8Tabs 0 1 w
def g_unicode_utf8_ValidString (s : List UInt8) : Option Bool := some (Lib.validD s)
theorem a_unicode_utf8_ValidString (I : World → Prop) (hI : Stab I) (hU8T : ∀ w, I w → U8T w) (s : List UInt8) {r : Bool} (h : g_unicode_utf8_ValidString s = some r) : AFun Tryz.prog I 130 [.str s] (.bool r) := by
 obtain rfl := Option.some.inj h
 refine AFun.of_calls (v := .bool (Lib.validD s)) (by kernel_rfl) (fun w F => .bool _) ?_
 intro w F args hIw _ hl hr
 match args, hl with
 | [v], _ =>
  obtain ⟨rfl, hm⟩ := rep_str1 (hr 0 v _ rfl rfl)
  exact Tryz.utf8_ValidString ⟨s.toArray⟩ w (by rw [bsize]; unfold maxLen at hm; omega) (hU8T w hIw)
def g_unicode_utf8_RuneCountInString (s : List UInt8) : Option Int := if s.length < 9223372036854775807 then some (Lib.runeCountL s : Int) else none
theorem runeCountFrom_le (s : ByteArray) : ∀ (fuel pos : Nat), Lib.runeCountFrom s fuel pos ≤ fuel := by
 intro fuel
 induction fuel with
 | zero => intro pos; simp [Lib.runeCountFrom]
 | succ n ih =>
  intro pos
  simp only [Lib.runeCountFrom]
  split
  ·have := ih (pos + (Utf8.decode s pos).2); omega
  ·omega
theorem a_unicode_utf8_RuneCountInString (I : World → Prop) (hI : Stab I) (s : List UInt8) {r : Int} (h : g_unicode_utf8_RuneCountInString s = some r) : AFun Tryz.prog I 98 [.str s] (.int .i64 r) := by
 obtain ⟨hs, h⟩ := ite_on h
 obtain rfl := Option.some.inj h
 refine AFun.of_calls (v := .int .i64 (Lib.runeCountL s : Int)) (by kernel_rfl) (fun w F => .int _ _ ?_) ?_
 ·have := runeCountFrom_le ⟨s.toArray⟩ (⟨s.toArray⟩ : ByteArray).size 0
  rw [bsize] at this
  unfold Lib.runeCountL Lib.runeCount inR; simp only [kLo, kHi]; rw [bsize]; omega
 ·intro w F args hIw _ hl hr
  match args, hl with
  | [v], _ =>
   obtain ⟨rfl, hm⟩ := rep_str1 (hr 0 v _ rfl rfl)
   refine (Tryz.utf8_RuneCountInString ⟨s.toArray⟩ w (by rw [bsize]; exact hs)).mono ?_
   rintro e w' ⟨rfl, pos, rfl⟩
   exact ⟨rfl, rfl, rfl, rfl, by simp [World.iter], fun k hk => Below.heap_alloc w _ k hk⟩
theorem cell_below {w w' : World} {g : Nat} {v : Value} (h : w.cell? ⟨g, 0, none⟩ = some v) (hb : Below w.heap.size w w') : w'.cell? ⟨g, 0, none⟩ = some v := by
 have hlt : g < w.heap.size := by
  rcases Nat.lt_or_ge g w.heap.size with h1 | h1
  ·exact h1
  ·simp [World.cell?, Array.getElem?_eq_none h1] at h
 rw [World.cell?_of_block (hb.block g hlt)]
 exact h
def Shp (w : World) : Prop := ∃ m, w.cell? ⟨2, 0, none⟩ = some (.int .i64 m)
theorem stabShp : Stab Shp := fun _ _ ⟨m, h⟩ hb => ⟨m, cell_below h hb⟩
theorem flat_strs (l : List (List UInt8)) : (l.map D.str).flatMap D.cells = l.map D.str := by
 induction l with
 | nil => rfl
 | cons a t ih => simp only [List.map_cons, List.flatMap_cons, ih, D.cells, List.singleton_append]
section
variable {P : Program} {I : World → Prop} {f : FuncId} {ds : List D}
theorem AFun.of_strs (he : enterable P f = true) (l : List (List UInt8)) (t : TypeId) (hl : l.length ≤ maxLen) (hs : ∀ s ∈ l, s.length ≤ maxLen)
  (h : ∀ (w : World) (F : Nat → Nat → Prop) (args : List Value), I w → FB (cF F) w → args.length = ds.length → (∀ (i : Nat) v d, args[i]? = some v → ds[i]? = some d → Rep w (cF F) v d) →
   Calls P f args.toArray w fun e w' => e = .returned (.slice (some ⟨w.heap.size, 0, none⟩) l.length l.length) ∧ w' = w.alloc (.cells (l.map fun s => Value.string ⟨s.toArray⟩).toArray t)) : AFun P I f ds (.sl (l.map D.str)) := by
 refine ⟨he, fun w F args hI hfb hla hr => ?_⟩
 refine (h w F args hI hfb hla hr).mono ?_
 rintro e w' ⟨rfl, rfl⟩
 let F' : Nat → Nat → Prop := fun b o => F b o ∨ (b = w.heap.size ∧ o < l.length)
 have hbel : Below w.heap.size w (w.alloc (.cells (l.map fun s => Value.string ⟨s.toArray⟩).toArray t)) := (Below.refl _ _).alloc (Nat.le_refl _) _
 refine ⟨_, F', rfl, hbel, ⟨fun _ _ h => .inl h, fun b o hF => hbel.block b (hfb b o hF), fun _ h => h, fun _ _ => rfl⟩, fun b o hF => ?_, fun b o hF => ?_, ?_⟩
 ·rcases hF with hF | ⟨rfl, _⟩
  ·exact Nat.lt_of_lt_of_le (hfb b o hF) hbel.size
  ·simp
 ·rcases hF with hF | ⟨rfl, _⟩
  ·exact .inl hF
  ·exact .inr (Nat.le_refl _)
 ·have := Rep.sl (w := w.alloc (.cells (l.map fun s => Value.string ⟨s.toArray⟩).toArray t)) (C := cF F') w.heap.size 0 1 l.length (l.map D.str) (l.map fun s => Value.string ⟨s.toArray⟩) (by simp) hl
   (by intro x hx; simp at hx; obtain ⟨a, _, rfl⟩ := hx; rfl) (by rw [flat_strs]; simp) (by intro v hv; simp at hv; obtain ⟨a, _, rfl⟩ := hv; rfl) (fun i hi => .inr ⟨rfl, by simpa using hi⟩) (fun i v hv => ?_) (fun i v d hv hd => ?_)
  ·simpa using this
  ·rw [World.cell?]
   simp only [Nat.zero_add, World.alloc, Array.getElem?_push_size]
   simpa using hv
  ·rw [flat_strs] at hd
   simp only [List.getElem?_map] at hv hd
   cases hx : l[i]? with
   | none => rw [hx] at hv; simp at hv
   | some s =>
    rw [hx] at hv hd
    simp at hv hd
    subst hv hd
    exact .str s (hs s (List.mem_of_getElem? hx))
end
def g_strings_Split (s sep : List UInt8) : Option (List (List UInt8)) := if s.length < 4294967281 ∧ 1 ≤ sep.length then some (Lib.split s sep) else none
theorem splitK_le (sep : List UInt8) : ∀ (k : Nat) (s : List UInt8), ∀ x ∈ Lib.splitK sep 0 k s, x.length ≤ s.length
 | 0, s, x, h => by simp [Lib.splitK] at h; subst h; exact Nat.le_refl _
 | k + 1, s, x, h => by
  unfold Lib.splitK at h
  split at h
  ·simp at h; subst h; exact Nat.le_refl _
  ·rcases List.mem_cons.1 h with rfl | h
   ·rw [List.length_take]; exact Nat.min_le_right _ _
   ·have := splitK_le sep k _ x h
    rw [List.length_drop] at this; omega
theorem a_strings_Split (I : World → Prop) (hI : Stab I) (hShp : ∀ w, I w → Shp w) (s sep : List UInt8) {r : List (List UInt8)} (h : g_strings_Split s sep = some r) : AFun Tryz.prog I 157 [.str s, .str sep] (.sl (r.map D.str)) := by
 obtain ⟨⟨h1, h2⟩, h⟩ := ite_on h
 obtain rfl := Option.some.inj h
 have hd : (Lib.splitB ⟨sep.toArray⟩ 0 (Lib.countB ⟨s.toArray⟩ ⟨sep.toArray⟩) ⟨s.toArray⟩).map (·.data.toList) = Lib.split s sep := by
  rw [Lib.splitB_data]; rfl
 have hlen : (Lib.split s sep).length = Lib.countB ⟨s.toArray⟩ ⟨sep.toArray⟩ + 1 := by
  rw [← hd, List.length_map]; exact Lib.splitB_all _ (by simpa [ByteArray.size] using h2) 0 _ _ rfl
 have hcl := Lib.countB_le ⟨sep.toArray⟩ (by simpa [ByteArray.size] using h2) s.length ⟨s.toArray⟩ (by simp [ByteArray.size])
 refine AFun.of_strs (by kernel_rfl) _ 9 (by rw [hlen]; simp [ByteArray.size] at hcl; unfold maxLen; omega) (fun x hx => by have := splitK_le sep _ s x hx; unfold maxLen; omega) ?_
 intro w F args hIw _ hl hr
 match args, hl with
 | [v, u], _ =>
  obtain ⟨rfl, _⟩ := rep_str1 (hr 0 v _ rfl rfl)
  obtain ⟨rfl, _⟩ := rep_str1 (hr 1 u _ rfl rfl)
  obtain ⟨m, hm⟩ := hShp w hIw
  refine (Tryz.strings_Split ⟨s.toArray⟩ ⟨sep.toArray⟩ m w (by simpa [ByteArray.size] using h1) hm (by simpa [ByteArray.size] using h2)).mono ?_
  rintro e w' ⟨rfl, rfl⟩
  refine ⟨by rw [hlen], ?_⟩
  rw [← hd, List.map_map]
  rfl
def g_strings_Contains (s t : List UInt8) : Option Bool := match t with
 | [c] => some (decide (0 ≤ Lib.indexByte s c))
 | _ => none
theorem a_strings_Contains (I : World → Prop) (hI : Stab I) (s t : List UInt8) {r : Bool} (h : g_strings_Contains s t = some r) : AFun Tryz.prog I 81 [.str s, .str t] (.bool r) := by
 unfold g_strings_Contains at h
 split at h
 ·rename_i c
  obtain rfl := Option.some.inj h
  refine AFun.of_calls (v := .bool (decide (0 ≤ Lib.indexByte s c))) (by kernel_rfl) (fun w F => .bool _) ?_
  intro w F args hIw _ hl hr
  match args, hl with
  | [v, u], _ =>
   obtain ⟨rfl, _⟩ := rep_str1 (hr 0 v _ rfl rfl)
   obtain ⟨rfl, _⟩ := rep_str1 (hr 1 u _ rfl rfl)
   refine (Tryz.strings_Contains_one ⟨s.toArray⟩ c w).mono ?_
   rintro e w' ⟨rfl, rfl⟩
   exact ⟨by simp, Below.refl _ _⟩
 ·cases h
theorem trimRight_len (s cs : List UInt8) : (Lib.trimRightS s cs).length ≤ s.length := by
 unfold Lib.trimRightS
 rw [List.length_reverse]
 have := (List.dropWhile_suffix (l := s.reverse) (p := (cs.contains ·))).length_le
 simpa using this
def g_strings_TrimRight (s cs : List UInt8) : Option (List UInt8) := if cs.length < 4294967281 ∧ (cs.all fun b => decide (b.toNat < 128)) = true then some (Lib.trimRightS s cs) else none
theorem a_strings_TrimRight (I : World → Prop) (hI : Stab I) (s cs : List UInt8) {r : List UInt8} (h : g_strings_TrimRight s cs = some r) : AFun Tryz.prog I 119 [.str s, .str cs] (.str r) := by
 obtain ⟨⟨h1, h2⟩, h⟩ := ite_on h
 obtain rfl := Option.some.inj h
 refine AFun.sized (by kernel_rfl) fun hz => ?_
 simp only [List.mem_cons, List.not_mem_nil, or_false, forall_eq_or_imp, forall_eq, Sz_str] at hz
 refine AFun.of_calls (v := .string ⟨(Lib.trimRightS s cs).toArray⟩) (by kernel_rfl) (fun w F => .str _ (by have := trimRight_len s cs; unfold maxLen; omega)) ?_
 intro w F args hIw _ hl hr
 match args, hl with
 | [v, u], _ =>
  obtain ⟨rfl, _⟩ := rep_str1 (hr 0 v _ rfl rfl)
  obtain ⟨rfl, _⟩ := rep_str1 (hr 1 u _ rfl rfl)
  have := Tryz.strings_TrimRight ⟨s.toArray⟩ ⟨cs.toArray⟩ w (by rw [bsize]; exact hz.1) (by rw [bsize]; exact h1) (fun j b hb => by
   have := List.all_eq_true.1 h2 b (List.mem_of_getElem? hb)
   simpa using this)
  simpa using this
def RdL {α : Type} (enc : α → List Value) (k : Nat) (w : World) (B : Nat) (A : Option Addr) (L : List α) : Prop :=
 L = [] ∨ ∃ b off, A = some ⟨b, off, none⟩ ∧ b < B ∧ ∀ i x, L[i]? = some x → ∀ j v, (enc x)[j]? = some v → w.cell? ⟨b, off + i * k + j, none⟩ = some v
section
variable {α : Type} {enc : α → List Value} {k : Nat} {w w' : World} {B B' : Nat} {A : Option Addr} {L : List α}
theorem RdL.nil : RdL enc k w B A [] := .inl rfl
theorem RdL.keep (h : RdL enc k w B A L) (hk : ∀ p : Addr, p.block < B → w'.cell? p = w.cell? p) : RdL enc k w' B A L := by
 rcases h with h | ⟨b, off, e, hb, hc⟩
 ·exact .inl h
 ·exact .inr ⟨b, off, e, hb, fun i x hx j v hv => (hk _ hb).trans (hc i x hx j v hv)⟩
theorem RdL.below (h : RdL enc k w B A L) (hb : Below B w w') : RdL enc k w' B A L := h.keep fun _ hp => hb.cell hp
end
def encI (x : Int) : List Value := [.int .i64 x]
def RdI (w : World) (B : Nat) (A : Option Addr) (L : List Int) : Prop := RdL encI 1 w B A L
theorem RdI.below {w w' : World} {B : Nat} {A : Option Addr} {L : List Int} (h : RdI w B A L) (hb : Below B w w') : RdI w' B A L := RdL.below h hb
def smB (b : UInt8) : UInt8 := if 65 ≤ b.toNat ∧ b.toNat ≤ 90 then b + 32 else b
def smS (s : List UInt8) : List UInt8 := s.map smB
def u8V (b : UInt8) : Value := .int .u8 (b.toNat : Int)
def smC (s : List UInt8) (k cap : Nat) : Array Value := ((s.take k).map (fun b => u8V (smB b)) ++ (s.drop k).map u8V ++ List.replicate (cap - s.length) (Value.int .u8 0)).toArray
def smW (w : World) (s : List UInt8) (k cap : Nat) : World := w.drew.alloc (.cells (smC s k cap) 5 ((smC s k cap).size, (smC s k cap).size + 1))
theorem smC_size (s : List UInt8) (k cap : Nat) : (smC s k cap).size = s.length + (cap - s.length) := by
 simp [smC]; omega
theorem smC_0 (s : List UInt8) (cap : Nat) : smC s 0 cap = bytesRow ⟨s.toArray⟩ cap := by
 simp only [smC, bytesRow, List.take_zero, List.map_nil, List.nil_append, List.drop_zero, ByteArray.size]
 apply Array.ext'
 simp [u8V]
theorem smC_cut (a b : List UInt8) (c : UInt8) (cap : Nat) : smC (a ++ c :: b) a.length cap = (a.map (fun b => u8V (smB b)) ++ (u8V c :: (b.map u8V ++ List.replicate (cap - (a ++ c :: b).length) (Value.int .u8 0)))).toArray := by
 unfold smC
 rw [List.take_left, List.drop_left, List.map_cons, List.append_assoc, List.cons_append]
theorem smC_cut1 (a b : List UInt8) (c : UInt8) (cap : Nat) : smC (a ++ c :: b) (a.length + 1) cap = (a.map (fun b => u8V (smB b)) ++ (u8V (smB c) :: (b.map u8V ++ List.replicate (cap - (a ++ c :: b).length) (Value.int .u8 0)))).toArray := by
 have h1 : (a ++ c :: b).take (a.length + 1) = a ++ [c] := by rw [List.take_append]; simp [List.take_of_length_le]
 have h2 : (a ++ c :: b).drop (a.length + 1) = b := by rw [List.drop_append]; simp
 unfold smC
 rw [h1, h2]
 simp
theorem smC_at (s : List UInt8) (k cap : Nat) (hk : k < s.length) : (smC s k cap)[k]? = some (u8V s[k]) := by
 obtain ⟨a, c, b, rfl, rfl⟩ : ∃ a c b, s = a ++ c :: b ∧ a.length = k := ⟨s.take k, s[k], s.drop (k + 1), by rw [← List.drop_eq_getElem_cons hk, List.take_append_drop], by simp; omega⟩
 rw [smC_cut]
 simp
theorem smC_set (s : List UInt8) (k cap : Nat) (hk : k < s.length) : (smC s k cap).setIfInBounds k (u8V (smB s[k])) = smC s (k + 1) cap := by
 obtain ⟨a, c, b, rfl, rfl⟩ : ∃ a c b, s = a ++ c :: b ∧ a.length = k := ⟨s.take k, s[k], s.drop (k + 1), by rw [← List.drop_eq_getElem_cons hk, List.take_append_drop], by simp; omega⟩
 rw [smC_cut, smC_cut1]
 apply Array.ext'
 simp
theorem smC_same (s : List UInt8) (k cap : Nat) (hk : k < s.length) (h : smB s[k] = s[k]) : smC s k cap = smC s (k + 1) cap := by
 obtain ⟨a, c, b, rfl, rfl⟩ : ∃ a c b, s = a ++ c :: b ∧ a.length = k := ⟨s.take k, s[k], s.drop (k + 1), by rw [← List.drop_eq_getElem_cons hk, List.take_append_drop], by simp; omega⟩
 rw [smC_cut, smC_cut1]
 have : smB c = c := by simpa using h
 rw [this]
theorem smC_end (s : List UInt8) (cap j : Nat) (hj : j < (smS s).length) : (smC s s.length cap)[j]? = some (.int .u8 ((smS s)[j].toNat : Int)) := by
 have hj' : j < s.length := by simpa [smS] using hj
 simp only [smC, List.getElem?_toArray, List.append_assoc, List.take_length]
 rw [List.getElem?_append_left (by simpa using hj')]
 simp [smS, u8V, hj']
theorem smW_cell (w : World) (s : List UInt8) (k cap : Nat) (hk : k < s.length) : (smW w s k cap).cell? ⟨w.heap.size, k, none⟩ = some (u8V s[k]) := by
 unfold smW
 exact (World.cell?_alloc_mark w.drew _ _ _ k).trans (smC_at s k cap hk)
theorem smW_frozen (w : World) (s : List UInt8) (k cap : Nat) (hk : k < s.length) : (smW w s k cap).frozen? ⟨w.heap.size, k, none⟩ = false := by
 unfold smW
 refine (World.frozen?_alloc_mark w.drew _ _ _ _ k).trans ?_
 rw [smC_size]
 simp; omega
theorem smW_set (w : World) (s : List UInt8) (k cap : Nat) (hk : k < s.length) : (smW w s k cap).setCell ⟨w.heap.size, k, none⟩ (u8V (smB s[k])) = smW w s (k + 1) cap := by
 unfold smW
 rw [← smC_set s k cap hk]
 have hm : ∀ (a : Array Obj) (x : Obj) (f : Obj → Obj), (a.push x).modify a.size f = a.push (f x) := by
  intro a x f
  apply Array.ext
  ·simp
  ·intro i h1 h2
   simp only [Array.getElem_modify, Array.getElem_push]
   by_cases h : a.size = i
   ·subst h
    simp
   ·have hi : i < a.size := by simp at h1; omega
    simp [h, hi]
 unfold World.setCell
 show ({ w.drew with heap := (w.heap.push _).modify w.heap.size _ } : World) = _
 rw [hm]
 simp only [World.alloc, Array.size_setIfInBounds]
 rfl
theorem smW_same (w : World) (s : List UInt8) (k cap : Nat) (hk : k < s.length) (h : smB s[k] = s[k]) : smW w s k cap = smW w s (k + 1) cap := by
 unfold smW
 rw [smC_same s k cap hk h]
theorem smW_below (w : World) (s : List UInt8) (k cap : Nat) : Below w.heap.size w (smW w s k cap) := by
 have h1 : Below w.heap.size w w.drew := ⟨rfl, rfl, rfl, Nat.le_refl _, fun i _ => rfl⟩
 exact h1.alloc (Nat.le_refl _) _
theorem token_small (s : List UInt8) (hs : s.length ≤ maxLen) (w : World) : Calls Tryz.prog 121 #[.string ⟨s.toArray⟩] w fun e w' => e = .returned (.string ⟨(smS s).toArray⟩) ∧ Below w.heap.size w w' := by
 have hm : s.length ≤ 9223372036854775807 := hs
 have hconv := run_bytes_of_string (P := Tryz.prog) w 9 130 5 ⟨s.toArray⟩ (by kernel_rfl) (by kernel_rfl) (by kernel_rfl)
 generalize hcap : grownCap w (ByteArray.size ⟨s.toArray⟩) 0 5 = cap at hconv
 rw [← smC_0] at hconv
 have hW : w.drew.alloc (.cells (smC s 0 cap) 5 ((smC s 0 cap).size, (smC s 0 cap).size + 1)) = smW w s 0 cap := rfl
 rw [hW] at hconv
 have hsz : ByteArray.size ⟨s.toArray⟩ = s.length := by simp [ByteArray.size]
 rw [hsz] at hconv
 clear hcap hW hsz
 have hback := run_convert_bytes_back (P := Tryz.prog) (smW w s s.length cap) 130 9 5 ⟨w.heap.size, 0, none⟩ cap (smS s) (by kernel_rfl) (by kernel_rfl) (by kernel_rfl) (fun j hj => by
  have ha : (⟨w.heap.size, 0, none⟩ : Addr).add j = ⟨w.heap.size, j, none⟩ := by unfold Addr.add; split <;> simp_all
  rw [ha]
  exact (World.cell?_alloc_mark w.drew _ _ _ j).trans (smC_end s cap j hj))
 have hl : (smS s).length = s.length := by simp [smS]
 rw [hl] at hback
 have HB := Lib.hid hback
 clear hback hl
 generalize hw0 : smW w s 0 cap = w0 at hconv
 go_enter Tryz.func121, Tryz.ntmps121
 go_wp2
 subst hw0
 go_loopw [4, 5, 10] (fun _ _ i wr => ∃ k : Nat, k ≤ s.length ∧ i = .int .i64 k ∧ wr = smW w s k cap) (fun _ _ i _ => s.length - (intOf i).toNat)
 case atStart => exact ⟨0, Nat.zero_le _, rfl, rfl⟩
 case round =>
  obtain ⟨k, hk, rfl, rfl⟩ := hrel
  by_cases hlt : k < s.length
  ·have hc := smW_cell w s k cap hlt
   have hz := smW_frozen w s k cap hlt
   have hset := Lib.hid (smW_set w s k cap hlt)
   have hsame := Lib.hid (smW_same w s k cap hlt)
   have hi : (k : Int) < (s.length : Int) := by omega
   generalize s[k] = c at hc hset hsame
   have hc255 : c.toNat < 256 := c.toNat_lt
   have hsm : Hid (smB c = if 65 ≤ c.toNat ∧ c.toNat ≤ 90 then c + 32 else c) := Lib.hid rfl
   generalize hwk : smW w s k cap = wk at hc hz hset hsame ⊢
   have HW := Lib.hid hwk
   clear hwk
   unfold u8V at hc
   by_cases h1 : 65 ≤ (c.toNat : Int)
   ·by_cases h2 : (c.toNat : Int) ≤ 90
    ·have hb : (smB c).toNat = c.toNat + 32 := by
      rw [hsm.out, if_pos (by omega)]
      simp [UInt8.toNat_add]; omega
     go_wp2
     refine ⟨⟨k + 1, by omega, by simp, ?_⟩, by simp [intOf]; omega⟩
     rw [← hset.out]
     unfold u8V
     rw [hb]
     congr 2 <;> omega
    ·have hb : smB c = c := by rw [hsm.out, if_neg (by omega)]
     have hb2 := Lib.hid hb
     clear hb
     go_wp2
     exact ⟨⟨k + 1, by omega, by simp, hsame.out hb2.out⟩, by simp [intOf]; omega⟩
   ·have hb : smB c = c := by rw [hsm.out, if_neg (by omega)]
    have hb2 := Lib.hid hb
    clear hb
    go_wp2
    exact ⟨⟨k + 1, by omega, by simp, hsame.out hb2.out⟩, by simp [intOf]; omega⟩
  ·obtain rfl : k = s.length := by omega
   have hb := smW_below w s s.length cap
   have hback := HB.out
   generalize smW w s s.length cap = we at hback hb ⊢
   go_wp2
   go_ret
   exact ⟨rfl, hb⟩
def g_token_small (s : List UInt8) : Option (List UInt8) := some (smS s)
theorem a_token_small (I : World → Prop) (hI : Stab I) (s : List UInt8) {r : List UInt8} (h : g_token_small s = some r) : AFun Tryz.prog I 121 [.str s] (.str r) := by
 obtain rfl := Option.some.inj h
 refine AFun.sized (by kernel_rfl) fun hz => ?_
 simp only [List.mem_cons, List.not_mem_nil, or_false, forall_eq, Sz_str] at hz
 refine AFun.of_calls (v := .string ⟨(smS s).toArray⟩) (by kernel_rfl) (fun w F => .str _ (by unfold maxLen; simpa [smS] using hz)) ?_
 intro w F args hIw _ hl hr
 match args, hl with
 | [v], _ =>
  obtain ⟨rfl, hm⟩ := rep_str1 (hr 0 v _ rfl rfl)
  exact token_small s hm w
theorem ref34_small (s : List UInt8) (hs : s.length ≤ maxLen) (w : World) : Calls Tryz.prog 123 #[.string ⟨s.toArray⟩] w fun e w' => e = .returned (.string ⟨(smS s).toArray⟩) ∧ Below w.heap.size w w' := by
 have hm : s.length ≤ 9223372036854775807 := hs
 have hconv := run_bytes_of_string (P := Tryz.prog) w 9 130 5 ⟨s.toArray⟩ (by kernel_rfl) (by kernel_rfl) (by kernel_rfl)
 generalize hcap : grownCap w (ByteArray.size ⟨s.toArray⟩) 0 5 = cap at hconv
 rw [← smC_0] at hconv
 have hW : w.drew.alloc (.cells (smC s 0 cap) 5 ((smC s 0 cap).size, (smC s 0 cap).size + 1)) = smW w s 0 cap := rfl
 rw [hW] at hconv
 have hsz : ByteArray.size ⟨s.toArray⟩ = s.length := by simp [ByteArray.size]
 rw [hsz] at hconv
 clear hcap hW hsz
 have hback := run_convert_bytes_back (P := Tryz.prog) (smW w s s.length cap) 130 9 5 ⟨w.heap.size, 0, none⟩ cap (smS s) (by kernel_rfl) (by kernel_rfl) (by kernel_rfl) (fun j hj => by
  have ha : (⟨w.heap.size, 0, none⟩ : Addr).add j = ⟨w.heap.size, j, none⟩ := by unfold Addr.add; split <;> simp_all
  rw [ha]
  exact (World.cell?_alloc_mark w.drew _ _ _ j).trans (smC_end s cap j hj))
 have hl : (smS s).length = s.length := by simp [smS]
 rw [hl] at hback
 have HB := Lib.hid hback
 clear hback hl
 generalize hw0 : smW w s 0 cap = w0 at hconv
 go_enter Tryz.func123, Tryz.ntmps123
 go_wp2
 subst hw0
 go_loopw [4, 5, 10] (fun _ _ i wr => ∃ k : Nat, k ≤ s.length ∧ i = .int .i64 k ∧ wr = smW w s k cap) (fun _ _ i _ => s.length - (intOf i).toNat)
 case atStart => exact ⟨0, Nat.zero_le _, rfl, rfl⟩
 case round =>
  obtain ⟨k, hk, rfl, rfl⟩ := hrel
  by_cases hlt : k < s.length
  ·have hc := smW_cell w s k cap hlt
   have hz := smW_frozen w s k cap hlt
   have hset := Lib.hid (smW_set w s k cap hlt)
   have hsame := Lib.hid (smW_same w s k cap hlt)
   have hi : (k : Int) < (s.length : Int) := by omega
   generalize s[k] = c at hc hset hsame
   have hc255 : c.toNat < 256 := c.toNat_lt
   have hsm : Hid (smB c = if 65 ≤ c.toNat ∧ c.toNat ≤ 90 then c + 32 else c) := Lib.hid rfl
   generalize hwk : smW w s k cap = wk at hc hz hset hsame ⊢
   have HW := Lib.hid hwk
   clear hwk
   unfold u8V at hc
   by_cases h1 : 65 ≤ (c.toNat : Int)
   ·by_cases h2 : (c.toNat : Int) ≤ 90
    ·have hb : (smB c).toNat = c.toNat + 32 := by
      rw [hsm.out, if_pos (by omega)]
      simp [UInt8.toNat_add]; omega
     go_wp2
     refine ⟨⟨k + 1, by omega, by simp, ?_⟩, by simp [intOf]; omega⟩
     rw [← hset.out]
     unfold u8V
     rw [hb]
     congr 2 <;> omega
    ·have hb : smB c = c := by rw [hsm.out, if_neg (by omega)]
     have hb2 := Lib.hid hb
     clear hb
     go_wp2
     exact ⟨⟨k + 1, by omega, by simp, hsame.out hb2.out⟩, by simp [intOf]; omega⟩
   ·have hb : smB c = c := by rw [hsm.out, if_neg (by omega)]
    have hb2 := Lib.hid hb
    clear hb
    go_wp2
    exact ⟨⟨k + 1, by omega, by simp, hsame.out hb2.out⟩, by simp [intOf]; omega⟩
  ·obtain rfl : k = s.length := by omega
   have hb := smW_below w s s.length cap
   have hback := HB.out
   generalize smW w s s.length cap = we at hback hb ⊢
   go_wp2
   go_ret
   exact ⟨rfl, hb⟩
def g_ref34_small (s : List UInt8) : Option (List UInt8) := some (smS s)
theorem a_ref34_small (I : World → Prop) (hI : Stab I) (s : List UInt8) {r : List UInt8} (h : g_ref34_small s = some r) : AFun Tryz.prog I 123 [.str s] (.str r) := by
 obtain rfl := Option.some.inj h
 refine AFun.sized (by kernel_rfl) fun hz => ?_
 simp only [List.mem_cons, List.not_mem_nil, or_false, forall_eq, Sz_str] at hz
 refine AFun.of_calls (v := .string ⟨(smS s).toArray⟩) (by kernel_rfl) (fun w F => .str _ (by unfold maxLen; simpa [smS] using hz)) ?_
 intro w F args hIw _ hl hr
 match args, hl with
 | [v], _ =>
  obtain ⟨rfl, hm⟩ := rep_str1 (hr 0 v _ rfl rfl)
  exact ref34_small s hm w
set_option maxHeartbeats 10000000
structure T_tb_rate where
 name_ : List UInt8
 ticks_ : Int
 nominal_ : Int
 drop_ : Bool
 deriving DecidableEq
def T_tb_rate.d (x : T_tb_rate) : D := .agg [.str x.name_, .int .i64 x.ticks_, .int .i64 x.nominal_, .bool x.drop_]
structure A_Span where
 In : Int
 Out : Int
 deriving DecidableEq
def A_Span.d (x : A_Span) : D := .agg [.int .i64 x.In, .int .i64 x.Out]
structure A_Pf where
 Name : List UInt8
 Reading : Int
 MnF : Int
 MxF : Int
 MnG : Int
 ShB : Int
 ShA : Int
 Rows : Int
 Cols : Int
 Fbd : List UInt8
 SfT : Int
 SfB : Int
 SfL : Int
 SfR : Int
 deriving DecidableEq
def A_Pf.d (x : A_Pf) : D := .agg [.str x.Name, .int .i64 x.Reading, .int .i64 x.MnF, .int .i64 x.MxF, .int .i64 x.MnG, .int .i64 x.ShB, .int .i64 x.ShA, .int .i64 x.Rows, .int .i64 x.Cols, .str x.Fbd, .int .i64 x.SfT, .int .i64 x.SfB, .int .i64 x.SfL, .int .i64 x.SfR]
structure T_pf_limit where
 n_ : Int
 lo_ : Int
 hi_ : Int
 deriving DecidableEq
def T_pf_limit.d (x : T_pf_limit) : D := .agg [.int .i64 x.n_, .int .i64 x.lo_, .int .i64 x.hi_]
structure T_arr6_Int where
 a0 : Int
 a1 : Int
 a2 : Int
 a3 : Int
 a4 : Int
 a5 : Int
 deriving DecidableEq
def T_arr6_Int.d (x : T_arr6_Int) : D := .agg [.int .i64 x.a0, .int .i64 x.a1, .int .i64 x.a2, .int .i64 x.a3, .int .i64 x.a4, .int .i64 x.a5]
structure A_Pn where
 Sg : T_arr6_Int
 Rgd : Int
 Row : Int
 Event : Int
 Fast : Int
 Gap : Int
 Shot : Int
 deriving DecidableEq
def A_Pn.d (x : A_Pn) : D := .agg [.int .i64 x.Sg.a0, .int .i64 x.Sg.a1, .int .i64 x.Sg.a2, .int .i64 x.Sg.a3, .int .i64 x.Sg.a4, .int .i64 x.Sg.a5, .int .i64 x.Rgd, .int .i64 x.Row, .int .i64 x.Event, .int .i64 x.Fast, .int .i64 x.Gap, .int .i64 x.Shot]
structure A_Load where
 Fast : Int
 Gap : Int
 Shots : Int
 Sg : Int
 Last : Bool
 deriving DecidableEq
def A_Load.d (x : A_Load) : D := .agg [.int .i64 x.Fast, .int .i64 x.Gap, .int .i64 x.Shots, .int .i64 x.Sg, .bool x.Last]
theorem dd_EA : (∀ x, T_tb_rate.d x = .agg [.str x.name_, .int .i64 x.ticks_, .int .i64 x.nominal_, .bool x.drop_]) ∧ (∀ x, A_Span.d x = .agg [.int .i64 x.In, .int .i64 x.Out]) ∧ (∀ x, A_Pf.d x = .agg [.str x.Name, .int .i64 x.Reading, .int .i64 x.MnF, .int .i64 x.MxF, .int .i64 x.MnG, .int .i64 x.ShB, .int .i64 x.ShA, .int .i64 x.Rows, .int .i64 x.Cols, .str x.Fbd, .int .i64 x.SfT, .int .i64 x.SfB, .int .i64 x.SfL, .int .i64 x.SfR]) ∧ (∀ x, T_pf_limit.d x = .agg [.int .i64 x.n_, .int .i64 x.lo_, .int .i64 x.hi_]) ∧ (∀ x, T_arr6_Int.d x = .agg [.int .i64 x.a0, .int .i64 x.a1, .int .i64 x.a2, .int .i64 x.a3, .int .i64 x.a4, .int .i64 x.a5]) ∧ (∀ x, A_Pn.d x = .agg [.int .i64 x.Sg.a0, .int .i64 x.Sg.a1, .int .i64 x.Sg.a2, .int .i64 x.Sg.a3, .int .i64 x.Sg.a4, .int .i64 x.Sg.a5, .int .i64 x.Rgd, .int .i64 x.Row, .int .i64 x.Event, .int .i64 x.Fast, .int .i64 x.Gap, .int .i64 x.Shot]) ∧ (∀ x, A_Load.d x = .agg [.int .i64 x.Fast, .int .i64 x.Gap, .int .i64 x.Shots, .int .i64 x.Sg, .bool x.Last]) := ⟨fun _ => rfl, fun _ => rfl, fun _ => rfl, fun _ => rfl, fun _ => rfl, fun _ => rfl, fun _ => rfl⟩
def g_tb_of (r_0 : Int) : Option (T_tb_rate) :=
 (if (decide (8 ≤ (IntKind.i64.wrap r_0))) then (some (T_tb_rate.mk [] 0 0 false)) else (if r_0 == 0 then (some (T_tb_rate.mk [] 0 0 false)) else (if r_0 == 1 then (some (T_tb_rate.mk [50, 51, 46, 57, 55, 54] 5005 24 false)) else (if r_0 == 2 then (some (T_tb_rate.mk [50, 52] 5000 24 false)) else (if r_0 == 3 then (some (T_tb_rate.mk [50, 53] 4800 25 false)) else (if r_0 == 4 then (some (T_tb_rate.mk [50, 57, 46, 57, 55] 4004 30 true)) else (if r_0 == 5 then (some (T_tb_rate.mk [51, 48] 4000 30 false)) else (if r_0 == 6 then (some (T_tb_rate.mk [53, 48] 2400 50 false)) else (if r_0 == 7 then (some (T_tb_rate.mk [53, 57, 46, 57, 52] 2002 60 true)) else none)))))))))
theorem a_tb_of {I : World → Prop} (hI : Stab I) {r_0 : Int} {r : T_tb_rate} (h : g_tb_of r_0 = some r) : AFun Tryz.prog I 80 [.int .u8 r_0] (T_tb_rate.d r) := by
 have dd := dd_EA; have k := True.intro; have q := k; have rs := Tryz.results80
 unfold g_tb_of at h
 refine .en hI Tryz.func80 Tryz.ntmps80 ?_
 refine xs <| rz ?_
 refine es <| xs <| rz ?_
 refine es <| xs <| xs <| rz ?_
 refine es ?_
 obtain ⟨k,h⟩|⟨k,h⟩:=iK k h
 ·refine xt <| xs <| rz ?_
  refine es <| xr <| er ?_
  cases h
  exact en fr
 ·refine xf <| xk <| es <| xs <| rK fun K19 RK19 hK19 gK19 => zz ?_
  rcases ite_or h with ⟨k20, h⟩ | ⟨_, h⟩
  ·have k := And.intro (eq_of_beq k20) k
   refine zz ?_
   subst hK19 gK19
   refine es <| xr ?_
   cases h
   exact en fr
  ·rcases ite_or h with ⟨k21, h⟩ | ⟨_, h⟩
   ·have k := And.intro (eq_of_beq k21) k
    refine zz ?_
    subst hK19 gK19
    refine es <| xr ?_
    cases h
    exact en fr
   ·rcases ite_or h with ⟨k22, h⟩ | ⟨_, h⟩
    ·have k := And.intro (eq_of_beq k22) k
     refine zz ?_
     subst hK19 gK19
     refine es <| xr ?_
     cases h
     exact en fr
    ·rcases ite_or h with ⟨k23, h⟩ | ⟨_, h⟩
     ·have k := And.intro (eq_of_beq k23) k
      refine zz ?_
      subst hK19 gK19
      refine es <| xr ?_
      cases h
      exact en fr
     ·rcases ite_or h with ⟨k24, h⟩ | ⟨_, h⟩
      ·have k := And.intro (eq_of_beq k24) k
       refine zz ?_
       subst hK19 gK19
       refine es <| xr ?_
       cases h
       exact en fr
      ·rcases ite_or h with ⟨k25, h⟩ | ⟨_, h⟩
       ·have k := And.intro (eq_of_beq k25) k
        refine zz ?_
        subst hK19 gK19
        refine es <| xr ?_
        cases h
        exact en fr
       ·rcases ite_or h with ⟨k26, h⟩ | ⟨_, h⟩
        ·have k := And.intro (eq_of_beq k26) k
         refine zz ?_
         subst hK19 gK19
         refine es <| xr ?_
         cases h
         exact en fr
        ·rcases ite_or h with ⟨k27, h⟩ | ⟨_, h⟩
         ·have k := And.intro (eq_of_beq k27) k
          refine zz ?_
          subst hK19 gK19
          refine es <| xr ?_
          cases h
          exact en fr
         ·cases h
def g_tb_Valid (r_0 : Int) : Option (Bool) :=
 ((g_tb_of r_0).bind fun r7 => (some (decide (0 < r7.ticks_))))
theorem a_tb_Valid {I : World → Prop} (hI : Stab I) {r_0 : Int} {r : Bool} (h : g_tb_Valid r_0 = some r) : AFun Tryz.prog I 38 [.int .u8 r_0] (.bool r) := by
 have dd := dd_EA; have k := True.intro; have q := k; have rs := Tryz.results38
 unfold g_tb_Valid at h
 refine .en hI Tryz.func38 Tryz.ntmps38 ?_
 refine xs <| rz ?_
 refine es <| xs <| rK fun K6 RK6 hK6 gK6 => zz ?_
 obtain ⟨r7, h8, h⟩ := bs h
 refine cw (a_tb_of hI h8) <| zz ?_
 subst hK6 gK6
 refine es <| xr ?_
 cases h
 exact en fr
def g_tb_Nominal (r_0 : Int) : Option (Int) :=
 ((g_tb_of r_0).bind fun r7 => (some r7.nominal_))
theorem a_tb_Nominal {I : World → Prop} (hI : Stab I) {r_0 : Int} {r : Int} (h : g_tb_Nominal r_0 = some r) : AFun Tryz.prog I 65 [.int .u8 r_0] (.int .i64 r) := by
 have dd := dd_EA; have k := True.intro; have q := k; have rs := Tryz.results65
 unfold g_tb_Nominal at h
 refine .en hI Tryz.func65 Tryz.ntmps65 ?_
 refine xs <| rz ?_
 refine es <| xs <| rK fun K6 RK6 hK6 gK6 => zz ?_
 obtain ⟨r7, h8, h⟩ := bs h
 refine cw (a_tb_of hI h8) <| zz ?_
 subst hK6 gK6
 refine es <| xr ?_
 cases h
 exact en fr
def g_tb_Ticks (r_0 : Int) : Option (Int) :=
 ((g_tb_of r_0).bind fun r7 => (some r7.ticks_))
theorem a_tb_Ticks {I : World → Prop} (hI : Stab I) {r_0 : Int} {r : Int} (h : g_tb_Ticks r_0 = some r) : AFun Tryz.prog I 152 [.int .u8 r_0] (.int .i64 r) := by
 have dd := dd_EA; have k := True.intro; have q := k; have rs := Tryz.results152
 unfold g_tb_Ticks at h
 refine .en hI Tryz.func152 Tryz.ntmps152 ?_
 refine xs <| rz ?_
 refine es <| xs <| rK fun K6 RK6 hK6 gK6 => zz ?_
 obtain ⟨r7, h8, h⟩ := bs h
 refine cw (a_tb_of hI h8) <| zz ?_
 subst hK6 gK6
 refine es <| xr ?_
 cases h
 exact en fr
def g_ch_place_s1 (s_0 : List UInt8) (r_1 : Int) (x7 : Int × Nat) : Option (Nx (Int × Nat) (Int ⊕ Unit)) :=
 (if (decide (x7.2 < s_0.length)) then (if ((runeAt s_0 x7.2) == r_1) then (some (.out (.inl x7.1))) else (some (.go ((IntKind.i64.wrap (x7.1 + 1)), (x7.2 + widthAt s_0 x7.2))))) else (some (.out (.inr ()))))
def g_ch_place (s_0 : List UInt8) (r_1 : Int) : Option (Int) :=
 ((iter (g_ch_place_s1 s_0 r_1) (0, 0)).bind fun e8 => (match e8 with | Sum.inl e8 => (some e8) | Sum.inr (e8) => (some (-1))))
theorem a_ch_place {I : World → Prop} (hI : Stab I) {s_0 : List UInt8} {r_1 : Int} {r : Int} (h : g_ch_place s_0 r_1 = some r) : AFun Tryz.prog I 162 [.str s_0, .int .i32 r_1] (.int .i64 r) := by
 have dd := dd_EA; have k := True.intro; have q := k; have rs := Tryz.results162
 unfold g_ch_place at h
 refine .en hI Tryz.func162 Tryz.ntmps162 ?_
 refine xs <| rz ?_
 refine es <| xs <| rz ?_
 refine es <| xs <| xs <| rz ?_
 refine es <| xb ?_
 obtain ⟨e8, h33, h⟩ := bs h
 refine rb_loop (fun x7 => ⟨envL [(1, .int .i32 r_1), (5, .int .i64 x7.1), (9, .ptr 0 0)], heapL [(0, .iter s_0 x7.2)], 1, 19⟩) (fun w => match w with | Sum.inl _ => .ret | Sum.inr (_) => .exit 0) (fun w => match w with | Sum.inl e8 => ⟨envL [(4, .int .i64 e8)], heapL [], 0, 19⟩ | Sum.inr (e8) => ⟨envL [], heapL [], 0, 19⟩) h33 (wk [(0, some 3)]) (by intro w; rcases w with w | w <;> simp) ?_ ?_
 ·clear h
  intro x7 y h
  unfold g_ch_place_s1 at h
  refine xs <| rK fun K23 RK23 hK23 gK23 => zz ?_
  obtain ⟨k,h⟩|⟨k,h⟩:=iK k h
  ·have k := And.intro (of_decide_eq_true k.1) k.2
   refine zz ?_
   subst hK23 gK23
   refine es <| xs <| xt <| xk <| es <| xb <| xs <| rz ?_
   refine es <| xs <| xs <| rz ?_
   refine es ?_
   obtain ⟨k,h⟩|⟨k,h⟩:=iK k h
   ·refine xt <| xs <| rz ?_
    refine es <| xr <| er <| br ?_
    cases h
    exact en ⟨rfl, wk []⟩
   ·refine xf <| xk <| es <| rz ?_
    refine bn ?_
    cases h
    exact en ⟨rfl, wk []⟩
  ·have k := And.intro (of_decide_eq_false k.1) k.2
   refine zz ?_
   subst hK23 gK23
   refine es <| xs <| xf <| xx <| ee ?_
   cases h
   exact en ⟨rfl, wk []⟩
 ·rcases e8 with e8 | e8
  ·try dsimp only at h ⊢
   refine br <| er ?_
   cases h
   exact en fr
  ·try dsimp only at h ⊢
   refine bh <| es <| xs <| rz ?_
   refine es <| xr ?_
   cases h
   exact en fr
def g_ch_Index (r_0 : Int) : Option (Int) :=
 (((if (decide (32 ≤ r_0)) then (some (decide (r_0 ≤ 126))) else (some false)) : Option (Bool)).bind fun v5 => (if v5 then (some (IntKind.i64.wrap (IntKind.i32.wrap (r_0 - 32)))) else ((g_ch_place [32, 33, 34, 35, 36, 37, 38, 39, 40, 41, 42, 43, 44, 45, 46, 47, 48, 49, 50, 51, 52, 53, 54, 55, 56, 57, 58, 59, 60, 61, 62, 63, 64, 65, 66, 67, 68, 69, 70, 71, 72, 73, 74, 75, 76, 77, 78, 79, 80, 81, 82, 83, 84, 85, 86, 87, 88, 89, 90, 91, 92, 93, 94, 95, 96, 97, 98, 99, 100, 101, 102, 103, 104, 105, 106, 107, 108, 109, 110, 111, 112, 113, 114, 115, 116, 117, 118, 119, 120, 121, 122, 123, 124, 125, 126, 194, 161, 194, 162, 194, 163, 194, 164, 194, 165, 194, 166, 194, 167, 194, 169, 194, 171, 194, 174, 194, 176, 194, 183, 194, 187, 194, 189, 194, 191, 195, 128, 195, 129, 195, 130, 195, 131, 195, 132, 195, 133, 195, 134, 195, 135, 195, 136, 195, 137, 195, 138, 195, 139, 195, 140, 195, 141, 195, 142, 195, 143, 195, 145, 195, 146, 195, 147, 195, 148, 195, 149, 195, 150, 195, 152, 195, 153, 195, 154, 195, 155, 195, 156, 195, 159, 195, 160, 195, 161, 195, 162, 195, 163, 195, 164, 195, 165, 195, 166, 195, 167, 195, 168, 195, 169, 195, 170, 195, 171, 195, 172, 195, 173, 195, 174, 195, 175, 195, 177, 195, 178, 195, 179, 195, 180, 195, 181, 195, 182, 195, 184, 195, 185, 195, 186, 195, 187, 195, 188, 197, 146, 197, 147, 226, 128, 148, 226, 128, 152, 226, 128, 153, 226, 128, 156, 226, 128, 157, 226, 128, 162, 226, 128, 166, 226, 132, 162, 226, 153, 170] r_0).bind fun r16 => (some r16))))
theorem a_ch_Index {I : World → Prop} (hI : Stab I) {r_0 : Int} {r : Int} (h : g_ch_Index r_0 = some r) : AFun Tryz.prog I 131 [.int .i32 r_0] (.int .i64 r) := by
 have dd := dd_EA; have k := True.intro; have q := k; have rs := Tryz.results131
 unfold g_ch_Index at h
 refine .en hI Tryz.func131 Tryz.ntmps131 ?_
 refine xs <| rz ?_
 refine es <| xs ?_
 obtain ⟨v5, h8, h⟩ := bs h
 refine rb_cut (fun v5 => ⟨envL [(0, .int .i32 r_0), (8, .bool v5)], heapL [], 0, 14⟩) h8 ?_ ?_
 ·clear h
  intro v5 h
  refine rK fun K6 RK6 hK6 gK6 => zz ?_
  obtain ⟨k,h⟩|⟨k,h⟩:=iK k h
  ·refine zz ?_
   subst hK6 gK6
   cases h
   exact en ⟨rfl, wk []⟩
  ·refine zz ?_
   subst hK6 gK6
   cases h
   exact en ⟨rfl, wk []⟩
 ·obtain ⟨k,h⟩|⟨k,h⟩:=iK k h
  ·refine xt <| xs <| rz ?_
   refine es <| xr <| er ?_
   cases h
   exact en fr
  ·refine xf <| xk <| es <| xs <| rK fun K15 RK15 hK15 gK15 => zz ?_
   obtain ⟨r16, h17, h⟩ := bs h
   refine cw (a_ch_place hI h17) <| zz ?_
   subst hK15 gK15
   refine es <| xr ?_
   cases h
   exact en fr
def g_ch_Valid_s1 (s_0 : List UInt8) (x12 : Nat) : Option (Nx (Nat) (Unit ⊕ Unit)) :=
 (if (decide (x12 < s_0.length)) then ((g_ch_Index (runeAt s_0 x12)).bind fun r39 => (if (decide (r39 < 0)) then (some (.out (.inl ()))) else (some (.go (x12 + widthAt s_0 x12))))) else (some (.out (.inr ()))))
def g_ch_Valid (s_0 : List UInt8) : Option (Bool) :=
 ((g_unicode_utf8_ValidString s_0).bind fun r7 => (if r7 then ((iter (g_ch_Valid_s1 s_0) 0).bind fun e13 => (match e13 with | Sum.inl e13 => (some false) | Sum.inr (e13) => (some true))) else (some false)))
theorem a_ch_Valid {I : World → Prop} (hI : Stab I) (hU8T : ∀ w, I w → U8T w) {s_0 : List UInt8} {r : Bool} (h : g_ch_Valid s_0 = some r) : AFun Tryz.prog I 82 [.str s_0] (.bool r) := by
 have dd := dd_EA; have k := True.intro; have q := k; have rs := Tryz.results82
 unfold g_ch_Valid at h
 refine .en hI Tryz.func82 Tryz.ntmps82 ?_
 refine xs <| rz ?_
 refine es <| xs <| xs <| rK fun K6 RK6 hK6 gK6 => zz ?_
 obtain ⟨r7, h8, h⟩ := bs h
 refine cw (a_unicode_utf8_ValidString I hI hU8T s_0 h8) <| zz ?_
 subst hK6 gK6
 refine es ?_
 obtain ⟨k,h⟩|⟨k,h⟩:=iK k h
 ·refine xf <| xk <| es <| xs <| xs <| rz ?_
  refine es <| xb ?_
  obtain ⟨e13, h44, h⟩ := bs h
  refine rb_loop (fun x12 => ⟨envL [(9, .ptr 0 0)], heapL [(0, .iter s_0 x12)], 1, 16⟩) (fun w => match w with | Sum.inl _ => .ret | Sum.inr (_) => .exit 0) (fun w => match w with | Sum.inl e13 => ⟨envL [(2, .bool false)], heapL [], 0, 16⟩ | Sum.inr (e13) => ⟨envL [], heapL [], 0, 16⟩) h44 (wk [(0, some 5)]) (by intro w; rcases w with w | w <;> simp) ?_ ?_
  ·clear h
   intro x12 y h
   unfold g_ch_Valid_s1 at h
   refine xs <| rK fun K31 RK31 hK31 gK31 => zz ?_
   obtain ⟨k,h⟩|⟨k,h⟩:=iK k h
   ·have k := And.intro (of_decide_eq_true k.1) k.2
    refine zz ?_
    subst hK31 gK31
    refine es <| xs <| xt <| xk <| es <| xb <| xs <| rz ?_
    refine es <| xs <| rK fun K38 RK38 hK38 gK38 => zz ?_
    obtain ⟨r39, h40, h⟩ := bs h
    refine cw (a_ch_Index hI h40) <| zz ?_
    subst hK38 gK38
    refine es ?_
    obtain ⟨k,h⟩|⟨k,h⟩:=iK k h
    ·refine xt <| xs <| rz ?_
     refine es <| xr <| br ?_
     cases h
     exact en ⟨rfl, wk []⟩
    ·refine xf <| xk <| bn ?_
     cases h
     exact en ⟨rfl, wk []⟩
   ·have k := And.intro (of_decide_eq_false k.1) k.2
    refine zz ?_
    subst hK31 gK31
    refine es <| xs <| xf <| xx <| ee ?_
    cases h
    exact en ⟨rfl, wk []⟩
  ·rcases e13 with e13 | e13
   ·try dsimp only at h ⊢
    refine br <| er ?_
    cases h
    exact en fr
   ·try dsimp only at h ⊢
    refine bh <| es <| xs <| rz ?_
    refine es <| xr ?_
    cases h
    exact en fr
 ·refine xt <| xs <| rz ?_
  refine es <| xr <| er ?_
  cases h
  exact en fr
def g_ch_Len (s_0 : List UInt8) : Option (Int) :=
 ((g_ch_Valid s_0).bind fun r7 => (if r7 then ((g_unicode_utf8_RuneCountInString s_0).bind fun r14 => (some r14)) else (some (-1))))
theorem a_ch_Len {I : World → Prop} (hI : Stab I) (hU8T : ∀ w, I w → U8T w) {s_0 : List UInt8} {r : Int} (h : g_ch_Len s_0 = some r) : AFun Tryz.prog I 57 [.str s_0] (.int .i64 r) := by
 have dd := dd_EA; have k := True.intro; have q := k; have rs := Tryz.results57
 unfold g_ch_Len at h
 refine .en hI Tryz.func57 Tryz.ntmps57 ?_
 refine xs <| rz ?_
 refine es <| xs <| xs <| rK fun K6 RK6 hK6 gK6 => zz ?_
 obtain ⟨r7, h8, h⟩ := bs h
 refine cw (a_ch_Valid hI hU8T h8) <| zz ?_
 subst hK6 gK6
 refine es ?_
 obtain ⟨k,h⟩|⟨k,h⟩:=iK k h
 ·refine xf <| xk <| es <| xs <| rK fun K13 RK13 hK13 gK13 => zz ?_
  obtain ⟨r14, h15, h⟩ := bs h
  refine cw (a_unicode_utf8_RuneCountInString I hI s_0 h15) <| zz ?_
  subst hK13 gK13
  refine es <| xr ?_
  cases h
  exact en fr
 ·refine xt <| xs <| rz ?_
  refine es <| xr <| er ?_
  cases h
  exact en fr
def g_shots_Check_s1 (l_0 : List Int) (x10 : Int) : Option (Nx (Int) (Int ⊕ Unit)) :=
 (if (decide (x10 < (l_0.length : Int))) then ((atI l_0 x10).bind fun y104 => (((if (decide (y104 < 1)) then (some true) else (some (decide (5184000 < y104)))) : Option (Bool)).bind fun v108 => (if v108 then (some (.out (.inl 2))) else (if (decide (0 < x10)) then ((atI l_0 (IntKind.i64.wrap (x10 - 1))).bind fun y121 => (if (decide (y104 ≤ y121)) then (some (.out (.inl 8))) else (some (.go (IntKind.i64.wrap (x10 + 1)))))) else (some (.go (IntKind.i64.wrap (x10 + 1)))))))) else (some (.out (.inr ()))))
def g_shots_Check (l_0 : List Int) : Option (Int) :=
 (if (decide (400 < (l_0.length : Int))) then (some 9) else ((iter (g_shots_Check_s1 l_0) 0).bind fun e11 => (match e11 with | Sum.inl e11 => (some e11) | Sum.inr (e11) => (some 0))))
theorem a_shots_Check {I : World → Prop} (hI : Stab I) {l_0 : List Int} {r : Int} (h : g_shots_Check l_0 = some r) : AFun Tryz.prog I 40 [.sl (l_0.map (D.int .i64))] (.int .i64 r) := by
 have dd := dd_EA; have k := True.intro; have q := k; have rs := Tryz.results40
 unfold g_shots_Check at h
 refine .en hI Tryz.func40 Tryz.ntmps40 ?_
 refine xs <| rz ?_
 refine es <| xs <| xs <| rz ?_
 refine es ?_
 obtain ⟨k,h⟩|⟨k,h⟩:=iK k h
 ·refine xt <| xs <| rz ?_
  refine es <| xr <| er ?_
  cases h
  exact en fr
 ·refine xf <| xk <| es <| xs <| xs <| rz ?_
  refine es <| xb ?_
  obtain ⟨e11, h128, h⟩ := bs h
  refine rb_loop (fun x10 => ⟨envL [(0, .sl (l_0.map (D.int .i64))), (8, .sl (l_0.map (D.int .i64))), (9, .int .i64 (l_0.length : Int)), (10, .int .i64 x10)], heapL [], 0, 33⟩) (fun w => match w with | Sum.inl _ => .ret | Sum.inr (_) => .exit 0) (fun w => match w with | Sum.inl e11 => ⟨envL [(2, .int .i64 e11)], heapL [], 0, 33⟩ | Sum.inr (e11) => ⟨envL [], heapL [], 0, 33⟩) h128 (wk []) (by intro w; rcases w with w | w <;> simp) ?_ ?_
  ·clear h
   intro x10 y h
   unfold g_shots_Check_s1 at h
   refine xs <| rz ?_
   refine es <| xs ?_
   obtain ⟨k,h⟩|⟨k,h⟩:=iK k h
   ·refine xt <| xk <| es <| xs <| xb <| xs <| rK fun K103 RK103 hK103 gK103 => zz ?_
    obtain ⟨y104, q, h⟩ := bK q h
    refine zz ?_
    subst hK103 gK103
    refine es <| xs ?_
    obtain ⟨v108, h111, h⟩ := bs h
    refine rb_cut (fun v108 => ⟨envL [(0, .sl (l_0.map (D.int .i64))), (3, .int .i64 x10), (4, .int .i64 y104), (8, .sl (l_0.map (D.int .i64))), (9, .int .i64 (l_0.length : Int)), (10, .int .i64 x10), (20, .bool v108)], heapL [], 0, 33⟩) h111 ?_ ?_
    ·clear h
     intro v108 h
     refine rK fun K109 RK109 hK109 gK109 => zz ?_
     obtain ⟨k,h⟩|⟨k,h⟩:=iK k h
     ·refine zz ?_
      subst hK109 gK109
      cases h
      exact en ⟨rfl, wk []⟩
     ·refine zz ?_
      subst hK109 gK109
      cases h
      exact en ⟨rfl, wk []⟩
    ·obtain ⟨k,h⟩|⟨k,h⟩:=iK k h
     ·refine xt <| xs <| rz ?_
      refine es <| xr <| er <| br <| er ?_
      cases h
      exact en ⟨rfl, wk []⟩
     ·refine xf <| xk <| es <| xs <| rK fun K119 RK119 hK119 gK119 => zz ?_
      obtain ⟨k,h⟩|⟨k,h⟩:=iK k h
      ·refine zz ?_
       obtain ⟨y121, q, h⟩ := bK q h
       refine zz ?_
       subst hK119 gK119
       refine es ?_
       obtain ⟨k,h⟩|⟨k,h⟩:=iK k h
       ·refine xt <| xs <| rz ?_
        refine es <| xr <| br <| er ?_
        cases h
        exact en ⟨rfl, wk []⟩
       ·refine xf <| xk <| bn <| es <| rz ?_
        cases h
        exact en ⟨rfl, wk []⟩
      ·refine zz ?_
       subst hK119 gK119
       refine es <| xf <| xk <| bn <| es <| rz ?_
       cases h
       exact en ⟨rfl, wk []⟩
   ·refine xf <| xx <| ee ?_
    cases h
    exact en ⟨rfl, wk []⟩
  ·rcases e11 with e11 | e11
   ·try dsimp only at h ⊢
    refine br <| er ?_
    cases h
    exact en fr
   ·try dsimp only at h ⊢
    refine bh <| es <| xs <| rz ?_
    refine es <| xr ?_
    cases h
    exact en fr
def g_shots_Inside_s1 (l_0 : List Int) (s_1 : A_Span) (x16 : (List Int) × Int) : Option (Nx ((List Int) × Int) ((List Int))) :=
 (if (decide (x16.2 < (l_0.length : Int))) then ((atI l_0 x16.2).bind fun y143 => (((if (decide (s_1.In < y143)) then (some (decide (y143 < s_1.Out))) else (some false)) : Option (Bool)).bind fun v147 => (if v147 then (if (x16.1.length + 1) * 8 ≤ 140737488355328 then (some (.go ((x16.1 ++ [y143]), (IntKind.i64.wrap (x16.2 + 1))))) else none) else (some (.go (x16.1, (IntKind.i64.wrap (x16.2 + 1)))))))) else (some (.out x16.1)))
def g_shots_Inside (l_0 : List Int) (s_1 : A_Span) : Option ((List Int)) :=
 ((g_shots_Check l_0).bind fun r7 => (if (r7 != 0) then (some []) else ((iter (g_shots_Inside_s1 l_0 s_1) ([], 0)).bind fun e17 => (some e17))))
theorem a_shots_Inside {I : World → Prop} (hI : Stab I) {l_0 : List Int} {s_1 : A_Span} {r : (List Int)} (h : g_shots_Inside l_0 s_1 = some r) : AFun Tryz.prog I 118 [.sl (l_0.map (D.int .i64)), A_Span.d s_1] (.sl (r.map (D.int .i64))) := by
 have dd := dd_EA; have k := True.intro; have q := k; have rs := Tryz.results118
 unfold g_shots_Inside at h
 refine .en hI Tryz.func118 Tryz.ntmps118 ?_
 refine xs <| rz ?_
 refine es <| xs <| xs <| rK fun K6 RK6 hK6 gK6 => zz ?_
 obtain ⟨r7, h8, h⟩ := bs h
 refine cw (a_shots_Check hI h8) <| zz ?_
 subst hK6 gK6
 refine es ?_
 obtain ⟨k,h⟩|⟨k,h⟩:=iK k h
 ·refine xt <| xs <| rz ?_
  refine es <| xr <| er ?_
  cases h
  exact en fr
 ·refine xf <| xk <| es <| xs <| rz ?_
  refine es <| xs <| xs <| rz ?_
  refine es <| xb ?_
  obtain ⟨e17, h157, h⟩ := bs h
  refine rb_loop (fun x16 => ⟨envL [(3, .ptr 0 0), (5, .own 1 x16.1.length), (11, .sl (l_0.map (D.int .i64))), (12, .int .i64 (l_0.length : Int)), (13, .int .i64 x16.2)], heapL [(0, .box none [.int .i64 s_1.In, .int .i64 s_1.Out]), (1, .vec 2 1 (x16.1.map (D.int .i64)) false)], 2, 33⟩) (fun _ => .exit 0) (fun e17 => ⟨envL [(5, .own 0 e17.length)], heapL [(0, .vec 2 1 (e17.map (D.int .i64)) false)], 1, 33⟩) h157 (wk [(1, none)]) (by intro w; simp) ?_ ?_
  ·clear h
   intro x16 y h
   unfold g_shots_Inside_s1 at h
   refine xs <| rz ?_
   refine es <| xs ?_
   obtain ⟨k,h⟩|⟨k,h⟩:=iK k h
   ·refine xt <| xk <| es <| xs <| xb <| xs <| rK fun K142 RK142 hK142 gK142 => zz ?_
    obtain ⟨y143, q, h⟩ := bK q h
    refine zz ?_
    subst hK142 gK142
    refine es ?_
    obtain ⟨v147, h150, h⟩ := bs h
    refine rb_cut (fun v147 => ⟨envL [(3, .ptr 0 0), (5, .own 1 x16.1.length), (7, .int .i64 y143), (11, .sl (l_0.map (D.int .i64))), (12, .int .i64 (l_0.length : Int)), (13, .int .i64 x16.2), (26, .bool v147)], heapL [(0, .box none [.int .i64 s_1.In, .int .i64 s_1.Out]), (1, .vec 2 1 (x16.1.map (D.int .i64)) false)], 2, 33⟩) h150 ?_ ?_
    ·clear h
     intro v147 h
     refine rK fun K148 RK148 hK148 gK148 => zz ?_
     obtain ⟨k,h⟩|⟨k,h⟩:=iK k h
     ·refine zz ?_
      subst hK148 gK148
      cases h
      exact en ⟨rfl, wk []⟩
     ·refine zz ?_
      subst hK148 gK148
      cases h
      exact en ⟨rfl, wk []⟩
    ·obtain ⟨k,h⟩|⟨k,h⟩:=iK k h
     ·refine xt <| rK fun K152 RK152 hK152 gK152 => zz ?_
      obtain ⟨h153, h⟩ := ite_on h
      have h154 : x16.1.length + 1 ≤ 9223372036854775807 := by omega
      try simp only [Nat.reduceLeDiff] at h154
      have q := And.intro @h154 <| And.intro @h153 <| q
      refine zz ?_
      subst hK152 gK152
      refine bn <| es <| rz ?_
      cases h
      exact en ⟨rfl, wk [(1, some 5)]⟩
     ·refine xf <| xk <| bn <| es <| rz ?_
      cases h
      exact en ⟨rfl, wk []⟩
   ·refine xf <| xx <| ee ?_
    cases h
    exact en ⟨rfl, wk [(0, some 1)]⟩
  ·refine bh <| es <| xs <| rz ?_
   refine es <| xr ?_
   cases h
   exact en fr
def g_lines_Name_s1 (s_0 : List UInt8) (x22 : Int) : Option (Nx (Int) (Unit ⊕ Unit)) :=
 (if (decide (x22 < (s_0.length : Int))) then ((atI s_0 x22).bind fun b144 => (((if (decide ((b144.toNat : Int) < 65)) then (if (decide ((b144.toNat : Int) < 48)) then (if ((b144.toNat : Int) != 95) then (some ((b144.toNat : Int) != 45)) else (some false)) else (if (decide (57 < (b144.toNat : Int))) then (if ((b144.toNat : Int) != 95) then (some ((b144.toNat : Int) != 45)) else (some false)) else (some false))) else (if (decide (90 < (b144.toNat : Int))) then (if (decide ((b144.toNat : Int) < 48)) then (if ((b144.toNat : Int) != 95) then (some ((b144.toNat : Int) != 45)) else (some false)) else (if (decide (57 < (b144.toNat : Int))) then (if ((b144.toNat : Int) != 95) then (some ((b144.toNat : Int) != 45)) else (some false)) else (some false))) else (some false))) : Option (Bool)).bind fun v157 => (if v157 then (some (.out (.inl ()))) else (some (.go (IntKind.i64.wrap (x22 + 1))))))) else (some (.out (.inr ()))))
def g_lines_Name (s_0 : List UInt8) : Option (Bool) :=
 (((if (decide ((s_0.length : Int) < 1)) then (some true) else (if (decide (16 < (s_0.length : Int))) then (some true) else ((atI s_0 0).bind fun b13 => (if (decide ((b13.toNat : Int) < 65)) then (some true) else (some (decide (90 < (b13.toNat : Int)))))))) : Option (Bool)).bind fun v9 => (if v9 then (some false) else ((iter (g_lines_Name_s1 s_0) 0).bind fun e23 => (match e23 with | Sum.inl e23 => (some false) | Sum.inr (e23) => (some true)))))
theorem a_lines_Name {I : World → Prop} (hI : Stab I) {s_0 : List UInt8} {r : Bool} (h : g_lines_Name s_0 = some r) : AFun Tryz.prog I 84 [.str s_0] (.bool r) := by
 have dd := dd_EA; have k := True.intro; have q := k; have rs := Tryz.results84
 unfold g_lines_Name at h
 refine .en hI Tryz.func84 Tryz.ntmps84 ?_
 refine xs <| rz ?_
 refine es <| xs ?_
 obtain ⟨v9, h16, h⟩ := bs h
 refine rb_cut (fun v9 => ⟨envL [(0, .str s_0), (22, .bool v9)], heapL [], 0, 54⟩) h16 ?_ ?_
 ·clear h
  intro v9 h
  refine rK fun K10 RK10 hK10 gK10 => zz ?_
  obtain ⟨k,h⟩|⟨k,h⟩:=iK k h
  ·refine zz ?_
   subst hK10 gK10
   cases h
   exact en ⟨rfl, wk []⟩
  ·refine zz ?_
   obtain ⟨k,h⟩|⟨k,h⟩:=iK k h
   ·refine zz ?_
    subst hK10 gK10
    cases h
    exact en ⟨rfl, wk []⟩
   ·refine zz ?_
    obtain ⟨b13, q, h⟩ := bK q h
    refine zz ?_
    obtain ⟨k,h⟩|⟨k,h⟩:=iK k h
    ·refine zz ?_
     subst hK10 gK10
     cases h
     exact en ⟨rfl, wk []⟩
    ·refine zz ?_
     subst hK10 gK10
     cases h
     exact en ⟨rfl, wk []⟩
 ·obtain ⟨k,h⟩|⟨k,h⟩:=iK k h
  ·refine xt <| xs <| rz ?_
   refine es <| xr <| er ?_
   cases h
   exact en fr
  ·refine xf <| xk <| es <| xs <| xs <| rz ?_
   refine es <| xb ?_
   obtain ⟨e23, h174, h⟩ := bs h
   refine rb_loop (fun x22 => ⟨envL [(0, .str s_0), (24, .int .i64 (s_0.length : Int)), (25, .int .i64 x22)], heapL [], 0, 54⟩) (fun w => match w with | Sum.inl _ => .ret | Sum.inr (_) => .exit 0) (fun w => match w with | Sum.inl e23 => ⟨envL [(2, .bool false)], heapL [], 0, 54⟩ | Sum.inr (e23) => ⟨envL [], heapL [], 0, 54⟩) h174 (wk []) (by intro w; rcases w with w | w <;> simp) ?_ ?_
   ·clear h
    intro x22 y h
    unfold g_lines_Name_s1 at h
    refine xs <| rz ?_
    refine es <| xs ?_
    obtain ⟨k,h⟩|⟨k,h⟩:=iK k h
    ·refine xt <| xk <| es <| xs <| xb <| xs <| rz ?_
     refine es <| xs <| rK fun K143 RK143 hK143 gK143 => zz ?_
     obtain ⟨b144, q, h⟩ := bK q h
     refine zz ?_
     subst hK143 gK143
     refine es ?_
     obtain ⟨v157, h169, h⟩ := bs h
     refine rb_cut (fun v157 => ⟨envL [(0, .str s_0), (24, .int .i64 (s_0.length : Int)), (25, .int .i64 x22), (52, .bool v157)], heapL [], 0, 54⟩) h169 ?_ ?_
     ·clear h
      intro v157 h
      refine rK fun K158 RK158 hK158 gK158 => zz ?_
      obtain ⟨k,h⟩|⟨k,h⟩:=iK k h
      ·refine zz ?_
       obtain ⟨k,h⟩|⟨k,h⟩:=iK k h
       ·refine zz ?_
        obtain ⟨k,h⟩|⟨k,h⟩:=iK k h
        ·refine zz ?_
         subst hK158 gK158
         cases h
         exact en ⟨rfl, wk []⟩
        ·refine zz ?_
         subst hK158 gK158
         cases h
         exact en ⟨rfl, wk []⟩
       ·refine zz ?_
        obtain ⟨k,h⟩|⟨k,h⟩:=iK k h
        ·refine zz ?_
         obtain ⟨k,h⟩|⟨k,h⟩:=iK k h
         ·refine zz ?_
          subst hK158 gK158
          cases h
          exact en ⟨rfl, wk []⟩
         ·refine zz ?_
          subst hK158 gK158
          cases h
          exact en ⟨rfl, wk []⟩
        ·refine zz ?_
         subst hK158 gK158
         cases h
         exact en ⟨rfl, wk []⟩
      ·refine zz ?_
       obtain ⟨k,h⟩|⟨k,h⟩:=iK k h
       ·refine zz ?_
        obtain ⟨k,h⟩|⟨k,h⟩:=iK k h
        ·refine zz ?_
         obtain ⟨k,h⟩|⟨k,h⟩:=iK k h
         ·refine zz ?_
          subst hK158 gK158
          cases h
          exact en ⟨rfl, wk []⟩
         ·refine zz ?_
          subst hK158 gK158
          cases h
          exact en ⟨rfl, wk []⟩
        ·refine zz ?_
         obtain ⟨k,h⟩|⟨k,h⟩:=iK k h
         ·refine zz ?_
          obtain ⟨k,h⟩|⟨k,h⟩:=iK k h
          ·refine zz ?_
           subst hK158 gK158
           cases h
           exact en ⟨rfl, wk []⟩
          ·refine zz ?_
           subst hK158 gK158
           cases h
           exact en ⟨rfl, wk []⟩
         ·refine zz ?_
          subst hK158 gK158
          cases h
          exact en ⟨rfl, wk []⟩
       ·refine zz ?_
        subst hK158 gK158
        cases h
        exact en ⟨rfl, wk []⟩
     ·obtain ⟨k,h⟩|⟨k,h⟩:=iK k h
      ·refine xt <| xs <| rz ?_
       refine es <| xr <| br <| er ?_
       cases h
       exact en ⟨rfl, wk []⟩
      ·refine xf <| xk <| bn <| es <| rz ?_
       cases h
       exact en ⟨rfl, wk []⟩
    ·refine xf <| xx <| ee ?_
     cases h
     exact en ⟨rfl, wk []⟩
   ·rcases e23 with e23 | e23
    ·try dsimp only at h ⊢
     refine br <| er ?_
     cases h
     exact en fr
    ·try dsimp only at h ⊢
     refine bh <| es <| xs <| rz ?_
     refine es <| xr ?_
     cases h
     exact en fr
def g_pf_Standard (rate_0 : Int) : Option (A_Pf × Int) :=
 ((g_tb_Valid rate_0).bind fun r7 => (if r7 then ((g_tb_Nominal rate_0).bind fun r14 => (some ((A_Pf.mk [83, 84, 65, 78, 68, 65, 82, 68] 1700 (IntKind.i64.wrap (Int.tdiv (IntKind.i64.wrap (r14 * 5)) 6)) (IntKind.i64.wrap (7 * r14)) 2 (IntKind.i64.wrap (Int.tdiv r14 2)) (IntKind.i64.wrap (Int.tdiv r14 2)) 2 32 [] 1 0 0 0), 0))) else (some ((A_Pf.mk [] 0 0 0 0 0 0 0 0 [] 0 0 0 0), 13))))
theorem a_pf_Standard {I : World → Prop} (hI : Stab I) {rate_0 : Int} {r : A_Pf × Int} (h : g_pf_Standard rate_0 = some r) : AFun Tryz.prog I 27 [.int .u8 rate_0] (.tup [A_Pf.d r.1, .int .i64 r.2]) := by
 have dd := dd_EA; have k := True.intro; have q := k; have rs := Tryz.results27
 unfold g_pf_Standard at h
 refine .en hI Tryz.func27 Tryz.ntmps27 ?_
 refine xs <| rz ?_
 refine es <| xs <| xs <| rK fun K6 RK6 hK6 gK6 => zz ?_
 obtain ⟨r7, h8, h⟩ := bs h
 refine cw (a_tb_Valid hI h8) <| zz ?_
 subst hK6 gK6
 refine es ?_
 obtain ⟨k,h⟩|⟨k,h⟩:=iK k h
 ·refine xf <| xk <| es <| xs <| rK fun K13 RK13 hK13 gK13 => zz ?_
  obtain ⟨r14, h15, h⟩ := bs h
  refine cw (a_tb_Nominal hI h15) <| zz ?_
  subst hK13 gK13
  refine es <| xs <| rz ?_
  refine es <| xr ?_
  cases h
  exact en fr
 ·refine xt <| xs <| rz ?_
  refine es <| xr <| er ?_
  cases h
  exact en fr
def g_pf_limits_s1 (p_0 : A_Pf) (x7 : Int × (List T_pf_limit)) : Option (Nx (Int × (List T_pf_limit)) ((List T_pf_limit))) :=
 (if (decide (x7.1 < 4)) then ((atI [p_0.SfT, p_0.SfB, p_0.SfL, p_0.SfR] x7.1).bind fun y89 => (if (x7.2.length + 1) * 24 ≤ 140737488355328 then (some (.go ((IntKind.i64.wrap (x7.1 + 1)), (x7.2 ++ [(T_pf_limit.mk y89 0 31)])))) else none)) else (some (.out x7.2)))
def g_pf_limits (p_0 : A_Pf) : Option ((List T_pf_limit)) :=
 ((iter (g_pf_limits_s1 p_0) (0, [(T_pf_limit.mk p_0.Reading 1 10000), (T_pf_limit.mk p_0.MnF 1 5184000), (T_pf_limit.mk p_0.MxF 1 5184000), (T_pf_limit.mk p_0.MnG 0 1000), (T_pf_limit.mk p_0.ShB 0 1000), (T_pf_limit.mk p_0.ShA 0 1000), (T_pf_limit.mk p_0.Rows 1 4), (T_pf_limit.mk p_0.Cols 1 32)])).bind fun e8 => (some e8))
theorem a_pf_limits {I : World → Prop} (hI : Stab I) {p_0 : A_Pf} {r : (List T_pf_limit)} (h : g_pf_limits p_0 = some r) : AFun Tryz.prog I 85 [A_Pf.d p_0] (.sl (r.map T_pf_limit.d)) := by
 have dd := dd_EA; have k := True.intro; have q := k; have rs := Tryz.results85
 unfold g_pf_limits at h
 refine .en hI Tryz.func85 Tryz.ntmps85 ?_
 refine xs <| rz ?_
 refine es <| xs <| rz ?_
 refine es <| xs <| xs <| rz ?_
 refine es <| xb ?_
 obtain ⟨e8, h98, h⟩ := bs h
 refine rb_loop (fun x7 => ⟨envL [(3, .own 0 x7.2.length), (39, .own 1 4), (40, .int .i64 4), (41, .int .i64 x7.1)], heapL [(0, .vec 165 3 (x7.2.map T_pf_limit.d) false), (1, .vec 3 1 ([p_0.SfT, p_0.SfB, p_0.SfL, p_0.SfR].map (D.int .i64)) false)], 2, 52⟩) (fun _ => .exit 0) (fun e8 => ⟨envL [(3, .own 0 e8.length)], heapL [(0, .vec 165 3 (e8.map T_pf_limit.d) false)], 1, 52⟩) h98 (wk [(0, some 26), (1, some 36)]) (by intro w; simp) ?_ ?_
 ·clear h
  intro x7 y h
  unfold g_pf_limits_s1 at h
  refine xs <| rz ?_
  refine es <| xs ?_
  obtain ⟨k,h⟩|⟨k,h⟩:=iK k h
  ·refine xt <| xk <| es <| xs <| xb <| xs <| rK fun K88 RK88 hK88 gK88 => zz ?_
   obtain ⟨y89, h90, h⟩ := bind_some h
   obtain ⟨h91, h92, h93⟩ := atI_own h90
   have h93 := h93 (D.int .i64)
   simp only [List.map_cons, List.map_nil, dd] at h93
   have h92 : x7.1 < 4 := by simpa using h92
   have q := And.intro h91 <| And.intro h92 <| And.intro @h93 q
   refine zz ?_
   subst hK88 gK88
   refine es <| rK fun K94 RK94 hK94 gK94 => zz ?_
   obtain ⟨h95, h⟩ := ite_on h
   have h96 : x7.2.length + 1 ≤ 9223372036854775807 := by omega
   try simp only [Nat.reduceLeDiff] at h96
   have q := And.intro @h96 <| And.intro @h95 <| q
   refine zz ?_
   subst hK94 gK94
   refine bn <| es <| rz ?_
   cases h
   exact en ⟨rfl, wk [(0, some 10)]⟩
  ·refine xf <| xx <| ee ?_
   cases h
   exact en ⟨rfl, wk []⟩
 ·refine bh <| es <| xs <| rz ?_
  refine es <| xr ?_
  cases h
  exact en fr
def g_pf_Check_s1 (r14 : (List T_pf_limit)) (x16 : Int) : Option (Nx (Int) (Unit ⊕ Unit)) :=
 (if (decide (x16 < (r14.length : Int))) then ((atI r14 x16).bind fun y111 => (if (decide (y111.n_ < y111.lo_)) then (some (.out (.inl ()))) else (if (decide (y111.hi_ < y111.n_)) then (some (.out (.inl ()))) else (some (.go (IntKind.i64.wrap (x16 + 1))))))) else (some (.out (.inr ()))))
def g_pf_Check_s2 (p_0 : A_Pf) (x172 : Int × Nat) : Option (Nx (Int × Nat) (Unit ⊕ Unit)) :=
 (if (decide (x172.2 < p_0.Fbd.length)) then (if (decide ((runeAt p_0.Fbd x172.2) ≤ x172.1)) then (some (.out (.inl ()))) else (some (.go ((runeAt p_0.Fbd x172.2), (x172.2 + widthAt p_0.Fbd x172.2))))) else (some (.out (.inr ()))))
def g_pf_Check (p_0 : A_Pf) : Option (Int) :=
 ((g_lines_Name p_0.Name).bind fun r7 => (if r7 then ((g_pf_limits p_0).bind fun r14 => ((iter (g_pf_Check_s1 r14) 0).bind fun e17 => (match e17 with | Sum.inl e17 => (some 2) | Sum.inr (e17) => (((if (decide (15 ≤ (IntKind.i64.wrap (p_0.SfT + p_0.SfB)))) then (some true) else (some (decide (32 ≤ (IntKind.i64.wrap (p_0.SfL + p_0.SfR)))))) : Option (Bool)).bind fun v149 => (if v149 then (some 2) else (if (decide (p_0.MxF < p_0.MnF)) then (some 8) else ((g_ch_Valid p_0.Fbd).bind fun r165 => (if r165 then ((iter (g_pf_Check_s2 p_0) (-1, 0)).bind fun e173 => (match e173 with | Sum.inl e173 => (some 8) | Sum.inr (e173) => (some 0))) else (some 10))))))))) else (some 5)))
theorem a_pf_Check {I : World → Prop} (hI : Stab I) (hU8T : ∀ w, I w → U8T w) {p_0 : A_Pf} {r : Int} (h : g_pf_Check p_0 = some r) : AFun Tryz.prog I 42 [A_Pf.d p_0] (.int .i64 r) := by
 have dd := dd_EA; have k := True.intro; have q := k; have rs := Tryz.results42
 unfold g_pf_Check at h
 refine .en hI Tryz.func42 Tryz.ntmps42 ?_
 refine xs <| rz ?_
 refine es <| xs <| xs <| rK fun K6 RK6 hK6 gK6 => zz ?_
 obtain ⟨r7, h8, h⟩ := bs h
 refine cw (a_lines_Name hI h8) <| zz ?_
 subst hK6 gK6
 refine es ?_
 obtain ⟨k,h⟩|⟨k,h⟩:=iK k h
 ·refine xf <| xk <| es <| xs <| xs <| rK fun K13 RK13 hK13 gK13 => zz ?_
  obtain ⟨r14, h15, h⟩ := bs h
  refine cw (a_pf_limits hI h15) <| zz ?_
  subst hK13 gK13
  refine es <| xb ?_
  obtain ⟨e17, h123, h⟩ := bs h
  refine rb_loop (fun x16 => ⟨envL [(1, .ptr 0 0), (13, .sl (r14.map T_pf_limit.d)), (14, .int .i64 (r14.length : Int)), (15, .int .i64 x16)], heapL [(0, .box none [.str p_0.Name, .int .i64 p_0.Reading, .int .i64 p_0.MnF, .int .i64 p_0.MxF, .int .i64 p_0.MnG, .int .i64 p_0.ShB, .int .i64 p_0.ShA, .int .i64 p_0.Rows, .int .i64 p_0.Cols, .str p_0.Fbd, .int .i64 p_0.SfT, .int .i64 p_0.SfB, .int .i64 p_0.SfL, .int .i64 p_0.SfR])], 1, 68⟩) (fun w => match w with | Sum.inl _ => .ret | Sum.inr (_) => .exit 0) (fun w => match w with | Sum.inl e17 => ⟨envL [(2, .int .i64 2)], heapL [], 0, 68⟩ | Sum.inr (e17) => ⟨envL [(1, .ptr 0 0)], heapL [(0, .box none [.str p_0.Name, .int .i64 p_0.Reading, .int .i64 p_0.MnF, .int .i64 p_0.MxF, .int .i64 p_0.MnG, .int .i64 p_0.ShB, .int .i64 p_0.ShA, .int .i64 p_0.Rows, .int .i64 p_0.Cols, .str p_0.Fbd, .int .i64 p_0.SfT, .int .i64 p_0.SfB, .int .i64 p_0.SfL, .int .i64 p_0.SfR])], 1, 68⟩) h123 (wk []) (by intro w; rcases w with w | w <;> simp) ?_ ?_
  ·clear h
   intro x16 y h
   unfold g_pf_Check_s1 at h
   refine xs <| rz ?_
   refine es <| xs ?_
   obtain ⟨k,h⟩|⟨k,h⟩:=iK k h
   ·refine xt <| xk <| es <| xs <| xb <| xs <| rK fun K110 RK110 hK110 gK110 => zz ?_
    obtain ⟨y111, q, h⟩ := bK q h
    refine zz ?_
    subst hK110 gK110
    refine es <| xs <| rK fun K115 RK115 hK115 gK115 => zz ?_
    obtain ⟨k,h⟩|⟨k,h⟩:=iK k h
    ·refine zz ?_
     subst hK115 gK115
     refine es <| xt <| xs <| rz ?_
     refine es <| xr <| br <| er ?_
     cases h
     exact en ⟨rfl, wk []⟩
    ·refine zz ?_
     subst hK115 gK115
     refine es ?_
     obtain ⟨k,h⟩|⟨k,h⟩:=iK k h
     ·refine xt <| xs <| rz ?_
      refine es <| xr <| br <| er ?_
      cases h
      exact en ⟨rfl, wk []⟩
     ·refine xf <| xk <| bn <| es <| rz ?_
      cases h
      exact en ⟨rfl, wk []⟩
   ·refine xf <| xx <| ee ?_
    cases h
    exact en ⟨rfl, wk []⟩
  ·rcases e17 with e17 | e17
   ·try dsimp only at h ⊢
    refine br <| er ?_
    cases h
    exact en fr
   ·try dsimp only at h ⊢
    refine bh <| es <| xs <| xb ?_
    obtain ⟨v149, h152, h⟩ := bs h
    refine rb_cut (fun v149 => ⟨envL [(1, .ptr 0 0), (32, .bool v149)], heapL [(0, .box none [.str p_0.Name, .int .i64 p_0.Reading, .int .i64 p_0.MnF, .int .i64 p_0.MxF, .int .i64 p_0.MnG, .int .i64 p_0.ShB, .int .i64 p_0.ShA, .int .i64 p_0.Rows, .int .i64 p_0.Cols, .str p_0.Fbd, .int .i64 p_0.SfT, .int .i64 p_0.SfB, .int .i64 p_0.SfL, .int .i64 p_0.SfR])], 1, 68⟩) h152 ?_ ?_
    ·clear h
     intro v149 h
     refine rK fun K150 RK150 hK150 gK150 => zz ?_
     obtain ⟨k,h⟩|⟨k,h⟩:=iK k h
     ·refine zz ?_
      subst hK150 gK150
      cases h
      exact en ⟨rfl, wk []⟩
     ·refine zz ?_
      subst hK150 gK150
      cases h
      exact en ⟨rfl, wk []⟩
    ·obtain ⟨k,h⟩|⟨k,h⟩:=iK k h
     ·refine xt <| xs <| rz ?_
      refine es <| xr <| br <| er ?_
      cases h
      exact en fr
     ·refine xf <| xs <| rz ?_
      refine es ?_
      obtain ⟨k,h⟩|⟨k,h⟩:=iK k h
      ·refine xt <| xs <| rz ?_
       refine es <| xr <| br <| er ?_
       cases h
       exact en fr
      ·refine xf <| xs <| rK fun K164 RK164 hK164 gK164 => zz ?_
       obtain ⟨r165, h166, h⟩ := bs h
       refine cw (a_ch_Valid hI hU8T h166) <| zz ?_
       subst hK164 gK164
       refine es ?_
       obtain ⟨k,h⟩|⟨k,h⟩:=iK k h
       ·refine xf <| xk <| bn <| es <| xs <| rz ?_
        refine es <| xs <| xs <| rz ?_
        refine es <| xb ?_
        obtain ⟨e173, h198, h⟩ := bs h
        refine rb_loop (fun x172 => ⟨envL [(5, .int .i32 x172.1), (60, .ptr 0 0)], heapL [(0, .iter p_0.Fbd x172.2)], 1, 68⟩) (fun w => match w with | Sum.inl _ => .ret | Sum.inr (_) => .exit 3) (fun w => match w with | Sum.inl e173 => ⟨envL [(2, .int .i64 8)], heapL [], 0, 68⟩ | Sum.inr (e173) => ⟨envL [], heapL [], 0, 68⟩) h198 (wk [(0, some 15)]) (by intro w; rcases w with w | w <;> simp) ?_ ?_
        ·clear h
         intro x172 y h
         unfold g_pf_Check_s2 at h
         refine xs <| rK fun K188 RK188 hK188 gK188 => zz ?_
         obtain ⟨k,h⟩|⟨k,h⟩:=iK k h
         ·have k := And.intro (of_decide_eq_true k.1) k.2
          refine zz ?_
          subst hK188 gK188
          refine es <| xs <| xt <| xk <| es <| xb <| xs <| rz ?_
          refine es <| xs <| xs <| rz ?_
          refine es ?_
          obtain ⟨k,h⟩|⟨k,h⟩:=iK k h
          ·refine xt <| xs <| rz ?_
           refine es <| xr <| er <| br ?_
           cases h
           exact en ⟨rfl, wk []⟩
          ·refine xf <| xk <| es <| rz ?_
           refine bn ?_
           cases h
           exact en ⟨rfl, wk []⟩
         ·have k := And.intro (of_decide_eq_false k.1) k.2
          refine zz ?_
          subst hK188 gK188
          refine es <| xs <| xf <| xx <| ee ?_
          cases h
          exact en ⟨rfl, wk []⟩
        ·rcases e173 with e173 | e173
         ·try dsimp only at h ⊢
          refine br <| er ?_
          cases h
          exact en fr
         ·try dsimp only at h ⊢
          refine bh <| es <| xs <| rz ?_
          refine es <| xr ?_
          cases h
          exact en fr
       ·refine xt <| xs <| rz ?_
        refine es <| xr <| br <| er ?_
        cases h
        exact en fr
 ·refine xt <| xs <| rz ?_
  refine es <| xr <| er ?_
  cases h
  exact en fr
def g_reading_within (n_0 : Int) (lo_1 : Int) (hi_2 : Int) : Option (Bool) :=
 (if (decide (lo_1 ≤ n_0)) then (some (decide (n_0 ≤ hi_2))) else (some false))
theorem a_reading_within {I : World → Prop} (hI : Stab I) {n_0 : Int} {lo_1 : Int} {hi_2 : Int} {r : Bool} (h : g_reading_within n_0 lo_1 hi_2 = some r) : AFun Tryz.prog I 149 [.int .i64 n_0, .int .i64 lo_1, .int .i64 hi_2] (.bool r) := by
 have dd := dd_EA; have k := True.intro; have q := k; have rs := Tryz.results149
 unfold g_reading_within at h
 refine .en hI Tryz.func149 Tryz.ntmps149 ?_
 refine xs <| rz ?_
 refine es <| xs <| rK fun K5 RK5 hK5 gK5 => zz ?_
 obtain ⟨k,h⟩|⟨k,h⟩:=iK k h
 ·refine zz ?_
  subst hK5 gK5
  refine es <| xr ?_
  cases h
  exact en fr
 ·refine zz ?_
  subst hK5 gK5
  refine es <| xr ?_
  cases h
  exact en fr
def g_reading_load (chars_0 : Int) : Option (Int) :=
 (some (IntKind.i64.wrap ((IntKind.i64.wrap (chars_0 * 100)) * 120000)))
theorem a_reading_load {I : World → Prop} (hI : Stab I) {chars_0 : Int} {r : Int} (h : g_reading_load chars_0 = some r) : AFun Tryz.prog I 151 [.int .i64 chars_0] (.int .i64 r) := by
 have dd := dd_EA; have k := True.intro; have q := k; have rs := Tryz.results151
 unfold g_reading_load at h
 refine .en hI Tryz.func151 Tryz.ntmps151 ?_
 refine xs <| rz ?_
 refine es <| xs <| rz ?_
 refine es <| xr ?_
 cases h
 exact en fr
def g_reading_up (a_0 : Int) (b_1 : Int) : Option (Int) :=
 (if ¬ b_1 = 0 then (some (IntKind.i64.wrap (Int.tdiv (IntKind.i64.wrap ((IntKind.i64.wrap (a_0 + b_1)) - 1)) b_1))) else none)
theorem a_reading_up {I : World → Prop} (hI : Stab I) {a_0 : Int} {b_1 : Int} {r : Int} (h : g_reading_up a_0 b_1 = some r) : AFun Tryz.prog I 150 [.int .i64 a_0, .int .i64 b_1] (.int .i64 r) := by
 have dd := dd_EA; have k := True.intro; have q := k; have rs := Tryz.results150
 unfold g_reading_up at h
 refine .en hI Tryz.func150 Tryz.ntmps150 ?_
 refine xs <| rz ?_
 refine es <| xs <| rK fun K4 RK4 hK4 gK4 => zz ?_
 obtain ⟨q, h⟩ := oK q h
 refine zz ?_
 subst hK4 gK4
 refine es <| xr ?_
 cases h
 exact en fr
def g_reading_Needed (rate_0 : Int) (chars_1 : Int) (limit_2 : Int) : Option (Int × Int) :=
 ((g_tb_Valid rate_0).bind fun r7 => (if r7 then ((((g_reading_within chars_1 0 10000).bind fun r18 => (if r18 then ((g_reading_within limit_2 1 10000).bind fun r21 => (some (!r21))) else (some true))) : Option (Bool)).bind fun v16 => (if v16 then (some (0, 2)) else ((g_reading_load chars_1).bind fun r35 => ((g_tb_Ticks rate_0).bind fun r37 => ((g_reading_up r35 (IntKind.i64.wrap (limit_2 * r37))).bind fun r39 => (some (r39, 0))))))) else (some (0, 3))))
theorem a_reading_Needed {I : World → Prop} (hI : Stab I) {rate_0 : Int} {chars_1 : Int} {limit_2 : Int} {r : Int × Int} (h : g_reading_Needed rate_0 chars_1 limit_2 = some r) : AFun Tryz.prog I 117 [.int .u8 rate_0, .int .i64 chars_1, .int .i64 limit_2] (.tup [.int .i64 r.1, .int .i64 r.2]) := by
 have dd := dd_EA; have k := True.intro; have q := k; have rs := Tryz.results117
 unfold g_reading_Needed at h
 refine .en hI Tryz.func117 Tryz.ntmps117 ?_
 refine xs <| rz ?_
 refine es <| xs <| xs <| rK fun K6 RK6 hK6 gK6 => zz ?_
 obtain ⟨r7, h8, h⟩ := bs h
 refine cw (a_tb_Valid hI h8) <| zz ?_
 subst hK6 gK6
 refine es ?_
 obtain ⟨k,h⟩|⟨k,h⟩:=iK k h
 ·refine xf <| xk <| es <| xs ?_
  obtain ⟨v16, h23, h⟩ := bs h
  refine rb_cut (fun v16 => ⟨envL [(0, .int .u8 rate_0), (1, .int .i64 chars_1), (2, .int .i64 limit_2), (18, .bool v16)], heapL [], 0, 26⟩) h23 ?_ ?_
  ·clear h
   intro v16 h
   refine rK fun K17 RK17 hK17 gK17 => zz ?_
   obtain ⟨r18, h19, h⟩ := bs h
   refine cw (a_reading_within hI h19) <| zz ?_
   obtain ⟨k,h⟩|⟨k,h⟩:=iK k h
   ·refine zz ?_
    obtain ⟨r21, h22, h⟩ := bs h
    refine cw (a_reading_within hI h22) <| zz ?_
    subst hK17 gK17
    cases h
    exact en ⟨rfl, wk []⟩
   ·refine zz ?_
    subst hK17 gK17
    cases h
    exact en ⟨rfl, wk []⟩
  ·obtain ⟨k,h⟩|⟨k,h⟩:=iK k h
   ·refine xt <| xs <| rz ?_
    refine es <| xr <| er ?_
    cases h
    exact en fr
   ·refine xf <| xk <| es <| xs <| rK fun K34 RK34 hK34 gK34 => zz ?_
    obtain ⟨r35, h36, h⟩ := bs h
    refine cw (a_reading_load hI h36) <| zz ?_
    obtain ⟨r37, h38, h⟩ := bs h
    refine cw (a_tb_Ticks hI h38) <| zz ?_
    obtain ⟨r39, h40, h⟩ := bs h
    refine cw (a_reading_up hI h40) <| zz ?_
    subst hK34 gK34
    refine es <| xr ?_
    cases h
    exact en fr
 ·refine xt <| xs <| rz ?_
  refine es <| xr <| er ?_
  cases h
  exact en fr
def g_pn_Standard  : Option (A_Pn) :=
 (some (A_Pn.mk (T_arr6_Int.mk 4000 1200 600 300 100 0) 20 50 500 40 100 300))
theorem a_pn_Standard {I : World → Prop} (hI : Stab I)  {r : A_Pn} (h : g_pn_Standard  = some r) : AFun Tryz.prog I 28 [] (A_Pn.d r) := by
 have dd := dd_EA; have k := True.intro; have q := k; have rs := Tryz.results28
 unfold g_pn_Standard at h
 refine .en hI Tryz.func28 Tryz.ntmps28 ?_
 refine xs <| rz ?_
 refine es <| xs <| rz ?_
 refine es <| xr ?_
 cases h
 exact en fr
def g_pn_numbers (t_0 : A_Pn) : Option ((List Int)) :=
 (some ([t_0.Sg.a0, t_0.Sg.a1, t_0.Sg.a2, t_0.Sg.a3, t_0.Sg.a4, t_0.Sg.a5] ++ [t_0.Rgd, t_0.Row, t_0.Event, t_0.Fast, t_0.Gap, t_0.Shot]))
theorem a_pn_numbers {I : World → Prop} (hI : Stab I) {t_0 : A_Pn} {r : (List Int)} (h : g_pn_numbers t_0 = some r) : AFun Tryz.prog I 83 [A_Pn.d t_0] (.sl (r.map (D.int .i64))) := by
 have dd := dd_EA; have k := True.intro; have q := k; have rs := Tryz.results83
 unfold g_pn_numbers at h
 refine .en hI Tryz.func83 Tryz.ntmps83 ?_
 refine xs <| rz ?_
 refine es <| xs <| rd hI ?_
 refine es <| xr ?_
 cases h
 exact en fr
def g_pn_Check_s1 (r7 : (List Int)) (x9 : Int) : Option (Nx (Int) (Unit ⊕ Unit)) :=
 (if (decide (x9 < (r7.length : Int))) then ((atI r7 x9).bind fun y69 => (if (decide (y69 < 0)) then (some (.out (.inl ()))) else (if (decide (1000000 < y69)) then (some (.out (.inl ()))) else (some (.go (IntKind.i64.wrap (x9 + 1))))))) else (some (.out (.inr ()))))
def g_pn_Check_s2 (t_0 : A_Pn) (x84 : Int) : Option (Nx (Int) (Unit ⊕ Unit)) :=
 (if (decide (x84 < 6)) then (((if x84 == 0 then (if (IntKind.i64.wrap (x84 - 1)) == 0 then none else (if (IntKind.i64.wrap (x84 - 1)) == 1 then none else (if (IntKind.i64.wrap (x84 - 1)) == 2 then none else (if (IntKind.i64.wrap (x84 - 1)) == 3 then none else (if (IntKind.i64.wrap (x84 - 1)) == 4 then none else (if (IntKind.i64.wrap (x84 - 1)) == 5 then none else none)))))) else (if x84 == 1 then (if (IntKind.i64.wrap (x84 - 1)) == 0 then (if (decide (t_0.Sg.a0 < t_0.Sg.a1)) then (some (.out ())) else (some (.go ()))) else (if (IntKind.i64.wrap (x84 - 1)) == 1 then none else (if (IntKind.i64.wrap (x84 - 1)) == 2 then none else (if (IntKind.i64.wrap (x84 - 1)) == 3 then none else (if (IntKind.i64.wrap (x84 - 1)) == 4 then none else (if (IntKind.i64.wrap (x84 - 1)) == 5 then none else none)))))) else (if x84 == 2 then (if (IntKind.i64.wrap (x84 - 1)) == 0 then none else (if (IntKind.i64.wrap (x84 - 1)) == 1 then (if (decide (t_0.Sg.a1 < t_0.Sg.a2)) then (some (.out ())) else (some (.go ()))) else (if (IntKind.i64.wrap (x84 - 1)) == 2 then none else (if (IntKind.i64.wrap (x84 - 1)) == 3 then none else (if (IntKind.i64.wrap (x84 - 1)) == 4 then none else (if (IntKind.i64.wrap (x84 - 1)) == 5 then none else none)))))) else (if x84 == 3 then (if (IntKind.i64.wrap (x84 - 1)) == 0 then none else (if (IntKind.i64.wrap (x84 - 1)) == 1 then none else (if (IntKind.i64.wrap (x84 - 1)) == 2 then (if (decide (t_0.Sg.a2 < t_0.Sg.a3)) then (some (.out ())) else (some (.go ()))) else (if (IntKind.i64.wrap (x84 - 1)) == 3 then none else (if (IntKind.i64.wrap (x84 - 1)) == 4 then none else (if (IntKind.i64.wrap (x84 - 1)) == 5 then none else none)))))) else (if x84 == 4 then (if (IntKind.i64.wrap (x84 - 1)) == 0 then none else (if (IntKind.i64.wrap (x84 - 1)) == 1 then none else (if (IntKind.i64.wrap (x84 - 1)) == 2 then none else (if (IntKind.i64.wrap (x84 - 1)) == 3 then (if (decide (t_0.Sg.a3 < t_0.Sg.a4)) then (some (.out ())) else (some (.go ()))) else (if (IntKind.i64.wrap (x84 - 1)) == 4 then none else (if (IntKind.i64.wrap (x84 - 1)) == 5 then none else none)))))) else (if x84 == 5 then (if (IntKind.i64.wrap (x84 - 1)) == 0 then none else (if (IntKind.i64.wrap (x84 - 1)) == 1 then none else (if (IntKind.i64.wrap (x84 - 1)) == 2 then none else (if (IntKind.i64.wrap (x84 - 1)) == 3 then none else (if (IntKind.i64.wrap (x84 - 1)) == 4 then (if (decide (t_0.Sg.a4 < t_0.Sg.a5)) then (some (.out ())) else (some (.go ()))) else (if (IntKind.i64.wrap (x84 - 1)) == 5 then none else none)))))) else none)))))) : Option (Nx (Unit) (Unit))).bind fun w503 => match w503 with | .go v400 => (some (.go (IntKind.i64.wrap (x84 + 1)))) | .out e504 => (some (.out (.inl ())))) else (some (.out (.inr ()))))
def g_pn_Check (t_0 : A_Pn) : Option (Int) :=
 ((g_pn_numbers t_0).bind fun r7 => ((iter (g_pn_Check_s1 r7) 0).bind fun e10 => (match e10 with | Sum.inl e10 => (some 2) | Sum.inr (e10) => ((iter (g_pn_Check_s2 t_0) 1).bind fun e85 => (match e85 with | Sum.inl e85 => (some 8) | Sum.inr (e85) => (some 0))))))
theorem a_pn_Check {I : World → Prop} (hI : Stab I) {t_0 : A_Pn} {r : Int} (h : g_pn_Check t_0 = some r) : AFun Tryz.prog I 41 [A_Pn.d t_0] (.int .i64 r) := by
 have dd := dd_EA; have k := True.intro; have q := k; have rs := Tryz.results41
 unfold g_pn_Check at h
 refine .en hI Tryz.func41 Tryz.ntmps41 ?_
 refine xs <| rz ?_
 refine es <| xs <| xs <| rK fun K6 RK6 hK6 gK6 => zz ?_
 obtain ⟨r7, h8, h⟩ := bs h
 refine cw (a_pn_numbers hI h8) <| zz ?_
 subst hK6 gK6
 refine es <| xb ?_
 obtain ⟨e10, h81, h⟩ := bs h
 refine rb_loop (fun x9 => ⟨envL [(1, .iptr [.int .i64 t_0.Sg.a0, .int .i64 t_0.Sg.a1, .int .i64 t_0.Sg.a2, .int .i64 t_0.Sg.a3, .int .i64 t_0.Sg.a4, .int .i64 t_0.Sg.a5, .int .i64 t_0.Rgd, .int .i64 t_0.Row, .int .i64 t_0.Event, .int .i64 t_0.Fast, .int .i64 t_0.Gap, .int .i64 t_0.Shot]), (7, .sl (r7.map (D.int .i64))), (8, .int .i64 (r7.length : Int)), (9, .int .i64 x9)], heapL [], 0, 34⟩) (fun w => match w with | Sum.inl _ => .ret | Sum.inr (_) => .exit 0) (fun w => match w with | Sum.inl e10 => ⟨envL [(2, .int .i64 2)], heapL [], 0, 34⟩ | Sum.inr (e10) => ⟨envL [(1, .iptr [.int .i64 t_0.Sg.a0, .int .i64 t_0.Sg.a1, .int .i64 t_0.Sg.a2, .int .i64 t_0.Sg.a3, .int .i64 t_0.Sg.a4, .int .i64 t_0.Sg.a5, .int .i64 t_0.Rgd, .int .i64 t_0.Row, .int .i64 t_0.Event, .int .i64 t_0.Fast, .int .i64 t_0.Gap, .int .i64 t_0.Shot])], heapL [], 0, 34⟩) h81 (wk []) (by intro w; rcases w with w | w <;> simp) ?_ ?_
 ·clear h
  intro x9 y h
  unfold g_pn_Check_s1 at h
  refine xs <| rz ?_
  refine es <| xs ?_
  obtain ⟨k,h⟩|⟨k,h⟩:=iK k h
  ·refine xt <| xk <| es <| xs <| xb <| xs <| rK fun K68 RK68 hK68 gK68 => zz ?_
   obtain ⟨y69, q, h⟩ := bK q h
   refine zz ?_
   subst hK68 gK68
   refine es <| xs <| rK fun K73 RK73 hK73 gK73 => zz ?_
   obtain ⟨k,h⟩|⟨k,h⟩:=iK k h
   ·refine zz ?_
    subst hK73 gK73
    refine es <| xt <| xs <| rz ?_
    refine es <| xr <| br <| er ?_
    cases h
    exact en ⟨rfl, wk []⟩
   ·refine zz ?_
    subst hK73 gK73
    refine es ?_
    obtain ⟨k,h⟩|⟨k,h⟩:=iK k h
    ·refine xt <| xs <| rz ?_
     refine es <| xr <| br <| er ?_
     cases h
     exact en ⟨rfl, wk []⟩
    ·refine xf <| xk <| bn <| es <| rz ?_
     cases h
     exact en ⟨rfl, wk []⟩
  ·refine xf <| xx <| ee ?_
   cases h
   exact en ⟨rfl, wk []⟩
 ·rcases e10 with e10 | e10
  ·try dsimp only at h ⊢
   refine br <| er ?_
   cases h
   exact en fr
  ·try dsimp only at h ⊢
   refine bh <| es <| xs <| xs <| rz ?_
   refine es <| xb ?_
   obtain ⟨e85, h506, h⟩ := bs h
   refine rb_loop (fun x84 => ⟨envL [(1, .iptr [.int .i64 t_0.Sg.a0, .int .i64 t_0.Sg.a1, .int .i64 t_0.Sg.a2, .int .i64 t_0.Sg.a3, .int .i64 t_0.Sg.a4, .int .i64 t_0.Sg.a5, .int .i64 t_0.Rgd, .int .i64 t_0.Row, .int .i64 t_0.Event, .int .i64 t_0.Fast, .int .i64 t_0.Gap, .int .i64 t_0.Shot]), (5, .int .i64 x84)], heapL [], 0, 34⟩) (fun w => match w with | Sum.inl _ => .ret | Sum.inr (_) => .exit 2) (fun w => match w with | Sum.inl e85 => ⟨envL [(2, .int .i64 8)], heapL [], 0, 34⟩ | Sum.inr (e85) => ⟨envL [], heapL [], 0, 34⟩) h506 (wk []) (by intro w; rcases w with w | w <;> simp) ?_ ?_
   ·clear h
    intro x84 y h
    unfold g_pn_Check_s2 at h
    refine xs <| xs <| rz ?_
    refine es ?_
    obtain ⟨k,h⟩|⟨k,h⟩:=iK k h
    ·refine xt <| xk <| es ?_
     obtain ⟨w503, h502, h⟩ := bs h
     refine rb_seg (fun v400 => ⟨envL [(1, .iptr [.int .i64 t_0.Sg.a0, .int .i64 t_0.Sg.a1, .int .i64 t_0.Sg.a2, .int .i64 t_0.Sg.a3, .int .i64 t_0.Sg.a4, .int .i64 t_0.Sg.a5, .int .i64 t_0.Rgd, .int .i64 t_0.Row, .int .i64 t_0.Event, .int .i64 t_0.Fast, .int .i64 t_0.Gap, .int .i64 t_0.Shot]), (5, .int .i64 x84)], heapL [], 0, 34⟩) (fun _ => .ret) (fun e504 => ⟨envL [(2, .int .i64 8)], heapL [], 0, 34⟩) h502 (by intro w; simp) ?_ ?_ ?_
     ·clear h
      intro w503 h
      refine xb <| xs <| rD hI fun K444 RK444 hK444 gK444 => zz ?_
      rcases ite_or h with ⟨k445, h⟩ | ⟨_, h⟩
      ·have k := And.intro (eq_of_beq k445) k
       refine zz ?_
       rcases ite_or h with ⟨k446, h⟩ | ⟨_, h⟩
       ·have k := And.intro (eq_of_beq k446) k
        cases h
       ·rcases ite_or h with ⟨k447, h⟩ | ⟨_, h⟩
        ·have k := And.intro (eq_of_beq k447) k
         cases h
        ·rcases ite_or h with ⟨k448, h⟩ | ⟨_, h⟩
         ·have k := And.intro (eq_of_beq k448) k
          cases h
         ·rcases ite_or h with ⟨k449, h⟩ | ⟨_, h⟩
          ·have k := And.intro (eq_of_beq k449) k
           cases h
          ·rcases ite_or h with ⟨k450, h⟩ | ⟨_, h⟩
           ·have k := And.intro (eq_of_beq k450) k
            cases h
           ·rcases ite_or h with ⟨k451, h⟩ | ⟨_, h⟩
            ·have k := And.intro (eq_of_beq k451) k
             cases h
            ·cases h
      ·rcases ite_or h with ⟨k452, h⟩ | ⟨_, h⟩
       ·have k := And.intro (eq_of_beq k452) k
        refine zz ?_
        rcases ite_or h with ⟨k453, h⟩ | ⟨_, h⟩
        ·have k := And.intro (eq_of_beq k453) k
         have k := And.intro (show IntKind.i64.wrap 0 = 0 from by decide) k
         refine zz ?_
         subst hK444 gK444
         refine es ?_
         obtain ⟨k,h⟩|⟨k,h⟩:=iK k h
         ·refine xt <| xs <| rz ?_
          refine es <| xr <| br ?_
          cases h
          exact en ⟨rfl, wk []⟩
         ·refine xf <| xk <| bn ?_
          cases h
          exact en ⟨rfl, wk []⟩
        ·rcases ite_or h with ⟨k457, h⟩ | ⟨_, h⟩
         ·have k := And.intro (eq_of_beq k457) k
          cases h
         ·rcases ite_or h with ⟨k458, h⟩ | ⟨_, h⟩
          ·have k := And.intro (eq_of_beq k458) k
           cases h
          ·rcases ite_or h with ⟨k459, h⟩ | ⟨_, h⟩
           ·have k := And.intro (eq_of_beq k459) k
            cases h
           ·rcases ite_or h with ⟨k460, h⟩ | ⟨_, h⟩
            ·have k := And.intro (eq_of_beq k460) k
             cases h
            ·rcases ite_or h with ⟨k461, h⟩ | ⟨_, h⟩
             ·have k := And.intro (eq_of_beq k461) k
              cases h
             ·cases h
       ·rcases ite_or h with ⟨k462, h⟩ | ⟨_, h⟩
        ·have k := And.intro (eq_of_beq k462) k
         refine zz ?_
         rcases ite_or h with ⟨k463, h⟩ | ⟨_, h⟩
         ·have k := And.intro (eq_of_beq k463) k
          cases h
         ·rcases ite_or h with ⟨k464, h⟩ | ⟨_, h⟩
          ·have k := And.intro (eq_of_beq k464) k
           have k := And.intro (show IntKind.i64.wrap 1 = 1 from by decide) k
           refine zz ?_
           subst hK444 gK444
           refine es ?_
           obtain ⟨k,h⟩|⟨k,h⟩:=iK k h
           ·refine xt <| xs <| rz ?_
            refine es <| xr <| br ?_
            cases h
            exact en ⟨rfl, wk []⟩
           ·refine xf <| xk <| bn ?_
            cases h
            exact en ⟨rfl, wk []⟩
          ·rcases ite_or h with ⟨k468, h⟩ | ⟨_, h⟩
           ·have k := And.intro (eq_of_beq k468) k
            cases h
           ·rcases ite_or h with ⟨k469, h⟩ | ⟨_, h⟩
            ·have k := And.intro (eq_of_beq k469) k
             cases h
            ·rcases ite_or h with ⟨k470, h⟩ | ⟨_, h⟩
             ·have k := And.intro (eq_of_beq k470) k
              cases h
             ·rcases ite_or h with ⟨k471, h⟩ | ⟨_, h⟩
              ·have k := And.intro (eq_of_beq k471) k
               cases h
              ·cases h
        ·rcases ite_or h with ⟨k472, h⟩ | ⟨_, h⟩
         ·have k := And.intro (eq_of_beq k472) k
          refine zz ?_
          rcases ite_or h with ⟨k473, h⟩ | ⟨_, h⟩
          ·have k := And.intro (eq_of_beq k473) k
           cases h
          ·rcases ite_or h with ⟨k474, h⟩ | ⟨_, h⟩
           ·have k := And.intro (eq_of_beq k474) k
            cases h
           ·rcases ite_or h with ⟨k475, h⟩ | ⟨_, h⟩
            ·have k := And.intro (eq_of_beq k475) k
             have k := And.intro (show IntKind.i64.wrap 2 = 2 from by decide) k
             refine zz ?_
             subst hK444 gK444
             refine es ?_
             obtain ⟨k,h⟩|⟨k,h⟩:=iK k h
             ·refine xt <| xs <| rz ?_
              refine es <| xr <| br ?_
              cases h
              exact en ⟨rfl, wk []⟩
             ·refine xf <| xk <| bn ?_
              cases h
              exact en ⟨rfl, wk []⟩
            ·rcases ite_or h with ⟨k479, h⟩ | ⟨_, h⟩
             ·have k := And.intro (eq_of_beq k479) k
              cases h
             ·rcases ite_or h with ⟨k480, h⟩ | ⟨_, h⟩
              ·have k := And.intro (eq_of_beq k480) k
               cases h
              ·rcases ite_or h with ⟨k481, h⟩ | ⟨_, h⟩
               ·have k := And.intro (eq_of_beq k481) k
                cases h
               ·cases h
         ·rcases ite_or h with ⟨k482, h⟩ | ⟨_, h⟩
          ·have k := And.intro (eq_of_beq k482) k
           refine zz ?_
           rcases ite_or h with ⟨k483, h⟩ | ⟨_, h⟩
           ·have k := And.intro (eq_of_beq k483) k
            cases h
           ·rcases ite_or h with ⟨k484, h⟩ | ⟨_, h⟩
            ·have k := And.intro (eq_of_beq k484) k
             cases h
            ·rcases ite_or h with ⟨k485, h⟩ | ⟨_, h⟩
             ·have k := And.intro (eq_of_beq k485) k
              cases h
             ·rcases ite_or h with ⟨k486, h⟩ | ⟨_, h⟩
              ·have k := And.intro (eq_of_beq k486) k
               have k := And.intro (show IntKind.i64.wrap 3 = 3 from by decide) k
               refine zz ?_
               subst hK444 gK444
               refine es ?_
               obtain ⟨k,h⟩|⟨k,h⟩:=iK k h
               ·refine xt <| xs <| rz ?_
                refine es <| xr <| br ?_
                cases h
                exact en ⟨rfl, wk []⟩
               ·refine xf <| xk <| bn ?_
                cases h
                exact en ⟨rfl, wk []⟩
              ·rcases ite_or h with ⟨k490, h⟩ | ⟨_, h⟩
               ·have k := And.intro (eq_of_beq k490) k
                cases h
               ·rcases ite_or h with ⟨k491, h⟩ | ⟨_, h⟩
                ·have k := And.intro (eq_of_beq k491) k
                 cases h
                ·cases h
          ·rcases ite_or h with ⟨k492, h⟩ | ⟨_, h⟩
           ·have k := And.intro (eq_of_beq k492) k
            refine zz ?_
            rcases ite_or h with ⟨k493, h⟩ | ⟨_, h⟩
            ·have k := And.intro (eq_of_beq k493) k
             cases h
            ·rcases ite_or h with ⟨k494, h⟩ | ⟨_, h⟩
             ·have k := And.intro (eq_of_beq k494) k
              cases h
             ·rcases ite_or h with ⟨k495, h⟩ | ⟨_, h⟩
              ·have k := And.intro (eq_of_beq k495) k
               cases h
              ·rcases ite_or h with ⟨k496, h⟩ | ⟨_, h⟩
               ·have k := And.intro (eq_of_beq k496) k
                cases h
               ·rcases ite_or h with ⟨k497, h⟩ | ⟨_, h⟩
                ·have k := And.intro (eq_of_beq k497) k
                 have k := And.intro (show IntKind.i64.wrap 4 = 4 from by decide) k
                 refine zz ?_
                 subst hK444 gK444
                 refine es ?_
                 obtain ⟨k,h⟩|⟨k,h⟩:=iK k h
                 ·refine xt <| xs <| rz ?_
                  refine es <| xr <| br ?_
                  cases h
                  exact en ⟨rfl, wk []⟩
                 ·refine xf <| xk <| bn ?_
                  cases h
                  exact en ⟨rfl, wk []⟩
                ·rcases ite_or h with ⟨k501, h⟩ | ⟨_, h⟩
                 ·have k := And.intro (eq_of_beq k501) k
                  cases h
                 ·cases h
           ·cases h
     ·rintro v400 rfl
      dsimp only at h
      refine rz ?_
      cases h
      exact en ⟨rfl, wk []⟩
     ·rintro e504 rfl
      dsimp only at h
      cases h
      exact en ⟨rfl, wk []⟩
    ·refine xf <| xx <| ee ?_
     cases h
     exact en ⟨rfl, wk []⟩
   ·rcases e85 with e85 | e85
    ·try dsimp only at h ⊢
     refine br <| er ?_
     cases h
     exact en fr
    ·try dsimp only at h ⊢
     refine bh <| es <| xs <| rz ?_
     refine es <| xr ?_
     cases h
     exact en fr
def g_pn_up (a_0 : Int) (b_1 : Int) : Option (Int) :=
 (if ¬ b_1 = 0 then (some (IntKind.i64.wrap (Int.tdiv (IntKind.i64.wrap ((IntKind.i64.wrap (a_0 + b_1)) - 1)) b_1))) else none)
theorem a_pn_up {I : World → Prop} (hI : Stab I) {a_0 : Int} {b_1 : Int} {r : Int} (h : g_pn_up a_0 b_1 = some r) : AFun Tryz.prog I 166 [.int .i64 a_0, .int .i64 b_1] (.int .i64 r) := by
 have dd := dd_EA; have k := True.intro; have q := k; have rs := Tryz.results166
 unfold g_pn_up at h
 refine .en hI Tryz.func166 Tryz.ntmps166 ?_
 refine xs <| rz ?_
 refine es <| xs <| rK fun K4 RK4 hK4 gK4 => zz ?_
 obtain ⟨q, h⟩ := oK q h
 refine zz ?_
 subst hK4 gK4
 refine es <| xr ?_
 cases h
 exact en fr
def g_pn_Aim (total_0 : Int) (width_1 : Int) : Option (Int × Int) :=
 (((if (decide (total_0 < 1)) then (some true) else (if (decide (10000 < total_0)) then (some true) else (if (decide (width_1 < 1)) then (some true) else (some (decide (32 < width_1)))))) : Option (Bool)).bind fun v7 => (if v7 then (some (0, 2)) else ((g_pn_up total_0 width_1).bind fun r22 => ((g_pn_up total_0 r22).bind fun r24 => (some (r24, 0))))))
theorem a_pn_Aim {I : World → Prop} (hI : Stab I) {total_0 : Int} {width_1 : Int} {r : Int × Int} (h : g_pn_Aim total_0 width_1 = some r) : AFun Tryz.prog I 145 [.int .i64 total_0, .int .i64 width_1] (.tup [.int .i64 r.1, .int .i64 r.2]) := by
 have dd := dd_EA; have k := True.intro; have q := k; have rs := Tryz.results145
 unfold g_pn_Aim at h
 refine .en hI Tryz.func145 Tryz.ntmps145 ?_
 refine xs <| rz ?_
 refine es <| xs ?_
 obtain ⟨v7, h12, h⟩ := bs h
 refine rb_cut (fun v7 => ⟨envL [(0, .int .i64 total_0), (1, .int .i64 width_1), (19, .bool v7)], heapL [], 0, 25⟩) h12 ?_ ?_
 ·clear h
  intro v7 h
  refine rK fun K8 RK8 hK8 gK8 => zz ?_
  obtain ⟨k,h⟩|⟨k,h⟩:=iK k h
  ·refine zz ?_
   subst hK8 gK8
   cases h
   exact en ⟨rfl, wk []⟩
  ·refine zz ?_
   obtain ⟨k,h⟩|⟨k,h⟩:=iK k h
   ·refine zz ?_
    subst hK8 gK8
    cases h
    exact en ⟨rfl, wk []⟩
   ·refine zz ?_
    obtain ⟨k,h⟩|⟨k,h⟩:=iK k h
    ·refine zz ?_
     subst hK8 gK8
     cases h
     exact en ⟨rfl, wk []⟩
    ·refine zz ?_
     subst hK8 gK8
     cases h
     exact en ⟨rfl, wk []⟩
 ·obtain ⟨k,h⟩|⟨k,h⟩:=iK k h
  ·refine xt <| xs <| rz ?_
   refine es <| xr <| er ?_
   cases h
   exact en fr
  ·refine xf <| xk <| es <| xs <| rK fun K21 RK21 hK21 gK21 => zz ?_
   obtain ⟨r22, h23, h⟩ := bs h
   refine cw (a_pn_up hI h23) <| zz ?_
   obtain ⟨r24, h25, h⟩ := bs h
   refine cw (a_pn_up hI h25) <| zz ?_
   subst hK21 gK21
   refine es <| xr ?_
   cases h
   exact en fr
def g_pn_within (n_0 : Int) (lo_1 : Int) (hi_2 : Int) : Option (Bool) :=
 (if (decide (lo_1 ≤ n_0)) then (some (decide (n_0 ≤ hi_2))) else (some false))
theorem a_pn_within {I : World → Prop} (hI : Stab I) {n_0 : Int} {lo_1 : Int} {hi_2 : Int} {r : Bool} (h : g_pn_within n_0 lo_1 hi_2 = some r) : AFun Tryz.prog I 116 [.int .i64 n_0, .int .i64 lo_1, .int .i64 hi_2] (.bool r) := by
 have dd := dd_EA; have k := True.intro; have q := k; have rs := Tryz.results116
 unfold g_pn_within at h
 refine .en hI Tryz.func116 Tryz.ntmps116 ?_
 refine xs <| rz ?_
 refine es <| xs <| rK fun K5 RK5 hK5 gK5 => zz ?_
 obtain ⟨k,h⟩|⟨k,h⟩:=iK k h
 ·refine zz ?_
  subst hK5 gK5
  refine es <| xr ?_
  cases h
  exact en fr
 ·refine zz ?_
  subst hK5 gK5
  refine es <| xr ?_
  cases h
  exact en fr
def g_pn_Row (t_0 : A_Pn) (aim_1 : Int) (length_2 : Int) (strength_3 : Int) : Option (Int × Int) :=
 ((g_pn_Check t_0).bind fun r7 => (if (r7 != 0) then (some (0, r7)) else ((((g_pn_within aim_1 1 32).bind fun r25 => (if r25 then ((g_pn_within length_2 1 32).bind fun r28 => (if r28 then ((g_pn_within strength_3 (-1) 5).bind fun r31 => (some (!r31))) else (some true))) else (some true))) : Option (Bool)).bind fun v23 => (if v23 then (some (0, 2)) else (if (decide (0 ≤ strength_3)) then (if strength_3 == 0 then (some ((IntKind.i64.wrap ((IntKind.i64.wrap (t_0.Row + (IntKind.i64.wrap (t_0.Rgd * (if (IntKind.i64.wrap (length_2 - aim_1)) > (IntKind.i64.wrap (aim_1 - length_2)) then (IntKind.i64.wrap (length_2 - aim_1)) else (IntKind.i64.wrap (aim_1 - length_2))))))) + t_0.Sg.a0)), 0)) else (if strength_3 == 1 then (some ((IntKind.i64.wrap ((IntKind.i64.wrap (t_0.Row + (IntKind.i64.wrap (t_0.Rgd * (if (IntKind.i64.wrap (length_2 - aim_1)) > (IntKind.i64.wrap (aim_1 - length_2)) then (IntKind.i64.wrap (length_2 - aim_1)) else (IntKind.i64.wrap (aim_1 - length_2))))))) + t_0.Sg.a1)), 0)) else (if strength_3 == 2 then (some ((IntKind.i64.wrap ((IntKind.i64.wrap (t_0.Row + (IntKind.i64.wrap (t_0.Rgd * (if (IntKind.i64.wrap (length_2 - aim_1)) > (IntKind.i64.wrap (aim_1 - length_2)) then (IntKind.i64.wrap (length_2 - aim_1)) else (IntKind.i64.wrap (aim_1 - length_2))))))) + t_0.Sg.a2)), 0)) else (if strength_3 == 3 then (some ((IntKind.i64.wrap ((IntKind.i64.wrap (t_0.Row + (IntKind.i64.wrap (t_0.Rgd * (if (IntKind.i64.wrap (length_2 - aim_1)) > (IntKind.i64.wrap (aim_1 - length_2)) then (IntKind.i64.wrap (length_2 - aim_1)) else (IntKind.i64.wrap (aim_1 - length_2))))))) + t_0.Sg.a3)), 0)) else (if strength_3 == 4 then (some ((IntKind.i64.wrap ((IntKind.i64.wrap (t_0.Row + (IntKind.i64.wrap (t_0.Rgd * (if (IntKind.i64.wrap (length_2 - aim_1)) > (IntKind.i64.wrap (aim_1 - length_2)) then (IntKind.i64.wrap (length_2 - aim_1)) else (IntKind.i64.wrap (aim_1 - length_2))))))) + t_0.Sg.a4)), 0)) else (if strength_3 == 5 then (some ((IntKind.i64.wrap ((IntKind.i64.wrap (t_0.Row + (IntKind.i64.wrap (t_0.Rgd * (if (IntKind.i64.wrap (length_2 - aim_1)) > (IntKind.i64.wrap (aim_1 - length_2)) then (IntKind.i64.wrap (length_2 - aim_1)) else (IntKind.i64.wrap (aim_1 - length_2))))))) + t_0.Sg.a5)), 0)) else none)))))) else (some ((IntKind.i64.wrap (t_0.Row + (IntKind.i64.wrap (t_0.Rgd * (if (IntKind.i64.wrap (length_2 - aim_1)) > (IntKind.i64.wrap (aim_1 - length_2)) then (IntKind.i64.wrap (length_2 - aim_1)) else (IntKind.i64.wrap (aim_1 - length_2))))))), 0)))))))
theorem a_pn_Row {I : World → Prop} (hI : Stab I) {t_0 : A_Pn} {aim_1 : Int} {length_2 : Int} {strength_3 : Int} {r : Int × Int} (h : g_pn_Row t_0 aim_1 length_2 strength_3 = some r) : AFun Tryz.prog I 148 [A_Pn.d t_0, .int .i64 aim_1, .int .i64 length_2, .int .i64 strength_3] (.tup [.int .i64 r.1, .int .i64 r.2]) := by
 have dd := dd_EA; have k := True.intro; have q := k; have rs := Tryz.results148
 unfold g_pn_Row at h
 refine .en hI Tryz.func148 Tryz.ntmps148 ?_
 refine xs <| rz ?_
 refine es <| xs <| xs <| rK fun K6 RK6 hK6 gK6 => zz ?_
 obtain ⟨r7, h8, h⟩ := bs h
 refine cw (a_pn_Check hI h8) <| zz ?_
 subst hK6 gK6
 refine es <| xs <| rz ?_
 refine es ?_
 obtain ⟨k,h⟩|⟨k,h⟩:=iK k h
 ·refine xt <| xs <| rz ?_
  refine es <| xr <| er ?_
  cases h
  exact en fr
 ·refine xf <| xk <| es <| xs ?_
  obtain ⟨v23, h33, h⟩ := bs h
  refine rb_cut (fun v23 => ⟨envL [(1, .int .i64 aim_1), (2, .int .i64 length_2), (3, .int .i64 strength_3), (4, .iptr [.int .i64 t_0.Sg.a0, .int .i64 t_0.Sg.a1, .int .i64 t_0.Sg.a2, .int .i64 t_0.Sg.a3, .int .i64 t_0.Sg.a4, .int .i64 t_0.Sg.a5, .int .i64 t_0.Rgd, .int .i64 t_0.Row, .int .i64 t_0.Event, .int .i64 t_0.Fast, .int .i64 t_0.Gap, .int .i64 t_0.Shot]), (29, .bool v23)], heapL [], 0, 52⟩) h33 ?_ ?_
  ·clear h
   intro v23 h
   refine rK fun K24 RK24 hK24 gK24 => zz ?_
   obtain ⟨r25, h26, h⟩ := bs h
   refine cw (a_pn_within hI h26) <| zz ?_
   obtain ⟨k,h⟩|⟨k,h⟩:=iK k h
   ·refine zz ?_
    obtain ⟨r28, h29, h⟩ := bs h
    refine cw (a_pn_within hI h29) <| zz ?_
    obtain ⟨k,h⟩|⟨k,h⟩:=iK k h
    ·refine zz ?_
     obtain ⟨r31, h32, h⟩ := bs h
     refine cw (a_pn_within hI h32) <| zz ?_
     subst hK24 gK24
     cases h
     exact en ⟨rfl, wk []⟩
    ·refine zz ?_
     subst hK24 gK24
     cases h
     exact en ⟨rfl, wk []⟩
   ·refine zz ?_
    subst hK24 gK24
    cases h
    exact en ⟨rfl, wk []⟩
  ·obtain ⟨k,h⟩|⟨k,h⟩:=iK k h
   ·refine xt <| xs <| rz ?_
    refine es <| xr <| er ?_
    cases h
    exact en fr
   ·refine xf <| xk <| es <| xs <| rz ?_
    refine es <| xs <| xs <| rz ?_
    refine es ?_
    obtain ⟨k,h⟩|⟨k,h⟩:=iK k h
    ·refine xt <| rK fun K42 RK42 hK42 gK42 => zz ?_
     rcases ite_or h with ⟨k43, h⟩ | ⟨_, h⟩
     ·have k := And.intro (eq_of_beq k43) k
      refine zz ?_
      subst hK42 gK42
      refine es <| xs <| rz ?_
      refine es <| xr ?_
      cases h
      exact en fr
     ·rcases ite_or h with ⟨k46, h⟩ | ⟨_, h⟩
      ·have k := And.intro (eq_of_beq k46) k
       refine zz ?_
       subst hK42 gK42
       refine es <| xs <| rz ?_
       refine es <| xr ?_
       cases h
       exact en fr
      ·rcases ite_or h with ⟨k49, h⟩ | ⟨_, h⟩
       ·have k := And.intro (eq_of_beq k49) k
        refine zz ?_
        subst hK42 gK42
        refine es <| xs <| rz ?_
        refine es <| xr ?_
        cases h
        exact en fr
       ·rcases ite_or h with ⟨k52, h⟩ | ⟨_, h⟩
        ·have k := And.intro (eq_of_beq k52) k
         refine zz ?_
         subst hK42 gK42
         refine es <| xs <| rz ?_
         refine es <| xr ?_
         cases h
         exact en fr
        ·rcases ite_or h with ⟨k55, h⟩ | ⟨_, h⟩
         ·have k := And.intro (eq_of_beq k55) k
          refine zz ?_
          subst hK42 gK42
          refine es <| xs <| rz ?_
          refine es <| xr ?_
          cases h
          exact en fr
         ·rcases ite_or h with ⟨k58, h⟩ | ⟨_, h⟩
          ·have k := And.intro (eq_of_beq k58) k
           refine zz ?_
           subst hK42 gK42
           refine es <| xs <| rz ?_
           refine es <| xr ?_
           cases h
           exact en fr
          ·cases h
    ·refine xf <| xk <| es <| xs <| rz ?_
     refine es <| xr ?_
     cases h
     exact en fr
def g_pn_Event (t_0 : A_Pn) (l_1 : A_Load) : Option (Int × Int) :=
 ((g_pn_Check t_0).bind fun r7 => (if (r7 != 0) then (some (0, r7)) else ((((g_pn_within l_1.Fast 0 5184000).bind fun r28 => (if r28 then ((g_pn_within l_1.Gap 0 5184000).bind fun r31 => (if r31 then ((g_pn_within l_1.Shots 0 400).bind fun r34 => (if r34 then ((g_pn_within l_1.Sg 0 5).bind fun r37 => (some (!r37))) else (some true))) else (some true))) else (some true))) : Option (Bool)).bind fun v26 => (if v26 then (some (0, 2)) else (if l_1.Last then (some ((IntKind.i64.wrap ((IntKind.i64.wrap ((IntKind.i64.wrap (t_0.Event + (IntKind.i64.wrap (t_0.Fast * l_1.Fast)))) + (IntKind.i64.wrap (t_0.Gap * l_1.Gap)))) + (IntKind.i64.wrap (t_0.Shot * l_1.Shots)))), 0)) else (if l_1.Sg == 0 then (some ((IntKind.i64.wrap ((IntKind.i64.wrap ((IntKind.i64.wrap ((IntKind.i64.wrap (t_0.Event + (IntKind.i64.wrap (t_0.Fast * l_1.Fast)))) + (IntKind.i64.wrap (t_0.Gap * l_1.Gap)))) + (IntKind.i64.wrap (t_0.Shot * l_1.Shots)))) + t_0.Sg.a0)), 0)) else (if l_1.Sg == 1 then (some ((IntKind.i64.wrap ((IntKind.i64.wrap ((IntKind.i64.wrap ((IntKind.i64.wrap (t_0.Event + (IntKind.i64.wrap (t_0.Fast * l_1.Fast)))) + (IntKind.i64.wrap (t_0.Gap * l_1.Gap)))) + (IntKind.i64.wrap (t_0.Shot * l_1.Shots)))) + t_0.Sg.a1)), 0)) else (if l_1.Sg == 2 then (some ((IntKind.i64.wrap ((IntKind.i64.wrap ((IntKind.i64.wrap ((IntKind.i64.wrap (t_0.Event + (IntKind.i64.wrap (t_0.Fast * l_1.Fast)))) + (IntKind.i64.wrap (t_0.Gap * l_1.Gap)))) + (IntKind.i64.wrap (t_0.Shot * l_1.Shots)))) + t_0.Sg.a2)), 0)) else (if l_1.Sg == 3 then (some ((IntKind.i64.wrap ((IntKind.i64.wrap ((IntKind.i64.wrap ((IntKind.i64.wrap (t_0.Event + (IntKind.i64.wrap (t_0.Fast * l_1.Fast)))) + (IntKind.i64.wrap (t_0.Gap * l_1.Gap)))) + (IntKind.i64.wrap (t_0.Shot * l_1.Shots)))) + t_0.Sg.a3)), 0)) else (if l_1.Sg == 4 then (some ((IntKind.i64.wrap ((IntKind.i64.wrap ((IntKind.i64.wrap ((IntKind.i64.wrap (t_0.Event + (IntKind.i64.wrap (t_0.Fast * l_1.Fast)))) + (IntKind.i64.wrap (t_0.Gap * l_1.Gap)))) + (IntKind.i64.wrap (t_0.Shot * l_1.Shots)))) + t_0.Sg.a4)), 0)) else (if l_1.Sg == 5 then (some ((IntKind.i64.wrap ((IntKind.i64.wrap ((IntKind.i64.wrap ((IntKind.i64.wrap (t_0.Event + (IntKind.i64.wrap (t_0.Fast * l_1.Fast)))) + (IntKind.i64.wrap (t_0.Gap * l_1.Gap)))) + (IntKind.i64.wrap (t_0.Shot * l_1.Shots)))) + t_0.Sg.a5)), 0)) else none)))))))))))
theorem a_pn_Event {I : World → Prop} (hI : Stab I) {t_0 : A_Pn} {l_1 : A_Load} {r : Int × Int} (h : g_pn_Event t_0 l_1 = some r) : AFun Tryz.prog I 67 [A_Pn.d t_0, A_Load.d l_1] (.tup [.int .i64 r.1, .int .i64 r.2]) := by
 have dd := dd_EA; have k := True.intro; have q := k; have rs := Tryz.results67
 unfold g_pn_Event at h
 refine .en hI Tryz.func67 Tryz.ntmps67 ?_
 refine xs <| rz ?_
 refine es <| xs <| xs <| rK fun K6 RK6 hK6 gK6 => zz ?_
 obtain ⟨r7, h8, h⟩ := bs h
 refine cw (a_pn_Check hI h8) <| zz ?_
 subst hK6 gK6
 refine es <| xs <| rz ?_
 refine es ?_
 obtain ⟨k,h⟩|⟨k,h⟩:=iK k h
 ·refine xt <| xs <| rz ?_
  refine es <| xr <| er ?_
  cases h
  exact en fr
 ·refine xf <| xk <| es <| xs ?_
  obtain ⟨v26, h39, h⟩ := bs h
  refine rb_cut (fun v26 => ⟨envL [(2, .iptr [.int .i64 t_0.Sg.a0, .int .i64 t_0.Sg.a1, .int .i64 t_0.Sg.a2, .int .i64 t_0.Sg.a3, .int .i64 t_0.Sg.a4, .int .i64 t_0.Sg.a5, .int .i64 t_0.Rgd, .int .i64 t_0.Row, .int .i64 t_0.Event, .int .i64 t_0.Fast, .int .i64 t_0.Gap, .int .i64 t_0.Shot]), (3, .ptr 0 0), (34, .bool v26)], heapL [(0, .box none [.int .i64 l_1.Fast, .int .i64 l_1.Gap, .int .i64 l_1.Shots, .int .i64 l_1.Sg, .bool l_1.Last])], 1, 66⟩) h39 ?_ ?_
  ·clear h
   intro v26 h
   refine rK fun K27 RK27 hK27 gK27 => zz ?_
   obtain ⟨r28, h29, h⟩ := bs h
   refine cw (a_pn_within hI h29) <| zz ?_
   obtain ⟨k,h⟩|⟨k,h⟩:=iK k h
   ·refine zz ?_
    obtain ⟨r31, h32, h⟩ := bs h
    refine cw (a_pn_within hI h32) <| zz ?_
    obtain ⟨k,h⟩|⟨k,h⟩:=iK k h
    ·refine zz ?_
     obtain ⟨r34, h35, h⟩ := bs h
     refine cw (a_pn_within hI h35) <| zz ?_
     obtain ⟨k,h⟩|⟨k,h⟩:=iK k h
     ·refine zz ?_
      obtain ⟨r37, h38, h⟩ := bs h
      refine cw (a_pn_within hI h38) <| zz ?_
      subst hK27 gK27
      cases h
      exact en ⟨rfl, wk [(0, some 1)]⟩
     ·refine zz ?_
      subst hK27 gK27
      cases h
      exact en ⟨rfl, wk [(0, some 1)]⟩
    ·refine zz ?_
     subst hK27 gK27
     cases h
     exact en ⟨rfl, wk [(0, some 1)]⟩
   ·refine zz ?_
    subst hK27 gK27
    cases h
    exact en ⟨rfl, wk [(0, some 1)]⟩
  ·obtain ⟨k,h⟩|⟨k,h⟩:=iK k h
   ·refine xt <| xs <| rz ?_
    refine es <| xr <| er ?_
    cases h
    exact en fr
   ·refine xf <| xk <| es <| xs <| rz ?_
    refine es <| xs <| xs <| rz ?_
    refine es ?_
    obtain ⟨k,h⟩|⟨k,h⟩:=iK k h
    ·refine xf <| xk <| es <| xs <| rz ?_
     refine es <| xr ?_
     cases h
     exact en fr
    ·refine xt <| rK fun K50 RK50 hK50 gK50 => zz ?_
     rcases ite_or h with ⟨k51, h⟩ | ⟨_, h⟩
     ·have k := And.intro (eq_of_beq k51) k
      refine zz ?_
      subst hK50 gK50
      refine es <| xs <| rz ?_
      refine es <| xr ?_
      cases h
      exact en fr
     ·rcases ite_or h with ⟨k54, h⟩ | ⟨_, h⟩
      ·have k := And.intro (eq_of_beq k54) k
       refine zz ?_
       subst hK50 gK50
       refine es <| xs <| rz ?_
       refine es <| xr ?_
       cases h
       exact en fr
      ·rcases ite_or h with ⟨k57, h⟩ | ⟨_, h⟩
       ·have k := And.intro (eq_of_beq k57) k
        refine zz ?_
        subst hK50 gK50
        refine es <| xs <| rz ?_
        refine es <| xr ?_
        cases h
        exact en fr
       ·rcases ite_or h with ⟨k60, h⟩ | ⟨_, h⟩
        ·have k := And.intro (eq_of_beq k60) k
         refine zz ?_
         subst hK50 gK50
         refine es <| xs <| rz ?_
         refine es <| xr ?_
         cases h
         exact en fr
        ·rcases ite_or h with ⟨k63, h⟩ | ⟨_, h⟩
         ·have k := And.intro (eq_of_beq k63) k
          refine zz ?_
          subst hK50 gK50
          refine es <| xs <| rz ?_
          refine es <| xr ?_
          cases h
          exact en fr
         ·rcases ite_or h with ⟨k66, h⟩ | ⟨_, h⟩
          ·have k := And.intro (eq_of_beq k66) k
           refine zz ?_
           subst hK50 gK50
           refine es <| xs <| rz ?_
           refine es <| xr ?_
           cases h
           exact en fr
          ·cases h
structure A_Token where
 Text : List UInt8
 Sg : Int
 deriving DecidableEq
def A_Token.d (x : A_Token) : D := .agg [.str x.Text, .int .i64 x.Sg]
structure A_Word where
 Text : List UInt8
 Span : A_Span
 deriving DecidableEq
def A_Word.d (x : A_Word) : D := .agg [.str x.Text, .int .i64 x.Span.In, .int .i64 x.Span.Out]
structure A_Sh where
 Rate : Int
 Words : List A_Word
 Shots : List Int
 Table : A_Pn
 House : A_Pf
 deriving DecidableEq
def A_Sh.d (x : A_Sh) : D := .agg [.int .u8 x.Rate, .sl (x.Words.map A_Word.d), .sl (x.Shots.map (D.int .i64)), .int .i64 x.Table.Sg.a0, .int .i64 x.Table.Sg.a1, .int .i64 x.Table.Sg.a2, .int .i64 x.Table.Sg.a3, .int .i64 x.Table.Sg.a4, .int .i64 x.Table.Sg.a5, .int .i64 x.Table.Rgd, .int .i64 x.Table.Row, .int .i64 x.Table.Event, .int .i64 x.Table.Fast, .int .i64 x.Table.Gap, .int .i64 x.Table.Shot, .str x.House.Name, .int .i64 x.House.Reading, .int .i64 x.House.MnF, .int .i64 x.House.MxF, .int .i64 x.House.MnG, .int .i64 x.House.ShB, .int .i64 x.House.ShA, .int .i64 x.House.Rows, .int .i64 x.House.Cols, .str x.House.Fbd, .int .i64 x.House.SfT, .int .i64 x.House.SfB, .int .i64 x.House.SfL, .int .i64 x.House.SfR]
structure A_Pg where
 Tokens : List A_Token
 Width : Int
 Rows : Int
 Table : A_Pn
 deriving DecidableEq
def A_Pg.d (x : A_Pg) : D := .agg [.sl (x.Tokens.map A_Token.d), .int .i64 x.Width, .int .i64 x.Rows, .int .i64 x.Table.Sg.a0, .int .i64 x.Table.Sg.a1, .int .i64 x.Table.Sg.a2, .int .i64 x.Table.Sg.a3, .int .i64 x.Table.Sg.a4, .int .i64 x.Table.Sg.a5, .int .i64 x.Table.Rgd, .int .i64 x.Table.Row, .int .i64 x.Table.Event, .int .i64 x.Table.Fast, .int .i64 x.Table.Gap, .int .i64 x.Table.Shot]
theorem dd_EB : (∀ x, A_Token.d x = .agg [.str x.Text, .int .i64 x.Sg]) ∧ (∀ x, A_Word.d x = .agg [.str x.Text, .int .i64 x.Span.In, .int .i64 x.Span.Out]) ∧ (∀ x, A_Sh.d x = .agg [.int .u8 x.Rate, .sl (x.Words.map A_Word.d), .sl (x.Shots.map (D.int .i64)), .int .i64 x.Table.Sg.a0, .int .i64 x.Table.Sg.a1, .int .i64 x.Table.Sg.a2, .int .i64 x.Table.Sg.a3, .int .i64 x.Table.Sg.a4, .int .i64 x.Table.Sg.a5, .int .i64 x.Table.Rgd, .int .i64 x.Table.Row, .int .i64 x.Table.Event, .int .i64 x.Table.Fast, .int .i64 x.Table.Gap, .int .i64 x.Table.Shot, .str x.House.Name, .int .i64 x.House.Reading, .int .i64 x.House.MnF, .int .i64 x.House.MxF, .int .i64 x.House.MnG, .int .i64 x.House.ShB, .int .i64 x.House.ShA, .int .i64 x.House.Rows, .int .i64 x.House.Cols, .str x.House.Fbd, .int .i64 x.House.SfT, .int .i64 x.House.SfB, .int .i64 x.House.SfL, .int .i64 x.House.SfR]) ∧ (∀ x, A_Pg.d x = .agg [.sl (x.Tokens.map A_Token.d), .int .i64 x.Width, .int .i64 x.Rows, .int .i64 x.Table.Sg.a0, .int .i64 x.Table.Sg.a1, .int .i64 x.Table.Sg.a2, .int .i64 x.Table.Sg.a3, .int .i64 x.Table.Sg.a4, .int .i64 x.Table.Sg.a5, .int .i64 x.Table.Rgd, .int .i64 x.Table.Row, .int .i64 x.Table.Event, .int .i64 x.Table.Fast, .int .i64 x.Table.Gap, .int .i64 x.Table.Shot]) := ⟨fun _ => rfl, fun _ => rfl, fun _ => rfl, fun _ => rfl⟩
def g_token_among_s1 (s_0 : List UInt8) (r7 : (List (List UInt8))) (x9 : Int) : Option (Nx (Int) (Unit ⊕ Unit)) :=
 (if (decide (x9 < (r7.length : Int))) then ((atI r7 x9).bind fun y57 => (if (y57 == s_0) then (some (.out (.inl ()))) else (some (.go (IntKind.i64.wrap (x9 + 1)))))) else (some (.out (.inr ()))))
def g_token_among (s_0 : List UInt8) (list_1 : List UInt8) : Option (Bool) :=
 ((g_strings_Split list_1 [32]).bind fun r7 => ((iter (g_token_among_s1 s_0 r7) 0).bind fun e10 => (match e10 with | Sum.inl e10 => (some true) | Sum.inr (e10) => (some false))))
theorem a_token_among {I : World → Prop} (hI : Stab I) (hShp : ∀ w, I w → Shp w) {s_0 : List UInt8} {list_1 : List UInt8} {r : Bool} (h : g_token_among s_0 list_1 = some r) : AFun Tryz.prog I 120 [.str s_0, .str list_1] (.bool r) := by
 have dd := And.intro dd_EB dd_EA; have k := True.intro; have q := k; have rs := Tryz.results120
 unfold g_token_among at h
 refine .en hI Tryz.func120 Tryz.ntmps120 ?_
 refine xs <| rz ?_
 refine es <| xs <| xs <| rK fun K6 RK6 hK6 gK6 => zz ?_
 obtain ⟨r7, h8, h⟩ := bs h
 refine cw (a_strings_Split I hI hShp list_1 [32] h8) <| zz ?_
 subst hK6 gK6
 refine es <| xb ?_
 obtain ⟨e10, h65, h⟩ := bs h
 refine rb_loop (fun x9 => ⟨envL [(0, .str s_0), (8, .sl (r7.map D.str)), (9, .int .i64 (r7.length : Int)), (10, .int .i64 x9)], heapL [], 0, 18⟩) (fun w => match w with | Sum.inl _ => .ret | Sum.inr (_) => .exit 0) (fun w => match w with | Sum.inl e10 => ⟨envL [(4, .bool true)], heapL [], 0, 18⟩ | Sum.inr (e10) => ⟨envL [], heapL [], 0, 18⟩) h65 (wk []) (by intro w; rcases w with w | w <;> simp) ?_ ?_
 ·clear h
  intro x9 y h
  unfold g_token_among_s1 at h
  refine xs <| rz ?_
  refine es <| xs ?_
  obtain ⟨k,h⟩|⟨k,h⟩:=iK k h
  ·refine xt <| xk <| es <| xs <| xb <| xs <| rK fun K56 RK56 hK56 gK56 => zz ?_
   obtain ⟨y57, q, h⟩ := bK q h
   refine zz ?_
   subst hK56 gK56
   refine es <| xs <| rz ?_
   refine es ?_
   obtain ⟨k,h⟩|⟨k,h⟩:=iK k h
   ·refine xt <| xs <| rz ?_
    refine es <| xr <| br <| er ?_
    cases h
    exact en ⟨rfl, wk []⟩
   ·refine xf <| xk <| bn <| es <| rz ?_
    cases h
    exact en ⟨rfl, wk []⟩
  ·refine xf <| xx <| ee ?_
   cases h
   exact en ⟨rfl, wk []⟩
 ·rcases e10 with e10 | e10
  ·try dsimp only at h ⊢
   refine br <| er ?_
   cases h
   exact en fr
  ·try dsimp only at h ⊢
   refine bh <| es <| xs <| rz ?_
   refine es <| xr ?_
   cases h
   exact en fr
def g_token_Sg (word_0 : List UInt8) (next_1 : List UInt8) : Option (Int) :=
 ((g_strings_TrimRight word_0 [34, 39, 41, 93]).bind fun r7 => (if (r7 == ([] : List UInt8)) then (if (word_0 == ([45] : List UInt8)) then (some 4) else ((g_token_small word_0).bind fun r64 => ((g_token_among r64 [97, 32, 97, 110, 32, 116, 104, 101, 32, 111, 102, 32, 116, 111, 32, 105, 110, 32, 111, 110, 32, 97, 116, 32, 98, 121, 32, 102, 111, 114, 32, 102, 114, 111, 109, 32, 119, 105, 116, 104, 32, 109, 121, 32, 121, 111, 117, 114, 32, 104, 105, 115, 32, 104, 101, 114, 32, 105, 116, 115, 32, 111, 117, 114, 32, 116, 104, 101, 105, 114, 32, 110, 111]).bind fun r66 => (if r66 then (some 0) else ((g_token_small next_1).bind fun r77 => ((g_token_among r77 [97, 110, 100, 32, 98, 117, 116, 32, 111, 114, 32, 98, 101, 99, 97, 117, 115, 101, 32, 116, 104, 97, 116, 32, 119, 104, 105, 99, 104, 32, 119, 104, 111, 32, 119, 104, 101, 110, 32, 105, 102, 32, 119, 104, 105, 108, 101, 32, 115, 111, 32, 97, 115]).bind fun r79 => (if r79 then (some 2) else (some 1)))))))) else ((atI r7 (IntKind.i64.wrap ((r7.length : Int) - 1))).bind fun b87 => (((if ((b87.toNat : Int) == 46) then (some true) else (if ((b87.toNat : Int) == 33) then (some true) else (some ((b87.toNat : Int) == 63)))) : Option (Bool)).bind fun v145 => (if v145 then (some 5) else (((if ((b87.toNat : Int) == 58) then (some true) else (if ((b87.toNat : Int) == 59) then (some true) else (some (word_0 == ([45] : List UInt8))))) : Option (Bool)).bind fun v156 => (if v156 then (some 4) else (if ((b87.toNat : Int) == 44) then (some 3) else ((g_token_small word_0).bind fun r175 => ((g_token_among r175 [97, 32, 97, 110, 32, 116, 104, 101, 32, 111, 102, 32, 116, 111, 32, 105, 110, 32, 111, 110, 32, 97, 116, 32, 98, 121, 32, 102, 111, 114, 32, 102, 114, 111, 109, 32, 119, 105, 116, 104, 32, 109, 121, 32, 121, 111, 117, 114, 32, 104, 105, 115, 32, 104, 101, 114, 32, 105, 116, 115, 32, 111, 117, 114, 32, 116, 104, 101, 105, 114, 32, 110, 111]).bind fun r177 => (if r177 then (some 0) else ((g_token_small next_1).bind fun r188 => ((g_token_among r188 [97, 110, 100, 32, 98, 117, 116, 32, 111, 114, 32, 98, 101, 99, 97, 117, 115, 101, 32, 116, 104, 97, 116, 32, 119, 104, 105, 99, 104, 32, 119, 104, 111, 32, 119, 104, 101, 110, 32, 105, 102, 32, 119, 104, 105, 108, 101, 32, 115, 111, 32, 97, 115]).bind fun r190 => (if r190 then (some 2) else (some 1)))))))))))))))
theorem a_token_Sg {I : World → Prop} (hI : Stab I) (hShp : ∀ w, I w → Shp w) {word_0 : List UInt8} {next_1 : List UInt8} {r : Int} (h : g_token_Sg word_0 next_1 = some r) : AFun Tryz.prog I 69 [.str word_0, .str next_1] (.int .i64 r) := by
 have dd := And.intro dd_EB dd_EA; have k := True.intro; have q := k; have rs := Tryz.results69
 unfold g_token_Sg at h
 refine .en hI Tryz.func69 Tryz.ntmps69 ?_
 refine xs <| rz ?_
 refine es <| xs <| rK fun K6 RK6 hK6 gK6 => zz ?_
 obtain ⟨r7, h8, h⟩ := bs h
 refine cw (a_strings_TrimRight I hI word_0 [34, 39, 41, 93] h8) <| zz ?_
 subst hK6 gK6
 refine es <| xs <| rz ?_
 refine es <| xs <| xs <| rz ?_
 refine es ?_
 obtain ⟨k,h⟩|⟨k,h⟩:=iK k h
 ·refine xf <| xk <| es <| xs <| xb <| xs <| rz ?_
  refine es <| xf <| xs <| rz ?_
  refine es ?_
  obtain ⟨k,h⟩|⟨k,h⟩:=iK k h
  ·refine xt <| xs <| rz ?_
   refine es <| xr <| br <| er ?_
   cases h
   exact en fr
  ·refine xf <| xs <| rz ?_
   refine es <| xf <| xs <| rK fun K63 RK63 hK63 gK63 => zz ?_
   obtain ⟨r64, h65, h⟩ := bs h
   refine cw (a_token_small I hI word_0 h65) <| zz ?_
   obtain ⟨r66, h67, h⟩ := bs h
   refine cw (a_token_among hI hShp h67) <| zz ?_
   subst hK63 gK63
   refine es ?_
   obtain ⟨k,h⟩|⟨k,h⟩:=iK k h
   ·refine xt <| xs <| rz ?_
    refine es <| xr <| br <| er ?_
    cases h
    exact en fr
   ·refine xf <| xs <| rK fun K76 RK76 hK76 gK76 => zz ?_
    obtain ⟨r77, h78, h⟩ := bs h
    refine cw (a_token_small I hI next_1 h78) <| zz ?_
    obtain ⟨r79, h80, h⟩ := bs h
    refine cw (a_token_among hI hShp h80) <| zz ?_
    subst hK76 gK76
    refine es ?_
    obtain ⟨k,h⟩|⟨k,h⟩:=iK k h
    ·refine xt <| xs <| rz ?_
     refine es <| xr <| br <| er ?_
     cases h
     exact en fr
    ·refine xf <| xk <| bn <| es <| xs <| rz ?_
     refine es <| xr ?_
     cases h
     exact en fr
 ·refine xt <| rK fun K86 RK86 hK86 gK86 => zz ?_
  obtain ⟨b87, q, h⟩ := bK q h
  refine zz ?_
  subst hK86 gK86
  refine es <| xs <| xb ?_
  obtain ⟨v145, h149, h⟩ := bs h
  refine rb_cut (fun v145 => ⟨envL [(0, .str word_0), (1, .str next_1), (6, .int .u8 (b87.toNat : Int)), (16, .bool v145)], heapL [], 0, 49⟩) h149 ?_ ?_
  ·clear h
   intro v145 h
   refine rK fun K146 RK146 hK146 gK146 => zz ?_
   obtain ⟨k,h⟩|⟨k,h⟩:=iK k h
   ·refine zz ?_
    subst hK146 gK146
    cases h
    exact en ⟨rfl, wk []⟩
   ·refine zz ?_
    obtain ⟨k,h⟩|⟨k,h⟩:=iK k h
    ·refine zz ?_
     subst hK146 gK146
     cases h
     exact en ⟨rfl, wk []⟩
    ·refine zz ?_
     subst hK146 gK146
     cases h
     exact en ⟨rfl, wk []⟩
  ·obtain ⟨k,h⟩|⟨k,h⟩:=iK k h
   ·refine xt <| xs <| rz ?_
    refine es <| xr <| br <| er ?_
    cases h
    exact en fr
   ·refine xf ?_
    obtain ⟨v156, h160, h⟩ := bs h
    refine rb_cut (fun v156 => ⟨envL [(0, .str word_0), (1, .str next_1), (6, .int .u8 (b87.toNat : Int)), (27, .bool v156)], heapL [], 0, 49⟩) h160 ?_ ?_
    ·clear h
     intro v156 h
     refine rK fun K157 RK157 hK157 gK157 => zz ?_
     obtain ⟨k,h⟩|⟨k,h⟩:=iK k h
     ·refine zz ?_
      subst hK157 gK157
      cases h
      exact en ⟨rfl, wk []⟩
     ·refine zz ?_
      obtain ⟨k,h⟩|⟨k,h⟩:=iK k h
      ·refine zz ?_
       subst hK157 gK157
       cases h
       exact en ⟨rfl, wk []⟩
      ·refine zz ?_
       subst hK157 gK157
       cases h
       exact en ⟨rfl, wk []⟩
    ·obtain ⟨k,h⟩|⟨k,h⟩:=iK k h
     ·refine xt <| xs <| rz ?_
      refine es <| xr <| br <| er ?_
      cases h
      exact en fr
     ·refine xf <| xs <| rz ?_
      refine es ?_
      obtain ⟨k,h⟩|⟨k,h⟩:=iK k h
      ·refine xt <| xs <| rz ?_
       refine es <| xr <| br <| er ?_
       cases h
       exact en fr
      ·refine xf <| xs <| rK fun K174 RK174 hK174 gK174 => zz ?_
       obtain ⟨r175, h176, h⟩ := bs h
       refine cw (a_token_small I hI word_0 h176) <| zz ?_
       obtain ⟨r177, h178, h⟩ := bs h
       refine cw (a_token_among hI hShp h178) <| zz ?_
       subst hK174 gK174
       refine es ?_
       obtain ⟨k,h⟩|⟨k,h⟩:=iK k h
       ·refine xt <| xs <| rz ?_
        refine es <| xr <| br <| er ?_
        cases h
        exact en fr
       ·refine xf <| xs <| rK fun K187 RK187 hK187 gK187 => zz ?_
        obtain ⟨r188, h189, h⟩ := bs h
        refine cw (a_token_small I hI next_1 h189) <| zz ?_
        obtain ⟨r190, h191, h⟩ := bs h
        refine cw (a_token_among hI hShp h191) <| zz ?_
        subst hK187 gK187
        refine es ?_
        obtain ⟨k,h⟩|⟨k,h⟩:=iK k h
        ·refine xt <| xs <| rz ?_
         refine es <| xr <| br <| er ?_
         cases h
         exact en fr
        ·refine xf <| xk <| bn <| es <| xs <| rz ?_
         refine es <| xr ?_
         cases h
         exact en fr
def g_token_Len_s1 (z25 : List A_Token) (x32 : Int × Int) : Option (Nx (Int × Int) (Int)) :=
 (if (decide (x32.2 < (z25.length : Int))) then ((atI z25 x32.2).bind fun y74 => ((g_ch_Len y74.Text).bind fun r77 => (some (.go ((IntKind.i64.wrap (x32.1 + r77)), (IntKind.i64.wrap (x32.2 + 1))))))) else (some (.out x32.1)))
def g_token_Len (l_0 : List A_Token) (from_1 : Int) (to_2 : Int) : Option (Int) :=
 (((if (decide (from_1 < 0)) then (some true) else (if (decide (to_2 < from_1)) then (some true) else (some (decide ((l_0.length : Int) < to_2))))) : Option (Bool)).bind fun v6 => (if v6 then (some 0) else ((subI l_0 from_1 to_2).bind fun z25 => ((iter (g_token_Len_s1 z25) ((if (IntKind.i64.wrap ((IntKind.i64.wrap (to_2 - from_1)) - 1)) > 0 then (IntKind.i64.wrap ((IntKind.i64.wrap (to_2 - from_1)) - 1)) else 0), 0)).bind fun e33 => (some e33)))))
theorem a_token_Len {I : World → Prop} (hI : Stab I) (hU8T : ∀ w, I w → U8T w) {l_0 : List A_Token} {from_1 : Int} {to_2 : Int} {r : Int} (h : g_token_Len l_0 from_1 to_2 = some r) : AFun Tryz.prog I 91 [.sl (l_0.map A_Token.d), .int .i64 from_1, .int .i64 to_2] (.int .i64 r) := by
 have dd := And.intro dd_EB dd_EA; have k := True.intro; have q := k; have rs := Tryz.results91
 unfold g_token_Len at h
 refine .en hI Tryz.func91 Tryz.ntmps91 ?_
 refine xs <| rz ?_
 refine es <| xs ?_
 obtain ⟨v6, h10, h⟩ := bs h
 refine rb_cut (fun v6 => ⟨envL [(0, .sl (l_0.map A_Token.d)), (1, .int .i64 from_1), (2, .int .i64 to_2), (22, .bool v6)], heapL [], 0, 44⟩) h10 ?_ ?_
 ·clear h
  intro v6 h
  refine rK fun K7 RK7 hK7 gK7 => zz ?_
  obtain ⟨k,h⟩|⟨k,h⟩:=iK k h
  ·refine zz ?_
   subst hK7 gK7
   cases h
   exact en ⟨rfl, wk []⟩
  ·refine zz ?_
   obtain ⟨k,h⟩|⟨k,h⟩:=iK k h
   ·refine zz ?_
    subst hK7 gK7
    cases h
    exact en ⟨rfl, wk []⟩
   ·refine zz ?_
    subst hK7 gK7
    cases h
    exact en ⟨rfl, wk []⟩
 ·obtain ⟨k,h⟩|⟨k,h⟩:=iK k h
  ·refine xt <| xs <| rz ?_
   refine es <| xr <| er ?_
   cases h
   exact en fr
  ·refine xf <| xk <| es <| xs <| rz ?_
   refine es <| xs <| xs <| rK fun K24 RK24 hK24 gK24 => zz ?_
   obtain ⟨z25, h26, h⟩ := bind_some h
   obtain ⟨⟨h27, h28, h29, h30⟩, h31⟩ := subI_some h26
   have q := And.intro @h27 <| And.intro @h28 <| And.intro @h29 <| And.intro @h30 <| q
   try simp -implicitDefEqProofs only [vt, vm, sevalprocAttr, dd, k, q] at h31
   have q := And.intro @h31 <| q
   refine zz ?_
   subst hK24 gK24
   refine es <| xb ?_
   obtain ⟨e33, h80, h⟩ := bs h
   refine rb_loop (fun x32 => ⟨envL [(7, .int .i64 x32.1), (31, .sl (z25.map A_Token.d)), (32, .int .i64 (z25.length : Int)), (33, .int .i64 x32.2)], heapL [], 0, 44⟩) (fun _ => .exit 0) (fun e33 => ⟨envL [(7, .int .i64 e33)], heapL [], 0, 44⟩) h80 (wk []) (by intro w; simp) ?_ ?_
   ·clear h
    intro x32 y h
    unfold g_token_Len_s1 at h
    refine xs <| rz ?_
    refine es <| xs ?_
    obtain ⟨k,h⟩|⟨k,h⟩:=iK k h
    ·refine xt <| xk <| es <| xs <| xb <| xs <| rK fun K73 RK73 hK73 gK73 => zz ?_
     obtain ⟨y74, q, h⟩ := bK q h
     refine zz ?_
     subst hK73 gK73
     refine es <| rK fun K76 RK76 hK76 gK76 => zz ?_
     obtain ⟨r77, h78, h⟩ := bs h
     refine cw (a_ch_Len hI hU8T h78) <| zz ?_
     subst hK76 gK76
     refine bn <| es <| rz ?_
     cases h
     exact en ⟨rfl, wk []⟩
    ·refine xf <| xx <| ee ?_
     cases h
     exact en ⟨rfl, wk []⟩
   ·refine bh <| es <| xs <| rz ?_
    refine es <| xr ?_
    cases h
    exact en fr
def g_token_Check_s1 (l_0 : List A_Token) (x10 : Int) : Option (Nx (Int) (Int ⊕ Unit)) :=
 (if (decide (x10 < (l_0.length : Int))) then ((atI l_0 x10).bind fun y136 => (((if (y136.Text == ([] : List UInt8)) then (some true) else ((g_strings_Contains y136.Text [32]).bind fun r145 => (some r145))) : Option (Bool)).bind fun v142 => (if v142 then (some (.out (.inl 4))) else ((g_ch_Valid y136.Text).bind fun r155 => (if r155 then (if (decide (y136.Sg < 0)) then (some (.out (.inl 2))) else (if (decide (5 < y136.Sg)) then (some (.out (.inl 2))) else (some (.go (IntKind.i64.wrap (x10 + 1)))))) else (some (.out (.inl 10)))))))) else (some (.out (.inr ()))))
def g_token_Check (l_0 : List A_Token) : Option (Int) :=
 (if (decide (200 < (l_0.length : Int))) then (some 9) else ((iter (g_token_Check_s1 l_0) 0).bind fun e11 => (match e11 with | Sum.inl e11 => (some e11) | Sum.inr (e11) => (some 0))))
theorem a_token_Check {I : World → Prop} (hI : Stab I) (hU8T : ∀ w, I w → U8T w) {l_0 : List A_Token} {r : Int} (h : g_token_Check l_0 = some r) : AFun Tryz.prog I 144 [.sl (l_0.map A_Token.d)] (.int .i64 r) := by
 have dd := And.intro dd_EB dd_EA; have k := True.intro; have q := k; have rs := Tryz.results144
 unfold g_token_Check at h
 refine .en hI Tryz.func144 Tryz.ntmps144 ?_
 refine xs <| rz ?_
 refine es <| xs <| xs <| rz ?_
 refine es ?_
 obtain ⟨k,h⟩|⟨k,h⟩:=iK k h
 ·refine xt <| xs <| rz ?_
  refine es <| xr <| er ?_
  cases h
  exact en fr
 ·refine xf <| xk <| es <| xs <| xs <| rz ?_
  refine es <| xb ?_
  obtain ⟨e11, h170, h⟩ := bs h
  refine rb_loop (fun x10 => ⟨envL [(8, .sl (l_0.map A_Token.d)), (9, .int .i64 (l_0.length : Int)), (10, .int .i64 x10)], heapL [], 0, 38⟩) (fun w => match w with | Sum.inl _ => .ret | Sum.inr (_) => .exit 0) (fun w => match w with | Sum.inl e11 => ⟨envL [(2, .int .i64 e11)], heapL [], 0, 38⟩ | Sum.inr (e11) => ⟨envL [], heapL [], 0, 38⟩) h170 (wk []) (by intro w; rcases w with w | w <;> simp) ?_ ?_
  ·clear h
   intro x10 y h
   unfold g_token_Check_s1 at h
   refine xs <| rz ?_
   refine es <| xs ?_
   obtain ⟨k,h⟩|⟨k,h⟩:=iK k h
   ·refine xt <| xk <| es <| xs <| xb <| xs <| rK fun K135 RK135 hK135 gK135 => zz ?_
    obtain ⟨y136, q, h⟩ := bK q h
    refine zz ?_
    subst hK135 gK135
    refine es <| xb ?_
    obtain ⟨v142, h147, h⟩ := bs h
    refine rb_cut (fun v142 => ⟨envL [(4, .ptr 0 0), (8, .sl (l_0.map A_Token.d)), (9, .int .i64 (l_0.length : Int)), (10, .int .i64 x10), (14, .bool v142)], heapL [(0, .box none [.str y136.Text, .int .i64 y136.Sg])], 1, 38⟩) h147 ?_ ?_
    ·clear h
     intro v142 h
     refine rK fun K143 RK143 hK143 gK143 => zz ?_
     obtain ⟨k,h⟩|⟨k,h⟩:=iK k h
     ·refine zz ?_
      subst hK143 gK143
      cases h
      exact en ⟨rfl, wk [(0, some 3)]⟩
     ·refine zz ?_
      obtain ⟨r145, h146, h⟩ := bs h
      refine cw (a_strings_Contains I hI y136.Text [32] h146) <| zz ?_
      subst hK143 gK143
      cases h
      exact en ⟨rfl, wk [(0, some 3)]⟩
    ·obtain ⟨k,h⟩|⟨k,h⟩:=iK k h
     ·refine xt <| xs <| rz ?_
      refine es <| xr <| br <| br <| er ?_
      cases h
      exact en ⟨rfl, wk []⟩
     ·refine xf <| xs <| rK fun K154 RK154 hK154 gK154 => zz ?_
      obtain ⟨r155, h156, h⟩ := bs h
      refine cw (a_ch_Valid hI hU8T h156) <| zz ?_
      subst hK154 gK154
      refine es ?_
      obtain ⟨k,h⟩|⟨k,h⟩:=iK k h
      ·refine xf <| xs <| rK fun K160 RK160 hK160 gK160 => zz ?_
       obtain ⟨k,h⟩|⟨k,h⟩:=iK k h
       ·refine zz ?_
        subst hK160 gK160
        refine es <| xt <| xs <| rz ?_
        refine es <| xr <| br <| br <| er ?_
        cases h
        exact en ⟨rfl, wk []⟩
       ·refine zz ?_
        subst hK160 gK160
        refine es ?_
        obtain ⟨k,h⟩|⟨k,h⟩:=iK k h
        ·refine xt <| xs <| rz ?_
         refine es <| xr <| br <| br <| er ?_
         cases h
         exact en ⟨rfl, wk []⟩
        ·refine xf <| xk <| bn <| bn <| es <| rz ?_
         cases h
         exact en ⟨rfl, wk []⟩
      ·refine xt <| xs <| rz ?_
       refine es <| xr <| br <| br <| er ?_
       cases h
       exact en ⟨rfl, wk []⟩
   ·refine xf <| xx <| ee ?_
    cases h
    exact en ⟨rfl, wk []⟩
  ·rcases e11 with e11 | e11
   ·try dsimp only at h ⊢
    refine br <| er ?_
    cases h
    exact en fr
   ·try dsimp only at h ⊢
    refine bh <| es <| xs <| rz ?_
    refine es <| xr ?_
    cases h
    exact en fr
def g_sg_checkWord (w_0 : A_Word) (last_1 : Int) : Option (Int) :=
 (((if (w_0.Text == ([] : List UInt8)) then (some true) else ((g_strings_Contains w_0.Text [32]).bind fun r48 => (some r48))) : Option (Bool)).bind fun v45 => (if v45 then (some 4) else ((g_ch_Valid w_0.Text).bind fun r58 => (if r58 then (((if (decide (w_0.Span.In < 0)) then (some true) else (if (decide (w_0.Span.Out ≤ w_0.Span.In)) then (some true) else (some (decide (5184000 < w_0.Span.Out))))) : Option (Bool)).bind fun v64 => (if v64 then (some 2) else (if (decide (w_0.Span.In < last_1)) then (some 8) else (some 0)))) else (some 10)))))
theorem a_sg_checkWord {I : World → Prop} (hI : Stab I) (hU8T : ∀ w, I w → U8T w) {w_0 : A_Word} {last_1 : Int} {r : Int} (h : g_sg_checkWord w_0 last_1 = some r) : AFun Tryz.prog I 39 [A_Word.d w_0, .int .i64 last_1] (.int .i64 r) := by
 have dd := And.intro dd_EB dd_EA; have k := True.intro; have q := k; have rs := Tryz.results39
 unfold g_sg_checkWord at h
 refine .en hI Tryz.func39 Tryz.ntmps39 ?_
 refine xs <| rz ?_
 refine es <| xs <| xb ?_
 obtain ⟨v45, h50, h⟩ := bs h
 refine rb_cut (fun v45 => ⟨envL [(1, .int .i64 last_1), (2, .ptr 0 0), (5, .bool v45)], heapL [(0, .box none [.str w_0.Text, .int .i64 w_0.Span.In, .int .i64 w_0.Span.Out])], 1, 45⟩) h50 ?_ ?_
 ·clear h
  intro v45 h
  refine rK fun K46 RK46 hK46 gK46 => zz ?_
  obtain ⟨k,h⟩|⟨k,h⟩:=iK k h
  ·refine zz ?_
   subst hK46 gK46
   cases h
   exact en ⟨rfl, wk []⟩
  ·refine zz ?_
   obtain ⟨r48, h49, h⟩ := bs h
   refine cw (a_strings_Contains I hI w_0.Text [32] h49) <| zz ?_
   subst hK46 gK46
   cases h
   exact en ⟨rfl, wk []⟩
 ·obtain ⟨k,h⟩|⟨k,h⟩:=iK k h
  ·refine xt <| xs <| rz ?_
   refine es <| xr <| br <| er ?_
   cases h
   exact en fr
  ·refine xf <| xs <| rK fun K57 RK57 hK57 gK57 => zz ?_
   obtain ⟨r58, h59, h⟩ := bs h
   refine cw (a_ch_Valid hI hU8T h59) <| zz ?_
   subst hK57 gK57
   refine es ?_
   obtain ⟨k,h⟩|⟨k,h⟩:=iK k h
   ·refine xf ?_
    obtain ⟨v64, h68, h⟩ := bs h
    refine rb_cut (fun v64 => ⟨envL [(1, .int .i64 last_1), (2, .ptr 0 0), (19, .bool v64)], heapL [(0, .box none [.str w_0.Text, .int .i64 w_0.Span.In, .int .i64 w_0.Span.Out])], 1, 45⟩) h68 ?_ ?_
    ·clear h
     intro v64 h
     refine rK fun K65 RK65 hK65 gK65 => zz ?_
     obtain ⟨k,h⟩|⟨k,h⟩:=iK k h
     ·refine zz ?_
      subst hK65 gK65
      cases h
      exact en ⟨rfl, wk []⟩
     ·refine zz ?_
      obtain ⟨k,h⟩|⟨k,h⟩:=iK k h
      ·refine zz ?_
       subst hK65 gK65
       cases h
       exact en ⟨rfl, wk []⟩
      ·refine zz ?_
       subst hK65 gK65
       cases h
       exact en ⟨rfl, wk []⟩
    ·obtain ⟨k,h⟩|⟨k,h⟩:=iK k h
     ·refine xt <| xs <| rz ?_
      refine es <| xr <| br <| er ?_
      cases h
      exact en fr
     ·refine xf <| xs <| rz ?_
      refine es ?_
      obtain ⟨k,h⟩|⟨k,h⟩:=iK k h
      ·refine xt <| xs <| rz ?_
       refine es <| xr <| br <| er ?_
       cases h
       exact en fr
      ·refine xf <| xk <| bn <| es <| xs <| rz ?_
       refine es <| xr ?_
       cases h
       exact en fr
   ·refine xt <| xs <| rz ?_
    refine es <| xr <| br <| er ?_
    cases h
    exact en fr
def g_sg_Check_s1 (s_0 : A_Sh) (x43 : Int × Int) : Option (Nx (Int × Int) (Int ⊕ Unit)) :=
 (if (decide (x43.2 < (s_0.Words.length : Int))) then ((atI s_0.Words x43.2).bind fun y153 => ((g_sg_checkWord y153 x43.1).bind fun r159 => (if (r159 != 0) then (some (.out (.inl r159))) else (some (.go (y153.Span.Out, (IntKind.i64.wrap (x43.2 + 1)))))))) else (some (.out (.inr ()))))
def g_sg_Check (s_0 : A_Sh) : Option (Int) :=
 ((g_tb_Valid s_0.Rate).bind fun r26 => (if r26 then (if (decide (200 < (s_0.Words.length : Int))) then (some 9) else (if ((s_0.Words.length : Int) == 0) then (some 6) else ((iter (g_sg_Check_s1 s_0) (0, 0)).bind fun e44 => (match e44 with | Sum.inl e44 => (some e44) | Sum.inr (e44) => ((g_shots_Check s_0.Shots).bind fun r173 => (if (r173 != 0) then (some r173) else ((g_pn_Check s_0.Table).bind fun r184 => (if (r184 != 0) then (some r184) else ((g_pf_Check s_0.House).bind fun r195 => (some r195)))))))))) else (some 13)))
theorem a_sg_Check {I : World → Prop} (hI : Stab I) (hU8T : ∀ w, I w → U8T w) {s_0 : A_Sh} {r : Int} (h : g_sg_Check s_0 = some r) : AFun Tryz.prog I 13 [A_Sh.d s_0] (.int .i64 r) := by
 have dd := And.intro dd_EB dd_EA; have k := True.intro; have q := k; have rs := Tryz.results13
 unfold g_sg_Check at h
 refine .en hI Tryz.func13 Tryz.ntmps13 ?_
 refine xs <| rz ?_
 refine es <| xs <| xb <| xs <| rK fun K25 RK25 hK25 gK25 => zz ?_
 obtain ⟨r26, h27, h⟩ := bs h
 refine cw (a_tb_Valid hI h27) <| zz ?_
 subst hK25 gK25
 refine es ?_
 obtain ⟨k,h⟩|⟨k,h⟩:=iK k h
 ·refine xf <| xs <| rz ?_
  refine es ?_
  obtain ⟨k,h⟩|⟨k,h⟩:=iK k h
  ·refine xt <| xs <| rz ?_
   refine es <| xr <| br <| er ?_
   cases h
   exact en fr
  ·refine xf <| xs <| rz ?_
   refine es ?_
   obtain ⟨k,h⟩|⟨k,h⟩:=iK k h
   ·refine xt <| xs <| rz ?_
    refine es <| xr <| br <| er ?_
    cases h
    exact en fr
   ·refine xf <| xk <| bn <| es <| xs <| rz ?_
    refine es <| xs <| xs <| rz ?_
    refine es <| xb ?_
    obtain ⟨e44, h168, h⟩ := bs h
    refine rb_loop (fun x43 => ⟨envL [(1, .ptr 0 0), (3, .int .i64 x43.1), (25, .sl (s_0.Words.map A_Word.d)), (26, .int .i64 (s_0.Words.length : Int)), (27, .int .i64 x43.2)], heapL [(0, .box none [.int .u8 s_0.Rate, .sl (s_0.Words.map A_Word.d), .sl (s_0.Shots.map (D.int .i64)), .int .i64 s_0.Table.Sg.a0, .int .i64 s_0.Table.Sg.a1, .int .i64 s_0.Table.Sg.a2, .int .i64 s_0.Table.Sg.a3, .int .i64 s_0.Table.Sg.a4, .int .i64 s_0.Table.Sg.a5, .int .i64 s_0.Table.Rgd, .int .i64 s_0.Table.Row, .int .i64 s_0.Table.Event, .int .i64 s_0.Table.Fast, .int .i64 s_0.Table.Gap, .int .i64 s_0.Table.Shot, .str s_0.House.Name, .int .i64 s_0.House.Reading, .int .i64 s_0.House.MnF, .int .i64 s_0.House.MxF, .int .i64 s_0.House.MnG, .int .i64 s_0.House.ShB, .int .i64 s_0.House.ShA, .int .i64 s_0.House.Rows, .int .i64 s_0.House.Cols, .str s_0.House.Fbd, .int .i64 s_0.House.SfT, .int .i64 s_0.House.SfB, .int .i64 s_0.House.SfL, .int .i64 s_0.House.SfR])], 1, 56⟩) (fun w => match w with | Sum.inl _ => .ret | Sum.inr (_) => .exit 1) (fun w => match w with | Sum.inl e44 => ⟨envL [(2, .int .i64 e44)], heapL [], 0, 56⟩ | Sum.inr (e44) => ⟨envL [(1, .ptr 0 0)], heapL [(0, .box none [.int .u8 s_0.Rate, .sl (s_0.Words.map A_Word.d), .sl (s_0.Shots.map (D.int .i64)), .int .i64 s_0.Table.Sg.a0, .int .i64 s_0.Table.Sg.a1, .int .i64 s_0.Table.Sg.a2, .int .i64 s_0.Table.Sg.a3, .int .i64 s_0.Table.Sg.a4, .int .i64 s_0.Table.Sg.a5, .int .i64 s_0.Table.Rgd, .int .i64 s_0.Table.Row, .int .i64 s_0.Table.Event, .int .i64 s_0.Table.Fast, .int .i64 s_0.Table.Gap, .int .i64 s_0.Table.Shot, .str s_0.House.Name, .int .i64 s_0.House.Reading, .int .i64 s_0.House.MnF, .int .i64 s_0.House.MxF, .int .i64 s_0.House.MnG, .int .i64 s_0.House.ShB, .int .i64 s_0.House.ShA, .int .i64 s_0.House.Rows, .int .i64 s_0.House.Cols, .str s_0.House.Fbd, .int .i64 s_0.House.SfT, .int .i64 s_0.House.SfB, .int .i64 s_0.House.SfL, .int .i64 s_0.House.SfR])], 1, 56⟩) h168 (wk []) (by intro w; rcases w with w | w <;> simp) ?_ ?_
    ·clear h
     intro x43 y h
     unfold g_sg_Check_s1 at h
     refine xs <| rz ?_
     refine es <| xs ?_
     obtain ⟨k,h⟩|⟨k,h⟩:=iK k h
     ·refine xt <| xk <| es <| xs <| xb <| xs <| rK fun K152 RK152 hK152 gK152 => zz ?_
      obtain ⟨y153, q, h⟩ := bK q h
      refine zz ?_
      subst hK152 gK152
      refine es <| xs <| xs <| rK fun K158 RK158 hK158 gK158 => zz ?_
      obtain ⟨r159, h160, h⟩ := bs h
      refine cw (a_sg_checkWord hI hU8T h160) <| zz ?_
      subst hK158 gK158
      refine es <| xs <| rz ?_
      refine es ?_
      obtain ⟨k,h⟩|⟨k,h⟩:=iK k h
      ·refine xt <| xs <| rz ?_
       refine es <| xr <| er <| br <| er ?_
       cases h
       exact en ⟨rfl, wk []⟩
      ·refine xf <| xk <| es <| rz ?_
       refine bn <| es <| rz ?_
       cases h
       exact en ⟨rfl, wk []⟩
     ·refine xf <| xx <| ee ?_
      cases h
      exact en ⟨rfl, wk []⟩
    ·rcases e44 with e44 | e44
     ·try dsimp only at h ⊢
      refine br <| er ?_
      cases h
      exact en fr
     ·try dsimp only at h ⊢
      refine bh <| es <| xs <| xs <| rK fun K172 RK172 hK172 gK172 => zz ?_
      obtain ⟨r173, h174, h⟩ := bs h
      refine cw (a_shots_Check hI h174) <| zz ?_
      subst hK172 gK172
      refine es <| xs <| rz ?_
      refine es ?_
      obtain ⟨k,h⟩|⟨k,h⟩:=iK k h
      ·refine xt <| xs <| rz ?_
       refine es <| xr <| er ?_
       cases h
       exact en fr
      ·refine xf <| xk <| es <| xs <| xs <| rK fun K183 RK183 hK183 gK183 => zz ?_
       obtain ⟨r184, h185, h⟩ := bs h
       refine cw (a_pn_Check hI h185) <| zz ?_
       subst hK183 gK183
       refine es <| xs <| rz ?_
       refine es ?_
       obtain ⟨k,h⟩|⟨k,h⟩:=iK k h
       ·refine xt <| xs <| rz ?_
        refine es <| xr <| er ?_
        cases h
        exact en fr
       ·refine xf <| xk <| es <| xs <| rK fun K194 RK194 hK194 gK194 => zz ?_
        obtain ⟨r195, h196, h⟩ := bs h
        refine cw (a_pf_Check hI hU8T h196) <| zz ?_
        subst hK194 gK194
        refine es <| xr ?_
        cases h
        exact en fr
 ·refine xt <| xs <| rz ?_
  refine es <| xr <| br <| er ?_
  cases h
  exact en fr
def g_sg_tokens_s1 (s_0 : A_Sh) (x21 : Int × (List A_Token)) : Option (Nx (Int × (List A_Token)) ((List A_Token))) :=
 (if (decide (x21.1 < (s_0.Words.length : Int))) then ((atI s_0.Words x21.1).bind fun y228 => ((atI x21.2 x21.1).bind fun y239 => ((setI x21.2 x21.1 (A_Token.mk y228.Text 5)).bind fun m240 => (if (decide ((IntKind.i64.wrap (x21.1 + 1)) < (s_0.Words.length : Int))) then ((atI s_0.Words (IntKind.i64.wrap (x21.1 + 1))).bind fun y250 => ((g_token_Sg y228.Text y250.Text).bind fun r252 => ((atI m240 x21.1).bind fun y254 => ((setI m240 x21.1 (A_Token.mk y254.Text r252)).bind fun m255 => (some (.go ((IntKind.i64.wrap (x21.1 + 1)), m255))))))) else (some (.go ((IntKind.i64.wrap (x21.1 + 1)), m240))))))) else (some (.out x21.2)))
def g_sg_tokens (s_0 : A_Sh) : Option ((List A_Token)) :=
 ((mkI 24 (s_0.Words.length : Int) ((A_Token.mk [] 0) : A_Token)).bind fun m12 => ((iter (g_sg_tokens_s1 s_0) (0, m12)).bind fun e22 => (some e22)))
theorem a_sg_tokens {I : World → Prop} (hI : Stab I) (hShp : ∀ w, I w → Shp w) {s_0 : A_Sh} {r : (List A_Token)} (h : g_sg_tokens s_0 = some r) : AFun Tryz.prog I 30 [A_Sh.d s_0] (.sl (r.map A_Token.d)) := by
 have dd := And.intro dd_EB dd_EA; have k := True.intro; have q := k; have rs := Tryz.results30
 unfold g_sg_tokens at h
 refine .en hI Tryz.func30 Tryz.ntmps30 ?_
 refine xs <| rz ?_
 refine es <| xs <| rK fun K11 RK11 hK11 gK11 => zz ?_
 obtain ⟨m12, h13, h⟩ := bind_some h
 obtain ⟨h14, h15, h16, h17, h18⟩ := mkI_some h13
 have h18 := h18 A_Token.d
 have h17 := (Int.toNat_natCast _).symm.trans h17 |>.symm
 rw [h17] at h18
 have k := And.intro h17 k
 try simp only [sevalprocAttr, List.map_nil, Int.toNat_natCast, dd] at h18
 have q := And.intro @h14 <| And.intro @h15 <| And.intro @h16 <| And.intro @h17 <| And.intro @h18 <| q
 refine zz ?_
 subst hK11 gK11
 refine es <| xs <| xs <| rz ?_
 refine es <| xb ?_
 obtain ⟨e22, h263, h⟩ := bs h
 refine rb_loop (fun x21 => ⟨envL [(1, .ptr 0 0), (3, .own 1 x21.2.length), (11, .sl (s_0.Words.map A_Word.d)), (12, .int .i64 (s_0.Words.length : Int)), (13, .int .i64 x21.1)], heapL [(0, .box none [.int .u8 s_0.Rate, .sl (s_0.Words.map A_Word.d), .sl (s_0.Shots.map (D.int .i64)), .int .i64 s_0.Table.Sg.a0, .int .i64 s_0.Table.Sg.a1, .int .i64 s_0.Table.Sg.a2, .int .i64 s_0.Table.Sg.a3, .int .i64 s_0.Table.Sg.a4, .int .i64 s_0.Table.Sg.a5, .int .i64 s_0.Table.Rgd, .int .i64 s_0.Table.Row, .int .i64 s_0.Table.Event, .int .i64 s_0.Table.Fast, .int .i64 s_0.Table.Gap, .int .i64 s_0.Table.Shot, .str s_0.House.Name, .int .i64 s_0.House.Reading, .int .i64 s_0.House.MnF, .int .i64 s_0.House.MxF, .int .i64 s_0.House.MnG, .int .i64 s_0.House.ShB, .int .i64 s_0.House.ShA, .int .i64 s_0.House.Rows, .int .i64 s_0.House.Cols, .str s_0.House.Fbd, .int .i64 s_0.House.SfT, .int .i64 s_0.House.SfB, .int .i64 s_0.House.SfL, .int .i64 s_0.House.SfR]), (1, .vec 90 2 (x21.2.map A_Token.d) false)], 2, 46⟩) (fun _ => .exit 0) (fun e22 => ⟨envL [(3, .own 0 e22.length)], heapL [(0, .vec 90 2 (e22.map A_Token.d) false)], 1, 46⟩) h263 (wk [(1, some 5)]) (by intro w; simp) ?_ ?_
 ·clear h
  intro x21 y h
  unfold g_sg_tokens_s1 at h
  refine xs <| rz ?_
  refine es <| xs ?_
  obtain ⟨k,h⟩|⟨k,h⟩:=iK k h
  ·refine xt <| xk <| es <| xs <| xb <| xs <| rK fun K227 RK227 hK227 gK227 => zz ?_
   obtain ⟨y228, q, h⟩ := bK q h
   refine zz ?_
   subst hK227 gK227
   refine es <| xs <| rK fun K238 RK238 hK238 gK238 => zz ?_
   obtain ⟨y239, q, h⟩ := oN q h
   refine zz ?_
   obtain ⟨m240, h241, h⟩ := bind_some h
   obtain ⟨h242, h243, h244, h245⟩ := setI_some h241
   have h245 := h245 A_Token.d
   try simp only [sevalprocAttr, List.map_nil, dd] at h245
   have q := And.intro @h242 <| And.intro @h243 <| And.intro @h244 <| And.intro @h245 <| q
   refine zz ?_
   subst hK238 gK238
   refine es <| xs <| rz ?_
   refine es ?_
   obtain ⟨k,h⟩|⟨k,h⟩:=iK k h
   ·refine xt <| rD hI fun K249 RK249 hK249 gK249 => zz ?_
    obtain ⟨y250, q, h⟩ := bK q h
    refine zz ?_
    obtain ⟨r252, h253, h⟩ := bs h
    refine cd (a_token_Sg hI hShp h253) <| zz ?_
    obtain ⟨y254, q, h⟩ := oN q h
    refine zz ?_
    obtain ⟨m255, h256, h⟩ := bind_some h
    obtain ⟨h257, h258, h259, h260⟩ := setI_some h256
    have h260 := h260 A_Token.d
    try simp only [sevalprocAttr, List.map_nil, dd] at h260
    have q := And.intro @h257 <| And.intro @h258 <| And.intro @h259 <| And.intro @h260 <| q
    refine zz ?_
    refine hd <| zz ?_
    subst hK249 gK249
    refine bn <| es <| rz ?_
    cases h
    exact en ⟨rfl, wk []⟩
   ·refine xf <| xk <| bn <| es <| rz ?_
    cases h
    exact en ⟨rfl, wk []⟩
  ·refine xf <| xx <| ee ?_
   cases h
   exact en ⟨rfl, wk [(0, some 1)]⟩
 ·refine bh <| es <| xs <| rz ?_
  refine es <| xr ?_
  cases h
  exact en fr
def g_sg_paragraph (s_0 : A_Sh) (l_1 : List A_Token) : Option (A_Pg) :=
 (some (A_Pg.mk l_1 s_0.House.Cols s_0.House.Rows s_0.Table))
theorem a_sg_paragraph {I : World → Prop} (hI : Stab I) {s_0 : A_Sh} {l_1 : List A_Token} {r : A_Pg} (h : g_sg_paragraph s_0 l_1 = some r) : AFun Tryz.prog I 52 [A_Sh.d s_0, .sl (l_1.map A_Token.d)] (A_Pg.d r) := by
 have dd := And.intro dd_EB dd_EA; have k := True.intro; have q := k; have rs := Tryz.results52
 unfold g_sg_paragraph at h
 refine .en hI Tryz.func52 Tryz.ntmps52 ?_
 refine xs <| rz ?_
 refine es <| xs <| rz ?_
 refine es <| xr ?_
 cases h
 exact en fr
def g_sg_load_s1 (z24 : List A_Word) (x31 : Int × Int) : Option (Nx (Int × Int) (Int)) :=
 (if (decide (x31.2 < (z24.length : Int))) then ((atI z24 x31.2).bind fun y96 => ((g_ch_Len y96.Text).bind fun r99 => (some (.go ((IntKind.i64.wrap (x31.1 + r99)), (IntKind.i64.wrap (x31.2 + 1))))))) else (some (.out x31.1)))
def g_sg_load (s_0 : A_Sh) (l_1 : List A_Token) (from_2 : Int) (to_3 : Int) : Option (A_Load) :=
 ((atI s_0.Words from_2).bind fun y9 => ((atI s_0.Words (IntKind.i64.wrap (to_3 - 1))).bind fun y11 => ((subI s_0.Words from_2 to_3).bind fun z24 => ((iter (g_sg_load_s1 z24) (0, 0)).bind fun e32 => ((g_reading_Needed s_0.Rate e32 s_0.House.Reading).bind fun r107 => ((g_shots_Inside s_0.Shots (A_Span.mk y9.Span.In y11.Span.Out)).bind fun r115 => ((atI l_1 (IntKind.i64.wrap (to_3 - 1))).bind fun y117 => (if (to_3 == (s_0.Words.length : Int)) then (some (A_Load.mk (if (IntKind.i64.wrap (r107.1 - (IntKind.i64.wrap (y11.Span.Out - y9.Span.In)))) > 0 then (IntKind.i64.wrap (r107.1 - (IntKind.i64.wrap (y11.Span.Out - y9.Span.In)))) else 0) 0 (r115.length : Int) y117.Sg (to_3 == (s_0.Words.length : Int)))) else ((atI s_0.Words to_3).bind fun y125 => (some (A_Load.mk (if (IntKind.i64.wrap (r107.1 - (IntKind.i64.wrap (y11.Span.Out - y9.Span.In)))) > 0 then (IntKind.i64.wrap (r107.1 - (IntKind.i64.wrap (y11.Span.Out - y9.Span.In)))) else 0) (if (IntKind.i64.wrap (s_0.House.MnG - (IntKind.i64.wrap (y125.Span.In - y11.Span.Out)))) > 0 then (IntKind.i64.wrap (s_0.House.MnG - (IntKind.i64.wrap (y125.Span.In - y11.Span.Out)))) else 0) (r115.length : Int) y117.Sg (to_3 == (s_0.Words.length : Int)))))))))))))
theorem a_sg_load {I : World → Prop} (hI : Stab I) (hU8T : ∀ w, I w → U8T w) {s_0 : A_Sh} {l_1 : List A_Token} {from_2 : Int} {to_3 : Int} {r : A_Load} (h : g_sg_load s_0 l_1 from_2 to_3 = some r) : AFun Tryz.prog I 68 [A_Sh.d s_0, .sl (l_1.map A_Token.d), .int .i64 from_2, .int .i64 to_3] (A_Load.d r) := by
 have dd := And.intro dd_EB dd_EA; have k := True.intro; have q := k; have rs := Tryz.results68
 unfold g_sg_load at h
 refine .en hI Tryz.func68 Tryz.ntmps68 ?_
 refine xs <| rz ?_
 refine es <| xs <| rD hI fun K8 RK8 hK8 gK8 => zz ?_
 obtain ⟨y9, q, h⟩ := bK q h
 refine zz ?_
 obtain ⟨y11, q, h⟩ := bK q h
 refine zz ?_
 refine hd <| zz ?_
 subst hK8 gK8
 refine es <| xs <| rz ?_
 refine es <| xs <| xs <| rK fun K23 RK23 hK23 gK23 => zz ?_
 obtain ⟨z24, h25, h⟩ := bind_some h
 obtain ⟨⟨h26, h27, h28, h29⟩, h30⟩ := subI_some h25
 have q := And.intro @h26 <| And.intro @h27 <| And.intro @h28 <| And.intro @h29 <| q
 try simp -implicitDefEqProofs only [vt, vm, sevalprocAttr, dd, k, q] at h30
 have q := And.intro @h30 <| q
 refine zz ?_
 subst hK23 gK23
 refine es <| xb ?_
 obtain ⟨e32, h102, h⟩ := bs h
 refine rb_loop (fun x31 => ⟨envL [(1, .sl (l_1.map A_Token.d)), (3, .int .i64 to_3), (4, .ptr 0 0), (8, .ptr 1 0), (9, .ptr 2 0), (10, .int .i64 x31.1), (36, .sl (z24.map A_Word.d)), (37, .int .i64 (z24.length : Int)), (38, .int .i64 x31.2)], heapL [(0, .box none [.int .u8 s_0.Rate, .sl (s_0.Words.map A_Word.d), .sl (s_0.Shots.map (D.int .i64)), .int .i64 s_0.Table.Sg.a0, .int .i64 s_0.Table.Sg.a1, .int .i64 s_0.Table.Sg.a2, .int .i64 s_0.Table.Sg.a3, .int .i64 s_0.Table.Sg.a4, .int .i64 s_0.Table.Sg.a5, .int .i64 s_0.Table.Rgd, .int .i64 s_0.Table.Row, .int .i64 s_0.Table.Event, .int .i64 s_0.Table.Fast, .int .i64 s_0.Table.Gap, .int .i64 s_0.Table.Shot, .str s_0.House.Name, .int .i64 s_0.House.Reading, .int .i64 s_0.House.MnF, .int .i64 s_0.House.MxF, .int .i64 s_0.House.MnG, .int .i64 s_0.House.ShB, .int .i64 s_0.House.ShA, .int .i64 s_0.House.Rows, .int .i64 s_0.House.Cols, .str s_0.House.Fbd, .int .i64 s_0.House.SfT, .int .i64 s_0.House.SfB, .int .i64 s_0.House.SfL, .int .i64 s_0.House.SfR]), (1, .box none [.int .i64 0, .int .i64 0, .int .i64 0, .int .i64 0, .bool false]), (2, .box none [.int .i64 y9.Span.In, .int .i64 y11.Span.Out])], 3, 103⟩) (fun _ => .exit 0) (fun e32 => ⟨envL [(1, .sl (l_1.map A_Token.d)), (3, .int .i64 to_3), (4, .ptr 0 0), (8, .ptr 1 0), (9, .ptr 2 0), (10, .int .i64 e32)], heapL [(0, .box none [.int .u8 s_0.Rate, .sl (s_0.Words.map A_Word.d), .sl (s_0.Shots.map (D.int .i64)), .int .i64 s_0.Table.Sg.a0, .int .i64 s_0.Table.Sg.a1, .int .i64 s_0.Table.Sg.a2, .int .i64 s_0.Table.Sg.a3, .int .i64 s_0.Table.Sg.a4, .int .i64 s_0.Table.Sg.a5, .int .i64 s_0.Table.Rgd, .int .i64 s_0.Table.Row, .int .i64 s_0.Table.Event, .int .i64 s_0.Table.Fast, .int .i64 s_0.Table.Gap, .int .i64 s_0.Table.Shot, .str s_0.House.Name, .int .i64 s_0.House.Reading, .int .i64 s_0.House.MnF, .int .i64 s_0.House.MxF, .int .i64 s_0.House.MnG, .int .i64 s_0.House.ShB, .int .i64 s_0.House.ShA, .int .i64 s_0.House.Rows, .int .i64 s_0.House.Cols, .str s_0.House.Fbd, .int .i64 s_0.House.SfT, .int .i64 s_0.House.SfB, .int .i64 s_0.House.SfL, .int .i64 s_0.House.SfR]), (1, .box none [.int .i64 0, .int .i64 0, .int .i64 0, .int .i64 0, .bool false]), (2, .box none [.int .i64 y9.Span.In, .int .i64 y11.Span.Out])], 3, 103⟩) h102 (wk [(2, some 18)]) (by intro w; simp) ?_ ?_
 ·clear h
  intro x31 y h
  unfold g_sg_load_s1 at h
  refine xs <| rz ?_
  refine es <| xs ?_
  obtain ⟨k,h⟩|⟨k,h⟩:=iK k h
  ·refine xt <| xk <| es <| xs <| xb <| xs <| rK fun K95 RK95 hK95 gK95 => zz ?_
   obtain ⟨y96, q, h⟩ := bK q h
   refine zz ?_
   subst hK95 gK95
   refine es <| rK fun K98 RK98 hK98 gK98 => zz ?_
   obtain ⟨r99, h100, h⟩ := bs h
   refine cw (a_ch_Len hI hU8T h100) <| zz ?_
   subst hK98 gK98
   refine bn <| es <| rz ?_
   cases h
   exact en ⟨rfl, wk []⟩
  ·refine xf <| xx <| ee ?_
   cases h
   exact en ⟨rfl, wk []⟩
 ·refine bh <| es <| xs <| rK fun K106 RK106 hK106 gK106 => zz ?_
  obtain ⟨r107, h108, h⟩ := bs h
  refine cw (a_reading_Needed hI h108) <| zz ?_
  subst hK106 gK106
  refine es <| xs <| rD hI fun K114 RK114 hK114 gK114 => zz ?_
  obtain ⟨r115, h116, h⟩ := bs h
  refine cd (a_shots_Inside hI h116) <| zz ?_
  obtain ⟨y117, q, h⟩ := bK q h
  refine zz ?_
  refine hd <| zz ?_
  subst hK114 gK114
  refine es <| xs <| xs <| rz ?_
  refine es ?_
  obtain ⟨k,h⟩|⟨k,h⟩:=iK k h
  ·refine xf <| xk <| es <| xs <| rz ?_
   refine es <| xr ?_
   cases h
   exact en fr
  ·refine xt <| rD hI fun K124 RK124 hK124 gK124 => zz ?_
   obtain ⟨y125, q, h⟩ := bK q h
   refine zz ?_
   refine hd <| zz ?_
   subst hK124 gK124
   refine es <| xs <| rz ?_
   refine es <| xr ?_
   cases h
   exact en fr
structure T_rb_sheet where
 p_ : A_Pg
 sums_ : List Int
 aim_ : Int
 deriving DecidableEq
def T_rb_sheet.d (x : T_rb_sheet) : D := .agg [.sl (x.p_.Tokens.map A_Token.d), .int .i64 x.p_.Width, .int .i64 x.p_.Rows, .int .i64 x.p_.Table.Sg.a0, .int .i64 x.p_.Table.Sg.a1, .int .i64 x.p_.Table.Sg.a2, .int .i64 x.p_.Table.Sg.a3, .int .i64 x.p_.Table.Sg.a4, .int .i64 x.p_.Table.Sg.a5, .int .i64 x.p_.Table.Rgd, .int .i64 x.p_.Table.Row, .int .i64 x.p_.Table.Event, .int .i64 x.p_.Table.Fast, .int .i64 x.p_.Table.Gap, .int .i64 x.p_.Table.Shot, .sl (x.sums_.map (D.int .i64)), .int .i64 x.aim_]
structure A_Breaks where
 Ends : List Int
 Cost : Int
 Pts : List Int
 deriving DecidableEq
def A_Breaks.d (x : A_Breaks) : D := .agg [.sl (x.Ends.map (D.int .i64)), .int .i64 x.Cost, .sl (x.Pts.map (D.int .i64))]
def dlI (x : List Int) : D := .sl (x.map (D.int .i64))
theorem dd_EC : (∀ x, T_rb_sheet.d x = .agg [.sl (x.p_.Tokens.map A_Token.d), .int .i64 x.p_.Width, .int .i64 x.p_.Rows, .int .i64 x.p_.Table.Sg.a0, .int .i64 x.p_.Table.Sg.a1, .int .i64 x.p_.Table.Sg.a2, .int .i64 x.p_.Table.Sg.a3, .int .i64 x.p_.Table.Sg.a4, .int .i64 x.p_.Table.Sg.a5, .int .i64 x.p_.Table.Rgd, .int .i64 x.p_.Table.Row, .int .i64 x.p_.Table.Event, .int .i64 x.p_.Table.Fast, .int .i64 x.p_.Table.Gap, .int .i64 x.p_.Table.Shot, .sl (x.sums_.map (D.int .i64)), .int .i64 x.aim_]) ∧ (∀ x, A_Breaks.d x = .agg [.sl (x.Ends.map (D.int .i64)), .int .i64 x.Cost, .sl (x.Pts.map (D.int .i64))]) ∧ (∀ x : List Int, dlI x = .sl (x.map (D.int .i64))) := ⟨fun _ => rfl, fun _ => rfl, fun _ => rfl⟩
def g_rb_Check (p_0 : A_Pg) : Option (Int) :=
 ((g_token_Check p_0.Tokens).bind fun r7 => (if (r7 != 0) then (some r7) else (if ((p_0.Tokens.length : Int) == 0) then (some 6) else (((if (decide (p_0.Width < 1)) then (some true) else (if (decide (32 < p_0.Width)) then (some true) else (if (decide (p_0.Rows < 1)) then (some true) else (some (decide (4 < p_0.Rows)))))) : Option (Bool)).bind fun v45 => (if v45 then (some 2) else ((g_pn_Check p_0.Table).bind fun r58 => (some r58)))))))
theorem a_rb_Check {I : World → Prop} (hI : Stab I) (hU8T : ∀ w, I w → U8T w) {p_0 : A_Pg} {r : Int} (h : g_rb_Check p_0 = some r) : AFun Tryz.prog I 111 [A_Pg.d p_0] (.int .i64 r) := by
 have dd := And.intro dd_EC <| And.intro dd_EB dd_EA; have k := True.intro; have q := k; have rs := Tryz.results111
 unfold g_rb_Check at h
 refine .en hI Tryz.func111 Tryz.ntmps111 ?_
 refine xs <| rz ?_
 refine es <| xs <| xs <| rK fun K6 RK6 hK6 gK6 => zz ?_
 obtain ⟨r7, h8, h⟩ := bs h
 refine cw (a_token_Check hI hU8T h8) <| zz ?_
 subst hK6 gK6
 refine es <| xs <| rz ?_
 refine es ?_
 obtain ⟨k,h⟩|⟨k,h⟩:=iK k h
 ·refine xt <| xs <| rz ?_
  refine es <| xr <| er ?_
  cases h
  exact en fr
 ·refine xf <| xk <| es <| xs <| xb <| xs <| rz ?_
  refine es ?_
  obtain ⟨k,h⟩|⟨k,h⟩:=iK k h
  ·refine xt <| xs <| rz ?_
   refine es <| xr <| br <| er ?_
   cases h
   exact en fr
  ·refine xf ?_
   obtain ⟨v45, h50, h⟩ := bs h
   refine rb_cut (fun v45 => ⟨envL [(1, .ptr 0 0), (15, .bool v45)], heapL [(0, .box none [.sl (p_0.Tokens.map A_Token.d), .int .i64 p_0.Width, .int .i64 p_0.Rows, .int .i64 p_0.Table.Sg.a0, .int .i64 p_0.Table.Sg.a1, .int .i64 p_0.Table.Sg.a2, .int .i64 p_0.Table.Sg.a3, .int .i64 p_0.Table.Sg.a4, .int .i64 p_0.Table.Sg.a5, .int .i64 p_0.Table.Rgd, .int .i64 p_0.Table.Row, .int .i64 p_0.Table.Event, .int .i64 p_0.Table.Fast, .int .i64 p_0.Table.Gap, .int .i64 p_0.Table.Shot])], 1, 37⟩) h50 ?_ ?_
   ·clear h
    intro v45 h
    refine rK fun K46 RK46 hK46 gK46 => zz ?_
    obtain ⟨k,h⟩|⟨k,h⟩:=iK k h
    ·refine zz ?_
     subst hK46 gK46
     cases h
     exact en ⟨rfl, wk []⟩
    ·refine zz ?_
     obtain ⟨k,h⟩|⟨k,h⟩:=iK k h
     ·refine zz ?_
      subst hK46 gK46
      cases h
      exact en ⟨rfl, wk []⟩
     ·refine zz ?_
      obtain ⟨k,h⟩|⟨k,h⟩:=iK k h
      ·refine zz ?_
       subst hK46 gK46
       cases h
       exact en ⟨rfl, wk []⟩
      ·refine zz ?_
       subst hK46 gK46
       cases h
       exact en ⟨rfl, wk []⟩
   ·obtain ⟨k,h⟩|⟨k,h⟩:=iK k h
    ·refine xt <| xs <| rz ?_
     refine es <| xr <| br <| er ?_
     cases h
     exact en fr
    ·refine xf <| xk <| bn <| es <| xs <| rK fun K57 RK57 hK57 gK57 => zz ?_
     obtain ⟨r58, h59, h⟩ := bs h
     refine cw (a_pn_Check hI h59) <| zz ?_
     subst hK57 gK57
     refine es <| xr ?_
     cases h
     exact en fr
def g_rb_sheet_n (s_0 : T_rb_sheet) : Option (Int) :=
 (some (s_0.p_.Tokens.length : Int))
theorem a_rb_sheet_n {I : World → Prop} (hI : Stab I) {H : Nat → Option Blk} {nid : Nat} {i0 : Nat} {p0 : Option Nat} {s_0 : T_rb_sheet} {r : Int} (h : g_rb_sheet_n s_0 = some r) (b0 : H i0 = some (.box p0 [.sl (s_0.p_.Tokens.map A_Token.d), .int .i64 s_0.p_.Width, .int .i64 s_0.p_.Rows, .int .i64 s_0.p_.Table.Sg.a0, .int .i64 s_0.p_.Table.Sg.a1, .int .i64 s_0.p_.Table.Sg.a2, .int .i64 s_0.p_.Table.Sg.a3, .int .i64 s_0.p_.Table.Sg.a4, .int .i64 s_0.p_.Table.Sg.a5, .int .i64 s_0.p_.Table.Rgd, .int .i64 s_0.p_.Table.Row, .int .i64 s_0.p_.Table.Event, .int .i64 s_0.p_.Table.Fast, .int .i64 s_0.p_.Table.Gap, .int .i64 s_0.p_.Table.Shot, .sl (s_0.sums_.map (D.int .i64)), .int .i64 s_0.aim_])) : CallOK Tryz.prog I 147 [.ptr i0 0] H nid (.int .i64 r) [] := by
 refine CallOK.ro (eff := [(i0, some (.box p0 [.sl (s_0.p_.Tokens.map A_Token.d), .int .i64 s_0.p_.Width, .int .i64 s_0.p_.Rows, .int .i64 s_0.p_.Table.Sg.a0, .int .i64 s_0.p_.Table.Sg.a1, .int .i64 s_0.p_.Table.Sg.a2, .int .i64 s_0.p_.Table.Sg.a3, .int .i64 s_0.p_.Table.Sg.a4, .int .i64 s_0.p_.Table.Sg.a5, .int .i64 s_0.p_.Table.Rgd, .int .i64 s_0.p_.Table.Row, .int .i64 s_0.p_.Table.Event, .int .i64 s_0.p_.Table.Fast, .int .i64 s_0.p_.Table.Gap, .int .i64 s_0.p_.Table.Shot, .sl (s_0.sums_.map (D.int .i64)), .int .i64 s_0.aim_]))]) (CallOK.intro (is := [(i0, p0)]) (css := [[.sl (s_0.p_.Tokens.map A_Token.d), .int .i64 s_0.p_.Width, .int .i64 s_0.p_.Rows, .int .i64 s_0.p_.Table.Sg.a0, .int .i64 s_0.p_.Table.Sg.a1, .int .i64 s_0.p_.Table.Sg.a2, .int .i64 s_0.p_.Table.Sg.a3, .int .i64 s_0.p_.Table.Sg.a4, .int .i64 s_0.p_.Table.Sg.a5, .int .i64 s_0.p_.Table.Rgd, .int .i64 s_0.p_.Table.Row, .int .i64 s_0.p_.Table.Event, .int .i64 s_0.p_.Table.Fast, .int .i64 s_0.p_.Table.Gap, .int .i64 s_0.p_.Table.Shot, .sl (s_0.sums_.map (D.int .i64)), .int .i64 s_0.aim_]]) (ds0 := [.ptr 0 0]) (pl := [(0, none)]) hI Tryz.func147 rfl (by decide) (by simp [Tryz.f147]) (by kernel_rfl) rfl rfl rfl rfl (lentAll_of ⟨⟨b0, rfl⟩, trivial⟩) (by simp) ?_) (ro1 b0)
 have dd := And.intro dd_EC <| And.intro dd_EB dd_EA; have k := True.intro; have q := k; have rs := Tryz.results147
 unfold g_rb_sheet_n at h
 simp only [lentH, List.length_cons, List.length_nil, Nat.zero_add, Nat.reduceAdd, Tryz.ntmps147, dd_EC, dd_EB, dd_EA]
 refine xs <| rz ?_
 refine es <| xs <| rz ?_
 refine es <| xr ?_
 cases h
 exact en fp
def g_rb_sheet_length (s_0 : T_rb_sheet) (i_1 : Int) (j_2 : Int) : Option (Int) :=
 ((atI s_0.sums_ j_2).bind fun y9 => ((atI s_0.sums_ i_1).bind fun y11 => (some (IntKind.i64.wrap ((IntKind.i64.wrap ((IntKind.i64.wrap ((IntKind.i64.wrap (y9 - y11)) + j_2)) - i_1)) - 1)))))
theorem a_rb_sheet_length {I : World → Prop} (hI : Stab I) {H : Nat → Option Blk} {nid : Nat} {i0 : Nat} {p0 : Option Nat} {s_0 : T_rb_sheet} {i_1 : Int} {j_2 : Int} {r : Int} (h : g_rb_sheet_length s_0 i_1 j_2 = some r) (b0 : H i0 = some (.box p0 [.sl (s_0.p_.Tokens.map A_Token.d), .int .i64 s_0.p_.Width, .int .i64 s_0.p_.Rows, .int .i64 s_0.p_.Table.Sg.a0, .int .i64 s_0.p_.Table.Sg.a1, .int .i64 s_0.p_.Table.Sg.a2, .int .i64 s_0.p_.Table.Sg.a3, .int .i64 s_0.p_.Table.Sg.a4, .int .i64 s_0.p_.Table.Sg.a5, .int .i64 s_0.p_.Table.Rgd, .int .i64 s_0.p_.Table.Row, .int .i64 s_0.p_.Table.Event, .int .i64 s_0.p_.Table.Fast, .int .i64 s_0.p_.Table.Gap, .int .i64 s_0.p_.Table.Shot, .sl (s_0.sums_.map (D.int .i64)), .int .i64 s_0.aim_])) : CallOK Tryz.prog I 146 [.ptr i0 0, .int .i64 i_1, .int .i64 j_2] H nid (.int .i64 r) [] := by
 refine CallOK.ro (eff := [(i0, some (.box p0 [.sl (s_0.p_.Tokens.map A_Token.d), .int .i64 s_0.p_.Width, .int .i64 s_0.p_.Rows, .int .i64 s_0.p_.Table.Sg.a0, .int .i64 s_0.p_.Table.Sg.a1, .int .i64 s_0.p_.Table.Sg.a2, .int .i64 s_0.p_.Table.Sg.a3, .int .i64 s_0.p_.Table.Sg.a4, .int .i64 s_0.p_.Table.Sg.a5, .int .i64 s_0.p_.Table.Rgd, .int .i64 s_0.p_.Table.Row, .int .i64 s_0.p_.Table.Event, .int .i64 s_0.p_.Table.Fast, .int .i64 s_0.p_.Table.Gap, .int .i64 s_0.p_.Table.Shot, .sl (s_0.sums_.map (D.int .i64)), .int .i64 s_0.aim_]))]) (CallOK.intro (is := [(i0, p0)]) (css := [[.sl (s_0.p_.Tokens.map A_Token.d), .int .i64 s_0.p_.Width, .int .i64 s_0.p_.Rows, .int .i64 s_0.p_.Table.Sg.a0, .int .i64 s_0.p_.Table.Sg.a1, .int .i64 s_0.p_.Table.Sg.a2, .int .i64 s_0.p_.Table.Sg.a3, .int .i64 s_0.p_.Table.Sg.a4, .int .i64 s_0.p_.Table.Sg.a5, .int .i64 s_0.p_.Table.Rgd, .int .i64 s_0.p_.Table.Row, .int .i64 s_0.p_.Table.Event, .int .i64 s_0.p_.Table.Fast, .int .i64 s_0.p_.Table.Gap, .int .i64 s_0.p_.Table.Shot, .sl (s_0.sums_.map (D.int .i64)), .int .i64 s_0.aim_]]) (ds0 := [.ptr 0 0, .int .i64 i_1, .int .i64 j_2]) (pl := [(0, none)]) hI Tryz.func146 rfl (by decide) (by simp [Tryz.f146]) (by kernel_rfl) rfl rfl rfl rfl (lentAll_of ⟨⟨b0, rfl⟩, trivial⟩) (by simp) ?_) (ro1 b0)
 have dd := And.intro dd_EC <| And.intro dd_EB dd_EA; have k := True.intro; have q := k; have rs := Tryz.results146
 unfold g_rb_sheet_length at h
 simp only [lentH, List.length_cons, List.length_nil, Nat.zero_add, Nat.reduceAdd, Tryz.ntmps146, dd_EC, dd_EB, dd_EA]
 refine xs <| rz ?_
 refine es <| xs <| rD hI fun K8 RK8 hK8 gK8 => zz ?_
 obtain ⟨y9, q, h⟩ := bK q h
 refine zz ?_
 obtain ⟨y11, q, h⟩ := bK q h
 refine zz ?_
 subst hK8 gK8
 refine es <| xr ?_
 cases h
 exact en fp
def g_rb_open_s1 (p_0 : A_Pg) (x7 : Int × (List Int)) : Option (Nx (Int × (List Int)) ((List Int))) :=
 (if (decide (x7.1 < (p_0.Tokens.length : Int))) then ((atI p_0.Tokens x7.1).bind fun y87 => ((atI x7.2 x7.1).bind fun y90 => ((g_ch_Len y87.Text).bind fun r91 => (if (x7.2.length + 1) * 8 ≤ 140737488355328 then (some (.go ((IntKind.i64.wrap (x7.1 + 1)), (x7.2 ++ [(IntKind.i64.wrap (y90 + r91))])))) else none)))) else (some (.out x7.2)))
def g_rb_open (p_0 : A_Pg) : Option (T_rb_sheet) :=
 ((iter (g_rb_open_s1 p_0) (0, [0])).bind fun e8 => ((g_rb_sheet_n (T_rb_sheet.mk p_0 e8 0)).bind fun r105 => ((g_rb_sheet_length (T_rb_sheet.mk p_0 e8 0) 0 r105).bind fun r107 => ((g_pn_Aim r107 p_0.Width).bind fun r109 => (some (T_rb_sheet.mk p_0 e8 r109.1))))))
theorem a_rb_open {I : World → Prop} (hI : Stab I) (hU8T : ∀ w, I w → U8T w) {H : Nat → Option Blk} {nid : Nat} {p_0 : A_Pg} {r : T_rb_sheet} (h : g_rb_open p_0 = some r) : CallOK Tryz.prog I 112 [A_Pg.d p_0] H nid (.ptr nid 0) [(nid, some (.box none [.sl (r.p_.Tokens.map A_Token.d), .int .i64 r.p_.Width, .int .i64 r.p_.Rows, .int .i64 r.p_.Table.Sg.a0, .int .i64 r.p_.Table.Sg.a1, .int .i64 r.p_.Table.Sg.a2, .int .i64 r.p_.Table.Sg.a3, .int .i64 r.p_.Table.Sg.a4, .int .i64 r.p_.Table.Sg.a5, .int .i64 r.p_.Table.Rgd, .int .i64 r.p_.Table.Row, .int .i64 r.p_.Table.Event, .int .i64 r.p_.Table.Fast, .int .i64 r.p_.Table.Gap, .int .i64 r.p_.Table.Shot, .sl (r.sums_.map (D.int .i64)), .int .i64 r.aim_]))] := by
 refine CallOK.intro (is := []) (css := []) (ds0 := [A_Pg.d p_0]) (pl := []) hI Tryz.func112 rfl (by decide) (by simp [Tryz.f112]) (by kernel_rfl) rfl rfl rfl rfl (lentAll_of trivial) (by simp) ?_
 have dd := And.intro dd_EC <| And.intro dd_EB dd_EA; have k := True.intro; have q := k; have rs := Tryz.results112
 unfold g_rb_open at h
 simp only [lentH, List.length_cons, List.length_nil, Nat.zero_add, Nat.reduceAdd, Tryz.ntmps112, dd_EC, dd_EB, dd_EA]
 refine xs <| rz ?_
 refine es <| xs <| rz ?_
 refine es <| xs <| xs <| rz ?_
 refine es <| xb ?_
 obtain ⟨e8, h96, h⟩ := bs h
 refine rb_loop (fun x7 => ⟨envL [(1, .ptr 0 0), (3, .ptr 1 0), (11, .sl (p_0.Tokens.map A_Token.d)), (12, .int .i64 (p_0.Tokens.length : Int)), (13, .int .i64 x7.1)], heapL [(0, .box none [.sl (p_0.Tokens.map A_Token.d), .int .i64 p_0.Width, .int .i64 p_0.Rows, .int .i64 p_0.Table.Sg.a0, .int .i64 p_0.Table.Sg.a1, .int .i64 p_0.Table.Sg.a2, .int .i64 p_0.Table.Sg.a3, .int .i64 p_0.Table.Sg.a4, .int .i64 p_0.Table.Sg.a5, .int .i64 p_0.Table.Rgd, .int .i64 p_0.Table.Row, .int .i64 p_0.Table.Event, .int .i64 p_0.Table.Fast, .int .i64 p_0.Table.Gap, .int .i64 p_0.Table.Shot]), (1, .box none [.sl (p_0.Tokens.map A_Token.d), .int .i64 p_0.Width, .int .i64 p_0.Rows, .int .i64 p_0.Table.Sg.a0, .int .i64 p_0.Table.Sg.a1, .int .i64 p_0.Table.Sg.a2, .int .i64 p_0.Table.Sg.a3, .int .i64 p_0.Table.Sg.a4, .int .i64 p_0.Table.Sg.a5, .int .i64 p_0.Table.Rgd, .int .i64 p_0.Table.Row, .int .i64 p_0.Table.Event, .int .i64 p_0.Table.Fast, .int .i64 p_0.Table.Gap, .int .i64 p_0.Table.Shot, .own 2 x7.2.length, .int .i64 0]), (2, .vec 3 1 (x7.2.map (D.int .i64)) false)], 3, 53⟩) (fun _ => .exit 0) (fun e8 => ⟨envL [(1, .ptr 0 0), (3, .ptr 1 0)], heapL [(0, .box none [.sl (p_0.Tokens.map A_Token.d), .int .i64 p_0.Width, .int .i64 p_0.Rows, .int .i64 p_0.Table.Sg.a0, .int .i64 p_0.Table.Sg.a1, .int .i64 p_0.Table.Sg.a2, .int .i64 p_0.Table.Sg.a3, .int .i64 p_0.Table.Sg.a4, .int .i64 p_0.Table.Sg.a5, .int .i64 p_0.Table.Rgd, .int .i64 p_0.Table.Row, .int .i64 p_0.Table.Event, .int .i64 p_0.Table.Fast, .int .i64 p_0.Table.Gap, .int .i64 p_0.Table.Shot]), (1, .box none [.sl (p_0.Tokens.map A_Token.d), .int .i64 p_0.Width, .int .i64 p_0.Rows, .int .i64 p_0.Table.Sg.a0, .int .i64 p_0.Table.Sg.a1, .int .i64 p_0.Table.Sg.a2, .int .i64 p_0.Table.Sg.a3, .int .i64 p_0.Table.Sg.a4, .int .i64 p_0.Table.Sg.a5, .int .i64 p_0.Table.Rgd, .int .i64 p_0.Table.Row, .int .i64 p_0.Table.Event, .int .i64 p_0.Table.Fast, .int .i64 p_0.Table.Gap, .int .i64 p_0.Table.Shot, .sl (e8.map (D.int .i64)), .int .i64 0])], 2, 53⟩) h96 (wk [(1, some 5), (2, some 3)]) (by intro w; simp) ?_ ?_
 ·clear h
  intro x7 y h
  unfold g_rb_open_s1 at h
  refine xs <| rz ?_
  refine es <| xs ?_
  obtain ⟨k,h⟩|⟨k,h⟩:=iK k h
  ·refine xt <| xk <| es <| xs <| xb <| xs <| rK fun K86 RK86 hK86 gK86 => zz ?_
   obtain ⟨y87, q, h⟩ := bK q h
   refine zz ?_
   subst hK86 gK86
   refine es <| rD hI fun K89 RK89 hK89 gK89 => zz ?_
   obtain ⟨y90, q, h⟩ := oN q h
   refine zz ?_
   obtain ⟨r91, h92, h⟩ := bs h
   refine cd (a_ch_Len hI hU8T h92) <| zz ?_
   obtain ⟨h93, h⟩ := ite_on h
   have h94 : x7.2.length + 1 ≤ 9223372036854775807 := by omega
   try simp only [Nat.reduceLeDiff] at h94
   have q := And.intro @h94 <| And.intro @h93 <| q
   refine zz ?_
   refine hd <| zz ?_
   refine hd <| zz ?_
   subst hK89 gK89
   refine bn <| es <| rz ?_
   cases h
   exact en ⟨rfl, wk [(2, some 27)]⟩
  ·refine xf <| xx <| ee ?_
   cases h
   exact en ⟨rfl, ((Wk.pubBox (id := 1) (c := 15) (j := 2) fz fz fz fs (by decide)).trans (wk []))⟩
 ·refine bh <| es <| xs <| rD hI fun K104 RK104 hK104 gK104 => zz ?_
  obtain ⟨r105, h106, h⟩ := bs h
  refine eD.intro (fun H' ho hs => a_rb_sheet_n hI (H := H') (nid := 5) (i0 := 1) (p0 := none) h106 (ho 1 _ (by dsimp only; decide) fz)) fi rfl fk <| zz ?_
  obtain ⟨r107, h108, h⟩ := bs h
  refine eD.intro (fun H' ho hs => a_rb_sheet_length hI (H := H') (nid := 6) (i0 := 1) (p0 := none) h108 (ho 1 _ (by dsimp only; decide) fz)) fi rfl fk <| zz ?_
  obtain ⟨r109, h110, h⟩ := bs h
  refine cd (a_pn_Aim hI h110) <| zz ?_
  refine hd <| zz ?_
  subst hK104 gK104
  refine es <| xs <| rz ?_
  refine es <| xr ?_
  cases h
  exact en fp
def g_rb_sheet_fits (s_0 : T_rb_sheet) (i_1 : Int) (j_2 : Int) : Option (Bool) :=
 ((g_rb_sheet_length s_0 i_1 j_2).bind fun r7 => (some (decide (r7 ≤ s_0.p_.Width))))
theorem a_rb_sheet_fits {I : World → Prop} (hI : Stab I) {H : Nat → Option Blk} {nid : Nat} {i0 : Nat} {p0 : Option Nat} {s_0 : T_rb_sheet} {i_1 : Int} {j_2 : Int} {r : Bool} (h : g_rb_sheet_fits s_0 i_1 j_2 = some r) (b0 : H i0 = some (.box p0 [.sl (s_0.p_.Tokens.map A_Token.d), .int .i64 s_0.p_.Width, .int .i64 s_0.p_.Rows, .int .i64 s_0.p_.Table.Sg.a0, .int .i64 s_0.p_.Table.Sg.a1, .int .i64 s_0.p_.Table.Sg.a2, .int .i64 s_0.p_.Table.Sg.a3, .int .i64 s_0.p_.Table.Sg.a4, .int .i64 s_0.p_.Table.Sg.a5, .int .i64 s_0.p_.Table.Rgd, .int .i64 s_0.p_.Table.Row, .int .i64 s_0.p_.Table.Event, .int .i64 s_0.p_.Table.Fast, .int .i64 s_0.p_.Table.Gap, .int .i64 s_0.p_.Table.Shot, .sl (s_0.sums_.map (D.int .i64)), .int .i64 s_0.aim_])) : CallOK Tryz.prog I 114 [.ptr i0 0, .int .i64 i_1, .int .i64 j_2] H nid (.bool r) [] := by
 refine CallOK.ro (eff := [(i0, some (.box p0 [.sl (s_0.p_.Tokens.map A_Token.d), .int .i64 s_0.p_.Width, .int .i64 s_0.p_.Rows, .int .i64 s_0.p_.Table.Sg.a0, .int .i64 s_0.p_.Table.Sg.a1, .int .i64 s_0.p_.Table.Sg.a2, .int .i64 s_0.p_.Table.Sg.a3, .int .i64 s_0.p_.Table.Sg.a4, .int .i64 s_0.p_.Table.Sg.a5, .int .i64 s_0.p_.Table.Rgd, .int .i64 s_0.p_.Table.Row, .int .i64 s_0.p_.Table.Event, .int .i64 s_0.p_.Table.Fast, .int .i64 s_0.p_.Table.Gap, .int .i64 s_0.p_.Table.Shot, .sl (s_0.sums_.map (D.int .i64)), .int .i64 s_0.aim_]))]) (CallOK.intro (is := [(i0, p0)]) (css := [[.sl (s_0.p_.Tokens.map A_Token.d), .int .i64 s_0.p_.Width, .int .i64 s_0.p_.Rows, .int .i64 s_0.p_.Table.Sg.a0, .int .i64 s_0.p_.Table.Sg.a1, .int .i64 s_0.p_.Table.Sg.a2, .int .i64 s_0.p_.Table.Sg.a3, .int .i64 s_0.p_.Table.Sg.a4, .int .i64 s_0.p_.Table.Sg.a5, .int .i64 s_0.p_.Table.Rgd, .int .i64 s_0.p_.Table.Row, .int .i64 s_0.p_.Table.Event, .int .i64 s_0.p_.Table.Fast, .int .i64 s_0.p_.Table.Gap, .int .i64 s_0.p_.Table.Shot, .sl (s_0.sums_.map (D.int .i64)), .int .i64 s_0.aim_]]) (ds0 := [.ptr 0 0, .int .i64 i_1, .int .i64 j_2]) (pl := [(0, none)]) hI Tryz.func114 rfl (by decide) (by simp [Tryz.f114]) (by kernel_rfl) rfl rfl rfl rfl (lentAll_of ⟨⟨b0, rfl⟩, trivial⟩) (by simp) ?_) (ro1 b0)
 have dd := And.intro dd_EC <| And.intro dd_EB dd_EA; have k := True.intro; have q := k; have rs := Tryz.results114
 unfold g_rb_sheet_fits at h
 simp only [lentH, List.length_cons, List.length_nil, Nat.zero_add, Nat.reduceAdd, Tryz.ntmps114, dd_EC, dd_EB, dd_EA]
 refine xs <| rz ?_
 refine es <| xs <| rD hI fun K6 RK6 hK6 gK6 => zz ?_
 obtain ⟨r7, h8, h⟩ := bs h
 refine eD.intro (fun H' ho hs => a_rb_sheet_length hI (H := H') (nid := 5) (i0 := 0) (p0 := (some 0)) h8 (ho 0 _ (by dsimp only; decide) fz)) fi rfl fk <| zz ?_
 subst hK6 gK6
 refine es <| xr ?_
 cases h
 exact en fp
def g_rb_sheet_cost (s_0 : T_rb_sheet) (i_1 : Int) (j_2 : Int) : Option (Int) :=
 ((g_rb_sheet_n s_0).bind fun r9 => (if (decide (j_2 < r9)) then ((atI s_0.p_.Tokens (IntKind.i64.wrap (j_2 - 1))).bind fun y13 => ((g_rb_sheet_length s_0 i_1 j_2).bind fun r21 => ((g_pn_Row s_0.p_.Table s_0.aim_ r21 y13.Sg).bind fun r23 => (some r23.1)))) else ((g_rb_sheet_length s_0 i_1 j_2).bind fun r33 => ((g_pn_Row s_0.p_.Table s_0.aim_ r33 (-1)).bind fun r35 => (some r35.1)))))
theorem a_rb_sheet_cost {I : World → Prop} (hI : Stab I) {H : Nat → Option Blk} {nid : Nat} {i0 : Nat} {p0 : Option Nat} {s_0 : T_rb_sheet} {i_1 : Int} {j_2 : Int} {r : Int} (h : g_rb_sheet_cost s_0 i_1 j_2 = some r) (b0 : H i0 = some (.box p0 [.sl (s_0.p_.Tokens.map A_Token.d), .int .i64 s_0.p_.Width, .int .i64 s_0.p_.Rows, .int .i64 s_0.p_.Table.Sg.a0, .int .i64 s_0.p_.Table.Sg.a1, .int .i64 s_0.p_.Table.Sg.a2, .int .i64 s_0.p_.Table.Sg.a3, .int .i64 s_0.p_.Table.Sg.a4, .int .i64 s_0.p_.Table.Sg.a5, .int .i64 s_0.p_.Table.Rgd, .int .i64 s_0.p_.Table.Row, .int .i64 s_0.p_.Table.Event, .int .i64 s_0.p_.Table.Fast, .int .i64 s_0.p_.Table.Gap, .int .i64 s_0.p_.Table.Shot, .sl (s_0.sums_.map (D.int .i64)), .int .i64 s_0.aim_])) : CallOK Tryz.prog I 115 [.ptr i0 0, .int .i64 i_1, .int .i64 j_2] H nid (.int .i64 r) [] := by
 refine CallOK.ro (eff := [(i0, some (.box p0 [.sl (s_0.p_.Tokens.map A_Token.d), .int .i64 s_0.p_.Width, .int .i64 s_0.p_.Rows, .int .i64 s_0.p_.Table.Sg.a0, .int .i64 s_0.p_.Table.Sg.a1, .int .i64 s_0.p_.Table.Sg.a2, .int .i64 s_0.p_.Table.Sg.a3, .int .i64 s_0.p_.Table.Sg.a4, .int .i64 s_0.p_.Table.Sg.a5, .int .i64 s_0.p_.Table.Rgd, .int .i64 s_0.p_.Table.Row, .int .i64 s_0.p_.Table.Event, .int .i64 s_0.p_.Table.Fast, .int .i64 s_0.p_.Table.Gap, .int .i64 s_0.p_.Table.Shot, .sl (s_0.sums_.map (D.int .i64)), .int .i64 s_0.aim_]))]) (CallOK.intro (is := [(i0, p0)]) (css := [[.sl (s_0.p_.Tokens.map A_Token.d), .int .i64 s_0.p_.Width, .int .i64 s_0.p_.Rows, .int .i64 s_0.p_.Table.Sg.a0, .int .i64 s_0.p_.Table.Sg.a1, .int .i64 s_0.p_.Table.Sg.a2, .int .i64 s_0.p_.Table.Sg.a3, .int .i64 s_0.p_.Table.Sg.a4, .int .i64 s_0.p_.Table.Sg.a5, .int .i64 s_0.p_.Table.Rgd, .int .i64 s_0.p_.Table.Row, .int .i64 s_0.p_.Table.Event, .int .i64 s_0.p_.Table.Fast, .int .i64 s_0.p_.Table.Gap, .int .i64 s_0.p_.Table.Shot, .sl (s_0.sums_.map (D.int .i64)), .int .i64 s_0.aim_]]) (ds0 := [.ptr 0 0, .int .i64 i_1, .int .i64 j_2]) (pl := [(0, none)]) hI Tryz.func115 rfl (by decide) (by simp [Tryz.f115]) (by kernel_rfl) rfl rfl rfl rfl (lentAll_of ⟨⟨b0, rfl⟩, trivial⟩) (by simp) ?_) (ro1 b0)
 have dd := And.intro dd_EC <| And.intro dd_EB dd_EA; have k := True.intro; have q := k; have rs := Tryz.results115
 unfold g_rb_sheet_cost at h
 simp only [lentH, List.length_cons, List.length_nil, Nat.zero_add, Nat.reduceAdd, Tryz.ntmps115, dd_EC, dd_EB, dd_EA]
 refine xs <| rz ?_
 refine es <| xs <| rz ?_
 refine es <| xs <| xs <| rK fun K8 RK8 hK8 gK8 => zz ?_
 obtain ⟨r9, h10, h⟩ := bs h
 refine eW.intro (a_rb_sheet_n hI (nid := 5) (i0 := 0) (p0 := (some 0)) h10 fz) fi rfl <| zz ?_
 subst hK8 gK8
 refine es ?_
 obtain ⟨k,h⟩|⟨k,h⟩:=iK k h
 ·refine xt <| rK fun K12 RK12 hK12 gK12 => zz ?_
  obtain ⟨y13, q, h⟩ := bK q h
  refine zz ?_
  subst hK12 gK12
  refine es <| xs <| rD hI fun K20 RK20 hK20 gK20 => zz ?_
  obtain ⟨r21, h22, h⟩ := bs h
  refine eD.intro (fun H' ho hs => a_rb_sheet_length hI (H := H') (nid := 30) (i0 := 0) (p0 := (some 0)) h22 (ho 0 _ (by dsimp only; decide) fz)) fi rfl fk <| zz ?_
  obtain ⟨r23, h24, h⟩ := bs h
  refine cd (a_pn_Row hI h24) <| zz ?_
  subst hK20 gK20
  refine es <| xs <| rz ?_
  refine es <| xr ?_
  cases h
  exact en fp
 ·refine xf <| xk <| es <| xs <| rD hI fun K32 RK32 hK32 gK32 => zz ?_
  obtain ⟨r33, h34, h⟩ := bs h
  refine eD.intro (fun H' ho hs => a_rb_sheet_length hI (H := H') (nid := 19) (i0 := 0) (p0 := (some 0)) h34 (ho 0 _ (by dsimp only; decide) fz)) fi rfl fk <| zz ?_
  obtain ⟨r35, h36, h⟩ := bs h
  refine cd (a_pn_Row hI h36) <| zz ?_
  subst hK32 gK32
  refine es <| xs <| rz ?_
  refine es <| xr ?_
  cases h
  exact en fp
def g_rb_sheet_exact_s3 (s_0 : T_rb_sheet) (r7 : Int) (x27 : Int × (List (List Int))) (x9871 : Int × (List Int)) (x11495 : Int × (List Int)) : Option (Nx (Int × (List Int)) ((List Int))) :=
 (((if (decide (x11495.1 ≤ r7)) then ((g_rb_sheet_fits s_0 x9871.1 x11495.1).bind fun r11696 => (some r11696)) else (some false)) : Option (Bool)).bind fun v11693 => (if v11693 then ((atI x27.2 (IntKind.i64.wrap (x27.1 - 1))).bind fun y11748 => (if ¬ (IntKind.i64.wrap (x27.1 - 1)) = x27.1 then ((atI y11748 x11495.1).bind fun y11751 => (if (y11751 == (-1)) then (some (.go ((IntKind.i64.wrap (x11495.1 + 1)), x11495.2))) else ((g_rb_sheet_cost s_0 x9871.1 x11495.1).bind fun r11761 => ((((atI x11495.2 x9871.1).bind fun y11770 => (if (y11770 == (-1)) then (some true) else (some (decide ((IntKind.i64.wrap (r11761 + y11751)) < y11770))))) : Option (Bool)).bind fun v11767 => (if v11767 then ((atI x11495.2 x9871.1).bind fun y11776 => ((setI x11495.2 x9871.1 (IntKind.i64.wrap (r11761 + y11751))).bind fun m11777 => (some (.go ((IntKind.i64.wrap (x11495.1 + 1)), m11777))))) else (some (.go ((IntKind.i64.wrap (x11495.1 + 1)), x11495.2)))))))) else none)) else (some (.out x11495.2))))
def g_rb_sheet_exact_s2 (s_0 : T_rb_sheet) (r7 : Int) (x27 : Int × (List (List Int))) (m9858 : List Int) (x9871 : Int × (List Int)) : Option (Nx (Int × (List Int)) ((List Int))) :=
 (if (decide (x9871.1 < ((m9858.length : Nat) : Int))) then ((atI x9871.2 x9871.1).bind fun y11482 => ((setI x9871.2 x9871.1 (-1)).bind fun m11483 => (if (x27.1 == 0) then (some (.go ((IntKind.i64.wrap (x9871.1 + 1)), m11483))) else ((iter (g_rb_sheet_exact_s3 s_0 r7 x27 x9871) ((IntKind.i64.wrap (x9871.1 + 1)), m11483)).bind fun e11496 => (some (.go ((IntKind.i64.wrap (x9871.1 + 1)), e11496))))))) else (some (.out x9871.2)))
def g_rb_sheet_exact_s1 (s_0 : T_rb_sheet) (r7 : Int) (m18 : List (List Int)) (x27 : Int × (List (List Int))) : Option (Nx (Int × (List (List Int))) ((List (List Int)))) :=
 (if (decide (x27.1 < ((m18.length : Nat) : Int))) then ((mkI 8 (IntKind.i64.wrap (r7 + 1)) (0 : Int)).bind fun m9858 => ((atI x27.2 x27.1).bind fun y9865 => ((iter (g_rb_sheet_exact_s2 s_0 r7 x27 m9858) (0, m9858)).bind fun e9872 => (if (x27.1 == 0) then ((atI x27.2 0).bind fun y11792 => ((atI e9872 r7).bind fun y11798 => ((setI e9872 r7 0).bind fun m11799 => (some (.go ((IntKind.i64.wrap (x27.1 + 1)), (x27.2.set x27.1.toNat m11799))))))) else (some (.go ((IntKind.i64.wrap (x27.1 + 1)), (x27.2.set x27.1.toNat e9872)))))))) else (some (.out x27.2)))
def g_rb_sheet_exact (s_0 : T_rb_sheet) : Option ((List (List Int))) :=
 ((g_rb_sheet_n s_0).bind fun r7 => ((mkI 24 (IntKind.i64.wrap (s_0.p_.Rows + 1)) ([] : List Int)).bind fun m18 => ((iter (g_rb_sheet_exact_s1 s_0 r7 m18) (0, m18)).bind fun e28 => (some e28))))
theorem a_rb_sheet_exact {I : World → Prop} (hI : Stab I) {H : Nat → Option Blk} {nid : Nat} {i0 : Nat} {p0 : Option Nat} {s_0 : T_rb_sheet} {r : (List (List Int))} (h : g_rb_sheet_exact s_0 = some r) (b0 : H i0 = some (.box p0 [.sl (s_0.p_.Tokens.map A_Token.d), .int .i64 s_0.p_.Width, .int .i64 s_0.p_.Rows, .int .i64 s_0.p_.Table.Sg.a0, .int .i64 s_0.p_.Table.Sg.a1, .int .i64 s_0.p_.Table.Sg.a2, .int .i64 s_0.p_.Table.Sg.a3, .int .i64 s_0.p_.Table.Sg.a4, .int .i64 s_0.p_.Table.Sg.a5, .int .i64 s_0.p_.Table.Rgd, .int .i64 s_0.p_.Table.Row, .int .i64 s_0.p_.Table.Event, .int .i64 s_0.p_.Table.Fast, .int .i64 s_0.p_.Table.Gap, .int .i64 s_0.p_.Table.Shot, .sl (s_0.sums_.map (D.int .i64)), .int .i64 s_0.aim_])) : CallOK Tryz.prog I 113 [.ptr i0 0] H nid (.sl (r.map dlI)) [] := by
 refine CallOK.ro (eff := [(i0, some (.box p0 [.sl (s_0.p_.Tokens.map A_Token.d), .int .i64 s_0.p_.Width, .int .i64 s_0.p_.Rows, .int .i64 s_0.p_.Table.Sg.a0, .int .i64 s_0.p_.Table.Sg.a1, .int .i64 s_0.p_.Table.Sg.a2, .int .i64 s_0.p_.Table.Sg.a3, .int .i64 s_0.p_.Table.Sg.a4, .int .i64 s_0.p_.Table.Sg.a5, .int .i64 s_0.p_.Table.Rgd, .int .i64 s_0.p_.Table.Row, .int .i64 s_0.p_.Table.Event, .int .i64 s_0.p_.Table.Fast, .int .i64 s_0.p_.Table.Gap, .int .i64 s_0.p_.Table.Shot, .sl (s_0.sums_.map (D.int .i64)), .int .i64 s_0.aim_]))]) (CallOK.intro (is := [(i0, p0)]) (css := [[.sl (s_0.p_.Tokens.map A_Token.d), .int .i64 s_0.p_.Width, .int .i64 s_0.p_.Rows, .int .i64 s_0.p_.Table.Sg.a0, .int .i64 s_0.p_.Table.Sg.a1, .int .i64 s_0.p_.Table.Sg.a2, .int .i64 s_0.p_.Table.Sg.a3, .int .i64 s_0.p_.Table.Sg.a4, .int .i64 s_0.p_.Table.Sg.a5, .int .i64 s_0.p_.Table.Rgd, .int .i64 s_0.p_.Table.Row, .int .i64 s_0.p_.Table.Event, .int .i64 s_0.p_.Table.Fast, .int .i64 s_0.p_.Table.Gap, .int .i64 s_0.p_.Table.Shot, .sl (s_0.sums_.map (D.int .i64)), .int .i64 s_0.aim_]]) (ds0 := [.ptr 0 0]) (pl := [(0, none)]) hI Tryz.func113 rfl (by decide) (by simp [Tryz.f113]) (by kernel_rfl) rfl rfl rfl rfl (lentAll_of ⟨⟨b0, rfl⟩, trivial⟩) (by simp) ?_) (ro1 b0)
 have dd := And.intro dd_EC <| And.intro dd_EB dd_EA; have k := True.intro; have q := k; have rs := Tryz.results113
 unfold g_rb_sheet_exact at h
 simp only [lentH, List.length_cons, List.length_nil, Nat.zero_add, Nat.reduceAdd, Tryz.ntmps113, dd_EC, dd_EB, dd_EA]
 refine xs <| rz ?_
 refine es <| xs <| rK fun K6 RK6 hK6 gK6 => zz ?_
 obtain ⟨r7, h8, h⟩ := bs h
 refine eW.intro (a_rb_sheet_n hI (nid := 3) (i0 := 0) (p0 := (some 0)) h8 fz) fi rfl <| zz ?_
 subst hK6 gK6
 refine es <| xs <| rK fun K17 RK17 hK17 gK17 => zz ?_
 obtain ⟨m18, h19, h⟩ := bind_some h
 obtain ⟨h20, h21, h22, h23, h24⟩ := mkI_some h19
 have h24 := h24 dlI
 try simp only [sevalprocAttr, List.map_nil, Int.toNat_natCast, dd] at h23 h24
 have q := And.intro @h20 <| And.intro @h21 <| And.intro @h22 <| And.intro @h23 <| And.intro @h24 <| q
 refine zz ?_
 subst hK17 gK17
 refine es <| xs <| xs <| rz ?_
 refine es <| xb ?_
 obtain ⟨e28, h11807, h⟩ := bs h
 refine rb_loop (fun x27 => ⟨envL [(0, .ptr 0 0), (3, .int .i64 r7), (4, .own 1 x27.2.length), (20, .int .i64 ((m18.length : Nat) : Int)), (21, .int .i64 x27.1)], heapL [(0, .box (some 0) [.sl (s_0.p_.Tokens.map A_Token.d), .int .i64 s_0.p_.Width, .int .i64 s_0.p_.Rows, .int .i64 s_0.p_.Table.Sg.a0, .int .i64 s_0.p_.Table.Sg.a1, .int .i64 s_0.p_.Table.Sg.a2, .int .i64 s_0.p_.Table.Sg.a3, .int .i64 s_0.p_.Table.Sg.a4, .int .i64 s_0.p_.Table.Sg.a5, .int .i64 s_0.p_.Table.Rgd, .int .i64 s_0.p_.Table.Row, .int .i64 s_0.p_.Table.Event, .int .i64 s_0.p_.Table.Fast, .int .i64 s_0.p_.Table.Gap, .int .i64 s_0.p_.Table.Shot, .sl (s_0.sums_.map (D.int .i64)), .int .i64 s_0.aim_]), (1, .vec 24 1 (x27.2.map dlI) false)], 2, 111⟩) (fun _ => .exit 0) (fun e28 => ⟨envL [(0, .ptr 0 0), (4, .own 1 e28.length)], heapL [(0, .box (some 0) [.sl (s_0.p_.Tokens.map A_Token.d), .int .i64 s_0.p_.Width, .int .i64 s_0.p_.Rows, .int .i64 s_0.p_.Table.Sg.a0, .int .i64 s_0.p_.Table.Sg.a1, .int .i64 s_0.p_.Table.Sg.a2, .int .i64 s_0.p_.Table.Sg.a3, .int .i64 s_0.p_.Table.Sg.a4, .int .i64 s_0.p_.Table.Sg.a5, .int .i64 s_0.p_.Table.Rgd, .int .i64 s_0.p_.Table.Row, .int .i64 s_0.p_.Table.Event, .int .i64 s_0.p_.Table.Fast, .int .i64 s_0.p_.Table.Gap, .int .i64 s_0.p_.Table.Shot, .sl (s_0.sums_.map (D.int .i64)), .int .i64 s_0.aim_]), (1, .vec 24 1 (e28.map dlI) false)], 2, 111⟩) h11807 (wk [(1, some 11)]) (by intro w; simp) ?_ ?_
 ·clear h
  intro x27 y h
  unfold g_rb_sheet_exact_s1 at h
  refine xs <| rz ?_
  refine es <| xs ?_
  obtain ⟨k,h⟩|⟨k,h⟩:=iK k h
  ·refine xt <| xk <| es <| xs <| xb <| xs <| rz ?_
   refine es <| xs <| rK fun K9857 RK9857 hK9857 gK9857 => zz ?_
   obtain ⟨m9858, h9859, h⟩ := bind_some h
   obtain ⟨h9860, h9861, h9862, h9863, h9864⟩ := mkI_some h9859
   have h9864 := h9864 (D.int .i64)
   try simp only [sevalprocAttr, List.map_nil, Int.toNat_natCast, dd] at h9863 h9864
   have q := And.intro @h9860 <| And.intro @h9861 <| And.intro @h9862 <| And.intro @h9863 <| And.intro @h9864 <| q
   refine zz ?_
   obtain ⟨y9865, q, h⟩ := oN q h
   refine zz ?_
   have h9866 : x27.1.toNat < x27.2.length := by omega
   have q := And.intro @h9866 <| q
   refine zz ?_
   subst hK9857 gK9857
   refine es <| xs <| xs <| rK fun K9869 RK9869 hK9869 gK9869 => zz ?_
   have h9870 := mat_at (f := dlI) (L := x27.2) (i := x27.1.toNat) (x := .own 9 m9858.length) (by omega)
   have q := And.intro @h9870 <| q
   refine zz ?_
   subst hK9869 gK9869
   refine es <| xb ?_
   obtain ⟨e9872, h11787, h⟩ := bs h
   refine rb_loop (fun x9871 => ⟨envL [(0, .ptr 0 0), (3, .int .i64 r7), (4, .own 1 x27.2.length), (5, .int .i64 x27.1), (20, .int .i64 ((m18.length : Nat) : Int)), (21, .int .i64 x27.1), (34, .int .i64 ((m9858.length : Nat) : Int)), (35, .int .i64 x9871.1)], heapL [(0, .box (some 0) [.sl (s_0.p_.Tokens.map A_Token.d), .int .i64 s_0.p_.Width, .int .i64 s_0.p_.Rows, .int .i64 s_0.p_.Table.Sg.a0, .int .i64 s_0.p_.Table.Sg.a1, .int .i64 s_0.p_.Table.Sg.a2, .int .i64 s_0.p_.Table.Sg.a3, .int .i64 s_0.p_.Table.Sg.a4, .int .i64 s_0.p_.Table.Sg.a5, .int .i64 s_0.p_.Table.Rgd, .int .i64 s_0.p_.Table.Row, .int .i64 s_0.p_.Table.Event, .int .i64 s_0.p_.Table.Fast, .int .i64 s_0.p_.Table.Gap, .int .i64 s_0.p_.Table.Shot, .sl (s_0.sums_.map (D.int .i64)), .int .i64 s_0.aim_]), (1, .mat 24 1 ((x27.2.map dlI).set x27.1.toNat (.own 2 x9871.2.length))), (2, .vec 2 1 (x9871.2.map (D.int .i64)) false)], 3, 111⟩) (fun _ => .exit 2) (fun e9872 => ⟨envL [(0, .ptr 0 0), (3, .int .i64 r7), (4, .own 1 x27.2.length), (5, .int .i64 x27.1), (20, .int .i64 ((m18.length : Nat) : Int)), (21, .int .i64 x27.1)], heapL [(0, .box (some 0) [.sl (s_0.p_.Tokens.map A_Token.d), .int .i64 s_0.p_.Width, .int .i64 s_0.p_.Rows, .int .i64 s_0.p_.Table.Sg.a0, .int .i64 s_0.p_.Table.Sg.a1, .int .i64 s_0.p_.Table.Sg.a2, .int .i64 s_0.p_.Table.Sg.a3, .int .i64 s_0.p_.Table.Sg.a4, .int .i64 s_0.p_.Table.Sg.a5, .int .i64 s_0.p_.Table.Rgd, .int .i64 s_0.p_.Table.Row, .int .i64 s_0.p_.Table.Event, .int .i64 s_0.p_.Table.Fast, .int .i64 s_0.p_.Table.Gap, .int .i64 s_0.p_.Table.Shot, .sl (s_0.sums_.map (D.int .i64)), .int .i64 s_0.aim_]), (1, .mat 24 1 ((x27.2.map dlI).set x27.1.toNat (.own 2 e9872.length))), (2, .vec 2 1 (e9872.map (D.int .i64)) false)], 3, 111⟩) h11787 (wk [(2, some 9)]) (by intro w; simp) ?_ ?_
   ·clear h
    intro x9871 y h
    unfold g_rb_sheet_exact_s2 at h
    refine xs <| rz ?_
    refine es <| xs ?_
    obtain ⟨k,h⟩|⟨k,h⟩:=iK k h
    ·refine xt <| xk <| es <| xs <| xb <| xs <| rz ?_
     refine es <| xs <| rK fun K11480 RK11480 hK11480 gK11480 => zz ?_
     have h11481 := mat_at (f := dlI) (L := x27.2) (i := x27.1.toNat) (x := .own 2 x9871.2.length) (by omega)
     have q := And.intro @h11481 <| q
     refine zz ?_
     obtain ⟨y11482, q, h⟩ := oN q h
     refine zz ?_
     obtain ⟨m11483, h11484, h⟩ := bind_some h
     obtain ⟨h11485, h11486, h11487, h11488⟩ := setI_some h11484
     have h11488 := h11488 (D.int .i64)
     try simp only [sevalprocAttr, List.map_nil, dd] at h11488
     have q := And.intro @h11485 <| And.intro @h11486 <| And.intro @h11487 <| And.intro @h11488 <| q
     refine zz ?_
     subst hK11480 gK11480
     refine es <| xs <| xs <| rz ?_
     refine es ?_
     obtain ⟨k,h⟩|⟨k,h⟩:=iK k h
     ·refine xt <| xx <| ee <| bh <| es <| rz ?_
      cases h
      exact en ⟨rfl, wk []⟩
     ·refine xf <| xk <| es <| xs <| rz ?_
      refine es <| xb ?_
      obtain ⟨e11496, h11785, h⟩ := bs h
      refine rb_loop (fun x11495 => ⟨envL [(0, .ptr 0 0), (3, .int .i64 r7), (4, .own 1 x27.2.length), (5, .int .i64 x27.1), (6, .int .i64 x9871.1), (7, .int .i64 x11495.1), (20, .int .i64 ((m18.length : Nat) : Int)), (21, .int .i64 x27.1), (34, .int .i64 ((m9858.length : Nat) : Int)), (35, .int .i64 x9871.1)], heapL [(0, .box (some 0) [.sl (s_0.p_.Tokens.map A_Token.d), .int .i64 s_0.p_.Width, .int .i64 s_0.p_.Rows, .int .i64 s_0.p_.Table.Sg.a0, .int .i64 s_0.p_.Table.Sg.a1, .int .i64 s_0.p_.Table.Sg.a2, .int .i64 s_0.p_.Table.Sg.a3, .int .i64 s_0.p_.Table.Sg.a4, .int .i64 s_0.p_.Table.Sg.a5, .int .i64 s_0.p_.Table.Rgd, .int .i64 s_0.p_.Table.Row, .int .i64 s_0.p_.Table.Event, .int .i64 s_0.p_.Table.Fast, .int .i64 s_0.p_.Table.Gap, .int .i64 s_0.p_.Table.Shot, .sl (s_0.sums_.map (D.int .i64)), .int .i64 s_0.aim_]), (1, .mat 24 1 ((x27.2.map dlI).set x27.1.toNat (.own 2 x11495.2.length))), (2, .vec 2 1 (x11495.2.map (D.int .i64)) false)], 3, 111⟩) (fun _ => .exit 4) (fun e11496 => ⟨envL [(0, .ptr 0 0), (3, .int .i64 r7), (4, .own 1 x27.2.length), (5, .int .i64 x27.1), (20, .int .i64 ((m18.length : Nat) : Int)), (21, .int .i64 x27.1), (34, .int .i64 ((m9858.length : Nat) : Int)), (35, .int .i64 x9871.1)], heapL [(0, .box (some 0) [.sl (s_0.p_.Tokens.map A_Token.d), .int .i64 s_0.p_.Width, .int .i64 s_0.p_.Rows, .int .i64 s_0.p_.Table.Sg.a0, .int .i64 s_0.p_.Table.Sg.a1, .int .i64 s_0.p_.Table.Sg.a2, .int .i64 s_0.p_.Table.Sg.a3, .int .i64 s_0.p_.Table.Sg.a4, .int .i64 s_0.p_.Table.Sg.a5, .int .i64 s_0.p_.Table.Rgd, .int .i64 s_0.p_.Table.Row, .int .i64 s_0.p_.Table.Event, .int .i64 s_0.p_.Table.Fast, .int .i64 s_0.p_.Table.Gap, .int .i64 s_0.p_.Table.Shot, .sl (s_0.sums_.map (D.int .i64)), .int .i64 s_0.aim_]), (1, .mat 24 1 ((x27.2.map dlI).set x27.1.toNat (.own 2 e11496.length))), (2, .vec 2 1 (e11496.map (D.int .i64)) false)], 3, 111⟩) h11785 (wk []) (by intro w; simp) ?_ ?_
      ·clear h
       intro x11495 y h
       unfold g_rb_sheet_exact_s3 at h
       refine xs ?_
       obtain ⟨v11693, h11698, h⟩ := bs h
       refine rb_cut (fun v11693 => ⟨envL [(0, .ptr 0 0), (3, .int .i64 r7), (4, .own 1 x27.2.length), (5, .int .i64 x27.1), (6, .int .i64 x9871.1), (7, .int .i64 x11495.1), (20, .int .i64 ((m18.length : Nat) : Int)), (21, .int .i64 x27.1), (34, .int .i64 ((m9858.length : Nat) : Int)), (35, .int .i64 x9871.1), (56, .bool v11693)], heapL [(0, .box (some 0) [.sl (s_0.p_.Tokens.map A_Token.d), .int .i64 s_0.p_.Width, .int .i64 s_0.p_.Rows, .int .i64 s_0.p_.Table.Sg.a0, .int .i64 s_0.p_.Table.Sg.a1, .int .i64 s_0.p_.Table.Sg.a2, .int .i64 s_0.p_.Table.Sg.a3, .int .i64 s_0.p_.Table.Sg.a4, .int .i64 s_0.p_.Table.Sg.a5, .int .i64 s_0.p_.Table.Rgd, .int .i64 s_0.p_.Table.Row, .int .i64 s_0.p_.Table.Event, .int .i64 s_0.p_.Table.Fast, .int .i64 s_0.p_.Table.Gap, .int .i64 s_0.p_.Table.Shot, .sl (s_0.sums_.map (D.int .i64)), .int .i64 s_0.aim_]), (1, .mat 24 1 ((x27.2.map dlI).set x27.1.toNat (.own 2 x11495.2.length))), (2, .vec 2 1 (x11495.2.map (D.int .i64)) false)], 3, 111⟩) h11698 ?_ ?_
       ·clear h
        intro v11693 h
        refine rK fun K11694 RK11694 hK11694 gK11694 => zz ?_
        obtain ⟨k,h⟩|⟨k,h⟩:=iK k h
        ·refine zz ?_
         obtain ⟨r11696, h11697, h⟩ := bs h
         refine eW.intro (a_rb_sheet_fits hI (nid := 10) (i0 := 0) (p0 := (some 0)) h11697 fz) fi rfl <| zz ?_
         subst hK11694 gK11694
         cases h
         exact en ⟨rfl, wk []⟩
        ·refine zz ?_
         subst hK11694 gK11694
         cases h
         exact en ⟨rfl, wk []⟩
       ·obtain ⟨k,h⟩|⟨k,h⟩:=iK k h
        ·refine xt <| xk <| es <| xs <| xb <| xs <| rK fun K11747 RK11747 hK11747 gK11747 => zz ?_
         obtain ⟨y11748, q, h⟩ := oN q h
         obtain ⟨h11749, h⟩ := ite_on h
         have h11750 := mat_ne (i := x27.1.toNat) (x := .own 2 x11495.2.length) (q.1.2.2 dlI) (by omega)
         have q := And.intro @h11750 <| q
         refine zz ?_
         obtain ⟨y11751, q, h⟩ := bK q h
         refine zz ?_
         subst hK11747 gK11747
         refine es <| xs <| xs <| rz ?_
         refine es ?_
         obtain ⟨k,h⟩|⟨k,h⟩:=iK k h
         ·refine xt <| xx <| ee <| bh <| es <| rz ?_
          cases h
          exact en ⟨rfl, wk []⟩
         ·refine xf <| xk <| es <| xs <| rK fun K11760 RK11760 hK11760 gK11760 => zz ?_
          obtain ⟨r11761, h11762, h⟩ := bs h
          refine eW.intro (a_rb_sheet_cost hI (nid := 17) (i0 := 0) (p0 := (some 0)) h11762 fz) fi rfl <| zz ?_
          subst hK11760 gK11760
          refine es ?_
          obtain ⟨v11767, h11772, h⟩ := bs h
          refine rb_cut (fun v11767 => ⟨envL [(0, .ptr 0 0), (3, .int .i64 r7), (4, .own 1 x27.2.length), (5, .int .i64 x27.1), (6, .int .i64 x9871.1), (7, .int .i64 x11495.1), (9, .int .i64 (IntKind.i64.wrap (r11761 + y11751))), (20, .int .i64 ((m18.length : Nat) : Int)), (21, .int .i64 x27.1), (34, .int .i64 ((m9858.length : Nat) : Int)), (35, .int .i64 x9871.1), (93, .bool v11767)], heapL [(0, .box (some 0) [.sl (s_0.p_.Tokens.map A_Token.d), .int .i64 s_0.p_.Width, .int .i64 s_0.p_.Rows, .int .i64 s_0.p_.Table.Sg.a0, .int .i64 s_0.p_.Table.Sg.a1, .int .i64 s_0.p_.Table.Sg.a2, .int .i64 s_0.p_.Table.Sg.a3, .int .i64 s_0.p_.Table.Sg.a4, .int .i64 s_0.p_.Table.Sg.a5, .int .i64 s_0.p_.Table.Rgd, .int .i64 s_0.p_.Table.Row, .int .i64 s_0.p_.Table.Event, .int .i64 s_0.p_.Table.Fast, .int .i64 s_0.p_.Table.Gap, .int .i64 s_0.p_.Table.Shot, .sl (s_0.sums_.map (D.int .i64)), .int .i64 s_0.aim_]), (1, .mat 24 1 ((x27.2.map dlI).set x27.1.toNat (.own 2 x11495.2.length))), (2, .vec 2 1 (x11495.2.map (D.int .i64)) false)], 3, 111⟩) h11772 ?_ ?_
          ·clear h
           intro v11767 h
           refine rK fun K11768 RK11768 hK11768 gK11768 => zz ?_
           have h11769 := mat_at (f := dlI) (L := x27.2) (i := x27.1.toNat) (x := .own 2 x11495.2.length) (by omega)
           have q := And.intro @h11769 <| q
           refine zz ?_
           obtain ⟨y11770, q, h⟩ := oN q h
           refine zz ?_
           obtain ⟨k,h⟩|⟨k,h⟩:=iK k h
           ·refine zz ?_
            subst hK11768 gK11768
            cases h
            exact en ⟨rfl, wk []⟩
           ·refine zz ?_
            subst hK11768 gK11768
            cases h
            exact en ⟨rfl, wk []⟩
          ·obtain ⟨k,h⟩|⟨k,h⟩:=iK k h
           ·refine xt <| rK fun K11774 RK11774 hK11774 gK11774 => zz ?_
            have h11775 := mat_at (f := dlI) (L := x27.2) (i := x27.1.toNat) (x := .own 2 x11495.2.length) (by omega)
            have q := And.intro @h11775 <| q
            refine zz ?_
            obtain ⟨y11776, q, h⟩ := oN q h
            refine zz ?_
            obtain ⟨m11777, h11778, h⟩ := bind_some h
            obtain ⟨h11779, h11780, h11781, h11782⟩ := setI_some h11778
            have h11782 := h11782 (D.int .i64)
            try simp only [sevalprocAttr, List.map_nil, dd] at h11782
            have q := And.intro @h11779 <| And.intro @h11780 <| And.intro @h11781 <| And.intro @h11782 <| q
            refine zz ?_
            subst hK11774 gK11774
            refine bn <| es <| rz ?_
            cases h
            exact en ⟨rfl, wk []⟩
           ·refine xf <| xk <| bn <| es <| rz ?_
            cases h
            exact en ⟨rfl, wk []⟩
        ·refine xf <| xx <| ee ?_
         cases h
         exact en ⟨rfl, wk []⟩
      ·refine bh <| bn <| es <| rz ?_
       cases h
       exact en ⟨rfl, wk []⟩
    ·refine xf <| xx <| ee ?_
     cases h
     exact en ⟨rfl, wk []⟩
   ·refine bh <| es <| xs <| rz ?_
    refine es ?_
    obtain ⟨k,h⟩|⟨k,h⟩:=iK k h
    ·refine xt <| rK fun K11791 RK11791 hK11791 gK11791 => zz ?_
     obtain ⟨y11792, h11793, h⟩ := bind_some h
     obtain ⟨h11794, h11795, h11796⟩ := atI_own h11793
     try simp only [Int.reduceToNat, Int.toNat_zero, Int.toNat_one] at h11796
     have q := And.intro h11794 <| And.intro h11795 <| And.intro @h11796 q
     have h11797 := mat_at0 (f := dlI) (L := x27.2) (i := x27.1) (m := 0) (x := .own 2 e9872.length) (by have := k; simp only [beq_iff_eq] at this; omega) (by omega)
     have q := And.intro @h11797 <| q
     refine zz ?_
     obtain ⟨y11798, q, h⟩ := oN q h
     refine zz ?_
     obtain ⟨m11799, h11800, h⟩ := bind_some h
     obtain ⟨h11801, h11802, h11803, h11804⟩ := setI_some h11800
     have h11804 := h11804 (D.int .i64)
     try simp only [sevalprocAttr, List.map_nil, dd] at h11804
     have q := And.intro @h11801 <| And.intro @h11802 <| And.intro @h11803 <| And.intro @h11804 <| q
     refine zz ?_
     subst hK11791 gK11791
     refine bn <| es <| rz ?_
     cases h
     exact en ⟨rfl, ((Wk.closeM (id := 1) (j := 2) (i := x27.1.toNat) (f := dlI) (L := x27.2) fz (by omega) fz fs (by decide) (fun _ => rfl)).trans (wk []))⟩
    ·refine xf <| xk <| bn <| es <| rz ?_
     cases h
     exact en ⟨rfl, ((Wk.closeM (id := 1) (j := 2) (i := x27.1.toNat) (f := dlI) (L := x27.2) fz (by omega) fz fs (by decide) (fun _ => rfl)).trans (wk []))⟩
  ·refine xf <| xx <| ee ?_
   cases h
   exact en ⟨rfl, wk []⟩
 ·refine bh <| es <| xs <| rz ?_
  refine es <| xr ?_
  cases h
  exact en fp
def g_rb_Break_s3 (x8017 : Int × (List Int)) (z8889 : List (List Int)) (x8894 : Int × Int) : Option (Nx (Int × Int) (Int)) :=
 (if (decide (x8894.2 < (z8889.length : Int))) then ((atI z8889 x8894.2).bind fun y9023 => ((atI y9023 x8017.1).bind fun y9029 => (((if (y9029 != (-1)) then (if (x8894.1 == (-1)) then (some true) else (some (decide (y9029 < x8894.1)))) else (some false)) : Option (Bool)).bind fun v9034 => (if v9034 then (some (.go (y9029, (IntKind.i64.wrap (x8894.2 + 1))))) else (some (.go (x8894.1, (IntKind.i64.wrap (x8894.2 + 1))))))))) else (some (.out x8894.1)))
def g_rb_Break_s2 (p_0 : A_Pg) (r24 : (List (List Int))) (x30 : Int × (List Int)) (y8015 : List Int) (x8017 : Int × (List Int)) : Option (Nx (Int × (List Int)) ((List Int))) :=
 (if (decide (x8017.1 < (y8015.length : Int))) then ((subH r24 (IntKind.i64.wrap ((IntKind.i64.wrap (p_0.Rows - x30.1)) + 1))).bind fun z8889 => ((iter (g_rb_Break_s3 x8017 z8889) (-1, 0)).bind fun e8895 => (if (x8017.2.length + 1) * 8 ≤ 140737488355328 then (some (.go ((IntKind.i64.wrap (x8017.1 + 1)), (x8017.2 ++ [e8895])))) else none))) else (some (.out x8017.2)))
def g_rb_Break_s1 (p_0 : A_Pg) (r24 : (List (List Int))) (x30 : Int × (List Int)) : Option (Nx (Int × (List Int)) ((List Int))) :=
 (if (decide (x30.1 < (r24.length : Int))) then ((atI r24 0).bind fun y8015 => ((iter (g_rb_Break_s2 p_0 r24 x30 y8015) (0, x30.2)).bind fun e8018 => (some (.go ((IntKind.i64.wrap (x30.1 + 1)), e8018))))) else (some (.out x30.2)))
def g_rb_Break_s4 (r24 : (List (List Int))) (y9058 : Int) (x9109 : Int) : Option (Nx (Int) (Int)) :=
 ((atI r24 x9109).bind fun y9141 => ((atI y9141 0).bind fun y9143 => (if (y9143 != y9058) then (some (.go (IntKind.i64.wrap (x9109 + 1)))) else (some (.out x9109)))))
def g_rb_Break_s6 (r18 : T_rb_sheet) (r24 : (List (List Int))) (x9150 : Int × Int × (List Int)) (x10799 : Int) : Option (Nx (Int) (Int × (List Int) × (List Int) × Int × Int × Int × Bool × Int × Int × (List Int) × (List Int) × Int × Int × Int × Int × (List Int) × (List Int) × Int × Int × Bool)) :=
 ((g_rb_sheet_fits r18 x9150.2.1 x10799).bind fun r10885 => (if r10885 then ((atI r24 (IntKind.i64.wrap (x9150.1 - 1))).bind fun y10888 => ((atI y10888 x10799).bind fun y10890 => (if (y10890 == (-1)) then (some (.go (IntKind.i64.wrap (x10799 + 1)))) else ((g_rb_sheet_cost r18 x9150.2.1 x10799).bind fun r10894 => ((atI r24 x9150.1).bind fun y10896 => ((atI y10896 x9150.2.1).bind fun y10898 => (if ((IntKind.i64.wrap (r10894 + y10890)) != y10898) then (some (.go (IntKind.i64.wrap (x10799 + 1)))) else (some (.out (x10799, y10888, y10888, x10799, y10890, y10890, (y10890 == (-1)), x10799, r10894, y10888, y10888, x10799, y10890, y10890, (IntKind.i64.wrap (r10894 + y10890)), y10896, y10896, y10898, y10898, ((IntKind.i64.wrap (r10894 + y10890)) != y10898))))))))))) else (some (.go (IntKind.i64.wrap (x10799 + 1))))))
def g_rb_Break_s5 (r18 : T_rb_sheet) (r24 : (List (List Int))) (x9150 : Int × Int × (List Int)) : Option (Nx (Int × Int × (List Int)) ((List Int))) :=
 (if (decide (0 < x9150.1)) then ((iter (g_rb_Break_s6 r18 r24 x9150) (IntKind.i64.wrap (x9150.2.1 + 1))).bind fun e10800 => (if (x9150.2.2.length + 1) * 8 ≤ 140737488355328 then (some (.go ((IntKind.i64.wrap (x9150.1 - 1)), e10800.1, (x9150.2.2 ++ [e10800.1])))) else none)) else (some (.out x9150.2.2)))
def g_rb_Break (p_0 : A_Pg) : Option (A_Breaks × Int) :=
 ((g_rb_Check p_0).bind fun r7 => (if (r7 != 0) then (some ((A_Breaks.mk [] 0 []), r7)) else ((g_rb_open p_0).bind fun r18 => ((g_rb_sheet_exact r18).bind fun r24 => ((iter (g_rb_Break_s1 p_0 r24) (0, [])).bind fun e31 => ((atI e31 0).bind fun y9058 => (if (y9058 == (-1)) then (some ((A_Breaks.mk [] 0 []), 11)) else ((iter (g_rb_Break_s4 r24 y9058) 0).bind fun e9110 => ((iter (g_rb_Break_s5 r18 r24) (e9110, 0, [])).bind fun e9151 => (some ((A_Breaks.mk e9151 y9058 e31), 0)))))))))))
theorem a_rb_Break {I : World → Prop} (hI : Stab I) (hU8T : ∀ w, I w → U8T w) {p_0 : A_Pg} {r : A_Breaks × Int} (h : g_rb_Break p_0 = some r) : AFun Tryz.prog I 66 [A_Pg.d p_0] (.tup [A_Breaks.d r.1, .int .i64 r.2]) := by
 have dd := And.intro dd_EC <| And.intro dd_EB dd_EA; have k := True.intro; have q := k; have rs := Tryz.results66
 unfold g_rb_Break at h
 refine .en hI Tryz.func66 Tryz.ntmps66 ?_
 refine xs <| rz ?_
 refine es <| xs <| xs <| rK fun K6 RK6 hK6 gK6 => zz ?_
 obtain ⟨r7, h8, h⟩ := bs h
 refine cw (a_rb_Check hI hU8T h8) <| zz ?_
 subst hK6 gK6
 refine es <| xs <| rz ?_
 refine es ?_
 obtain ⟨k,h⟩|⟨k,h⟩:=iK k h
 ·refine xt <| xs <| rz ?_
  refine es <| xr <| er ?_
  cases h
  exact en fr
 ·refine xf <| xk <| es <| xs <| rK fun K17 RK17 hK17 gK17 => zz ?_
  obtain ⟨r18, h19, h⟩ := bs h
  refine cW.introE (a_rb_open hI hU8T (nid := 9) h19) fz rfl <| zz ?_
  subst hK17 gK17
  refine es <| xs <| rK fun K23 RK23 hK23 gK23 => zz ?_
  obtain ⟨r24, h25, h⟩ := bs h
  refine eW.intro (a_rb_sheet_exact hI (nid := 12) (i0 := 9) (p0 := none) h25 fz) fi rfl <| zz ?_
  subst hK23 gK23
  refine es <| xs <| rz ?_
  refine es <| xs <| xs <| rz ?_
  refine es <| xb ?_
  obtain ⟨e31, h9050, h⟩ := bs h
  refine rb_loop (fun x30 => ⟨envL [(1, .ptr 0 0), (2, .ptr 1 0), (5, .ptr 2 0), (6, .sl (r24.map dlI)), (7, .ptr 3 0), (29, .int .i64 (r24.length : Int)), (30, .int .i64 x30.1)], heapL [(0, .box none [.sl (p_0.Tokens.map A_Token.d), .int .i64 p_0.Width, .int .i64 p_0.Rows, .int .i64 p_0.Table.Sg.a0, .int .i64 p_0.Table.Sg.a1, .int .i64 p_0.Table.Sg.a2, .int .i64 p_0.Table.Sg.a3, .int .i64 p_0.Table.Sg.a4, .int .i64 p_0.Table.Sg.a5, .int .i64 p_0.Table.Rgd, .int .i64 p_0.Table.Row, .int .i64 p_0.Table.Event, .int .i64 p_0.Table.Fast, .int .i64 p_0.Table.Gap, .int .i64 p_0.Table.Shot]), (1, .box none [.nils, .int .i64 0, .nils]), (2, .box none [.sl (r18.p_.Tokens.map A_Token.d), .int .i64 r18.p_.Width, .int .i64 r18.p_.Rows, .int .i64 r18.p_.Table.Sg.a0, .int .i64 r18.p_.Table.Sg.a1, .int .i64 r18.p_.Table.Sg.a2, .int .i64 r18.p_.Table.Sg.a3, .int .i64 r18.p_.Table.Sg.a4, .int .i64 r18.p_.Table.Sg.a5, .int .i64 r18.p_.Table.Rgd, .int .i64 r18.p_.Table.Row, .int .i64 r18.p_.Table.Event, .int .i64 r18.p_.Table.Fast, .int .i64 r18.p_.Table.Gap, .int .i64 r18.p_.Table.Shot, .sl (r18.sums_.map (D.int .i64)), .int .i64 r18.aim_]), (3, .box none [.nils, .int .i64 (-1), .own 4 x30.2.length]), (4, .vec 2 1 (x30.2.map (D.int .i64)) false)], 5, 152⟩) (fun _ => .exit 0) (fun e31 => ⟨envL [(2, .ptr 0 0), (5, .ptr 1 0), (6, .sl (r24.map dlI)), (7, .ptr 2 0)], heapL [(0, .box none [.nils, .int .i64 0, .nils]), (1, .box none [.sl (r18.p_.Tokens.map A_Token.d), .int .i64 r18.p_.Width, .int .i64 r18.p_.Rows, .int .i64 r18.p_.Table.Sg.a0, .int .i64 r18.p_.Table.Sg.a1, .int .i64 r18.p_.Table.Sg.a2, .int .i64 r18.p_.Table.Sg.a3, .int .i64 r18.p_.Table.Sg.a4, .int .i64 r18.p_.Table.Sg.a5, .int .i64 r18.p_.Table.Rgd, .int .i64 r18.p_.Table.Row, .int .i64 r18.p_.Table.Event, .int .i64 r18.p_.Table.Fast, .int .i64 r18.p_.Table.Gap, .int .i64 r18.p_.Table.Shot, .sl (r18.sums_.map (D.int .i64)), .int .i64 r18.aim_]), (2, .box none [.nils, .int .i64 (-1), .own 3 e31.length]), (3, .vec 2 1 (e31.map (D.int .i64)) false)], 4, 152⟩) h9050 (wk [(2, some 9), (3, some 15), (4, none)]) (by intro w; simp) ?_ ?_
  ·clear h
   intro x30 y h
   unfold g_rb_Break_s1 at h
   refine xs <| rz ?_
   refine es <| xs ?_
   obtain ⟨k,h⟩|⟨k,h⟩:=iK k h
   ·refine xt <| xk <| es <| xs <| xb <| xs <| rz ?_
    refine es <| xs <| rK fun K8014 RK8014 hK8014 gK8014 => zz ?_
    obtain ⟨y8015, q, h⟩ := bK q h
    refine zz ?_
    subst hK8014 gK8014
    refine es <| xb ?_
    obtain ⟨e8018, h9048, h⟩ := bs h
    refine rb_loop (fun x8017 => ⟨envL [(1, .ptr 0 0), (2, .ptr 1 0), (5, .ptr 2 0), (6, .sl (r24.map dlI)), (7, .ptr 3 0), (8, .int .i64 x30.1), (29, .int .i64 (r24.length : Int)), (30, .int .i64 x30.1), (36, .int .i64 (y8015.length : Int)), (37, .int .i64 x8017.1)], heapL [(0, .box none [.sl (p_0.Tokens.map A_Token.d), .int .i64 p_0.Width, .int .i64 p_0.Rows, .int .i64 p_0.Table.Sg.a0, .int .i64 p_0.Table.Sg.a1, .int .i64 p_0.Table.Sg.a2, .int .i64 p_0.Table.Sg.a3, .int .i64 p_0.Table.Sg.a4, .int .i64 p_0.Table.Sg.a5, .int .i64 p_0.Table.Rgd, .int .i64 p_0.Table.Row, .int .i64 p_0.Table.Event, .int .i64 p_0.Table.Fast, .int .i64 p_0.Table.Gap, .int .i64 p_0.Table.Shot]), (1, .box none [.nils, .int .i64 0, .nils]), (2, .box none [.sl (r18.p_.Tokens.map A_Token.d), .int .i64 r18.p_.Width, .int .i64 r18.p_.Rows, .int .i64 r18.p_.Table.Sg.a0, .int .i64 r18.p_.Table.Sg.a1, .int .i64 r18.p_.Table.Sg.a2, .int .i64 r18.p_.Table.Sg.a3, .int .i64 r18.p_.Table.Sg.a4, .int .i64 r18.p_.Table.Sg.a5, .int .i64 r18.p_.Table.Rgd, .int .i64 r18.p_.Table.Row, .int .i64 r18.p_.Table.Event, .int .i64 r18.p_.Table.Fast, .int .i64 r18.p_.Table.Gap, .int .i64 r18.p_.Table.Shot, .sl (r18.sums_.map (D.int .i64)), .int .i64 r18.aim_]), (3, .box none [.nils, .int .i64 (-1), .own 4 x8017.2.length]), (4, .vec 2 1 (x8017.2.map (D.int .i64)) false)], 5, 152⟩) (fun _ => .exit 2) (fun e8018 => ⟨envL [(1, .ptr 0 0), (2, .ptr 1 0), (5, .ptr 2 0), (6, .sl (r24.map dlI)), (7, .ptr 3 0), (29, .int .i64 (r24.length : Int)), (30, .int .i64 x30.1)], heapL [(0, .box none [.sl (p_0.Tokens.map A_Token.d), .int .i64 p_0.Width, .int .i64 p_0.Rows, .int .i64 p_0.Table.Sg.a0, .int .i64 p_0.Table.Sg.a1, .int .i64 p_0.Table.Sg.a2, .int .i64 p_0.Table.Sg.a3, .int .i64 p_0.Table.Sg.a4, .int .i64 p_0.Table.Sg.a5, .int .i64 p_0.Table.Rgd, .int .i64 p_0.Table.Row, .int .i64 p_0.Table.Event, .int .i64 p_0.Table.Fast, .int .i64 p_0.Table.Gap, .int .i64 p_0.Table.Shot]), (1, .box none [.nils, .int .i64 0, .nils]), (2, .box none [.sl (r18.p_.Tokens.map A_Token.d), .int .i64 r18.p_.Width, .int .i64 r18.p_.Rows, .int .i64 r18.p_.Table.Sg.a0, .int .i64 r18.p_.Table.Sg.a1, .int .i64 r18.p_.Table.Sg.a2, .int .i64 r18.p_.Table.Sg.a3, .int .i64 r18.p_.Table.Sg.a4, .int .i64 r18.p_.Table.Sg.a5, .int .i64 r18.p_.Table.Rgd, .int .i64 r18.p_.Table.Row, .int .i64 r18.p_.Table.Event, .int .i64 r18.p_.Table.Fast, .int .i64 r18.p_.Table.Gap, .int .i64 r18.p_.Table.Shot, .sl (r18.sums_.map (D.int .i64)), .int .i64 r18.aim_]), (3, .box none [.nils, .int .i64 (-1), .own 4 e8018.length]), (4, .vec 2 1 (e8018.map (D.int .i64)) false)], 5, 152⟩) h9048 (wk []) (by intro w; simp) ?_ ?_
    ·clear h
     intro x8017 y h
     unfold g_rb_Break_s2 at h
     refine xs <| rz ?_
     refine es <| xs ?_
     obtain ⟨k,h⟩|⟨k,h⟩:=iK k h
     ·refine xt <| xk <| es <| xs <| xb <| xs <| rz ?_
      refine es <| xs <| rz ?_
      refine es <| xs <| xs <| rK fun K8888 RK8888 hK8888 gK8888 => zz ?_
      obtain ⟨z8889, h8890, h⟩ := bind_some h
      obtain ⟨⟨h8891, h8892⟩, h8893⟩ := subH_some h8890
      have q := And.intro @h8891 <| And.intro @h8892 <| q
      try simp -implicitDefEqProofs only [vt, vm, sevalprocAttr, dd, k, q] at h8893
      have q := And.intro @h8893 <| q
      refine zz ?_
      subst hK8888 gK8888
      refine es <| xb ?_
      obtain ⟨e8895, h9043, h⟩ := bs h
      refine rb_loop (fun x8894 => ⟨envL [(1, .ptr 0 0), (2, .ptr 1 0), (5, .ptr 2 0), (6, .sl (r24.map dlI)), (7, .ptr 3 0), (8, .int .i64 x30.1), (9, .int .i64 x8017.1), (10, .int .i64 x8894.1), (29, .int .i64 (r24.length : Int)), (30, .int .i64 x30.1), (36, .int .i64 (y8015.length : Int)), (37, .int .i64 x8017.1), (46, .sl (z8889.map dlI)), (47, .int .i64 (z8889.length : Int)), (48, .int .i64 x8894.2)], heapL [(0, .box none [.sl (p_0.Tokens.map A_Token.d), .int .i64 p_0.Width, .int .i64 p_0.Rows, .int .i64 p_0.Table.Sg.a0, .int .i64 p_0.Table.Sg.a1, .int .i64 p_0.Table.Sg.a2, .int .i64 p_0.Table.Sg.a3, .int .i64 p_0.Table.Sg.a4, .int .i64 p_0.Table.Sg.a5, .int .i64 p_0.Table.Rgd, .int .i64 p_0.Table.Row, .int .i64 p_0.Table.Event, .int .i64 p_0.Table.Fast, .int .i64 p_0.Table.Gap, .int .i64 p_0.Table.Shot]), (1, .box none [.nils, .int .i64 0, .nils]), (2, .box none [.sl (r18.p_.Tokens.map A_Token.d), .int .i64 r18.p_.Width, .int .i64 r18.p_.Rows, .int .i64 r18.p_.Table.Sg.a0, .int .i64 r18.p_.Table.Sg.a1, .int .i64 r18.p_.Table.Sg.a2, .int .i64 r18.p_.Table.Sg.a3, .int .i64 r18.p_.Table.Sg.a4, .int .i64 r18.p_.Table.Sg.a5, .int .i64 r18.p_.Table.Rgd, .int .i64 r18.p_.Table.Row, .int .i64 r18.p_.Table.Event, .int .i64 r18.p_.Table.Fast, .int .i64 r18.p_.Table.Gap, .int .i64 r18.p_.Table.Shot, .sl (r18.sums_.map (D.int .i64)), .int .i64 r18.aim_]), (3, .box none [.nils, .int .i64 (-1), .own 4 x8017.2.length]), (4, .vec 2 1 (x8017.2.map (D.int .i64)) false)], 5, 152⟩) (fun _ => .exit 4) (fun e8895 => ⟨envL [(1, .ptr 0 0), (2, .ptr 1 0), (5, .ptr 2 0), (6, .sl (r24.map dlI)), (7, .ptr 3 0), (8, .int .i64 x30.1), (10, .int .i64 e8895), (29, .int .i64 (r24.length : Int)), (30, .int .i64 x30.1), (36, .int .i64 (y8015.length : Int)), (37, .int .i64 x8017.1)], heapL [(0, .box none [.sl (p_0.Tokens.map A_Token.d), .int .i64 p_0.Width, .int .i64 p_0.Rows, .int .i64 p_0.Table.Sg.a0, .int .i64 p_0.Table.Sg.a1, .int .i64 p_0.Table.Sg.a2, .int .i64 p_0.Table.Sg.a3, .int .i64 p_0.Table.Sg.a4, .int .i64 p_0.Table.Sg.a5, .int .i64 p_0.Table.Rgd, .int .i64 p_0.Table.Row, .int .i64 p_0.Table.Event, .int .i64 p_0.Table.Fast, .int .i64 p_0.Table.Gap, .int .i64 p_0.Table.Shot]), (1, .box none [.nils, .int .i64 0, .nils]), (2, .box none [.sl (r18.p_.Tokens.map A_Token.d), .int .i64 r18.p_.Width, .int .i64 r18.p_.Rows, .int .i64 r18.p_.Table.Sg.a0, .int .i64 r18.p_.Table.Sg.a1, .int .i64 r18.p_.Table.Sg.a2, .int .i64 r18.p_.Table.Sg.a3, .int .i64 r18.p_.Table.Sg.a4, .int .i64 r18.p_.Table.Sg.a5, .int .i64 r18.p_.Table.Rgd, .int .i64 r18.p_.Table.Row, .int .i64 r18.p_.Table.Event, .int .i64 r18.p_.Table.Fast, .int .i64 r18.p_.Table.Gap, .int .i64 r18.p_.Table.Shot, .sl (r18.sums_.map (D.int .i64)), .int .i64 r18.aim_]), (3, .box none [.nils, .int .i64 (-1), .own 4 x8017.2.length]), (4, .vec 2 1 (x8017.2.map (D.int .i64)) false)], 5, 152⟩) h9043 (wk []) (by intro w; simp) ?_ ?_
      ·clear h
       intro x8894 y h
       unfold g_rb_Break_s3 at h
       refine xs <| rz ?_
       refine es <| xs ?_
       obtain ⟨k,h⟩|⟨k,h⟩:=iK k h
       ·refine xt <| xk <| es <| xs <| xb <| xs <| rK fun K9022 RK9022 hK9022 gK9022 => zz ?_
        obtain ⟨y9023, q, h⟩ := bK q h
        refine zz ?_
        subst hK9022 gK9022
        refine es <| xs <| rK fun K9028 RK9028 hK9028 gK9028 => zz ?_
        obtain ⟨y9029, q, h⟩ := bK q h
        refine zz ?_
        subst hK9028 gK9028
        refine es ?_
        obtain ⟨v9034, h9038, h⟩ := bs h
        refine rb_cut (fun v9034 => ⟨envL [(1, .ptr 0 0), (2, .ptr 1 0), (5, .ptr 2 0), (6, .sl (r24.map dlI)), (7, .ptr 3 0), (8, .int .i64 x30.1), (9, .int .i64 x8017.1), (10, .int .i64 x8894.1), (13, .int .i64 y9029), (29, .int .i64 (r24.length : Int)), (30, .int .i64 x30.1), (36, .int .i64 (y8015.length : Int)), (37, .int .i64 x8017.1), (46, .sl (z8889.map dlI)), (47, .int .i64 (z8889.length : Int)), (48, .int .i64 x8894.2), (66, .bool v9034)], heapL [(0, .box none [.sl (p_0.Tokens.map A_Token.d), .int .i64 p_0.Width, .int .i64 p_0.Rows, .int .i64 p_0.Table.Sg.a0, .int .i64 p_0.Table.Sg.a1, .int .i64 p_0.Table.Sg.a2, .int .i64 p_0.Table.Sg.a3, .int .i64 p_0.Table.Sg.a4, .int .i64 p_0.Table.Sg.a5, .int .i64 p_0.Table.Rgd, .int .i64 p_0.Table.Row, .int .i64 p_0.Table.Event, .int .i64 p_0.Table.Fast, .int .i64 p_0.Table.Gap, .int .i64 p_0.Table.Shot]), (1, .box none [.nils, .int .i64 0, .nils]), (2, .box none [.sl (r18.p_.Tokens.map A_Token.d), .int .i64 r18.p_.Width, .int .i64 r18.p_.Rows, .int .i64 r18.p_.Table.Sg.a0, .int .i64 r18.p_.Table.Sg.a1, .int .i64 r18.p_.Table.Sg.a2, .int .i64 r18.p_.Table.Sg.a3, .int .i64 r18.p_.Table.Sg.a4, .int .i64 r18.p_.Table.Sg.a5, .int .i64 r18.p_.Table.Rgd, .int .i64 r18.p_.Table.Row, .int .i64 r18.p_.Table.Event, .int .i64 r18.p_.Table.Fast, .int .i64 r18.p_.Table.Gap, .int .i64 r18.p_.Table.Shot, .sl (r18.sums_.map (D.int .i64)), .int .i64 r18.aim_]), (3, .box none [.nils, .int .i64 (-1), .own 4 x8017.2.length]), (4, .vec 2 1 (x8017.2.map (D.int .i64)) false)], 5, 152⟩) h9038 ?_ ?_
        ·clear h
         intro v9034 h
         refine rK fun K9035 RK9035 hK9035 gK9035 => zz ?_
         obtain ⟨k,h⟩|⟨k,h⟩:=iK k h
         ·refine zz ?_
          obtain ⟨k,h⟩|⟨k,h⟩:=iK k h
          ·refine zz ?_
           subst hK9035 gK9035
           cases h
           exact en ⟨rfl, wk []⟩
          ·refine zz ?_
           subst hK9035 gK9035
           cases h
           exact en ⟨rfl, wk []⟩
         ·refine zz ?_
          subst hK9035 gK9035
          cases h
          exact en ⟨rfl, wk []⟩
        ·obtain ⟨k,h⟩|⟨k,h⟩:=iK k h
         ·refine xt <| rz ?_
          refine bn <| es <| rz ?_
          cases h
          exact en ⟨rfl, wk []⟩
         ·refine xf <| xk <| bn <| es <| rz ?_
          cases h
          exact en ⟨rfl, wk []⟩
       ·refine xf <| xx <| ee ?_
        cases h
        exact en ⟨rfl, wk []⟩
      ·refine bh <| es <| rK fun K9044 RK9044 hK9044 gK9044 => zz ?_
       obtain ⟨h9045, h⟩ := ite_on h
       have h9046 : x8017.2.length + 1 ≤ 9223372036854775807 := by omega
       try simp only [Nat.reduceLeDiff] at h9046
       have q := And.intro @h9046 <| And.intro @h9045 <| q
       refine zz ?_
       subst hK9044 gK9044
       refine bn <| es <| rz ?_
       cases h
       exact en ⟨rfl, wk [(4, some 9)]⟩
     ·refine xf <| xx <| ee ?_
      cases h
      exact en ⟨rfl, wk []⟩
    ·refine bh <| bn <| es <| rz ?_
     cases h
     exact en ⟨rfl, wk []⟩
   ·refine xf <| xx <| ee ?_
    cases h
    exact en ⟨rfl, wk [(0, some 1), (1, some 2), (2, some 3), (3, some 4)]⟩
  ·refine bh <| es <| xs <| xs <| rK fun K9057 RK9057 hK9057 gK9057 => zz ?_
   obtain ⟨y9058, h9059, h⟩ := bind_some h
   obtain ⟨h9060, h9061, h9062⟩ := atI_own h9059
   try simp only [Int.reduceToNat, Int.toNat_zero, Int.toNat_one] at h9062
   have q := And.intro h9060 <| And.intro h9061 <| And.intro @h9062 q
   refine zz ?_
   subst hK9057 gK9057
   refine es <| xs <| rz ?_
   refine es ?_
   obtain ⟨k,h⟩|⟨k,h⟩:=iK k h
   ·refine xt <| xs <| rz ?_
    refine es <| xr <| er ?_
    cases h
    exact en fr
   ·refine xf <| xk <| es <| xs <| rz ?_
    refine es <| xs <| xb ?_
    obtain ⟨e9110, h9147, h⟩ := bs h
    refine rb_loop (fun x9109 => ⟨envL [(2, .ptr 0 0), (5, .ptr 1 0), (6, .sl (r24.map dlI)), (7, .ptr 2 0), (14, .int .i64 x9109)], heapL [(0, .box none [.nils, .int .i64 0, .nils]), (1, .box none [.sl (r18.p_.Tokens.map A_Token.d), .int .i64 r18.p_.Width, .int .i64 r18.p_.Rows, .int .i64 r18.p_.Table.Sg.a0, .int .i64 r18.p_.Table.Sg.a1, .int .i64 r18.p_.Table.Sg.a2, .int .i64 r18.p_.Table.Sg.a3, .int .i64 r18.p_.Table.Sg.a4, .int .i64 r18.p_.Table.Sg.a5, .int .i64 r18.p_.Table.Rgd, .int .i64 r18.p_.Table.Row, .int .i64 r18.p_.Table.Event, .int .i64 r18.p_.Table.Fast, .int .i64 r18.p_.Table.Gap, .int .i64 r18.p_.Table.Shot, .sl (r18.sums_.map (D.int .i64)), .int .i64 r18.aim_]), (2, .box none [.nils, .int .i64 y9058, .own 3 e31.length]), (3, .vec 2 1 (e31.map (D.int .i64)) false)], 4, 152⟩) (fun _ => .exit 6) (fun e9110 => ⟨envL [(2, .ptr 0 0), (5, .ptr 1 0), (6, .sl (r24.map dlI)), (7, .ptr 2 0), (14, .int .i64 e9110)], heapL [(0, .box none [.nils, .int .i64 0, .nils]), (1, .box none [.sl (r18.p_.Tokens.map A_Token.d), .int .i64 r18.p_.Width, .int .i64 r18.p_.Rows, .int .i64 r18.p_.Table.Sg.a0, .int .i64 r18.p_.Table.Sg.a1, .int .i64 r18.p_.Table.Sg.a2, .int .i64 r18.p_.Table.Sg.a3, .int .i64 r18.p_.Table.Sg.a4, .int .i64 r18.p_.Table.Sg.a5, .int .i64 r18.p_.Table.Rgd, .int .i64 r18.p_.Table.Row, .int .i64 r18.p_.Table.Event, .int .i64 r18.p_.Table.Fast, .int .i64 r18.p_.Table.Gap, .int .i64 r18.p_.Table.Shot, .sl (r18.sums_.map (D.int .i64)), .int .i64 r18.aim_]), (2, .box none [.nils, .int .i64 y9058, .own 3 e31.length]), (3, .vec 2 1 (e31.map (D.int .i64)) false)], 4, 152⟩) h9147 (wk []) (by intro w; simp) ?_ ?_
    ·clear h
     intro x9109 y h
     unfold g_rb_Break_s4 at h
     refine xs <| xs <| rD hI fun K9140 RK9140 hK9140 gK9140 => zz ?_
     obtain ⟨y9141, q, h⟩ := bK q h
     refine zz ?_
     obtain ⟨y9143, q, h⟩ := bK q h
     refine zz ?_
     subst hK9140 gK9140
     refine es ?_
     obtain ⟨k,h⟩|⟨k,h⟩:=iK k h
     ·refine xt <| xk <| es <| xb <| rz ?_
      refine bn ?_
      cases h
      exact en ⟨rfl, wk []⟩
     ·refine xf <| xx <| ee ?_
      cases h
      exact en ⟨rfl, wk []⟩
    ·refine bh <| es <| xs <| xs <| rz ?_
     refine es <| xb ?_
     obtain ⟨e9151, h10912, h⟩ := bs h
     refine rb_loop (fun x9150 => ⟨envL [(2, .ptr 0 0), (5, .ptr 1 0), (6, .sl (r24.map dlI)), (7, .ptr 2 0), (14, .int .i64 x9150.1), (15, .int .i64 x9150.2.1)], heapL [(0, .box none [.nils, .int .i64 0, .nils]), (1, .box none [.sl (r18.p_.Tokens.map A_Token.d), .int .i64 r18.p_.Width, .int .i64 r18.p_.Rows, .int .i64 r18.p_.Table.Sg.a0, .int .i64 r18.p_.Table.Sg.a1, .int .i64 r18.p_.Table.Sg.a2, .int .i64 r18.p_.Table.Sg.a3, .int .i64 r18.p_.Table.Sg.a4, .int .i64 r18.p_.Table.Sg.a5, .int .i64 r18.p_.Table.Rgd, .int .i64 r18.p_.Table.Row, .int .i64 r18.p_.Table.Event, .int .i64 r18.p_.Table.Fast, .int .i64 r18.p_.Table.Gap, .int .i64 r18.p_.Table.Shot, .sl (r18.sums_.map (D.int .i64)), .int .i64 r18.aim_]), (2, .box none [.own 4 x9150.2.2.length, .int .i64 y9058, .own 3 e31.length]), (3, .vec 2 1 (e31.map (D.int .i64)) false), (4, .vec 3 1 (x9150.2.2.map (D.int .i64)) false)], 5, 152⟩) (fun _ => .exit 8) (fun e9151 => ⟨envL [(2, .ptr 0 0), (7, .ptr 1 0)], heapL [(0, .box none [.nils, .int .i64 0, .nils]), (1, .box none [.own 2 e9151.length, .int .i64 y9058, .own 3 e31.length]), (2, .vec 3 1 (e9151.map (D.int .i64)) false), (3, .vec 2 1 (e31.map (D.int .i64)) false)], 4, 152⟩) h10912 (wk [(4, none)]) (by intro w; simp) ?_ ?_
     ·clear h
      intro x9150 y h
      unfold g_rb_Break_s5 at h
      refine xs <| xs <| rz ?_
      refine es ?_
      obtain ⟨k,h⟩|⟨k,h⟩:=iK k h
      ·refine xt <| xk <| es <| xs <| xb <| xs <| rz ?_
       refine es <| xs <| xb ?_
       obtain ⟨e10800, h10903, h⟩ := bs h
       refine rb_loop (fun x10799 => ⟨envL [(2, .ptr 0 0), (5, .ptr 1 0), (6, .sl (r24.map dlI)), (7, .ptr 2 0), (14, .int .i64 x9150.1), (15, .int .i64 x9150.2.1), (16, .int .i64 x10799)], heapL [(0, .box none [.nils, .int .i64 0, .nils]), (1, .box none [.sl (r18.p_.Tokens.map A_Token.d), .int .i64 r18.p_.Width, .int .i64 r18.p_.Rows, .int .i64 r18.p_.Table.Sg.a0, .int .i64 r18.p_.Table.Sg.a1, .int .i64 r18.p_.Table.Sg.a2, .int .i64 r18.p_.Table.Sg.a3, .int .i64 r18.p_.Table.Sg.a4, .int .i64 r18.p_.Table.Sg.a5, .int .i64 r18.p_.Table.Rgd, .int .i64 r18.p_.Table.Row, .int .i64 r18.p_.Table.Event, .int .i64 r18.p_.Table.Fast, .int .i64 r18.p_.Table.Gap, .int .i64 r18.p_.Table.Shot, .sl (r18.sums_.map (D.int .i64)), .int .i64 r18.aim_]), (2, .box none [.own 3 x9150.2.2.length, .int .i64 y9058, .own 4 e31.length]), (3, .vec 3 1 (x9150.2.2.map (D.int .i64)) false), (4, .vec 2 1 (e31.map (D.int .i64)) false)], 5, 152⟩) (fun _ => .exit 10) (fun e10800 => ⟨envL [(2, .ptr 0 0), (5, .ptr 1 0), (6, .sl (r24.map dlI)), (7, .ptr 2 0), (14, .int .i64 x9150.1), (16, .int .i64 e10800.1), (109, .sl (r24.map dlI)), (110, .int .i64 x9150.1), (111, .int .i64 (IntKind.i64.wrap (x9150.1 - 1))), (112, .iptr [.sl (e10800.2.1.map (D.int .i64))]), (113, .sl (e10800.2.2.1.map (D.int .i64))), (114, .int .i64 e10800.2.2.2.1), (115, .iptr [.int .i64 e10800.2.2.2.2.1]), (116, .int .i64 e10800.2.2.2.2.2.1), (117, .bool e10800.2.2.2.2.2.2.1), (120, .ptr 1 0), (121, .int .i64 x9150.2.1), (122, .int .i64 e10800.2.2.2.2.2.2.2.1), (123, .int .i64 e10800.2.2.2.2.2.2.2.2.1), (124, .sl (r24.map dlI)), (125, .int .i64 x9150.1), (126, .int .i64 (IntKind.i64.wrap (x9150.1 - 1))), (127, .iptr [.sl (e10800.2.2.2.2.2.2.2.2.2.1.map (D.int .i64))]), (128, .sl (e10800.2.2.2.2.2.2.2.2.2.2.1.map (D.int .i64))), (129, .int .i64 e10800.2.2.2.2.2.2.2.2.2.2.2.1), (130, .iptr [.int .i64 e10800.2.2.2.2.2.2.2.2.2.2.2.2.1]), (131, .int .i64 e10800.2.2.2.2.2.2.2.2.2.2.2.2.2.1), (132, .int .i64 e10800.2.2.2.2.2.2.2.2.2.2.2.2.2.2.1), (133, .sl (r24.map dlI)), (134, .int .i64 x9150.1), (135, .iptr [.sl (e10800.2.2.2.2.2.2.2.2.2.2.2.2.2.2.2.1.map (D.int .i64))]), (136, .sl (e10800.2.2.2.2.2.2.2.2.2.2.2.2.2.2.2.2.1.map (D.int .i64))), (137, .int .i64 x9150.2.1), (138, .iptr [.int .i64 e10800.2.2.2.2.2.2.2.2.2.2.2.2.2.2.2.2.2.1]), (139, .int .i64 e10800.2.2.2.2.2.2.2.2.2.2.2.2.2.2.2.2.2.2.1), (140, .bool e10800.2.2.2.2.2.2.2.2.2.2.2.2.2.2.2.2.2.2.2)], heapL [(0, .box none [.nils, .int .i64 0, .nils]), (1, .box none [.sl (r18.p_.Tokens.map A_Token.d), .int .i64 r18.p_.Width, .int .i64 r18.p_.Rows, .int .i64 r18.p_.Table.Sg.a0, .int .i64 r18.p_.Table.Sg.a1, .int .i64 r18.p_.Table.Sg.a2, .int .i64 r18.p_.Table.Sg.a3, .int .i64 r18.p_.Table.Sg.a4, .int .i64 r18.p_.Table.Sg.a5, .int .i64 r18.p_.Table.Rgd, .int .i64 r18.p_.Table.Row, .int .i64 r18.p_.Table.Event, .int .i64 r18.p_.Table.Fast, .int .i64 r18.p_.Table.Gap, .int .i64 r18.p_.Table.Shot, .sl (r18.sums_.map (D.int .i64)), .int .i64 r18.aim_]), (2, .box none [.own 3 x9150.2.2.length, .int .i64 y9058, .own 4 e31.length]), (3, .vec 3 1 (x9150.2.2.map (D.int .i64)) false), (4, .vec 2 1 (e31.map (D.int .i64)) false)], 5, 152⟩) h10903 (wk [(3, some 4), (4, some 3)]) (by intro w; simp) ?_ ?_
       ·clear h
        intro x10799 y h
        unfold g_rb_Break_s6 at h
        refine xs <| xs <| rD hI fun K10884 RK10884 hK10884 gK10884 => zz ?_
        obtain ⟨r10885, h10886, h⟩ := bs h
        refine eD.intro (fun H' ho hs => a_rb_sheet_fits hI (H := H') (nid := 8) (i0 := 1) (p0 := none) h10886 (ho 1 _ (by dsimp only; decide) fz)) fi rfl fk <| zz ?_
        obtain ⟨k,h⟩|⟨k,h⟩:=iK k h
        ·refine zz ?_
         obtain ⟨y10888, q, h⟩ := bK q h
         refine zz ?_
         obtain ⟨y10890, q, h⟩ := bK q h
         refine zz ?_
         obtain ⟨k,h⟩|⟨k,h⟩:=iK k h
         ·refine zz ?_
          subst hK10884 gK10884
          refine es <| xt <| xk <| es <| xb <| rz ?_
          refine bn ?_
          cases h
          exact en ⟨rfl, wk []⟩
         ·refine zz ?_
          obtain ⟨r10894, h10895, h⟩ := bs h
          refine eD.intro (fun H' ho hs => a_rb_sheet_cost hI (H := H') (nid := 25) (i0 := 1) (p0 := none) h10895 (ho 1 _ (by dsimp only; decide) fz)) fi rfl fk <| zz ?_
          obtain ⟨y10896, q, h⟩ := bK q h
          refine zz ?_
          obtain ⟨y10898, q, h⟩ := bK q h
          refine zz ?_
          subst hK10884 gK10884
          refine es ?_
          obtain ⟨k,h⟩|⟨k,h⟩:=iK k h
          ·refine xt <| xk <| es <| xb <| rz ?_
           refine bn ?_
           cases h
           exact en ⟨rfl, wk []⟩
          ·refine xf <| xx <| ee ?_
           cases h
           exact en ⟨rfl, wk []⟩
        ·refine zz ?_
         subst hK10884 gK10884
         refine es <| xt <| xk <| es <| xb <| rz ?_
         refine bn ?_
         cases h
         exact en ⟨rfl, wk []⟩
       ·refine bh <| es <| xs <| rK fun K10907 RK10907 hK10907 gK10907 => zz ?_
        obtain ⟨h10908, h⟩ := ite_on h
        have h10909 : x9150.2.2.length + 1 ≤ 9223372036854775807 := by omega
        try simp only [Nat.reduceLeDiff] at h10909
        have q := And.intro @h10909 <| And.intro @h10908 <| q
        refine zz ?_
        subst hK10907 gK10907
        refine es <| rz ?_
        refine bn <| es <| rz ?_
        cases h
        exact en ⟨rfl, wk [(3, some 4), (4, some 9)]⟩
      ·refine xf <| xx <| ee ?_
       cases h
       exact en ⟨rfl, wk [(1, some 2), (2, some 4)]⟩
     ·refine bh <| es <| xs <| rz ?_
      refine es <| xr ?_
      cases h
      exact en fr
structure A_Part where
 From : Int
 To : Int
 Breaks : List Int
 Span : A_Span
 deriving DecidableEq
def A_Part.d (x : A_Part) : D := .agg [.int .i64 x.From, .int .i64 x.To, .sl (x.Breaks.map (D.int .i64)), .int .i64 x.Span.In, .int .i64 x.Span.Out]
structure T_sg_edge where
 part_ : A_Part
 cost_ : Int
 deriving DecidableEq
def T_sg_edge.d (x : T_sg_edge) : D := .agg [.int .i64 x.part_.From, .int .i64 x.part_.To, .sl (x.part_.Breaks.map (D.int .i64)), .int .i64 x.part_.Span.In, .int .i64 x.part_.Span.Out, .int .i64 x.cost_]
structure T_sg_rest where
 cost_ : Int
 parts_ : Int
 deriving DecidableEq
def T_sg_rest.d (x : T_sg_rest) : D := .agg [.int .i64 x.cost_, .int .i64 x.parts_]
structure A_Segments where
 Parts : List A_Part
 Cost : Int
 Pts : List Int
 deriving DecidableEq
def A_Segments.d (x : A_Segments) : D := .agg [.sl (x.Parts.map A_Part.d), .int .i64 x.Cost, .sl (x.Pts.map (D.int .i64))]
def dl_List_T_sg_edge (x : List T_sg_edge) : D := .sl (x.map T_sg_edge.d)
theorem dd_ED : (∀ x, A_Part.d x = .agg [.int .i64 x.From, .int .i64 x.To, .sl (x.Breaks.map (D.int .i64)), .int .i64 x.Span.In, .int .i64 x.Span.Out]) ∧ (∀ x, T_sg_edge.d x = .agg [.int .i64 x.part_.From, .int .i64 x.part_.To, .sl (x.part_.Breaks.map (D.int .i64)), .int .i64 x.part_.Span.In, .int .i64 x.part_.Span.Out, .int .i64 x.cost_]) ∧ (∀ x, T_sg_rest.d x = .agg [.int .i64 x.cost_, .int .i64 x.parts_]) ∧ (∀ x, A_Segments.d x = .agg [.sl (x.Parts.map A_Part.d), .int .i64 x.Cost, .sl (x.Pts.map (D.int .i64))]) ∧ (∀ x : List T_sg_edge, dl_List_T_sg_edge x = .sl (x.map T_sg_edge.d)) := ⟨fun _ => rfl, fun _ => rfl, fun _ => rfl, fun _ => rfl, fun _ => rfl⟩
def g_sg_part (s_0 : A_Sh) (l_1 : List A_Token) (from_2 : Int) (to_3 : Int) : Option (A_Part × Int × Int) :=
 (((if (decide (from_2 < 0)) then (some true) else (if (decide (to_3 ≤ from_2)) then (some true) else (some (decide ((l_1.length : Int) < to_3))))) : Option (Bool)).bind fun v6 => (if v6 then (some ((A_Part.mk 0 0 [] (A_Span.mk 0 0)), 0, 1)) else ((atI s_0.Words from_2).bind fun y20 => ((atI s_0.Words (IntKind.i64.wrap (to_3 - 1))).bind fun y22 => (((if (decide (1 < (IntKind.i64.wrap (to_3 - from_2)))) then (some (decide (s_0.House.MxF < (IntKind.i64.wrap (y22.Span.Out - y20.Span.In))))) else (some false)) : Option (Bool)).bind fun v26 => (if v26 then (some ((A_Part.mk 0 0 [] (A_Span.mk 0 0)), 0, 2)) else ((subI l_1 from_2 to_3).bind fun z46 => ((g_sg_paragraph s_0 z46).bind fun r53 => ((g_rb_Break r53).bind fun r55 => (if (r55.2 != 0) then (some ((A_Part.mk 0 0 [] (A_Span.mk 0 0)), 0, r55.2)) else ((g_sg_load s_0 l_1 from_2 to_3).bind fun r70 => ((g_pn_Event s_0.Table r70).bind fun r72 => (if (r72.2 != 0) then (some ((A_Part.mk 0 0 [] (A_Span.mk 0 0)), 0, r72.2)) else (some ((A_Part.mk from_2 to_3 r55.1.Ends (A_Span.mk y20.Span.In y22.Span.Out)), (IntKind.i64.wrap (r55.1.Cost + r72.1)), 0)))))))))))))))
theorem a_sg_part {I : World → Prop} (hI : Stab I) (hU8T : ∀ w, I w → U8T w) {s_0 : A_Sh} {l_1 : List A_Token} {from_2 : Int} {to_3 : Int} {r : A_Part × Int × Int} (h : g_sg_part s_0 l_1 from_2 to_3 = some r) : AFun Tryz.prog I 29 [A_Sh.d s_0, .sl (l_1.map A_Token.d), .int .i64 from_2, .int .i64 to_3] (.tup [A_Part.d r.1, .int .i64 r.2.1, .int .i64 r.2.2]) := by
 have dd := And.intro dd_ED <| And.intro dd_EA <| And.intro dd_EB dd_EC; have k := True.intro; have q := k; have rs := Tryz.results29
 unfold g_sg_part at h
 refine .en hI Tryz.func29 Tryz.ntmps29 ?_
 refine xs <| rz ?_
 refine es <| xs ?_
 obtain ⟨v6, h10, h⟩ := bs h
 refine rb_cut (fun v6 => ⟨envL [(1, .sl (l_1.map A_Token.d)), (2, .int .i64 from_2), (3, .int .i64 to_3), (4, .ptr 0 0), (8, .ptr 1 0), (27, .bool v6)], heapL [(0, .box none [.int .u8 s_0.Rate, .sl (s_0.Words.map A_Word.d), .sl (s_0.Shots.map (D.int .i64)), .int .i64 s_0.Table.Sg.a0, .int .i64 s_0.Table.Sg.a1, .int .i64 s_0.Table.Sg.a2, .int .i64 s_0.Table.Sg.a3, .int .i64 s_0.Table.Sg.a4, .int .i64 s_0.Table.Sg.a5, .int .i64 s_0.Table.Rgd, .int .i64 s_0.Table.Row, .int .i64 s_0.Table.Event, .int .i64 s_0.Table.Fast, .int .i64 s_0.Table.Gap, .int .i64 s_0.Table.Shot, .str s_0.House.Name, .int .i64 s_0.House.Reading, .int .i64 s_0.House.MnF, .int .i64 s_0.House.MxF, .int .i64 s_0.House.MnG, .int .i64 s_0.House.ShB, .int .i64 s_0.House.ShA, .int .i64 s_0.House.Rows, .int .i64 s_0.House.Cols, .str s_0.House.Fbd, .int .i64 s_0.House.SfT, .int .i64 s_0.House.SfB, .int .i64 s_0.House.SfL, .int .i64 s_0.House.SfR]), (1, .box none [.int .i64 0, .int .i64 0, .nils, .int .i64 0, .int .i64 0])], 2, 103⟩) h10 ?_ ?_
 ·clear h
  intro v6 h
  refine rK fun K7 RK7 hK7 gK7 => zz ?_
  obtain ⟨k,h⟩|⟨k,h⟩:=iK k h
  ·refine zz ?_
   subst hK7 gK7
   cases h
   exact en ⟨rfl, wk []⟩
  ·refine zz ?_
   obtain ⟨k,h⟩|⟨k,h⟩:=iK k h
   ·refine zz ?_
    subst hK7 gK7
    cases h
    exact en ⟨rfl, wk []⟩
   ·refine zz ?_
    subst hK7 gK7
    cases h
    exact en ⟨rfl, wk []⟩
 ·obtain ⟨k,h⟩|⟨k,h⟩:=iK k h
  ·refine xt <| xs <| rz ?_
   refine es <| xr <| er ?_
   cases h
   exact en fr
  ·refine xf <| xk <| es <| xs <| rD hI fun K19 RK19 hK19 gK19 => zz ?_
   obtain ⟨y20, q, h⟩ := bK q h
   refine zz ?_
   obtain ⟨y22, q, h⟩ := bK q h
   refine zz ?_
   refine hd <| zz ?_
   subst hK19 gK19
   refine es <| xs ?_
   obtain ⟨v26, h29, h⟩ := bs h
   refine rb_cut (fun v26 => ⟨envL [(1, .sl (l_1.map A_Token.d)), (2, .int .i64 from_2), (3, .int .i64 to_3), (4, .ptr 0 0), (8, .ptr 1 0), (11, .ptr 2 0), (64, .bool v26)], heapL [(0, .box none [.int .u8 s_0.Rate, .sl (s_0.Words.map A_Word.d), .sl (s_0.Shots.map (D.int .i64)), .int .i64 s_0.Table.Sg.a0, .int .i64 s_0.Table.Sg.a1, .int .i64 s_0.Table.Sg.a2, .int .i64 s_0.Table.Sg.a3, .int .i64 s_0.Table.Sg.a4, .int .i64 s_0.Table.Sg.a5, .int .i64 s_0.Table.Rgd, .int .i64 s_0.Table.Row, .int .i64 s_0.Table.Event, .int .i64 s_0.Table.Fast, .int .i64 s_0.Table.Gap, .int .i64 s_0.Table.Shot, .str s_0.House.Name, .int .i64 s_0.House.Reading, .int .i64 s_0.House.MnF, .int .i64 s_0.House.MxF, .int .i64 s_0.House.MnG, .int .i64 s_0.House.ShB, .int .i64 s_0.House.ShA, .int .i64 s_0.House.Rows, .int .i64 s_0.House.Cols, .str s_0.House.Fbd, .int .i64 s_0.House.SfT, .int .i64 s_0.House.SfB, .int .i64 s_0.House.SfL, .int .i64 s_0.House.SfR]), (1, .box none [.int .i64 0, .int .i64 0, .nils, .int .i64 0, .int .i64 0]), (2, .box none [.int .i64 from_2, .int .i64 to_3, .nils, .int .i64 y20.Span.In, .int .i64 y22.Span.Out])], 3, 103⟩) h29 ?_ ?_
   ·clear h
    intro v26 h
    refine rK fun K27 RK27 hK27 gK27 => zz ?_
    obtain ⟨k,h⟩|⟨k,h⟩:=iK k h
    ·refine zz ?_
     subst hK27 gK27
     cases h
     exact en ⟨rfl, wk [(2, some 21)]⟩
    ·refine zz ?_
     subst hK27 gK27
     cases h
     exact en ⟨rfl, wk [(2, some 21)]⟩
   ·obtain ⟨k,h⟩|⟨k,h⟩:=iK k h
    ·refine xt <| xs <| rz ?_
     refine es <| xr <| er ?_
     cases h
     exact en fr
    ·refine xf <| xk <| es <| xs <| rD hI fun K45 RK45 hK45 gK45 => zz ?_
     obtain ⟨z46, h47, h⟩ := bind_some h
     obtain ⟨⟨h48, h49, h50, h51⟩, h52⟩ := subI_some h47
     have q := And.intro @h48 <| And.intro @h49 <| And.intro @h50 <| And.intro @h51 <| q
     try simp -implicitDefEqProofs only [vt, vm, sevalprocAttr, dd, k, q] at h52
     have q := And.intro @h52 <| q
     refine zz ?_
     obtain ⟨r53, h54, h⟩ := bs h
     refine cd (a_sg_paragraph hI h54) <| zz ?_
     obtain ⟨r55, h56, h⟩ := bs h
     refine cd (a_rb_Break hI hU8T h56) <| zz ?_
     refine hd <| zz ?_
     subst hK45 gK45
     refine es <| xs <| xs <| rz ?_
     refine es ?_
     obtain ⟨k,h⟩|⟨k,h⟩:=iK k h
     ·refine xt <| xs <| rz ?_
      refine es <| xr <| er ?_
      cases h
      exact en fr
     ·refine xf <| xk <| es <| xs <| rz ?_
      refine es <| xs <| rD hI fun K69 RK69 hK69 gK69 => zz ?_
      obtain ⟨r70, h71, h⟩ := bs h
      refine cd (a_sg_load hI hU8T h71) <| zz ?_
      obtain ⟨r72, h73, h⟩ := bs h
      refine cd (a_pn_Event hI h73) <| zz ?_
      subst hK69 gK69
      refine es <| xs <| xs <| rz ?_
      refine es ?_
      obtain ⟨k,h⟩|⟨k,h⟩:=iK k h
      ·refine xt <| xs <| rz ?_
       refine es <| xr <| er ?_
       cases h
       exact en fr
      ·refine xf <| xk <| es <| xs <| rP hI fun K80 hK80 => rgP_cons <| zq ?_
       refine sP.foot (.cell 2 0 5) (fun _ => FootOK.ld rfl rfl rfl (by kernel_rfl) (by decide)) fd (by first | exact .inl (by first | rfl | decide) | exact .inr (by kernel_rfl)) <| rgP_cons <| zq ?_
       refine sP.light rfl fd <| rgP_cons <| zq ?_
       refine sP.foot (.cell 13 1 1) (fun _ => FootOK.ld rfl rfl rfl (by kernel_rfl) (by decide)) fd (by first | exact .inl (by first | rfl | decide) | exact .inr (by kernel_rfl)) <| rgP_cons <| zq ?_
       refine sP.light rfl fd <| rgP_cons <| zq ?_
       refine sP.light rfl fd <| rgP_cons <| zq ?_
       refine sP.pat 1 0 5 rfl rfl rfl <| rgP_cons <| zq ?_
       refine sP.light rfl fd <| rgP_cons <| zq ?_
       refine sP.light rfl fd <| zq ?_
       refine rgP_nil fk ?_
       subst hK80
       refine es <| xr ?_
       cases h
       exact en fr
def g_sg_edges_s2 (s_0 : A_Sh) (r7 : (List A_Token)) (x15 : Int × (List (List T_sg_edge))) (x685 : Int × (List T_sg_edge)) : Option (Nx (Int × (List T_sg_edge)) ((List T_sg_edge))) :=
 (((if (decide (x685.1 ≤ (r7.length : Int))) then ((g_token_Len r7 x15.1 x685.1).bind fun r776 => (some (decide (r776 ≤ (IntKind.i64.wrap (s_0.House.Rows * (IntKind.i64.wrap (s_0.House.Cols + 1)))))))) else (some false)) : Option (Bool)).bind fun v773 => (if v773 then ((g_sg_part s_0 r7 x15.1 x685.1).bind fun r798 => (if (r798.2.2 == 0) then (if x15.1 = (x15.2.length : Int) ∧ x15.2.length < r7.length then (if (x685.2.length + 1) * 64 ≤ 140737488355328 then (if x15.1 = (x15.2.length : Int) ∧ x15.2.length < r7.length then (some (.go ((IntKind.i64.wrap (x685.1 + 1)), (x685.2 ++ [(T_sg_edge.mk r798.1 r798.2.1)])))) else none) else none) else none) else (some (.go ((IntKind.i64.wrap (x685.1 + 1)), x685.2))))) else (some (.out x685.2))))
def g_sg_edges_s1 (s_0 : A_Sh) (r7 : (List A_Token)) (x15 : Int × (List (List T_sg_edge))) : Option (Nx (Int × (List (List T_sg_edge))) ((List (List T_sg_edge)))) :=
 (if (decide (x15.1 < (r7.length : Int))) then (if x15.2.length < r7.length then ((iter (g_sg_edges_s2 s_0 r7 x15) ((IntKind.i64.wrap (x15.1 + 1)), [])).bind fun e686 => (if x15.2.length < r7.length then (some (.go ((IntKind.i64.wrap (x15.1 + 1)), (x15.2 ++ [e686])))) else none)) else none) else (if x15.2.length = r7.length then (some (.out x15.2)) else none))
def g_sg_edges (s_0 : A_Sh) : Option ((List (List T_sg_edge))) :=
 ((g_sg_tokens s_0).bind fun r7 => (if 0 ≤ (r7.length : Int) ∧ (r7.length : Int) ≤ 9223372036854775807 ∧ (r7.length : Int) * 24 ≤ 140737488355328 then ((iter (g_sg_edges_s1 s_0 r7) (0, ([] : List (List T_sg_edge)))).bind fun e16 => (some e16)) else none))
theorem a_sg_edges {I : World → Prop} (hI : Stab I) (hShp : ∀ w, I w → Shp w) (hU8T : ∀ w, I w → U8T w) {s_0 : A_Sh} {r : (List (List T_sg_edge))} (h : g_sg_edges s_0 = some r) : AFun Tryz.prog I 48 [A_Sh.d s_0] (.sl (r.map dl_List_T_sg_edge)) := by
 have dd := And.intro dd_ED <| And.intro dd_EA <| And.intro dd_EB dd_EC; have k := True.intro; have q := k; have rs := Tryz.results48
 unfold g_sg_edges at h
 refine .en hI Tryz.func48 Tryz.ntmps48 ?_
 refine xs <| rz ?_
 refine es <| xs <| rK fun K6 RK6 hK6 gK6 => zz ?_
 obtain ⟨r7, h8, h⟩ := bs h
 refine cw (a_sg_tokens hI hShp h8) <| zz ?_
 subst hK6 gK6
 refine es <| xs <| rK fun K10 RK10 hK10 gK10 => zz ?_
 obtain ⟨q, h⟩ := oK q h
 refine zz ?_
 subst hK10 gK10
 refine es <| xs <| rz ?_
 refine es <| xs <| xs <| rz ?_
 refine es <| xb ?_
 obtain ⟨e16, h812, h⟩ := bs h
 refine rb_loop (fun x15 => ⟨envL [(1, .ptr 0 0), (3, .sl (r7.map A_Token.d)), (4, .own 1 r7.length), (5, .int .i64 (IntKind.i64.wrap (s_0.House.Rows * (IntKind.i64.wrap (s_0.House.Cols + 1))))), (25, .int .i64 (r7.length : Int)), (26, .int .i64 x15.1)], heapL [(0, .box none [.int .u8 s_0.Rate, .sl (s_0.Words.map A_Word.d), .sl (s_0.Shots.map (D.int .i64)), .int .i64 s_0.Table.Sg.a0, .int .i64 s_0.Table.Sg.a1, .int .i64 s_0.Table.Sg.a2, .int .i64 s_0.Table.Sg.a3, .int .i64 s_0.Table.Sg.a4, .int .i64 s_0.Table.Sg.a5, .int .i64 s_0.Table.Rgd, .int .i64 s_0.Table.Row, .int .i64 s_0.Table.Event, .int .i64 s_0.Table.Fast, .int .i64 s_0.Table.Gap, .int .i64 s_0.Table.Shot, .str s_0.House.Name, .int .i64 s_0.House.Reading, .int .i64 s_0.House.MnF, .int .i64 s_0.House.MxF, .int .i64 s_0.House.MnG, .int .i64 s_0.House.ShB, .int .i64 s_0.House.ShA, .int .i64 s_0.House.Rows, .int .i64 s_0.House.Cols, .str s_0.House.Fbd, .int .i64 s_0.House.SfT, .int .i64 s_0.House.SfB, .int .i64 s_0.House.SfL, .int .i64 s_0.House.SfR]), (1, .vec 108 1 (emD dl_List_T_sg_edge x15.2 r7.length) false)], 2, 70⟩) (fun _ => .exit 0) (fun e16 => ⟨envL [(4, .own 0 e16.length)], heapL [(0, .vec 108 1 (e16.map dl_List_T_sg_edge) false)], 1, 70⟩) h812 (wk [(1, some 7)]) (by intro w; simp) ?_ ?_
 ·clear h
  intro x15 y h
  unfold g_sg_edges_s1 at h
  refine xs <| rz ?_
  refine es <| xs ?_
  obtain ⟨k,h⟩|⟨k,h⟩:=iK k h
  ·refine xt <| xk <| es <| xs <| xb <| xs <| rz ?_
   refine es <| xs <| rz ?_
   refine es <| xb ?_
   obtain ⟨h9, h⟩ := ite_on h
   obtain ⟨e686, h810, h⟩ := bs h
   refine rb_loop (fun x685 => ⟨envL [(1, .ptr 0 0), (3, .sl (r7.map A_Token.d)), (4, .own 1 r7.length), (5, .int .i64 (IntKind.i64.wrap (s_0.House.Rows * (IntKind.i64.wrap (s_0.House.Cols + 1))))), (6, .int .i64 x15.1), (7, .int .i64 x685.1), (25, .int .i64 (r7.length : Int)), (26, .int .i64 x15.1)], heapL [(0, .box none [.int .u8 s_0.Rate, .sl (s_0.Words.map A_Word.d), .sl (s_0.Shots.map (D.int .i64)), .int .i64 s_0.Table.Sg.a0, .int .i64 s_0.Table.Sg.a1, .int .i64 s_0.Table.Sg.a2, .int .i64 s_0.Table.Sg.a3, .int .i64 s_0.Table.Sg.a4, .int .i64 s_0.Table.Sg.a5, .int .i64 s_0.Table.Rgd, .int .i64 s_0.Table.Row, .int .i64 s_0.Table.Event, .int .i64 s_0.Table.Fast, .int .i64 s_0.Table.Gap, .int .i64 s_0.Table.Shot, .str s_0.House.Name, .int .i64 s_0.House.Reading, .int .i64 s_0.House.MnF, .int .i64 s_0.House.MxF, .int .i64 s_0.House.MnG, .int .i64 s_0.House.ShB, .int .i64 s_0.House.ShA, .int .i64 s_0.House.Rows, .int .i64 s_0.House.Cols, .str s_0.House.Fbd, .int .i64 s_0.House.SfT, .int .i64 s_0.House.SfB, .int .i64 s_0.House.SfL, .int .i64 s_0.House.SfR]), (1, .mat 108 1 ((emD dl_List_T_sg_edge x15.2 r7.length).set x15.2.length (.own 2 x685.2.length))), (2, .vec 110 6 (x685.2.map T_sg_edge.d) false)], 3, 70⟩) (fun _ => .exit 2) (fun e686 => ⟨envL [(1, .ptr 0 0), (3, .sl (r7.map A_Token.d)), (4, .own 1 r7.length), (5, .int .i64 (IntKind.i64.wrap (s_0.House.Rows * (IntKind.i64.wrap (s_0.House.Cols + 1))))), (25, .int .i64 (r7.length : Int)), (26, .int .i64 x15.1)], heapL [(0, .box none [.int .u8 s_0.Rate, .sl (s_0.Words.map A_Word.d), .sl (s_0.Shots.map (D.int .i64)), .int .i64 s_0.Table.Sg.a0, .int .i64 s_0.Table.Sg.a1, .int .i64 s_0.Table.Sg.a2, .int .i64 s_0.Table.Sg.a3, .int .i64 s_0.Table.Sg.a4, .int .i64 s_0.Table.Sg.a5, .int .i64 s_0.Table.Rgd, .int .i64 s_0.Table.Row, .int .i64 s_0.Table.Event, .int .i64 s_0.Table.Fast, .int .i64 s_0.Table.Gap, .int .i64 s_0.Table.Shot, .str s_0.House.Name, .int .i64 s_0.House.Reading, .int .i64 s_0.House.MnF, .int .i64 s_0.House.MxF, .int .i64 s_0.House.MnG, .int .i64 s_0.House.ShB, .int .i64 s_0.House.ShA, .int .i64 s_0.House.Rows, .int .i64 s_0.House.Cols, .str s_0.House.Fbd, .int .i64 s_0.House.SfT, .int .i64 s_0.House.SfB, .int .i64 s_0.House.SfL, .int .i64 s_0.House.SfR]), (1, .mat 108 1 ((emD dl_List_T_sg_edge x15.2 r7.length).set x15.2.length (.own 2 e686.length))), (2, .vec 110 6 (e686.map T_sg_edge.d) false)], 3, 70⟩) h810 (((Wk.openM (id := 1) (i := x15.2.length) (e := 108) (e2 := 110) (k2 := 6) (xs := emD dl_List_T_sg_edge x15.2 r7.length) fz (emD_at h9)).trans (wk [(2, some 8)]))) (by intro w; simp) ?_ ?_
   ·clear h
    intro x685 y h
    unfold g_sg_edges_s2 at h
    refine xs ?_
    obtain ⟨v773, h778, h⟩ := bs h
    refine rb_cut (fun v773 => ⟨envL [(1, .ptr 0 0), (3, .sl (r7.map A_Token.d)), (4, .own 1 r7.length), (5, .int .i64 (IntKind.i64.wrap (s_0.House.Rows * (IntKind.i64.wrap (s_0.House.Cols + 1))))), (6, .int .i64 x15.1), (7, .int .i64 x685.1), (25, .int .i64 (r7.length : Int)), (26, .int .i64 x15.1), (42, .bool v773)], heapL [(0, .box none [.int .u8 s_0.Rate, .sl (s_0.Words.map A_Word.d), .sl (s_0.Shots.map (D.int .i64)), .int .i64 s_0.Table.Sg.a0, .int .i64 s_0.Table.Sg.a1, .int .i64 s_0.Table.Sg.a2, .int .i64 s_0.Table.Sg.a3, .int .i64 s_0.Table.Sg.a4, .int .i64 s_0.Table.Sg.a5, .int .i64 s_0.Table.Rgd, .int .i64 s_0.Table.Row, .int .i64 s_0.Table.Event, .int .i64 s_0.Table.Fast, .int .i64 s_0.Table.Gap, .int .i64 s_0.Table.Shot, .str s_0.House.Name, .int .i64 s_0.House.Reading, .int .i64 s_0.House.MnF, .int .i64 s_0.House.MxF, .int .i64 s_0.House.MnG, .int .i64 s_0.House.ShB, .int .i64 s_0.House.ShA, .int .i64 s_0.House.Rows, .int .i64 s_0.House.Cols, .str s_0.House.Fbd, .int .i64 s_0.House.SfT, .int .i64 s_0.House.SfB, .int .i64 s_0.House.SfL, .int .i64 s_0.House.SfR]), (1, .mat 108 1 ((emD dl_List_T_sg_edge x15.2 r7.length).set x15.2.length (.own 2 x685.2.length))), (2, .vec 110 6 (x685.2.map T_sg_edge.d) false)], 3, 70⟩) h778 ?_ ?_
    ·clear h
     intro v773 h
     refine rK fun K774 RK774 hK774 gK774 => zz ?_
     obtain ⟨k,h⟩|⟨k,h⟩:=iK k h
     ·refine zz ?_
      obtain ⟨r776, h777, h⟩ := bs h
      refine cw (a_token_Len hI hU8T h777) <| zz ?_
      subst hK774 gK774
      cases h
      exact en ⟨rfl, wk []⟩
     ·refine zz ?_
      subst hK774 gK774
      cases h
      exact en ⟨rfl, wk []⟩
    ·obtain ⟨k,h⟩|⟨k,h⟩:=iK k h
     ·refine xt <| xk <| es <| xs <| xb <| xs <| rK fun K797 RK797 hK797 gK797 => zz ?_
      obtain ⟨r798, h799, h⟩ := bs h
      refine cw (a_sg_part hI hU8T h799) <| zz ?_
      subst hK797 gK797
      refine es <| xs <| rz ?_
      refine es ?_
      obtain ⟨k,h⟩|⟨k,h⟩:=iK k h
      ·refine xt <| rD hI fun K803 RK803 hK803 gK803 => zz ?_
       obtain ⟨h804, h⟩ := ite_on h
       have q := And.intro (em_facts (f := dl_List_T_sg_edge) h804) q
       refine zz ?_
       obtain ⟨h805, h⟩ := ite_on h
       have h806 : x685.2.length + 1 ≤ 9223372036854775807 := by omega
       try simp only [Nat.reduceLeDiff] at h806
       have q := And.intro @h806 <| And.intro @h805 <| q
       refine zz ?_
       refine hd <| zz ?_
       obtain ⟨h807, h⟩ := ite_on h
       have q := And.intro (em_facts (f := dl_List_T_sg_edge) h807) q
       refine zz ?_
       refine hd <| zz ?_
       subst hK803 gK803
       refine bn <| es <| rz ?_
       cases h
       exact en ⟨rfl, wk [(2, some 28)]⟩
      ·refine xf <| xk <| bn <| es <| rz ?_
       cases h
       exact en ⟨rfl, wk []⟩
     ·refine xf <| xx <| ee ?_
      cases h
      exact en ⟨rfl, wk []⟩
   ·refine bh <| bn <| es <| rz ?_
    obtain ⟨h9, h⟩ := ite_on h
    cases h
    exact en ⟨rfl, ((Wk.closeE (id := 1) (j := 2) (f := dl_List_T_sg_edge) (L := x15.2) (ys := e686) fz h9 fz fs (by decide) (fun _ => rfl) rfl).trans (wk []))⟩
  ·refine xf <| xx <| ee ?_
   obtain ⟨h9, h⟩ := ite_on h
   have k := And.intro h9 <| And.intro (emD_full (f := dl_List_T_sg_edge) h9) k
   cases h
   exact en ⟨rfl, wk [(0, some 1)]⟩
 ·refine bh <| es <| xs <| rz ?_
  refine es <| xr ?_
  cases h
  exact en fr
def g_sg_rest_better (r_0 : T_sg_rest) (than_1 : T_sg_rest) : Option (Bool) :=
 (if (than_1.cost_ == (-1)) then (some true) else (if (decide (r_0.cost_ < than_1.cost_)) then (some true) else (if (r_0.cost_ == than_1.cost_) then (some (decide (r_0.parts_ < than_1.parts_))) else (some false))))
theorem a_sg_rest_better {I : World → Prop} (hI : Stab I) {r_0 : T_sg_rest} {than_1 : T_sg_rest} {r : Bool} (h : g_sg_rest_better r_0 than_1 = some r) : AFun Tryz.prog I 49 [T_sg_rest.d r_0, T_sg_rest.d than_1] (.bool r) := by
 have dd := And.intro dd_ED <| And.intro dd_EA <| And.intro dd_EB dd_EC; have k := True.intro; have q := k; have rs := Tryz.results49
 unfold g_sg_rest_better at h
 refine .en hI Tryz.func49 Tryz.ntmps49 ?_
 refine xs <| rz ?_
 refine es <| xs <| rK fun K7 RK7 hK7 gK7 => zz ?_
 obtain ⟨k,h⟩|⟨k,h⟩:=iK k h
 ·refine zz ?_
  subst hK7 gK7
  refine es <| xr ?_
  cases h
  exact en fr
 ·refine zz ?_
  obtain ⟨k,h⟩|⟨k,h⟩:=iK k h
  ·refine zz ?_
   subst hK7 gK7
   refine es <| xr ?_
   cases h
   exact en fr
  ·refine zz ?_
   obtain ⟨k,h⟩|⟨k,h⟩:=iK k h
   ·refine zz ?_
    subst hK7 gK7
    refine es <| xr ?_
    cases h
    exact en fr
   ·refine zz ?_
    subst hK7 gK7
    refine es <| xr ?_
    cases h
    exact en fr
def g_sg_Segment_s2 (x56 : Int × (List T_sg_rest) × (List Int)) (y1459 : List T_sg_edge) (x1461 : Int × (List T_sg_rest) × (List Int)) : Option (Nx (Int × (List T_sg_rest) × (List Int)) ((List T_sg_rest) × (List Int))) :=
 (if (decide (x1461.1 < (y1459.length : Int))) then ((atI y1459 x1461.1).bind fun y1675 => ((atI x1461.2.1 y1675.part_.To).bind fun y1680 => (if (y1680.cost_ == (-1)) then (some (.go ((IntKind.i64.wrap (x1461.1 + 1)), x1461.2.1, x1461.2.2))) else ((atI x1461.2.1 x56.1).bind fun y1692 => ((g_sg_rest_better (T_sg_rest.mk (IntKind.i64.wrap (y1680.cost_ + y1675.cost_)) (IntKind.i64.wrap (y1680.parts_ + 1))) y1692).bind fun r1693 => (if r1693 then ((setI x1461.2.1 x56.1 (T_sg_rest.mk (IntKind.i64.wrap (y1680.cost_ + y1675.cost_)) (IntKind.i64.wrap (y1680.parts_ + 1)))).bind fun m1697 => ((atI x1461.2.2 x56.1).bind fun y1703 => ((setI x1461.2.2 x56.1 x1461.1).bind fun m1704 => (some (.go ((IntKind.i64.wrap (x1461.1 + 1)), m1697, m1704)))))) else (some (.go ((IntKind.i64.wrap (x1461.1 + 1)), x1461.2.1, x1461.2.2))))))))) else (some (.out (x1461.2.1, x1461.2.2))))
def g_sg_Segment_s1 (r18 : (List (List T_sg_edge))) (x56 : Int × (List T_sg_rest) × (List Int)) : Option (Nx (Int × (List T_sg_rest) × (List Int)) ((List T_sg_rest) × (List Int))) :=
 (if (decide (0 ≤ x56.1)) then ((atI x56.2.1 x56.1).bind fun y1448 => ((setI x56.2.1 x56.1 (T_sg_rest.mk (-1) y1448.parts_)).bind fun m1449 => ((atI r18 x56.1).bind fun y1459 => ((iter (g_sg_Segment_s2 x56 y1459) (0, m1449, x56.2.2)).bind fun e1462 => (some (.go ((IntKind.i64.wrap (x56.1 - 1)), e1462.1, e1462.2))))))) else (some (.out (x56.2.1, x56.2.2))))
def g_sg_Segment_s3 (e57 : (List T_sg_rest) × (List Int)) (x1734 : Int × (List Int)) : Option (Nx (Int × (List Int)) ((List Int))) :=
 (if (decide (x1734.1 < ((e57.1.length : Nat) : Int))) then ((atI e57.1 x1734.1).bind fun y1803 => (if (x1734.2.length + 1) * 8 ≤ 140737488355328 then (some (.go ((IntKind.i64.wrap (x1734.1 + 1)), (x1734.2 ++ [y1803.cost_])))) else none)) else (some (.out x1734.2)))
def g_sg_Segment_s4 (r18 : (List (List T_sg_edge))) (e57 : (List T_sg_rest) × (List Int)) (x1811 : Int × (List A_Part)) : Option (Nx (Int × (List A_Part)) ((List A_Part))) :=
 (if (decide (x1811.1 < (r18.length : Int))) then ((atI r18 x1811.1).bind fun y1885 => ((atI e57.2 x1811.1).bind fun y1887 => ((atI y1885 y1887).bind fun y1888 => (if (x1811.2.length + 1) * 56 ≤ 140737488355328 then (some (.go (y1888.part_.To, (x1811.2 ++ [y1888.part_])))) else none)))) else (some (.out x1811.2)))
def g_sg_Segment (s_0 : A_Sh) : Option (A_Segments × Int) :=
 ((g_sg_Check s_0).bind fun r7 => (if (r7 != 0) then (some ((A_Segments.mk [] 0 []), r7)) else ((g_sg_edges s_0).bind fun r18 => ((mkI 16 (IntKind.i64.wrap ((r18.length : Int) + 1)) ((T_sg_rest.mk 0 0) : T_sg_rest)).bind fun m31 => ((mkI 8 (r18.length : Int) (0 : Int)).bind fun m47 => ((iter (g_sg_Segment_s1 r18) ((IntKind.i64.wrap ((r18.length : Int) - 1)), m31, m47)).bind fun e57 => ((atI e57.1 0).bind fun y1722 => (if (y1722.cost_ == (-1)) then (some ((A_Segments.mk [] 0 []), 11)) else ((iter (g_sg_Segment_s3 e57) (0, [])).bind fun e1735 => ((iter (g_sg_Segment_s4 r18 e57) (0, [])).bind fun e1812 => (some ((A_Segments.mk e1812 y1722.cost_ e1735), 0))))))))))))
theorem a_sg_Segment {I : World → Prop} (hI : Stab I) (hShp : ∀ w, I w → Shp w) (hU8T : ∀ w, I w → U8T w) {s_0 : A_Sh} {r : A_Segments × Int} (h : g_sg_Segment s_0 = some r) : AFun Tryz.prog I 15 [A_Sh.d s_0] (.tup [A_Segments.d r.1, .int .i64 r.2]) := by
 have dd := And.intro dd_ED <| And.intro dd_EA <| And.intro dd_EB dd_EC; have k := True.intro; have q := k; have rs := Tryz.results15
 unfold g_sg_Segment at h
 refine .en hI Tryz.func15 Tryz.ntmps15 ?_
 refine xs <| rz ?_
 refine es <| xs <| xs <| rK fun K6 RK6 hK6 gK6 => zz ?_
 obtain ⟨r7, h8, h⟩ := bs h
 refine cw (a_sg_Check hI hU8T h8) <| zz ?_
 subst hK6 gK6
 refine es <| xs <| rz ?_
 refine es ?_
 obtain ⟨k,h⟩|⟨k,h⟩:=iK k h
 ·refine xt <| xs <| rz ?_
  refine es <| xr <| er ?_
  cases h
  exact en fr
 ·refine xf <| xk <| es <| xs <| rK fun K17 RK17 hK17 gK17 => zz ?_
  obtain ⟨r18, h19, h⟩ := bs h
  refine cw (a_sg_edges hI hShp hU8T h19) <| zz ?_
  subst hK17 gK17
  refine es <| xs <| rz ?_
  refine es <| xs <| rK fun K30 RK30 hK30 gK30 => zz ?_
  obtain ⟨m31, h32, h⟩ := bind_some h
  obtain ⟨h33, h34, h35, h36, h37⟩ := mkI_some h32
  have h37 := h37 T_sg_rest.d
  try simp only [sevalprocAttr, List.map_nil, Int.toNat_natCast, dd] at h36 h37
  have q := And.intro @h33 <| And.intro @h34 <| And.intro @h35 <| And.intro @h36 <| And.intro @h37 <| q
  refine zz ?_
  subst hK30 gK30
  refine es <| xs <| rK fun K46 RK46 hK46 gK46 => zz ?_
  obtain ⟨m47, h48, h⟩ := bind_some h
  obtain ⟨h49, h50, h51, h52, h53⟩ := mkI_some h48
  have h53 := h53 (D.int .i64)
  have h52 := (Int.toNat_natCast _).symm.trans h52 |>.symm
  rw [h52] at h53
  have k := And.intro h52 k
  try simp only [sevalprocAttr, List.map_nil, Int.toNat_natCast, dd] at h53
  have q := And.intro @h49 <| And.intro @h50 <| And.intro @h51 <| And.intro @h52 <| And.intro @h53 <| q
  refine zz ?_
  subst hK46 gK46
  refine es <| xs <| xs <| rz ?_
  refine es <| xb ?_
  obtain ⟨e57, h1714, h⟩ := bs h
  refine rb_loop (fun x56 => ⟨envL [(2, .ptr 0 0), (5, .sl (r18.map dl_List_T_sg_edge)), (6, .int .i64 (r18.length : Int)), (7, .own 1 x56.2.1.length), (8, .own 2 x56.2.2.length), (9, .int .i64 x56.1)], heapL [(0, .box none [.nils, .int .i64 0, .nils]), (1, .vec 107 2 (x56.2.1.map T_sg_rest.d) false), (2, .vec 3 1 (x56.2.2.map (D.int .i64)) false)], 3, 134⟩) (fun _ => .exit 0) (fun e57 => ⟨envL [(2, .ptr 0 0), (5, .sl (r18.map dl_List_T_sg_edge)), (6, .int .i64 (r18.length : Int)), (7, .own 1 e57.1.length), (8, .own 2 e57.2.length)], heapL [(0, .box none [.nils, .int .i64 0, .nils]), (1, .vec 107 2 (e57.1.map T_sg_rest.d) false), (2, .vec 3 1 (e57.2.map (D.int .i64)) false)], 3, 134⟩) h1714 (wk [(0, some 1), (1, some 16), (2, some 19)]) (by intro w; simp) ?_ ?_
  ·clear h
   intro x56 y h
   unfold g_sg_Segment_s1 at h
   refine xs <| xs <| rz ?_
   refine es ?_
   obtain ⟨k,h⟩|⟨k,h⟩:=iK k h
   ·refine xt <| xk <| es <| xs <| xb <| xs <| rK fun K1447 RK1447 hK1447 gK1447 => zz ?_
    obtain ⟨y1448, q, h⟩ := oN q h
    refine zz ?_
    obtain ⟨m1449, h1450, h⟩ := bind_some h
    obtain ⟨h1451, h1452, h1453, h1454⟩ := setI_some h1450
    have h1454 := h1454 T_sg_rest.d
    try simp only [sevalprocAttr, List.map_nil, dd] at h1454
    have q := And.intro @h1451 <| And.intro @h1452 <| And.intro @h1453 <| And.intro @h1454 <| q
    refine zz ?_
    subst hK1447 gK1447
    refine es <| xs <| rK fun K1458 RK1458 hK1458 gK1458 => zz ?_
    obtain ⟨y1459, q, h⟩ := bK q h
    refine zz ?_
    subst hK1458 gK1458
    refine es <| xb ?_
    obtain ⟨e1462, h1712, h⟩ := bs h
    refine rb_loop (fun x1461 => ⟨envL [(2, .ptr 0 0), (5, .sl (r18.map dl_List_T_sg_edge)), (6, .int .i64 (r18.length : Int)), (7, .own 1 x1461.2.1.length), (8, .own 2 x1461.2.2.length), (9, .int .i64 x56.1), (46, .sl (y1459.map T_sg_edge.d)), (47, .int .i64 (y1459.length : Int)), (48, .int .i64 x1461.1)], heapL [(0, .box none [.nils, .int .i64 0, .nils]), (1, .vec 107 2 (x1461.2.1.map T_sg_rest.d) false), (2, .vec 3 1 (x1461.2.2.map (D.int .i64)) false)], 3, 134⟩) (fun _ => .exit 2) (fun e1462 => ⟨envL [(2, .ptr 0 0), (5, .sl (r18.map dl_List_T_sg_edge)), (6, .int .i64 (r18.length : Int)), (7, .own 1 e1462.1.length), (8, .own 2 e1462.2.length), (9, .int .i64 x56.1)], heapL [(0, .box none [.nils, .int .i64 0, .nils]), (1, .vec 107 2 (e1462.1.map T_sg_rest.d) false), (2, .vec 3 1 (e1462.2.map (D.int .i64)) false)], 3, 134⟩) h1712 (wk []) (by intro w; simp) ?_ ?_
    ·clear h
     intro x1461 y h
     unfold g_sg_Segment_s2 at h
     refine xs <| rz ?_
     refine es <| xs ?_
     obtain ⟨k,h⟩|⟨k,h⟩:=iK k h
     ·refine xt <| xk <| es <| xs <| xb <| xs <| rK fun K1674 RK1674 hK1674 gK1674 => zz ?_
      obtain ⟨y1675, q, h⟩ := bK q h
      refine zz ?_
      subst hK1674 gK1674
      refine es <| xs <| rK fun K1679 RK1679 hK1679 gK1679 => zz ?_
      obtain ⟨y1680, q, h⟩ := oN q h
      refine zz ?_
      subst hK1679 gK1679
      refine es <| xs <| xs <| rz ?_
      refine es ?_
      obtain ⟨k,h⟩|⟨k,h⟩:=iK k h
      ·refine xt <| xx <| ee <| bh <| es <| rz ?_
       cases h
       exact en ⟨rfl, wk []⟩
      ·refine xf <| xk <| es <| xs <| rz ?_
       refine es <| xs <| rD hI fun K1691 RK1691 hK1691 gK1691 => zz ?_
       obtain ⟨y1692, q, h⟩ := oN q h
       refine zz ?_
       obtain ⟨r1693, h1694, h⟩ := bs h
       refine cd (a_sg_rest_better hI h1694) <| zz ?_
       subst hK1691 gK1691
       refine es ?_
       obtain ⟨k,h⟩|⟨k,h⟩:=iK k h
       ·refine xt <| rK fun K1696 RK1696 hK1696 gK1696 => zz ?_
        obtain ⟨m1697, h1698, h⟩ := bind_some h
        obtain ⟨h1699, h1700, h1701, h1702⟩ := setI_some h1698
        have h1702 := h1702 T_sg_rest.d
        try simp only [sevalprocAttr, List.map_nil, dd] at h1702
        have q := And.intro @h1699 <| And.intro @h1700 <| And.intro @h1701 <| And.intro @h1702 <| q
        refine zz ?_
        obtain ⟨y1703, q, h⟩ := oN q h
        refine zz ?_
        obtain ⟨m1704, h1705, h⟩ := bind_some h
        obtain ⟨h1706, h1707, h1708, h1709⟩ := setI_some h1705
        have h1709 := h1709 (D.int .i64)
        try simp only [sevalprocAttr, List.map_nil, dd] at h1709
        have q := And.intro @h1706 <| And.intro @h1707 <| And.intro @h1708 <| And.intro @h1709 <| q
        refine zz ?_
        subst hK1696 gK1696
        refine bn <| es <| rz ?_
        cases h
        exact en ⟨rfl, wk []⟩
       ·refine xf <| xk <| bn <| es <| rz ?_
        cases h
        exact en ⟨rfl, wk []⟩
     ·refine xf <| xx <| ee ?_
      cases h
      exact en ⟨rfl, wk []⟩
    ·refine bh <| bn <| es <| rz ?_
     cases h
     exact en ⟨rfl, wk []⟩
   ·refine xf <| xx <| ee ?_
    cases h
    exact en ⟨rfl, wk []⟩
  ·refine bh <| es <| xs <| xs <| rK fun K1721 RK1721 hK1721 gK1721 => zz ?_
   obtain ⟨y1722, h1723, h⟩ := bind_some h
   obtain ⟨h1724, h1725, h1726⟩ := atI_own h1723
   try simp only [Int.reduceToNat, Int.toNat_zero, Int.toNat_one] at h1726
   have q := And.intro h1724 <| And.intro h1725 <| And.intro @h1726 q
   refine zz ?_
   subst hK1721 gK1721
   refine es ?_
   obtain ⟨k,h⟩|⟨k,h⟩:=iK k h
   ·refine xt <| xs <| rz ?_
    refine es <| xr <| er ?_
    cases h
    exact en fr
   ·refine xf <| xk <| es <| xs <| rz ?_
    refine es <| xs <| xs <| rz ?_
    refine es <| xb ?_
    obtain ⟨e1735, h1808, h⟩ := bs h
    refine rb_loop (fun x1734 => ⟨envL [(2, .ptr 0 0), (5, .sl (r18.map dl_List_T_sg_edge)), (6, .int .i64 (r18.length : Int)), (8, .own 1 e57.2.length), (13, .ptr 2 0), (97, .own 3 e57.1.length), (98, .int .i64 ((e57.1.length : Nat) : Int)), (99, .int .i64 x1734.1)], heapL [(0, .box none [.nils, .int .i64 0, .nils]), (1, .vec 3 1 (e57.2.map (D.int .i64)) false), (2, .box none [.nils, .int .i64 y1722.cost_, .own 4 x1734.2.length]), (3, .vec 107 2 (e57.1.map T_sg_rest.d) false), (4, .vec 2 1 (x1734.2.map (D.int .i64)) false)], 5, 134⟩) (fun _ => .exit 4) (fun e1735 => ⟨envL [(2, .ptr 0 0), (5, .sl (r18.map dl_List_T_sg_edge)), (6, .int .i64 (r18.length : Int)), (8, .own 1 e57.2.length), (13, .ptr 2 0)], heapL [(0, .box none [.nils, .int .i64 0, .nils]), (1, .vec 3 1 (e57.2.map (D.int .i64)) false), (2, .box none [.nils, .int .i64 y1722.cost_, .own 3 e1735.length]), (3, .vec 2 1 (e1735.map (D.int .i64)) false)], 4, 134⟩) h1808 (wk [(1, some 2), (2, some 13), (3, some 1), (4, none)]) (by intro w; simp) ?_ ?_
    ·clear h
     intro x1734 y h
     unfold g_sg_Segment_s3 at h
     refine xs <| rz ?_
     refine es <| xs ?_
     obtain ⟨k,h⟩|⟨k,h⟩:=iK k h
     ·refine xt <| xk <| es <| xs <| xb <| xs <| rK fun K1802 RK1802 hK1802 gK1802 => zz ?_
      obtain ⟨y1803, q, h⟩ := oN q h
      refine zz ?_
      subst hK1802 gK1802
      refine es <| rK fun K1804 RK1804 hK1804 gK1804 => zz ?_
      obtain ⟨h1805, h⟩ := ite_on h
      have h1806 : x1734.2.length + 1 ≤ 9223372036854775807 := by omega
      try simp only [Nat.reduceLeDiff] at h1806
      have q := And.intro @h1806 <| And.intro @h1805 <| q
      refine zz ?_
      subst hK1804 gK1804
      refine bn <| es <| rz ?_
      cases h
      exact en ⟨rfl, wk [(4, some 15)]⟩
     ·refine xf <| xx <| ee ?_
      cases h
      exact en ⟨rfl, wk [(3, some 4)]⟩
    ·refine bh <| es <| xs <| xs <| rz ?_
     refine es <| xb ?_
     obtain ⟨e1812, h1897, h⟩ := bs h
     refine rb_loop (fun x1811 => ⟨envL [(2, .ptr 0 0), (5, .sl (r18.map dl_List_T_sg_edge)), (6, .int .i64 (r18.length : Int)), (8, .own 1 e57.2.length), (13, .ptr 2 0), (16, .int .i64 x1811.1)], heapL [(0, .box none [.nils, .int .i64 0, .nils]), (1, .vec 3 1 (e57.2.map (D.int .i64)) false), (2, .box none [.own 4 x1811.2.length, .int .i64 y1722.cost_, .own 3 e1735.length]), (3, .vec 2 1 (e1735.map (D.int .i64)) false), (4, .vec 38 5 (x1811.2.map A_Part.d) false)], 5, 134⟩) (fun _ => .exit 6) (fun e1812 => ⟨envL [(2, .ptr 0 0), (13, .ptr 1 0)], heapL [(0, .box none [.nils, .int .i64 0, .nils]), (1, .box none [.own 2 e1812.length, .int .i64 y1722.cost_, .own 3 e1735.length]), (2, .vec 38 5 (e1812.map A_Part.d) false), (3, .vec 2 1 (e1735.map (D.int .i64)) false)], 4, 134⟩) h1897 (wk [(4, none)]) (by intro w; simp) ?_ ?_
     ·clear h
      intro x1811 y h
      unfold g_sg_Segment_s4 at h
      refine xs <| xs <| rz ?_
      refine es ?_
      obtain ⟨k,h⟩|⟨k,h⟩:=iK k h
      ·refine xt <| xk <| es <| xb <| xs <| rD hI fun K1884 RK1884 hK1884 gK1884 => zz ?_
       obtain ⟨y1885, q, h⟩ := bK q h
       refine zz ?_
       obtain ⟨y1887, q, h⟩ := oN q h
       refine zz ?_
       obtain ⟨y1888, q, h⟩ := bK q h
       refine zz ?_
       refine hd <| zz ?_
       subst hK1884 gK1884
       refine es <| xs <| rK fun K1893 RK1893 hK1893 gK1893 => zz ?_
       obtain ⟨h1894, h⟩ := ite_on h
       have h1895 : x1811.2.length + 1 ≤ 9223372036854775807 := by omega
       try simp only [Nat.reduceLeDiff] at h1895
       have q := And.intro @h1895 <| And.intro @h1894 <| q
       refine zz ?_
       subst hK1893 gK1893
       refine es <| rz ?_
       refine bn ?_
       cases h
       exact en ⟨rfl, wk [(4, some 25)]⟩
      ·refine xf <| xx <| ee ?_
       cases h
       exact en ⟨rfl, wk [(1, some 2), (2, some 4)]⟩
     ·refine bh <| es <| xs <| rz ?_
      refine es <| xr ?_
      cases h
      exact en fr
def g_sg_cost_s1 (s_0 : A_Sh) (l_1 : List A_Part) (x7 : Int × Int) : Option (Nx (Int × Int) (Unit ⊕ Int)) :=
 (if (decide (x7.2 < (l_1.length : Int))) then ((atI l_1 x7.2).bind fun y117 => (((if (y117.From != x7.1) then (some true) else (if (decide (y117.To ≤ y117.From)) then (some true) else (some (decide ((s_0.Words.length : Int) < y117.To))))) : Option (Bool)).bind fun v122 => (if v122 then (some (.out (.inl ()))) else (some (.go (y117.To, (IntKind.i64.wrap (x7.2 + 1)))))))) else (some (.out (.inr x7.1))))
def g_sg_cost_s2 (s_0 : A_Sh) (l_1 : List A_Part) (r142 : (List A_Token)) (x150 : (List A_Part) × Int × Int) : Option (Nx ((List A_Part) × Int × Int) (Int ⊕ ((List A_Part) × Int))) :=
 (if (decide (x150.2.2 < (l_1.length : Int))) then ((atI l_1 x150.2.2).bind fun y335 => ((g_sg_part s_0 r142 y335.From y335.To).bind fun r341 => (if (r341.2.2 != 0) then (some (.out (.inl r341.2.2))) else (if (x150.1.length + 1) * 56 ≤ 140737488355328 then (some (.go ((x150.1 ++ [r341.1]), (IntKind.i64.wrap (x150.2.1 + r341.2.1)), (IntKind.i64.wrap (x150.2.2 + 1))))) else none)))) else (some (.out (.inr (x150.1, x150.2.1)))))
def g_sg_cost (s_0 : A_Sh) (l_1 : List A_Part) : Option ((List A_Part) × Int × Int) :=
 ((iter (g_sg_cost_s1 s_0 l_1) (0, 0)).bind fun e8 => (match e8 with | Sum.inl e8 => (some ([], 0, 1)) | Sum.inr (e8) => (if (e8 != (s_0.Words.length : Int)) then (some ([], 0, 1)) else ((g_sg_tokens s_0).bind fun r142 => ((iter (g_sg_cost_s2 s_0 l_1 r142) ([], 0, 0)).bind fun e151 => (match e151 with | Sum.inl e151 => (some ([], 0, e151)) | Sum.inr (e151) => (some (e151.1, e151.2, 0))))))))
theorem a_sg_cost {I : World → Prop} (hI : Stab I) (hShp : ∀ w, I w → Shp w) (hU8T : ∀ w, I w → U8T w) {s_0 : A_Sh} {l_1 : List A_Part} {r : (List A_Part) × Int × Int} (h : g_sg_cost s_0 l_1 = some r) : AFun Tryz.prog I 50 [A_Sh.d s_0, .sl (l_1.map A_Part.d)] (.tup [.sl (r.1.map A_Part.d), .int .i64 r.2.1, .int .i64 r.2.2]) := by
 have dd := And.intro dd_ED <| And.intro dd_EA <| And.intro dd_EB dd_EC; have k := True.intro; have q := k; have rs := Tryz.results50
 unfold g_sg_cost at h
 refine .en hI Tryz.func50 Tryz.ntmps50 ?_
 refine xs <| rz ?_
 refine es <| xs <| rz ?_
 refine es <| xs <| xs <| rz ?_
 refine es <| xb ?_
 obtain ⟨e8, h132, h⟩ := bs h
 refine rb_loop (fun x7 => ⟨envL [(1, .sl (l_1.map A_Part.d)), (2, .ptr 0 0), (7, .int .i64 x7.1), (18, .sl (l_1.map A_Part.d)), (19, .int .i64 (l_1.length : Int)), (20, .int .i64 x7.2)], heapL [(0, .box none [.int .u8 s_0.Rate, .sl (s_0.Words.map A_Word.d), .sl (s_0.Shots.map (D.int .i64)), .int .i64 s_0.Table.Sg.a0, .int .i64 s_0.Table.Sg.a1, .int .i64 s_0.Table.Sg.a2, .int .i64 s_0.Table.Sg.a3, .int .i64 s_0.Table.Sg.a4, .int .i64 s_0.Table.Sg.a5, .int .i64 s_0.Table.Rgd, .int .i64 s_0.Table.Row, .int .i64 s_0.Table.Event, .int .i64 s_0.Table.Fast, .int .i64 s_0.Table.Gap, .int .i64 s_0.Table.Shot, .str s_0.House.Name, .int .i64 s_0.House.Reading, .int .i64 s_0.House.MnF, .int .i64 s_0.House.MxF, .int .i64 s_0.House.MnG, .int .i64 s_0.House.ShB, .int .i64 s_0.House.ShA, .int .i64 s_0.House.Rows, .int .i64 s_0.House.Cols, .str s_0.House.Fbd, .int .i64 s_0.House.SfT, .int .i64 s_0.House.SfB, .int .i64 s_0.House.SfL, .int .i64 s_0.House.SfR])], 1, 83⟩) (fun w => match w with | Sum.inl _ => .ret | Sum.inr (_) => .exit 0) (fun w => match w with | Sum.inl e8 => ⟨envL [(4, .nils), (5, .int .i64 0), (6, .int .i64 1)], heapL [], 0, 83⟩ | Sum.inr (e8) => ⟨envL [(1, .sl (l_1.map A_Part.d)), (2, .ptr 0 0), (7, .int .i64 e8)], heapL [(0, .box none [.int .u8 s_0.Rate, .sl (s_0.Words.map A_Word.d), .sl (s_0.Shots.map (D.int .i64)), .int .i64 s_0.Table.Sg.a0, .int .i64 s_0.Table.Sg.a1, .int .i64 s_0.Table.Sg.a2, .int .i64 s_0.Table.Sg.a3, .int .i64 s_0.Table.Sg.a4, .int .i64 s_0.Table.Sg.a5, .int .i64 s_0.Table.Rgd, .int .i64 s_0.Table.Row, .int .i64 s_0.Table.Event, .int .i64 s_0.Table.Fast, .int .i64 s_0.Table.Gap, .int .i64 s_0.Table.Shot, .str s_0.House.Name, .int .i64 s_0.House.Reading, .int .i64 s_0.House.MnF, .int .i64 s_0.House.MxF, .int .i64 s_0.House.MnG, .int .i64 s_0.House.ShB, .int .i64 s_0.House.ShA, .int .i64 s_0.House.Rows, .int .i64 s_0.House.Cols, .str s_0.House.Fbd, .int .i64 s_0.House.SfT, .int .i64 s_0.House.SfB, .int .i64 s_0.House.SfL, .int .i64 s_0.House.SfR])], 1, 83⟩) h132 (wk []) (by intro w; rcases w with w | w <;> simp) ?_ ?_
 ·clear h
  intro x7 y h
  unfold g_sg_cost_s1 at h
  refine xs <| rz ?_
  refine es <| xs ?_
  obtain ⟨k,h⟩|⟨k,h⟩:=iK k h
  ·refine xt <| xk <| es <| xs <| xb <| xs <| rK fun K116 RK116 hK116 gK116 => zz ?_
   obtain ⟨y117, q, h⟩ := bK q h
   refine zz ?_
   subst hK116 gK116
   refine es <| xs ?_
   obtain ⟨v122, h126, h⟩ := bs h
   refine rb_cut (fun v122 => ⟨envL [(1, .sl (l_1.map A_Part.d)), (2, .ptr 0 0), (9, .ptr 1 0), (18, .sl (l_1.map A_Part.d)), (19, .int .i64 (l_1.length : Int)), (20, .int .i64 x7.2), (42, .bool v122)], heapL [(0, .box none [.int .u8 s_0.Rate, .sl (s_0.Words.map A_Word.d), .sl (s_0.Shots.map (D.int .i64)), .int .i64 s_0.Table.Sg.a0, .int .i64 s_0.Table.Sg.a1, .int .i64 s_0.Table.Sg.a2, .int .i64 s_0.Table.Sg.a3, .int .i64 s_0.Table.Sg.a4, .int .i64 s_0.Table.Sg.a5, .int .i64 s_0.Table.Rgd, .int .i64 s_0.Table.Row, .int .i64 s_0.Table.Event, .int .i64 s_0.Table.Fast, .int .i64 s_0.Table.Gap, .int .i64 s_0.Table.Shot, .str s_0.House.Name, .int .i64 s_0.House.Reading, .int .i64 s_0.House.MnF, .int .i64 s_0.House.MxF, .int .i64 s_0.House.MnG, .int .i64 s_0.House.ShB, .int .i64 s_0.House.ShA, .int .i64 s_0.House.Rows, .int .i64 s_0.House.Cols, .str s_0.House.Fbd, .int .i64 s_0.House.SfT, .int .i64 s_0.House.SfB, .int .i64 s_0.House.SfL, .int .i64 s_0.House.SfR]), (1, .box none [.int .i64 y117.From, .int .i64 y117.To, .sl (y117.Breaks.map (D.int .i64)), .int .i64 y117.Span.In, .int .i64 y117.Span.Out])], 2, 83⟩) h126 ?_ ?_
   ·clear h
    intro v122 h
    refine rK fun K123 RK123 hK123 gK123 => zz ?_
    obtain ⟨k,h⟩|⟨k,h⟩:=iK k h
    ·refine zz ?_
     subst hK123 gK123
     cases h
     exact en ⟨rfl, wk [(1, some 4)]⟩
    ·refine zz ?_
     obtain ⟨k,h⟩|⟨k,h⟩:=iK k h
     ·refine zz ?_
      subst hK123 gK123
      cases h
      exact en ⟨rfl, wk [(1, some 4)]⟩
     ·refine zz ?_
      subst hK123 gK123
      cases h
      exact en ⟨rfl, wk [(1, some 4)]⟩
   ·obtain ⟨k,h⟩|⟨k,h⟩:=iK k h
    ·refine xt <| xs <| rz ?_
     refine es <| xr <| er <| br <| er ?_
     cases h
     exact en ⟨rfl, wk []⟩
    ·refine xf <| xk <| es <| rz ?_
     refine bn <| es <| rz ?_
     cases h
     exact en ⟨rfl, wk []⟩
  ·refine xf <| xx <| ee ?_
   cases h
   exact en ⟨rfl, wk []⟩
 ·rcases e8 with e8 | e8
  ·try dsimp only at h ⊢
   refine br <| er ?_
   cases h
   exact en fr
  ·try dsimp only at h ⊢
   refine bh <| es <| xs <| xs <| rz ?_
   refine es ?_
   obtain ⟨k,h⟩|⟨k,h⟩:=iK k h
   ·refine xt <| xs <| rz ?_
    refine es <| xr <| er ?_
    cases h
    exact en fr
   ·refine xf <| xk <| es <| xs <| rK fun K141 RK141 hK141 gK141 => zz ?_
    obtain ⟨r142, h143, h⟩ := bs h
    refine cw (a_sg_tokens hI hShp h143) <| zz ?_
    subst hK141 gK141
    refine es <| xs <| rz ?_
    refine es <| xs <| rz ?_
    refine es <| xs <| xs <| rz ?_
    refine es <| xb ?_
    obtain ⟨e151, h356, h⟩ := bs h
    refine rb_loop (fun x150 => ⟨envL [(2, .ptr 0 0), (10, .sl (r142.map A_Token.d)), (11, .own 1 x150.1.length), (12, .int .i64 x150.2.1), (53, .sl (l_1.map A_Part.d)), (54, .int .i64 (l_1.length : Int)), (55, .int .i64 x150.2.2)], heapL [(0, .box none [.int .u8 s_0.Rate, .sl (s_0.Words.map A_Word.d), .sl (s_0.Shots.map (D.int .i64)), .int .i64 s_0.Table.Sg.a0, .int .i64 s_0.Table.Sg.a1, .int .i64 s_0.Table.Sg.a2, .int .i64 s_0.Table.Sg.a3, .int .i64 s_0.Table.Sg.a4, .int .i64 s_0.Table.Sg.a5, .int .i64 s_0.Table.Rgd, .int .i64 s_0.Table.Row, .int .i64 s_0.Table.Event, .int .i64 s_0.Table.Fast, .int .i64 s_0.Table.Gap, .int .i64 s_0.Table.Shot, .str s_0.House.Name, .int .i64 s_0.House.Reading, .int .i64 s_0.House.MnF, .int .i64 s_0.House.MxF, .int .i64 s_0.House.MnG, .int .i64 s_0.House.ShB, .int .i64 s_0.House.ShA, .int .i64 s_0.House.Rows, .int .i64 s_0.House.Cols, .str s_0.House.Fbd, .int .i64 s_0.House.SfT, .int .i64 s_0.House.SfB, .int .i64 s_0.House.SfL, .int .i64 s_0.House.SfR]), (1, .vec 38 5 (x150.1.map A_Part.d) false)], 2, 83⟩) (fun w => match w with | Sum.inl _ => .ret | Sum.inr (_) => .exit 2) (fun w => match w with | Sum.inl e151 => ⟨envL [(4, .nils), (5, .int .i64 0), (6, .int .i64 e151)], heapL [], 0, 83⟩ | Sum.inr (e151) => ⟨envL [(11, .own 0 e151.1.length), (12, .int .i64 e151.2)], heapL [(0, .vec 38 5 (e151.1.map A_Part.d) false)], 1, 83⟩) h356 (wk [(1, none)]) (by intro w; rcases w with w | w <;> simp) ?_ ?_
    ·clear h
     intro x150 y h
     unfold g_sg_cost_s2 at h
     refine xs <| rz ?_
     refine es <| xs ?_
     obtain ⟨k,h⟩|⟨k,h⟩:=iK k h
     ·refine xt <| xk <| es <| xs <| xb <| xs <| rK fun K334 RK334 hK334 gK334 => zz ?_
      obtain ⟨y335, q, h⟩ := bK q h
      refine zz ?_
      subst hK334 gK334
      refine es <| xs <| rK fun K340 RK340 hK340 gK340 => zz ?_
      obtain ⟨r341, h342, h⟩ := bs h
      refine cw (a_sg_part hI hU8T h342) <| zz ?_
      subst hK340 gK340
      refine es <| xs <| xs <| rz ?_
      refine es ?_
      obtain ⟨k,h⟩|⟨k,h⟩:=iK k h
      ·refine xt <| xs <| rz ?_
       refine es <| xr <| er <| br <| er ?_
       cases h
       exact en ⟨rfl, wk []⟩
      ·refine xf <| xk <| es <| xs <| rK fun K351 RK351 hK351 gK351 => zz ?_
       obtain ⟨h352, h⟩ := ite_on h
       have h353 : x150.1.length + 1 ≤ 9223372036854775807 := by omega
       try simp only [Nat.reduceLeDiff] at h353
       have q := And.intro @h353 <| And.intro @h352 <| q
       refine zz ?_
       subst hK351 gK351
       refine es <| rz ?_
       refine bn <| es <| rz ?_
       cases h
       exact en ⟨rfl, wk [(1, some 27)]⟩
     ·refine xf <| xx <| ee ?_
      cases h
      exact en ⟨rfl, wk [(0, some 1)]⟩
    ·rcases e151 with e151 | e151
     ·try dsimp only at h ⊢
      refine br <| er ?_
      cases h
      exact en fr
     ·try dsimp only at h ⊢
      refine bh <| es <| xs <| rz ?_
      refine es <| xr ?_
      cases h
      exact en fr
def g_sg_Cost (s_0 : A_Sh) (l_1 : List A_Part) : Option (Int × Int) :=
 ((g_sg_Check s_0).bind fun r7 => (if (r7 != 0) then (some (0, r7)) else ((g_sg_cost s_0 l_1).bind fun r18 => (some (r18.2.1, r18.2.2)))))
theorem a_sg_Cost {I : World → Prop} (hI : Stab I) (hShp : ∀ w, I w → Shp w) (hU8T : ∀ w, I w → U8T w) {s_0 : A_Sh} {l_1 : List A_Part} {r : Int × Int} (h : g_sg_Cost s_0 l_1 = some r) : AFun Tryz.prog I 19 [A_Sh.d s_0, .sl (l_1.map A_Part.d)] (.tup [.int .i64 r.1, .int .i64 r.2]) := by
 have dd := And.intro dd_ED <| And.intro dd_EA <| And.intro dd_EB dd_EC; have k := True.intro; have q := k; have rs := Tryz.results19
 unfold g_sg_Cost at h
 refine .en hI Tryz.func19 Tryz.ntmps19 ?_
 refine xs <| rz ?_
 refine es <| xs <| xs <| rK fun K6 RK6 hK6 gK6 => zz ?_
 obtain ⟨r7, h8, h⟩ := bs h
 refine cw (a_sg_Check hI hU8T h8) <| zz ?_
 subst hK6 gK6
 refine es <| xs <| rz ?_
 refine es ?_
 obtain ⟨k,h⟩|⟨k,h⟩:=iK k h
 ·refine xt <| xs <| rz ?_
  refine es <| xr <| er ?_
  cases h
  exact en fr
 ·refine xf <| xk <| es <| xs <| rK fun K17 RK17 hK17 gK17 => zz ?_
  obtain ⟨r18, h19, h⟩ := bs h
  refine cw (a_sg_cost hI hShp hU8T h19) <| zz ?_
  subst hK17 gK17
  refine es <| xs <| rz ?_
  refine es <| xr ?_
  cases h
  exact en fr
theorem dd_EN : (∀ x, T_arr6_Int.d x = .agg [.int .i64 x.a0, .int .i64 x.a1, .int .i64 x.a2, .int .i64 x.a3, .int .i64 x.a4, .int .i64 x.a5]) := fun _ => rfl
def g_ref35_numbers (t_0 : A_Pn) : Option ((List Int)) :=
 (some ([t_0.Sg.a0, t_0.Sg.a1, t_0.Sg.a2, t_0.Sg.a3, t_0.Sg.a4, t_0.Sg.a5] ++ [t_0.Rgd, t_0.Row, t_0.Event, t_0.Fast, t_0.Gap, t_0.Shot]))
theorem a_ref35_numbers {I : World → Prop} (hI : Stab I) {t_0 : A_Pn} {r : (List Int)} (h : g_ref35_numbers t_0 = some r) : AFun Tryz.prog I 86 [A_Pn.d t_0] (.sl (r.map (D.int .i64))) := by
 have dd := And.intro dd_EN dd_EA; have k := True.intro; have q := k; have rs := Tryz.results86
 unfold g_ref35_numbers at h
 refine .en hI Tryz.func86 Tryz.ntmps86 ?_
 refine xs <| rz ?_
 refine es <| xs <| rP hI fun K4 hK4 => rgP_cons <| zq ?_
 refine sP.foot (.ids []) (fun hN => FootOK.idsB [] (by rfl) rfl hN) fd (by first | exact .inl (by first | rfl | decide) | exact .inr (by kernel_rfl)) <| rgP_cons <| zq ?_
 refine sP.light rfl fd <| rgP_cons <| zq ?_
 refine sP.foot (.ids []) (fun hN => FootOK.idsB [] (by rfl) rfl hN) fd (by first | exact .inl (by first | rfl | decide) | exact .inr (by kernel_rfl)) <| rgP_cons <| zq ?_
 refine sP.foot (.ids [2]) (fun hN => FootOK.idsB [2] (by rfl) rfl hN) fd (by first | exact .inl (by first | rfl | decide) | exact .inr (by kernel_rfl)) <| rgP_cons <| zq ?_
 refine sP.light rfl fd <| rgP_cons <| zq ?_
 refine sP.foot (.ids []) (fun hN => FootOK.idsB [] (by rfl) rfl hN) fd (by first | exact .inl (by first | rfl | decide) | exact .inr (by kernel_rfl)) <| rgP_cons <| zq ?_
 refine sP.light rfl fd <| rgP_cons <| zq ?_
 refine sP.foot (.ids []) (fun hN => FootOK.idsB [] (by rfl) rfl hN) fd (by first | exact .inl (by first | rfl | decide) | exact .inr (by kernel_rfl)) <| rgP_cons <| zq ?_
 refine sP.light rfl fd <| rgP_cons <| zq ?_
 refine sP.foot (.ids []) (fun hN => FootOK.idsB [] (by rfl) rfl hN) fd (by first | exact .inl (by first | rfl | decide) | exact .inr (by kernel_rfl)) <| rgP_cons <| zq ?_
 refine sP.light rfl fd <| rgP_cons <| zq ?_
 refine sP.foot (.ids []) (fun hN => FootOK.idsB [] (by rfl) rfl hN) fd (by first | exact .inl (by first | rfl | decide) | exact .inr (by kernel_rfl)) <| rgP_cons <| zq ?_
 refine sP.light rfl fd <| rgP_cons <| zq ?_
 refine sP.foot (.ids []) (fun hN => FootOK.idsB [] (by rfl) rfl hN) fd (by first | exact .inl (by first | rfl | decide) | exact .inr (by kernel_rfl)) <| rgP_cons <| zq ?_
 refine sP.light rfl fd <| rgP_cons <| zq ?_
 refine sP.foot (.ids []) (fun hN => FootOK.idsB [] (by rfl) rfl hN) fd (by first | exact .inl (by first | rfl | decide) | exact .inr (by kernel_rfl)) <| rgP_cons <| zq ?_
 refine sP.foot (.ids []) (fun hN => FootOK.idsB [] (by rfl) rfl hN) fd (by first | exact .inl (by first | rfl | decide) | exact .inr (by kernel_rfl)) <| rgP_cons <| zq ?_
 refine sP.foot (.ids [5, 18]) (fun hN => FootOK.idsB [5, 18] (by rfl) rfl hN) fd (by first | exact .inl (by first | rfl | decide) | exact .inr (by kernel_rfl)) <| rgP_cons <| zq ?_
 refine sP.light rfl fd <| zq ?_
 refine rgP_nil fk ?_
 subst hK4
 refine es <| xr ?_
 cases h
 exact en fr
end Go.Proofs.YtalfcmgcjdkolaaGreatDoor
