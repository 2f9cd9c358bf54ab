/- Contracts of Go's library (utf8, strings) in the framework's words. Each condition stands in the definition: where it does not hold, nothing is claimed. -/
import Derived.Test.YtipdmcpmedmicaaDoorFwW
import Derived.Test.YtipdmcpmedmicaaDoorShelf
import Derived.Lib.RuneCount
set_option linter.unusedSimpArgs false
set_option linter.unusedVariables false
namespace Go.Proofs.YtipdmcpmedmicaaDoor
open Go.RowKit
set_option maxRecDepth 100000

/-- The tables of utf8 are there. -/
def U8T (w : World) : Prop := Lib.Utf8Tabs 0 1 w
def g_unicode_utf8_ValidString (s : List UInt8) : Option Bool := some (Lib.validD s)
theorem a_unicode_utf8_ValidString (I : World → Prop) (hI : Stab I) (hU8T : ∀ w, I w → U8T w) (s : List UInt8) {r : Bool} (h : g_unicode_utf8_ValidString s = some r) : AFun Tryd.prog I 118 [.str s] (.bool r) := by
  obtain rfl := Option.some.inj h
  refine AFun.of_calls (v := .bool (Lib.validD s)) (by kernel_rfl) (fun w F => .bool _) ?_
  intro w F args hIw _ hl hr
  match args, hl with
  | [v], _ =>
    obtain ⟨rfl, hm⟩ := rep_str1 (hr 0 v _ rfl rfl)
    exact Tryd.utf8_ValidString ⟨s.toArray⟩ w (by rw [bsize]; unfold maxLen at hm; omega) (hU8T w hIw)
def g_unicode_utf8_RuneCountInString (s : List UInt8) : Option Int := if s.length < 9223372036854775807 then some (Lib.runeCountL s : Int) else none
theorem runeCountFrom_le (s : ByteArray) : ∀ (fuel pos : Nat), Lib.runeCountFrom s fuel pos ≤ fuel := by
  intro fuel
  induction fuel with
  | zero => intro pos; simp [Lib.runeCountFrom]
  | succ n ih =>
    intro pos
    simp only [Lib.runeCountFrom]
    split
    · have := ih (pos + (Utf8.decode s pos).2); omega
    · omega
theorem a_unicode_utf8_RuneCountInString (I : World → Prop) (hI : Stab I) (s : List UInt8) {r : Int} (h : g_unicode_utf8_RuneCountInString s = some r) : AFun Tryd.prog I 149 [.str s] (.int .i64 r) := by
  obtain ⟨hs, h⟩ := ite_on h
  obtain rfl := Option.some.inj h
  refine AFun.of_calls (v := .int .i64 (Lib.runeCountL s : Int)) (by kernel_rfl) (fun w F => .int _ _ ?_) ?_
  · have := runeCountFrom_le ⟨s.toArray⟩ (⟨s.toArray⟩ : ByteArray).size 0
    rw [bsize] at this
    unfold Lib.runeCountL Lib.runeCount inR; simp only [kLo, kHi]; rw [bsize]; omega
  · intro w F args hIw _ hl hr
    match args, hl with
    | [v], _ =>
      obtain ⟨rfl, hm⟩ := rep_str1 (hr 0 v _ rfl rfl)
      refine (Tryd.utf8_RuneCountInString ⟨s.toArray⟩ w (by rw [bsize]; exact hs)).mono ?_
      rintro e w' ⟨rfl, pos, rfl⟩
      exact ⟨rfl, rfl, rfl, rfl, by simp [World.iter], fun k hk => Below.heap_alloc w _ k hk⟩
theorem cell_below {w w' : World} {g : Nat} {v : Value} (h : w.cell? ⟨g, 0, none⟩ = some v) (hb : Below w.heap.size w w') : w'.cell? ⟨g, 0, none⟩ = some v := by
  have hlt : g < w.heap.size := by
    rcases Nat.lt_or_ge g w.heap.size with h1 | h1
    · exact h1
    · simp [World.cell?, Array.getElem?_eq_none h1] at h
  rw [World.cell?_of_block (hb.block g hlt)]
  exact h
/-- The greatest length of a short search. -/
def Shp (w : World) : Prop := ∃ m, w.cell? ⟨2, 0, none⟩ = some (.int .i64 m)
theorem stabShp : Stab Shp := fun _ _ ⟨m, h⟩ hb => ⟨m, cell_below h hb⟩
def g_strings_Contains (s t : List UInt8) : Option Bool := if s.length < 4294967281 then some (Lib.contains s t) else none
theorem a_strings_Contains (I : World → Prop) (hI : Stab I) (hShp : ∀ w, I w → Shp w) (s t : List UInt8) {r : Bool} (h : g_strings_Contains s t = some r) : AFun Tryd.prog I 144 [.str s, .str t] (.bool r) := by
  obtain ⟨hs, h⟩ := ite_on h
  obtain rfl := Option.some.inj h
  refine AFun.of_calls (v := .bool (Lib.contains s t)) (by kernel_rfl) (fun w F => .bool _) ?_
  intro w F args hIw _ hl hr
  match args, hl with
  | [v, u], _ =>
    obtain ⟨rfl, _⟩ := rep_str1 (hr 0 v _ rfl rfl)
    obtain ⟨rfl, _⟩ := rep_str1 (hr 1 u _ rfl rfl)
    obtain ⟨m, hm⟩ := hShp w hIw
    refine (Tryd.strings_Contains ⟨s.toArray⟩ ⟨t.toArray⟩ m w (by rw [bsize]; exact hs) hm).mono ?_
    rintro e w' ⟨rfl, rfl⟩
    exact ⟨rfl, Below.refl _ _⟩
def g_strings_ContainsRune (s : List UInt8) (c : Int) : Option Bool := if 0 ≤ c ∧ c < 128 then some (decide (0 ≤ Lib.indexByte s c.toNat.toUInt8)) else none
theorem a_strings_ContainsRune (I : World → Prop) (hI : Stab I) (s : List UInt8) (c : Int) {r : Bool} (h : g_strings_ContainsRune s c = some r) : AFun Tryd.prog I 88 [.str s, .int .i32 c] (.bool r) := by
  obtain ⟨⟨h0, h1⟩, h⟩ := ite_on h
  obtain rfl := Option.some.inj h
  refine AFun.of_calls (v := .bool (decide (0 ≤ Lib.indexByte s c.toNat.toUInt8))) (by kernel_rfl) (fun w F => .bool _) ?_
  intro w F args hIw _ hl hr
  match args, hl with
  | [v, u], _ =>
    obtain ⟨rfl, _⟩ := rep_str1 (hr 0 v _ rfl rfl)
    obtain rfl := rep_int1 (hr 1 u _ rfl rfl)
    refine (Tryd.strings_ContainsRune_ascii ⟨s.toArray⟩ c w h0 h1).mono ?_
    rintro e w' ⟨rfl, rfl⟩
    exact ⟨by simp, Below.refl _ _⟩
end Go.Proofs.YtipdmcpmedmicaaDoor
