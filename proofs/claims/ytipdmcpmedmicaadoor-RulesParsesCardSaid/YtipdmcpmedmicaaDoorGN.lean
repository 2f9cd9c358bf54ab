/- Contracts of Go's library in the form of the generated ones, second part: strings.Split, strings.CutPrefix, strconv.ParseInt. -/
import Derived.Test.YtipdmcpmedmicaaDoorGM
import Derived.Lib.SplitLaws
import Derived.Lib.IndexBytes
import Derived.Lib.ParseIntB
set_option linter.unusedSimpArgs false
set_option linter.unusedVariables false
namespace Go.Proofs.YtipdmcpmedmicaaDoor
open Go.RowKit
set_option maxRecDepth 100000

/-- A cell of a block that is there stays. -/
theorem cell_below {w w' : World} {g : Nat} {v : Value} (h : w.cell? ⟨g, 0, none⟩ = some v) (hb : Below w.heap.size w w') : w'.cell? ⟨g, 0, none⟩ = some v := by
  have hlt : g < w.heap.size := by
    rcases Nat.lt_or_ge g w.heap.size with h1 | h1
    · exact h1
    · simp [World.cell?, Array.getElem?_eq_none h1] at h
  rw [World.cell?_of_block (hb.block g hlt)]
  exact h
/-- The variable that strings.Index reads is there. -/
def Shp (w : World) : Prop := ∃ m, w.cell? ⟨2, 0, none⟩ = some (.int .i64 m)
theorem stabShp : Stab Shp := fun _ _ ⟨m, h⟩ hb => ⟨m, cell_below h hb⟩
/-- The two errors of strconv are there. -/
def PIv (w : World) : Prop := (∃ te pe, w.cell? ⟨4, 0, none⟩ = some (.iface te pe)) ∧ ∃ te pe, w.cell? ⟨5, 0, none⟩ = some (.iface te pe)
theorem stabPIv : Stab PIv := fun _ _ ⟨⟨a, b, h⟩, ⟨c, d, k⟩⟩ hb => ⟨⟨a, b, cell_below h hb⟩, ⟨c, d, cell_below k hb⟩⟩

section
variable {P : Program} {I : World → Prop} {f : FuncId} {ds : List D}
/-- A contract whose result is a new row of strings. -/
theorem AFun.of_strs (he : enterable P f = true) (l : List (List UInt8)) (t : TypeId) (hl : l.length ≤ maxLen) (hs : ∀ s ∈ l, s.length ≤ maxLen)
    (h : ∀ (w : World) (F : Nat → Nat → Prop) (args : List Value), I w → FB (cF F) w → args.length = ds.length → (∀ (i : Nat) v d, args[i]? = some v → ds[i]? = some d → Rep w (cF F) v d) →
      Calls P f args.toArray w fun e w' => e = .returned (.slice (some ⟨w.heap.size, 0, none⟩) l.length l.length) ∧ w' = w.alloc (.cells (l.map fun s => Value.string ⟨s.toArray⟩).toArray t)) : AFun P I f ds (.sl (l.map D.str)) := by
  refine ⟨he, fun w F args hI hfb hla hr => ?_⟩
  refine (h w F args hI hfb hla hr).mono ?_
  rintro e w' ⟨rfl, rfl⟩
  let F' : Nat → Nat → Prop := fun b o => F b o ∨ (b = w.heap.size ∧ o < l.length)
  have hbel : Below w.heap.size w (w.alloc (.cells (l.map fun s => Value.string ⟨s.toArray⟩).toArray t)) := (Below.refl _ _).alloc (Nat.le_refl _) _
  refine ⟨_, F', rfl, hbel, ⟨fun _ _ h => .inl h, fun b o hF => hbel.block b (hfb b o hF), fun _ h => h, fun _ _ => rfl⟩, fun b o hF => ?_, fun b o hF => ?_, ?_⟩
  · rcases hF with hF | ⟨rfl, _⟩
    · exact Nat.lt_of_lt_of_le (hfb b o hF) hbel.size
    · simp
  · rcases hF with hF | ⟨rfl, _⟩
    · exact .inl hF
    · exact .inr (Nat.le_refl _)
  · have := Rep.sl (w := w.alloc (.cells (l.map fun s => Value.string ⟨s.toArray⟩).toArray t)) (C := cF F') w.heap.size 0 1 l.length (l.map D.str) (l.map fun s => Value.string ⟨s.toArray⟩) (by simp) hl
      (by intro x hx; simp at hx; obtain ⟨a, _, rfl⟩ := hx; rfl) (by rw [flat_strs]; simp) (by intro v hv; simp at hv; obtain ⟨a, _, rfl⟩ := hv; rfl) (fun i hi => .inr ⟨rfl, by simpa using hi⟩) (fun i v hv => ?_) (fun i v d hv hd => ?_)
    · simpa using this
    · rw [World.cell?]
      simp only [Nat.zero_add, World.alloc, Array.getElem?_push_size]
      simpa using hv
    · rw [flat_strs] at hd
      simp only [List.getElem?_map] at hv hd
      cases hi : l[i]? with
      | none => rw [hi] at hv; simp at hv
      | some s =>
        rw [hi] at hv hd
        simp at hv hd
        subst hv hd
        exact .str s (hs s (List.mem_of_getElem? hi))
/-- A contract whose result is some values that lie in no block; new blocks may come. -/
theorem AFun.of_vals (he : enterable P f = true) (d : D)
    (h : ∀ (w : World) (F : Nat → Nat → Prop) (args : List Value), I w → FB (cF F) w → args.length = ds.length → (∀ (i : Nat) v d, args[i]? = some v → ds[i]? = some d → Rep w (cF F) v d) → Calls P f args.toArray w fun e w' => ∃ v, e = .returned v ∧ Below w.heap.size w w' ∧ ∀ F, Rep w' (cF F) v d) : AFun P I f ds d := by
  refine ⟨he, fun w F args hI hfb hl hr => ?_⟩
  refine (h w F args hI hfb hl hr).mono ?_
  rintro e w' ⟨v, rfl, hb, hv⟩
  exact ⟨v, F, rfl, hb, ⟨fun _ _ h => h, fun b o hF => hb.block b (hfb b o hF), fun _ h => h, fun _ _ => rfl⟩, fun b o hF => Nat.lt_of_lt_of_le (hfb b o hF) hb.size, fun _ _ h => .inl h, hv F⟩
end
theorem rep_tup2 {w : World} {C : Cx} {u v : Value} {d e : D} (h : Rep w C u d) (k : Rep w C v e) : Rep w C (.tuple #[u, v]) (.tup [d, e]) := by
  refine .tup [u, v] [d, e] rfl fun i x y hx hy => ?_
  match i, hx, hy with
  | 0, hx, hy => simp at hx hy; subst hx hy; exact h
  | 1, hx, hy => simp at hx hy; subst hx hy; exact k
  | (n + 2), hx, hy => simp at hx

def g_strings_CutPrefix (s p : List UInt8) : Option (List UInt8 × Bool) := some (Lib.trimPrefix s p, Lib.hasPrefix s p)
theorem trimPrefix_len (s p : List UInt8) : (Lib.trimPrefix s p).length ≤ s.length := by
  unfold Lib.trimPrefix
  split
  · simp
  · exact Nat.le_refl _
theorem a_strings_CutPrefix (I : World → Prop) (hI : Stab I) (s p : List UInt8) {r : List UInt8 × Bool} (h : g_strings_CutPrefix s p = some r) : AFun Tryd.prog I 96 [.str s, .str p] (.tup [.str r.1, .bool r.2]) := by
  obtain rfl := Option.some.inj h
  refine AFun.of_vals (by kernel_rfl) _ ?_
  intro w F args hIw _ hl hr
  match args, hl with
  | [v, u], _ =>
    obtain ⟨rfl, hs⟩ := rep_str1 (hr 0 v _ rfl rfl)
    obtain ⟨rfl, _⟩ := rep_str1 (hr 1 u _ rfl rfl)
    refine (Tryd.strings_CutPrefix ⟨s.toArray⟩ ⟨p.toArray⟩ w).mono ?_
    rintro e w' ⟨rfl, rfl⟩
    exact ⟨_, rfl, Below.refl _ _, fun F => rep_tup2 (.str _ (by have := trimPrefix_len s p; simpa using Nat.le_trans this hs)) (.bool _)⟩

def g_strings_Split (s sep : List UInt8) : Option (List (List UInt8)) := if s.length < 4294967281 ∧ 1 ≤ sep.length then some (Lib.split s sep) else none
theorem splitK_le (sep : List UInt8) : ∀ (k : Nat) (s : List UInt8), ∀ x ∈ Lib.splitK sep 0 k s, x.length ≤ s.length
  | 0, s, x, h => by simp [Lib.splitK] at h; subst h; exact Nat.le_refl _
  | k + 1, s, x, h => by
    unfold Lib.splitK at h
    split at h
    · simp at h; subst h; exact Nat.le_refl _
    · rcases List.mem_cons.1 h with rfl | h
      · rw [List.length_take]; exact Nat.min_le_right _ _
      · have := splitK_le sep k _ x h
        rw [List.length_drop] at this; omega
theorem a_strings_Split (I : World → Prop) (hI : Stab I) (hShp : ∀ w, I w → Shp w) (s sep : List UInt8) {r : List (List UInt8)} (h : g_strings_Split s sep = some r) : AFun Tryd.prog I 59 [.str s, .str sep] (.sl (r.map D.str)) := by
  obtain ⟨⟨h1, h2⟩, h⟩ := ite_on h
  obtain rfl := Option.some.inj h
  have hd : (Lib.splitB ⟨sep.toArray⟩ 0 (Lib.countB ⟨s.toArray⟩ ⟨sep.toArray⟩) ⟨s.toArray⟩).map (·.data.toList) = Lib.split s sep := by
    rw [Lib.splitB_data]; rfl
  have hlen : (Lib.split s sep).length = Lib.countB ⟨s.toArray⟩ ⟨sep.toArray⟩ + 1 := by
    rw [← hd, List.length_map]; exact Lib.splitB_all _ (by simpa [ByteArray.size] using h2) 0 _ _ rfl
  have hcl := Lib.countB_le ⟨sep.toArray⟩ (by simpa [ByteArray.size] using h2) s.length ⟨s.toArray⟩ (by simp [ByteArray.size])
  refine AFun.of_strs (by kernel_rfl) _ 9 (by rw [hlen]; simp [ByteArray.size] at hcl; unfold maxLen; omega) (fun x hx => by have := splitK_le sep _ s x hx; unfold maxLen; omega) ?_
  intro w F args hIw _ hl hr
  match args, hl with
  | [v, u], _ =>
    obtain ⟨rfl, _⟩ := rep_str1 (hr 0 v _ rfl rfl)
    obtain ⟨rfl, _⟩ := rep_str1 (hr 1 u _ rfl rfl)
    obtain ⟨m, hm⟩ := hShp w hIw
    refine (Tryd.strings_Split ⟨s.toArray⟩ ⟨sep.toArray⟩ m w (by simpa [ByteArray.size] using h1) hm (by simpa [ByteArray.size] using h2)).mono ?_
    rintro e w' ⟨rfl, rfl⟩
    refine ⟨by rw [hlen], ?_⟩
    rw [← hd, List.map_map]
    rfl

def g_strconv_ParseInt (s : List UInt8) (b n : Int) : Option (Int × Bool) := if b = 10 ∧ n = 64 ∧ s.length ≤ 281474976710656 then (match Lib.parseIntB 64 s with
  | .ok v => some (v, false)
  | .range => some (Lib.intSat 64 s, true)
  | _ => some (0, true)) else none
theorem parseIntB_range (s : List UInt8) (v : Int) (h : Lib.parseIntB 64 s = .ok v) : -9223372036854775808 ≤ v ∧ v ≤ 9223372036854775807 := by
  unfold Lib.parseIntB at h
  split at h
  · cases h
  · simp only at h
    split at h
    · cases h
    · cases h
    · rename_i u _
      split at h
      · cases h
      · split at h
        · cases h
        · rename_i h1 h2
          injection h with h
          subst h
          split <;> simp_all <;> omega
theorem a_strconv_ParseInt (I : World → Prop) (hI : Stab I) (hPIv : ∀ w, I w → PIv w) (s : List UInt8) (b n : Int) {r : Int × Bool} (h : g_strconv_ParseInt s b n = some r) : AFun Tryd.prog I 97 [.str s, .int .i64 b, .int .i64 n] (.tup [.int .i64 r.1, .err r.2]) := by
  unfold g_strconv_ParseInt at h
  replace h := ite_on h
  obtain ⟨hc, h⟩ := h
  obtain ⟨rfl, rfl, h1⟩ := hc
  refine AFun.of_vals (by kernel_rfl) _ ?_
  intro w F args hIw _ hl hr
  match args, hl with
  | [v, u, x], _ =>
    obtain ⟨rfl, hs⟩ := rep_str1 (hr 0 v _ rfl rfl)
    obtain rfl := rep_int1 (hr 1 u _ rfl rfl)
    obtain rfl := rep_int1 (hr 2 x _ rfl rfl)
    obtain ⟨⟨ts, ps, hs1⟩, ⟨tr, pr, hr1⟩⟩ := hPIv w hIw
    cases hp : Lib.parseIntB 64 s
    · rename_i v
      rw [hp] at h
      obtain rfl := Option.some.inj h
      refine (Tryd.strconv_ParseInt_10_at64_ok ⟨s.toArray⟩ (by simp [ByteArray.size]; omega) v hp w).mono ?_
      rintro e w' ⟨rfl, hw⟩
      refine ⟨_, rfl, ?_, fun F => rep_tup2 (.int _ _ (parseIntB_range s v hp)) .err0⟩
      rcases hw with rfl | ⟨t, rfl⟩
      · exact Below.refl _ _
      · exact ⟨rfl, rfl, rfl, by rw [Lib.bytesWorld_size]; omega, fun j hj => Lib.bytesWorld_at_old _ _ _ j hj⟩
    · rw [hp] at h
      obtain rfl := Option.some.inj h
      refine (Tryd.strconv_ParseInt_10_at64_syntax ⟨s.toArray⟩ (by simpa [ByteArray.size] using h1) hp _ w hs1 (.inr ⟨_, _, rfl⟩)).mono ?_
      rintro e w' ⟨N, rfl, _, _, hb⟩
      exact ⟨_, rfl, hb, fun F => rep_tup2 (.int _ _ (by decide)) (.err1 _ _)⟩
    · rw [hp] at h
      obtain rfl := Option.some.inj h
      refine (Tryd.strconv_ParseInt_10_at64_range ⟨s.toArray⟩ (by simpa [ByteArray.size] using h1) hp _ w hr1 (.inr ⟨_, _, rfl⟩)).mono ?_
      rintro e w' ⟨N, rfl, _, _, hb⟩
      exact ⟨_, rfl, hb, fun F => rep_tup2 (.int _ _ (by show inR _ (Lib.intSat 64 s); unfold Lib.intSat inR; split <;> simp [kLo, kHi])) (.err1 _ _)⟩
end Go.Proofs.YtipdmcpmedmicaaDoor
