/- slices.Equal of two slices of findings that hold the same findings answers true. -/
import Derived.Test.YtncmdhkmbmkiiaaDoorRules1
import Derived.Laws.StructEq
namespace Go.Proofs.YtncmdhkmbmkiiaaDoor
open Go.RowKit

theorem eq_fd (a b c d : Int) (w : World) : (binOp .neq 35 (.agg #[.int .u8 a, .int .i64 b, .int .i64 c, .int .i64 d]) (.agg #[.int .u8 a, .int .i64 b, .int .i64 c, .int .i64 d])).run Tryd.prog w = .ok (.bool false) w := by
  have hS : Tryd.prog.underlying 35 = some (.struct (Tryd.prog.fieldsOf 35)) := by kernel_rfl
  have hp : Tryd.prog.stoodInHeld 35 = false := by kernel_rfl
  rw [run_neq_struct, show (10000 : Nat) = 9999 + 1 from rfl, run_equalIn_agg w 9999 35 _ _ hS hp]
  simp only [Program.fieldsOf, Tryd.underlying35]
  go_simp

/-- A slice literal of one finding. -/
theorem rdF_lit (w : World) (r id o m : Int) : RdL encF 4 (w.alloc (.cells #[.int .u8 r, .int .i64 id, .int .i64 o, .int .i64 m] 35)) (w.heap.size + 1) (some ⟨w.heap.size, 0, none⟩) [⟨r, id, o, m⟩] := by
  obtain ⟨A, c, he, _, hR, _⟩ := FdRet.one (w := w) (w1 := w) r id o m w.heap.size (Below.refl _ _) rfl
  injection he with he
  injection he with hA
  subst hA
  simpa using hR

set_option maxHeartbeats 1000000 in
theorem eqF_true (A1 A2 : Option Addr) (c1 c2 B1 B2 : Nat) (L : List Fd) (w : World) (h1 : RdL encF 4 w B1 A1 L) (h2 : RdL encF 4 w B2 A2 L) (hm : L.length ≤ 9223372036854775807) :
    Calls Tryd.prog 16 #[.slice A1 L.length c1, .slice A2 L.length c2] w fun e w' => e = .returned (.bool true) ∧ ∃ q, w' = w.drewN q := by
  have H1 := Lib.hid h1
  have H2 := Lib.hid h2
  clear h1 h2
  go_enter Tryd.func16, Tryd.ntmps16
  go_wp2
  go_loopw [4, 5, 13] (fun _ _ i wr => ∃ k q : Nat, k ≤ L.length ∧ i = .int .i64 k ∧ wr = w.drewN q) (fun _ _ i _ => L.length - (intOf i).toNat)
  case atStart => exact ⟨0, 0, Nat.zero_le _, rfl, rfl⟩
  case round =>
    obtain ⟨k, q, hk, rfl, rfl⟩ := hrel
    by_cases hlt : k < L.length
    · obtain ⟨b1, o1, rfl, _, hc1⟩ := (H1.out.drewN q).at_ (show 0 < L.length by omega)
      obtain ⟨b2, o2, rfl, _, hc2⟩ := (H2.out.drewN q).at_ (show 0 < L.length by omega)
      have hx := List.getElem?_eq_getElem hlt
      have a0 := hc1 k _ hx 0 _ rfl
      have a1 := hc1 k _ hx 1 _ rfl
      have a2 := hc1 k _ hx 2 _ rfl
      have a3 := hc1 k _ hx 3 _ rfl
      have d0 := hc2 k _ hx 0 _ rfl
      have d1 := hc2 k _ hx 1 _ rfl
      have d2 := hc2 k _ hx 2 _ rfl
      have d3 := hc2 k _ hx 3 _ rfl
      clear hc1 hc2 hx
      generalize L[k] = x at a0 a1 a2 a3 d0 d1 d2 d3
      obtain ⟨r, id, o, m⟩ := x
      simp only [Nat.add_zero] at a0 d0
      have heq := eq_fd r id o m
      have hi : (k : Int) < (L.length : Int) := by omega
      generalize hwq : w.drewN q = wq at a0 a1 a2 a3 d0 d1 d2 d3 ⊢
      have HW := Lib.hid hwq
      clear hwq
      go_wp2
      go_quiet (fail)
      go_wp2
      go_roundw
      case rel => exact ⟨k + 1, q + nq, by omega, by go_num, by rw [← HW.out, World.drewN_drewN]⟩
      case measure => simp [intOf]; omega
    · go_wp2
      go_ret
      exact ⟨rfl, q, rfl⟩
end Go.Proofs.YtncmdhkmbmkiiaaDoor
