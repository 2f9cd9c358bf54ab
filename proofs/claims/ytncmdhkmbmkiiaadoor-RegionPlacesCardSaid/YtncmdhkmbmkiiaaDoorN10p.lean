/- What layer 10's Place computes, in plain Lean. -/
import Derived.Test.YtncmdhkmbmkiiaaDoorN10c
set_option linter.unusedSimpArgs false
set_option linter.unusedVariables false
namespace Go.Proofs.YtncmdhkmbmkiiaaDoor
open Go.RowKit
set_option maxRecDepth 100000

structure Sp where
  row : Int
  col : Int
  len : Int
def Sp.d (s : Sp) : D := .agg [.int .i64 s.row, .int .i64 s.col, .int .i64 s.len]
def plCol (r : Rg) (n : Int) : Int := if r.align = 3 then r.left + (r.width - n) else if r.align = 2 then r.left + (r.width - n) / 2 else r.left
def plTop (r : Rg) (m : Nat) : Int := if r.bottom then r.top + (r.height - m) else r.top
/-- The error of the first length that does not fit. -/
def plBad (r : Rg) : List Int → Int
  | [] => 0
  | n :: t => if n < 0 then 2 else if r.width < n then 11 else plBad r t
/-- The first k spots. -/
def plTo (r : Rg) (l : List Int) (k : Nat) : List Sp := (List.range k).map fun (j : Nat) => ⟨plTop r l.length + (j : Int), plCol r (l.getD j 0), l.getD j 0⟩
/-- The spots of rows, and the error. -/
def plL (r : Rg) (l : List Int) : List Sp × Int := if rgUse r then (if r.height < l.length then ([], 9) else if plBad r l = 0 then (plTo r l l.length, 0) else ([], plBad r l)) else ([], 1)
theorem plTo_len (r : Rg) (l : List Int) (k : Nat) : (plTo r l k).length = k := by simp [plTo]
theorem plTo_succ (r : Rg) (l : List Int) (k : Nat) (h : k < l.length) : plTo r l (k + 1) = plTo r l k ++ [⟨plTop r l.length + (k : Int), plCol r l[k], l[k]⟩] := by
  simp [plTo, List.range_succ, List.getD, List.getElem?_eq_getElem h]
theorem plBad_step (r : Rg) (l : List Int) (k : Nat) (h : k < l.length) : plBad r (l.drop k) = if l[k] < 0 then 2 else if r.width < l[k] then 11 else plBad r (l.drop (k + 1)) := by
  rw [List.drop_eq_getElem_cons h, plBad]
theorem plBad_end (r : Rg) (l : List Int) : plBad r (l.drop l.length) = 0 := by simp [plBad]
theorem plL_no {r : Rg} {l : List Int} (h : rgUse r = false) : plL r l = ([], 1) := by simp [plL, h]
theorem plL_many {r : Rg} {l : List Int} (h : rgUse r = true) (h2 : r.height < l.length) : plL r l = ([], 9) := by simp [plL, h, h2]
theorem plL_bad {r : Rg} {l : List Int} (h : rgUse r = true) (h2 : ¬ r.height < l.length) {e : Int} (h3 : plBad r l = e) (he : e ≠ 0) : plL r l = ([], e) := by simp [plL, h, h2, h3, he]
theorem plL_ok {r : Rg} {l : List Int} (h : rgUse r = true) (h2 : ¬ r.height < l.length) (h3 : plBad r l = 0) : plL r l = (plTo r l l.length, 0) := by simp [plL, h, h2, h3]

end Go.Proofs.YtncmdhkmbmkiiaaDoor
