/- What layers 37 and 41 compute of shot changes and findings, in plain Lean: no program in sight. No condition. -/
set_option linter.unusedSimpArgs false
set_option linter.unusedVariables false
namespace Go.Proofs.YtncmdhkmbmkiiaaDoor

def usB (i o : Int) : Bool := decide (0 ≤ i ∧ i < o ∧ o ≤ 5184000)
def frB (f : Int) : Bool := decide (0 ≤ f ∧ f ≤ 5184000)

def prevOf (l : List Int) (k : Nat) : Option Int := if k = 0 then none else l[k - 1]?
def tooLow (p : Option Int) (c : Int) : Bool := match p with
  | none => false
  | some q => decide (c ≤ q)
def chkL : Option Int → List Int → Int
  | _, [] => 0
  | p, c :: t => if decide (c < 1 ∨ 5184000 < c) then 2 else if tooLow p c then 8 else chkL (some c) t
def shChk (l : List Int) : Int := if 400 < l.length then 9 else chkL none l

theorem chkL_step (l : List Int) (k : Nat) (h : k < l.length) :
    chkL (prevOf l k) (l.drop k) = if decide (l[k] < 1 ∨ 5184000 < l[k]) then 2 else if tooLow (prevOf l k) l[k] then 8 else chkL (prevOf l (k + 1)) (l.drop (k + 1)) := by
  rw [List.drop_eq_getElem_cons h, chkL]
  have : prevOf l (k + 1) = some l[k] := by simp [prevOf, List.getElem?_eq_getElem h]
  rw [this]
theorem chkL_end (l : List Int) : chkL (prevOf l l.length) (l.drop l.length) = 0 := by simp [chkL]
theorem tooLow_zero (l : List Int) (c : Int) : tooLow (prevOf l 0) c = false := rfl
theorem tooLow_pos (l : List Int) (k : Nat) (h : k < l.length) (h0 : 0 < k) (c : Int) : tooLow (prevOf l k) c = decide (c ≤ l[k - 1]'(by omega)) := by
  have : prevOf l k = some (l[k - 1]'(by omega)) := by simp [prevOf, Nat.pos_iff_ne_zero.1 h0, List.getElem?_eq_getElem (show k - 1 < l.length by omega)]
  rw [this]; rfl

theorem chkL_zero : ∀ (l : List Int) (p : Option Int), chkL p l = 0 → ∀ c ∈ l, 1 ≤ c ∧ c ≤ 5184000 := by
  intro l
  induction l with
  | nil => intro p _ c hc; simp at hc
  | cons a t ih =>
    intro p h c hc
    rw [chkL] at h
    by_cases h1 : a < 1 ∨ 5184000 < a
    · simp [h1] at h
    · by_cases h2 : tooLow p a = true
      · simp [h1, h2] at h
      · simp [h1, h2] at h
        rcases List.mem_cons.1 hc with rfl | hc
        · omega
        · exact ih _ h c hc
theorem shChk_zero (l : List Int) (h : shChk l = 0) : l.length ≤ 400 ∧ ∀ c ∈ l, 1 ≤ c ∧ c ≤ 5184000 := by
  unfold shChk at h
  by_cases h1 : 400 < l.length
  · simp [h1] at h
  · rw [if_neg h1] at h
    exact ⟨by omega, chkL_zero _ _ h⟩

def tcB (f b a c : Int) : Bool := decide (c - b < f ∧ f < c ∨ c < f ∧ f < c + a)
def tcL (f b a : Int) : List Int → Int × Bool
  | [] => (0, false)
  | c :: t => if tcB f b a c then (c, true) else tcL f b a t
theorem tcL_step (f b a : Int) (l : List Int) (k : Nat) (h : k < l.length) : tcL f b a (l.drop k) = if tcB f b a l[k] then (l[k], true) else tcL f b a (l.drop (k + 1)) := by
  rw [List.drop_eq_getElem_cons h, tcL]
theorem tcL_end (f b a : Int) (l : List Int) : tcL f b a (l.drop l.length) = (0, false) := by simp [tcL]

def suB (l : List Int) (f b a : Int) : Bool := (shChk l == 0) && frB f && frB b && frB a
def clL (l : List Int) (f b a : Int) : Int × Bool := if suB l f b a then tcL f b a l else (0, false)

def absI (n : Int) : Int := max n (-n)
def nearer (f : Int) (best p : Int) : Bool := decide (absI (p - f) < absI (best - f) ∨ absI (p - f) = absI (best - f) ∧ p < best)
def snStep (l : List Int) (f b a : Int) (st : Int × Bool) (p : Int) : Int × Bool :=
  if frB p then (if (tcL p b a l).2 then st else if !st.2 || nearer f st.1 p then (p, true) else st) else st
def snPlaces (l : List Int) (f b a : Int) : List Int := f :: l.flatMap fun c => [c - b, c, c + a]
def snL (l : List Int) (f b a : Int) : Int × Bool := if suB l f b a then (snPlaces l f b a).foldl (snStep l f b a) (0, false) else (0, false)

structure Fd where
  rule : Int
  id : Int
  other : Int
  amount : Int

def pairL (aid ai ao bid bi bo gap : Int) : List Fd :=
  if usB ai ao && usB bi bo then
    if 0 < min ao bo - max ai bi then [⟨5, aid, bid, min ao bo - max ai bi⟩]
    else if 0 ≤ bi - ao ∧ bi - ao < gap then [⟨4, aid, bid, gap - (bi - ao)⟩] else []
  else []

def shotOne (l : List Int) (id f b a : Int) : List Fd :=
  if (clL l f b a).2 then [⟨6, id, (clL l f b a).1, if (snL l f b a).2 then absI ((snL l f b a).1 - f) else 1⟩] else []
def shotL (l : List Int) (id i o b a : Int) : List Fd := if usB i o then shotOne l id i b a ++ shotOne l id o b a else []
end Go.Proofs.YtncmdhkmbmkiiaaDoor
