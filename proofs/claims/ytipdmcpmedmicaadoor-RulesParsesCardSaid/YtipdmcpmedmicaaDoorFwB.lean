/- The abstract operations. Own definitions; no condition. -/
import Derived.Test.YtipdmcpmedmicaaDoorFwA
set_option linter.unusedSimpArgs false
set_option linter.unusedVariables false
namespace Go.Proofs.YtipdmcpmedmicaaDoor
open Go.RowKit

def upd {α : Type} (f : Nat → α) (i : Nat) (x : α) : Nat → α := fun j => if j = i then x else f j
/-- An abstract state: the slots, the own blocks, the next id, the number of slots. -/
structure AS where
  env : Nat → D
  heap : Nat → Option Blk
  next : Nat
  nt : Nat

def D.ok1 : D → Bool
  | .any | .undef | .tup _ | .agg _ => false
  | _ => true
def D.okS : D → Bool
  | .agg _ => true
  | d => d.ok1
/-- A constant of the program's text. -/
def cD1 : Value → D
  | .int k n => if inR k n then .int k n else .any
  | .bool b => .bool b
  | .string s => if s.data.toList.length ≤ maxLen then .str s.data.toList else .any
  | .pointer none => .nilp
  | .slice none 0 0 => .nils
  | .nilIface => .err false
  | _ => .any
def cD : Value → D
  | .agg cs => if cs.toList.all (·.oneCell') then .agg (cs.toList.map cD1) else .any
  | v => cD1 v
def AS.val (S : AS) : Operand → D
  | .tmp t => S.env t
  | .const v => cD v
  | .global _ => .any
  | .func f => .fn f []

section types
variable (P : Program)
def szT (t : TypeId) : Option Nat := (P.info? t).map (·.size)
def bytesT (t : TypeId) : Option Nat := (P.info? t).map (·.bytes)
def aggT (t : TypeId) : Option Bool := (P.underlying t).map fun | .struct _ | .array _ _ => true | _ => false
def fldT (t : TypeId) (i : Nat) : Option (Nat × TypeId) := match P.underlying t with | some (.struct fs) => (fs[i]?).map fun f => (f.offset, f.type) | _ => none
def sliceT (t : TypeId) : Option TypeId := match P.underlying t with | some (.slice e) => some e | _ => none
def arrT (t : TypeId) : Option (Nat × TypeId) := match P.underlying t with | some (.array n e) => some (n, e) | _ => none
def strT (t : TypeId) : Bool := match P.underlying t with | some .string => true | _ => false
def intT (t : TypeId) : Option IntKind := match P.underlying t with | some (.int k) => some k | _ => none
def u8T (t : TypeId) : Bool := match P.underlying t with
  | some (.slice e) => match P.underlying e with
    | some (.int .u8) => true
    | _ => false
  | _ => false
def ptrT (t : TypeId) : Bool := match P.underlying t with | some (.pointer _) => true | _ => false
def ifaceT (t : TypeId) : Bool := match P.underlying t with | some (.interface _) => true | _ => false
def isConst : Operand → Bool
  | .const _ => true
  | _ => false
/-- The bytes of a list of numbers. -/
def bytesD : List D → Option (List UInt8)
  | [] => some []
  | .int .u8 n :: l => match bytesD l with
    | some s => some (UInt8.ofNat n.toNat :: s)
    | none => none
  | _ :: _ => none
def bytesOf (l : List Int) : List UInt8 := l.map fun n => UInt8.ofNat n.toNat
theorem bytesD_map (l : List Int) : bytesD (l.map (D.int .u8)) = some (bytesOf l) := by
  induction l with
  | nil => rfl
  | cons a t ih => simp only [List.map_cons, bytesD, ih, bytesOf]
theorem bytesD_snoc (l : List Int) (n : Int) : bytesD (l.map (D.int .u8) ++ [D.int .u8 n]) = some (bytesOf (l ++ [n])) := by
  rw [← bytesD_map, List.map_append]; rfl
theorem bytesD_snoc2 (l : List Int) (n m : Int) : bytesD (l.map (D.int .u8) ++ [D.int .u8 n, D.int .u8 m]) = some (bytesOf (l ++ [n, m])) := by
  rw [← bytesD_map, List.map_append]; rfl
theorem bytesD_app (l m : List Int) : bytesD (l.map (D.int .u8) ++ m.map (D.int .u8)) = some (bytesOf (l ++ m)) := by
  rw [← bytesD_map, List.map_append]
/-- The same again and again. -/
def replL {α : Type} (n : Nat) (x : α) : List α := List.replicate n x
def zeroD (t : TypeId) : Option D := ((P.info? t).bind (·.zero)).map cD

/-- The kind of a type whose values are one cell that can be held against another: 1 bool, 2 a number, 3 a string. -/
def kc (t : TypeId) : Nat := match P.underlying t with
  | some .bool => 1
  | some (.int _) => 2
  | some .string => 3
  | _ => 0
/-- The kinds of a struct's fields, if two of them can be held against each other cell by cell. -/
def eqTs (t : TypeId) : Option (List Nat) := match P.underlying t with
  | some (.struct fs) => if !P.stoodInHeld t && !P.eqGuardType P.depth t && (fs.toList.zipIdx.all fun p => p.1.name != "_" && p.1.offset == p.2 && kc P p.1.type != 0) then some (fs.toList.map fun f => kc P f.type) else none
  | _ => none
/-- What a load of a type finds at the head of some cells. -/
def loadD (t : TypeId) (ds : List D) : Option D :=
  match aggT P t with
  | some true => match szT P t with
    | some n => if n ≤ ds.length then some (.agg (ds.take n)) else none
    | none => none
  | some false => ds.head?
  | none => none
/-- Some cells with a value put in. -/
def putD (ds : List D) (off : Nat) (x : D) : List D := ds.take off ++ x.cells ++ ds.drop (off + x.cells.length)
/-- A struct's or an array's cells with parts put in. -/
def fillD (place : Nat → Option (Nat × Nat)) : List D → List (Nat × D) → Option (List D)
  | ds, [] => some ds
  | ds, (i, x) :: rest => match place i with
    | some (off, n) => if x.okS && (x.cells.length == n) && decide (off + n ≤ ds.length) then fillD place (putD ds off x) rest else none
    | none => none
def placeT (t : TypeId) (i : Nat) : Option (Nat × Nat) :=
  match fldT P t i with
  | some (off, ft) => (szT P ft).map fun n => (off, n)
  | none => match arrT P t with
    | some (_, e) => (szT P e).map fun n => (i * n, n)
    | none => none

/-- Two lists of cells held against each other. -/
def eqK : List Nat → List D → List D → Option Bool
  | [], [], [] => some true
  | 1 :: ks, .bool a :: xs, .bool b :: ys => match eqK ks xs ys with
    | some r => some ((a == b) && r)
    | none => none
  | 2 :: ks, .int k a :: xs, .int k' b :: ys => if k = k' then (match eqK ks xs ys with
    | some r => some ((a == b) && r)
    | none => none) else none
  | 3 :: ks, .str a :: xs, .str b :: ys => match eqK ks xs ys with
    | some r => some ((a == b) && r)
    | none => none
  | _, _, _ => none
def eqR (op : BinOp) : Option Bool → Option D
  | some r => match op with
    | .eql => some (.bool r)
    | .neq => some (.bool !r)
    | _ => none
  | none => none
def intOp (op : BinOp) (k : IntKind) (x y : Int) : Option D :=
  match op with
  | .add => some (.int k (k.wrap (x + y)))
  | .sub => some (.int k (k.wrap (x - y)))
  | .mul => some (.int k (k.wrap (x * y)))
  | .quo => if y = 0 then none else some (.int k (k.wrap (x.tdiv y)))
  | .rem => if y = 0 then none else some (.int k (x.tmod y))
  | .eql => some (.bool (x == y))
  | .neq => some (.bool (x != y))
  | .lss => some (.bool (decide (x < y)))
  | .leq => some (.bool (decide (x ≤ y)))
  | .gtr => some (.bool (decide (y < x)))
  | .geq => some (.bool (decide (y ≤ x)))
  | _ => none
def strOp (op : BinOp) (x y : List UInt8) : Option D :=
  match op with
  | .add => if x.length + y.length ≤ maxLen then some (.str (x ++ y)) else none
  | .eql => some (.bool (x == y))
  | .neq => some (.bool (!(x == y)))
  | .lss => some (.bool (Op.bytesLess x y))
  | .leq => some (.bool (Op.bytesLess x y || x == y))
  | .gtr => some (.bool (!(Op.bytesLess x y || x == y)))
  | .geq => some (.bool (!Op.bytesLess x y))
  | _ => none
/-- The elements of a slice. -/
def elemsD (H : Nat → Option Blk) : D → Option (List D)
  | .sl xs => some xs
  | .nils => some []
  | .own id n => match H id with
    | some (.vec _ _ xs _) => if xs.length = n then some xs else none
    | _ => none
  | _ => none
def lenD : D → Option Int
  | .str s => some s.length
  | .sl xs => some xs.length
  | .nils => some 0
  | .own _ n => some n
  | _ => none
/-- The sizes of a struct's fields are known. -/
def buildT (t : TypeId) : Bool := match P.underlying t with
  | some (.struct fs) => fs.toList.all fun f => (szT P f.type).isSome
  | some (.array _ e) => (szT P e).isSome
  | _ => false
/-- The bounds of a slice expression. -/
def loD : Option D → Option Nat
  | none => some 0
  | some (.int _ n) => if 0 ≤ n then some n.toNat else none
  | _ => none
def hiD (len : Nat) : Option D → Option Nat
  | none => some len
  | some (.int _ n) => if 0 ≤ n ∧ n.toNat ≤ len then some n.toNat else none
  | _ => none

/-- The elements have the size of the slice's element type. -/
def slOk (t : TypeId) (xs : List D) : Bool := match sliceT P t with
  | some e => (szT P e).isSome && xs.all (fun x => decide (szT P e = some x.cells.length))
  | none => false
abbrev Eff := List (Nat × Option Blk)
def appEff (H : Nat → Option Blk) : Eff → (Nat → Option Blk)
  | [] => H
  | (id, b) :: rest => appEff (upd H id b) rest

/-- A value without own blocks: what is read from an own slice from now on is written no more. -/
def pur1 (H : Nat → Option Blk) : D → Option (D × Eff)
  | .int k n => some (.int k n, [])
  | .bool b => some (.bool b, [])
  | .str s => some (.str s, [])
  | .sl xs => some (.sl xs, [])
  | .nilp => some (.nilp, [])
  | .err b => some (.err b, [])
  | .iptr ds => some (.iptr ds, [])
  | .fn f [] => some (.fn f [], [])
  | .mp k ks vs => some (.mp k ks vs, [])
  | .omp id => match H id with
    | some (.mp k ks vs _) => some (.mp k ks vs, [(id, some (.mp k ks vs true))])
    | _ => none
  | .nils => some (.sl [], [])
  | .own id n => match H id with
    | some (.vec e k xs _) => if xs.length = n then some (.sl xs, [(id, some (.vec e k xs true))]) else none
    | _ => none
  | _ => none
def purL (H : Nat → Option Blk) : List D → Option (List D × Eff)
  | [] => some ([], [])
  | d :: ds => match pur1 H d with
    | some (d', e) => match purL (appEff H e) ds with
      | some (ds', e') => some (d' :: ds', e ++ e')
      | none => none
    | none => none
def purD (H : Nat → Option Blk) : D → Option (D × Eff)
  | .agg ds => match purL H ds with
    | some (ds', e) => some (.agg ds', e)
    | none => none
  | d => pur1 H d
def purDs (H : Nat → Option Blk) : List D → Option (List D × Eff)
  | [] => some ([], [])
  | d :: ds => match purD H d with
    | some (d', e) => match purDs (appEff H e) ds with
      | some (ds', e') => some (d' :: ds', e ++ e')
      | none => none
    | none => none

/-- Arguments: pointers stay, the rest is free of own blocks. -/
def purX (H : Nat → Option Blk) : D → Option (D × Eff)
  | .ptr id off => some (.ptr id off, [])
  | d => purD H d
def purXs (H : Nat → Option Blk) : List D → Option (List D × Eff)
  | [] => some ([], [])
  | d :: ds => match purX H d with
    | some (d', e) => match purXs (appEff H e) ds with
      | some (ds', e') => some (d' :: ds', e ++ e')
      | none => none
    | none => none

/-- What a list of keys and one of values have at a key; z: there is none. -/
def lookV {α : Type} : List Int → List α → Int → α → α
  | a :: ks, x :: xs, n, z => if a = n then x else lookV ks xs n z
  | _, _, _, z => z
def putK : List Int → Int → List Int
  | [], n => [n]
  | a :: ks, n => if a = n then a :: ks else a :: putK ks n
def putV {α : Type} : List Int → List α → Int → α → List α
  | a :: ks, x :: xs, n, y => if a = n then y :: xs else x :: putV ks xs n y
  | _, _, _, y => [y]
/-- A strings.Builder. -/
def bldT (t : TypeId) : Bool := match P.underlying t with
  | some (.struct fs) => fs.size == 2 && (fs.toList.map (·.name) == ["addr", "buf"])
  | _ => false
/-- A nil pointer, or one to the block itself. -/
def selfD (nid : Nat) : List D → List D
  | [] => []
  | .nilp :: l => .sp nid :: selfD nid l
  | d :: l => d :: selfD nid l
def mapKT (t : TypeId) : Option (IntKind × TypeId) := match P.underlying t with
  | some (.map kt e) => match P.underlying kt with
    | some (.int k) => some (k, e)
    | _ => none
  | _ => none
/-- The keys and values of a map. -/
def mapD (H : Nat → Option Blk) : D → Option (IntKind × List Int × List D)
  | .mp k ks vs => some (k, ks, vs)
  | .omp id => match H id with
    | some (.mp k ks vs _) => some (k, ks, vs)
    | _ => none
  | _ => none
/-- The character that stands at a place, and its number of bytes. -/
def decL (l : List UInt8) : Nat × Nat :=
  match l with
  | [] => (0xFFFD, 1)
  | a :: r =>
    let b0 := a.toNat
    let c1 := match r[0]? with | some b => b.toNat / 64 == 2 | none => false
    let c2 := match r[1]? with | some b => b.toNat / 64 == 2 | none => false
    let c3 := match r[2]? with | some b => b.toNat / 64 == 2 | none => false
    let x1 := (r.getD 0 0).toNat
    let x2 := (r.getD 1 0).toNat
    let x3 := (r.getD 2 0).toNat
    if b0 < 0x80 then (b0, 1)
    else if b0 / 32 == 6 && c1 then
      let c := (b0 % 32) * 64 + x1 % 64
      if c ≥ 0x80 then (c, 2) else (0xFFFD, 1)
    else if b0 / 16 == 14 && c1 && c2 then
      let c := (b0 % 16) * 4096 + (x1 % 64) * 64 + x2 % 64
      if c ≥ 0x800 && Utf8.valid c then (c, 3) else (0xFFFD, 1)
    else if b0 / 8 == 30 && c1 && c2 && c3 then
      let c := (b0 % 8) * 262144 + (x1 % 64) * 4096 + (x2 % 64) * 64 + x3 % 64
      if c ≥ 0x10000 && Utf8.valid c then (c, 4) else (0xFFFD, 1)
    else (0xFFFD, 1)
def runeAt (s : List UInt8) (pos : Nat) : Int := (decL (s.drop pos)).1
def widthAt (s : List UInt8) (pos : Nat) : Nat := (decL (s.drop pos)).2
/-- The abstract builtins. -/
def abuiltin (c : Call) (nid : Nat) (S : AS) : Option (D × Eff) :=
  match c.callee, c.args.toList, c.argTypes.toList with
  | .builtin .len, [x], [t] => match S.val x with
    | .str s => if strT P t then some (.int .i64 s.length, []) else none
    | .sl xs => if (sliceT P t).isSome then some (.int .i64 xs.length, []) else none
    | .nils => if (sliceT P t).isSome then some (.int .i64 0, []) else none
    | .own _ n => if (sliceT P t).isSome then some (.int .i64 n, []) else none
    | _ => none
  | .builtin .append, [s, x], [t, t'] =>
    match sliceT P t with
    | some e => match szT P e, bytesT P e, elemsD S.heap (S.val s), elemsD S.heap (S.val x) with
      | some k, some by_, some xs, some ys =>
        if t = t' ∧ 0 < k ∧ (zeroD P e).any (fun z => z.okS && (z.cells.length == k)) = true ∧ (∀ y ∈ ys, y.okS = true ∧ y.cells.length = k) ∧ xs.length + ys.length ≤ maxLen ∧ (xs.length + ys.length) * by_ ≤ 140737488355328 then
          match S.val s with
          | .nils => some (.own nid ys.length, [(nid, some (.vec e k ys false))])
          | .own id _ => match S.heap id with
            | some (.vec e' k' _ false) => if e = e' ∧ k = k' then some (.own nid (xs.length + ys.length), [(id, none), (nid, some (.vec e k (xs ++ ys) false))]) else none
            | _ => none
          | _ => none
        else none
      | _, _, _, _ => none
    | none => none
  | .builtin .min, [x, y], _ => match S.val x, S.val y with
    | .int k a, .int k' b => if k = k' then some (.int k (if b < a then b else a), []) else none
    | _, _ => none
  | .builtin .max, [x, y], _ => match S.val x, S.val y with
    | .int k a, .int k' b => if k = k' then some (.int k (if b > a then b else a), []) else none
    | _, _ => none
  | _, _, _ => none

/-- The abstract operation. -/
def aop (o : Op) (nid : Nat) (S : AS) : Option (D × Eff) :=
  match o with
  | .move x => some (S.val x, [])
  | .assign x => some (S.val x, [])
  | .pick c a b => match S.val c with
    | .bool t => some (if t then S.val a else S.val b, [])
    | _ => none
  | .alloc e => match zeroD P e with
    | some z => if z.okS then some (.ptr nid 0, [(nid, some (if bldT P e then .bbox e (selfD nid z.cells) else .box none z.cells))]) else none
    | none => none
  | .box _ x => if (S.val x).okS then some (.ptr nid 0, [(nid, some (.box none (S.val x).cells))]) else none
  | .build t parts => match zeroD P t, buildT P t with
    | some (.agg ds), true => (fillD (placeT P t) ds (parts.toList.map fun p => (p.1, S.val p.2))).map fun ds' => (.agg ds', [])
    | _, _ => none
  | .buildSlice t len parts => match sliceT P t with
    | some e => match szT P e with
      | some k => match purDs S.heap (parts.toList.map fun p => S.val p.2) with
        | some (xs, ep) => if parts.toList.map (·.1) = List.range len ∧ (∀ x ∈ xs, x.cells.length = k) ∧ len * k ≤ 2 ^ 24 ∧ 0 < k ∧ (zeroD P e).any (fun z => z.okS && (z.cells.length == k)) = true then
          some (.own nid len, ep ++ [(nid, some (.vec e k xs false))]) else none
        | none => none
      | none => none
    | none => none
  | .load t a => match S.val a with
    | .ptr id off => match S.heap id with
      | some (.box _ cs) => (loadD P t (cs.drop off)).map fun d => (d, [])
      | _ => none
    | .vptr id k i off => match S.heap id with
      | some (.vec _ k' xs _) => if k = k' then (match xs[i]? with | some x => (loadD P t (x.cells.drop off)).map fun d => (d, []) | none => none) else none
      | _ => none
    | .iptr ds => (loadD P t ds).map fun d => (d, [])
    | _ => none
  | .store t a x => match S.val a with
    | .ptr id off => match S.heap id with
      | some (.box pn cs) => if (S.val x).okS ∧ szT P t = some (S.val x).cells.length ∧ off + (S.val x).cells.length ≤ cs.length then some (.undef, [(id, some (.box pn (putD cs off (S.val x))))]) else none
      | _ => none
    | .vptr id k i off => match purD S.heap (S.val x) with
      | some (x', ep) => match appEff S.heap ep id with
        | some (.vec e k' xs false) => match xs[i]? with
          | some y => if k = k' ∧ szT P t = some x'.cells.length ∧ off + x'.cells.length ≤ k then
              some (.undef, ep ++ [(id, some (.vec e k' (xs.set i (if off = 0 ∧ x'.cells.length = k then x' else .agg (putD y.cells off x'))) false))]) else none
          | none => none
        | _ => none
      | none => none
    | _ => none
  | .nilCheck x => match S.val x with
    | .ptr id off => some (.ptr id off, [])
    | .vptr id k i off => some (.vptr id k i off, [])
    | .iptr ds => some (.iptr ds, [])
    | .fn f cs => some (.fn f cs, [])
    | _ => none
  | .binOp op t x y _ => match S.val x, S.val y with
    | .int k a, .int k' b => if k = k' then (intOp op k a b).map fun d => (d, []) else none
    | .str a, .str b => (strOp op a b).map fun d => (d, [])
    | .bool a, .bool b => if kc P t = 1 then (eqR op (some (a == b))).map fun d => (d, []) else none
    | .agg xs, .agg ys => match eqTs P t with
      | some ks => (eqR op (eqK ks xs ys)).map fun d => (d, [])
      | none => none
    | .err b, .err false => if isConst y && ifaceT P t then (eqR op (some !b)).map fun d => (d, []) else none
    | .ptr _ _, .nilp => if ptrT P t then (eqR op (some false)).map fun d => (d, []) else none
    | _, _ => none
  | .unOp op _ x => match op, S.val x with
    | .not, .bool b => some (.bool !b, [])
    | .neg, .int k n => some (.int k (k.wrap (0 - n)), [])
    | _, _ => none
  | .convert src dst x => if (aggT P src).isSome then (match S.val x with
    | .int _ n => match intT P dst with
      | some k => some (.int k (k.wrap n), [])
      | none => if strT P dst then some (.str (Utf8.encode n).data.toList, []) else none
    | .str s => if strT P dst then some (.str s, []) else none
    | dx => if u8T P src && strT P dst then (match elemsD S.heap dx with
      | some xs => (bytesD xs).map fun s => (.str s, [])
      | none => none) else none) else none
  | .slice t x lo hi none => match S.val x with
    | .str s => if strT P t then (match loD (lo.map S.val), hiD s.length (hi.map S.val) with
      | some l, some h => if l ≤ h then some (.str ((s.drop l).take (h - l)), []) else none
      | _, _ => none) else none
    | .sl xs => if slOk P t xs then (match loD (lo.map S.val), hiD xs.length (hi.map S.val) with
      | some l, some h => if l ≤ h then some (.sl ((xs.drop l).take (h - l)), []) else none
      | _, _ => none) else none
    | .own id n => match S.heap id with
      | some (.vec e k xs _) => if xs.length = n ∧ slOk P t xs = true then (match loD (lo.map S.val), hiD xs.length (hi.map S.val) with
        | some l, some h => if l ≤ h then some (.sl ((xs.drop l).take (h - l)), [(id, some (.vec e k xs true))]) else none
        | _, _ => none) else none
      | _ => none
    | _ => none
  | .fieldAddr s x f => match fldT P s f with
    | some (fo, ft) => if szT P ft = some 0 ∨ szT P ft = none then none else match S.val x with
      | .ptr id off => some (.ptr id (off + fo), [])
      | .vptr id k i off => some (.vptr id k i (off + fo), [])
      | .iptr ds => some (.iptr (ds.drop fo), [])
      | _ => none
    | none => none
  | .field s x f => match fldT P s f, S.val x with
    | some (fo, ft), .agg ds => (loadD P ft (ds.drop fo)).map fun d => (d, [])
    | _, _ => none
  | .indexAddr t x i => match S.val i with
    | .int _ n => match S.val x with
      | .sl xs => match sliceT P t with
        | some e => match szT P e, (if 0 ≤ n then xs[n.toNat]? else none) with
          | some k, some y => if y.cells.length = k then some (.iptr y.cells, []) else none
          | _, _ => none
        | none => none
      | .own id m => match sliceT P t, S.heap id with
        | some e, some _ => match szT P e with
          | some k => if 0 ≤ n ∧ n < m then some (.vptr id k n.toNat 0, []) else none
          | none => none
        | _, _ => none
      | .ptr id off => match arrT P t with
        | some (len, e) => match szT P e with
          | some k => if 0 ≤ n ∧ n < len then some (.ptr id (off + n.toNat * k), []) else none
          | none => none
        | none => none
      | _ => none
    | _ => none
  | .index t x i => match S.val i with
    | .int _ n => match S.val x with
      | .str s => if strT P t then (match (if 0 ≤ n then s[n.toNat]? else none) with | some b => some (.int .u8 b.toNat, []) | none => none) else none
      | .agg ds => match arrT P t with
        | some (len, e) => match szT P e with
          | some k => if 0 ≤ n ∧ n < len then (loadD P e (ds.drop (n.toNat * k))).map fun d => (d, []) else none
          | none => none
        | none => none
      | _ => none
    | _ => none
  | .extract t i => match S.val t with
    | .tup ds => (ds[i]?).map fun d => (d, [])
    | _ => none
  | .makeSlice t l c => match S.val l, S.val c with
    | .int _ n, .int _ m => match sliceT P t with
      | some e => match szT P e, bytesT P e, zeroD P e with
        | some k, some by_, some z => match purD (fun _ => none) z with
          | some (z', []) => if n = m ∧ 0 ≤ n ∧ n ≤ (maxLen : Int) ∧ n * by_ ≤ 140737488355328 ∧ z.okS = true ∧ z.cells.length = k ∧ z'.cells.length = k then some (.own nid n.toNat, [(nid, some (.vec e k (replL n.toNat z') false))]) else none
          | _ => none
        | _, _, _ => none
      | none => none
    | _, _ => none
  | .call c => abuiltin P c nid S
  | .makeFunc (.func f) ⟨[]⟩ cs => some (.fn f (cs.toList.map S.val), [])
  | .range t x => match S.val x with
    | .str s => if strT P t then some (.ptr nid 0, [(nid, some (.iter s 0))]) else none
    | _ => none
  | .next it true => match S.val it with
    | .ptr id 0 => match S.heap id with
      | some (.iter s pos) => if pos < s.length then some (.tup [.bool true, .int .i64 pos, .int .i32 (runeAt s pos)], [(id, some (.iter s (pos + widthAt s pos)))]) else some (.tup [.bool false], [])
      | _ => none
    | _ => none
  | .makeMap t r => match mapKT P t, (match r with | none => true | some x => match S.val x with | .int _ _ => true | _ => false) with
    | some (k, _), true => some (.omp nid, [(nid, some (.mp k [] [] false))])
    | _, _ => none
  | .lookup t x i ok => match mapKT P t, S.val i, mapD S.heap (S.val x) with
    | some (k, e), .int k' n, some (k'', ks, vs) => if k = k' ∧ k = k'' then (match zeroD P e with
      | some z => some (if ok then .tup [lookV ks vs n z, .bool (ks.contains n)] else lookV ks vs n z, [])
      | none => none) else none
    | _, _, _ => none
  | .mapUpdate t m i v => match mapKT P t, S.val m, S.val i, purD S.heap (S.val v) with
    | some (k, _), .omp id, .int k' n, some (v', ep) => match appEff S.heap ep id with
      | some (.mp k'' ks vs false) => if k = k' ∧ k = k'' then some (.undef, ep ++ [(id, some (.mp k (putK ks n) (putV ks vs n v') false))]) else none
      | _ => none
    | _, _, _, _ => none
  | _ => none
end types
end Go.Proofs.YtipdmcpmedmicaaDoor
