/- The abstract reading, step by step: rules for simp; it stands still at calls, at tests that are open, and at loops. -/
import Derived.Test.YtipdmcpmedmicaaDoorFwO
import Derived.IntWalk
set_option linter.unusedSimpArgs false
set_option linter.unusedVariables false
namespace Go.Proofs.YtipdmcpmedmicaaDoor
open Go.RowKit

inductive Kont where
  | seq (y : Code)
  | blk (id : Nat)
  | scp (c : Code)
  | pas (c : Code)
abbrev APost := AExit → AS → Prop
section
variable (P : Program) (I : World → Prop)
/-- What comes behind. -/
def goK : List Kont → APost → APost
  | [], Q => Q
  | .seq y :: k, Q => fun e S => match e with
    | .normal => awp P I y S (goK k Q)
    | e => goK k Q e S
  | .blk id :: k, Q => fun e S => match e with
    | .exit id' => if id' = id then goK k Q .normal S else goK k Q (.exit id') S
    | e => goK k Q e S
  | .scp _ :: _, _ => fun _ _ => False
  | .pas _ :: _, _ => fun _ _ => False
/-- A text, and what comes behind. -/
def run (c : Code) (S : AS) (k : List Kont) (Q : APost) : Prop := awp P I c S (goK P I k Q)
/-- What comes behind, at an exit. -/
def ext (e : AExit) (S : AS) (k : List Kont) (Q : APost) : Prop := goK P I k Q e S
def runR (ops : Array Oper) (l : List Oper) (i : Nat) (S : AS) (k : List Kont) (Q : APost) : Prop := awpL P I ops l i S (goK P I k Q .normal)
/-- A call: it waits for a contract. -/
def callW (f : FuncId) (ds : List D) (eff : Eff) (o : Oper) (ops : Array Oper) (l : List Oper) (i : Nat) (S : AS) (k : List Kont) (Q : APost) : Prop := ∃ d, AFun P I f ds d ∧ runR P I ops l i (S.step o d eff) k Q
def stepK (x : Option (D × Eff)) (o : Oper) (ops : Array Oper) (l : List Oper) (i : Nat) (S : AS) (k : List Kont) (Q : APost) : Prop := match x with
  | some (d, eff) => runR P I ops l i (S.step o d eff) k Q
  | none => False
def purK (x : Option (List D × Eff)) (f : FuncId) (o : Oper) (ops : Array Oper) (l : List Oper) (i : Nat) (S : AS) (k : List Kont) (Q : APost) : Prop := match x with
  | some (ds, eff) => callW P I f ds eff o ops l i S k Q
  | none => False
def calK (x : Option (FuncId × List D)) (o : Oper) (ops : Array Oper) (l : List Oper) (i : Nat) (S : AS) (k : List Kont) (Q : APost) : Prop := match x with
  | some (f, ds) => purK P I (purDs S.heap ds) f o ops l (i + 1) S k Q
  | none => stepK P I (aop P o.op (S.next + i) S) o ops l (i + 1) S k Q
def wantK (x : Option Bool) (o : Oper) (ops : Array Oper) (l : List Oper) (i : Nat) (S : AS) (k : List Kont) (Q : APost) : Prop := match x with
  | some true => calK P I (acallee S o.op) o ops l i S k Q
  | some false => runR P I ops l (i + 1) (S.step o .undef []) k Q
  | none => False
def condK (d : D) (x y : Code) (S : AS) (k : List Kont) (Q : APost) : Prop := match d with
  | .bool b => if b = true then run P I x S k Q else run P I y S k Q
  | _ => False
/-- A test that is open. -/
def brW (b : Bool) (x y : Code) (S : AS) (k : List Kont) (Q : APost) : Prop := if b = true then run P I x S k Q else run P I y S k Q
/-- A loop: it waits for an invariant. -/
def loopW (c : Code) (S : AS) (k : List Kont) (Q : APost) : Prop := awpLoop (awp P I c) S (goK P I k Q)
/-- A region that draws its order. -/
def drawW (ops : Array Oper) (S : AS) (k : List Kont) (Q : APost) : Prop := awpD P I ops S (goK P I k Q .normal)
end

section
variable {P : Program} {I : World → Prop} {S : AS} {k : List Kont} {Q : APost}
theorem run_skip : run P I .skip S k Q = ext P I .normal S k Q := rfl
theorem run_label {l : Nat} : run P I (.label l) S k Q = ext P I .normal S k Q := rfl
theorem run_exit {id : Nat} : run P I (.exit id) S k Q = ext P I (.exit id) S k Q := rfl
theorem run_ret : run P I .ret S k Q = ext P I .ret S k Q := rfl
theorem run_seq {x y : Code} : run P I (.seq x y) S k Q = run P I x S (.seq y :: k) Q := by
  simp only [run, awp, goK]
  congr 1
theorem run_block {id : Nat} {x : Code} : run P I (.block id x) S k Q = run P I x S (.blk id :: k) Q := by
  simp only [run, awp, goK]
  congr 1
theorem run_region {id : Nat} {ops : Array Oper} : run P I (.region id ops false) S k Q = runR P I ops ops.toList 0 S k Q := rfl
theorem run_draw {id : Nat} {ops : Array Oper} : run P I (.region id ops true) S k Q = drawW P I ops S k Q := rfl
theorem run_loop {c : Code} : run P I (.loop c) S k Q = loopW P I c S k Q := rfl
theorem run_cond {c : Operand} {x y : Code} : run P I (.cond c x y) S k Q = condK P I (S.val c) x y S k Q := rfl
theorem condK_bool {b : Bool} {x y : Code} : condK P I (.bool b) x y S k Q = brW P I b x y S k Q := rfl
theorem brW_true {x y : Code} : brW P I true x y S k Q = run P I x S k Q := rfl
theorem brW_false {x y : Code} : brW P I false x y S k Q = run P I y S k Q := rfl
theorem ext_nil {e : AExit} : ext P I e S [] Q = Q e S := rfl
theorem ext_seq_n {y : Code} : ext P I .normal S (.seq y :: k) Q = run P I y S k Q := rfl
theorem ext_seq_e {y : Code} {id : Nat} : ext P I (.exit id) S (.seq y :: k) Q = ext P I (.exit id) S k Q := rfl
theorem ext_seq_r {y : Code} : ext P I .ret S (.seq y :: k) Q = ext P I .ret S k Q := rfl
theorem ext_blk_n {id : Nat} : ext P I .normal S (.blk id :: k) Q = ext P I .normal S k Q := rfl
theorem ext_blk_e {id id' : Nat} : ext P I (.exit id') S (.blk id :: k) Q = if id' = id then ext P I .normal S k Q else ext P I (.exit id') S k Q := rfl
theorem ext_blk_r {id : Nat} : ext P I .ret S (.blk id :: k) Q = ext P I .ret S k Q := rfl
theorem runR_nil {ops : Array Oper} {i : Nat} : runR P I ops [] i S k Q = ext P I .normal { S with next := S.next + i } k Q := rfl
section
variable {o : Oper} {ops : Array Oper} {l : List Oper} {i : Nat} {f : FuncId} {ds : List D} {d : D} {eff : Eff}
theorem wantK_t : wantK P I (some true) o ops l i S k Q = calK P I (acallee S o.op) o ops l i S k Q := rfl
theorem wantK_f : wantK P I (some false) o ops l i S k Q = runR P I ops l (i + 1) (S.step o .undef []) k Q := rfl
theorem calK_s : calK P I (some (f, ds)) o ops l i S k Q = purK P I (purDs S.heap ds) f o ops l (i + 1) S k Q := rfl
theorem calK_n : calK P I none o ops l i S k Q = stepK P I (aop P o.op (S.next + i) S) o ops l (i + 1) S k Q := rfl
theorem purK_s : purK P I (some (ds, eff)) f o ops l i S k Q = callW P I f ds eff o ops l i S k Q := rfl
theorem stepK_s : stepK P I (some (d, eff)) o ops l i S k Q = runR P I ops l i (S.step o d eff) k Q := rfl
end
theorem rngs : List.range 0 = [] ∧ List.range 1 = [0] ∧ List.range 2 = [0, 1] ∧ List.range 3 = [0, 1, 2] ∧ List.range 4 = [0, 1, 2, 3] ∧ List.range 5 = [0, 1, 2, 3, 4] ∧ List.range 6 = [0, 1, 2, 3, 4, 5] ∧ List.range 7 = [0, 1, 2, 3, 4, 5, 6] ∧ List.range 8 = [0, 1, 2, 3, 4, 5, 6, 7] ∧ List.range 9 = [0, 1, 2, 3, 4, 5, 6, 7, 8] ∧ List.range 10 = [0, 1, 2, 3, 4, 5, 6, 7, 8, 9] ∧ List.range 11 = [0, 1, 2, 3, 4, 5, 6, 7, 8, 9, 10] ∧ List.range 12 = [0, 1, 2, 3, 4, 5, 6, 7, 8, 9, 10, 11] ∧ List.range 13 = [0, 1, 2, 3, 4, 5, 6, 7, 8, 9, 10, 11, 12] ∧ List.range 14 = [0, 1, 2, 3, 4, 5, 6, 7, 8, 9, 10, 11, 12, 13] ∧ List.range 15 = [0, 1, 2, 3, 4, 5, 6, 7, 8, 9, 10, 11, 12, 13, 14] ∧ List.range 16 = [0, 1, 2, 3, 4, 5, 6, 7, 8, 9, 10, 11, 12, 13, 14, 15] := ⟨rfl, rfl, rfl, rfl, rfl, rfl, rfl, rfl, rfl, rfl, rfl, rfl, rfl, rfl, rfl, rfl, rfl⟩
theorem upd_app {α : Type} (f : Nat → α) (i : Nat) (x : α) (j : Nat) : upd f i x j = if j = i then x else f j := rfl
theorem envL_app (l : List (Nat × D)) (t : Nat) : envL l t = match look l t with | some d => d | none => .any := rfl
theorem heapL_app (l : List (Nat × Blk)) (t : Nat) : heapL l t = look l t := rfl
theorem AS.step_mk (env : Nat → D) (heap : Nat → Option Blk) (n nt : Nat) (o : Oper) (d : D) (eff : Eff) : AS.step ⟨env, heap, n, nt⟩ o d eff = ⟨(match o.dst with | some t => upd env t d | none => env), appEff heap eff, n, nt⟩ := rfl

/-- A call by its contract. -/
theorem callW.intro {f : FuncId} {ds : List D} {eff : Eff} {o : Oper} {ops : Array Oper} {l : List Oper} {i : Nat} {d : D} (h : AFun P I f ds d) (hk : runR P I ops l i (S.step o d eff) k Q) : callW P I f ds eff o ops l i S k Q := ⟨d, h, hk⟩
theorem brW.split {b : Bool} {x y : Code} (h1 : b = true → run P I x S k Q) (h2 : b = false → run P I y S k Q) : brW P I b x y S k Q := by
  cases b
  · exact h2 rfl
  · exact h1 rfl
theorem brW.splitN {b : Bool} {x y : Code} (h1 : b = true → run P I y S k Q) (h2 : b = false → run P I x S k Q) : brW P I (!b) x y S k Q := by
  cases b
  · exact h2 rfl
  · exact h1 rfl
theorem wantK.splitN {b : Bool} {o : Oper} {ops : Array Oper} {l : List Oper} {i : Nat} (h1 : b = true → wantK P I (some false) o ops l i S k Q) (h2 : b = false → wantK P I (some true) o ops l i S k Q) : wantK P I (some (!b)) o ops l i S k Q := by
  cases b
  · exact h2 rfl
  · exact h1 rfl
theorem wantK.split {b : Bool} {o : Oper} {ops : Array Oper} {l : List Oper} {i : Nat} (h1 : b = true → wantK P I (some true) o ops l i S k Q) (h2 : b = false → wantK P I (some false) o ops l i S k Q) : wantK P I (some b) o ops l i S k Q := by
  cases b
  · exact h2 rfl
  · exact h1 rfl
/-- A loop whose states are numbered. -/
def endK (N n : Nat) (St : Nat → AS) (Φ : Nat → Prop) (Q : APost) : APost := fun e S'' => match e with
  | .normal => n < N ∧ Φ (n + 1) ∧ Wk S'' (St (n + 1))
  | e => Q e S''
/-- A loop whose states are numbered by whatever. -/
def endG {α : Type} (μ : α → Nat) (x : α) (St : α → AS) (Φ : α → Prop) (Q : APost) : APost := fun e S'' => match e with
  | .normal => ∃ y, μ y < μ x ∧ Φ y ∧ Wk S'' (St y)
  | e => Q e S''
/-- Behind a loop. -/
def behind (P : Program) (I : World → Prop) (k : List Kont) (Q : APost) : APost := goK P I k Q
theorem loopW.gen {α : Type} {c : Code} (St : α → AS) (μ : α → Nat) (Φ : α → Prop) (x0 : α) (h0 : Wk S (St x0)) (hΦ : Φ x0) (h : ∀ x, Φ x → run P I c (St x) [] (endG μ x St Φ (behind P I k Q))) : loopW P I c S k Q := by
  refine ⟨fun S n => ∃ x, Φ x ∧ S = St x ∧ n = μ x, ⟨St x0, μ x0, h0, x0, hΦ, rfl, rfl⟩, ?_⟩
  rintro S' n ⟨x, hx, rfl, rfl⟩ _
  refine awp_mono c _ _ _ ?_ (h x hx)
  intro e S'' hq
  cases e with
  | normal => obtain ⟨y, h1, h2, h3⟩ := hq; exact ⟨St y, μ y, h1, h3, y, h2, rfl, rfl⟩
  | exit id => exact hq
  | ret => exact hq
  | goto l => exact hq
theorem loopW.nat {c : Code} (St : Nat → AS) (N : Nat) (Φ : Nat → Prop) (h0 : Wk S (St 0)) (hΦ : Φ 0) (h : ∀ n, n ≤ N → Φ n → run P I c (St n) [] (endK N n St Φ (behind P I k Q))) : loopW P I c S k Q := by
  refine loopW.gen St (fun n => N - n) (fun n => n ≤ N ∧ Φ n) 0 h0 ⟨Nat.zero_le _, hΦ⟩ ?_
  intro n hn
  refine awp_mono c _ _ _ ?_ (h n hn.1 hn.2)
  intro e S'' hq
  cases e with
  | normal => exact ⟨n + 1, by have := hq.1; show N - (n + 1) < N - n; omega, ⟨by have := hq.1; omega, hq.2.1⟩, hq.2.2⟩
  | exit id => exact hq
  | ret => exact hq
  | goto l => exact hq
theorem endK_n {N n : Nat} {St : Nat → AS} {Φ : Nat → Prop} : endK N n St Φ Q .normal S = (n < N ∧ Φ (n + 1) ∧ Wk S (St (n + 1))) := rfl
theorem endK_e {N n : Nat} {St : Nat → AS} {Φ : Nat → Prop} {id : Nat} : endK N n St Φ Q (.exit id) S = Q (.exit id) S := rfl
theorem endK_r {N n : Nat} {St : Nat → AS} {Φ : Nat → Prop} : endK N n St Φ Q .ret S = Q .ret S := rfl
theorem endG_n {α : Type} {μ : α → Nat} {x : α} {St : α → AS} {Φ : α → Prop} : endG μ x St Φ Q .normal S = (∃ y, μ y < μ x ∧ Φ y ∧ Wk S (St y)) := rfl
theorem endG_e {α : Type} {μ : α → Nat} {x : α} {St : α → AS} {Φ : α → Prop} {id : Nat} : endG μ x St Φ Q (.exit id) S = Q (.exit id) S := rfl
theorem endG_r {α : Type} {μ : α → Nat} {x : α} {St : α → AS} {Φ : α → Prop} : endG μ x St Φ Q .ret S = Q .ret S := rfl
theorem behind_eq {e : AExit} : behind P I k Q e S = ext P I e S k Q := rfl
/-- The end of a function. -/
def retQ (P : Program) (fn : Func) (r : D) : APost := fun e S => match e with
  | .exit _ => False
  | .goto _ => False
  | _ => aret P fn S r
theorem retQ_n {fn : Func} {r : D} : retQ P fn r .normal S = aret P fn S r := rfl
theorem retQ_r {fn : Func} {r : D} : retQ P fn r .ret S = aret P fn S r := rfl
theorem AFun.enter (hstab : Stab I) {f : FuncId} {fn : Func} {c : Code} {ds : List D} {r : D} (hf : P.funcs[f]? = some fn) (hb : fn.body = some c) (hnm : fn.name ≠ "runtime.NumGoroutine") (hn : ds.length ≤ fn.ntmps) (hok : codeOk fn.ntmps c = true)
    (h : run P I c (S0 ds fn.ntmps) [] (retQ P fn r)) : AFun P I f ds r := by
  refine AFun.intro hstab hf hb hnm hn hok (awp_mono c _ _ _ ?_ h)
  intro e S hq
  cases e <;> exact hq
/-- What is returned, by a list of results. -/
def retK (x : Option (List D)) (H : Nat → Option Blk) (r : D) : Prop := match x with
  | some ds => ∃ p, purDs H ds = some p ∧ mkRes p.1 = r
  | none => False
theorem aret_eq {fn : Func} {r : D} : aret P fn S r = retK (resD P S fn.results.toList) S.heap r := by
  simp only [aret, retK]
  cases resD P S fn.results.toList with
  | none => simp
  | some ds =>
    simp only [Option.some.injEq, eq_iff_iff]
    constructor
    · rintro ⟨ds', ds'', e, rfl, h2, h3⟩; exact ⟨(ds'', e), h2, h3⟩
    · rintro ⟨p, h2, h3⟩; exact ⟨ds, p.1, p.2, rfl, h2, h3⟩
def retK2 (x : Option (List D × Eff)) (r : D) : Prop := match x with
  | some p => mkRes p.1 = r
  | none => False
theorem retK2_s {p : List D × Eff} {r : D} : retK2 (some p) r = (mkRes p.1 = r) := rfl
theorem retK_some {ds : List D} {H : Nat → Option Blk} {r : D} : retK (some ds) H r = retK2 (purDs H ds) r := by
  simp only [retK, retK2]
  cases purDs H ds <;> simp

/-- Sizes and numbers are Go's. -/
inductive Sz : D → Prop
  | any : Sz .any
  | undef : Sz .undef
  | int (k : IntKind) (n : Int) (h : inR k n) : Sz (.int k n)
  | bool (b : Bool) : Sz (.bool b)
  | str (s : List UInt8) (h : s.length ≤ maxLen) : Sz (.str s)
  | sl (xs : List D) (h : xs.length ≤ maxLen) (hd : ∀ d ∈ xs.flatMap D.cells, Sz d) : Sz (.sl xs)
  | agg (ds : List D) (h : ∀ d ∈ ds, Sz d) : Sz (.agg ds)
  | tup (ds : List D) (h : ∀ d ∈ ds, Sz d) : Sz (.tup ds)
  | ptr (id off : Nat) : Sz (.ptr id off)
  | vptr (id k i off : Nat) : Sz (.vptr id k i off)
  | own (id n : Nat) : Sz (.own id n)
  | nilp : Sz .nilp
  | err (b : Bool) : Sz (.err b)
  | nils : Sz .nils
  | iptr (ds : List D) : Sz (.iptr ds)
  | fn (f : FuncId) (ds : List D) : Sz (.fn f ds)
  | sp (id : Nat) : Sz (.sp id)
  | omp (id : Nat) : Sz (.omp id)
  | mp (k : IntKind) (ks : List Int) (vs : List D) : Sz (.mp k ks vs)
theorem mem_sz {vs : List Value} {ds : List D} (hl : vs.length = ds.length) (h : ∀ (i : Nat) v d, vs[i]? = some v → ds[i]? = some d → Sz d) : ∀ d ∈ ds, Sz d := by
  intro d hd
  obtain ⟨i, hi⟩ := List.getElem?_of_mem hd
  have hlt : i < vs.length := by rw [hl]; exact (List.getElem?_eq_some_iff.1 hi).1
  exact h i _ d (List.getElem?_eq_getElem hlt) hi
theorem Rep.sz {w : World} {C : Cx} {v : Value} {d : D} (h : Rep w C v d) : Sz d := by
  induction h with
  | any v => exact .any
  | undef => exact .undef
  | int k n h => exact .int k n h
  | bool b => exact .bool b
  | str l h => exact .str l h
  | agg vs ds hl h1 _ ih => exact .agg ds (mem_sz hl ih)
  | tup vs ds hl _ ih => exact .tup ds (mem_sz hl ih)
  | ptr id off g hl h => exact .ptr id off
  | vptr id k i off g n c hl h => exact .vptr id k i off
  | own id n c A hl hm h => exact .own id n
  | nilp => exact .nilp
  | err0 => exact .err _
  | err1 u v => exact .err _
  | nils => exact .nils
  | sl0 A c h => exact .sl [] (Nat.zero_le _) (by simp)
  | sl b off k c xs vals hc hm hk hl h1 hF hcell _ ih => exact .sl xs (by omega) (mem_sz hl ih)
  | iptr b off ds vals hl h1 hF hcell _ ih => exact .iptr ds
  | fn f vs ds hl _ ih => exact .fn f ds
  | sp0 id hl => exact .sp id
  | sp1 id g hl h => exact .sp id
  | omp id g hl h => exact .omp id
  | mp g clock k ks es vs hF hh hk hl _ ih => exact .mp k ks vs
theorem Sz_int {k : IntKind} {n : Int} : Sz (.int k n) ↔ inR k n := ⟨fun h => by cases h; assumption, .int k n⟩
theorem Sz_i64 {n : Int} : Sz (.int .i64 n) ↔ -9223372036854775808 ≤ n ∧ n ≤ 9223372036854775807 := Sz_int
theorem Sz_u8 {n : Int} : Sz (.int .u8 n) ↔ 0 ≤ n ∧ n ≤ 255 := Sz_int
theorem Sz_str {s : List UInt8} : Sz (.str s) ↔ s.length ≤ 9223372036854775807 := ⟨fun h => by cases h; assumption, .str s⟩
theorem Sz_sl {xs : List D} : Sz (.sl xs) ↔ xs.length ≤ 9223372036854775807 ∧ ∀ d ∈ xs.flatMap D.cells, Sz d := ⟨fun h => by cases h with | sl _ h1 h2 => exact ⟨h1, h2⟩, fun h => .sl xs h.1 h.2⟩
theorem Sz_agg {ds : List D} : Sz (.agg ds) ↔ ∀ d ∈ ds, Sz d := ⟨fun h => by cases h; assumption, .agg ds⟩
theorem Sz_bool {b : Bool} : Sz (.bool b) ↔ True := ⟨fun _ => trivial, fun _ => .bool b⟩
/-- What is called is of Go's sizes. -/
theorem AFun.sized {P : Program} {I : World → Prop} {f : FuncId} {ds : List D} {r : D} (he : enterable P f = true) (h : (∀ d ∈ ds, Sz d) → AFun P I f ds r) : AFun P I f ds r := by
  refine ⟨he, fun w F args hI hfb hlen hrep => ?_⟩
  exact (h (mem_sz hlen fun i v d hv hd => (hrep i v d hv hd).sz)).2 w F args hI hfb hlen hrep
theorem wk64 {x : Int} (h : -9223372036854775808 ≤ x ∧ x ≤ 9223372036854775807) : IntKind.i64.wrap x = x := IntWalk.i64_in x h
end
end Go.Proofs.YtipdmcpmedmicaaDoor
