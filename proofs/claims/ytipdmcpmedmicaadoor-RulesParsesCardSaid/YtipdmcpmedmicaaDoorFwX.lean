/- The second reading, step by step. -/
import Derived.Test.YtipdmcpmedmicaaDoorFwSc
import Derived.KernelRfl
set_option linter.unusedSimpArgs false
set_option linter.unusedVariables false
namespace Go.Proofs.YtipdmcpmedmicaaDoor
open Go.RowKit

section
variable (P : Program) (I : World → Prop)
def goB : List Kont → BPost → BPost
  | [], Q => Q
  | .seq y :: k, Q => fun e S => match e with
    | .normal => ∃ S3, Wk S S3 ∧ bwp P I y S3 (goB k Q)
    | e => ∃ S3, Wk S S3 ∧ goB k Q e S3
  | .blk id :: k, Q => fun e S => match e with
    | .exit id' => if id' = id then goB k Q .normal S else goB k Q (.exit id') S
    | e => goB k Q e S
  | .scp c :: k, Q => hitQ P I c (goB k Q)
  | .pas c :: k, Q => passQ c (goB k Q)
def runB (c : Code) (S : AS) (k : List Kont) (Q : BPost) : Prop := bwp P I c S (goB P I k Q)
def extB (e : AExit) (S : AS) (k : List Kont) (Q : BPost) : Prop := goB P I k Q e S
/-- Operations one behind the other, and what comes behind. -/
def rgL (ops : Array Oper) (l : List Oper) (i : Nat) (S : AS) (k : List Kont) (Q : BPost) : Prop := awpL P I ops l i S (goB P I k Q .normal)
def sR (x : Option (D × Eff)) (o : Oper) (ops : Array Oper) (l : List Oper) (i : Nat) (S : AS) (k : List Kont) (Q : BPost) : Prop := match x with
  | some (d, eff) => rgL P I ops l i (S.step o d eff) k Q
  | none => False
/-- A call with effects: it waits for a contract. -/
def eW (f : FuncId) (ds : List D) (ep : Eff) (nid : Nat) (o : Oper) (ops : Array Oper) (l : List Oper) (i : Nat) (S : AS) (k : List Kont) (Q : BPost) : Prop := ∃ d eff, CallOK P I f ds (appEff S.heap ep) nid d eff ∧ rgL P I ops l i (S.step o d (ep ++ eff)) k Q
def eX (y : Option (List D × Eff)) (f : FuncId) (nid : Nat) (o : Oper) (ops : Array Oper) (l : List Oper) (i : Nat) (S : AS) (k : List Kont) (Q : BPost) : Prop := match y with
  | some (ds, ep) => eW P I f ds ep nid o ops l i S k Q
  | none => False
def cW (f : FuncId) (ds : List D) (eff : Eff) (ds0 : List D) (nid : Nat) (o : Oper) (ops : Array Oper) (l : List Oper) (i : Nat) (S : AS) (k : List Kont) (Q : BPost) : Prop := (∃ d, AFun P I f ds d ∧ rgL P I ops l i (S.step o d eff) k Q) ∨ eX P I (purXs S.heap ds0) f nid o ops l i S k Q
def pR (x : Option (List D × Eff)) (ds0 : List D) (nid : Nat) (f : FuncId) (o : Oper) (ops : Array Oper) (l : List Oper) (i : Nat) (S : AS) (k : List Kont) (Q : BPost) : Prop := match x with
  | some (ds, eff) => cW P I f ds eff ds0 nid o ops l i S k Q
  | none => eX P I (purXs S.heap ds0) f nid o ops l i S k Q
def lR (x : Option (FuncId × List D)) (o : Oper) (ops : Array Oper) (l : List Oper) (i : Nat) (S : AS) (k : List Kont) (Q : BPost) : Prop := match x with
  | some (f, ds) => pR P I (purDs S.heap ds) ds (S.next + i) f o ops l (i + 1) S k Q
  | none => sR P I (aop P o.op (S.next + i) S) o ops l (i + 1) S k Q
def wR (x : Option Bool) (o : Oper) (ops : Array Oper) (l : List Oper) (i : Nat) (S : AS) (k : List Kont) (Q : BPost) : Prop := match x with
  | some true => lR P I (acallee S o.op) o ops l i S k Q
  | some false => rgL P I ops l (i + 1) (S.step o .undef []) k Q
  | none => False
/-- The same in a region that draws its order. -/
def rgD (ops : Array Oper) (l : List Oper) (i : Nat) (S : AS) (k : List Kont) (Q : BPost) : Prop := awpLq P I ops l i S (goB P I k Q .normal)
def hD (d : D) (eff : Eff) (o : Oper) (ops : Array Oper) (l : List Oper) (i : Nat) (S : AS) (k : List Kont) (Q : BPost) : Prop := effH ops S.next i eff = true ∧ rgD P I ops l (i + 1) (S.step o d eff) k Q
def sD (x : Option (D × Eff)) (o : Oper) (ops : Array Oper) (l : List Oper) (i : Nat) (S : AS) (k : List Kont) (Q : BPost) : Prop := match x with
  | some (d, eff) => if effOk (S.next + i) eff = true then rgD P I ops l (i + 1) (S.step o d eff) k Q else hD P I d eff o ops l i S k Q
  | none => False
/-- A call with effects, in a region that draws. -/
def eD (f : FuncId) (ds0 ds : List D) (ep : Eff) (nid : Nat) (o : Oper) (ops : Array Oper) (l : List Oper) (i : Nat) (S : AS) (k : List Kont) (Q : BPost) : Prop := ∃ d eff, CallAny P I f ds0 ds ep S.heap S.next nid d eff ∧ effH ops S.next i (ep ++ eff) = true ∧ rgD P I ops l (i + 1) (S.step o d (ep ++ eff)) k Q
def eXD (y : Option (List D × Eff)) (ds0 : List D) (f : FuncId) (nid : Nat) (o : Oper) (ops : Array Oper) (l : List Oper) (i : Nat) (S : AS) (k : List Kont) (Q : BPost) : Prop := match y with
  | some (ds, ep) => eD P I f ds0 ds ep nid o ops l i S k Q
  | none => False
def cD' (f : FuncId) (ds : List D) (eff : Eff) (ds0 : List D) (nid : Nat) (o : Oper) (ops : Array Oper) (l : List Oper) (i : Nat) (S : AS) (k : List Kont) (Q : BPost) : Prop := (effH ops S.next i eff = true ∧ ∃ d, AFun P I f ds d ∧ rgD P I ops l (i + 1) (S.step o d eff) k Q) ∨ eXD P I (purXs S.heap ds0) ds0 f nid o ops l i S k Q
def pD (x : Option (List D × Eff)) (ds0 : List D) (nid : Nat) (f : FuncId) (o : Oper) (ops : Array Oper) (l : List Oper) (i : Nat) (S : AS) (k : List Kont) (Q : BPost) : Prop := match x with
  | some (ds, eff) => cD' P I f ds eff ds0 nid o ops l i S k Q
  | none => eXD P I (purXs S.heap ds0) ds0 f nid o ops l i S k Q
def lD (x : Option (FuncId × List D)) (o : Oper) (ops : Array Oper) (l : List Oper) (i : Nat) (S : AS) (k : List Kont) (Q : BPost) : Prop := match x with
  | some (f, ds) => pD P I (purDs S.heap ds) ds (S.next + i) f o ops l i S k Q
  | none => sD P I (aop P o.op (S.next + i) S) o ops l i S k Q
def wD (x : Option Bool) (o : Oper) (ops : Array Oper) (l : List Oper) (i : Nat) (S : AS) (k : List Kont) (Q : BPost) : Prop := match x with
  | some true => lD P I (acallee S o.op) o ops l i S k Q
  | some false => rgD P I ops l (i + 1) (S.step o .undef []) k Q
  | none => False
end
section
variable {P : Program} {I : World → Prop} {S : AS} {k : List Kont} {Q : BPost}
theorem rb_skip (h : extB P I .normal S k Q) : runB P I .skip S k Q := h
theorem rb_label {l : Nat} (h : extB P I .normal S k Q) : runB P I (.label l) S k Q := h
theorem rb_exit {id : Nat} (h : extB P I (.exit id) S k Q) : runB P I (.exit id) S k Q := h
theorem rb_ret (h : extB P I .ret S k Q) : runB P I .ret S k Q := h
theorem rb_seq {x y : Code} (h : runB P I x S (.seq y :: k) Q) : runB P I (.seq x y) S k Q := by
  simp only [runB, bwp, goB] at *
  exact h
theorem rb_block {id : Nat} {x : Code} (h : runB P I x S (.blk id :: k) Q) : runB P I (.block id x) S k Q := by
  simp only [runB, bwp, goB] at *
  exact h
theorem rb_region {id : Nat} {ops : Array Oper} (h : rgL P I ops ops.toList 0 S k Q) : runB P I (.region id ops false) S k Q := h
theorem rb_draw (hstab : Stab I) {id : Nat} {ops : Array Oper} (hm : P.follows .mixedOrders = true) (hok : drawOk ops = true) (h : rgD P I ops ops.toList 0 S k Q) : runB P I (.region id ops true) S k Q := awpD_of hstab hm hok h
theorem rb_regionK {id : Nat} {ops : Array Oper} (h : ∀ K, K = k → rgL P I ops ops.toList 0 S K Q) : runB P I (.region id ops false) S k Q := h k rfl
theorem rb_drawK (hstab : Stab I) {id : Nat} {ops : Array Oper} (hm : P.follows .mixedOrders = true) (hok : drawOk ops = true) (h : ∀ K, K = k → rgD P I ops ops.toList 0 S K Q) : runB P I (.region id ops true) S k Q := rb_draw hstab hm hok (h k rfl)
theorem rb_true {c : Operand} {x y : Code} (hc : S.val c = .bool true) (h : runB P I x S k Q) : runB P I (.cond c x y) S k Q := by
  simp only [runB, bwp, hc]
  exact ⟨fun _ => h, fun e => absurd e (by decide)⟩
theorem rb_false {c : Operand} {x y : Code} (hc : S.val c = .bool false) (h : runB P I y S k Q) : runB P I (.cond c x y) S k Q := by
  simp only [runB, bwp, hc]
  exact ⟨fun e => absurd e (by decide), fun _ => h⟩
theorem eb_seq {y : Code} (h : runB P I y S k Q) : extB P I .normal S (.seq y :: k) Q := ⟨S, Wk.refl S, h⟩
theorem eb_cut {y : Code} {S3 : AS} (hw : Wk S S3) (h : runB P I y S3 k Q) : extB P I .normal S (.seq y :: k) Q := ⟨S3, hw, h⟩
theorem eb_seq_e {y : Code} {id : Nat} (h : extB P I (.exit id) S k Q) : extB P I (.exit id) S (.seq y :: k) Q := ⟨S, Wk.refl S, h⟩
theorem eb_seq_r {y : Code} (h : extB P I .ret S k Q) : extB P I .ret S (.seq y :: k) Q := ⟨S, Wk.refl S, h⟩
theorem eb_blk_n {id : Nat} (h : extB P I .normal S k Q) : extB P I .normal S (.blk id :: k) Q := h
theorem eb_blk_hit {id : Nat} (h : extB P I .normal S k Q) : extB P I (.exit id) S (.blk id :: k) Q := by
  show (if id = id then goB P I k Q .normal S else goB P I k Q (.exit id) S)
  rw [if_pos rfl]; exact h
theorem eb_blk_miss {id id' : Nat} (hne : id' ≠ id) (h : extB P I (.exit id') S k Q) : extB P I (.exit id') S (.blk id :: k) Q := by
  show (if id' = id then goB P I k Q .normal S else goB P I k Q (.exit id') S)
  rw [if_neg hne]; exact h
theorem eb_blk_r {id : Nat} (h : extB P I .ret S k Q) : extB P I .ret S (.blk id :: k) Q := h
theorem eb_seq_g {y : Code} {l : Nat} (h : extB P I (.goto l) S k Q) : extB P I (.goto l) S (.seq y :: k) Q := ⟨S, Wk.refl S, h⟩
theorem eb_blk_g {id l : Nat} (h : extB P I (.goto l) S k Q) : extB P I (.goto l) S (.blk id :: k) Q := h
theorem rb_scope (hstab : Stab I) {c : Code} (h : runB P I c S (.scp c :: k) Q) : runB P I (.scope c) S k Q := bwp_scope hstab h
theorem eb_scp_n {c : Code} (h : extB P I .normal S k Q) : extB P I .normal S (.scp c :: k) Q := h
theorem eb_scp_e {c : Code} {id : Nat} (h : extB P I (.exit id) S k Q) : extB P I (.exit id) S (.scp c :: k) Q := h
theorem eb_scp_r {c : Code} (h : extB P I .ret S k Q) : extB P I .ret S (.scp c :: k) Q := h
theorem eb_scp_hit {c rest : Code} {l : Nat} (hf : findLabel c l = some rest) (h : runB P I rest S (.pas c :: k) Q) : extB P I (.goto l) S (.scp c :: k) Q := by
  show hitQ P I c (goB P I k Q) (.goto l) S
  simp only [hitQ, hf]
  exact ⟨S, Wk.refl S, h⟩
theorem eb_scp_cut {c rest : Code} {l : Nat} {S3 : AS} (hf : findLabel c l = some rest) (hw : Wk S S3) (h : runB P I rest S3 (.pas c :: k) Q) : extB P I (.goto l) S (.scp c :: k) Q := by
  show hitQ P I c (goB P I k Q) (.goto l) S
  simp only [hitQ, hf]
  exact ⟨S3, hw, h⟩
theorem eb_scp_miss {c : Code} {l : Nat} (hf : findLabel c l = none) (h : extB P I (.goto l) S k Q) : extB P I (.goto l) S (.scp c :: k) Q := by
  show hitQ P I c (goB P I k Q) (.goto l) S
  simp only [hitQ, hf]
  exact h
theorem eb_pas_n {c : Code} (h : extB P I .normal S k Q) : extB P I .normal S (.pas c :: k) Q := h
theorem eb_pas_e {c : Code} {id : Nat} (h : extB P I (.exit id) S k Q) : extB P I (.exit id) S (.pas c :: k) Q := h
theorem eb_pas_r {c : Code} (h : extB P I .ret S k Q) : extB P I .ret S (.pas c :: k) Q := h
theorem eb_pas_g {c : Code} {l : Nat} (hf : findLabel c l = none) (h : extB P I (.goto l) S k Q) : extB P I (.goto l) S (.pas c :: k) Q := ⟨hf, h⟩
theorem rb_goto {l : Nat} (h : extB P I (.goto l) S k Q) : runB P I (.goto l) S k Q := h
theorem eb_nil {e : AExit} (h : Q e S) : extB P I e S [] Q := h
section
variable {o : Oper} {ops : Array Oper} {l : List Oper} {i : Nat} {f : FuncId} {ds : List D} {d : D} {eff : Eff}
theorem rgL_nil : rgL P I ops [] i S k Q = extB P I .normal { S with next := S.next + i } k Q := rfl
theorem rgL_cons : rgL P I ops (o :: l) i S k Q = wR P I (awant ops S.env o) o ops l i S k Q := by
  simp only [rgL, awpL, awpO, wR, lR, pR, eX, eW, sR, cW]
  cases awant ops S.env o with
  | none => rfl
  | some r =>
    cases r with
    | false => simp
    | true =>
      simp only [if_true]
      cases acallee S o.op with
      | none =>
        simp only
        cases aop P o.op (S.next + i) S <;> rfl
      | some p =>
        simp only
        cases purDs S.heap p.2 with
        | none =>
          simp only [false_or]
          cases purXs S.heap p.2 <;> rfl
        | some q => rfl
theorem wR_t : wR P I (some true) o ops l i S k Q = lR P I (acallee S o.op) o ops l i S k Q := rfl
theorem wR_f : wR P I (some false) o ops l i S k Q = rgL P I ops l (i + 1) (S.step o .undef []) k Q := rfl
theorem lR_s : lR P I (some (f, ds)) o ops l i S k Q = pR P I (purDs S.heap ds) ds (S.next + i) f o ops l (i + 1) S k Q := rfl
theorem lR_n : lR P I none o ops l i S k Q = sR P I (aop P o.op (S.next + i) S) o ops l (i + 1) S k Q := rfl
theorem pR_s {ds0 : List D} {nid : Nat} : pR P I (some (ds, eff)) ds0 nid f o ops l i S k Q = cW P I f ds eff ds0 nid o ops l i S k Q := rfl
theorem pR_n {ds0 : List D} {nid : Nat} : pR P I none ds0 nid f o ops l i S k Q = eX P I (purXs S.heap ds0) f nid o ops l i S k Q := rfl
theorem eX_s {ep : Eff} {nid : Nat} : eX P I (some (ds, ep)) f nid o ops l i S k Q = eW P I f ds ep nid o ops l i S k Q := rfl
theorem sR_s : sR P I (some (d, eff)) o ops l i S k Q = rgL P I ops l i (S.step o d eff) k Q := rfl
theorem rgD_nil : rgD P I ops [] i S k Q = extB P I .normal { S with next := S.next + i } k Q := rfl
theorem wD_t : wD P I (some true) o ops l i S k Q = lD P I (acallee S o.op) o ops l i S k Q := rfl
theorem wD_f : wD P I (some false) o ops l i S k Q = rgD P I ops l (i + 1) (S.step o .undef []) k Q := rfl
theorem lD_s : lD P I (some (f, ds)) o ops l i S k Q = pD P I (purDs S.heap ds) ds (S.next + i) f o ops l i S k Q := rfl
theorem pD_n {ds0 : List D} {nid : Nat} : pD P I none ds0 nid f o ops l i S k Q = eXD P I (purXs S.heap ds0) ds0 f nid o ops l i S k Q := rfl
theorem eXD_s {ds0 : List D} {ep : Eff} {nid : Nat} : eXD P I (some (ds, ep)) ds0 f nid o ops l i S k Q = eD P I f ds0 ds ep nid o ops l i S k Q := rfl
theorem lD_n : lD P I none o ops l i S k Q = sD P I (aop P o.op (S.next + i) S) o ops l i S k Q := rfl
theorem pD_s {ds0 : List D} {nid : Nat} : pD P I (some (ds, eff)) ds0 nid f o ops l i S k Q = cD' P I f ds eff ds0 nid o ops l i S k Q := rfl
theorem sD_s : sD P I (some (d, eff)) o ops l i S k Q = if effOk (S.next + i) eff = true then rgD P I ops l (i + 1) (S.step o d eff) k Q else hD P I d eff o ops l i S k Q := rfl
theorem rgD_cons : rgD P I ops (o :: l) i S k Q = wD P I (awant ops S.env o) o ops l i S k Q := by
  refine propext ⟨fun h => ?_, fun h => ?_⟩
  · obtain ⟨d, eff, ⟨hst, he⟩, hk⟩ := h
    rcases hst with ⟨h1, rfl, rfl⟩ | ⟨h1, h2⟩
    · rw [h1]; exact hk
    · rw [h1]
      simp only [wD]
      rcases h2 with ⟨f, ds, ds', h3, h4, h5⟩ | ⟨h3, h4⟩ | ⟨f, ds, ds', ep, eff', h3, h4, rfl, h5⟩
      · rw [h3]; simp only [lD, h4, pD, cD']; exact .inl ⟨he, d, h5, hk⟩
      · rw [h3]; simp only [lD, h4, sD]
        split
        · exact hk
        · exact ⟨he, hk⟩
      · rw [h3]
        simp only [lD]
        cases purDs S.heap ds with
        | none => simp only [pD, h4, eXD]; exact ⟨d, eff', h5, he, hk⟩
        | some q => simp only [pD, cD', h4, eXD]; exact .inr ⟨d, eff', h5, he, hk⟩
  · simp only [rgD, awpLq]
    cases hw : awant ops S.env o with
    | none => rw [hw] at h; exact h.elim
    | some r =>
      rw [hw] at h
      cases r with
      | false => exact ⟨.undef, [], ⟨.inl ⟨hw, rfl, rfl⟩, rfl⟩, h⟩
      | true =>
        simp only [wD] at h
        cases hc : acallee S o.op with
        | some p =>
          obtain ⟨f, ds⟩ := p
          rw [hc] at h
          simp only [lD] at h
          cases hp : purDs S.heap ds with
          | none =>
            rw [hp] at h
            simp only [pD] at h
            cases hx : purXs S.heap ds with
            | none => rw [hx] at h; exact h.elim
            | some y =>
              obtain ⟨ds', ep⟩ := y
              rw [hx] at h
              obtain ⟨d, e, h1, he, h2⟩ := h
              exact ⟨d, ep ++ e, ⟨.inr ⟨hw, .inr (.inr ⟨f, ds, ds', ep, e, hc, hx, rfl, h1⟩)⟩, he⟩, h2⟩
          | some q =>
            obtain ⟨ds', e⟩ := q
            rw [hp] at h
            simp only [pD] at h
            rcases h with h | h
            rotate_left
            · cases hx : purXs S.heap ds with
              | none => rw [hx] at h; exact h.elim
              | some y =>
                obtain ⟨ds', ep⟩ := y
                rw [hx] at h
                obtain ⟨d, e, h1, he, h2⟩ := h
                exact ⟨d, ep ++ e, ⟨.inr ⟨hw, .inr (.inr ⟨f, ds, ds', ep, e, hc, hx, rfl, h1⟩)⟩, he⟩, h2⟩
            obtain ⟨he, d, h1, h2⟩ := h
            exact ⟨d, e, ⟨.inr ⟨hw, .inl ⟨f, ds, ds', hc, hp, h1⟩⟩, he⟩, h2⟩
        | none =>
          rw [hc] at h
          simp only [lD, sD] at h
          cases hp : aop P o.op (S.next + i) S with
          | none => rw [hp] at h; exact h.elim
          | some q =>
            obtain ⟨d, e⟩ := q
            rw [hp] at h
            simp only at h
            split at h
            · rename_i he
              exact ⟨d, e, ⟨.inr ⟨hw, .inr (.inl ⟨hc, hp⟩)⟩, by simp [effH, he]⟩, h⟩
            · exact ⟨d, e, ⟨.inr ⟨hw, .inr (.inl ⟨hc, hp⟩)⟩, h.1⟩, h.2⟩
theorem cW.intro {ds' ds0 : List D} {nid : Nat} (h : AFun P I f ds' d) (he : ds' = ds) (hk : rgL P I ops l i (S.step o d eff) k Q) : cW P I f ds eff ds0 nid o ops l i S k Q := .inl ⟨d, he ▸ h, hk⟩
theorem cD'.intro {ds' ds0 : List D} {nid : Nat} (h : AFun P I f ds' d) (he : ds' = ds) (hf : effH ops S.next i eff = true) (hk : rgD P I ops l (i + 1) (S.step o d eff) k Q) : cD' P I f ds eff ds0 nid o ops l i S k Q := .inl ⟨hf, d, he ▸ h, hk⟩
theorem eW.intro {ds' : List D} {ep : Eff} {nid n' : Nat} (h : CallOK P I f ds' (appEff S.heap ep) n' d eff) (he : ds' = ds) (hn : n' = nid) (hk : rgL P I ops l i (S.step o d (ep ++ eff)) k Q) : eW P I f ds ep nid o ops l i S k Q := ⟨d, eff, by subst he hn; exact h, hk⟩
/-- A call whose arguments are free of own blocks, and that makes one. -/
theorem cW.introE {ds' ds0 : List D} {ep eff' : Eff} {nid n' : Nat} (h : CallOK P I f ds' (appEff S.heap ep) n' d eff') (he : purXs S.heap ds0 = some (ds', ep)) (hn : n' = nid) (hk : rgL P I ops l i (S.step o d (ep ++ eff')) k Q) : cW P I f ds eff ds0 nid o ops l i S k Q := .inr (by rw [he]; exact ⟨d, eff', by subst hn; exact h, hk⟩)
theorem cD'.introE {ds' ds0 : List D} {ep eff' : Eff} {nid n' : Nat} (h : CallAny P I f ds0 ds' ep S.heap S.next n' d eff') (he : purXs S.heap ds0 = some (ds', ep)) (hn : n' = nid) (hf : effH ops S.next i (ep ++ eff') = true) (hk : rgD P I ops l (i + 1) (S.step o d (ep ++ eff')) k Q) : cD' P I f ds eff ds0 nid o ops l i S k Q := .inr (by rw [he]; exact ⟨d, eff', by subst hn; exact h, hf, hk⟩)
theorem eD.intro {ds' ds0 : List D} {ep : Eff} {nid n' : Nat} (h : CallAny P I f ds0 ds' ep S.heap S.next n' d eff) (he : ds' = ds) (hn : n' = nid) (hf : effH ops S.next i (ep ++ eff) = true) (hk : rgD P I ops l (i + 1) (S.step o d (ep ++ eff)) k Q) : eD P I f ds0 ds ep nid o ops l i S k Q := ⟨d, eff, by subst he hn; exact h, hf, hk⟩
theorem hD.intro (he : effH ops S.next i eff = true) (hk : rgD P I ops l (i + 1) (S.step o d eff) k Q) : hD P I d eff o ops l i S k Q := ⟨he, hk⟩
end

/-- Steps: on, or out. -/
inductive Nx (X E : Type) where
  | go (x : X)
  | out (e : E)
def iterN {X E : Type} (step : X → Option (Nx X E)) : Nat → X → Option E
  | 0, _ => none
  | n + 1, x => match step x with
    | none => none
    | some (.go x') => iterN step n x'
    | some (.out e) => some e
/-- A step again and again, as often as any machine could. -/
def iter {X E : Type} (step : X → Option (Nx X E)) (x : X) : Option E := iterN step 73786976294838206464 x
/-- What a step must show. -/
def stepQ {X E : Type} (St : X → AS) (Ex : E → AExit) (Sx : E → AS) : Nx X E → BPost
  | .go x => fun e S => e = .normal ∧ Wk S (St x)
  | .out r => fun e S => e = Ex r ∧ Wk S (Sx r)
theorem rb_loop {X E : Type} {c : Code} {step : X → Option (Nx X E)} (St : X → AS) (Ex : E → AExit) (Sx : E → AS) {x0 : X} {r : E} (hr : iter step x0 = some r) (h0 : Wk S (St x0)) (hx : ∀ r, Ex r ≠ .normal)
    (hstep : ∀ x y, step x = some y → runB P I c (St x) [] (stepQ St Ex Sx y)) (hk : extB P I (Ex r) (Sx r) k Q) : runB P I (.loop c) S k Q := by
  refine ⟨fun S n => ∃ x, S = St x ∧ iterN step n x = some r, ⟨St x0, _, h0, x0, rfl, hr⟩, ?_⟩
  rintro S' n ⟨x, rfl, hn⟩ _
  cases n with
  | zero => simp [iterN] at hn
  | succ n =>
    simp only [iterN] at hn
    cases hs : step x with
    | none => rw [hs] at hn; simp at hn
    | some y =>
      rw [hs] at hn
      refine bwp_mono c _ _ _ ?_ (hstep x y hs)
      intro e S'' hq
      cases y with
      | go x' =>
        obtain ⟨rfl, hw⟩ := hq
        exact ⟨St x', n, Nat.lt_succ_self n, hw, x', rfl, hn⟩
      | out e' =>
        simp at hn
        subst hn
        obtain ⟨rfl, hw⟩ := hq
        cases he : Ex e' with
        | normal => exact absurd he (hx e')
        | exit id => exact ⟨_, hw, by rw [he] at hk; exact hk⟩
        | ret => exact ⟨_, hw, by rw [he] at hk; exact hk⟩
        | goto l => exact ⟨_, hw, by rw [he] at hk; exact hk⟩
/-- A piece of text that ends in one of several states. -/
theorem rb_seg {X E : Type} {x y : Code} {o : Option (Nx X E)} (St : X → AS) (Ex : E → AExit) (Sx : E → AS) {r : Nx X E} (hr : o = some r) (hx : ∀ r, Ex r ≠ .normal)
    (hstep : ∀ r, o = some r → runB P I x S [] (stepQ St Ex Sx r)) (hg : ∀ v, r = .go v → runB P I y (St v) k Q) (ho : ∀ e, r = .out e → extB P I (Ex e) (Sx e) k Q) : runB P I (.seq x y) S k Q := by
  refine bwp_mono x _ _ _ ?_ (hstep r hr)
  intro e S' hq
  cases r with
  | go v =>
    obtain ⟨rfl, hw⟩ := hq
    exact ⟨_, hw, hg v rfl⟩
  | out e' =>
    obtain ⟨rfl, hw⟩ := hq
    have := ho e' rfl
    cases he : Ex e' with
    | normal => exact absurd he (hx e')
    | exit id => rw [he] at this; exact ⟨_, hw, this⟩
    | ret => rw [he] at this; exact ⟨_, hw, this⟩
    | goto l => rw [he] at this; exact ⟨_, hw, this⟩
/-- A piece of text that ends in one way. -/
def cutQ {X : Type} (St : X → AS) (v : X) : BPost := fun e S => e = .normal ∧ Wk S (St v)
theorem rb_cut {X : Type} {x y : Code} {o : Option X} (St : X → AS) {v : X} (hr : o = some v)
    (hstep : ∀ v, o = some v → runB P I x S [] (cutQ St v)) (hk : runB P I y (St v) k Q) : runB P I (.seq x y) S k Q := by
  refine bwp_mono x _ _ _ ?_ (hstep v hr)
  rintro e S' ⟨rfl, hw⟩
  exact ⟨_, hw, hk⟩
/-- The end of a function. -/
theorem AFun.enterB (hstab : Stab I) {f : FuncId} {fn : Func} {c : Code} {ds : List D} {r : D} (hf : P.funcs[f]? = some fn) (hb : fn.body = some c) (hnm : fn.name ≠ "runtime.NumGoroutine") (hn : ds.length ≤ fn.ntmps) (hok : codeOk fn.ntmps c = true)
    (h : runB P I c (S0 ds fn.ntmps) [] (retQ P fn r)) : AFun P I f ds r := by
  refine ⟨by simp [enterable, hf, hb, hnm], fun w F args hI hfb hlen hrep => ?_⟩
  refine calls_of_wp hf hb ?_
  have hR : Rel I (Gh.top w F) (fun id => id < (S0 ds fn.ntmps).next) (S0 ds fn.ntmps) (cF F) { tmps := args.toArray ++ Array.replicate (fn.ntmps - args.toArray.size) Go.undef, defers := [] } w := by
    refine ⟨⟨fun t => ?_, ⟨fun id b h => by simp [S0, heapL, look] at h, fun id b h => by simp [S0, heapL, look] at h, fun id k cs h => by simp [S0, heapL, look] at h, fun id id' b b' h => by simp [S0, heapL, look] at h⟩, hfb, fun _ h => h⟩, hI, BelM.refl _ _, fun b o h => .inl h, Ext.refl _ _, rfl, ?_, fun id h => h.elim⟩
    · simp only [S0, argL_getD]
      by_cases ht : t < ds.length
      · rw [show ds.getD t .any = ds[t] by simp [List.getD, ht]]
        have ha : t < args.length := by omega
        have : (args.toArray ++ Array.replicate (fn.ntmps - args.toArray.size) Go.undef).getD t Go.undef = args[t] := by
          simp [Array.getD_eq_getD_getElem?, Array.getElem?_append, ha]
        rw [this]
        exact hrep t _ _ (List.getElem?_eq_getElem ha) (List.getElem?_eq_getElem ht)
      · rw [show ds.getD t .any = .any by simp [List.getD, ht]]
        exact .any _
    · simp [S0]; omega
  refine wp_mono (bwp_sound hstab c _ _ (Gh.top w F) _ _ w hok h hR) ?_
  rintro e a' w' ⟨S', C', hnt, hR', hq⟩
  have fin : aret P fn S' r → a'.defers = [] ∧ ∃ v, (results fn a'.tmps).run P w' = .ok v w' ∧ (∃ v' F', Ending.returned v = .returned v' ∧ Below w.heap.size w w' ∧ Ext (cF F) w (cF F') w' ∧ FB (cF F') w' ∧ (∀ b o, F' b o → F b o ∨ w.heap.size ≤ b) ∧ Rep w' (cF F') v' r) := by
    rintro ⟨rs, rs', ep, h1, h2, h3⟩
    refine ⟨hR'.defers, ?_⟩
    obtain ⟨vs, hr, hl, hv⟩ := resD_run (P := P) (G := Gh.top w F) hR'.ok _ _ h1
    obtain ⟨C1, hP, hl', hv'⟩ := purDs_sound (w := w') (B := (Gh.top w F).B) rs vs C' S'.heap rs' ep hR'.ok.heap hR'.ok.fb hl hv h2
    refine ⟨if h : vs.toArray.size = 1 then vs.toArray[0] else .tuple vs.toArray, ?_, _, C1.F, rfl, hR'.below.to, (hR'.ext.trans hP.ext).cF, hP.fb, fun b o h => ?_, ?_⟩
    · rw [results_eq, Array.mapM_eq_mapM_toList]
      simp only [Sem.run_bind, Sem.run_map, hr]
      rfl
    · rcases hP.new b o h with h | h
      · exact hR'.new b o h
      · exact .inr h
    · rw [← h3]
      exact mkRes_rep hl' (fun i v d hi hd => (hv' i v d hi hd).1)
  cases e with
  | normal => exact fin hq
  | ret => exact fin hq
  | exit id => exact hq.elim
  | goto l => exact hq.elim
  | panic ch => exact hq.elim
  | outgrown => exact hq.elim

/-- The element at an index. -/
def atI {α : Type} (l : List α) (n : Int) : Option α := if 0 ≤ n then l[n.toNat]? else none
theorem atI_fold {α : Type} {l : List α} {n : Int} : (if 0 ≤ n then l[n.toNat]? else none) = atI l n := rfl
theorem atI_map {α β : Type} {l : List α} {f : α → β} {n : Int} : atI (l.map f) n = (atI l n).map f := by
  unfold atI; split <;> simp
theorem atI_cons0 {α : Type} {x : α} {l : List α} : atI (x :: l) 0 = some x := rfl
theorem atI_own {α : Type} {l : List α} {n : Int} {y : α} (h : atI l n = some y) : 0 ≤ n ∧ n < (l.length : Int) ∧ ∀ {β : Type} (f : α → β), (l.map f)[n.toNat]? = some (f y) := by
  unfold atI at h
  split at h
  · rename_i h0
    have := (List.getElem?_eq_some_iff.1 h).1
    exact ⟨h0, by omega, fun f => by simp [h]⟩
  · cases h
theorem bind_some {α β : Type} {o : Option α} {F : α → Option β} {y : β} (h : o.bind F = some y) : ∃ x, o = some x ∧ F x = some y := Option.bind_eq_some_iff.1 h
theorem ite_or {α : Type} {b : Bool} {x y : Option α} {z : α} (h : (if b = true then x else y) = some z) : (b = true ∧ x = some z) ∨ (b = false ∧ y = some z) := by
  cases b
  · exact .inr ⟨rfl, by simpa using h⟩
  · exact .inl ⟨rfl, by simpa using h⟩
theorem ite_on {α : Type} {p : Prop} [Decidable p] {x : Option α} {z : α} (h : (if p then x else none) = some z) : p ∧ x = some z := by
  split at h
  · rename_i hp; exact ⟨hp, h⟩
  · cases h
/-- A part of a string or of a slice. -/
def subI {α : Type} (s : List α) (lo hi : Int) : Option (List α) := if 0 ≤ lo ∧ 0 ≤ hi ∧ hi.toNat ≤ s.length ∧ lo.toNat ≤ hi.toNat then some ((s.drop lo.toNat).take (hi.toNat - lo.toNat)) else none
def subH {α : Type} (s : List α) (hi : Int) : Option (List α) := if 0 ≤ hi ∧ hi.toNat ≤ s.length then some ((s.drop 0).take (hi.toNat - 0)) else none
def subL {α : Type} (s : List α) (lo : Int) : Option (List α) := if 0 ≤ lo ∧ lo.toNat ≤ s.length then some ((s.drop lo.toNat).take (s.length - lo.toNat)) else none
theorem subI_some {α : Type} {s t : List α} {lo hi : Int} (h : subI s lo hi = some t) : (0 ≤ lo ∧ 0 ≤ hi ∧ hi.toNat ≤ s.length ∧ lo.toNat ≤ hi.toNat) ∧ (s.drop lo.toNat).take (hi.toNat - lo.toNat) = t := by
  unfold subI at h; split at h
  · rename_i hp; exact ⟨hp, Option.some.inj h⟩
  · cases h
theorem subH_some {α : Type} {s t : List α} {hi : Int} (h : subH s hi = some t) : (0 ≤ hi ∧ hi.toNat ≤ s.length) ∧ (s.drop 0).take (hi.toNat - 0) = t := by
  unfold subH at h; split at h
  · rename_i hp; exact ⟨hp, Option.some.inj h⟩
  · cases h
theorem subL_some {α : Type} {s t : List α} {lo : Int} (h : subL s lo = some t) : (0 ≤ lo ∧ lo.toNat ≤ s.length) ∧ (s.drop lo.toNat).take (s.length - lo.toNat) = t := by
  unfold subL at h; split at h
  · rename_i hp; exact ⟨hp, Option.some.inj h⟩
  · cases h
end
theorem mapdrop {α β : Type} {f : α → β} {l : List α} {n : Nat} : (l.map f).drop n = (l.drop n).map f := List.map_drop.symm
theorem maptake {α β : Type} {f : α → β} {l : List α} {n : Nat} : (l.map f).take n = (l.take n).map f := List.map_take.symm
theorem bytesOf_nil : bytesOf [] = [] := rfl
theorem bytesOf_cons {a : Int} {l : List Int} : bytesOf (a :: l) = UInt8.ofNat a.toNat :: bytesOf l := rfl
theorem all_cells {α : Type} {f : α → D} {k : Nat} {l : List α} (h : ∀ x, (f x).cells.length = k) : ((l.map f).all fun x => decide (k = x.cells.length)) = true := by
  simp [h]
def unA : UnOp → D → Option (D × Eff)
  | .not, .bool b => some (.bool !b, [])
  | .neg, .int k n => some (.int k (k.wrap (0 - n)), [])
  | _, _ => none
theorem aop_un {P : Program} {op : UnOp} {t : TypeId} {x : Operand} {nid : Nat} {S : AS} : aop P (.unOp op t x) nid S = unA op (S.val x) := by
  simp only [aop]
  cases op <;> cases S.val x <;> rfl
/-- The equations of the abstract operations, in one. -/
theorem vd : type_of% (And.intro @effOk.eq_1 <| And.intro @effOk.eq_2 <| And.intro @effOk.eq_3 <| And.intro @awant.eq_1 <| And.intro @gdst.eq_1 <| And.intro @acallee.eq_1 <| And.intro @acallee.eq_2 <| And.intro @aop.eq_1 <| And.intro @aop.eq_2 <| And.intro @aop.eq_3 <| And.intro @aop.eq_4 <| And.intro @aop.eq_5 <| And.intro @aop.eq_6 <| And.intro @aop.eq_7 <| And.intro @aop.eq_8 <| And.intro @aop.eq_9 <| And.intro @aop.eq_10 <| And.intro @aop.eq_11 <| And.intro @aop_un <| And.intro @unA.eq_1 <| And.intro @unA.eq_2 <| And.intro @aop.eq_15 <| And.intro @aop.eq_16 <| And.intro @aop.eq_17 <| And.intro @aop.eq_18 <| And.intro @aop.eq_19 <| And.intro @aop.eq_20 <| And.intro @aop.eq_21 <| And.intro @aop.eq_22 <| And.intro @aop.eq_23 <| And.intro @abuiltin.eq_1 <| And.intro @AS.val.eq_1 <| And.intro @AS.val.eq_2 <| And.intro @AS.val.eq_3 <| And.intro @AS.val.eq_4 <| And.intro @cD.eq_1 <| And.intro @cD.eq_2 <| And.intro @cD1.eq_1 <| And.intro @cD1.eq_2 <| And.intro @cD1.eq_3 <| And.intro @cD1.eq_4 <| And.intro @cD1.eq_5 <| And.intro @cD1.eq_6 <| And.intro @cD1.eq_7 <| And.intro @S0.eq_1 <| And.intro @argL.eq_1 <| And.intro @argL.eq_2 <| And.intro @look.eq_1 <| And.intro @look.eq_2 <| And.intro @appEff.eq_1 <| And.intro @appEff.eq_2 <| And.intro @loadD.eq_1 <| And.intro @putD.eq_1 <| And.intro @fillD.eq_1 <| And.intro @fillD.eq_2 <| And.intro @placeT.eq_1 <| And.intro @intOp.eq_1 <| And.intro @intOp.eq_2 <| And.intro @intOp.eq_3 <| And.intro @intOp.eq_4 <| And.intro @intOp.eq_5 <| And.intro @intOp.eq_6 <| And.intro @intOp.eq_7 <| And.intro @intOp.eq_8 <| And.intro @intOp.eq_9 <| And.intro @intOp.eq_10 <| And.intro @intOp.eq_11 <| And.intro @intOp.eq_12 <| And.intro @strOp.eq_1 <| And.intro @strOp.eq_2 <| And.intro @strOp.eq_3 <| And.intro @strOp.eq_4 <| And.intro @strOp.eq_5 <| And.intro @strOp.eq_6 <| And.intro @strOp.eq_7 <| And.intro @strOp.eq_8 <| And.intro @eqK.eq_1 <| And.intro @eqK.eq_2 <| And.intro @eqK.eq_3 <| And.intro @eqK.eq_4 <| And.intro @eqK.eq_5 <| And.intro @eqR.eq_1 <| And.intro @eqR.eq_2 <| And.intro @eqR.eq_3 <| And.intro @eqR.eq_4 <| And.intro @elemsD.eq_1 <| And.intro @elemsD.eq_2 <| And.intro @elemsD.eq_3 <| And.intro @elemsD.eq_4 <| And.intro @bytesD_map <| And.intro @bytesD_snoc <| And.intro @bytesD_snoc2 <| And.intro @bytesD_app <| And.intro @bytesD.eq_1 <| And.intro @bytesD.eq_2 <| And.intro @isConst.eq_1 <| And.intro @loD.eq_1 <| And.intro @loD.eq_2 <| And.intro @loD.eq_3 <| And.intro @hiD.eq_1 <| And.intro @hiD.eq_2 <| And.intro @hiD.eq_3 <| And.intro @pur1.eq_1 <| And.intro @pur1.eq_2 <| And.intro @pur1.eq_3 <| And.intro @pur1.eq_4 <| And.intro @pur1.eq_5 <| And.intro @pur1.eq_6 <| And.intro @pur1.eq_7 <| And.intro @pur1.eq_8 <| And.intro @pur1.eq_9 <| And.intro @pur1.eq_10 <| And.intro @purL.eq_1 <| And.intro @purL.eq_2 <| And.intro @purD.eq_1 <| And.intro @purD.eq_2 <| And.intro @purDs.eq_1 <| And.intro @purDs.eq_2 <| And.intro @D.cells.eq_1 <| And.intro @D.cells.eq_2 <| And.intro @D.okS.eq_1 <| And.intro @D.okS.eq_2 <| And.intro @D.ok1.eq_1 <| And.intro @D.ok1.eq_2 <| And.intro @D.ok1.eq_3 <| And.intro @D.ok1.eq_4 <| And.intro @D.ok1.eq_5 <| And.intro @slOk.eq_1 <| And.intro @resD.eq_1 <| And.intro @resD.eq_2 <| And.intro @resD.eq_3 <| And.intro @mkRes.eq_1 <| And.intro @mkRes.eq_2 <| And.intro @Go.maxLen.eq_1 <| And.intro @inR.eq_1 <| And.intro @kLo.eq_1 <| And.intro @kLo.eq_2 <| And.intro @kLo.eq_3 <| And.intro @kLo.eq_4 <| And.intro @kLo.eq_5 <| And.intro @kHi.eq_1 <| And.intro @kHi.eq_2 <| And.intro @kHi.eq_3 <| And.intro @kHi.eq_4 <| And.intro @kHi.eq_5 <| And.intro @kHi.eq_6 <| And.intro @kHi.eq_7 <| @kHi.eq_8) := And.intro @effOk.eq_1 <| And.intro @effOk.eq_2 <| And.intro @effOk.eq_3 <| And.intro @awant.eq_1 <| And.intro @gdst.eq_1 <| And.intro @acallee.eq_1 <| And.intro @acallee.eq_2 <| And.intro @aop.eq_1 <| And.intro @aop.eq_2 <| And.intro @aop.eq_3 <| And.intro @aop.eq_4 <| And.intro @aop.eq_5 <| And.intro @aop.eq_6 <| And.intro @aop.eq_7 <| And.intro @aop.eq_8 <| And.intro @aop.eq_9 <| And.intro @aop.eq_10 <| And.intro @aop.eq_11 <| And.intro @aop_un <| And.intro @unA.eq_1 <| And.intro @unA.eq_2 <| And.intro @aop.eq_15 <| And.intro @aop.eq_16 <| And.intro @aop.eq_17 <| And.intro @aop.eq_18 <| And.intro @aop.eq_19 <| And.intro @aop.eq_20 <| And.intro @aop.eq_21 <| And.intro @aop.eq_22 <| And.intro @aop.eq_23 <| And.intro @abuiltin.eq_1 <| And.intro @AS.val.eq_1 <| And.intro @AS.val.eq_2 <| And.intro @AS.val.eq_3 <| And.intro @AS.val.eq_4 <| And.intro @cD.eq_1 <| And.intro @cD.eq_2 <| And.intro @cD1.eq_1 <| And.intro @cD1.eq_2 <| And.intro @cD1.eq_3 <| And.intro @cD1.eq_4 <| And.intro @cD1.eq_5 <| And.intro @cD1.eq_6 <| And.intro @cD1.eq_7 <| And.intro @S0.eq_1 <| And.intro @argL.eq_1 <| And.intro @argL.eq_2 <| And.intro @look.eq_1 <| And.intro @look.eq_2 <| And.intro @appEff.eq_1 <| And.intro @appEff.eq_2 <| And.intro @loadD.eq_1 <| And.intro @putD.eq_1 <| And.intro @fillD.eq_1 <| And.intro @fillD.eq_2 <| And.intro @placeT.eq_1 <| And.intro @intOp.eq_1 <| And.intro @intOp.eq_2 <| And.intro @intOp.eq_3 <| And.intro @intOp.eq_4 <| And.intro @intOp.eq_5 <| And.intro @intOp.eq_6 <| And.intro @intOp.eq_7 <| And.intro @intOp.eq_8 <| And.intro @intOp.eq_9 <| And.intro @intOp.eq_10 <| And.intro @intOp.eq_11 <| And.intro @intOp.eq_12 <| And.intro @strOp.eq_1 <| And.intro @strOp.eq_2 <| And.intro @strOp.eq_3 <| And.intro @strOp.eq_4 <| And.intro @strOp.eq_5 <| And.intro @strOp.eq_6 <| And.intro @strOp.eq_7 <| And.intro @strOp.eq_8 <| And.intro @eqK.eq_1 <| And.intro @eqK.eq_2 <| And.intro @eqK.eq_3 <| And.intro @eqK.eq_4 <| And.intro @eqK.eq_5 <| And.intro @eqR.eq_1 <| And.intro @eqR.eq_2 <| And.intro @eqR.eq_3 <| And.intro @eqR.eq_4 <| And.intro @elemsD.eq_1 <| And.intro @elemsD.eq_2 <| And.intro @elemsD.eq_3 <| And.intro @elemsD.eq_4 <| And.intro @bytesD_map <| And.intro @bytesD_snoc <| And.intro @bytesD_snoc2 <| And.intro @bytesD_app <| And.intro @bytesD.eq_1 <| And.intro @bytesD.eq_2 <| And.intro @isConst.eq_1 <| And.intro @loD.eq_1 <| And.intro @loD.eq_2 <| And.intro @loD.eq_3 <| And.intro @hiD.eq_1 <| And.intro @hiD.eq_2 <| And.intro @hiD.eq_3 <| And.intro @pur1.eq_1 <| And.intro @pur1.eq_2 <| And.intro @pur1.eq_3 <| And.intro @pur1.eq_4 <| And.intro @pur1.eq_5 <| And.intro @pur1.eq_6 <| And.intro @pur1.eq_7 <| And.intro @pur1.eq_8 <| And.intro @pur1.eq_9 <| And.intro @pur1.eq_10 <| And.intro @purL.eq_1 <| And.intro @purL.eq_2 <| And.intro @purD.eq_1 <| And.intro @purD.eq_2 <| And.intro @purDs.eq_1 <| And.intro @purDs.eq_2 <| And.intro @D.cells.eq_1 <| And.intro @D.cells.eq_2 <| And.intro @D.okS.eq_1 <| And.intro @D.okS.eq_2 <| And.intro @D.ok1.eq_1 <| And.intro @D.ok1.eq_2 <| And.intro @D.ok1.eq_3 <| And.intro @D.ok1.eq_4 <| And.intro @D.ok1.eq_5 <| And.intro @slOk.eq_1 <| And.intro @resD.eq_1 <| And.intro @resD.eq_2 <| And.intro @resD.eq_3 <| And.intro @mkRes.eq_1 <| And.intro @mkRes.eq_2 <| And.intro @Go.maxLen.eq_1 <| And.intro @inR.eq_1 <| And.intro @kLo.eq_1 <| And.intro @kLo.eq_2 <| And.intro @kLo.eq_3 <| And.intro @kLo.eq_4 <| And.intro @kLo.eq_5 <| And.intro @kHi.eq_1 <| And.intro @kHi.eq_2 <| And.intro @kHi.eq_3 <| And.intro @kHi.eq_4 <| And.intro @kHi.eq_5 <| And.intro @kHi.eq_6 <| And.intro @kHi.eq_7 <| @kHi.eq_8
theorem lookV_map {α β : Type} (f : α → β) (z : α) : ∀ (ks : List Int) (vs : List α) (n : Int), lookV ks (vs.map f) n (f z) = f (lookV ks vs n z)
  | [], vs, n => by cases vs <;> rfl
  | a :: ks, [], n => rfl
  | a :: ks, v :: vs, n => by
    simp only [List.map_cons, lookV]
    split
    · rfl
    · exact lookV_map f z ks vs n
theorem putV_map {α β : Type} (f : α → β) (y : α) : ∀ (ks : List Int) (vs : List α) (n : Int), putV ks (vs.map f) n (f y) = (putV ks vs n y).map f
  | [], vs, n => by cases vs <;> rfl
  | a :: ks, [], n => rfl
  | a :: ks, v :: vs, n => by
    simp only [List.map_cons, putV]
    split
    · rfl
    · simp only [List.map_cons, putV_map f y ks vs n]
theorem putV_nil {α β : Type} (f : α → β) (y : α) (n : Int) : putV ([] : List Int) ([] : List β) n (f y) = (putV [] ([] : List α) n y).map f := rfl
/-- The rules of the reading, in one. -/
theorem vv : type_of% (And.intro @bytesOf_nil <| And.intro @bytesOf_cons <| And.intro @all_cells <| And.intro @mapdrop <| And.intro @maptake <| And.intro @List.append_eq.{0} <| And.intro @List.length_append.{0} <| And.intro @eq_self.{1} <| And.intro @rgL_nil <| And.intro @rgL_cons <| And.intro @wR_t <| And.intro @wR_f <| And.intro @lR_s <| And.intro @lR_n <| And.intro @pR_s <| And.intro @sR_s <| And.intro @rgD_nil <| And.intro @rgD_cons <| And.intro @wD_t <| And.intro @wD_f <| And.intro @lD_s <| And.intro @lD_n <| And.intro @pD_s <| And.intro @sD_s <| And.intro @aret_eq <| And.intro @retK_some <| And.intro @retK2_s <| And.intro @AS.step_mk <| And.intro @upd_app <| And.intro @heapL_app <| And.intro @envL_app <| And.intro @atI_map <| And.intro @atI_cons0 <| And.intro @List.length_map.{0, 0} <| And.intro @Nat.zero_add <| And.intro @Nat.add_zero <| And.intro @Nat.zero_le <| And.intro @List.length_cons.{0} <| And.intro @List.length_nil.{0} <| And.intro @List.map_cons.{0, 0} <| And.intro @List.map_nil.{0, 0} <| And.intro @List.drop_succ_cons.{0} <| And.intro @List.drop_zero.{0} <| And.intro @List.take_succ_cons.{0} <| And.intro @List.take_zero.{0} <| And.intro @List.head?_cons.{0} <| And.intro @List.cons_append.{0} <| And.intro @List.nil_append.{0} <| And.intro @List.append_nil.{0} <| And.intro @List.getElem?_cons_zero.{0} <| And.intro @List.getElem?_cons_succ.{0} <| And.intro @List.getElem?_toArray.{0} <| And.intro @Option.map_some.{0, 0} <| And.intro @Option.map_none.{0, 0} <| And.intro @Option.isSome_some.{0} <| And.intro @Option.any_some.{0} <| And.intro @Bool.and_true <| And.intro @Bool.true_and <| And.intro @Bool.and_self <| And.intro @Bool.not_true <| And.intro @Bool.not_false <| And.intro @beq_self_eq_true.{0} <| And.intro @decide_true <| And.intro @decide_false <| And.intro @Bool.false_eq_true <| And.intro @Bool.true_eq_false <| And.intro @decide_eq_true_eq <| And.intro @and_true <| And.intro @true_and <| And.intro @and_self <| And.intro @List.mem_cons.{0} <| And.intro @List.not_mem_nil.{0} <| And.intro @or_false <| And.intro @forall_eq.{1} <| And.intro @forall_eq_or_imp.{1} <| And.intro @List.all_cons.{0} <| And.intro @List.all_nil.{0} <| And.intro @ite_true.{1} <| And.intro @ite_false.{1} <| And.intro @Nat.add_one_sub_one <| And.intro @if_true.{1} <| And.intro @if_false.{1} <| And.intro @Option.some.injEq.{0} <| And.intro @Prod.mk.injEq.{0, 0} <| And.intro @not_true_eq_false <| And.intro @not_false_eq_true <| And.intro @Nat.le_refl <| And.intro @or_self <| And.intro @Bool.or_false <| And.intro @Bool.or_true <| And.intro @Bool.not_not <| And.intro @Int.cast_ofNat_Int <| And.intro @Int.natCast_zero <| And.intro @Int.natCast_one <| @Nat.mul_one) := And.intro @bytesOf_nil <| And.intro @bytesOf_cons <| And.intro @all_cells <| And.intro @mapdrop <| And.intro @maptake <| And.intro @List.append_eq.{0} <| And.intro @List.length_append.{0} <| And.intro @eq_self.{1} <| And.intro @rgL_nil <| And.intro @rgL_cons <| And.intro @wR_t <| And.intro @wR_f <| And.intro @lR_s <| And.intro @lR_n <| And.intro @pR_s <| And.intro @sR_s <| And.intro @rgD_nil <| And.intro @rgD_cons <| And.intro @wD_t <| And.intro @wD_f <| And.intro @lD_s <| And.intro @lD_n <| And.intro @pD_s <| And.intro @sD_s <| And.intro @aret_eq <| And.intro @retK_some <| And.intro @retK2_s <| And.intro @AS.step_mk <| And.intro @upd_app <| And.intro @heapL_app <| And.intro @envL_app <| And.intro @atI_map <| And.intro @atI_cons0 <| And.intro @List.length_map.{0, 0} <| And.intro @Nat.zero_add <| And.intro @Nat.add_zero <| And.intro @Nat.zero_le <| And.intro @List.length_cons.{0} <| And.intro @List.length_nil.{0} <| And.intro @List.map_cons.{0, 0} <| And.intro @List.map_nil.{0, 0} <| And.intro @List.drop_succ_cons.{0} <| And.intro @List.drop_zero.{0} <| And.intro @List.take_succ_cons.{0} <| And.intro @List.take_zero.{0} <| And.intro @List.head?_cons.{0} <| And.intro @List.cons_append.{0} <| And.intro @List.nil_append.{0} <| And.intro @List.append_nil.{0} <| And.intro @List.getElem?_cons_zero.{0} <| And.intro @List.getElem?_cons_succ.{0} <| And.intro @List.getElem?_toArray.{0} <| And.intro @Option.map_some.{0, 0} <| And.intro @Option.map_none.{0, 0} <| And.intro @Option.isSome_some.{0} <| And.intro @Option.any_some.{0} <| And.intro @Bool.and_true <| And.intro @Bool.true_and <| And.intro @Bool.and_self <| And.intro @Bool.not_true <| And.intro @Bool.not_false <| And.intro @beq_self_eq_true.{0} <| And.intro @decide_true <| And.intro @decide_false <| And.intro @Bool.false_eq_true <| And.intro @Bool.true_eq_false <| And.intro @decide_eq_true_eq <| And.intro @and_true <| And.intro @true_and <| And.intro @and_self <| And.intro @List.mem_cons.{0} <| And.intro @List.not_mem_nil.{0} <| And.intro @or_false <| And.intro @forall_eq.{1} <| And.intro @forall_eq_or_imp.{1} <| And.intro @List.all_cons.{0} <| And.intro @List.all_nil.{0} <| And.intro @ite_true.{1} <| And.intro @ite_false.{1} <| And.intro @Nat.add_one_sub_one <| And.intro @if_true.{1} <| And.intro @if_false.{1} <| And.intro @Option.some.injEq.{0} <| And.intro @Prod.mk.injEq.{0, 0} <| And.intro @not_true_eq_false <| And.intro @not_false_eq_true <| And.intro @Nat.le_refl <| And.intro @or_self <| And.intro @Bool.or_false <| And.intro @Bool.or_true <| And.intro @Bool.not_not <| And.intro @Int.cast_ofNat_Int <| And.intro @Int.natCast_zero <| And.intro @Int.natCast_one <| @Nat.mul_one
theorem vz : type_of% (And.intro rngs <| And.intro vd vv) := And.intro rngs <| And.intro vd vv
/-- A slice of zeros. -/
def mkI {α : Type} (by_ n : Int) (z : α) : Option (List α) := if 0 ≤ n ∧ n ≤ 9223372036854775807 ∧ n * by_ ≤ 140737488355328 then some (replL n.toNat z) else none
theorem replL_map {α β : Type} {f : α → β} {n : Nat} {x : α} : (replL n x).map f = replL n (f x) := List.map_replicate
theorem replL_length {α : Type} {n : Nat} {x : α} : (replL n x).length = n := List.length_replicate
theorem mkI_some {α : Type} {by_ n : Int} {z : α} {m : List α} (h : mkI by_ n z = some m) : 0 ≤ n ∧ n ≤ 9223372036854775807 ∧ n * by_ ≤ 140737488355328 ∧ n.toNat = m.length ∧ ∀ {β : Type} (f : α → β), replL m.length (f z) = m.map f := by
  obtain ⟨⟨h1, h2, h3⟩, h⟩ := ite_on h
  obtain rfl := Option.some.inj h
  exact ⟨h1, h2, h3, replL_length.symm, fun f => by rw [replL_map, replL_length]⟩
/-- An element put in. -/
def setI {α : Type} (l : List α) (n : Int) (x : α) : Option (List α) := if 0 ≤ n ∧ n < (l.length : Int) then some (l.set n.toNat x) else none
theorem setI_some {α : Type} {l : List α} {n : Int} {x : α} {m : List α} (h : setI l n x = some m) : 0 ≤ n ∧ n < (l.length : Int) ∧ l.length = m.length ∧ ∀ {β : Type} (f : α → β), (l.map f).set n.toNat (f x) = m.map f := by
  obtain ⟨⟨h1, h2⟩, h⟩ := ite_on h
  obtain rfl := Option.some.inj h
  exact ⟨h1, h2, by simp, fun f => by simp [List.map_set]⟩
/-- The equations of weakening, in one. -/
theorem kv : type_of% (And.intro @bytesOf_nil <| And.intro @bytesOf_cons <| And.intro @upd_app <| And.intro @argL.eq_1 <| And.intro @argL.eq_2 <| And.intro @envL_app <| And.intro @heapL_app <| And.intro @look.eq_1 <| And.intro @look.eq_2 <| And.intro @appEff.eq_1 <| And.intro @appEff.eq_2 <| And.intro @wkEnv.eq_1 <| And.intro @wkEnv.eq_2 <| And.intro @wkHeap.eq_1 <| And.intro @wkHeap.eq_2 <| And.intro @D.ren.eq_1 <| And.intro @D.ren.eq_2 <| And.intro @D.ren.eq_3 <| And.intro @D.ren.eq_4 <| And.intro @D.ren1.eq_1 <| And.intro @D.ren1.eq_2 <| And.intro @D.ren1.eq_3 <| And.intro @D.ren1.eq_4 <| And.intro @D.idOk.eq_1 <| And.intro @D.idOk.eq_2 <| And.intro @D.idOk.eq_3 <| And.intro @D.idOk.eq_4 <| And.intro @D.idOk.eq_5 <| And.intro @D.idOk1.eq_1 <| And.intro @D.idOk1.eq_2 <| And.intro @D.idOk1.eq_3 <| And.intro @D.idOk1.eq_4 <| And.intro @D.idOk1.eq_5 <| And.intro @D.idOk1.eq_6 <| And.intro @D.idOk1.eq_7 <| And.intro @D.idOk1.eq_8 <| And.intro @Blk.ren.eq_1 <| And.intro @Blk.ren.eq_2 <| And.intro @Blk.idOk.eq_1 @Blk.idOk.eq_2) := And.intro @bytesOf_nil <| And.intro @bytesOf_cons <| And.intro @upd_app <| And.intro @argL.eq_1 <| And.intro @argL.eq_2 <| And.intro @envL_app <| And.intro @heapL_app <| And.intro @look.eq_1 <| And.intro @look.eq_2 <| And.intro @appEff.eq_1 <| And.intro @appEff.eq_2 <| And.intro @wkEnv.eq_1 <| And.intro @wkEnv.eq_2 <| And.intro @wkHeap.eq_1 <| And.intro @wkHeap.eq_2 <| And.intro @D.ren.eq_1 <| And.intro @D.ren.eq_2 <| And.intro @D.ren.eq_3 <| And.intro @D.ren.eq_4 <| And.intro @D.ren1.eq_1 <| And.intro @D.ren1.eq_2 <| And.intro @D.ren1.eq_3 <| And.intro @D.ren1.eq_4 <| And.intro @D.idOk.eq_1 <| And.intro @D.idOk.eq_2 <| And.intro @D.idOk.eq_3 <| And.intro @D.idOk.eq_4 <| And.intro @D.idOk.eq_5 <| And.intro @D.idOk1.eq_1 <| And.intro @D.idOk1.eq_2 <| And.intro @D.idOk1.eq_3 <| And.intro @D.idOk1.eq_4 <| And.intro @D.idOk1.eq_5 <| And.intro @D.idOk1.eq_6 <| And.intro @D.idOk1.eq_7 <| And.intro @D.idOk1.eq_8 <| And.intro @Blk.ren.eq_1 <| And.intro @Blk.ren.eq_2 <| And.intro @Blk.idOk.eq_1 @Blk.idOk.eq_2
theorem vm : type_of% (And.intro @aop.eq_24 <| And.intro @aop.eq_25 <| And.intro @aop.eq_26 <| And.intro @aop.eq_27 <| And.intro @aop.eq_28 <| And.intro @aop.eq_29 <| And.intro @aop.eq_30 <| And.intro @selfD.eq_1 <| And.intro @selfD.eq_2 <| And.intro @selfD.eq_3 <| And.intro @capOk.eq_1 <| And.intro @capOk.eq_2 <| And.intro @capOk.eq_3 <| And.intro @capOk.eq_4 <| And.intro @pur1.eq_11 <| And.intro @pur1.eq_12 <| And.intro @mapD.eq_1 <| And.intro @mapD.eq_2 <| And.intro @lookV_map <| And.intro @putV_map <| And.intro @putV_nil <| And.intro @pD_n <| And.intro @eX_s <| And.intro @eXD_s <| And.intro @purX.eq_1 <| And.intro @purX.eq_2 <| And.intro @purXs.eq_1 <| And.intro @purXs.eq_2 @pR_n) := And.intro @aop.eq_24 <| And.intro @aop.eq_25 <| And.intro @aop.eq_26 <| And.intro @aop.eq_27 <| And.intro @aop.eq_28 <| And.intro @aop.eq_29 <| And.intro @aop.eq_30 <| And.intro @selfD.eq_1 <| And.intro @selfD.eq_2 <| And.intro @selfD.eq_3 <| And.intro @capOk.eq_1 <| And.intro @capOk.eq_2 <| And.intro @capOk.eq_3 <| And.intro @capOk.eq_4 <| And.intro @pur1.eq_11 <| And.intro @pur1.eq_12 <| And.intro @mapD.eq_1 <| And.intro @mapD.eq_2 <| And.intro @lookV_map <| And.intro @putV_map <| And.intro @putV_nil <| And.intro @pD_n <| And.intro @eX_s <| And.intro @eXD_s <| And.intro @purX.eq_1 <| And.intro @purX.eq_2 <| And.intro @purXs.eq_1 <| And.intro @purXs.eq_2 @pR_n
theorem km : type_of% (And.intro @D.ren1.eq_5 <| And.intro @D.ren1.eq_6 <| And.intro @D.idOk1.eq_9 <| And.intro @Blk.ren.eq_3 <| And.intro @Blk.idOk.eq_3 @D.idOk1.eq_10) := And.intro @D.ren1.eq_5 <| And.intro @D.ren1.eq_6 <| And.intro @D.idOk1.eq_9 <| And.intro @Blk.ren.eq_3 <| And.intro @Blk.idOk.eq_3 @D.idOk1.eq_10
/-- A map handed on. -/
structure MI (α : Type) where
  ks : List Int
  vs : List α
attribute [irreducible] runB extB rgL rgD
end Go.Proofs.YtipdmcpmedmicaaDoor
