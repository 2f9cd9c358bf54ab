/- Texts of one proof, put together (FwPr, FwNl, FwAny, FwSh). No condition but those that each theorem states. -/
import Derived.Test.YtnjjdbljoligdaaGreatDoorZ2
set_option linter.unusedSimpArgs false
set_option linter.unusedVariables false
namespace Go.Proofs.YtnjjdbljoligdaaGreatDoor
open Go.RowKit
def rnR (is : List Nat) (j : Nat) : Option Nat := is[j]?
def lentR : Nat → List Blk → List (Nat × Blk)
  | _, [] => []
  | p, b :: r => (p, b) :: lentR (p + 1) r
theorem lentR_at : ∀ (bs : List Blk) (p id : Nat) (b : Blk), look (lentR p bs) id = some b → ∃ n : Nat, id = p + n ∧ bs[n]? = some b
  | [], _, _, _, h => by simp [lentR, look] at h
  | c :: bs, p, id, b, h => by
    simp only [lentR, look] at h
    split at h
    · rename_i e
      subst e
      injection h with h
      subst h
      exact ⟨0, rfl, rfl⟩
    · obtain ⟨n, h1, h2⟩ := lentR_at bs (p + 1) id b h
      exact ⟨n + 1, by omega, by simpa using h2⟩
def retV1 (x : Option (List D)) (H : Nat → Option Blk) (nid : Nat) (is : List Nat) (r : D) (eff : Eff) : Prop := match x with
  | some [.own j m] => match H j with
    | some (.vec e k ys false) => r = .own nid m ∧ eff = is.map (fun i => (i, none)) ++ [(nid, some (.vec e k ys false))]
    | _ => False
  | _ => False
def retV (P : Program) (fn : Func) (nid : Nat) (is : List Nat) (r : D) (eff : Eff) : BPost := fun e S => match e with
  | .exit _ => False
  | .goto _ => False
  | _ => retV1 (resD P S fn.results.toList) S.heap nid is r eff
section
variable {P : Program} {I : World → Prop}
theorem retV_n {fn : Func} {nid : Nat} {is : List Nat} {r : D} {eff : Eff} {S : AS} : retV P fn nid is r eff .normal S = retV1 (resD P S fn.results.toList) S.heap nid is r eff := rfl
theorem retV_r {fn : Func} {nid : Nat} {is : List Nat} {r : D} {eff : Eff} {S : AS} : retV P fn nid is r eff .ret S = retV1 (resD P S fn.results.toList) S.heap nid is r eff := rfl
def lentRs (H : Nat → Option Blk) : List Nat → List Blk → Prop
  | i :: is, b :: bs => (H i = some b ∧ ∃ e k xs, b = .vec e k xs false) ∧ lentRs H is bs
  | [], [] => True
  | _, _ => False
theorem lentRs_at {H : Nat → Option Blk} : ∀ {is : List Nat} {bs : List Blk}, lentRs H is bs → is.length = bs.length ∧ ∀ (n : Nat) (i : Nat) (b : Blk), is[n]? = some i → bs[n]? = some b → H i = some b ∧ ∃ e k xs, b = .vec e k xs false
  | [], [], _ => ⟨rfl, by simp⟩
  | i :: is, b :: bs, h => by
    obtain ⟨h1, h2⟩ := lentRs_at h.2
    refine ⟨by simp [h1], fun n j c hj hc => ?_⟩
    cases n with
    | zero => simp at hj hc; subst hj hc; exact h.1
    | succ n => exact h2 n j c (by simpa using hj) (by simpa using hc)
  | _ :: _, [], h => h.elim
  | [], _ :: _, h => h.elim
theorem CallOK.row (hstab : Stab I) {f : FuncId} {fn : Func} {c : Code} {is : List Nat} {bs : List Blk} {ds0 ds : List D} {H : Nat → Option Blk} {nid : Nat} {r : D} {eff : Eff}
    (hf : P.funcs[f]? = some fn) (hb : fn.body = some c) (hnm : fn.name ≠ "runtime.NumGoroutine") (hn : ds0.length ≤ fn.ntmps) (hok : codeOk fn.ntmps c = true)
    (hds : ds0.map (D.ren (rnR is)) = ds) (hdo : ds0.all (D.idOk (rnR is) is.length) = true)
    (hcs : lentRs H is bs) (hne : is.Nodup)
    (h : runB P I c ⟨argL ds0, heapL (lentR 0 bs), is.length, fn.ntmps⟩ [] (retV P fn nid is r eff)) : CallOK P I f ds H nid r eff := by
  refine ⟨by simp [enterable, hf, hb, hnm], fun i0 w C B args hI hb0 hM hH hF hbase hnid hal hrep => ?_⟩
  refine calls_of_wp hf hb ?_
  subst hds
  obtain ⟨hlen, hcs⟩ := lentRs_at hcs
  have lent : ∀ (n i : Nat), is[n]? = some i → ∃ b, bs[n]? = some b ∧ H i = some b ∧ ∃ e k xs, b = .vec e k xs false := by
    intro n i hi
    have hlt : n < bs.length := by rw [← hlen]; exact (List.getElem?_eq_some_iff.1 hi).1
    exact ⟨bs[n], List.getElem?_eq_getElem hlt, hcs n i bs[n] hi (List.getElem?_eq_getElem hlt)⟩
  let M' : Nat → Prop := fun k => (∃ (n i : Nat), is[n]? = some i ∧ blockOf (C.σ i) = some k) ∨ w.heap.size ≤ k
  let C0 : Cx := C.ren (rnR is) is.length
  let B' : Bx := ⟨M', fun p => C0.σ p⟩
  have hM'M : ∀ k, M' k → B.M k := by
    rintro k (⟨n, i, hi, hk⟩ | hk)
    · obtain ⟨b, _, h1, _⟩ := lent n i hi
      exact hH.own _ _ h1 k hk
    · exact hbase k hk
  let G : Gh := ⟨i0, w, C.F, B', fun k hk => hM k (hM'M k hk), hb0⟩
  have hrn : ∀ (n i : Nat), is[n]? = some i → rnR is n = some i := fun n i hi => hi
  have hσ0 : ∀ (n i : Nat), is[n]? = some i → C0.σ n = C.σ i := fun n i hi => by simp only [C0, Cx.ren, hrn n i hi]
  have hne' : ∀ (n n' i i' : Nat), is[n]? = some i → is[n']? = some i' → n ≠ n' → i ≠ i' := by
    intro n n' i i' hi hi' hnn he
    subst he
    have hlt : n < is.length := (List.getElem?_eq_some_iff.1 hi).1
    exact hnn ((List.getElem?_inj hlt hne).1 (hi.trans hi'.symm))
  have hget : ∀ id b, heapL (lentR 0 bs) id = some b → ∃ i : Nat, is[id]? = some i ∧ H i = some b ∧ ∃ e k xs, b = .vec e k xs false := by
    intro id b hb'
    obtain ⟨n, h1, h2⟩ := lentR_at bs 0 id b hb'
    rw [Nat.zero_add] at h1
    subst h1
    have hlt : id < is.length := by rw [hlen]; exact (List.getElem?_eq_some_iff.1 h2).1
    exact ⟨is[id], List.getElem?_eq_getElem hlt, hcs id is[id] b (List.getElem?_eq_getElem hlt) h2⟩
  have hheap0 : HOK C0 w B' (heapL (lentR 0 bs)) := by
    refine ⟨fun id b hb' => ?_, fun id b hb' g hg => ?_, fun id k cs hb' => ?_, fun id id' b b' hb' hb'' hne2 g hg hg' => ?_⟩
    · obtain ⟨i, h1, h2, e, k, xs, rfl⟩ := hget id b hb'
      obtain ⟨k1, k2⟩ := hH.rep _ _ h2
      refine ⟨⟨(List.getElem?_eq_some_iff.1 h1).1, by rw [hrn id i h1]; exact k1⟩, ?_⟩
      simp only [BRep] at k2 ⊢
      rw [hσ0 id i h1]
      exact k2
    · obtain ⟨i, h1, h2, _⟩ := hget id b hb'
      rw [hσ0 id i h1] at hg
      exact .inl ⟨id, i, h1, hg⟩
    · obtain ⟨i, h1, h2, e, k, xs, h3⟩ := hget id _ hb'
      cases h3
    · obtain ⟨i, h1, h2, _⟩ := hget id b hb'
      obtain ⟨i', h1', h2', _⟩ := hget id' b' hb''
      rw [hσ0 id i h1] at hg
      rw [hσ0 id' i' h1'] at hg'
      exact hH.apart _ _ _ _ h2 h2' (hne' id id' i i' h1 h1' hne2) g hg hg'
  have hR : Rel I G (fun id => id < is.length) ⟨argL ds0, heapL (lentR 0 bs), is.length, fn.ntmps⟩ C0 { tmps := args.toArray ++ Array.replicate (fn.ntmps - args.toArray.size) Go.undef, defers := [] } w := by
    refine ⟨⟨fun t => ?_, hheap0, hF, fun g hg => .inr hg⟩, hI, BelM.refl _ _, fun b o h => .inl h, ⟨fun _ _ h => h, fun _ _ _ => rfl, fun _ h => h.elim, fun _ h => h.elim⟩, rfl, ?_, fun id h => h.1⟩
    · simp only [argL_getD]
      by_cases ht : t < ds0.length
      · rw [show ds0.getD t .any = ds0[t] by simp [List.getD, ht]]
        have ha : t < args.length := by simpa [hal] using ht
        have : (args.toArray ++ Array.replicate (fn.ntmps - args.toArray.size) Go.undef).getD t Go.undef = args[t] := by
          simp [Array.getD_eq_getD_getElem?, Array.getElem?_append, ha]
        rw [this]
        have := hrep t _ (ds0[t].ren (rnR is)) (List.getElem?_eq_getElem ha) (by simp [ht])
        exact this.ren (List.all_eq_true.1 hdo _ (List.getElem_mem ht))
      · rw [show ds0.getD t .any = .any by simp [List.getD, ht]]
        exact .any _
    · simp only [List.length_map] at hal
      simp; omega
  refine wp_mono (bwp_sound hstab c _ _ G _ _ w hok (by unfold runB goB at h; exact h) hR) ?_
  rintro e a' w' ⟨S', C', hnt, hR', hq⟩
  have fin : retV1 (resD P S' fn.results.toList) S'.heap nid is r eff → a'.defers = [] ∧ ∃ v, (results fn a'.tmps).run P w' = .ok v w' ∧ ∃ v' C2, Ending.returned v = .returned v' ∧ BelM B.M w w' ∧ Ext C w C2 w' ∧ Rep w' C2 v' r ∧ HOK C2 w' B (appEff H eff) ∧ FB C2 w' ∧ (∀ id, C2.live id → C.live id ∨ id = nid) ∧ ∀ b o, C2.F b o → C.F b o ∨ B.M b := by
    intro hp
    refine ⟨hR'.defers, ?_⟩
    cases h1 : resD P S' fn.results.toList with
    | none => rw [h1] at hp; exact hp.elim
    | some rs =>
    rw [h1] at hp
    obtain ⟨vs, hr, hl, hv⟩ := resD_run (P := P) (G := G) hR'.ok _ _ h1
    have hrun : (results fn a'.tmps).run P w' = .ok (if h : vs.toArray.size = 1 then vs.toArray[0] else .tuple vs.toArray) w' := by
      rw [results_eq, Array.mapM_eq_mapM_toList]
      simp only [Sem.run_bind, Sem.run_map, hr]
      rfl
    refine ⟨_, hrun, ?_⟩
    unfold retV1 at hp
    split at hp
    rotate_left
    · exact hp.elim
    rename_i j m hrs
    injection hrs with hrs
    subst hrs
    split at hp
    rotate_left
    · exact hp.elim
    rename_i ve vk ys hj
    obtain ⟨rfl, rfl⟩ := hp
    obtain ⟨v, rfl⟩ : ∃ v, vs = [v] := by
      match vs, hl with
      | [v], _ => exact ⟨v, rfl⟩
    have hv0 : Rep w' C' v (.own j m) := hv 0 v _ rfl rfl
    obtain ⟨hjl, hjb⟩ := hR'.ok.heap.rep j _ hj
    let C2 : Cx := ⟨C'.F, fun id => if id = nid then C'.σ j else C.σ id, fun id => C.live id ∨ id = nid⟩
    have hσ2 : ∀ id, C.live id → C2.σ id = C.σ id := fun id hid => by
      have : id ≠ nid := fun e => hnid (e ▸ hid)
      simp only [C2, if_neg this]
    have hσn : C2.σ nid = C'.σ j := by simp only [C2, if_true]
    have he : Ext C w C2 w' := ⟨fun b o h => hR'.ext.F _ _ h, fun b o h => hR'.ext.blk b o h, fun _ h => .inl h, hσ2⟩
    have hnoid : H nid = none := by
      cases hn2 : H nid with
      | none => rfl
      | some b => exact absurd (hH.rep _ _ hn2).1 hnid
    -- what each block is behind the call
    have hcase : ∀ id b, appEff H (is.map (fun i => (i, none)) ++ [(nid, some (.vec ve vk ys false))]) id = some b → (id ≠ nid ∧ H id = some b ∧ ∀ (n i : Nat), is[n]? = some i → i ≠ id) ∨ (id = nid ∧ b = .vec ve vk ys false) := by
      intro id b hb'
      rcases appEff_cases _ _ _ _ hb' with ⟨h1, h2⟩ | h1
      · refine .inl ⟨fun e => ?_, h2, fun n i hi he' => ?_⟩
        · subst e; rw [hnoid] at h2; cases h2
        · exact h1 (i, none) (by simp only [List.mem_append, List.mem_map]; exact .inl ⟨i, List.mem_of_getElem? hi, rfl⟩) he'
      · simp only [List.mem_append, List.mem_map, Prod.mk.injEq, reduceCtorEq, and_false, exists_false, List.mem_singleton, Option.some.injEq, false_or] at h1
        exact .inr h1
    have hnewblk : ∀ g, blockOf (C'.σ j) = some g → M' g ∧ ∀ id b, H id = some b → (∀ (n i : Nat), is[n]? = some i → i ≠ id) → blockOf (C.σ id) ≠ some g := by
      intro g hg
      have hMg : M' g := hR'.ok.heap.own j _ hj g hg
      refine ⟨hMg, fun id b hid hni hgk => ?_⟩
      rcases hMg with ⟨n, i, hi, hik⟩ | hge
      · obtain ⟨b', _, h3, _⟩ := lent n i hi
        exact hH.apart _ _ _ _ h3 hid (hni n i hi) g hik hgk
      · have := ((hH.rep id b hid).2.lt g hgk).2; omega
    refine ⟨v, C2, by simp, hR'.below.mono (fun k' _ hk' => hM'M k' hk'), he, ?_, ?_, hR'.ok.fb, fun id hid => hid, fun b o hbo => ?_⟩
    · cases hv0 with
      | own _ _ cc A hl' hm' hs => exact .own nid m cc A (.inr rfl) hm' (by rw [hσn]; exact hs)
    · refine ⟨fun id b hb' => ?_, fun id b hb' g hg => ?_, fun id kk cs hb' => ?_, fun id id' b b' hb' hb'' hne2 g hg hg' => ?_⟩
      · rcases hcase id b hb' with ⟨h0, h1, hni⟩ | ⟨rfl, rfl⟩
        · obtain ⟨k1, k2⟩ := hH.rep id b h1
          refine ⟨.inl k1, k2.keep k1 he (fun g hg => ?_) (fun g o hg hgo => ?_)⟩
          · refine hR'.below.block g (k2.lt g hg).2 ?_
            rintro (⟨n, i, hi, hik⟩ | hge)
            · obtain ⟨b', _, h3, _⟩ := lent n i hi
              exact hH.apart _ _ _ _ h3 h1 (hni n i hi) g hik hg
            · have := (k2.lt g hg).2; omega
          · rcases hR'.new g o hgo with h6 | h6
            · exact h6
            · rcases h6 with ⟨n, i, hi, hik⟩ | hge
              · obtain ⟨b', _, h3, _⟩ := lent n i hi
                exact absurd hg (hH.apart _ _ _ _ h3 h1 (hni n i hi) g hik)
              · have := (k2.lt g hg).2; omega
        · refine ⟨.inr rfl, ?_⟩
          simp only [BRep] at hjb ⊢
          rw [hσn]
          exact hjb
      · rcases hcase id b hb' with ⟨h0, h1, hni⟩ | ⟨rfl, rfl⟩
        · rw [hσ2 id (hH.rep _ _ h1).1] at hg
          exact hH.own id b h1 g hg
        · rw [hσn] at hg
          exact hM'M _ (hnewblk g hg).1
      · rcases hcase id _ hb' with ⟨h0, h1, hni⟩ | ⟨rfl, h3⟩
        · rw [hσ2 id (hH.rep _ _ h1).1]
          exact hH.pin id kk cs h1
        · cases h3
      · rcases hcase id b hb' with ⟨h0, h1, hni⟩ | ⟨rfl, rfl⟩
        · rw [hσ2 id (hH.rep _ _ h1).1] at hg
          rcases hcase id' b' hb'' with ⟨h0', h1', hni'⟩ | ⟨rfl, rfl⟩
          · rw [hσ2 id' (hH.rep _ _ h1').1] at hg'
            exact hH.apart id id' b b' h1 h1' hne2 g hg hg'
          · rw [hσn] at hg'
            exact (hnewblk g hg').2 id b h1 hni hg
        · rcases hcase id' b' hb'' with ⟨h0', h1', hni'⟩ | ⟨rfl, rfl⟩
          · rw [hσ2 id' (hH.rep _ _ h1').1] at hg'
            rw [hσn] at hg
            exact (hnewblk g hg).2 id' b' h1' hni' hg'
          · exact hne2 rfl
    · rcases hR'.new b o hbo with h2 | h2
      · exact .inl h2
      · exact .inr (hM'M b h2)
  cases e with
  | normal => exact fin hq
  | ret => exact fin hq
  | exit id => exact hq.elim
  | goto l => exact hq.elim
  | panic ch => exact hq.elim
  | outgrown => exact hq.elim
end
end Go.Proofs.YtnjjdbljoligdaaGreatDoor
namespace Go.Proofs.YtnjjdbljoligdaaGreatDoor
open Go.RowKit
def fixN1 : D → D → D
  | .nils, _ => .nils
  | _, d => d
def fixN : D → D → D
  | .agg a, .agg b => .agg (List.zipWith fixN1 a b)
  | a, b => fixN1 a b
def nslD : List D → D
  | [] => .nils
  | xs => .sl xs
theorem nslD_nil : nslD [] = .nils := rfl
theorem nslD_cons {a : D} {l : List D} : nslD (a :: l) = .sl (a :: l) := rfl
theorem nslD_t {α : Type} {l : List α} {f : α → D} (h : l.isEmpty = true) : nslD (l.map f) = .nils := by
  cases l with
  | nil => rfl
  | cons a l => cases h
theorem nslD_f {α : Type} {l : List α} {f : α → D} (h : l.isEmpty = false) : nslD (l.map f) = .sl (l.map f) := by
  cases l with
  | nil => cases h
  | cons a l => rfl
theorem nsl_len {α : Type} {l : List α} (h : l.isEmpty = false) : decide (0 < (l.length : Int)) = true := by
  cases l with
  | nil => cases h
  | cons a l => simp
section
variable {P : Program} {I : World → Prop}
theorem Rep.fixN1 {w : World} {C : Cx} {F : Nat → Nat → Prop} {v : Value} {a b : D} (h : Rep w C v a) (k : Rep w (cF F) v b) : Rep w (cF F) v (fixN1 a b) := by
  cases a
  case nils => cases h; exact .nils
  all_goals exact k
theorem Rep.fixN {w : World} {C : Cx} {F : Nat → Nat → Prop} {v : Value} {a b : D} (h : Rep w C v a) (k : Rep w (cF F) v b) : Rep w (cF F) v (fixN a b) := by
  cases a
  case agg ax =>
    cases b
    case agg bs =>
      cases h with
      | agg vs _ hl h1 hr =>
        generalize hx : Value.agg vs.toArray = x at k
        cases k with
        | agg vs' _ hl' h1' hr' =>
          have : vs = vs' := by simpa using hx
          subst this
          refine .agg vs _ (by rw [List.length_zipWith]; omega) h1 fun i v d hv hd => ?_
          rw [List.getElem?_zipWith] at hd
          cases ha : ax[i]? with
          | none => rw [ha] at hd; cases hd
          | some x =>
            cases hb : bs[i]? with
            | none => rw [ha, hb] at hd; cases hd
            | some y =>
              rw [ha, hb] at hd
              cases hd
              exact Rep.fixN1 (hr i v x hv ha) (hr' i v y hv hb)
    all_goals exact k
  case nils => cases h; cases b <;> exact .nils
  all_goals exact k
def retN2 (ds : List D) (x : Option (List D × Eff)) (r : D) : Prop := match x with
  | some p => mkRes (List.zipWith fixN ds p.1) = r
  | none => False
def retN1 (x : Option (List D)) (H : Nat → Option Blk) (r : D) : Prop := match x with
  | some ds => retN2 ds (purDs H ds) r
  | none => False
def retN (P : Program) (fn : Func) (r : D) : BPost := fun e S => match e with
  | .exit _ => False
  | .goto _ => False
  | _ => retN1 (resD P S fn.results.toList) S.heap r
theorem retN_n {fn : Func} {r : D} {S : AS} : retN P fn r .normal S = retN1 (resD P S fn.results.toList) S.heap r := rfl
theorem retN_r {fn : Func} {r : D} {S : AS} : retN P fn r .ret S = retN1 (resD P S fn.results.toList) S.heap r := rfl
theorem retN1_ex {x : Option (List D)} {H : Nat → Option Blk} {r : D} (h : retN1 x H r) : ∃ ds ds' e, x = some ds ∧ purDs H ds = some (ds', e) ∧ mkRes (List.zipWith fixN ds ds') = r := by
  cases x with
  | none => exact h.elim
  | some ds =>
    simp only [retN1] at h
    cases hp : purDs H ds with
    | none => rw [hp] at h; exact h.elim
    | some p => rw [hp] at h; exact ⟨ds, p.1, p.2, rfl, hp, h⟩
theorem AFun.enterN (hstab : Stab I) {f : FuncId} {fn : Func} {c : Code} {ds : List D} {r : D} (hf : P.funcs[f]? = some fn) (hb : fn.body = some c) (hnm : fn.name ≠ "runtime.NumGoroutine") (hn : ds.length ≤ fn.ntmps) (hok : codeOk fn.ntmps c = true)
    (h : runB P I c (S0 ds fn.ntmps) [] (retN P fn r)) : AFun P I f ds r := by
  refine ⟨by simp [enterable, hf, hb, hnm], fun w F args hI hfb hlen hrep => ?_⟩
  refine calls_of_wp hf hb ?_
  have hR : Rel I (Gh.top w F) (fun id => id < (S0 ds fn.ntmps).next) (S0 ds fn.ntmps) (cF F) { tmps := args.toArray ++ Array.replicate (fn.ntmps - args.toArray.size) Go.undef, defers := [] } w := by
    refine ⟨⟨fun t => ?_, ⟨fun id b h => by simp [S0, heapL, look] at h, fun id b h => by simp [S0, heapL, look] at h, fun id k cs h => by simp [S0, heapL, look] at h, fun id id' b b' h => by simp [S0, heapL, look] at h⟩, hfb, fun _ h => h⟩, hI, BelM.refl _ _, fun b o h => .inl h, Ext.refl _ _, rfl, ?_, fun id h => h.elim⟩
    · simp only [S0, argL_getD]
      by_cases ht : t < ds.length
      · rw [show ds.getD t .any = ds[t] by simp [List.getD, ht]]
        have ha : t < args.length := by omega
        have : (args.toArray ++ Array.replicate (fn.ntmps - args.toArray.size) Go.undef).getD t Go.undef = args[t] := by
          simp [Array.getD_eq_getD_getElem?, Array.getElem?_append, ha]
        rw [this]
        exact hrep t _ _ (List.getElem?_eq_getElem ha) (List.getElem?_eq_getElem ht)
      · rw [show ds.getD t .any = .any by simp [List.getD, ht]]
        exact .any _
    · simp [S0]; omega
  have h : bwp P I c (S0 ds fn.ntmps) (retN P fn r) := by unfold runB at h; exact h
  refine wp_mono (bwp_sound hstab c _ _ (Gh.top w F) _ _ w hok h hR) ?_
  rintro e a' w' ⟨S', C', hnt, hR', hq⟩
  have fin : (∃ ds ds' e, resD P S' fn.results.toList = some ds ∧ purDs S'.heap ds = some (ds', e) ∧ mkRes (List.zipWith fixN ds ds') = r) → a'.defers = [] ∧ ∃ v, (results fn a'.tmps).run P w' = .ok v w' ∧ (∃ v' F', Ending.returned v = .returned v' ∧ Below w.heap.size w w' ∧ Ext (cF F) w (cF F') w' ∧ FB (cF F') w' ∧ (∀ b o, F' b o → F b o ∨ w.heap.size ≤ b) ∧ Rep w' (cF F') v' r) := by
    rintro ⟨rs, rs', ep, h1, h2, h3⟩
    refine ⟨hR'.defers, ?_⟩
    obtain ⟨vs, hr, hl, hv⟩ := resD_run (P := P) (G := Gh.top w F) hR'.ok _ _ h1
    obtain ⟨C1, hP, hl', hv'⟩ := purDs_sound (w := w') (B := (Gh.top w F).B) rs vs C' S'.heap rs' ep hR'.ok.heap hR'.ok.fb hl hv h2
    refine ⟨if h : vs.toArray.size = 1 then vs.toArray[0] else .tuple vs.toArray, ?_, _, C1.F, rfl, hR'.below.to, (hR'.ext.trans hP.ext).cF, hP.fb, fun b o h => ?_, ?_⟩
    · rw [results_eq, Array.mapM_eq_mapM_toList]
      simp only [Sem.run_bind, Sem.run_map, hr]
      rfl
    · rcases hP.new b o h with h | h
      · exact hR'.new b o h
      · exact .inr h
    · rw [← h3]
      have hlz : vs.length = (List.zipWith fixN rs rs').length := by rw [List.length_zipWith]; omega
      refine mkRes_rep hlz fun i v d hi hd => ?_
      rw [List.getElem?_zipWith] at hd
      cases ha : rs[i]? with
      | none => rw [ha] at hd; cases hd
      | some x =>
        cases hb2 : rs'[i]? with
        | none => rw [ha, hb2] at hd; cases hd
        | some y =>
          rw [ha, hb2] at hd
          cases hd
          exact Rep.fixN (hv i v x hi ha) (hv' i v y hi hb2).1
  cases e with
  | normal => exact fin (retN1_ex hq)
  | ret => exact fin (retN1_ex hq)
  | exit id => exact hq.elim
  | goto l => exact hq.elim
  | panic ch => exact hq.elim
  | outgrown => exact hq.elim
end
end Go.Proofs.YtnjjdbljoligdaaGreatDoor
namespace Go.Proofs.YtnjjdbljoligdaaGreatDoor
open Go.RowKit
def leL : List D → List D → Prop
  | [], [] => True
  | a :: ax, b :: bs => (a = .any ∨ pur1 (fun _ => none) b = some (a, [])) ∧ leL ax bs
  | _, _ => False
def leD : D → D → Prop
  | .agg ax, .agg bs => leL ax bs
  | a, b => pur1 (fun _ => none) b = some (a, [])
def leDs : List D → List D → Prop
  | [], [] => True
  | a :: ax, b :: bs => leD a b ∧ leDs ax bs
  | _, _ => False
section
variable {P : Program} {I : World → Prop} {C : Cx} {w : World}
theorem leL_rep : ∀ {ax bs : List D} {vs : List Value}, leL ax bs → vs.length = bs.length → (∀ (i : Nat) v d, vs[i]? = some v → bs[i]? = some d → Rep w C v d) → vs.length = ax.length ∧ ∀ (i : Nat) v d, vs[i]? = some v → ax[i]? = some d → Rep w (cF C.F) v d
  | [], [], vs, _, hl, _ => ⟨hl, by simp⟩
  | a :: ax, b :: bs, [], _, hl, _ => by simp at hl
  | a :: ax, b :: bs, v :: vs, h, hl, hr => by
    obtain ⟨h1, h2⟩ := leL_rep (vs := vs) h.2 (by simpa using hl) fun i v d hv hd => hr (i + 1) v d (by simpa using hv) (by simpa using hd)
    refine ⟨by simp [h1], fun i v' d hv hd => ?_⟩
    cases i with
    | succ i => exact h2 i v' d (by simpa using hv) (by simpa using hd)
    | zero =>
      simp at hv hd
      subst hv hd
      rcases h.1 with h | h
      · rw [h]; exact .any _
      · exact (pur1_none h (hr 0 v b rfl rfl)).2.1
  | [], _ :: _, _, h, _, _ => h.elim
  | _ :: _, [], _, h, _, _ => h.elim
theorem leD_rep {a b : D} {v : Value} (h : leD a b) (hr : Rep w C v b) : Rep w (cF C.F) v a := by
  unfold leD at h
  split at h
  · rename_i ax bs
    cases hr with
    | agg vs _ hl h1 hr =>
      obtain ⟨k1, k2⟩ := leL_rep h hl hr
      exact .agg vs _ k1 h1 k2
  · exact (pur1_none h hr).2.1
theorem leDs_rep : ∀ {ax bs : List D} {vs : List Value}, leDs ax bs → vs.length = bs.length → (∀ (i : Nat) v d, vs[i]? = some v → bs[i]? = some d → Rep w C v d) → vs.length = ax.length ∧ ∀ (i : Nat) v d, vs[i]? = some v → ax[i]? = some d → Rep w (cF C.F) v d
  | [], [], vs, _, hl, _ => ⟨hl, by simp⟩
  | a :: ax, b :: bs, [], _, hl, _ => by simp at hl
  | a :: ax, b :: bs, v :: vs, h, hl, hr => by
    obtain ⟨h1, h2⟩ := leDs_rep (vs := vs) h.2 (by simpa using hl) fun i v d hv hd => hr (i + 1) v d (by simpa using hv) (by simpa using hd)
    refine ⟨by simp [h1], fun i v' d hv hd => ?_⟩
    cases i with
    | succ i => exact h2 i v' d (by simpa using hv) (by simpa using hd)
    | zero =>
      simp at hv hd
      subst hv hd
      exact leD_rep h.1 (hr 0 v b rfl rfl)
  | [], _ :: _, _, h, _, _ => h.elim
  | _ :: _, [], _, h, _, _ => h.elim
theorem CallOK.of_any (hstab : Stab I) {f : FuncId} {ds' ds : List D} {d : D} {H : Nat → Option Blk} {nid : Nat} (h : AFun P I f ds' d) (hs : leDs ds' ds) : CallOK P I f ds H nid d [] := by
  refine ⟨h.1, fun i0 w C B args hI hb0 hM hok hF hbase hnid hal hrep => ?_⟩
  obtain ⟨k1, k2⟩ := leDs_rep hs hal hrep
  refine (h.2 w C.F args (hstab _ _ hI hb0) hF k1 k2).mono ?_
  rintro e w' ⟨v, F', rfl, hb, hext, hfb, hnew, hr⟩
  let C2 : Cx := ⟨F', C.σ, C.live⟩
  have he2 : Ext C w C2 w' := ⟨hext.F, hext.blk, fun _ h => h, fun _ _ => rfl⟩
  have hH2 : HOK C2 w' B (appEff H []) := by
    refine ⟨fun id b h => ?_, hok.own, hok.pin, fun id id' b b' h h' hne g hg hg' => hok.apart id id' b b' h h' hne g hg hg'⟩
    obtain ⟨k1, k2⟩ := hok.rep id b h
    refine ⟨k1, k2.keep k1 he2 (fun g hg => hb.block g (k2.lt g hg).2) (fun g o hg ho => ?_)⟩
    rcases hnew g o ho with h1 | h1
    · exact h1
    · have := (k2.lt g hg).2; omega
  refine ⟨v, C2, rfl, BelM.of hb, he2, hr.ext ⟨fun _ _ h => h, fun _ _ _ => rfl, fun _ h => h.elim, fun _ h => h.elim⟩, hH2, hfb, fun _ h => .inl h, fun b o h => ?_⟩
  rcases hnew b o h with h1 | h1
  · exact .inl h1
  · exact .inr (hbase b h1)
end
end Go.Proofs.YtnjjdbljoligdaaGreatDoor
namespace Go.Proofs.YtnjjdbljoligdaaGreatDoor
open Go.RowKit
theorem om {α : Type} {f : α → D} {k : Nat} {l : List α} (h : ∀ x, (f x).okS = true ∧ (f x).cells.length = k) : (∀ y, y ∈ l.map f → y.okS = true ∧ y.cells.length = k) = True :=
  eq_true fun y hy => by obtain ⟨x, _, rfl⟩ := List.mem_map.1 hy; exact h x
theorem zz {A B : Prop} (h : B) (e : A = B := by (conv => lhs; (try simp -implicitDefEqProofs only [vt, vm, om, ↓atI_fold, forall_const, implies_true, false_implies, sevalprocAttr, dd, k, q]))) : A := e ▸ h
theorem zq {A B : Prop} (h : B) (e : A = B := by (conv => lhs; (try simp -implicitDefEqProofs only [vt, vq, vm, om, ↓atI_fold, forall_const, implies_true, false_implies, sevalprocAttr, dd, k, q]))) : A := e ▸ h
theorem fi {A : Prop} (e : A := by first | rfl | (simp [List.map_append, dd]; done) | (simp [List.map_append, dd, k]; done)) : A := e
theorem fz {A : Prop} (e : A := by first | rfl | (simp -implicitDefEqProofs only [vt, vm, om, ↓atI_fold, forall_const, implies_true, false_implies, sevalprocAttr, dd, k, q]; done) | (simp -implicitDefEqProofs only [vt, vm, om, ↓atI_fold, forall_const, implies_true, false_implies, sevalprocAttr, dd, k, q]; rfl) | (simp -implicitDefEqProofs only [vt, vm, om, ↓atI_fold, forall_const, implies_true, false_implies, sevalprocAttr, dd, k, q, List.map_append]; done)) : A := e
theorem fs {A : Prop} (e : A := by first | rfl | (simp; done)) : A := e
theorem fd {A : Prop} (e : A := by first | rfl | decide) : A := e
theorem fk {A : Prop} (e : A := by kernel_rfl) : A := e
theorem fr {A : Prop} (e : A := by simp -implicitDefEqProofs only [vt, vm, om, ↓atI_fold, forall_const, implies_true, false_implies, sevalprocAttr, retQ_r, retQ_n, rs, dd, k, q] <;> first | rfl | (simp [List.map_append, dd]; done) | (simp [List.map_append, dd, k]; done)) : A := e
theorem fp {A : Prop} (e : A := by simp -implicitDefEqProofs only [vt, vm, om, ↓atI_fold, forall_const, implies_true, false_implies, sevalprocAttr, vp, retP_r, retP_n, rs, dd, k, q] <;> first | exact ⟨rfl, rfl⟩ | (refine ⟨?_, ?_⟩ <;> first | rfl | (simp [List.map_append, dd]; done) | (simp [List.map_append, dd, k]; done))) : A := e
theorem fv {A : Prop} (e : A := by simp -implicitDefEqProofs only [vt, vm, om, ↓atI_fold, forall_const, implies_true, false_implies, sevalprocAttr, retV_r, retV_n, retV1, rs, dd, k, q] <;> first | rfl | exact ⟨rfl, rfl⟩ | (refine ⟨?_, ?_⟩ <;> first | rfl | (simp [List.map_append, dd]; done) | (simp [List.map_append, dd, k]; done)) | (simp [List.map_append, dd]; done) | (simp [List.map_append, dd, k]; done)) : A := e
theorem fn {A : Prop} (e : A := by simp -implicitDefEqProofs only [vt, vm, om, ↓atI_fold, forall_const, implies_true, false_implies, sevalprocAttr, retN_r, retN_n, retN1, retN2, fixN, fixN1, nslD_nil, nslD_cons, List.zipWith_cons_cons, List.zipWith_nil_left, rs, dd, k, q] <;> first | rfl | (simp [List.map_append, dd]; done) | (simp [List.map_append, dd, k]; done)) : A := e
def ro : List (Nat × Option Nat) → Nat → Option Nat
  | [], i => some i
  | (a, b) :: l, i => if i = a then b else ro l i
theorem wk {S : AS} {l : List (Nat × D)} {h : List (Nat × Blk)} {n : Nat} (r : List (Nat × Option Nat)) (he : wkEnv S (ro r) n l := by first | (simp -implicitDefEqProofs [kv, km, ro, dd, k]; done) | (simp -implicitDefEqProofs [kv, km, ro, dd, k, Nat.add_assoc]; done) | (simp -implicitDefEqProofs [kv, km, ro, dd, k]; omega)) (hh : wkHeap S (ro r) n h := by first | (simp -implicitDefEqProofs [kv, km, ro, dd, k]; done) | (simp -implicitDefEqProofs [kv, km, ro, dd, k, Nat.add_assoc]; done) | (simp -implicitDefEqProofs [kv, km, ro, dd, k]; omega)) : Wk S ⟨envL l, heapL h, n, S.nt⟩ := Wk.of (ro r) l h n he hh
section
variable {P : Program} {I : World → Prop} {S S' : AS} {k : List Kont} {Q : BPost} {o : Oper} {ops : Array Oper} {l : List Oper} {i : Nat} {f : FuncId} {ds : List D} {d : D} {eff : Eff} {x y : Code}
theorem xk (h : extB P I .normal S k Q) : runB P I .skip S k Q := rb_skip h
theorem xx {id : Nat} (h : extB P I (.exit id) S k Q) : runB P I (.exit id) S k Q := rb_exit h
theorem xr (h : extB P I .ret S k Q) : runB P I .ret S k Q := rb_ret h
theorem xs (h : runB P I x S (.seq y :: k) Q) : runB P I (.seq x y) S k Q := rb_seq h
theorem xb {id : Nat} (h : runB P I x S (.blk id :: k) Q) : runB P I (.block id x) S k Q := rb_block h
theorem es (h : runB P I y S k Q) : extB P I .normal S (.seq y :: k) Q := eb_seq h
theorem ee {id : Nat} (h : extB P I (.exit id) S k Q) : extB P I (.exit id) S (.seq y :: k) Q := eb_seq_e h
theorem er (h : extB P I .ret S k Q) : extB P I .ret S (.seq y :: k) Q := eb_seq_r h
theorem bn {id : Nat} (h : extB P I .normal S k Q) : extB P I .normal S (.blk id :: k) Q := eb_blk_n h
theorem bh {id : Nat} (h : extB P I .normal S k Q) : extB P I (.exit id) S (.blk id :: k) Q := eb_blk_hit h
theorem bm {id id' : Nat} (h : extB P I (.exit id') S k Q) (hne : id' ≠ id := by decide) : extB P I (.exit id') S (.blk id :: k) Q := eb_blk_miss hne h
theorem br {id : Nat} (h : extB P I .ret S k Q) : extB P I .ret S (.blk id :: k) Q := eb_blk_r h
theorem en {e : AExit} (h : Q e S) : extB P I e S [] Q := eb_nil h
theorem xt {c : Operand} (h : runB P I x S k Q) (hc : S.val c = .bool true := by first | rfl | exact congrArg D.bool k.1 | exact congrArg D.bool (congrArg Bool.not k.1) | (simp -implicitDefEqProofs only [vt, vm, om, dd, k]; done)) : runB P I (.cond c x y) S k Q := rb_true hc h
theorem xf {c : Operand} (h : runB P I y S k Q) (hc : S.val c = .bool false := by first | rfl | exact congrArg D.bool k.1 | exact congrArg D.bool (congrArg Bool.not k.1) | (simp -implicitDefEqProofs only [vt, vm, om, dd, k]; done)) : runB P I (.cond c x y) S k Q := rb_false hc h
theorem rz {id : Nat} (h : extB P I .normal S' k Q) (e : ∀ K R, rgL P I ops ops.toList 0 S K R = extB P I .normal S' K R := by (intro K R; conv => lhs; (try simp -implicitDefEqProofs only [vt, vm, om, ↓atI_fold, forall_const, implies_true, false_implies, sevalprocAttr, dd, k, q]))) : runB P I (.region id ops false) S k Q := rb_region (e k Q ▸ h)
theorem rd (hI : Stab I) {id : Nat} (h : extB P I .normal S' k Q) (e : ∀ K R, rgD P I ops ops.toList 0 S K R = extB P I .normal S' K R := by (intro K R; conv => lhs; (try simp -implicitDefEqProofs only [vt, vm, om, ↓atI_fold, forall_const, implies_true, false_implies, sevalprocAttr, dd, k, q]))) (hm : P.follows .mixedOrders = true := by kernel_rfl) (hok : drawOk ops = true := by kernel_rfl) : runB P I (.region id ops true) S k Q := rb_draw hI hm hok (e k Q ▸ h)
theorem rK {id : Nat} (h : ∀ K R, K = k → R = Q → rgL P I ops ops.toList 0 S K R) : runB P I (.region id ops false) S k Q := rb_region (h k Q rfl rfl)
theorem rD (hI : Stab I) {id : Nat} (h : ∀ K R, K = k → R = Q → rgD P I ops ops.toList 0 S K R) (hm : P.follows .mixedOrders = true := by kernel_rfl) (hok : drawOk ops = true := by kernel_rfl) : runB P I (.region id ops true) S k Q := rb_draw hI hm hok (h k Q rfl rfl)
theorem rP (hI : Stab I) {id : Nat} (h : ∀ K, K = k → rgP P I ops ops.toList 0 S [] K Q) (hm : P.follows .mixedOrders = true := by kernel_rfl) (hok : drawOk ops = true := by kernel_rfl) : runB P I (.region id ops true) S k Q := rb_drawP hI hm hok h
theorem hd (hk : rgD P I ops l (i + 1) (S.step o d eff) k Q) (he : effH ops S.next i eff = true := by kernel_rfl) : hD P I d eff o ops l i S k Q := hD.intro he hk
theorem cw {ds' ds0 : List D} {nid : Nat} (h : AFun P I f ds' d) (hk : rgL P I ops l i (S.step o d eff) k Q) (he : ds' = ds := by first | rfl | (simp [List.map_append, dd]; done) | (simp [List.map_append, dd, k]; done)) : cW P I f ds eff ds0 nid o ops l i S k Q := cW.intro h he hk
theorem cd {ds' ds0 : List D} {nid : Nat} (h : AFun P I f ds' d) (hk : rgD P I ops l (i + 1) (S.step o d eff) k Q) (he : ds' = ds := by first | rfl | (simp [List.map_append, dd]; done) | (simp [List.map_append, dd, k]; done)) (hf : effH ops S.next i eff = true := by kernel_rfl) : cD' P I f ds eff ds0 nid o ops l i S k Q := cD'.intro h he hf hk
theorem AFun.en (hI : Stab I) {r : D} {fn : Func} {nt : Nat} {c : Code} (hf : P.funcs[f]? = some fn) (hn : fn.ntmps = nt) (h : runB P I c ⟨argL ds, heapL [], 0, nt⟩ [] (retQ P fn r)) (hb : fn.body = some c := by exact rfl) (hnm : decide (fn.name ≠ "runtime.NumGoroutine") = true := by kernel_rfl) (hl : Nat.ble ds.length nt = true := by kernel_rfl) (hok : codeOk fn.ntmps c = true := by kernel_rfl) : AFun P I f ds r :=
  AFun.enterB hI hf hb (of_decide_eq_true hnm) (by subst hn; exact Nat.le_of_ble_eq_true hl) hok (by subst hn; exact h)
theorem AFun.enN (hI : Stab I) {r : D} {fn : Func} {nt : Nat} {c : Code} (hf : P.funcs[f]? = some fn) (hn : fn.ntmps = nt) (h : runB P I c ⟨argL ds, heapL [], 0, nt⟩ [] (retN P fn r)) (hb : fn.body = some c := by exact rfl) (hnm : decide (fn.name ≠ "runtime.NumGoroutine") = true := by kernel_rfl) (hl : Nat.ble ds.length nt = true := by kernel_rfl) (hok : codeOk fn.ntmps c = true := by kernel_rfl) : AFun P I f ds r :=
  AFun.enterN hI hf hb (of_decide_eq_true hnm) (by subst hn; exact Nat.le_of_ble_eq_true hl) hok (by subst hn; exact h)
end
section
variable {P : Prop} {α β : Type} {z : α}
theorem iK {b : Bool} {x y : Option α} (k : P) (h : (if b = true then x else y) = some z) : ((b = true ∧ P) ∧ x = some z) ∨ ((b = false ∧ P) ∧ y = some z) := by
  rcases ite_or h with ⟨h1, h2⟩ | ⟨h1, h2⟩
  · exact .inl ⟨⟨h1, k⟩, h2⟩
  · exact .inr ⟨⟨h1, k⟩, h2⟩
theorem bs {o : Option β} {F : β → Option α} (h : o.bind F = some z) : ∃ x, o = some x ∧ F x = some z := bind_some h
theorem bK {o : Option β} {F : β → Option α} (q : P) (h : o.bind F = some z) : ∃ x, (o = some x ∧ P) ∧ F x = some z := by
  obtain ⟨x, h1, h2⟩ := bind_some h
  exact ⟨x, ⟨h1, q⟩, h2⟩
theorem oK {p : Prop} [Decidable p] {x : Option α} (q : P) (h : (if p then x else none) = some z) : (p ∧ P) ∧ x = some z := by
  obtain ⟨h1, h2⟩ := ite_on h
  exact ⟨⟨h1, q⟩, h2⟩
theorem oN {l : List β} {n : Int} {F : β → Option α} (q : P) (h : (atI l n).bind F = some z) : ∃ x, ((0 ≤ n ∧ n < (l.length : Int) ∧ ∀ {γ : Type} (f : β → γ), (l.map f)[n.toNat]? = some (f x)) ∧ P) ∧ F x = some z := by
  obtain ⟨x, h1, h2⟩ := bind_some h
  exact ⟨x, ⟨atI_own h1, q⟩, h2⟩
end
end Go.Proofs.YtnjjdbljoligdaaGreatDoor
