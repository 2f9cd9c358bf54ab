/- Texts of one proof, put together (EvH, EvI, EvJ, EvK, GCi, EvX, EvL, EvM1, EvM2, EvM3, EvM, EH, Y2, Laid8, LS9, Opn, OpnB). No condition but those that each theorem states. -/
import Derived.Test.YtejeinnfompgpaaGreatDoorX6
import Derived.Lib.SliceRun
import Derived.Lib.AppendZeros
import Derived.Sort.OwnSorted
import Derived.Lib.OwnBridge
import Derived.Lib.ValidLaws
import Derived.Lib.SplitLaws
import Derived.Test.YtejeinnfompgpaaGreatDoorProg
import Derived.KernelRfl
import Derived.Test.YtejeinnfompgpaaGreatDoorCards
import Derived.Test.YtejeinnfompgpaaGreatDoorTie
import Derived.ProofKit
import Derived.OpenShut
import Derived.Deep.DeepHandedRow
import Derived.Lib.LaidTab
import Derived.Stop.LaidErr
import Derived.Lib.LaidIn
import Derived.Lib.LaidU8T
import Derived.Shelf.Vars
import Derived.Lib.SmallJoins
import Derived.Deep.Slices
import Derived.Deep.Fields
import Derived.Test.YtejeinnfompgpaaGreatDoorRows
set_option linter.unusedSimpArgs false
set_option linter.unusedVariables false
namespace Go.Proofs.YtejeinnfompgpaaGreatDoor
open Go.RowKit
def pur1K(H:Nat→Option Blk):D→Option (D × Eff)
 | .nils=>some (.nils,[])
 | d=>pur1 H d
def purLK(H:Nat→Option Blk):List D→Option (List D × Eff)
 | []=>some ([],[])
 | d::ds=>match pur1K H d with
  | some (d',e)=>match purLK (appEff H e) ds with
   | some (ds',e')=>some (d'::ds',e++e')
   | none=>none
  | none=>none
def purDK(H:Nat→Option Blk):D→Option (D × Eff)
 | .agg ds=>match purLK H ds with
  | some (ds',e)=>some (.agg ds',e)
  | none=>none
 | d=>pur1K H d
def purDsK(H:Nat→Option Blk):List D→Option (List D × Eff)
 | []=>some ([],[])
 | d::ds=>match purDK H d with
  | some (d',e)=>match purDsK (appEff H e) ds with
   | some (ds',e')=>some (d'::ds',e++e')
   | none=>none
  | none=>none
def bsK (P:Program)(e:TypeId)(len:Nat)(parts:Array (Nat × Operand))(nid:Nat)(S:AS):Option (D × Eff):=match szT P e with
 | some k=>match zeroD P e with
  | some z=>match purDsK S.heap (parts.toList.map fun p=>S.val p.2) with
   | some (xs,ep)=>if parts.toList.map (·.1)=List.range len∧(∀ x ∈ xs,x.cells.length=k)∧len * k≤2 ^ 24∧0 < k∧z.okS=true∧z.cells.length=k then some (.own nid len,ep++[(nid,some (.vec e k xs false))]) else none
   | none=>none
  | none=>none
 | none=>none
def op2 (P:Program):OpF:=fun o nid S=>match o with
 | .buildSlice t len parts=>match sliceT P t with
  | some e=>match fullT P e with
   | true=>aop P (.buildSlice t len parts) nid S
   | false=>bsK P e len parts nid S
  | none=>none
 | o=>aop P o nid S
section
variable {P:Program}{o:Oper}{a:Act}{w:World}{C C':Cx}{B:Bx}{H:Nat→Option Blk}{nid:Nat}{S S':AS}{d:D}{eff:Eff}
theorem pur1K_eq(hd:d≠.nils):pur1K H d=pur1 H d:=by
 cases d<;>first|rfl|exact absurd rfl hd
theorem pur1K_sound{d':D}{ep:Eff}{v:Value}(hH:HOK C w B H)(hF:FB C w)(h:pur1K H d=some (d',ep))(hv:Rep w C v d):∃ C',Pub C w B H C' (appEff H ep)∧Rep w (cF C'.F) v d'∧(d'.ok1=true):=by
 by_cases hd:d=.nils
 ·subst hd
  simp only[pur1K,Option.some.injEq,Prod.mk.injEq] at h
  obtain⟨rfl,rfl⟩:=h
  cases hv
  exact⟨C,Pub.refl hH hF,.nils,rfl⟩
 ·rw[pur1K_eq hd] at h
  exact pur1_sound hH hF h hv
theorem purLK_sound:∀ (ds:List D) (vs:List Value) (C:Cx) (H:Nat→Option Blk) (ds':List D) (ep:Eff),HOK C w B H→FB C w→RepL C w vs ds→purLK H ds=some (ds',ep)→∃ C',Pub C w B H C' (appEff H ep)∧RepL (cF C'.F) w vs ds':=by
 intro ds
 induction ds with
 | nil =>
  intro vs C H ds' ep hH hF hL h
  simp[purLK] at h
  obtain⟨rfl,rfl⟩:=h
  have:vs=[]:=List.eq_nil_of_length_eq_zero hL.len
  subst this
  exact⟨C,Pub.refl hH hF,RepL.nil⟩
 | cons d ds ih =>
  intro vs C H ds' ep hH hF hL h
  cases vs with
  | nil=>have:=hL.len;simp at this
  | cons v vs =>
   simp only[purLK] at h
   cases h1:pur1K H d with
   | none=>rw[h1] at h;simp at h
   | some p =>
    obtain⟨d',e1⟩:=p
    rw[h1] at h
    simp only at h
    cases h2:purLK (appEff H e1) ds with
    | none=>rw[h2] at h;simp at h
    | some q =>
     obtain⟨ds'',e2⟩:=q
     rw[h2] at h
     simp at h
     obtain⟨rfl,rfl⟩:=h
     obtain⟨C1,p1,p2,_⟩:=pur1K_sound hH hF h1 (hL.rep 0 v d rfl rfl)
     have hL':RepL C1 w vs ds:=by
      have:=(hL.drop 1).ext p1.ext
      simpa using this
     obtain⟨C2,p3,p4⟩:=ih vs C1 _ _ _ p1.ok p1.fb hL' h2
     rw[appEff_append]
     refine⟨C2,p1.trans p3,?_⟩
     have h0:RepL (cF C2.F) w [v] [d']:=RepL.one1 (hL.one v (by simp)) (p2.ext p3.ext.cF)
     exact h0.append p4
theorem purDK_sound{d':D}{ep:Eff}{v:Value}(hH:HOK C w B H)(hF:FB C w)(h:purDK H d=some (d',ep))(hv:Rep w C v d):∃ C',Pub C w B H C' (appEff H ep)∧Rep w (cF C'.F) v d'∧d'.okS=true:=by
 unfold purDK at h
 split at h
 ·rename_i ds
  cases h1:purLK H ds with
  | none=>rw[h1] at h;simp at h
  | some p =>
   obtain⟨ds',e1⟩:=p
   rw[h1] at h
   simp at h
   obtain⟨rfl,rfl⟩:=h
   cases hv with
   | agg vs _ hl h2 h3 =>
    obtain⟨C',p1,p2⟩:=purLK_sound ds vs C H ds' e1 hH hF ⟨hl,h2,h3⟩ h1
    exact⟨C',p1,p2.agg,rfl⟩
 ·obtain⟨C',p1,p2,p3⟩:=pur1K_sound hH hF h hv
  refine⟨C',p1,p2,?_⟩
  cases d'<;>simp_all[D.okS,D.ok1]
theorem purDsK_sound:∀ (ds:List D) (vs:List Value) (C:Cx) (H:Nat→Option Blk) (ds':List D) (ep:Eff),HOK C w B H→FB C w→vs.length=ds.length→(∀ (i:Nat) v d,vs[i]? = some v→ds[i]? = some d→Rep w C v d)→purDsK H ds=some (ds',ep) →
  ∃ C',Pub C w B H C' (appEff H ep)∧vs.length=ds'.length∧∀ (i:Nat) v d,vs[i]? = some v→ds'[i]? = some d→Rep w (cF C'.F) v d∧d.okS=true:=by
 intro ds
 induction ds with
 | nil =>
  intro vs C H ds' ep hH hF hl _ h
  simp[purDsK] at h
  obtain⟨rfl,rfl⟩:=h
  exact⟨C,Pub.refl hH hF,hl,by simp⟩
 | cons d ds ih =>
  intro vs C H ds' ep hH hF hl hR h
  cases vs with
  | nil=>simp at hl
  | cons v vs =>
   simp only[purDsK] at h
   cases h1:purDK H d with
   | none=>rw[h1] at h;simp at h
   | some p =>
    obtain⟨d',e1⟩:=p
    rw[h1] at h
    simp only at h
    cases h2:purDsK (appEff H e1) ds with
    | none=>rw[h2] at h;simp at h
    | some q =>
     obtain⟨ds'',e2⟩:=q
     rw[h2] at h
     simp at h
     obtain⟨rfl,rfl⟩:=h
     obtain⟨C1,p1,p2,p2'⟩:=purDK_sound hH hF h1 (hR 0 v d rfl rfl)
     obtain⟨C2,p3,p4,p5⟩:=ih vs C1 _ _ _ p1.ok p1.fb (by simpa using hl) (fun i u x hu hx=>(hR (i+1) u x (by simpa using hu) (by simpa using hx)).ext p1.ext) h2
     rw[appEff_append]
     refine⟨C2,p1.trans p3,by simpa using p4,fun i u x hu hx=>?_⟩
     cases i with
     | zero=>simp at hu hx;subst hu hx;exact⟨p2.ext p3.ext.cF,p2'⟩
     | succ i=>exact p5 i u x (by simpa using hu) (by simpa using hx)
theorem pur1K_sub{H H':Nat→Option Blk}{d d':D}{e:Eff}(hs:Sub H H' d.ids1)(h:pur1K H d=some (d',e)):pur1K H' d=some (d',e):=by
 by_cases hd:d=.nils
 ·subst hd;exact h
 ·rw[pur1K_eq hd] at h ⊢
  exact pur1_sub hs h
theorem purLK_sub:∀ (ds:List D) (H H':Nat→Option Blk) (ds':List D) (e:Eff),Sub H H' (ds.flatMap D.ids1)→purLK H ds=some (ds',e)→purLK H' ds=some (ds',e)
 | [],H,H',ds',e,_,h=>by simpa[purLK] using h
 | d::ds,H,H',ds',e,hs,h=>by
  simp only[purLK] at h ⊢
  cases h1:pur1K H d with
  | none=>rw[h1] at h;simp at h
  | some p =>
   obtain⟨d1,e1⟩:=p
   rw[h1] at h
   rw[pur1K_sub (fun id hid=>hs id (by simp[hid])) h1]
   simp only at h ⊢
   cases h2:purLK (appEff H e1) ds with
   | none=>rw[h2] at h;simp at h
   | some q =>
    obtain⟨d2,e2⟩:=q
    rw[h2] at h
    rw[purLK_sub ds _ (appEff H' e1) d2 e2 (Sub.app (fun id hid=>hs id (by simp only[List.flatMap_cons,List.mem_append];exact .inr hid)) e1) h2]
    exact h
theorem purDK_sub{H H':Nat→Option Blk}{d':D}{e:Eff}(hs:Sub H H' d.ids)(h:purDK H d=some (d',e)):purDK H' d=some (d',e):=by
 unfold purDK at h ⊢
 split at h
 ·rename_i ds
  cases h1:purLK H ds with
  | none=>rw[h1] at h;simp at h
  | some p =>
   obtain⟨d1,e1⟩:=p
   rw[h1] at h
   simp only[purLK_sub ds H H' d1 e1 hs h1]
   exact h
 ·rename_i hd
  refine pur1K_sub (fun id hid=>hs id ?_) h
  cases d<;>first|exact hid|exact absurd rfl (hd _)|(simp[D.ids1] at hid)
theorem purDsK_sub:∀ (ds:List D) (H H':Nat→Option Blk) (ds':List D) (e:Eff),Sub H H' (ds.flatMap D.ids)→purDsK H ds=some (ds',e)→purDsK H' ds=some (ds',e)
 | [],H,H',ds',e,_,h=>by simpa[purDsK] using h
 | d::ds,H,H',ds',e,hs,h=>by
  simp only[purDsK] at h ⊢
  cases h1:purDK H d with
  | none=>rw[h1] at h;simp at h
  | some p =>
   obtain⟨d1,e1⟩:=p
   rw[h1] at h
   rw[purDK_sub (fun id hid=>hs id (by simp[hid])) h1]
   simp only at h ⊢
   cases h2:purDsK (appEff H e1) ds with
   | none=>rw[h2] at h;simp at h
   | some q =>
    obtain⟨d2,e2⟩:=q
    rw[h2] at h
    rw[purDsK_sub ds _ (appEff H' e1) d2 e2 (Sub.app (fun id hid=>hs id (by simp only[List.flatMap_cons,List.mem_append];exact .inr hid)) e1) h2]
    exact h
theorem s_buildSliceG(hS:StOK C w a B S)(hn:¬ C.live nid)(t e:TypeId)(len k:Nat)(parts:Array (Nat × Operand))(z:D)(xs:List D)(ep:Eff)(ht:sliceT P t=some e)(hk:szT P e=some k)(hpur:∃ C1,Pub C w B S.heap C1 (appEff S.heap ep)∧(parts.toList.map fun p=>a.eval p.2).length=xs.length∧∀ (i:Nat) v d,(parts.toList.map fun p=>a.eval p.2)[i]? = some v→xs[i]? = some d→Rep w (cF C1.F) v d∧d.okS=true)(hp:parts.toList.map (·.1)=List.range len)
  (hx:∀ x ∈ xs,x.cells.length=k) (hm:len * k≤2 ^ 24) (hk0:0 < k) (hz:zeroD P e=some z) (hzo:z.okS=true) (hzl:z.cells.length=k) (ho:o.op=.buildSlice t len parts) :
  OpOK P o a w C B S.heap nid (.own nid len) (ep++[(nid,some (.vec e k xs false))]):=by
 have hlen:parts.toList.length=len:=by have:=congrArg List.length hp;simpa using this
 obtain⟨C1,hP,hvl,hvr⟩:=hpur
 refine OpOK.after hP ?_
 have hn1:¬ C1.live nid:=by rw[hP.live];exact hn
 obtain⟨zv,hzr,hzR⟩:=zeroD_run (C:=cF C1.F) (w:=w) hz
 have hzc:=hzR.cellsS hzo
 have hzs:zv.cells.size=k:=by have:=hzc.len;simp at this;omega
 have hxl:xs.length=len:=by rw[← hvl];simp[← hlen]
 have hinit:RepL (cF C1.F) w ((Array.range (len * k)).map (zv.cells[· % zv.cells.size]!)).toList (List.replicate (xs.length * k) .any):=by
  refine⟨by simp[hxl],fun v hv=>?_,fun i v d hv hd=>?_⟩
  ·simp at hv
   obtain⟨i,hi,rfl⟩:=hv
   have hlt:i % zv.cells.size < zv.cells.size:=Nat.mod_lt _ (by omega)
   rw[getElem!_pos zv.cells (i % zv.cells.size) hlt]
   exact hzc.one _ (by simp)
  ·rw[List.getElem?_replicate] at hd
   split at hd
   ·injection hd with hd;subst hd;exact .any _
   ·cases hd
 have hrel:∀ (i:Nat) p q,(parts.map fun p=>(p.1,a.eval p.2)).toList[i]? = some p→((List.range' 0 xs.length).zip xs)[i]? = some q→p.1=q.1∧Rep w (cF C1.F) p.2 q.2:=by
  intro i p q hp' hq
  rw[List.getElem?_zip_eq_some] at hq
  simp only[Array.toList_map,List.getElem?_map] at hp'
  cases hi:parts.toList[i]? with
  | none=>rw[hi] at hp';simp at hp'
  | some r =>
   rw[hi] at hp'
   simp at hp'
   subst hp'
   have h1:(parts.toList.map (·.1))[i]? = some r.1:=by simp[hi]
   rw[hp] at h1
   obtain⟨hq1,hq2⟩:=hq
   have hlt:i < len:=by have:=(List.getElem?_eq_some_iff.1 h1).1;simpa using this
   rw[List.getElem?_range hlt] at h1
   rw[List.getElem?_range' (by omega)] at hq1
   injection h1 with h1
   injection hq1 with hq1
   exact⟨by simp;omega,(hvr i _ _ (by simp[hi]) hq2).1⟩
 have hxs:∀ x ∈ xs,x.okS=true∧x.cells.length=k:=by
  intro x hx'
  obtain⟨i,hi⟩:=List.getElem?_of_mem hx'
  have hil:i < (parts.toList.map fun p=>a.eval p.2).length:=by rw[hvl];exact(List.getElem?_eq_some_iff.1 hi).1
  exact⟨(hvr i _ x (List.getElem?_eq_getElem hil) hi).2,hx x hx'⟩
 obtain⟨cells',h1,h2⟩:=fill_rep (C:=cF C1.F) (w:=w) (fun i=>some (i * k,k)) (parts.map fun p=>(p.1,a.eval p.2)).toList ((List.range' 0 xs.length).zip xs) _ _ _ hinit (by simp[hxl,hlen]) hrel
  (by have:=fillD_all k xs [] 0 hxs (by simp);simpa using this)
 have hcl:cells'.toList.length=len * k:=by rw[h2.len,flat_len2 k xs hx,hxl]
 have hrun:(execOp a.eval o).run P w=.ok (.value (.slice (some ⟨w.heap.size,0,none⟩) len len)) (w.alloc (.cells cells' e)):=by
  have hnot:¬ (len * k > 2 ^ 24):=by omega
  simp only[execOp,ho,Instr.buildSlice,Sem.run_bind,underlying_run (sliceT_under ht),Result.andThen_ok,szT_run hk,hnot,if_false,Sem.run_pure]
  by_cases h0:len * k=0
  ·simp only[h0,if_true,Sem.run_bind,Sem.run_pure,Result.andThen_ok] at h1 ⊢
   have e0:(Array.range 0).map (fun x=>(#[]:Array Value)[x % (#[]:Array Value).size]!)=(Array.range 0).map (zv.cells[· % zv.cells.size]!):=by simp
   rw[e0,h1]
   rfl
  ·simp only[h0,if_false,Sem.run_bind,hzr,Result.andThen_ok,Sem.run_pure,h1]
   rfl
 have hml:len≤maxLen:=by
  have:len≤len * k:=Nat.le_mul_of_pos_right _ hk0
  unfold maxLen;omega
 have hown:=ownsRow_new (w:=w) e k len cells'.toList hcl hml
 rw[Array.toArray_toList] at hown
 have:=ok_vec (w':=w.alloc (.cells cells' e)) (xs:=xs) (P:=P) (o:=o) (a:=a) hP.ok hP.fb hn1 hx h2 (by rw[hxl];exact hown) (fun g hg=>Below.heap_alloc w _ g hg) ((BelM.refl _ _).alloc _) hS.base (fun g hg=>by simp[Value.ownBlock] at hg;omega) hrun
 rw[hxl] at this
 exact this
theorem op2_sound:OpSound P (op2 P):=by
 intro o n S d eff h C a w B hS hn
 generalize hop:o.op=op at h
 cases op with
 | buildSlice t len parts =>
  simp only[op2] at h
  cases ht:sliceT P t with
  | none=>rw[ht] at h;cases h
  | some e =>
   simp only[ht] at h
   cases hf:fullT P e with
   | true=>simp only[hf] at h;exact aop_sound hS hn (by rw[hop];exact h)
   | false =>
    simp only[hf] at h
    unfold bsK at h
    cases hk:szT P e with
    | none=>rw[hk] at h;cases h
    | some k =>
     simp only[hk] at h
     cases hz:zeroD P e with
     | none=>rw[hz] at h;cases h
     | some z =>
      simp only[hz] at h
      cases hp:purDsK S.heap (parts.toList.map fun p=>S.val p.2) with
      | none=>rw[hp] at h;cases h
      | some q =>
       obtain⟨xs,ep⟩:=q
       simp only[hp] at h
       split at h
       case isFalse=>cases h
       rename_i hc
       simp only[Option.some.injEq,Prod.mk.injEq] at h
       obtain⟨rfl,rfl⟩:=h
       refine s_buildSliceG hS hn t e len k parts z xs ep ht hk ?_ hc.1 hc.2.1 hc.2.2.1 hc.2.2.2.1 hz hc.2.2.2.2.1 hc.2.2.2.2.2 hop
       exact purDsK_sound (w:=w) (B:=B) _ (parts.toList.map fun p=>a.eval p.2) C S.heap xs ep hS.heap hS.fb (by simp) (fun i v d hv hd=>by
        simp only[List.getElem?_map] at hv hd
        cases hi:parts.toList[i]? with
        | none=>rw[hi] at hv;simp at hv
        | some r=>rw[hi] at hv hd;simp at hv hd;subst hv hd;exact hS.env.val _) hp
 | _=>exact aop_sound hS hn (by rw[hop];exact h)
theorem op2_mono:OpMono (op2 P):=by
 intro S S' op nid d eff hq hv hh h
 cases op with
 | buildSlice t len parts =>
  simp only[op2] at h ⊢
  cases ht:sliceT P t with
  | none=>rw[ht] at h;cases h
  | some e =>
   simp only[ht] at h ⊢
   cases hf:fullT P e with
   | true=>simp only[hf] at h ⊢;exact aop_mono hq hv hh h
   | false =>
    simp only[hf] at h ⊢
    have hmem:∀ p ∈ parts.toList,p.2 ∈ (Op.buildSlice t len parts).operands.toList:=fun p hp=>by simp[Op.operands];exact⟨p.1,by simpa using hp⟩
    have e1:(parts.toList.map fun p=>S'.val p.2)=parts.toList.map fun p=>S.val p.2:=List.map_congr_left fun p hp=>hv p.2 (hmem p hp)
    unfold bsK at h ⊢
    rw[e1]
    cases hk:szT P e with
    | none=>rw[hk] at h;cases h
    | some k =>
     simp only[hk] at h ⊢
     cases hz:zeroD P e with
     | none=>rw[hz] at h;cases h
     | some z =>
      simp only[hz] at h ⊢
      cases hp:purDsK S.heap (parts.toList.map fun p=>S.val p.2) with
      | none=>rw[hp] at h;cases h
      | some q =>
       obtain⟨xs,ep⟩:=q
       rw[purDsK_sub _ _ S'.heap xs ep (fun id hid=>by
        simp only[List.mem_flatMap,List.mem_map] at hid
        obtain⟨dd,⟨p,hp,rfl⟩,hid⟩:=hid
        exact hh rfl p.2 (hmem p hp) id hid) hp]
       simp only[hp] at h
       exact h
 | _=>exact aop_mono (P:=P) (nid:=nid) hq hv hh h
end
def nilD (H:Nat→Option Blk):D→Option Bool
 | .nils=>some true
 | .sl (_::_)=>some false
 | .own id (n+1)=>match H id with
  | some (.vec _ _ xs _)=>match Nat.beq xs.length (n+1) with
   | true=>some false
   | false=>none
  | _=>none
 | _=>none
def opS (P:Program):OpF:=fun o nid S=>match o with
 | .binOp .and _ x y _=>match S.val x,S.val y with
  | .int k a,.int k' b=>if k=k' then some (.int k (k.wrap (BitVec.ofInt k.bits a &&& BitVec.ofInt k.bits b).toNat),[]) else none
  | _,_=>none
 | .binOp .eql t x y _=>match S.val y,sliceT P t with
  | .nils,some _=>match nilD S.heap (S.val x) with
   | some b=>some (.bool b,[])
   | none=>none
  | _,_=>none
 | .binOp .neq t x y _=>match S.val y,sliceT P t with
  | .nils,some _=>match nilD S.heap (S.val x) with
   | some b=>some (.bool (!b),[])
   | none=>none
  | _,_=>none
 | .slice t x none (some hi) none=>match S.val x,S.val hi,sliceT P t with
  | .own id n,.int _ 0,some e=>match S.heap id,szT P e with
   | some (.vec e' k xs false),some _=>if xs.length=n then some (.own nid 0,[(id,none),(nid,some (.vec e' k [] false))]) else none
   | _,_=>none
  | _,_,_=>none
 | .call c=>match c.callee,c.args.toList,c.argTypes.toList with
  | .builtin .cap,[x],[t]=>match S.val x,sliceT P t with
   | .nils,some _=>some (.int .i64 0,[])
   | _,_=>none
  | _,_,_=>none
 | _=>none
def op1 (P:Program):OpF:=fun o nid S=>match opS P o nid S with
 | some r=>some r
 | none=>op2 P o nid S
section
variable {P:Program}{o:Oper}{a:Act}{w:World}{C C':Cx}{B:Bx}{H:Nat→Option Blk}{nid:Nat}{S S':AS}{d:D}{eff:Eff}
theorem nilD_sound{v:Value}{b:Bool}(hH:HOK C w B H)(hr:Rep w C v d)(h:nilD H d=some b):∃ A n c,v=.slice A n c∧A.isNone=b:=by
 unfold nilD at h
 split at h
 ·simp only[Option.some.injEq] at h
  subst h
  cases hr
  exact⟨none,0,0,rfl,rfl⟩
 ·simp only[Option.some.injEq] at h
  subst h
  cases hr
  exact⟨_,_,_,rfl,rfl⟩
 ·rename_i id n
  split at h
  ·rename_i e k xs pb hb
   split at h
   ·rename_i hl
    simp only[Option.some.injEq] at h
    subst h
    have hl':=Nat.eq_of_beq_eq_true hl
    cases hr with
    | own _ _ c A hlv hm hs =>
     obtain⟨_,vals,how,_⟩:=hH.rep id _ hb
     rw[hs] at how
     rcases how.2 with⟨h1,h2⟩|⟨g,cap,cur,h1,_⟩
     ·omega
     ·injection h1 with h1 _ _
      exact⟨A,_,c,rfl,by rw[h1];rfl⟩
   ·cases h
  ·cases h
 ·cases h
theorem s_and(hS:StOK C w a B S)(t t':TypeId)(x y:Operand)(k:IntKind)(m n:Int)(hx:S.val x=.int k m)(hy:S.val y=.int k n)(ho:o.op=.binOp .and t x y t') :
  OpOK P o a w C B S.heap nid (.int k (k.wrap (BitVec.ofInt k.bits m &&& BitVec.ofInt k.bits n).toNat)) []:=by
 have h:=hS.env.val x
 have h':=hS.env.val y
 rw[hx] at h
 rw[hy] at h'
 generalize hv:a.eval x=v at h
 generalize hu:a.eval y=u at h'
 cases h
 cases h'
 refine .same hS.heap hS.fb ?_ (.int _ _ (wrap_inR _ _))
 have hg:(eqGuard .and t x y (.int k m) (.int k n)).run P w=.ok () w:=rfl
 simp only[execOp,ho,hv,hu,Sem.run_bind,hg,Result.andThen_ok,binOp,Op.intBits,ne_eq,not_true_eq_false,if_false]
 rfl
theorem s_nilEq(hS:StOK C w a B S)(t e t':TypeId)(x y:Operand)(b:Bool)(ht:sliceT P t=some e)(hy:S.val y=.nils)(hx:nilD S.heap (S.val x)=some b)(ho:o.op=.binOp .eql t x y t'):OpOK P o a w C B S.heap nid (.bool b) []:=by
 obtain⟨A,n,c,hv,rfl⟩:=nilD_sound hS.heap (hS.env.val x) hx
 have h':=hS.env.val y
 rw[hy] at h'
 generalize hu:a.eval y=u at h'
 cases h'
 refine .same hS.heap hS.fb ?_ (.bool _)
 have hg:(eqGuard .eql t x y (.slice A n c) (.slice none 0 0))=pure ():=rfl
 simp only[execOp,ho,hv,hu,hg,Sem.run_bind,Sem.run_pure,Result.andThen_ok,Lib.run_eql_slice_nil w t e A n c 0 0 (sliceT_under ht)]
theorem s_nilNe(hS:StOK C w a B S)(t e t':TypeId)(x y:Operand)(b:Bool)(ht:sliceT P t=some e)(hy:S.val y=.nils)(hx:nilD S.heap (S.val x)=some b)(ho:o.op=.binOp .neq t x y t'):OpOK P o a w C B S.heap nid (.bool (!b)) []:=by
 obtain⟨A,n,c,hv,rfl⟩:=nilD_sound hS.heap (hS.env.val x) hx
 have h':=hS.env.val y
 rw[hy] at h'
 generalize hu:a.eval y=u at h'
 cases h'
 refine .same hS.heap hS.fb ?_ (.bool _)
 have hg:(eqGuard .neq t x y (.slice A n c) (.slice none 0 0))=pure ():=rfl
 simp only[execOp,ho,hv,hu,hg,Sem.run_bind,Sem.run_pure,Result.andThen_ok,run_neq_slice_nil_any w t e A n c 0 0 (sliceT_under ht)]
theorem s_capNil(hS:StOK C w a B S)(t e:TypeId)(x:Operand)(ht:sliceT P t=some e)(hx:S.val x=.nils)(ho:o.op=.call { callee:=.builtin .cap,args:=#[x],argTypes:=#[t] }):OpOK P o a w C B S.heap nid (.int .i64 0) []:=by
 have h:=hS.env.val x
 rw[hx] at h
 generalize hv:a.eval x=v at h
 cases h
 refine .same hS.heap hS.fb ?_ (.int _ _ (by decide))
 simp[execOp,ho,hv,resolve,invoke,builtin,Builtin.cap_,underlying_run (sliceT_under ht),goInt]
theorem s_cutOwn(hS:StOK C w a B S)(hn:¬ C.live nid)(t e e':TypeId)(sz k id n:Nat)(k1:IntKind)(x hi:Operand)(xs:List D)(ht:sliceT P t=some e)(hsz:szT P e=some sz)(hx:S.val x=.own id n)(hh:S.val hi=.int k1 0)(hid:S.heap id=some (.vec e' k xs false))(hxn:xs.length=n)(ho:o.op=.slice t x none (some hi) none) :
  OpOK P o a w C B S.heap nid (.own nid 0) [(id,none),(nid,some (.vec e' k [] false))]:=by
 have hs':=hS.env.val x
 rw[hx] at hs'
 generalize hv:a.eval x=v at hs'
 cases hs' with
 | own _ _ c0 A0 hl0 hmm0 hσ =>
  obtain⟨_,vals,q1,q2,q3,q4⟩:=hS.heap.rep id _ hid
  rw[hσ] at q1
  have hA:n≤c0∧A0.map (fun ad=>ad.add (0 * sz))=A0∧w.ownsRow 0 e' k (.slice A0 0 c0) 0 []:=by
   rcases q1.2 with⟨h1,h2⟩|⟨g,cap,cur,h1,h2,h3,h4,h5,h6,h7⟩
   ·injection h1 with h1 h1' h1''
    subst h1 h1''
    exact⟨by omega,rfl,⟨by simp,.inl ⟨rfl,rfl⟩⟩⟩
   ·injection h1 with h1 h1' h1''
    subst h1 h1''
    exact⟨by omega,by simp[addr_add],⟨by simp,.inr ⟨g,c0,cur,rfl,h2,h3,Nat.zero_le _,h5,h6,by simp⟩⟩⟩
  obtain⟨hnc,hadd,hown⟩:=hA
  obtain⟨hb,hb2⟩:=bounds_run (P:=P) (w:=w) (lo:=none) (hi:=some hi) (len:=n) (cap:=c0) (l:=0) (h:=0) true hS.env rfl (by simp[hiD,hh]) (Nat.le_refl _) hnc
  simp only[Option.map_none] at hb
  have hrun:(execOp a.eval o).run P w=.ok (.value (.slice A0 0 c0)) w:=by
   simp only[execOp,ho,hv,Instr.sliceAt,Instr.slice,Sem.run_bind,underlying_run (sliceT_under ht),Result.andThen_ok,Option.map_none,hb,szT_run hsz,Sem.run_pure,hadd,ite_self,Nat.sub_zero]
  have e1:=Cx.new_ext (C:=C) (w:=w) (w':=w) hn (.slice A0 0 c0) (fun _ _ _=>rfl)
  have hs2:(C.new nid (.slice A0 0 c0)).σ nid=.slice A0 0 c0:=by simp[Cx.new,upd]
  have hbl:∀ m,blockOf (.slice A0 m c0)=blockOf (.slice A0 0 c0):=fun m=>by cases A0<;>rfl
  refine⟨_,_,w,C.new nid (.slice A0 0 c0),hrun,.inl rfl,BelM.refl _ _,e1,.own nid 0 c0 A0 (.inr rfl) (Nat.zero_le _) hs2,?_,?_,fun id h=>h,fun _ _ h=>.inl h⟩
  ·refine HOK.swap hS.heap hid hn e1 (fun g hg1 hg2=>rfl) ⟨[],?_,(fun y hy=>by cases hy),RepL.nil,?_⟩ hS.base (fun k cs h=>by cases h) (.inr ?_)
   ·rw[hs2];exact hown
   ·intro g hg'
    rw[hs2] at hg'
    refine⟨fun o hF=>?_,fun h=>by cases h⟩
    have:=((q4 g (by rw[hσ];rw[← blockOf_own] at hg' ⊢;rw[hbl];exact hg')).1 o hF).1
    cases this
   ·rw[hσ,hbl n]
  ·exact hS.fb
theorem op1_sound:OpSound P (op1 P):=by
 intro o n S d eff h C a w B hS hn
 unfold op1 at h
 cases hs:opS P o.op n S with
 | none=>rw[hs] at h;exact op2_sound o n S d eff h C a w B hS hn
 | some r =>
  rw[hs] at h
  simp only[Option.some.injEq] at h
  subst h
  generalize hop:o.op=op at hs
  unfold opS at hs
  split at hs
  ·rename_i t x y t'
   split at hs
   ·rename_i k m k' m' hx hy
    split at hs
    ·rename_i hk
     subst hk
     simp only[Option.some.injEq,Prod.mk.injEq] at hs
     obtain⟨rfl,rfl⟩:=hs
     exact s_and hS t t' x y k m m' hx hy hop
    ·cases hs
   ·cases hs
  ·rename_i t x y t'
   split at hs
   ·rename_i e hy ht
    split at hs
    ·rename_i b hb
     simp only[Option.some.injEq,Prod.mk.injEq] at hs
     obtain⟨rfl,rfl⟩:=hs
     exact s_nilEq hS t e t' x y b ht hy hb hop
    ·cases hs
   ·cases hs
  ·rename_i t x y t'
   split at hs
   ·rename_i e hy ht
    split at hs
    ·rename_i b hb
     simp only[Option.some.injEq,Prod.mk.injEq] at hs
     obtain⟨rfl,rfl⟩:=hs
     exact s_nilNe hS t e t' x y b ht hy hb hop
    ·cases hs
   ·cases hs
  ·rename_i t x hi
   split at hs
   ·rename_i id m k1 e hx hh ht
    split at hs
    ·rename_i e' k xs sz hid hsz
     split at hs
     ·rename_i hxn
      simp only[Option.some.injEq,Prod.mk.injEq] at hs
      obtain⟨rfl,rfl⟩:=hs
      exact s_cutOwn hS hn t e e' sz k id m k1 x hi xs ht hsz hx hh hid hxn hop
     ·cases hs
    ·cases hs
   ·cases hs
  ·rename_i c
   obtain⟨callee,⟨args⟩,⟨argTypes⟩⟩:=c
   split at hs
   ·rename_i x t hc ha htt
    simp only at hc ha htt
    subst hc ha htt
    split at hs
    ·rename_i e hx ht
     simp only[Option.some.injEq,Prod.mk.injEq] at hs
     obtain⟨rfl,rfl⟩:=hs
     exact s_capNil hS t e x ht hx hop
    ·cases hs
   ·cases hs
  ·cases hs
end
section
variable {P:Program}{o:Oper}{a:Act}{w:World}{C C':Cx}{B:Bx}{H:Nat→Option Blk}{nid:Nat}{S S':AS}{d:D}{eff:Eff}
theorem s_zeros(hS:StOK C w a B S)(hn:¬ C.live nid)(s x:Operand)(t tn e:TypeId)(kn k1:IntKind)(k by_:Nat)(n:Int)(z:D)(ht:sliceT P t=some e)(htn:intT P tn=some kn)(hk:szT P e=some k)(hb:bytesT P e=some by_)(hz:zeroD P e=some z)(hzo:z.okS=true)(hzl:z.cells.length=k)
  (hs:S.val s=.nils) (hx:S.val x=.int k1 n) (h0:0 < n) (hk0:0 < k) (hm:n≤(maxLen:Int)) (hby:n * by_≤140737488355328) (ho:o.op=.call { callee:=.builtin .append,args:=#[s,x],argTypes:=#[t,tn] }) :
  OpOK P o a w C B S.heap nid (.own nid n.toNat) [(nid,some (.vec e k (List.replicate n.toNat z) false))]:=by
 obtain⟨i,zv,hi,hzv,rfl⟩:=zeroD_info hz
 have hsz:i.size=k:=by
  obtain⟨i',h1,h2⟩:=szT_info hk
  rw[hi] at h1;injection h1 with h1;rw[h1];exact h2
 have hbi:i.bytes=by_:=bytesT_info hb hi
 have hzR:Rep w (cF C.F) zv (cD zv):=rep_cD zv
 have hzc:=hzR.cellsS hzo
 have hzs:zv.cells.size=k:=by have:=hzc.len;simp at this;omega
 obtain⟨m,rfl⟩:∃ m:Nat,n=(m:Int):=⟨n.toNat,by omega⟩
 simp only[Int.toNat_natCast]
 have hs':=hS.env.val s
 rw[hs] at hs'
 generalize hv:a.eval s=v at hs'
 cases hs'
 have hxv:=rep_int1' (by have:=hS.env.val x;rw[hx] at this;exact this)
 have hml:m≤maxLen:=by omega
 have hxk:∀ x ∈ List.replicate m (cD zv),x.cells.length=k:=fun x hx=>by rw[List.eq_of_mem_replicate hx];exact hzl
 have hfl:((List.replicate m (cD zv)).flatMap D.cells).length=m * k:=by rw[flat_len2 k _ hxk,List.length_replicate]
 have hcl:(Builtin.zeroCells zv.cells m).toList.length=m * k:=by simp[Builtin.zeroCells,hzs]
 have hat:∀ i,i < m * k→zv.cells.toList[i % k]? = some (zv.cells[i % zv.cells.size]!):=by
  intro i hi
  have hlt:i % zv.cells.size < zv.cells.size:=Nat.mod_lt _ (by omega)
  rw[getElem!_pos zv.cells (i % zv.cells.size) hlt,← hzs]
  simp[hlt]
 have hL:RepL (cF C.F) w (Builtin.zeroCells zv.cells m).toList ((List.replicate m (cD zv)).flatMap D.cells):=by
  refine⟨by rw[hcl,hfl],fun v hv=>?_,fun i v d hv hd=>?_⟩
  ·simp[Builtin.zeroCells] at hv
   obtain⟨i,hi,rfl⟩:=hv
   exact hzc.one _ (List.mem_of_getElem? (hat i (by rw[← hzs];exact hi)))
  ·have hi:i < m * k:=by have:=(List.getElem?_eq_some_iff.1 hd).1;omega
   rw[flat_rep k (cD zv) hzl m i hi] at hd
   have hv':v=zv.cells[i % zv.cells.size]!:=by
    simp[Builtin.zeroCells,hzs,hi] at hv
    rw[hzs]
    exact hv.symm
   exact hzc.rep (i % k) v d (by rw[hat i hi,hv']) hd
 have hbm:m * i.bytes≤281474976710656:=by
  rw[hbi]
  have:((m * by_:Nat):Int)≤140737488355328:=by rw[Int.natCast_mul];exact hby
  omega
 have hrun:=Lib.run_append_nil_zeros (P:=P) w t tn o.type e i zv k1 kn (sliceT_under ht) (intT_under htn) hi hzv m (by omega) (by rw[hsz];exact hk0) (by unfold maxLen at hml;omega) hbm
 have hge:=grownCap_ge w m 0 e
 have hcm:=grownCap_le_maxLen w m 0 e hml
 have hxl:(List.replicate m (cD zv)).length=m:=List.length_replicate
 have hown:(w.drew.alloc (.cells (Builtin.zeroCells zv.cells m++Builtin.zeroCells zv.cells (grownCap w m 0 e - m)) e)).ownsRow 0 e k (.slice (some ⟨w.heap.size,0,none⟩) m (grownCap w m 0 e)) m (Builtin.zeroCells zv.cells m).toList:=by
  refine⟨hcl,.inr ⟨w.heap.size,_,_,rfl,Nat.zero_le _,heap_alloc_new w.drew _,hge,hcm,?_,?_⟩⟩
  ·rw[Array.size_append,size_zeroCells,size_zeroCells,hzs,← Nat.add_mul];congr 1;omega
  ·rw[Array.toList_append,← hcl];exact List.take_left
 have:=ok_vec (w':=w.drew.alloc (.cells (Builtin.zeroCells zv.cells m++Builtin.zeroCells zv.cells (grownCap w m 0 e - m)) e)) (v:=.slice (some ⟨w.heap.size,0,none⟩) m (grownCap w m 0 e)) (xs:=List.replicate m (cD zv)) (P:=P) (o:=o) (a:=a) hS.heap hS.fb hn hxk hL (by rw[hxl];exact hown) (fun g hg=>Below.heap_alloc w.drew _ g hg) ⟨rfl,rfl,rfl,by simp,fun g hg _=>Below.heap_alloc w.drew _ g hg⟩ hS.base (fun g hg=>by simp[Value.ownBlock] at hg;omega) (by
  simp only[execOp,ho,resolve,invoke,builtin,Sem.run_bind,Sem.run_pure,Result.andThen_ok,List.map_toArray,List.map_cons,List.map_nil,hv,hxv,hrun])
 rw[hxl] at this
 exact this
def opZ (P:Program)(c:Call)(nid:Nat)(S:AS):Option (D × Eff):=match c.callee,c.args.toList,c.argTypes.toList with
 | .builtin .append,[s,x],[t,tn]=>match S.val s,S.val x,sliceT P t,intT P tn with
  | .nils,.int _ n,some e,some _=>match szT P e,bytesT P e,zeroD P e with
   | some k,some by_,some z=>if 0 < n∧0 < k∧n≤(maxLen:Int)∧n * by_≤140737488355328∧z.okS=true∧z.cells.length=k then some (.own nid n.toNat,[(nid,some (.vec e k (List.replicate n.toNat z) false))]) else none
   | _,_,_=>none
  | _,_,_,_=>none
 | _,_,_=>none
def opE (P:Program):OpF:=fun o nid S=>match o with
 | .call c=>match opZ P c nid S with
  | some r=>some r
  | none=>op1 P (.call c) nid S
 | o=>op1 P o nid S
theorem opZ_sound(hS:StOK C w a B S)(hn:¬ C.live nid)(c:Call)(h:opZ P c nid S=some (d,eff))(hop:o.op=.call c):OpOK P o a w C B S.heap nid d eff:=by
 obtain⟨callee,⟨args⟩,⟨argTypes⟩⟩:=c
 unfold opZ at h
 split at h
 ·rename_i s x t tn hc ha htt
  simp only at hc ha htt
  subst hc ha htt
  split at h
  ·rename_i k1 n e kn hs hx ht htn
   split at h
   ·rename_i k by_ z hk hb hz
    split at h
    ·rename_i hcd
     simp only[Option.some.injEq,Prod.mk.injEq] at h
     obtain⟨rfl,rfl⟩:=h
     exact s_zeros hS hn s x t tn e kn k1 k by_ n z ht htn hk hb hz hcd.2.2.2.2.1 hcd.2.2.2.2.2 hs hx hcd.1 hcd.2.1 hcd.2.2.1 hcd.2.2.2.1 hop
    ·cases h
   ·cases h
  ·cases h
 ·cases h
theorem opE_sound:OpSound P (opE P):=by
 intro o n S d eff h C a w B hS hn
 generalize hop:o.op=op at h
 cases op with
 | call c =>
  simp only[opE] at h
  cases hz:opZ P c n S with
  | none=>rw[hz] at h;exact op1_sound o n S d eff (by rw[hop];exact h) C a w B hS hn
  | some r =>
   rw[hz] at h
   simp only[Option.some.injEq] at h
   subst h
   exact opZ_sound hS hn c hz hop
 | _=>exact op1_sound o n S d eff (by rw[hop];exact h) C a w B hS hn
end
def pureX(f0:FuncId)(g:List D→Option D):CallF:=fun f ds h n=>match Nat.beq f f0 with
 | true=>match purDs h.get ds with
  | some (ds',eff)=>match g ds',appTr h eff with
   | some d,some h'=>some (d,h',n,eff.map (·.1))
   | _,_=>none
  | none=>none
 | false=>none
def effX (f0:FuncId)(g:List D→Tr Blk→Nat→Option (D × Eff)):CallF:=fun f ds h n=>match Nat.beq f f0 with
 | true=>match g ds h n with
  | some (d,eff)=>match appTr h eff with
   | some h'=>some (d,h',n+1,eff.map (·.1))
   | none=>none
  | none=>none
 | false=>none
def orX (x y:CallF):CallF:=fun f ds h n=>match x f ds h n with
 | some r=>some r
 | none=>y f ds h n
section
variable {P:Program}{I:World→Prop}
theorem appTr_out{eff:Eff}{h h':Tr Blk}(ha:appTr h eff=some h')(id:Nat)(hi:id ∉ eff.map (·.1)):h'.get id=h.get id:=by
 rw[appTr_get eff ha]
 exact appEff_notin _ _ _ fun p hp he=>hi (List.mem_map.2 ⟨p,hp,he⟩)
theorem orX_sound{x y:CallF}(hx:CallSound P I x)(hy:CallSound P I y):CallSound P I (orX x y):=by
 intro f ds h n d h' m l hv
 unfold orX at hv
 split at hv
 ·rename_i r hr
  simp only[Option.some.injEq] at hv
  subst hv
  exact hx f ds h n d h' m l hr
 ·exact hy f ds h n d h' m l hv
theorem pureX_sound(hstab:Stab I){f0:FuncId}{g:List D→Option D}(hg:∀ ds d,g ds=some d→AFun P I f0 ds d):CallSound P I (pureX f0 g):=by
 intro f ds h n d h' m l hv
 unfold pureX at hv
 split at hv
 ·rename_i hf
  have hf':=Nat.eq_of_beq_eq_true hf
  subst hf'
  split at hv
  ·rename_i ds' eff hp
   split at hv
   ·rename_i d0 h0 hd ha
    simp only[Option.some.injEq,Prod.mk.injEq] at hv
    obtain⟨rfl,rfl,rfl,rfl⟩:=hv
    refine⟨Nat.le_refl _,?_,appTr_out ha⟩
    rw[appTr_get eff ha]
    exact XOK.pure hstab hp (hg _ _ hd)
   ·cases hv
  ·cases hv
 ·cases hv
theorem effX_sound{f0:FuncId}{g:List D→Tr Blk→Nat→Option (D × Eff)}(hg:∀ ds h n d eff,g ds h n=some (d,eff)→CallOK P I f0 ds h.get n d eff):CallSound P I (effX f0 g):=by
 intro f ds h n d h' m l hv
 unfold effX at hv
 split at hv
 ·rename_i hf
  have hf':=Nat.eq_of_beq_eq_true hf
  subst hf'
  split at hv
  ·rename_i d0 eff hd
   split at hv
   ·rename_i h0 ha
    simp only[Option.some.injEq,Prod.mk.injEq] at hv
    obtain⟨rfl,rfl,rfl,rfl⟩:=hv
    refine⟨by omega,?_,appTr_out ha⟩
    rw[appTr_get eff ha]
    exact XOK.of (hg _ _ _ _ _ hd)
   ·cases hv
  ·cases hv
 ·cases hv
theorem evF_xok{E E2:OpF}{X:CallF}{lf k:Nat}(hmix:P.follows .mixedOrders=true)(hE:OpSound P E)(hE2:OpSound P E2)(hm2:OpMono E2)(hX:CallSound P I X){f:FuncId}{ds:List D}{h h':Tr Blk}{n m:Nat}{d:D}{l:List Nat}(hv:evF P E X (fun cf=>evD E2 cf) lf k f ds h n=some (d,h',m,l)):XOK P I f ds h.get n m d h'.get :=
 (evF_sound hE hX (fun cf hcf=>evD_sound hE2 hm2 hmix hcf) k f ds h n d h' m l hv).2.1
def isTrue:Option (D × Tr Blk × Nat × List Nat)→Bool
 | some (.bool true,_)=>true
 | _=>false
theorem evF_true{E E2:OpF}{X:CallF}{lf k:Nat}(hstab:Stab I)(hmix:P.follows .mixedOrders=true)(hE:OpSound P E)(hE2:OpSound P E2)(hm2:OpMono E2)(hX:CallSound P I X){f:FuncId}(hv:isTrue (evF P E X (fun cf=>evD E2 cf) lf k f [] .nil 0)=true):AFun P I f [] (.bool true):=by
 unfold isTrue at hv
 split at hv
 ·rename_i r he
  obtain⟨h',m,l⟩:=r
  exact XOK.toFun hstab (H':=h'.get) (n:=0) (m:=m) (evF_xok hmix hE hE2 hm2 hX he)
 ·cases hv
end
open Go.RowKit Go.Sort Go.Shelf
section
variable {P:Program}{I:World→Prop}{f:FuncId}
theorem flat_ints(l:List Int):(l.map (D.int .i64)).flatMap D.cells=l.map (D.int .i64):=by
 induction l with
 | nil=>rfl
 | cons x l ih=>simp[D.cells,ih]
theorem rep_int1Z{w:World}{C:Cx}{v:Value}{x:Int}(h:Rep w C v (.int .i64 x)):v=.int .i64 x∧inR .i64 x:=by cases h;exact⟨rfl,by assumption⟩
theorem vals_ints{w:World}{C:Cx}:∀ {vals:List Value} {zs:List Int},RepL C w vals (zs.map (D.int .i64))→vals=zs.map (Value.int .i64)∧∀ z ∈ zs,inR .i64 z:=by
 intro vals zs h
 have hl:vals.length=zs.length:=by simpa using h.len
 have key:∀ (i:Nat) (hi:i < zs.length),vals[i]? = some (Value.int .i64 zs[i])∧inR .i64 zs[i]:=by
  intro i hi
  obtain⟨hv,hm⟩:=rep_int1Z (h.rep i (vals[i]'(by omega)) (.int .i64 zs[i]) (List.getElem?_eq_getElem _) (by simp[hi]))
  exact⟨by rw[List.getElem?_eq_getElem (by omega:i < vals.length),hv],hm⟩
 refine⟨List.ext_getElem? fun i=>?_,fun z hz=>?_⟩
 ·by_cases hi:i < zs.length
  ·rw[(key i hi).1];simp[hi]
  ·rw[List.getElem?_eq_none (by omega),List.getElem?_eq_none (by simp;omega)]
 ·obtain⟨i,hi,rfl⟩:=List.getElem_of_mem hz
  exact(key i hi).2
theorem ints_vals{w:World}{C:Cx}{zs:List Int}(hz:∀ z ∈ zs,inR .i64 z):RepL C w (zs.map (Value.int .i64)) (zs.map (D.int .i64)):=by
 refine⟨by simp,fun v hv=>?_,fun i v d hv hd=>?_⟩
 ·obtain⟨z,_,rfl⟩:=List.mem_map.1 hv;rfl
 ·simp only[List.getElem?_map] at hv hd
  cases hi:zs[i]? with
  | none=>rw[hi] at hv;simp at hv
  | some s =>
   rw[hi] at hv hd
   simp at hv hd
   subst hv hd
   exact .int .i64 s (hz s (List.mem_of_getElem? hi))
theorem put_blockI(w:World)(n g:Nat)(d:Array Int)(os:Array Obj)(k:Nat)(hk:k < w.heap.size)(hne:k≠g):(grow (putRow (Value.int .i64) (Sort.ahead w n) g 0 d) os).heap[k]? = w.heap[k]?:=by
 simp only[grow,putRow,mapBlock,Sort.ahead];rw[Array.getElem?_append_left (by simpa using hk),Array.getElem?_modify,if_neg (Ne.symm hne)]
theorem put_belI(w:World)(n g:Nat)(d:Array Int)(os:Array Obj){M:Nat→Prop}(hg:M g):BelM M w (grow (putRow (Value.int .i64) (Sort.ahead w n) g 0 d) os) :=
 ⟨rfl,rfl,rfl,by simp[grow,putRow,mapBlock,Sort.ahead],fun k hk hm=>put_blockI w n g d os k hk fun e=>hm (e ▸ hg)⟩
theorem CallOK.cut_ints(he:enterable P f=true){e:TypeId}{id nid:Nat}{zs ys ps:List Int}{H:Nat→Option Blk}(hH:H id=some (.vec e 1 (zs.map (D.int .i64)) false))(hlt:(ys++ps).length=zs.length)(hts:∀ t ∈ ys,t ∈ zs)
  (h0:zs=[]→∀ (w:World) (A:Option Addr) (cap:Nat),Calls P f #[.slice A 0 cap] w fun e w'=>e=.returned (.slice A 0 cap)∧w'=w)
  (h1:zs≠[]→∀ (w:World) (blk cap:Nat),Holds (Value.int .i64) w blk 0 zs.toArray→blk < w.heap.size→zs.length≤cap→cap≤maxLen→Calls P f #[.slice (some ⟨blk,0,none⟩) zs.length cap] w fun e w'=>e=.returned (.slice (some ⟨blk,0,none⟩) ys.length cap)∧∃ q,w'=putRow (Value.int .i64) (Sort.ahead w q) blk 0 (ys++ps).toArray) :
  CallOK P I f [.own id zs.length] H nid (.own nid ys.length) [(id,none),(nid,some (.vec e 1 (ys.map (D.int .i64)) false))]:=by
 refine⟨he,fun i0 w C B args hI hb0 hM hok hF hbase hnid hal hrep=>?_⟩
 obtain⟨v,rfl⟩:∃ v,args=[v]:=by
  match args,hal with
  | [v],_=>exact⟨v,rfl⟩
 have hv:=hrep 0 v _ rfl rfl
 obtain⟨hlv,hB⟩:=hok.rep id _ hH
 obtain⟨vals,hown,hcl,hRL,hfz⟩:=hB
 rw[flat_ints] at hRL
 obtain⟨rfl,hzm⟩:=vals_ints hRL
 have hnoid:H nid=none:=by
  cases hn2:H nid with
  | none=>rfl
  | some b=>exact absurd (hok.rep _ _ hn2).1 hnid
 have hcase:∀ id' b,appEff H [(id,none),(nid,some (.vec e 1 (ys.map (D.int .i64)) false))] id'=some b→(id'=nid∧b=.vec e 1 (ys.map (D.int .i64)) false)∨(id'≠nid∧id'≠id∧H id'=some b):=by
  intro id' b hb
  rcases appEff_cases _ _ _ _ hb with⟨k1,k2⟩|k1
  ·exact .inr ⟨fun e'=>k1 (nid,some (.vec e 1 (ys.map (D.int .i64)) false)) (by simp) e'.symm,fun e'=>k1 (id,none) (by simp) e'.symm,k2⟩
  ·simp only[List.mem_cons,Prod.mk.injEq,reduceCtorEq,and_false,false_or,Option.some.injEq,List.not_mem_nil,or_false] at k1
   exact .inl k1
 have hlen:ys.length≤zs.length:=by rw[List.length_append] at hlt;omega
 cases hv with
 | own _ _ c A _ hm hs =>
 rw[hs,List.length_map] at hown
 -- what follows, whatever the world behind the call is
 have fin:∀ w':World,BelM B.M w w'→(∀ k,k < w.heap.size→blockOf (C.σ id)≠some k→w'.heap[k]? = w.heap[k]?)→w'.ownsRow 0 e 1 (.slice A ys.length c) ys.length (ys.map (Value.int .i64)) →
   ∃ v' C',Ending.returned (.slice A ys.length c)=.returned v'∧BelM B.M w w'∧Ext C w C' w'∧Rep w' C' v' (.own nid ys.length)∧HOK C' w' B (appEff H [(id,none),(nid,some (.vec e 1 (ys.map (D.int .i64)) false))])∧FB C' w'∧(∀ id,C'.live id→C.live id∨id=nid)∧∀ b o,C'.F b o→C.F b o∨B.M b:=by
  intro w' hbel hblk hown'
  let C2:Cx:=⟨C.F,fun i=>if i=nid then .slice A ys.length c else C.σ i,fun i=>C.live i∨i=nid⟩
  have hσ2:∀ i,C.live i→C2.σ i=C.σ i:=fun i hid=>by
   have:i≠nid:=fun e=>hnid (e ▸ hid)
   simp only[C2,if_neg this]
  have hσn:C2.σ nid=.slice A ys.length c:=by simp only[C2,if_true]
  have hbo:blockOf (C2.σ nid)=blockOf (C.σ id):=by rw[hσn,hs];cases A<;>rfl
  have hnF:∀ b o,C.F b o→blockOf (C.σ id)≠some b:=fun b o ho hb=>by
   have:=((hfz b (by rw[hs] at hb ⊢;cases A<;>simp_all[blockOf,Value.ownBlock])).1 o ho).1
   cases this
  have hext:Ext C w C2 w':=⟨fun _ _ h=>h,fun b o hbo'=>hblk b (hF b o hbo') (hnF b o hbo'),fun _ h=>.inl h,hσ2⟩
  refine⟨_,C2,rfl,hbel,hext,.own nid ys.length c A (.inr rfl) (Nat.le_trans hlen hm) hσn,?_,fun b o hbo'=>Nat.lt_of_lt_of_le (hF b o hbo') hbel.size,fun _ h=>h,fun _ _ h=>.inl h⟩
  refine⟨fun id' b hb'=>?_,fun id' b hb' g' hg=>?_,fun id' kk cs hb'=>?_,fun id1 id2 b1 b2 hb1 hb2 hne2 g' hg hg'=>?_⟩
  ·rcases hcase id' b hb' with⟨rfl,rfl⟩|⟨hne,hne',k⟩
   ·refine⟨.inr rfl,ys.map (Value.int .i64),?_,fun x hx=>?_,?_,fun g' hg'=>⟨fun o ho=>?_,fun h=>by cases h⟩⟩
    ·rw[hσn,List.length_map];exact hown'
    ·obtain⟨t,_,rfl⟩:=List.mem_map.1 hx;rfl
    ·rw[flat_ints];exact ints_vals fun t ht=>hzm t (hts t ht)
    ·refine absurd ?_ (hnF g' o ho)
     rw[hσn] at hg'
     rw[hs]
     cases A<;>simp_all[blockOf,Value.ownBlock]
   ·obtain⟨k1,k2⟩:=hok.rep id' b k
    refine⟨.inl k1,k2.keep k1 hext (fun g' hg'=>hblk g' (k2.lt g' hg').2 fun e'=>?_) fun _ _ _ h=>h⟩
    exact hok.apart _ _ _ _ hH k (Ne.symm hne') g' e' hg'
  ·rcases hcase id' b hb' with⟨rfl,rfl⟩|⟨hne,hne',k⟩
   ·rw[hbo] at hg;exact hok.own _ _ hH g' hg
   ·rw[hσ2 id' (hok.rep _ _ k).1] at hg;exact hok.own _ _ k g' hg
  ·rcases hcase id' _ hb' with⟨rfl,h⟩|⟨hne,hne',k⟩
   ·cases h
   ·rw[hσ2 id' (hok.rep _ _ k).1];exact hok.pin _ _ _ k
  ·rcases hcase id1 b1 hb1 with⟨rfl,rfl⟩|⟨hne,hne',k⟩
   ·rcases hcase id2 b2 hb2 with⟨rfl,rfl⟩|⟨hne3,hne4,k'⟩
    ·exact hne2 rfl
    ·rw[hbo] at hg
     rw[hσ2 id2 (hok.rep _ _ k').1] at hg'
     exact hok.apart _ _ _ _ hH k' (Ne.symm hne4) g' hg hg'
   ·rw[hσ2 id1 (hok.rep _ _ k).1] at hg
    rcases hcase id2 b2 hb2 with⟨rfl,rfl⟩|⟨hne3,hne4,k'⟩
    ·rw[hbo] at hg'
     exact hok.apart _ _ _ _ k hH hne' g' hg hg'
    ·rw[hσ2 id2 (hok.rep _ _ k').1] at hg'
     exact hok.apart _ _ _ _ k k' hne2 g' hg hg'
 by_cases hz:zs=[]
 ·subst hz
  obtain rfl:ys=[]:=List.eq_nil_of_length_eq_zero (by simpa using hlen)
  refine(h0 rfl w A c).mono ?_
  rintro e' w' ⟨rfl,rfl⟩
  exact fin w' (BelM.refl _ _) (fun _ _ _=>rfl) hown
 ·have hnz:zs.length≠0:=fun h=>hz (List.eq_nil_of_length_eq_zero h)
  obtain⟨g,cap,e1,_,hgl,hncap,hcm,_,hHolds⟩:=Lib.holds_of_ownsRow hown (by intro h;injection h with _ h;exact hnz h)
  cases e1
  refine(h1 hz w g c hHolds hgl hncap hcm).mono ?_
  rintro e' w' ⟨rfl,q,rfl⟩
  have hMg:B.M g:=hok.own id _ hH g (by rw[hs];rfl)
  have hput:=put_belI w q g (ys++ps).toArray #[] hMg
  rw[grow_empty] at hput
  have hrow:=Lib.ownsRow_putRow (q:=q) (k:=ys.length) (ys:=ys++ps) hown hlt hlen
  rw[List.take_left] at hrow
  refine fin _ hput (fun k hk hne=>?_) hrow
  have:=put_blockI w q g (ys++ps).toArray #[] k hk fun e'=>hne (by rw[hs,e'];rfl)
  rwa[grow_empty] at this
end
theorem c_mem_compactI{zs:List Int}{x:Int}(h:x ∈ Lib.compact zs):x ∈ zs:=by
 unfold Lib.compact Lib.compactUpTo at h;obtain⟨i,hi,rfl⟩:=List.mem_map.1 h;have hi':i < zs.length:=List.mem_range.1 (List.mem_filter.1 hi).1;simp[getElem!_pos,hi']
theorem c_Compact64{I:World→Prop}{e:TypeId}{id nid:Nat}{l:List Int}{H:Nat→Option Blk}(hH:H id=some (.vec e 1 (l.map (D.int .i64)) false))(hz:l.length≤9223372036854775807) :
  CallOK Tryz.prog I 156 [.own id l.length] H nid (.own nid (Lib.compact l).length) [(id,none),(nid,some (.vec e 1 ((Lib.compact l).map (D.int .i64)) false))]:=by
 refine CallOK.cut_ints (ps:=List.replicate (l.length - (Lib.compact l).length) 0) (by kernel_rfl) hH (by have:=Lib.compact_length_le l;simp;omega) (fun t ht=>c_mem_compactI ht) (fun _ w A cap=>?_) fun _ w blk cap hh hb hc _=>?_
 ·exact Tryz.slices_Compact_int_empty A cap w
 ·exact Tryz.slices_Compact_int blk 0 cap l w hh hz hc
set_option maxRecDepth 100000
def ascL:List UInt8→Bool
 | []=>true
 | b::l=>match Nat.blt b.toNat 128 with
  | true=>ascL l
  | false=>false
theorem ascL_mem:∀ {l:List UInt8},ascL l=true→∀ b ∈ l,b.toNat < 128
 | b::l,h,x,hx=>by
  unfold ascL at h
  split at h
  ·rename_i hb
   rcases List.mem_cons.1 hx with rfl|hx
   ·simpa using hb
   ·exact ascL_mem h x hx
  ·cases h
theorem valid_asc{l:List UInt8}(h:ascL l=true):Lib.validD l=true:=by
 have:=Lib.validD_ascii l.length l (fun b hb=>ascL_mem h b (List.mem_of_mem_take hb))
 rw[List.drop_of_length_le (Nat.le_refl _)] at this
 rw[this];rfl
theorem runes_asc{l:List UInt8}(h:ascL l=true):Lib.runeCountL l=l.length:=by
 unfold Lib.runeCountL
 rw[Lib.runeCount_ascii]
 ·simp[ByteArray.size]
 ·intro j hj
  refine ascL_mem h _ ?_
  show(l.toArray)[j]'(by simpa[ByteArray.size] using hj) ∈ l
  simp
def spl (c:UInt8):List UInt8→List (List UInt8)
 | []=>[[]]
 | b::s=>match Nat.beq b.toNat c.toNat with
  | true=>[]::spl c s
  | false=>match spl c s with
   | []=>[[b]]
   | h::t=>(b::h)::t
theorem spl_eq(c:UInt8):∀ s:List UInt8,Lib.splitK [c] 0 (s.count c) s=spl c s
 | []=>rfl
 | b::s=>by
  have ih:=spl_eq c s
  unfold spl
  split
  ·rename_i hb
   have e:b=c:=UInt8.toNat_inj.1 (Nat.eq_of_beq_eq_true hb)
   subst e
   rw[List.count_cons_self,Lib.splitK]
   have hi:Lib.index (b::s) [b]=0:=by simp[Lib.index]
   rw[hi]
   simp only[List.length_cons,List.length_nil]
   rw[if_neg (by decide)]
   simp[ih]
  ·rename_i hb
   have hne:b≠c:=fun e=>by rw[e] at hb;simp at hb
   rw[List.count_cons_of_ne hne]
   have hi:Lib.index (b::s) [c]=if Lib.index s [c] == -1 then -1 else Lib.index s [c]+1:=by
    have:([c].isPrefixOf (b::s))=false:=by simp[List.isPrefixOf,Ne.symm hne]
    rw[Lib.index,this];simp
   cases hk:s.count c with
   | zero =>
    rw[hk] at ih
    rw[← ih]
    simp[Lib.splitK]
   | succ k =>
    rw[hk] at ih
    rw[← ih]
    rw[Lib.splitK,Lib.splitK,hi]
    by_cases h1:(Lib.index s [c] == -1)=true
    ·rw[if_pos h1,if_pos h1];simp
    ·rw[if_neg h1,if_neg h1]
     have hge:=Lib.index_ge s [c]
     have hne1:Lib.index s [c]≠-1:=fun e=>h1 (by rw[e];rfl)
     obtain⟨m,hm⟩:=Int.eq_ofNat_of_zero_le (show 0≤Lib.index s [c] by omega)
     rw[hm]
     rw[if_neg (by simp only[beq_iff_eq];omega)]
     simp only[List.length_cons,List.length_nil]
     have e1:((m:Int)+1).toNat=m+1:=by omega
     rw[e1,Int.toNat_natCast]
     rfl
theorem split_spl(s:List UInt8)(c:UInt8):Lib.split s [c]=spl c s:=by
 unfold Lib.split
 rw[Lib.count_one]
 exact spl_eq c s
def inx (t:List UInt8):List UInt8→Bool
 | []=>t.isEmpty
 | b::s=>match t.isPrefixOf (b::s) with
  | true=>true
  | false=>inx t s
theorem inx_eq(t:List UInt8):∀ s:List UInt8,Lib.contains s t=inx t s
 | []=>by
  unfold Lib.contains Lib.index inx
  cases t.isEmpty<;>rfl
 | b::s=>by
  have ih:=inx_eq t s
  have hge:=Lib.index_ge s t
  unfold Lib.contains at ih ⊢
  unfold Lib.index inx
  cases t.isPrefixOf (b::s) with
  | true=>rfl
  | false =>
   simp only[Bool.false_eq_true,if_false]
   rw[← ih]
   by_cases h:Lib.index s t=-1
   ·rw[h];rfl
   ·have h':(Lib.index s t == -1)=false:=by simpa using h
    rw[h']
    simp only[Bool.false_eq_true,if_false,decide_eq_decide]
    omega
def decF:Nat→Nat→List UInt8→Option (List UInt8)
 | 0,_,_=>none
 | f+1,n,acc=>match Nat.blt n 10 with
  | true=>some (UInt8.ofNat (48+n)::acc)
  | false=>decF f (n / 10) (UInt8.ofNat (48+n % 10)::acc)
theorem decF_eq:∀ (f n:Nat) (acc r:List UInt8),decF f n acc=some r→r=Lib.decDigits n++acc
 | 0,n,acc,r,h=>by cases h
 | f+1,n,acc,r,h=>by
  unfold decF at h
  split at h
  ·rename_i hb
   have hb':n < 10:=by simpa using hb
   rw[Lib.decDigits,dif_pos hb']
   simp only[Option.some.injEq] at h
   rw[← h];rfl
  ·rename_i hb
   have hb':¬ n < 10:=fun h=>by
    have h2:Nat.blt n 10=true:=by rw[Nat.blt_eq];exact h
    rw[h2] at hb;cases hb
   rw[Lib.decDigits,dif_neg hb']
   rw[decF_eq f _ _ _ h]
   simp
def strsD:List D→Option (List (List UInt8))
 | []=>some []
 | .str s::l=>match strsD l with
  | some r=>some (s::r)
  | none=>none
 | _=>none
theorem strsD_eq:∀ {l:List D} {r},strsD l=some r→l=r.map D.str:=by
 intro l
 induction l with
 | nil=>intro r h;simp only[strsD,Option.some.injEq] at h;subst h;rfl
 | cons d l ih =>
  intro r h
  cases d with
  | str s =>
   simp only[strsD] at h
   cases hs:strsD l with
   | none=>rw[hs] at h;cases h
   | some r' =>
    rw[hs] at h
    simp only[Option.some.injEq] at h
    subst h
    rw[ih hs];rfl
  | _=>simp[strsD] at h
def intsD(k:IntKind):List D→Option (List Int)
 | []=>some []
 | .int k' x::l=>match decide (k'=k),intsD k l with
  | true,some r=>some (x::r)
  | _,_=>none
 | _=>none
theorem intsD_eq{k:IntKind}:∀ {l:List D} {r},intsD k l=some r→l=r.map (D.int k):=by
 intro l
 induction l with
 | nil=>intro r h;simp only[intsD,Option.some.injEq] at h;subst h;rfl
 | cons d l ih =>
  intro r h
  cases d with
  | int k' x =>
   simp only[intsD] at h
   cases hs:intsD k l with
   | none=>rw[hs] at h;split at h<;>simp_all
   | some r' =>
    rw[hs] at h
    split at h
    ·rename_i hk hr
     simp only[Option.some.injEq] at h hr
     subst h hr
     rw[ih hs,of_decide_eq_true hk];rfl
    ·cases h
  | _=>simp[intsD] at h
def gValid:List D→Option D
 | [.str s]=>match ascL s with
  | true=>some (.bool true)
  | false=>none
 | _=>none
def gCount:List D→Option D
 | [.str s]=>match ascL s,Nat.blt s.length 1000000 with
  | true,true=>some (.int .i64 s.length)
  | _,_=>none
 | _=>none
def gContains:List D→Option D
 | [.str s,.str t]=>match Nat.blt s.length 1000000 with
  | true=>some (.bool (inx t s))
  | false=>none
 | _=>none
def gCutP:List D→Option D
 | [.str s,.str t]=>match t.isPrefixOf s with
  | true=>some (.tup [.str (s.drop t.length),.bool true])
  | false=>some (.tup [.str s,.bool false])
 | _=>none
def gParse:List D→Option D
 | [.str s,.int .i64 b,.int .i64 n]=>match g_strconv_ParseInt s b n with
  | some r=>some (.tup [.int .i64 r.1,.err r.2])
  | none=>none
 | _=>none
def gFormat:List D→Option D
 | [.int .i64 (.ofNat n),.int .i64 10]=>match decF 20 n [] with
  | some r=>some (.str r)
  | none=>none
 | _=>none
def gSplit:List D→Option D
 | [.str s,.str [c]]=>match Nat.blt s.length 1000000 with
  | true=>some (.sl ((spl c s).map D.str))
  | false=>none
 | _=>none
def gJoin:List D→Option D
 | [.sl l,.str t]=>match strsD l with
  | some r=>match g_strings_Join r t with
   | some x=>some (.str x)
   | none=>none
  | none=>none
 | _=>none
def gWrite(ds:List D)(h:Tr Blk)(n:Nat):Option (D × Eff):=match ds with
 | [.ptr id 0,.str s]=>match Nat.beq n id,Nat.blt s.length 1000000 with
  | false,true=>match h.get id with
   | some (.bbox T [.sp i,.nils])=>match Nat.beq T 181,Nat.beq i id with
    | true,true=>some (.tup [.int .i64 s.length,.err false],[(n,some (.vec 5 1 ((toI s).map (D.int .u8)) false)),(id,some (.bbox 181 [.sp id,.own n (toI s).length]))])
    | _,_=>none
   | some (.bbox T [.sp i,.own j m])=>match Nat.beq T 181,Nat.beq i id,h.get j with
    | true,true,some (.vec e 1 xs false)=>match intsD .u8 xs with
     | some l=>match Nat.beq e 5,Nat.beq m l.length,Nat.blt l.length 1000000 with
      | true,true,true=>some (.tup [.int .i64 s.length,.err false],[(j,none),(n,some (.vec 5 1 ((l++toI s).map (D.int .u8)) false)),(id,some (.bbox 181 [.sp id,.own n (l++toI s).length]))])
      | _,_,_=>none
     | none=>none
    | _,_,_=>none
   | _=>none
  | _,_=>none
 | _=>none
def gString(ds:List D)(h:Tr Blk)(n:Nat):Option (D × Eff):=match ds with
 | [.ptr id 0]=>match h.get id with
  | some (.bbox T [.sp i,.nils])=>match Nat.beq T 181,Nat.beq i id with
   | true,true=>some (.str [],[])
   | _,_=>none
  | some (.bbox T [.sp i,.own j m])=>match Nat.beq T 181,Nat.beq i id,h.get j with
   | true,true,some (.vec e 1 xs false)=>match intsD .u8 xs with
    | some l=>match Nat.beq e 5,Nat.beq m l.length with
     | true,true=>some (.str (bytesOf l),[(j,none),(id,none)])
     | _,_=>none
    | none=>none
   | _,_,_=>none
  | _=>none
 | _=>none
def gCompact(ds:List D)(h:Tr Blk)(n:Nat):Option (D × Eff):=match ds with
 | [.own id m]=>match h.get id with
  | some (.vec e 1 xs false)=>match intsD .i64 xs with
   | some l=>match Nat.beq m l.length,Nat.blt l.length 1000000 with
    | true,true=>some (.own n (Lib.compact l).length,[(id,none),(n,some (.vec e 1 ((Lib.compact l).map (D.int .i64)) false))])
    | _,_=>none
   | none=>none
  | _=>none
 | _=>none
section
variable {I:World→Prop}
theorem sValid(hI:Stab I)(hU:∀ w,I w→U8T w):∀ ds d,gValid ds=some d→AFun Tryz.prog I 232 ds d:=by
 intro ds d h
 unfold gValid at h
 split at h
 ·split at h
  ·rename_i s x0 ha
   simp only[Option.some.injEq] at h
   subst h
   have:=a_unicode_utf8_ValidString I hI hU s (r:=Lib.validD s) rfl
   rwa[valid_asc ha] at this
  ·cases h
 ·cases h
theorem sCount(hI:Stab I):∀ ds d,gCount ds=some d→AFun Tryz.prog I 294 ds d:=by
 intro ds d h
 unfold gCount at h
 split at h
 ·split at h
  ·rename_i s x0 x1 ha hb
   simp only[Option.some.injEq] at h
   subst h
   have hb':s.length < 1000000:=by simpa using hb
   have:=a_unicode_utf8_RuneCountInString I hI s (r:=(Lib.runeCountL s:Int)) (by unfold g_unicode_utf8_RuneCountInString;rw[if_pos (by omega)])
   rwa[runes_asc ha] at this
  ·cases h
 ·cases h
theorem sContains(hI:Stab I)(hS:∀ w,I w→Shp w):∀ ds d,gContains ds=some d→AFun Tryz.prog I 241 ds d:=by
 intro ds d h
 unfold gContains at h
 split at h
 ·split at h
  ·rename_i s t x0 hb
   simp only[Option.some.injEq] at h
   subst h
   have hb':s.length < 1000000:=by simpa using hb
   have:=a_strings_Contains2 I hI hS s t (r:=Lib.contains s t) (by unfold g_strings_Contains2;rw[if_pos (by omega)])
   rwa[inx_eq] at this
  ·cases h
 ·cases h
theorem sCutP(hI:Stab I):∀ ds d,gCutP ds=some d→AFun Tryz.prog I 189 ds d:=by
 intro ds d h
 unfold gCutP at h
 split at h
 ·rename_i s t
  have:=a_strings_CutPrefix I hI s t (r:=(Lib.trimPrefix s t,Lib.hasPrefix s t)) rfl
  unfold Lib.trimPrefix Lib.hasPrefix at this
  split at h
  ·rename_i hp
   simp only[Option.some.injEq] at h
   subst h
   rw[hp] at this
   simpa using this
  ·rename_i hp
   simp only[Option.some.injEq] at h
   subst h
   rw[hp] at this
   simpa using this
 ·cases h
theorem sParse(hI:Stab I)(hP:∀ w,I w→PIv w):∀ ds d,gParse ds=some d→AFun Tryz.prog I 190 ds d:=by
 intro ds d h
 unfold gParse at h
 split at h
 ·split at h
  ·rename_i s b n x0 r hr
   simp only[Option.some.injEq] at h
   subst h
   exact a_strconv_ParseInt I hI hP s b n hr
  ·cases h
 ·cases h
theorem sFormat(hI:Stab I)(hT:∀ w,I w→Tab w):∀ ds d,gFormat ds=some d→AFun Tryz.prog I 160 ds d:=by
 intro ds d h
 unfold gFormat at h
 split at h
 ·split at h
  ·rename_i n x0 r hr
   simp only[Option.some.injEq] at h
   subst h
   refine a_strconv_FormatInt I hI hT (.ofNat n) 10 ?_
   have h1:=decF_eq _ _ _ _ hr
   rw[List.append_nil] at h1
   unfold g_strconv_FormatInt Lib.itoa
   rw[if_pos rfl,if_neg (by simp),h1]
   rfl
  ·cases h
 ·cases h
theorem sSplit(hI:Stab I)(hS:∀ w,I w→Shp w):∀ ds d,gSplit ds=some d→AFun Tryz.prog I 95 ds d:=by
 intro ds d h
 unfold gSplit at h
 split at h
 ·split at h
  ·rename_i s c x0 hb
   simp only[Option.some.injEq] at h
   subst h
   have hb':s.length < 1000000:=by simpa using hb
   have:=a_strings_Split I hI hS s [c] (r:=Lib.split s [c]) (by unfold g_strings_Split;rw[if_pos ⟨by omega,by simp⟩])
   rwa[split_spl] at this
  ·cases h
 ·cases h
theorem sJoin(hI:Stab I):∀ ds d,gJoin ds=some d→AFun Tryz.prog I 55 ds d:=by
 intro ds d h
 unfold gJoin at h
 split at h
 ·split at h
  ·split at h
   ·rename_i l t x0 r hr x1 x hx
    simp only[Option.some.injEq] at h
    subst h
    rw[strsD_eq hr]
    exact a_strings_Join I hI r t hx
   ·cases h
  ·cases h
 ·cases h
theorem sWrite:∀ ds h n d eff,gWrite ds h n=some (d,eff)→CallOK Tryz.prog I 76 ds h.get n d eff:=by
 intro ds h n d eff hv
 unfold gWrite at hv
 split at hv
 case h_2=>cases hv
 rename_i id s
 split at hv
 case h_2=>cases hv
 rename_i hne hlen
 have hne':n≠id:=fun e=>by rw[e] at hne;simp at hne
 have hlen':s.length < 1000000:=by simpa using hlen
 split at hv
 ·rename_i T i hid
  split at hv
  ·rename_i hT hi
   have hT':=Nat.eq_of_beq_eq_true hT
   have hi':=Nat.eq_of_beq_eq_true hi
   subst hi'
   rw[hT'] at hid
   simp only[Option.some.injEq,Prod.mk.injEq] at hv
   obtain⟨rfl,rfl⟩:=hv
   exact c_WriteString0 I hid (by omega) hne'
  ·cases hv
 ·rename_i T i j m hid
  split at hv
  ·rename_i e xs hT hi hj
   split at hv
   ·rename_i l hl
    split at hv
    ·rename_i he hm hll
     have hT':=Nat.eq_of_beq_eq_true hT
     have hi':=Nat.eq_of_beq_eq_true hi
     have he':=Nat.eq_of_beq_eq_true he
     have hm':=Nat.eq_of_beq_eq_true hm
     have hll':l.length < 1000000:=by simpa using hll
     subst hi'
     rw[hT'] at hid
     rw[he',intsD_eq hl] at hj
     simp only[Option.some.injEq,Prod.mk.injEq] at hv
     obtain⟨rfl,rfl⟩:=hv
     exact c_WriteString1 I hid hj hm' (by omega) hne'
    ·cases hv
   ·cases hv
  ·cases hv
 ·cases hv
theorem sString:∀ ds h n d eff,gString ds h n=some (d,eff)→CallOK Tryz.prog I 77 ds h.get n d eff:=by
 intro ds h n d eff hv
 unfold gString at hv
 split at hv
 case h_2=>cases hv
 rename_i id
 split at hv
 ·rename_i T i hid
  split at hv
  ·rename_i hT hi
   have hT':=Nat.eq_of_beq_eq_true hT
   have hi':=Nat.eq_of_beq_eq_true hi
   subst hi'
   rw[hT'] at hid
   simp only[Option.some.injEq,Prod.mk.injEq] at hv
   obtain⟨rfl,rfl⟩:=hv
   exact c_String0 I hid
  ·cases hv
 ·rename_i T i j m hid
  split at hv
  ·rename_i e xs hT hi hj
   split at hv
   ·rename_i l hl
    split at hv
    ·rename_i he hm
     have hT':=Nat.eq_of_beq_eq_true hT
     have hi':=Nat.eq_of_beq_eq_true hi
     have he':=Nat.eq_of_beq_eq_true he
     have hm':=Nat.eq_of_beq_eq_true hm
     subst hi'
     rw[hT'] at hid
     rw[he',intsD_eq hl] at hj
     simp only[Option.some.injEq,Prod.mk.injEq] at hv
     obtain⟨rfl,rfl⟩:=hv
     exact c_String1 I hid hj hm'
    ·cases hv
   ·cases hv
  ·cases hv
 ·cases hv
theorem sCompact:∀ ds h n d eff,gCompact ds h n=some (d,eff)→CallOK Tryz.prog I 156 ds h.get n d eff:=by
 intro ds h n d eff hv
 unfold gCompact at hv
 split at hv
 case h_2=>cases hv
 rename_i id m
 split at hv
 case h_2=>cases hv
 rename_i e xs hid
 split at hv
 case h_2=>cases hv
 rename_i l hl
 split at hv
 case h_2=>cases hv
 rename_i hm hll
 have hm':=Nat.eq_of_beq_eq_true hm
 have hll':l.length < 1000000:=by simpa using hll
 subst hm'
 rw[intsD_eq hl] at hid
 simp only[Option.some.injEq,Prod.mk.injEq] at hv
 obtain⟨rfl,rfl⟩:=hv
 exact c_Compact64 hid (by omega)
end
def XL:CallF:=orX (pureX 232 gValid) (orX (pureX 294 gCount) (orX (pureX 241 gContains) (orX (pureX 189 gCutP) (orX (pureX 190 gParse) (orX (pureX 160 gFormat) (orX (pureX 95 gSplit) (orX (pureX 55 gJoin) (orX (effX 76 gWrite) (orX (effX 77 gString) (effX 156 gCompact))))))))))
theorem XL_sound{I:World→Prop}(hI:Stab I)(hU:∀ w,I w→U8T w)(hS:∀ w,I w→Shp w)(hP:∀ w,I w→PIv w)(hT:∀ w,I w→Tab w):CallSound Tryz.prog I XL :=
 orX_sound (pureX_sound hI (sValid hI hU)) (orX_sound (pureX_sound hI (sCount hI)) (orX_sound (pureX_sound hI (sContains hI hS)) (orX_sound (pureX_sound hI (sCutP hI)) (orX_sound (pureX_sound hI (sParse hI hP)) (orX_sound (pureX_sound hI (sFormat hI hT)) (orX_sound (pureX_sound hI (sSplit hI hS)) (orX_sound (pureX_sound hI (sJoin hI)) (orX_sound (effX_sound sWrite) (orX_sound (effX_sound sString) (effX_sound sCompact))))))))))
def purR (H:Nat→Option Blk):D→Option D
 | .tup l=>match purDsK H l with
  | some (l',_)=>some (.tup l')
  | none=>none
 | d=>match purDK H d with
  | some (d',_)=>some d'
  | none=>none
section
variable {P:Program}{I:World→Prop}
theorem purR_sound{C:Cx}{w:World}{B:Bx}{H:Nat→Option Blk}{d d':D}{v:Value}(hH:HOK C w B H)(hF:FB C w)(hp:purR H d=some d')(hv:Rep w C v d):∃ C' ep,Pub C w B H C' (appEff H ep)∧Rep w (cF C'.F) v d':=by
 unfold purR at hp
 split at hp
 ·rename_i l
  split at hp
  ·rename_i l' ep hq
   simp only[Option.some.injEq] at hp
   subst hp
   cases hv with
   | tup vs _ hl hr =>
    obtain⟨C',hP,hl',hr'⟩:=purDsK_sound l vs C H l' ep hH hF hl hr hq
    exact⟨C',ep,hP,.tup vs l' hl' fun i v d h1 h2=>(hr' i v d h1 h2).1⟩
  ·cases hp
 ·split at hp
  ·rename_i d0 ep hq
   simp only[Option.some.injEq] at hp
   subst hp
   obtain⟨C',hP,hr,_⟩:=purDK_sound hH hF hq hv
   exact⟨C',ep,hP,hr⟩
  ·cases hp
theorem XOK.toPure(hstab:Stab I){f:FuncId}{ds:List D}{n m:Nat}{d d':D}{H':Nat→Option Blk}(h:XOK P I f ds (fun _=>none) n m d H')(hp:purR H' d=some d'):AFun P I f ds d':=by
 refine⟨h.1,fun w F args hI hfb hl hr=>?_⟩
 refine(h.2 w w (cF F) ⟨fun k=>w.heap.size≤k,fun _=>Go.undef⟩ args hI (Below.refl _ _) (fun _ h=>h) ⟨fun id b h=>(by cases h),fun id b h=>(by cases h),fun id k cs h=>(by cases h),fun id id' b b' h=>(by cases h)⟩ hfb (fun _ h=>h) (fun _ _ _ h=>h) hl hr).mono ?_
 rintro e w' ⟨v,C',rfl,hb,hext,hrep,hH,hfb',hl',hnew⟩
 obtain⟨C2,ep,hP,hr2⟩:=purR_sound hH hfb' hp hrep
 refine⟨v,C2.F,rfl,hb.to,(hext.trans hP.ext).cF,hP.fb,fun b o h=>?_,hr2⟩
 rcases hP.new b o h with h1|h1
 ·exact hnew b o h1
 ·exact .inr h1
def evP (P:Program)(E:OpF)(X:CallF)(E2:OpF)(lf k:Nat)(f:FuncId)(ds:List D):Option D:=match evF P E X (fun cf=>evD E2 cf) lf k f ds .nil 0 with
 | some (d,h,_,_)=>purR h.get d
 | none=>none
theorem evP_fun{E E2:OpF}{X:CallF}{lf k:Nat}(hstab:Stab I)(hmix:P.follows .mixedOrders=true)(hE:OpSound P E)(hE2:OpSound P E2)(hm2:OpMono E2)(hX:CallSound P I X){f:FuncId}{ds:List D}{d:D}(hv:evP P E X E2 lf k f ds=some d):AFun P I f ds d:=by
 unfold evP at hv
 split at hv
 ·rename_i d0 h' m l he
  have:=evF_xok (I:=I) hmix hE hE2 hm2 hX he
  have hn:(Tr.nil:Tr Blk).get=fun _=>none:=rfl
  rw[hn] at this
  exact XOK.toPure hstab this hv
 ·cases hv
def sameL(a b:List UInt8):Bool:=match a,b with
 | [],[]=>true
 | x::a,y::b=>match Nat.beq x.toNat y.toNat with
  | true=>sameL a b
  | false=>false
 | _,_=>false
theorem sameL_eq:∀ {a b:List UInt8},sameL a b=true→a=b
 | [],[],_=>rfl
 | x::a,y::b,h=>by
  unfold sameL at h
  split at h
  ·rename_i hx
   rw[UInt8.toNat_inj.1 (Nat.eq_of_beq_eq_true hx),sameL_eq h]
  ·cases h
 | [],y::b,h=>by cases h
 | x::a,[],h=>by cases h
def strX (f0:FuncId)(s0:List UInt8)(d0:D):CallF:=pureX f0 fun ds=>match ds with
 | [.str s]=>match sameL s s0 with
  | true=>some d0
  | false=>none
 | _=>none
theorem strX_sound(hstab:Stab I){f0:FuncId}{s0:List UInt8}{d0:D}(h:AFun P I f0 [.str s0] d0):CallSound P I (strX f0 s0 d0):=by
 refine pureX_sound hstab fun ds d hd=>?_
 split at hd
 ·split at hd
  ·rename_i s hs
   simp only[Option.some.injEq] at hd
   subst hd
   rw[sameL_eq hs]
   exact h
  ·cases hd
 ·cases hd
end
set_option maxRecDepth 10000000
def sNat:List UInt8:=[68,79,67,85,77,69,78,84,32,34,34,32,45,32,50,53,32,78,68,70,32,49,10,69,86,69,78,84,32,49,32,49,48,32,53,48,32,45,32,68,73,65,76,79,71,85,69,32,45,10,82,79,87,32,34,72,105,34,10]
def dNat:D:=.tup [.agg [.str [],.str [],.int .u8 3,.bool false,.int .i64 1,.nils,.sl [.agg [.int .i64 1,.int .i64 10,.int .i64 50,.str [],.int .u8 1,.str [],.sl [.agg [.sl [.agg [.str [72,105],.int .u8 0,.bool false,.bool false,.str []]]]]]],.nils],.nils]
theorem run_native:evP Tryz.prog (opE Tryz.prog) XL (op2 Tryz.prog) 100000 60 13 [.str sNat]=some dNat:=by kernel_rfl
def sEdt:List UInt8:=[82,79,87,83,32,49,32,34,72,101,108,108,111,34]
def dEdt:D:=.tup [.agg [.int .u8 4,.int .i64 1,.int .i64 0,.int .i64 0,.int .i64 0,.int .i64 0,.int .i64 0,.int .i64 0,.int .i64 0,.int .u8 0,.int .u8 0,.bool false,.bool false,.str [],.str [],.str [],.int .i64 0,.int .i64 0,.int .i64 0,.int .i64 0,.int .u8 0,.bool false,.sl [.agg [.sl [.agg [.str [72,101,108,108,111],.int .u8 0,.bool false,.bool false,.str []]]]]],.int .i64 0]
theorem run_edit:evP Tryz.prog (opE Tryz.prog) XL (op2 Tryz.prog) 100000 60 15 [.str sEdt]=some dEdt:=by kernel_rfl
def X2:CallF:=orX (strX 13 sNat dNat) (orX (strX 15 sEdt dEdt) XL)
theorem run_awake:isTrue (evF Tryz.prog (opE Tryz.prog) X2 (fun cf=>evD (op2 Tryz.prog) cf) 100000 60 4 [] .nil 0)=true:=by kernel_rfl
def g_captionertop_editAwake:Option Bool:=some true
theorem a_captionertop_editAwake(I:World→Prop)(hI:Stab I)(hPIv:∀ w,I w→PIv w)(hShp:∀ w,I w→Shp w)(hTab:∀ w,I w→Tab w)(hU8T:∀ w,I w→U8T w){r:Bool}(h:g_captionertop_editAwake=some r):AFun Tryz.prog I 4 [] (.bool r):=by
 cases h;have mixed:Tryz.prog.follows .mixedOrders=true:=by kernel_rfl
 have hL:=XL_sound (I:=I) hI hU8T hShp hPIv hTab;have h1:=evP_fun (I:=I) hI mixed opE_sound op2_sound op2_mono hL run_native;have h2:=evP_fun (I:=I) hI mixed opE_sound op2_sound op2_mono hL run_edit;exact evF_true hI mixed opE_sound op2_sound op2_mono (orX_sound (strX_sound hI h1) (orX_sound (strX_sound hI h2) hL)) run_awake
set_option maxRecDepth 100000
set_option maxHeartbeats 10000000
theorem dd_EH:(∀ x,T_api_Region.d x=.agg [.str x.Name,.int .i64 x.Top,.int .i64 x.Height,.int .i64 x.Left,.int .i64 x.Width,.int .u8 x.Align,.bool x.Bottom])∧(∀ x,T_api_Comment.d x=.agg [.int .i64 x.ID,.int .i64 x.Event,.int .i64 x.From,.int .i64 x.To,.str x.Author,.str x.Text,.bool x.Done,.bool x.Lost])∧(∀ x,T_api_Span.d x=.agg [.int .i64 x.In,.int .i64 x.Out])∧(∀ x,T_api_Style.d x=.agg [.int .u8 x.Color,.bool x.Italic,.bool x.Underline])∧(∀ x,T_api_Run.d x=.agg [.str x.Text,.int .u8 x.Style.Color,.bool x.Style.Italic,.bool x.Style.Underline,.str x.Ruby])∧(∀ x,T_api_Row.d x=.agg [.sl (x.Runs.map T_api_Run.d)])∧(∀ x,T_api_Event.d x=.agg [.int .i64 x.ID,.int .i64 x.Span.In,.int .i64 x.Span.Out,.str x.Region,.int .u8 x.Kind,.str x.Speaker,.sl (x.Rows.map T_api_Row.d)])∧(∀ x,T_api_Bound.d x=.agg [.int .i64 x.I,.int .i64 x.J,.int .i64 x.C,.int .u8 x.Rule,.int .i64 x.ID,.int .i64 x.Other])∧(∀ x,T_api_Document.d x=.agg [.str x.Title,.str x.Lang,.int .u8 x.Rate,.bool x.Drop,.int .i64 x.Last,.sl (x.Regions.map T_api_Region.d),.sl (x.Events.map T_api_Event.d),.sl (x.Comments.map T_api_Comment.d)])∧(∀ x,T_api_Profile.d x=.agg [.str x.Name,.int .i64 x.Reading,.int .i64 x.MinFrames,.int .i64 x.MaxFrames,.int .i64 x.MinGap,.int .i64 x.ShotBefore,.int .i64 x.ShotAfter,.int .i64 x.Rows,.int .i64 x.Cols,.str x.Forbidden,.int .i64 x.SafeTop,.int .i64 x.SafeBottom,.int .i64 x.SafeLeft,.int .i64 x.SafeRight])∧(∀ x,T_captionertop_House.d x=.agg [.str x.Doc.Title,.str x.Doc.Lang,.int .u8 x.Doc.Rate,.bool x.Doc.Drop,.int .i64 x.Doc.Last,.sl (x.Doc.Regions.map T_api_Region.d),.sl (x.Doc.Events.map T_api_Event.d),.sl (x.Doc.Comments.map T_api_Comment.d),.str x.House.Name,.int .i64 x.House.Reading,.int .i64 x.House.MinFrames,.int .i64 x.House.MaxFrames,.int .i64 x.House.MinGap,.int .i64 x.House.ShotBefore,.int .i64 x.House.ShotAfter,.int .i64 x.House.Rows,.int .i64 x.House.Cols,.str x.House.Forbidden,.int .i64 x.House.SafeTop,.int .i64 x.House.SafeBottom,.int .i64 x.House.SafeLeft,.int .i64 x.House.SafeRight,.sl (x.Shots.map (D.int .i64)),.int .i64 x.Tol])∧(∀ x,T_api_Shift.d x=.agg [.int .i64 x.ID,.int .i64 x.In,.int .i64 x.Out])∧(∀ x,T_api_Repair.d x=.agg [.str x.Doc.Title,.str x.Doc.Lang,.int .u8 x.Doc.Rate,.bool x.Doc.Drop,.int .i64 x.Doc.Last,.sl (x.Doc.Regions.map T_api_Region.d),.sl (x.Doc.Events.map T_api_Event.d),.sl (x.Doc.Comments.map T_api_Comment.d),.sl (x.Shifts.map T_api_Shift.d),.int .i64 x.Needed,.sl (x.Conflict.map T_api_Bound.d)]):=⟨fun _=>rfl,fun _=>rfl,fun _=>rfl,fun _=>rfl,fun _=>rfl,fun _=>rfl,fun _=>rfl,fun _=>rfl,fun _=>rfl,fun _=>rfl,fun _=>rfl,fun _=>rfl,fun _=>rfl⟩
def g_captionertop_TopSmallest_s1(r0:T_api_Repair × Int)(r1:(List T_api_Bound) × Int)(x0:(List Int) × Int):Option (Nx ((List Int) × Int) (Unit ⊕ ((List Int)))) :=
 (if(decide (x0.2 < (r0.1.Conflict.length:Int))) then((atI r0.1.Conflict x0.2).bind fun y0=>((g_slices_Contains_api_Bound_api_Bound r1.1 y0).bind fun r2=>(if r2 then(if(x0.1.length+1) * 8≤140737488355328 then(some (.go ((x0.1++[x0.2]),(IntKind.i64.wrap (x0.2+1))))) else none) else(some (.out (.inl ())))))) else(some (.out (.inr x0.1))))
def g_captionertop_TopSmallest_s2(mask_2:Int)(r0:(List T_api_Bound) × Int)(e0:List Int)(x0:(List T_api_Bound) × Int):Option (Nx ((List T_api_Bound) × Int) ((List T_api_Bound))) :=
 (if(decide (x0.2 < (r0.1.length:Int))) then((atI r0.1 x0.2).bind fun y0=>(((if 0≤(Int.tmod x0.2 64) then(if((andZ .u64 (shrZ .u64 mask_2 (Int.tmod x0.2 64)) 1) == 1) then(some (decide ((IntKind.i64.wrap (((x0.1.length:Nat):Int)+1)) < ((e0.length:Nat):Int)))) else(some false)) else none):Option (Bool)).bind fun v0=>(if v0 then(if(x0.1.length+1) * 48≤140737488355328 then(some (.go ((x0.1++[y0]),(IntKind.i64.wrap (x0.2+1))))) else none) else(some (.go (x0.1,(IntKind.i64.wrap (x0.2+1)))))))) else(some (.out x0.1)))
def g_captionertop_TopSmallest(t_0:T_captionertop_House)(k_1:Int)(mask_2:Int):Option (Bool) :=
 ((g_captionertop_editAwake).bind fun r7=>(if r7 then((g_captionertop_houseTask t_0).bind fun r0=>((g_repair_Plan r0.Doc r0.House r0.Shots r0.Tol).bind fun r1=>(((if(r1.2 != 16) then(some true) else(some ((r1.1.Conflict.length:Int) == 0))):Option (Bool)).bind fun v0=>(if v0 then(some ((r1.1.Conflict.length:Int) == 0)) else((g_repair_Bounds r0.Doc r0.House r0.Shots r0.Tol).bind fun r2=>((iter (g_captionertop_TopSmallest_s1 r1 r2) ([],0)).bind fun e0=>(match e0 with|Sum.inl e0=>(some false)|Sum.inr (e0)=>(if ¬ ((e0.length:Nat):Int)=0 then(if r1.1.Conflict.isEmpty then((g_slices_Clone_api_Bound_api_Bound r1.1.Conflict).bind fun r3=>none) else((g_slices_Clone_api_Bound_api_Bound_nw r1.1.Conflict).bind fun r4=>((g_slices_Delete_api_Bound_api_Bound r4 (Int.tmod (IntKind.i64.wrap k_1) ((e0.length:Nat):Int)) (IntKind.i64.wrap ((Int.tmod (IntKind.i64.wrap k_1) ((e0.length:Nat):Int))+1))).bind fun r5=>((g_diffcon_Solve (IntKind.i64.wrap ((IntKind.i64.wrap (2 * (r0.Doc.Events.length:Int)))+1)) r5).bind fun r6=>((iter (g_captionertop_TopSmallest_s2 mask_2 r2 e0) ([],0)).bind fun e1=>((g_diffcon_Solve (IntKind.i64.wrap ((IntKind.i64.wrap (2 * (r0.Doc.Events.length:Int)))+1)) e1).bind fun r8=>(if(r2.2 == 0) then((g_diffcon_Refutes (IntKind.i64.wrap ((IntKind.i64.wrap (2 * (r0.Doc.Events.length:Int)))+1)) r1.1.Conflict e0).bind fun r9=>(if(r9 == 0) then(if(r6.2.2 == 0) then(some (r8.2.2 == 0)) else(some false)) else(some false))) else(some false)))))))) else none)))))))) else(some false)))
theorem a_captionertop_TopSmallest{I:World→Prop}(hI:Stab I)(hPIv:∀ w,I w→PIv w)(hShp:∀ w,I w→Shp w)(hTab:∀ w,I w→Tab w)(hU8T:∀ w,I w→U8T w){t_0:T_captionertop_House}{k_1:Int}{mask_2:Int}{r:Bool}(h:g_captionertop_TopSmallest t_0 k_1 mask_2=some r):AFun Tryz.prog I 3 [T_captionertop_House.d t_0,.int .u8 k_1,.int .u64 mask_2] (.bool r):=by
 have dd:=dd_EH;have k:=True.intro;have q:=k;have rs:=Tryz.results3;unfold g_captionertop_TopSmallest at h;refine .en hI Tryz.func3 Tryz.ntmps3 ?_;refine xs<|rz ?_;refine es<|xs<|xs<|rK fun K _ E J=>zz ?_;obtain⟨r7,h8,h⟩:=bs h;refine cw (a_captionertop_editAwake I hI hPIv hShp hTab hU8T h8)<|zz ?_;subst E J;refine es ?_;obtain⟨k,h⟩|⟨k,h⟩:=iK k h
 ·refine xf<|xk<|es<|xs<|rK fun K _ E J=>zz ?_;obtain⟨r0,h0,h⟩:=bs h;refine cw (a_captionertop_houseTask hI h0)<|zz ?_;subst E J;refine es<|xs<|rK fun K _ E J=>zz ?_;obtain⟨r1,h1,h⟩:=bs h;refine cw (a_repair_Plan hI hShp hU8T h1)<|zz ?_;subst E J;refine es<|xs ?_;obtain⟨v0,h2,h⟩:=bs h;refine rb_cut (fun v0=>⟨envL [(1,.int .u8 k_1),(2,.int .u64 mask_2),(3,.ptr 0 0),(7,.ptr 1 0),(48,.bool v0)],heapL [(0,.box none [.str r0.Doc.Title,.str r0.Doc.Lang,.int .u8 r0.Doc.Rate,.bool r0.Doc.Drop,.int .i64 r0.Doc.Last,.sl (r0.Doc.Regions.map T_api_Region.d),.sl (r0.Doc.Events.map T_api_Event.d),.sl (r0.Doc.Comments.map T_api_Comment.d),.str r0.House.Name,.int .i64 r0.House.Reading,.int .i64 r0.House.MinFrames,.int .i64 r0.House.MaxFrames,.int .i64 r0.House.MinGap,.int .i64 r0.House.ShotBefore,.int .i64 r0.House.ShotAfter,.int .i64 r0.House.Rows,.int .i64 r0.House.Cols,.str r0.House.Forbidden,.int .i64 r0.House.SafeTop,.int .i64 r0.House.SafeBottom,.int .i64 r0.House.SafeLeft,.int .i64 r0.House.SafeRight,.sl (r0.Shots.map (D.int .i64)),.int .i64 r0.Tol]),(1,.box none [.str r1.1.Doc.Title,.str r1.1.Doc.Lang,.int .u8 r1.1.Doc.Rate,.bool r1.1.Doc.Drop,.int .i64 r1.1.Doc.Last,.sl (r1.1.Doc.Regions.map T_api_Region.d),.sl (r1.1.Doc.Events.map T_api_Event.d),.sl (r1.1.Doc.Comments.map T_api_Comment.d),.sl (r1.1.Shifts.map T_api_Shift.d),.int .i64 r1.1.Needed,.sl (r1.1.Conflict.map T_api_Bound.d)])],2,157⟩) h2 ?_ ?_
  ·clear h;intro v0 h;refine rK fun K _ E J=>zz ?_;obtain⟨k,h⟩|⟨k,h⟩:=iK k h
   ·refine zz ?_;subst E J;cases h;exact en ⟨rfl,wk [(1,some 19)]⟩
   refine zz ?_;subst E J;cases h;exact en ⟨rfl,wk [(1,some 19)]⟩
  obtain⟨k,h⟩|⟨k,h⟩:=iK k h
  ·refine xt<|xs<|rz ?_;refine es<|xr<|er ?_;cases h;exact en fr
  refine xf<|xk<|es<|xs<|rK fun K _ E J=>zz ?_;obtain⟨r2,h3,h⟩:=bs h;refine cw (a_repair_Bounds hI hShp hU8T h3)<|zz ?_;subst E J;refine es<|xs<|rz ?_;refine es<|xs<|rz ?_;refine es<|xs<|xs<|rz ?_;refine es<|xb ?_;obtain⟨e0,h4,h⟩:=bs h;refine rb_loop (fun x0=>⟨envL [(1,.int .u8 k_1),(2,.int .u64 mask_2),(7,.ptr 0 0),(9,.sl (r2.1.map T_api_Bound.d)),(10,.int .i64 r2.2),(11,.int .i64 (IntKind.i64.wrap ((IntKind.i64.wrap (2 * (r0.Doc.Events.length:Int)))+1))),(12,.own 1 x0.1.length),(72,.sl (r1.1.Conflict.map T_api_Bound.d)),(73,.int .i64 (r1.1.Conflict.length:Int)),(74,.int .i64 x0.2)],heapL [(0,.box none [.str r1.1.Doc.Title,.str r1.1.Doc.Lang,.int .u8 r1.1.Doc.Rate,.bool r1.1.Doc.Drop,.int .i64 r1.1.Doc.Last,.sl (r1.1.Doc.Regions.map T_api_Region.d),.sl (r1.1.Doc.Events.map T_api_Event.d),.sl (r1.1.Doc.Comments.map T_api_Comment.d),.sl (r1.1.Shifts.map T_api_Shift.d),.int .i64 r1.1.Needed,.sl (r1.1.Conflict.map T_api_Bound.d)]),(1,.vec 3 1 (x0.1.map (D.int .i64)) false)],2,157⟩) (fun w=>match w with|Sum.inl _=>.ret|Sum.inr (_)=>.exit 0) (fun w=>match w with|Sum.inl e0=>⟨envL [(6,.bool false)],heapL [],0,157⟩|Sum.inr (e0)=>⟨envL [(1,.int .u8 k_1),(2,.int .u64 mask_2),(7,.ptr 0 0),(9,.sl (r2.1.map T_api_Bound.d)),(10,.int .i64 r2.2),(11,.int .i64 (IntKind.i64.wrap ((IntKind.i64.wrap (2 * (r0.Doc.Events.length:Int)))+1))),(12,.own 1 e0.length)],heapL [(0,.box none [.str r1.1.Doc.Title,.str r1.1.Doc.Lang,.int .u8 r1.1.Doc.Rate,.bool r1.1.Doc.Drop,.int .i64 r1.1.Doc.Last,.sl (r1.1.Doc.Regions.map T_api_Region.d),.sl (r1.1.Doc.Events.map T_api_Event.d),.sl (r1.1.Doc.Comments.map T_api_Comment.d),.sl (r1.1.Shifts.map T_api_Shift.d),.int .i64 r1.1.Needed,.sl (r1.1.Conflict.map T_api_Bound.d)]),(1,.vec 3 1 (e0.map (D.int .i64)) false)],2,157⟩) h4 (wk [(0,some 1),(1,none)]) (by intro w;rcases w with w|w<;>simp) ?_ ?_
  ·clear h;intro x0 y h;unfold g_captionertop_TopSmallest_s1 at h;refine xs<|rz ?_;refine es<|xs ?_;obtain⟨k,h⟩|⟨k,h⟩:=iK k h
   ·refine xt<|xk<|es<|xs<|xb<|xs<|rK fun K _ E J=>zz ?_;obtain⟨y0,q,h⟩:=bK q h;refine zz ?_;subst E J;refine es<|xs<|xs<|rK fun K _ E J=>zz ?_;obtain⟨r3,h5,h⟩:=bs h;refine cw (a_slices_Contains_api_Bound_api_Bound hI h5)<|zz ?_;subst E J;refine es ?_;obtain⟨k,h⟩|⟨k,h⟩:=iK k h
    ·refine xf<|xk<|es<|rK fun K _ E J=>zz ?_;obtain⟨h6,h⟩:=ite_on h;have h7:x0.1.length+1≤9223372036854775807:=by omega
     try simp only[Nat.reduceLeDiff] at h7
     have q:=And.intro @h7<|And.intro @h6<|q;refine zz ?_;subst E J;refine bn<|es<|rz ?_;cases h;exact en ⟨rfl,wk [(1,some 16)]⟩
    refine xt<|xs<|rz ?_;refine es<|xr<|er<|br<|er ?_;cases h;exact en ⟨rfl,wk []⟩
   refine xf<|xx<|ee ?_;cases h;exact en ⟨rfl,wk []⟩
  rcases e0 with e0|e0
  ·try dsimp only at h ⊢
   refine br<|er ?_;cases h;exact en fr
  try dsimp only at h ⊢
  refine bh<|es<|xs<|rK fun K _ E J=>zz ?_;obtain⟨q,h⟩:=oK q h;refine zz ?_;subst E J;refine es<|xs<|rK fun K _ E J=>zz ?_;obtain⟨k,h⟩|⟨k,h⟩:=iK k h
  ·obtain⟨r4,h9,h⟩:=bs h;refine cw (a_slices_Clone_api_Bound_api_Bound hI h9)<|zz ?_;cases h
  obtain⟨r5,h10,h⟩:=bs h;refine cW.introE (a_slices_Clone_api_Bound_api_Bound_nw hI (nid:=11) h10) fz rfl<|zz ?_;obtain⟨r6,h11,h⟩:=bs h;refine cW.introR (a_slices_Delete_api_Bound_api_Bound hI (nid:=15) (i0:=11) h11 fz) fs rfl<|zz ?_;obtain⟨r8,h12,h⟩:=bs h;refine cw (a_diffcon_Solve hI h12)<|zz ?_;subst E J;refine es<|xs<|rz ?_;refine es<|xs<|xs<|rz ?_;refine es<|xb ?_;obtain⟨e1,h13,h⟩:=bs h;refine rb_loop (fun x1=>⟨envL [(2,.int .u64 mask_2),(7,.ptr 0 0),(10,.int .i64 r2.2),(11,.int .i64 (IntKind.i64.wrap ((IntKind.i64.wrap (2 * (r0.Doc.Events.length:Int)))+1))),(12,.own 1 e0.length),(18,.int .i64 r8.2.2),(19,.own 2 x1.1.length),(106,.sl (r2.1.map T_api_Bound.d)),(107,.int .i64 (r2.1.length:Int)),(108,.int .i64 x1.2)],heapL [(0,.box none [.str r1.1.Doc.Title,.str r1.1.Doc.Lang,.int .u8 r1.1.Doc.Rate,.bool r1.1.Doc.Drop,.int .i64 r1.1.Doc.Last,.sl (r1.1.Doc.Regions.map T_api_Region.d),.sl (r1.1.Doc.Events.map T_api_Event.d),.sl (r1.1.Doc.Comments.map T_api_Comment.d),.sl (r1.1.Shifts.map T_api_Shift.d),.int .i64 r1.1.Needed,.sl (r1.1.Conflict.map T_api_Bound.d)]),(1,.vec 3 1 (e0.map (D.int .i64)) false),(2,.vec 48 6 (x1.1.map T_api_Bound.d) false)],3,157⟩) (fun _=>.exit 2) (fun e1=>⟨envL [(7,.ptr 0 0),(10,.int .i64 r2.2),(11,.int .i64 (IntKind.i64.wrap ((IntKind.i64.wrap (2 * (r0.Doc.Events.length:Int)))+1))),(12,.own 1 e0.length),(18,.int .i64 r8.2.2),(19,.own 2 e1.length)],heapL [(0,.box none [.str r1.1.Doc.Title,.str r1.1.Doc.Lang,.int .u8 r1.1.Doc.Rate,.bool r1.1.Doc.Drop,.int .i64 r1.1.Doc.Last,.sl (r1.1.Doc.Regions.map T_api_Region.d),.sl (r1.1.Doc.Events.map T_api_Event.d),.sl (r1.1.Doc.Comments.map T_api_Comment.d),.sl (r1.1.Shifts.map T_api_Shift.d),.int .i64 r1.1.Needed,.sl (r1.1.Conflict.map T_api_Bound.d)]),(1,.vec 3 1 (e0.map (D.int .i64)) false),(2,.vec 48 6 (e1.map T_api_Bound.d) false)],3,157⟩) h13 (wk [(2,none)]) (by intro w;simp) ?_ ?_
  ·clear h;intro x1 y h;unfold g_captionertop_TopSmallest_s2 at h;refine xs<|rz ?_;refine es<|xs ?_;obtain⟨k,h⟩|⟨k,h⟩:=iK k h
   ·refine xt<|xk<|es<|xs<|xb<|xs<|rK fun K _ E J=>zz ?_;obtain⟨y1,q,h⟩:=bK q h;refine zz ?_;subst E J;refine es ?_;obtain⟨v1,h14,h⟩:=bs h;refine rb_cut (fun v1=>⟨envL [(2,.int .u64 mask_2),(7,.ptr 0 0),(10,.int .i64 r2.2),(11,.int .i64 (IntKind.i64.wrap ((IntKind.i64.wrap (2 * (r0.Doc.Events.length:Int)))+1))),(12,.own 1 e0.length),(18,.int .i64 r8.2.2),(19,.own 2 x1.1.length),(21,.ptr 3 0),(106,.sl (r2.1.map T_api_Bound.d)),(107,.int .i64 (r2.1.length:Int)),(108,.int .i64 x1.2),(126,.bool v1)],heapL [(0,.box none [.str r1.1.Doc.Title,.str r1.1.Doc.Lang,.int .u8 r1.1.Doc.Rate,.bool r1.1.Doc.Drop,.int .i64 r1.1.Doc.Last,.sl (r1.1.Doc.Regions.map T_api_Region.d),.sl (r1.1.Doc.Events.map T_api_Event.d),.sl (r1.1.Doc.Comments.map T_api_Comment.d),.sl (r1.1.Shifts.map T_api_Shift.d),.int .i64 r1.1.Needed,.sl (r1.1.Conflict.map T_api_Bound.d)]),(1,.vec 3 1 (e0.map (D.int .i64)) false),(2,.vec 48 6 (x1.1.map T_api_Bound.d) false),(3,.box none [.int .i64 y1.I,.int .i64 y1.J,.int .i64 y1.C,.int .u8 y1.Rule,.int .i64 y1.ID,.int .i64 y1.Other])],4,157⟩) h14 ?_ ?_
    ·clear h;intro v1 h;refine rK fun K _ E J=>zz ?_;obtain⟨q,h⟩:=oK q h;refine zz ?_;obtain⟨k,h⟩|⟨k,h⟩:=iK k h
     ·refine zz ?_;subst E J;cases h;exact en ⟨rfl,wk [(3,some 7)]⟩
     refine zz ?_;subst E J;cases h;exact en ⟨rfl,wk [(3,some 7)]⟩
    obtain⟨k,h⟩|⟨k,h⟩:=iK k h
    ·refine xt<|rK fun K _ E J=>zz ?_;obtain⟨h16,h⟩:=ite_on h;have h17:x1.1.length+1≤9223372036854775807:=by omega
     try simp only[Nat.reduceLeDiff] at h17
     have q:=And.intro @h17<|And.intro @h16<|q;refine zz ?_;subst E J;refine bn<|es<|rz ?_;cases h;exact en ⟨rfl,wk [(2,some 7)]⟩
    refine xf<|xk<|bn<|es<|rz ?_;cases h;exact en ⟨rfl,wk []⟩
   refine xf<|xx<|ee ?_;cases h;exact en ⟨rfl,wk []⟩
  refine bh<|es<|xs<|rK fun K _ E J=>zz ?_;obtain⟨r9,h18,h⟩:=bs h;refine cw (a_diffcon_Solve hI h18)<|zz ?_;subst E J;refine es<|xs<|rK fun K _ E J=>zz ?_;obtain⟨k,h⟩|⟨k,h⟩:=iK k h
  ·refine zz ?_;obtain⟨r10,h19,h⟩:=bs h;refine cw (a_diffcon_Refutes hI h19)<|zz ?_;obtain⟨k,h⟩|⟨k,h⟩:=iK k h
   ·refine zz ?_;obtain⟨k,h⟩|⟨k,h⟩:=iK k h
    ·refine zz ?_;subst E J;refine es<|xr ?_;cases h;exact en fr
    refine zz ?_;subst E J;refine es<|xr ?_;cases h;exact en fr
   refine zz ?_;subst E J;refine es<|xr ?_;cases h;exact en fr
  refine zz ?_;subst E J;refine es<|xr ?_;cases h;exact en fr
 refine xt<|xs<|rz ?_;refine es<|xr<|er ?_;cases h;exact en fr
structure HskZ(t:T_captionertop_House):Prop where
 doc:DocZ t.Doc
 name:t.House.Name.length≤1048576
 forb:t.House.Forbidden.length≤1048576
def hfD (d:T_api_Document):T_api_Document:=⟨d.Title,d.Lang,d.Rate,d.Drop,d.Last,d.Regions.take 4,d.Events.take 4,d.Comments.take 3⟩
def hfT (t:T_captionertop_House):T_captionertop_House:=⟨hfD t.Doc,t.House,t.Shots.take 5,t.Tol⟩
theorem takeN{α:Type}(l:List α)(k:Nat)(k':Int)(h:k'=(k:Int)):subH l (if k' < (l.length:Int) then k' else(l.length:Int))=some (l.take k):=by
 subst h;exact subH_take l k
theorem hFew_eq(d:T_api_Document):g_captionertop_houseFew d=some (hfD d):=by
 unfold g_captionertop_houseFew;rw[takeN d.Events 4 4 rfl,takeN d.Comments 3 3 rfl,takeN d.Regions 4 4 rfl];rfl
theorem hTask_eq(t:T_captionertop_House):g_captionertop_houseTask t=some (hfT t):=by
 unfold g_captionertop_houseTask;rw[hFew_eq,takeN t.Shots 5 5 rfl];rfl
theorem hfT_z{t:T_captionertop_House}(h:HskZ t):TaskZ (hfT t).Doc (hfT t).House (hfT t).Shots∧(hfT t).Doc.Events.length≤4:=by
 have hd:=h.doc;refine⟨⟨⟨hd.title,hd.rate,?_,?_,fun e he=>hd.ev e (List.mem_of_mem_take he),?_,fun c hc=>hd.com c (List.mem_of_mem_take hc)⟩,h.name,h.forb,?_⟩,?_⟩
 ·show(t.Doc.Regions.take 4).length≤_;simp;omega
 ·show(t.Doc.Events.take 4).length≤_;simp;omega
 ·show(t.Doc.Comments.take 3).length≤_;simp;omega
 ·show(t.Shots.take 5).length≤_;simp;omega
 show(t.Doc.Events.take 4).length≤_;simp;omega
theorem eqB(v y:T_api_Bound):((v.I == y.I)&&((v.J == y.J)&&((v.C == y.C)&&((v.Rule == y.Rule)&&((v.ID == y.ID)&&(v.Other == y.Other))))))=decide (v=y):=by
 rw[Bool.eq_iff_iff];simp only[Bool.and_eq_true,beq_iff_eq,decide_eq_true_eq];constructor
 ·rintro⟨h1,h2,h3,h4,h5,h6⟩;cases v;cases y;simp only at h1 h2 h3 h4 h5 h6;subst h1 h2 h3 h4 h5 h6;rfl
 rintro rfl;exact⟨rfl,rfl,rfl,rfl,rfl,rfl⟩
theorem contains_eq(l:List T_api_Bound)(hn:l.length≤4000)(v:T_api_Bound)(hv:v ∈ l):g_slices_Contains_api_Bound_api_Bound l v=some true:=by
 have key:∃ e,iter (g_slices_Index_api_Bound_api_Bound_s1 l v) 0=some e∧∃ i:Int,0≤i∧e=Sum.inl i:=by
  refine iter_post (fun x=>∃ i:Nat,x=(i:Int)∧i≤l.length∧v ∈ l.drop i) (fun x=>l.length - x.toNat) (fun(e:Int ⊕ Unit)=>∃ i:Int,0≤i∧e=Sum.inl i) (x:=0) ⟨0,rfl,Nat.zero_le _,by simpa using hv⟩ (by show l.length - 0 < _;omega) ?_
  rintro x ⟨i,rfl,hi,hm⟩
  unfold g_slices_Index_api_Bound_api_Bound_s1
  by_cases h:i < l.length
  ·rw[if_pos (by simpa using h),atI_nat h]
   simp only[Option.bind_some]
   rw[eqB]
   by_cases he:v=l[i]
   ·right
    rw[if_pos (by simpa using he)]
    exact⟨_,rfl,_,by omega,rfl⟩
   ·left
    rw[if_neg (by simpa using he),wr64 (x:=(i:Int)+1) (by omega)]
    refine⟨_,rfl,⟨i+1,rfl,h,?_⟩,by omega⟩
    rw[List.drop_eq_getElem_cons h,List.mem_cons] at hm
    exact hm.resolve_left he
  ·exfalso
   rw[List.drop_of_length_le (by omega)] at hm
   cases hm
 obtain⟨e,he,i,hi,rfl⟩:=key
 unfold g_slices_Contains_api_Bound_api_Bound g_slices_Index_api_Bound_api_Bound
 rw[he]
 simp[hi]
theorem order9(r:T_api_Repair × Int)(b:List T_api_Bound × Int)(hb:b.1.length≤4000)(hn:r.1.Conflict.length≤4000)(hs:∀ x ∈ r.1.Conflict,x ∈ b.1):iter (g_captionertop_TopSmallest_s1 r b) ([],0)=some (.inr ((List.range r.1.Conflict.length).map Int.ofNat)):=by
 refine iter_of (fun x e=>∃ i:Nat,x=((List.range i).map Int.ofNat,(i:Int))∧i≤r.1.Conflict.length∧e=.inr ((List.range r.1.Conflict.length).map Int.ofNat)) (fun x=>r.1.Conflict.length - x.2.toNat) ?_ (x:=([],0)) ⟨0,rfl,by omega,rfl⟩ (by show r.1.Conflict.length - 0 < _;omega);rintro x e ⟨i,rfl,hi,rfl⟩;unfold g_captionertop_TopSmallest_s1;dsimp only;by_cases h:i < r.1.Conflict.length
 ·left;rw[if_pos (by simpa using h),atI_nat h];simp only[Option.bind_some];rw[contains_eq b.1 hb _ (hs _ (List.getElem_mem h))];simp only[Option.bind_some,if_true];rw[if_pos (by simp;omega),wr64 (x:=(i:Int)+1) (by omega)];exact⟨_,rfl,⟨i+1,by rw[List.range_succ,List.map_append];rfl,by omega,by first|rfl|trivial⟩,by dsimp only;omega⟩
 right;obtain rfl:i=r.1.Conflict.length:=by omega
 rw[if_neg (by simp)]
theorem some9(mask:Int)(b:List T_api_Bound × Int)(hb:b.1.length≤4000)(o:List Int)(ho:0 < o.length)(ho2:o.length≤4000):∃ e,iter (g_captionertop_TopSmallest_s2 mask b o) ([],0)=some e∧(∀ x ∈ e,x ∈ b.1)∧e.length < o.length:=by
 refine iter_post (fun(x:List T_api_Bound × Int)=>∃ i:Nat,x.2=(i:Int)∧i≤b.1.length∧(∀ y ∈ x.1,y ∈ b.1)∧x.1.length < o.length) (fun x=>b.1.length - x.2.toNat) (fun(e:List T_api_Bound)=>(∀ x ∈ e,x ∈ b.1)∧e.length < o.length) (x:=([],0)) ⟨0,rfl,Nat.zero_le _,fun y hy=>(by cases hy),ho⟩ (by show b.1.length - 0 < _;omega) ?_
 rintro⟨l,x⟩ ⟨i,hx,hi,hl,hll⟩
 dsimp only at hx hl hll ⊢
 subst hx
 unfold g_captionertop_TopSmallest_s2
 dsimp only
 by_cases h:i < b.1.length
 ·left
  have ht:(0:Int)≤Int.tmod (i:Int) 64:=Int.tmod_nonneg _ (by omega)
  rw[if_pos (by simpa using h),atI_nat h,if_pos ht,wr64 (x:=((l.length:Nat):Int)+1) (by omega),wr64 (x:=(i:Int)+1) (by omega)]
  simp only[Option.bind_some]
  generalize (andZ .u64 (shrZ .u64 mask (Int.tmod (i:Int) 64)) 1 == 1)=q
  have hcase:∃ v,(if q=true then some (decide (((l.length:Nat):Int)+1 < ((o.length:Nat):Int))) else some false:Option Bool)=some v∧(v=true→l.length+1 < o.length):=by
   cases q
   ·exact⟨false,rfl,fun h=>by cases h⟩
   ·exact⟨_,rfl,fun h=>by simp at h;omega⟩
  obtain⟨v,hv,hv2⟩:=hcase
  rw[hv]
  simp only[Option.bind_some]
  cases v
  ·simp only[Bool.false_eq_true,if_false]
   exact⟨_,rfl,⟨i+1,by dsimp only;omega,h,hl,hll⟩,by dsimp only;omega⟩
  ·simp only[if_true]
   have:=hv2 rfl
   rw[if_pos (by omega)]
   refine⟨_,rfl,⟨i+1,by dsimp only;omega,h,fun y hy=>?_,by simp;omega⟩,by dsimp only;omega⟩
   rcases List.mem_append.1 hy with hy|hy
   ·exact hl y hy
   ·simp at hy;subst hy;exact List.getElem_mem h
 ·right
  rw[if_neg (by simpa using h)]
  exact⟨_,rfl,hl,hll⟩
theorem topSmallest_true(t:T_captionertop_House)(h:HskZ t)(k:Int)(hk:0≤k∧k≤255)(mask:Int):g_captionertop_TopSmallest t k mask=some true:=by
 obtain⟨hz,hn⟩:=hfT_z h
 unfold g_captionertop_TopSmallest g_captionertop_editAwake
 rw[hTask_eq]
 simp only[Option.bind_some,if_true]
 generalize hfT t=u at hz hn
 rcases plan_eq hz (by omega) u.Tol with⟨he,hp⟩|⟨g,ht,a,out,hp,ho⟩|⟨g,ht,a,r,r0,r1,r2,r3,A,hA,hp⟩
 ·rw[hp]
  simp only[Option.bind_some]
  by_cases q:(bnS u.Doc u.House u.Shots u.Tol).2=16
  ·simp[q]
  ·simp[q]
 ·rw[hp]
  simp only[Option.bind_some,bne_self_eq_false,Bool.false_eq_true,if_false]
  rcases ho with rfl|⟨m,m0,m1,hleast,hc⟩
  ·rfl
  ·obtain⟨hbn,hbs⟩:=g.bs ht
   rw[bounds_eq hz,hbn]
   simp only[Option.bind_some]
   generalize bnT u.Doc u.House u.Shots u.Tol=bs at *
   have hml:(out.map (bAt bs)).length=m:=by rw[List.length_map,hc.len]
   have hidx:=hc.idx
   have hok:BdsOK (2 * u.Doc.Events.length+1) (cfl bs out):=cfl_ok hbs hidx (by rw[hc.len];omega)
   have hed:=cfl_eds hidx
   have hcl:(cfl bs out).length=m:=hml
   obtain⟨v,hw⟩:=hc.cyc
   rw[← hed] at hw
   have hneg:=hc.neg
   rw[← hed] at hneg
   have hnd:((eds (cfl bs out)).map (·.i)).Nodup:=by
    refine cyc_simple (p:=(· ∈ eds bs)) ?_ hw hneg
    rw[show(eds (cfl bs out)).length=m from by rw[← hcl];simp[eds]]
    exact hleast
   have a1:(((out.map (bAt bs)).length:Int) == 0)=false:=by rw[hml];simp;omega
   simp only[a1,Bool.false_eq_true,if_false]
   have hord:=order9 (⟨docN,[],0,out.map (bAt bs)⟩,16) (bs,0) hbs.len (by show(out.map (bAt bs)).length≤4000;omega) (fun x hx=>by
    obtain⟨i,hi,rfl⟩:=List.mem_map.1 hx
    exact bAt_mem (hidx i hi))
   rw[hord]
   simp only[Option.bind_some,hml,List.length_map,List.length_range]
   have hm0:¬ ((m:Nat):Int)=0:=by omega
   rw[if_pos hm0]
   have hemp:(out.map (bAt bs)).isEmpty=false:=by
    rw[Bool.eq_false_iff];intro q
    rw[List.isEmpty_iff] at q
    rw[q] at hml;simp at hml;omega
   rw[if_neg (by rw[hemp];simp)]
   have hclone:g_slices_Clone_api_Bound_api_Bound_nw (out.map (bAt bs))=some (out.map (bAt bs)):=by
    unfold g_slices_Clone_api_Bound_api_Bound_nw g_slices_Clone_api_Bound_api_Bound
    rw[if_neg (by rw[hemp];simp),if_pos (by rw[hml];omega)]
   rw[hclone,wr64 (x:=k) (by omega)]
   simp only[Option.bind_some]
   obtain⟨k,rfl⟩:=Int.eq_ofNat_of_zero_le hk.1
   have hmod:Int.tmod (k:Int) (m:Int)=((k % m:Nat):Int):=by rw[Int.tmod_eq_emod_of_nonneg (by omega)];exact(Int.natCast_emod ..).symm
   have hlt:k % m < m:=Nat.mod_lt _ m0
   rw[hmod]
   generalize k % m=i at hlt
   rw[wr64 (x:=(i:Int)+1) (by omega)]
   have hdel:g_slices_Delete_api_Bound_api_Bound (out.map (bAt bs)) (i:Int) ((i:Int)+1)=some ((cfl bs out).take i++(cfl bs out).drop (i+1)):=by
    unfold g_slices_Delete_api_Bound_api_Bound
    rw[if_pos ⟨by omega,by rw[hml];omega,rfl⟩]
    rfl
   rw[hdel]
   simp only[Option.bind_some]
   rw[numN u.Doc (by omega)]
   have hok2:BdsOK (2 * u.Doc.Events.length+1) ((cfl bs out).take i++(cfl bs out).drop (i+1)) :=
    ⟨hok.n1,hok.n2,by have:=hok.len;simp only[List.length_append,List.length_take,List.length_drop];omega,fun b hb=>by
     rcases List.mem_append.1 hb with hb|hb
     ·exact hok.bd b (List.mem_of_mem_take hb)
     ·exact hok.bd b (List.mem_of_mem_drop hb)⟩
   have hi:i < (eds (cfl bs out)).length:=by rw[show(eds (cfl bs out)).length=m from by rw[← hcl];simp[eds]];exact hlt
   have hsplit:eds (cfl bs out)=(eds (cfl bs out)).take i++(eds (cfl bs out))[i]::(eds (cfl bs out)).drop (i+1):=by
    rw[← List.drop_eq_getElem_cons hi,List.take_append_drop]
   have hw0:=hw
   have hno:NoNeg (· ∈ eds ((cfl bs out).take i++(cfl bs out).drop (i+1))):=by
    have e1:eds ((cfl bs out).take i++(cfl bs out).drop (i+1))=(eds (cfl bs out)).take i++(eds (cfl bs out)).drop (i+1):=by simp[eds,List.map_take,List.map_drop]
    rw[e1]
    rw[hsplit] at hw hnd
    exact drop_one hw hnd
   have hol:((List.range m).map Int.ofNat).length=m:=by simp
   obtain⟨sm,hsm,hsub,hsl⟩:=some9 mask (bs,0) hbs.len ((List.range m).map Int.ofNat) (by rw[hol];exact m0) (by rw[hol,← hml,hml];have:=hok.len;rw[hcl] at this;exact this)
   rw[hol] at hsl
   have hok3:BdsOK (2 * u.Doc.Events.length+1) sm:=⟨hbs.n1,hbs.n2,by have:=hok.len;rw[hcl] at this;omega,fun b hb=>hbs.bd b (hsub b hb)⟩
   have hno3:NoNeg (· ∈ eds sm):=few_noneg hleast (fun e he=>by
    obtain⟨b,hb,rfl⟩:=List.mem_map.1 he
    exact List.mem_map.2 ⟨b,hsub b hb,rfl⟩) (by rw[show(eds sm).length=sm.length from by simp[eds]];exact hsl)
   rcases solve_eq hok2 with⟨_,hs⟩|⟨hbad,_⟩
   ·rw[hs]
    simp only[Option.bind_some]
    rw[hsm]
    simp only[Option.bind_some]
    rcases solve_eq hok3 with⟨_,hs3⟩|⟨hbad,_⟩
    ·rw[hs3]
     simp only[Option.bind_some,beq_self_eq_true,if_true]
     have href:=refutes_eq hok (by omega) (by rw[hcl];omega) (hw0.mono fun e he _=>he) hneg
     rw[hcl] at href
     rw[show out.map (bAt bs)=cfl bs out from rfl,href]
     rfl
    ·exact absurd hno3 hbad
   ·exact absurd hno hbad
 ·rw[hp]
  simp only[Option.bind_some]
  by_cases q:A.2=16
  ·simp[q]
  ·simp[q]
open Go.ChangeShapes Go.WideShapes Go.ChangeAt Go.RowKit
theorem own:ownKnob Tryz.prog.godebug=none:=by kernel_rfl
theorem laidOut:laidOutB Tryz.prog=true:=by kernel_rfl
theorem standIn_all(ts:List TypeId)(h:ts.all (fun t=>!(Tryz.prog.wantsStandIn t))=true)(t:TypeId)(ht:t ∈ ts):Tryz.pinned.checked.prog.wantsStandIn t=false:=by
 have:=List.all_eq_true.1 h t ht;exact(show Tryz.prog.wantsStandIn t=false by simpa using this)
def putCells(cs:Array Value):Obj→Obj
 | .cells _ t frozen=>.cells cs t frozen
 | o=>o
theorem gTabType:(Tryz.prog.globals[3]?).map (·.type)=some 425:=by kernel_rfl
theorem cellsTab:Tryz.prog.cellsOf 425=20:=by kernel_rfl
theorem cellsU64:Tryz.prog.cellsOf 33=1:=by kernel_rfl
theorem laidPow:(Rows.laid_internal_strconv_uint64pow10:DataW Unit)=Lib.tabData .u64 Lib.pow10Tab:=by kernel_rfl
theorem tab_of8{W:World}(h:laidMetH Tryz.prog [("math/bits.deBruijn32tab", Rows.laid_math_bits_deBruijn32tab),("math/bits.deBruijn64tab", Rows.laid_math_bits_deBruijn64tab),("internal/strconv.uint64pow10", Rows.laid_internal_strconv_uint64pow10),("unicode/utf8.acceptRanges", Rows.laid_unicode_utf8_acceptRanges),("strconv.ErrRange", Rows.laid_strconv_ErrRange),("strconv.ErrSyntax", Rows.laid_strconv_ErrSyntax),("unicode/utf8.first", Rows.laid_unicode_utf8_first)] W):Tab W:=by
 have h1:laidMet Tryz.prog [("internal/strconv.uint64pow10", Rows.laid_internal_strconv_uint64pow10),("unicode/utf8.acceptRanges", Rows.laid_unicode_utf8_acceptRanges),("strconv.ErrRange", Rows.laid_strconv_ErrRange),("strconv.ErrSyntax", Rows.laid_strconv_ErrSyntax),("unicode/utf8.first", Rows.laid_unicode_utf8_first)] W:=(laidMet.tail (laidMet.tail h));rw[laidPow] at h1;exact Lib.tabIs_of_head (rest:=[("unicode/utf8.acceptRanges", Rows.laid_unicode_utf8_acceptRanges),("strconv.ErrRange", Rows.laid_strconv_ErrRange),("strconv.ErrSyntax", Rows.laid_strconv_ErrSyntax),("unicode/utf8.first", Rows.laid_unicode_utf8_first)]) gTab gTabType Tryz.underlying425 Tryz.underlying33 cellsU64 cellsTab h1
theorem starErr : "*" ++ "errors.errorString" = "*errors.errorString" := by decide
theorem rowErr(u:TypeId)(h:Tryz.prog.typeName? 3 u=some "*errors.errorString"):u=440 :=
 typeName_ptr_named (nm := "errors.errorString") (by rw[starErr];kernel_rfl) (by kernel_rfl) (by decide) u (by rw[starErr];exact h)
theorem cellsErr:Tryz.prog.cellsOf 442=1:=by kernel_rfl
theorem cellsStr:Tryz.prog.cellsOf 9=1:=by kernel_rfl
theorem gErrSyntax:Tryz.prog.globalNamed "strconv.ErrSyntax" = some 4:=by kernel_rfl
theorem gErrSyntaxType:(Tryz.prog.globals[4]?).map (·.type)=some 185:=by kernel_rfl
theorem ErrSyntax_of8{W:World}(h:laidMetH Tryz.prog [("math/bits.deBruijn32tab", Rows.laid_math_bits_deBruijn32tab),("math/bits.deBruijn64tab", Rows.laid_math_bits_deBruijn64tab),("internal/strconv.uint64pow10", Rows.laid_internal_strconv_uint64pow10),("unicode/utf8.acceptRanges", Rows.laid_unicode_utf8_acceptRanges),("strconv.ErrRange", Rows.laid_strconv_ErrRange),("strconv.ErrSyntax", Rows.laid_strconv_ErrSyntax),("unicode/utf8.first", Rows.laid_unicode_utf8_first)] W):∃ te pe,W.cell? ⟨4,0,none⟩=some (.iface te pe):=by
 have h1:laidMet Tryz.prog [("strconv.ErrSyntax", Rows.laid_strconv_ErrSyntax),("unicode/utf8.first", Rows.laid_unicode_utf8_first)] W:=(laidMet.tail (laidMet.tail (laidMet.tail (laidMet.tail (laidMet.tail h)))));obtain⟨a,s,hv,_,_,_⟩:=laid_sentinel h1 gErrSyntax gErrSyntaxType Tryz.underlying185 rowErr Tryz.underlying440 Tryz.underlying442 rfl rfl Tryz.underlying9 cellsErr cellsStr;exact⟨_,_,by simpa using World.var?_cell gErrSyntax hv 0⟩
theorem gErrRange:Tryz.prog.globalNamed "strconv.ErrRange" = some 5:=by kernel_rfl
theorem gErrRangeType:(Tryz.prog.globals[5]?).map (·.type)=some 185:=by kernel_rfl
theorem ErrRange_of8{W:World}(h:laidMetH Tryz.prog [("math/bits.deBruijn32tab", Rows.laid_math_bits_deBruijn32tab),("math/bits.deBruijn64tab", Rows.laid_math_bits_deBruijn64tab),("internal/strconv.uint64pow10", Rows.laid_internal_strconv_uint64pow10),("unicode/utf8.acceptRanges", Rows.laid_unicode_utf8_acceptRanges),("strconv.ErrRange", Rows.laid_strconv_ErrRange),("strconv.ErrSyntax", Rows.laid_strconv_ErrSyntax),("unicode/utf8.first", Rows.laid_unicode_utf8_first)] W):∃ te pe,W.cell? ⟨5,0,none⟩=some (.iface te pe):=by
 have h1:laidMet Tryz.prog [("strconv.ErrRange", Rows.laid_strconv_ErrRange),("strconv.ErrSyntax", Rows.laid_strconv_ErrSyntax),("unicode/utf8.first", Rows.laid_unicode_utf8_first)] W:=(laidMet.tail (laidMet.tail (laidMet.tail (laidMet.tail h))));obtain⟨a,s,hv,_,_,_⟩:=laid_sentinel h1 gErrRange gErrRangeType Tryz.underlying185 rowErr Tryz.underlying440 Tryz.underlying442 rfl rfl Tryz.underlying9 cellsErr cellsStr;exact⟨_,_,by simpa using World.var?_cell gErrRange hv 0⟩
theorem u8t_of8{W:World}(h:laidMetH Tryz.prog [("math/bits.deBruijn32tab", Rows.laid_math_bits_deBruijn32tab),("math/bits.deBruijn64tab", Rows.laid_math_bits_deBruijn64tab),("internal/strconv.uint64pow10", Rows.laid_internal_strconv_uint64pow10),("unicode/utf8.acceptRanges", Rows.laid_unicode_utf8_acceptRanges),("strconv.ErrRange", Rows.laid_strconv_ErrRange),("strconv.ErrSyntax", Rows.laid_strconv_ErrSyntax),("unicode/utf8.first", Rows.laid_unicode_utf8_first)] W):U8T W :=
 utf8Tabs_of_readsT (U8Types.of196 Tryz.laysValid) ⟨by kernel_rfl,by kernel_rfl,by kernel_rfl,by kernel_rfl,by kernel_rfl,by kernel_rfl,by kernel_rfl⟩ (Lib.laidMet.reads h (.tail _ (.tail _ (.tail _ (.tail _ (.tail _ (.tail _ (.head _)))))))) (Lib.laidMet.reads h (.tail _ (.tail _ (.tail _ (.head _)))))
theorem cell_keep{w w':World}{g c:Nat}{v:Value}(h:w.cell? ⟨g,c,none⟩=some v)(hb:Below w.heap.size w w'):w'.cell? ⟨g,c,none⟩=some v:=by
 have hlt:g < w.heap.size:=by
  rcases Nat.lt_or_ge g w.heap.size with h1|h1
  ·exact h1
  ·simp[World.cell?,Array.getElem?_eq_none h1] at h
 rw[World.cell?_of_block (hb.block g hlt)]
 exact h
theorem stabU8T:Stab U8T:=fun w w' h hb=>⟨fun c hc=>cell_keep (h.1 c hc) hb,fun i hi=>⟨cell_keep (h.2 i hi).1 hb,cell_keep (h.2 i hi).2 hb⟩⟩
theorem shp_of{W:World}(h:W.ShapedOpen Tryz.prog):Shp W :=
 cell_of_shapedOpen_int (k:=.i64) (t:=3) (zero:=#[.int .i64 0]) h (of_decide_eq_true (by kernel_rfl)) (by kernel_rfl) rfl (by kernel_rfl) (by kernel_rfl) Tryz.underlying3
theorem stabTab:Stab Tab:=fun _ _ h hb=>tab_below h hb
def Env8 (w:World):Prop:=Tab w∧Shp w∧PIv w∧U8T w
theorem stabEnv8:Stab Env8:=fun w w' ⟨a,b,c,d⟩ hb=>⟨stabTab w w' a hb,stabShp w w' b hb,stabPIv w w' c hb,stabU8T w w' d hb⟩
theorem env_of8{W:World}(h:laidMetH Tryz.prog [("math/bits.deBruijn32tab", Rows.laid_math_bits_deBruijn32tab),("math/bits.deBruijn64tab", Rows.laid_math_bits_deBruijn64tab),("internal/strconv.uint64pow10", Rows.laid_internal_strconv_uint64pow10),("unicode/utf8.acceptRanges", Rows.laid_unicode_utf8_acceptRanges),("strconv.ErrRange", Rows.laid_strconv_ErrRange),("strconv.ErrSyntax", Rows.laid_strconv_ErrSyntax),("unicode/utf8.first", Rows.laid_unicode_utf8_first)] W)(hs:W.ShapedOpen Tryz.prog):Env8 W:=⟨tab_of8 h,shp_of hs,⟨ErrSyntax_of8 h,ErrRange_of8 h⟩,u8t_of8 h⟩
noncomputable def low8:Nat:=(World.holding Tryz.prog default ⟨#[],#[],[]⟩).heap.size
noncomputable def laidWorld8(os:Os):World :=
 { (World.holding Tryz.prog os ⟨#[.cells #[.string ⟨#[118,97,108,117,101,32,111,117,116,32,111,102,32,114,97,110,103,101]⟩] 442,.cells #[.string ⟨#[105,110,118,97,108,105,100,32,115,121,110,116,97,120]⟩] 442],#[],[]⟩) with heap:=((((((((World.holding Tryz.prog os ⟨#[.cells #[.string ⟨#[118,97,108,117,101,32,111,117,116,32,111,102,32,114,97,110,103,101]⟩] 442,.cells #[.string ⟨#[105,110,118,97,108,105,100,32,115,121,110,116,97,120]⟩] 442],#[],[]⟩).heap.modify 6 (putCells #[.int .u8 0,.int .u8 1,.int .u8 28,.int .u8 2,.int .u8 29,.int .u8 14,.int .u8 24,.int .u8 3,.int .u8 30,.int .u8 22,.int .u8 20,.int .u8 15,.int .u8 25,.int .u8 17,.int .u8 4,.int .u8 8,.int .u8 31,.int .u8 27,.int .u8 13,.int .u8 23,.int .u8 21,.int .u8 19,.int .u8 16,.int .u8 7,.int .u8 26,.int .u8 12,.int .u8 18,.int .u8 6,.int .u8 11,.int .u8 5,.int .u8 10,.int .u8 9])).modify 7 (putCells #[.int .u8 0,.int .u8 1,.int .u8 56,.int .u8 2,.int .u8 57,.int .u8 49,.int .u8 28,.int .u8 3,.int .u8 61,.int .u8 58,.int .u8 42,.int .u8 50,.int .u8 38,.int .u8 29,.int .u8 17,.int .u8 4,.int .u8 62,.int .u8 47,.int .u8 59,.int .u8 36,.int .u8 45,.int .u8 43,.int .u8 51,.int .u8 22,.int .u8 53,.int .u8 39,.int .u8 33,.int .u8 30,.int .u8 24,.int .u8 18,.int .u8 12,.int .u8 5,.int .u8 63,.int .u8 55,.int .u8 48,.int .u8 27,.int .u8 60,.int .u8 41,.int .u8 37,.int .u8 16,.int .u8 46,.int .u8 35,.int .u8 44,.int .u8 21,.int .u8 52,.int .u8 32,.int .u8 23,.int .u8 11,.int .u8 54,.int .u8 26,.int .u8 40,.int .u8 15,.int .u8 34,.int .u8 20,.int .u8 31,.int .u8 10,.int .u8 25,.int .u8 14,.int .u8 19,.int .u8 9,.int .u8 13,.int .u8 8,.int .u8 7,.int .u8 6])).modify 3 (putCells #[.int .u64 1,.int .u64 10,.int .u64 100,.int .u64 1000,.int .u64 10000,.int .u64 100000,.int .u64 1000000,.int .u64 10000000,.int .u64 100000000,.int .u64 1000000000,.int .u64 10000000000,.int .u64 100000000000,.int .u64 1000000000000,.int .u64 10000000000000,.int .u64 100000000000000,.int .u64 1000000000000000,.int .u64 10000000000000000,.int .u64 100000000000000000,.int .u64 1000000000000000000,.int .u64 10000000000000000000])).modify 1 (putCells #[.int .u8 128,.int .u8 191,.int .u8 160,.int .u8 191,.int .u8 128,.int .u8 159,.int .u8 144,.int .u8 191,.int .u8 128,.int .u8 143,.int .u8 0,.int .u8 0,.int .u8 0,.int .u8 0,.int .u8 0,.int .u8 0,.int .u8 0,.int .u8 0,.int .u8 0,.int .u8 0,.int .u8 0,.int .u8 0,.int .u8 0,.int .u8 0,.int .u8 0,.int .u8 0,.int .u8 0,.int .u8 0,.int .u8 0,.int .u8 0,.int .u8 0,.int .u8 0])).modify 5 (putCells #[.iface 440 (.pointer (some ⟨low8+0,0,none⟩))])).modify 4 (putCells #[.iface 440 (.pointer (some ⟨low8+1,0,none⟩))])).modify 0 (putCells (Pinned.utf8FirstZ.map fun(z:Nat)=>Value.int .u8 (z:Int)).toArray)) }
def T_api_Region.sz(x:T_api_Region):Prop:=(x.Name.length≤1048576)∧(True)∧(True)∧(True)∧(True)∧(True)∧(True)∧True
def T_api_Span.sz(x:T_api_Span):Prop:=(True)∧(True)∧True
def T_api_Style.sz(x:T_api_Style):Prop:=(True)∧(True)∧(True)∧True
def T_api_Run.sz(x:T_api_Run):Prop:=(x.Text.length≤1048576)∧(T_api_Style.sz x.Style)∧(x.Ruby.length≤1048576)∧True
def T_api_Row.sz(x:T_api_Row):Prop:=(x.Runs.length≤1048576∧∀ a ∈ x.Runs,T_api_Run.sz a)∧True
def T_api_Event.sz(x:T_api_Event):Prop:=(True)∧(T_api_Span.sz x.Span)∧(x.Region.length≤1048576)∧(True)∧(x.Speaker.length≤1048576)∧(x.Rows.length≤1048576∧∀ a ∈ x.Rows,T_api_Row.sz a)∧True
def T_api_Comment.sz(x:T_api_Comment):Prop:=(True)∧(True)∧(True)∧(True)∧(x.Author.length≤1048576)∧(x.Text.length≤1048576)∧(True)∧(True)∧True
def T_api_Document.sz(x:T_api_Document):Prop:=(x.Title.length≤1048576)∧(x.Lang.length≤1048576)∧(True)∧(True)∧(True)∧(x.Regions.length≤1048576∧∀ a ∈ x.Regions,T_api_Region.sz a)∧(x.Events.length≤1048576∧∀ a ∈ x.Events,T_api_Event.sz a)∧(x.Comments.length≤1048576∧∀ a ∈ x.Comments,T_api_Comment.sz a)∧True
def T_api_Profile.sz(x:T_api_Profile):Prop:=(x.Name.length≤1048576)∧(True)∧(True)∧(True)∧(True)∧(True)∧(True)∧(True)∧(True)∧(x.Forbidden.length≤1048576)∧(True)∧(True)∧(True)∧(True)∧True
def T_captionertop_House.sz(x:T_captionertop_House):Prop:=(T_api_Document.sz x.Doc)∧(T_api_Profile.sz x.House)∧(x.Shots.length≤1048576∧∀ a ∈ x.Shots,True)∧(True)∧True
theorem doc_z{d:T_api_Document}(h:T_api_Document.sz d)(hr:0≤d.Rate∧d.Rate≤255):DocZ d :=
 ⟨h.1,hr,h.2.2.2.2.2.1.1,h.2.2.2.2.2.2.1.1,fun e he=>by
  have:=(h.2.2.2.2.2.2.1.2 e he).2.2.2.2.2.1
  exact⟨this.1,fun r hr=>⟨fun u hu=>⟨((this.2 r hr).1.2 u hu).1,((this.2 r hr).1.2 u hu).2.2.1⟩,(this.2 r hr).1.1⟩⟩,h.2.2.2.2.2.2.2.1.1,fun c hc=>(h.2.2.2.2.2.2.2.1.2 c hc).2.2.2.2.2.1⟩
theorem house_z{t:T_captionertop_House}(h:T_captionertop_House.sz t)(hr:0≤t.Doc.Rate∧t.Doc.Rate≤255):HskZ t :=
 ⟨doc_z h.1 hr,h.2.1.1,h.2.1.2.2.2.2.2.2.2.2.2.1⟩
theorem house_rate{ds:List D}{t:T_captionertop_House}(h:∀ d ∈ ds,Sz d)(hm:t.d ∈ ds):0≤t.Doc.Rate∧t.Doc.Rate≤255 :=
 Sz_u8.1 (Sz_agg.1 (h _ hm) (.int .u8 t.Doc.Rate) (by simp))
theorem law_TopSmallest(t:T_captionertop_House)(k mask:Int)(hB:T_captionertop_House.sz t):AFun Tryz.prog Env8 3 [t.d,.int .u8 k,.int .u64 mask] (.bool true):=by
 refine AFun.sized (by kernel_rfl) fun hz=>?_;have hk:0≤k∧k≤255:=Sz_u8.1 (hz (.int .u8 k) (by simp));exact a_captionertop_TopSmallest stabEnv8 (fun _ h=>h.2.2.1) (fun _ h=>h.2.1) (fun _ h=>h.1) (fun _ h=>h.2.2.2) (topSmallest_true t (house_z hB (house_rate hz (by simp))) k hk mask)
open Go.ChangeShapes Go.WideShapes Go.ChangeAt Go.RowKit Go.Joins
def FA (w:World):Nat→Nat→Prop:=fun b _=>b < w.heap.size
theorem FA_fb(w:World):FB (cF (FA w)) w:=fun _ _ h=>h
theorem wf_inR{k:IntKind}{n:Int}(h:(Lit.int k n).wf=true):inR k n:=by
 simp only[Lit.wf,Bool.and_eq_true,decide_eq_true_eq] at h;cases k<;>simp[IntKind.min,IntKind.max,IntKind.signed,IntKind.bits] at h<;>simp[inR,kLo,kHi]<;>omega
theorem strOfBytes(s:ByteArray):(⟨s.data.toList.toArray⟩:ByteArray)=s:=by cases s;simp
theorem AFun.law{P:Program}{I:World→Prop}{f:FuncId}{ds:List D}(h:AFun P I f ds (.bool true)){W:World}{args:List Value}(hI:I W)(hl:args.length=ds.length)(hr:∀ (i:Nat) v d,args[i]? = some v→ds[i]? = some d→Rep W (cF (FA W)) v d) :
  Calls P f args.toArray W fun e w'=>e=.returned (.bool true)∧Below W.heap.size W w':=by
 refine(h.2 W (FA W) args hI (FA_fb W) hl hr).mono ?_
 rintro e w' ⟨v,F',rfl,hb,_,_,_,hrep⟩
 cases hrep
 exact⟨rfl,hb⟩
section
variable (H:Type)(enc:TypeId × Value→H)(P:Program)
def OpT {α:Type}(t:TypeId)(δ:α→D):Prop :=
 ∀ (w:World) (fuel:Nat) (cs:List Value) (x:DataW H × List MemPlace),DataW.trod enc P w 0 (fun _=>true) true fuel t cs=some x→∃ a:α,RepL (cF (FA w)) w cs (δ a).cells
def OpFd {α:Type}(fs:List Field)(off:Nat)(γ:α→List D):Prop :=
 ∀ (w:World) (fuel:Nat) (cs:List Value),off≤cs.length→(∀ f ∈ fs,∃ x,DataW.trod enc P w 0 (fun _=>true) true fuel f.type ((cs.drop f.offset).take (P.cellsOf f.type))=some x)→(fs=[]→cs.length=off)→(∀ f ∈ fs,f.offset+P.cellsOf f.type≤cs.length)→((fs.map fun f=>P.cellsOf f.type).sum+off=cs.length)→∃ a:α,RepL (cF (FA w)) w (cs.drop off) (γ a)
end
section
variable {H:Type}{enc:TypeId × Value→H}{P:Program}
theorem OpT.int{t:TypeId}{k:IntKind}(ht:P.underlying t=some (.int k)):OpT H enc P t (D.int k):=by
 intro w fuel cs x h;obtain⟨n,rfl,_,hw⟩:=DataW.trod_int ht h;exact⟨n,RepL.one1 rfl (.int _ _ (wf_inR hw))⟩
theorem OpT.bool{t:TypeId}(ht:P.underlying t=some .bool):OpT H enc P t D.bool:=by
 intro w fuel cs x h;obtain⟨n,rfl,_⟩:=DataW.trod_bool ht h;exact⟨n,RepL.one1 rfl (.bool _)⟩
theorem rep_strB{w:World}{C:Cx}(s:ByteArray)(h:s.size≤maxLen):Rep w C (.string s) (.str s.data.toList):=by
 have:=Rep.str (w:=w) (C:=C) s.data.toList (by rw[Array.length_toList];exact h);rwa[strOfBytes] at this
theorem OpT.str{t:TypeId}(ht:P.underlying t=some .string):OpT H enc P t D.str:=by
 intro w fuel cs x h;obtain⟨s,rfl,_,hs⟩:=DataW.trod_string ht h;exact⟨s.data.toList,RepL.one1 rfl (rep_strB s hs)⟩
theorem OpT.map{α β:Type}{t:TypeId}{δ:α→D}{ε:β→D}(h:OpT H enc P t δ)(φ:α→β)(hφ:∀ a,ε (φ a)=δ a):OpT H enc P t ε:=by
 intro w fuel cs x hx;obtain⟨a,ha⟩:=h w fuel cs x hx;exact⟨φ a,by rw[hφ];exact ha⟩
theorem OpFd.nil{off:Nat}:OpFd H enc P [] off (fun _:Unit=>[]):=by
 intro w fuel cs h1 h2 h3 h4 h5;refine⟨(),?_⟩;rw[List.drop_eq_nil_of_le (by have:=h3 rfl;omega)];exact RepL.nil
theorem OpFd.cons{α β:Type}{f:Field}{fs:List Field}{off:Nat}{δ:α→D}{γ:β→List D}(ho:f.offset=off)(h:OpT H enc P f.type δ)(hr:OpFd H enc P fs (off+P.cellsOf f.type) γ):OpFd H enc P (f::fs) off (fun p:α × β=>(δ p.1).cells++γ p.2):=by
 intro w fuel cs h1 h2 h3 h4 h5;subst ho;obtain⟨x,hx⟩:=h2 f (by simp);obtain⟨a,ha⟩:=h w fuel _ x hx;have hlen:f.offset+P.cellsOf f.type≤cs.length:=h4 f (by simp);simp only[List.map_cons,List.sum_cons] at h5;obtain⟨b,hb⟩:=hr w fuel cs hlen (fun g hg=>h2 g (by simp[hg])) (fun e=>by subst e;simp at h5;omega) (fun g hg=>h4 g (by simp[hg])) (by omega);refine⟨(a,b),?_⟩;have:=ha.append hb;rw[show(cs.drop f.offset).take (P.cellsOf f.type)++cs.drop (f.offset+P.cellsOf f.type)=cs.drop f.offset by rw[← List.drop_drop];exact List.take_append_drop _ _] at this;exact this
theorem OpT.struct{α β:Type}{t:TypeId}{fs:Array Field}{γ:α→List D}{ε:β→D}(ht:P.underlying t=some (.struct fs))(hoff:(fs.toList.all fun f=>decide (f.offset+P.cellsOf f.type≤P.cellsOf t))=true)(hsum:(fs.toList.map fun f=>P.cellsOf f.type).sum=P.cellsOf t)(h:OpFd H enc P fs.toList 0 γ)(φ:α→β)(hφ:∀ a,(ε (φ a)).cells=γ a):OpT H enc P t ε:=by
 intro w fuel cs x hx
 obtain⟨xs,n,_,_,hl,hxl,hf⟩:=DataW.trod_struct ht hx
 obtain⟨a,ha⟩:=h w n cs (Nat.zero_le _) (fun f hf'=>by
  obtain⟨i,hi,rfl⟩:=List.getElem_of_mem hf'
  have hi':fs[i]? = some fs.toList[i]:=by simp at hi ⊢
  have:=hf i _ hi'
  rw[List.getElem?_eq_getElem (by rw[hxl];simpa using hi)] at this
  exact⟨_,this⟩) (fun e=>by rw[e] at hsum;simp at hsum;omega) (fun f hf'=>by have:=List.all_eq_true.1 hoff f hf';simp at this;omega) (by omega)
 refine⟨φ a,?_⟩
 rw[hφ]
 simpa using ha
theorem addr_addO(b o i:Nat):(⟨b,o,none⟩:Addr).add i=⟨b,o+i,none⟩:=by
 unfold Addr.add;split
 ·rename_i e;subst e;rfl
 rfl
theorem rows_of{w:World}{b off k:Nat}{α:Type}{δ:α→D}(hk:∀ a,(δ a).cells.length=k):∀ (n:Nat) (s:Nat),(∀ i,i < n→∃ cs',(∀ j,j < k→w.cell? ⟨b,off+(s+i) * k+j,none⟩=cs'[j]?)∧cs'.length=k∧∃ a:α,RepL (cF (FA w)) w cs' (δ a).cells) →
  ∃ (l:List α) (vals:List Value),l.length=n∧vals.length=n * k∧RepL (cF (FA w)) w vals ((l.map δ).flatMap D.cells)∧∀ (i:Nat) v,vals[i]? = some v→w.cell? ⟨b,off+s * k+i,none⟩=some v:=by
 intro n
 induction n with
 | zero=>intro s _;exact⟨[],[],rfl,by simp,RepL.nil,by simp⟩
 | succ n ih =>
  intro s h
  obtain⟨cs,hc,hcl,a,ha⟩:=h 0 (by omega)
  obtain⟨l,vals,h1,h2,h3,h4⟩:=ih (s+1) (fun i hi=>by
   obtain⟨cs',hh⟩:=h (i+1) (by omega)
   refine⟨cs',?_⟩
   rw[show s+1+i=s+(i+1) by omega]
   exact hh)
  refine⟨a::l,cs++vals,by simp[h1],by rw[List.length_append,hcl,h2,Nat.add_mul];omega,?_,?_⟩
  ·simp only[List.map_cons,List.flatMap_cons]
   exact ha.append h3
  ·intro i v hv
   by_cases hi:i < k
   ·rw[List.getElem?_append_left (by omega)] at hv
    have:=hc i hi
    rw[Nat.add_zero] at this
    rw[this,hv]
   ·rw[List.getElem?_append_right (by omega)] at hv
    have:=h4 _ v hv
    rw[hcl] at this
    rw[← this]
    congr 2
    rw[Nat.add_mul]
    omega
theorem OpT.slice{α:Type}{t e:TypeId}{δ:α→D}(ht:P.underlying t=some (.slice e))(hpos:0 < P.cellsOf e)(hk:∀ a,(δ a).cells.length=P.cellsOf e)(h:OpT H enc P e δ):OpT H enc P t (fun l:List α=>D.sl (l.map δ)):=by
 intro w fuel cs x hx
 rcases Deep.open_slice ht hx with⟨rfl,_⟩|⟨a,len,cap,m,n,Dd,Pl,rfl,hb,hl,hm,hmm,_,hel⟩
 ·exact⟨[],RepL.one1 rfl (.sl0 _ _ (Nat.zero_le _))⟩
 ·simp only[if_true] at hmm
  subst hmm
  by_cases h0:len=0
  ·subst h0
   exact⟨[],RepL.one1 rfl (.sl0 _ _ hm)⟩
  ·obtain⟨b,off,spot⟩:=a
   obtain⟨c0,hc0,_⟩:=hel 0 (by omega)
   obtain⟨_,hl0,hg0⟩:=World.cells?_some hc0
   have hcell0:=hg0 0 hpos
   have hx0:c0[0]? = some (c0[0]'(by omega)):=List.getElem?_eq_getElem _
   rw[hx0] at hcell0
   have hspot:spot=none:=by simpa[Addr.add] using World.cell?_spot hcell0
   subst hspot
   have hbl:b < w.heap.size:=by
    rcases Nat.lt_or_ge b w.heap.size with h1|h1
    ·exact h1
    ·simp[Addr.add,World.cell?,Array.getElem?_eq_none h1] at hcell0
   obtain⟨l,vals,h1,h2,h3,h4⟩:=rows_of (w:=w) (b:=b) (off:=off) (k:=P.cellsOf e) hk len 0 (fun i hi=>by
    obtain⟨cs',hc',ht'⟩:=hel i (by omega)
    obtain⟨_,hl',hg'⟩:=World.cells?_some hc'
    refine⟨cs',fun j hj=>?_,hl',h w n cs' _ ht'⟩
    have:=hg' j hj
    rw[addr_addO,addr_addO] at this
    rw[← this]
    simp)
   refine⟨l,RepL.one1 rfl ?_⟩
   have hkk:∀ x ∈ l.map δ,x.cells.length=P.cellsOf e:=fun x hx=>by obtain⟨y,_,rfl⟩:=List.mem_map.1 hx;exact hk y
   have:=Rep.sl (w:=w) (C:=cF (FA w)) b off (P.cellsOf e) m (l.map δ) vals (by simp[h1];omega) hm hkk h3.len h3.one (fun _ _=>hbl) (fun i v hv=>by have:=h4 i v hv;simpa using this) (fun i v d hv hd=>h3.rep i v d hv hd)
   rw[List.length_map,h1] at this
   exact this
theorem arr_rows{α:Type}{e:TypeId}{δ:α→D}(h:OpT H enc P e δ)(w:World)(fuel:Nat)(cs:List Value)(k:Nat):∀ (n s:Nat),(∀ i,s≤i→i < s+n→∃ x,DataW.trod enc P w 0 (fun _=>true) true fuel e ((cs.drop (i * k)).take k)=some x)→cs.length=(s+n) * k →
  ∃ l:List α,l.length=n∧RepL (cF (FA w)) w (cs.drop (s * k)) (l.flatMap fun a=>(δ a).cells):=by
 intro n
 induction n with
 | zero=>intro s _ hl;exact⟨[],rfl,by rw[List.drop_eq_nil_of_le (by rw[hl];exact Nat.le_refl _)];exact RepL.nil⟩
 | succ n ih =>
  intro s hx hl
  obtain⟨x,hx0⟩:=hx s (by omega) (by omega)
  obtain⟨a,ha⟩:=h w fuel _ x hx0
  obtain⟨l,hll,hr⟩:=ih (s+1) (fun i h1 h2=>hx i (by omega) (by omega)) (by rw[hl];congr 1;omega)
  refine⟨a::l,by simp[hll],?_⟩
  have:=ha.append hr
  rw[show(cs.drop (s * k)).take k++cs.drop ((s+1) * k)=cs.drop (s * k) by rw[show(s+1) * k=s * k+k by rw[Nat.add_mul];omega,← List.drop_drop];exact List.take_append_drop _ _] at this
  exact this
theorem OpT.array{α β:Type}{t e:TypeId}{n:Nat}{δ:α→D}{ε:β→D}(ht:P.underlying t=some (.array n e))(hc:P.cellsOf t=n * P.cellsOf e)(h:OpT H enc P e δ)(φ:(l:List α)→l.length=n→β)(hφ:∀ l h,(ε (φ l h)).cells=l.flatMap fun a=>(δ a).cells):OpT H enc P t ε:=by
 intro w fuel cs x hx
 obtain⟨xs,m,_,_,hl,hxl,hf⟩:=DataW.trod_array ht hx
 obtain⟨l,hll,hr⟩:=arr_rows h w m cs (P.cellsOf e) n 0 (fun i _ hi=>by
  have:=hf i (by omega)
  rw[List.getElem?_eq_getElem (by omega)] at this
  exact⟨_,this⟩) (by rw[hl,hc,Nat.zero_add])
 refine⟨φ l hll,?_⟩
 rw[hφ]
 simpa using hr
theorem OpT.arg1{α:Type}{t:TypeId}{δ:α→D}(h:OpT H enc P t δ){w:World}{v:Value}{d:DataW H}{p:List MemPlace}(hv:v.cells=#[v])(hδ:∀ a,(δ a).cells=[δ a])(ht:DataW.Trod enc P w 0 (fun _=>true) true t v d p):∃ a,Rep w (cF (FA w)) v (δ a):=by
 obtain⟨fuel,hf⟩:=ht;obtain⟨a,ha⟩:=h w fuel _ _ hf;refine⟨a,?_⟩;rw[hv,hδ] at ha;exact ha.rep 0 v (δ a) rfl rfl
theorem OpT.argS{α:Type}{t:TypeId}{δ:α→D}{cs:Array Value}(h:OpT H enc P t δ){w:World}{d:DataW H}{p:List MemPlace}(hδ:∀ a,∃ ds,δ a=.agg ds)(ht:DataW.Trod enc P w 0 (fun _=>true) true t (.agg cs) d p):∃ a,Rep w (cF (FA w)) (.agg cs) (δ a):=by
 obtain⟨fuel,hf⟩:=ht;obtain⟨a,ha⟩:=h w fuel _ _ hf;refine⟨a,?_⟩;obtain⟨ds,hd⟩:=hδ a;rw[hd] at ha ⊢;have:=ha.agg;simpa[Value.cells,D.cells] using this
theorem OpT.argInt{α:Type}{t:TypeId}{k:IntKind}{δ:α→D}(ht:P.underlying t=some (.int k))(h:OpT H enc P t δ)(hδ:∀ a,(δ a).cells=[δ a]){w:World}{r:Reach}{b0:Nat}{v:Value}{d:DataW H}{p:List MemPlace}(hv:Value.okWide P w r b0 t v)(hd:DataW.Trod enc P w 0 (fun _=>true) true t v d p):∃ a,Rep w (cF (FA w)) v (δ a):=by
 obtain⟨n,rfl⟩:=okWide_int ht hv;exact h.arg1 rfl hδ hd
theorem OpT.argStruct{α:Type}{t:TypeId}{fs:Array Field}{δ:α→D}(ht:P.underlying t=some (.struct fs))(h:OpT H enc P t δ)(hδ:∀ a,∃ ds,δ a=.agg ds){w:World}{r:Reach}{b0:Nat}{v:Value}{d:DataW H}{p:List MemPlace}(hv:Value.okWide P w r b0 t v)(hd:DataW.Trod enc P w 0 (fun _=>true) true t v d p):∃ a,Rep w (cF (FA w)) v (δ a):=by
 obtain⟨_,rfl,_⟩:=okWide_struct ht hv;exact h.argS hδ hd
end
open Go.ChangeShapes Go.WideShapes Go.ChangeAt Go.RowKit Go.Joins
theorem bulk_pos{H:Type}(d:DataW H):1≤Rows.uptoBulk d:=by
 cases d with
 | lit l=>cases l<;>simp[Rows.uptoBulk]
 | _=>simp[Rows.uptoBulk]
theorem bulk_mem{H:Type}:∀ {l:List (DataW H)} {d:DataW H},d ∈ l→Rows.uptoBulk d≤Rows.uptoBulkAll l
 | a::l,d,h=>by
  unfold Rows.uptoBulkAll
  rcases List.mem_cons.1 h with rfl|h
  ·omega
  ·have:=bulk_mem h;omega
theorem bulk_len{H:Type}:∀ (l:List (DataW H)),l.length≤Rows.uptoBulkAll l
 | []=>by simp[Rows.uptoBulkAll]
 | a::l=>by
  unfold Rows.uptoBulkAll
  have:=bulk_pos a;have:=bulk_len l
  simp only[List.length_cons];omega
section
variable (H:Type)(enc:TypeId × Value→H)(P:Program)(n:Nat)
def OpTB {α:Type}(t:TypeId)(δ:α→D)(B:α→Prop):Prop :=
 ∀ (w:World) (fuel:Nat) (cs:List Value) (x:DataW H × List MemPlace),DataW.trod enc P w 0 (fun _=>true) true fuel t cs=some x→Rows.uptoBulk x.1≤n→∃ a:α,RepL (cF (FA w)) w cs (δ a).cells∧B a
def OpFB {α:Type}(fs:List Field)(off:Nat)(γ:α→List D)(B:α→Prop):Prop :=
 ∀ (w:World) (fuel:Nat) (cs:List Value),off≤cs.length→(∀ f ∈ fs,∃ x:DataW H × List MemPlace,DataW.trod enc P w 0 (fun _=>true) true fuel f.type ((cs.drop f.offset).take (P.cellsOf f.type))=some x∧Rows.uptoBulk x.1≤n)→(fs=[]→cs.length=off)→(∀ f ∈ fs,f.offset+P.cellsOf f.type≤cs.length)→((fs.map fun f=>P.cellsOf f.type).sum+off=cs.length)→∃ a:α,RepL (cF (FA w)) w (cs.drop off) (γ a)∧B a
end
section
variable {H:Type}{enc:TypeId × Value→H}{P:Program}{n:Nat}
theorem OpTB.int{t:TypeId}{k:IntKind}(ht:P.underlying t=some (.int k)):OpTB H enc P n t (D.int k) (fun _=>True):=by
 intro w fuel cs x h _;obtain⟨a,ha⟩:=OpT.int ht w fuel cs x h;exact⟨a,ha,trivial⟩
theorem OpTB.bool{t:TypeId}(ht:P.underlying t=some .bool):OpTB H enc P n t D.bool (fun _=>True):=by
 intro w fuel cs x h _;obtain⟨a,ha⟩:=OpT.bool ht w fuel cs x h;exact⟨a,ha,trivial⟩
theorem OpTB.str{t:TypeId}(ht:P.underlying t=some .string):OpTB H enc P n t D.str (fun s=>s.length≤n):=by
 intro w fuel cs x h hn;obtain⟨s,rfl,rfl,hs⟩:=DataW.trod_string ht h;refine⟨s.data.toList,RepL.one1 rfl (rep_strB s hs),?_⟩;simp only[Rows.uptoBulk] at hn;omega
theorem OpFB.nil{off:Nat}:OpFB H enc P n [] off (fun _:Unit=>[]) (fun _=>True):=by
 intro w fuel cs h1 h2 h3 h4 h5;refine⟨(),?_,trivial⟩;rw[List.drop_eq_nil_of_le (by have:=h3 rfl;omega)];exact RepL.nil
theorem OpFB.cons{α β:Type}{f:Field}{fs:List Field}{off:Nat}{δ:α→D}{γ:β→List D}{A:α→Prop}{B:β→Prop}(ho:f.offset=off)(h:OpTB H enc P n f.type δ A)(hr:OpFB H enc P n fs (off+P.cellsOf f.type) γ B):OpFB H enc P n (f::fs) off (fun p:α × β=>(δ p.1).cells++γ p.2) (fun p=>A p.1∧B p.2):=by
 intro w fuel cs h1 h2 h3 h4 h5;subst ho;obtain⟨x,hx,hxn⟩:=h2 f (by simp);obtain⟨a,ha,hA⟩:=h w fuel _ x hx hxn;have hlen:f.offset+P.cellsOf f.type≤cs.length:=h4 f (by simp);simp only[List.map_cons,List.sum_cons] at h5;obtain⟨b,hb,hB⟩:=hr w fuel cs hlen (fun g hg=>h2 g (by simp[hg])) (fun e=>by subst e;simp at h5;omega) (fun g hg=>h4 g (by simp[hg])) (by omega);refine⟨(a,b),?_,hA,hB⟩;have:=ha.append hb;rw[show(cs.drop f.offset).take (P.cellsOf f.type)++cs.drop (f.offset+P.cellsOf f.type)=cs.drop f.offset by rw[← List.drop_drop];exact List.take_append_drop _ _] at this;exact this
theorem OpTB.struct{α β:Type}{t:TypeId}{fs:Array Field}{γ:α→List D}{ε:β→D}{A:α→Prop}{B:β→Prop}(ht:P.underlying t=some (.struct fs))(hoff:(fs.toList.all fun f=>decide (f.offset+P.cellsOf f.type≤P.cellsOf t))=true)(hsum:(fs.toList.map fun f=>P.cellsOf f.type).sum=P.cellsOf t)(h:OpFB H enc P n fs.toList 0 γ A)(φ:α→β)(hφ:∀ a,(ε (φ a)).cells=γ a)(hB:∀ a,A a→B (φ a)):OpTB H enc P n t ε B:=by
 intro w fuel cs x hx hn
 obtain⟨xs,m,_,rfl,hl,hxl,hf⟩:=DataW.trod_struct ht hx
 obtain⟨a,ha,hA⟩:=h w m cs (Nat.zero_le _) (fun f hf'=>by
  obtain⟨i,hi,rfl⟩:=List.getElem_of_mem hf'
  have hi':fs[i]? = some fs.toList[i]:=by simp at hi ⊢
  have:=hf i _ hi'
  have hix:i < xs.length:=by rw[hxl];simpa using hi
  rw[List.getElem?_eq_getElem hix] at this
  refine⟨_,this,?_⟩
  have h1:=bulk_mem (List.mem_map_of_mem (f:=(·.1)) (List.getElem_mem hix))
  simp only[Rows.uptoBulk] at hn
  omega) (fun e=>by rw[e] at hsum;simp at hsum;omega) (fun f hf'=>by have:=List.all_eq_true.1 hoff f hf';simp at this;omega) (by omega)
 refine⟨φ a,?_,hB a hA⟩
 rw[hφ]
 simpa using ha
theorem OpTB.slice{α:Type}{t e:TypeId}{δ:α→D}{A:α→Prop}(ht:P.underlying t=some (.slice e))(hpos:0 < P.cellsOf e)(hk:∀ a,(δ a).cells.length=P.cellsOf e)(h:OpTB H enc P n e δ A):OpTB H enc P n t (fun l:List α=>D.sl (l.map δ)) (fun l=>l.length≤n∧∀ a ∈ l,A a):=by
 intro w fuel cs x hx hn
 rcases Deep.open_slice ht hx with⟨rfl,_⟩|⟨a,len,cap,m,f,Dd,Pl,rfl,hb,hl,hm,hmm,rfl,hel⟩
 ·exact⟨[],RepL.one1 rfl (.sl0 _ _ (Nat.zero_le _)),by simp,by simp⟩
 ·simp only[if_true] at hmm
  subst hmm
  by_cases h0:len=0
  ·subst h0
   exact⟨[],RepL.one1 rfl (.sl0 _ _ hm),by simp,by simp⟩
  ·obtain⟨b,off,spot⟩:=a
   obtain⟨c0,hc0,_⟩:=hel 0 (by omega)
   obtain⟨_,hl0,hg0⟩:=World.cells?_some hc0
   have hcell0:=hg0 0 hpos
   have hx0:c0[0]? = some (c0[0]'(by omega)):=List.getElem?_eq_getElem _
   rw[hx0] at hcell0
   have hspot:spot=none:=by simpa[Addr.add] using World.cell?_spot hcell0
   subst hspot
   have hbl:b < w.heap.size:=by
    rcases Nat.lt_or_ge b w.heap.size with h1|h1
    ·exact h1
    ·simp[Addr.add,World.cell?,Array.getElem?_eq_none h1] at hcell0
   simp only[Rows.uptoBulk] at hn
   have hln:=bulk_len ((List.range len).map Dd)
   rw[List.length_map,List.length_range] at hln
   obtain⟨l,vals,h1,h2,h3,h4⟩:=rows_of (w:=w) (b:=b) (off:=off) (k:=P.cellsOf e) (α:={ a:α // A a }) (δ:=fun a=>δ a.1) (fun a=>hk a.1) len 0 (fun i hi=>by
    obtain⟨cs',hc',ht'⟩:=hel i (by omega)
    obtain⟨_,hl',hg'⟩:=World.cells?_some hc'
    refine⟨cs',fun j hj=>?_,hl',?_⟩
    ·have:=hg' j hj
     rw[addr_addO,addr_addO] at this
     rw[← this]
     simp
    ·have hmem:Dd i ∈ (List.range len).map Dd:=List.mem_map_of_mem (List.mem_range.2 hi)
     have:=bulk_mem hmem
     obtain⟨a,ha,hA⟩:=h w f cs' _ ht' (by dsimp only;omega)
     exact⟨⟨a,hA⟩,ha⟩)
   have hmap:l.map (fun a=>δ a.1)=(l.map (·.1)).map δ:=by rw[List.map_map];rfl
   rw[hmap] at h3
   refine⟨l.map (·.1),RepL.one1 rfl ?_,by rw[List.length_map,h1];omega,fun a ha=>?_⟩
   ·have hkk:∀ x ∈ (l.map (·.1)).map δ,x.cells.length=P.cellsOf e:=fun x hx=>by obtain⟨y,_,rfl⟩:=List.mem_map.1 hx;exact hk y
    have:=Rep.sl (w:=w) (C:=cF (FA w)) b off (P.cellsOf e) m ((l.map (·.1)).map δ) vals (by simp[h1];omega) hm hkk h3.len h3.one (fun _ _=>hbl) (fun i v hv=>by have:=h4 i v hv;simpa using this) (fun i v d hv hd=>h3.rep i v d hv hd)
    rw[List.length_map,List.length_map,h1] at this
    exact this
   ·obtain⟨y,_,rfl⟩:=List.mem_map.1 ha
    exact y.2
theorem arr_rowsB{α:Type}{e:TypeId}{δ:α→D}{A:α→Prop}(h:OpTB H enc P n e δ A)(w:World)(fuel:Nat)(cs:List Value)(k:Nat):∀ (m s:Nat),(∀ i,s≤i→i < s+m→∃ x:DataW H × List MemPlace,DataW.trod enc P w 0 (fun _=>true) true fuel e ((cs.drop (i * k)).take k)=some x∧Rows.uptoBulk x.1≤n)→cs.length=(s+m) * k →
  ∃ l:List α,l.length=m∧RepL (cF (FA w)) w (cs.drop (s * k)) (l.flatMap fun a=>(δ a).cells)∧∀ a ∈ l,A a:=by
 intro m
 induction m with
 | zero=>intro s _ hl;exact⟨[],rfl,by rw[List.drop_eq_nil_of_le (by rw[hl];exact Nat.le_refl _)];exact RepL.nil,by simp⟩
 | succ m ih =>
  intro s hx hl
  obtain⟨x,hx0,hxn⟩:=hx s (by omega) (by omega)
  obtain⟨a,ha,hA⟩:=h w fuel _ x hx0 hxn
  obtain⟨l,hll,hr,hAl⟩:=ih (s+1) (fun i h1 h2=>hx i (by omega) (by omega)) (by rw[hl];congr 1;omega)
  refine⟨a::l,by simp[hll],?_,fun b hb=>by
   rcases List.mem_cons.1 hb with rfl|hb
   ·exact hA
   ·exact hAl b hb⟩
  have:=ha.append hr
  rw[show(cs.drop (s * k)).take k++cs.drop ((s+1) * k)=cs.drop (s * k) by rw[show(s+1) * k=s * k+k by rw[Nat.add_mul];omega,← List.drop_drop];exact List.take_append_drop _ _] at this
  exact this
theorem OpTB.array{α β:Type}{t e:TypeId}{m:Nat}{δ:α→D}{ε:β→D}{A:α→Prop}{B:β→Prop}(ht:P.underlying t=some (.array m e))(hc:P.cellsOf t=m * P.cellsOf e)(h:OpTB H enc P n e δ A)(φ:(l:List α)→l.length=m→β)(hφ:∀ l h,(ε (φ l h)).cells=l.flatMap fun a=>(δ a).cells)(hB:∀ l h,(∀ a ∈ l,A a)→B (φ l h)):OpTB H enc P n t ε B:=by
 intro w fuel cs x hx hn
 obtain⟨xs,k,_,rfl,hl,hxl,hf⟩:=DataW.trod_array ht hx
 obtain⟨l,hll,hr,hA⟩:=arr_rowsB h w k cs (P.cellsOf e) m 0 (fun i _ hi=>by
  have:=hf i (by omega)
  rw[List.getElem?_eq_getElem (by omega)] at this
  refine⟨_,this,?_⟩
  have h1:=bulk_mem (List.mem_map_of_mem (f:=(·.1)) (List.getElem_mem (l:=xs) (n:=i) (by omega)))
  simp only[Rows.uptoBulk] at hn
  omega) (by rw[hl,hc,Nat.zero_add])
 refine⟨φ l hll,?_,hB l hll hA⟩
 rw[hφ]
 simpa using hr
theorem OpTB.argStruct{α:Type}{t:TypeId}{fs:Array Field}{δ:α→D}{B:α→Prop}(ht:P.underlying t=some (.struct fs))(h:OpTB H enc P n t δ B)(hδ:∀ a,∃ ds,δ a=.agg ds){w:World}{r:Reach}{b0:Nat}{v:Value}{d:DataW H}{p:List MemPlace}(hv:Value.okWide P w r b0 t v)(hd:DataW.Trod enc P w 0 (fun _=>true) true t v d p)(hn:Rows.uptoBulk d≤n):∃ a,Rep w (cF (FA w)) v (δ a)∧B a:=by
 obtain⟨cs,rfl,_⟩:=okWide_struct ht hv;obtain⟨fuel,hf⟩:=hd;obtain⟨a,ha,hB⟩:=h w fuel _ _ hf hn;refine⟨a,?_,hB⟩;obtain⟨ds,hd⟩:=hδ a;rw[hd] at ha ⊢;have:=ha.agg;simpa[Value.cells,D.cells] using this
end
end Go.Proofs.YtejeinnfompgpaaGreatDoor
