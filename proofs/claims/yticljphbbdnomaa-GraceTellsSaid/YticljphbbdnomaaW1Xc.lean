import Derived.Test.YticljphbbdnomaaW1Xa
namespace Go.Proofs.Yticljphbbdnomaa.VL
open Go
set_option linter.unusedVariables false
set_option linter.unusedSimpArgs false
set_option linter.unusedSectionVars false
variable [Val]
def eqBB:Bool→Bool→Bool
 | true,b=>b
 | false,b=>!b
theorem eqBB_eq {a b:Bool} (h:eqBB a b=true):a=b:=by cases a<;>cases b<;>first | rfl | cases h
def notArr:XV→Bool
 | .arr ..=>false
 | _=>true
def isAggX:XV→Bool
 | .agg _=>true
 | .arr ..=>true
 | _=>false
def isAggTT:TT→Bool
 | .p ..=>true
 | .ar _=>true
 | _=>false
theorem isAgg_toPV (x:XV):x.toPV.isAgg=isAggX x:=by
 cases x<;>first | rfl | skip
 rename_i p
 cases p<;>rfl
theorem isAgg_enc {t:TT} (v:t.den):(enc t v).isAgg=isAggTT t:=by cases t<;>rfl
theorem eq_of_cells {p q:PV} (h:p.cells=q.cells) (hb:p.isAgg=q.isAgg):p=q:=by
 cases p<;>cases q<;>simp_all [PV.cells,PV.isAgg]
theorem lp_of_cells {p q:PV} (h:L2 p.cells q.cells) (hb:p.isAgg=q.isAgg):Lp p q:=by
 have one:∀ {p q:PV},L2 [p] [q]→Lp p q:=by intro p q h; cases h; assumption
 cases p<;>cases q<;>simp only [PV.isAgg,reduceCtorEq] at hb<;>first
  | exact lp_agg h
  | exact one h
theorem cells_notArr {x:XV} (h:notArr x=true):x.toPV.cells=toPVL x.cells:=cells_toPV x fun t l e=>by subst e; cases h
def collEs {α:Type} (f:XV→Option α):List XV→Option (List α)
 | []=>some []
 | x::r=>match f x with
  | some a=>(match collEs f r with | some l=>some (a::l) | none=>none)
  | none=>none
def collC (w:Bool):(t:TT)→List XV→Option (t.den×List XV)
 | .i k,c::r=>(match c with | .i k' n=>(match ikB k' k with | true=>some (n,r) | false=>none) | _=>none)
 | .b,c::r=>(match c with | .b x=>some (x,r) | _=>none)
 | .s,c::r=>(match c with | .s x=>some (x,r) | _=>none)
 | .sl t,c::r=>(match c with
  | .tl t' l=>(match castL t' t l with | some l=>some (l,r) | none=>none)
  | .xl cl es=>(match w || !cl with
   | true=>(match collEs (fun x=>match notArr x&&eqBB (isAggX x) (isAggTT t) with | true=>(match collC w t x.cells with | some (v,[])=>some v | _=>none) | false=>none) es with | some l=>some (l,r) | none=>none)
   | false=>none)
  | _=>none)
 | .p x y,cs=>(match collC w x cs with
  | some (a,r)=>(match collC w y r with | some (b,r')=>some ((a,b),r') | none=>none)
  | none=>none)
 | _,_=>none
def coll (w:Bool) (t:TT) (x:XV):Option t.den:=match t with
 | .ar t'=>(match x with | .arr t'' l=>castL t'' t' l | _=>none)
 | t=>(match notArr x&&eqBB (isAggX x) (isAggTT t) with | true=>(match collC w t x.cells with | some (v,[])=>some v | _=>none) | false=>none)
theorem collEs_spec {α:Type} {f:XV→Option α} {g:α→PV} {w:Bool} (hf:∀ x a,f x=some a→L2 x.toPV.cells (g a).cells∧(w=false→x.toPV=g a)):∀ {es:List XV} {l:List α},collEs f es=some l→R2 (toPVL es) (l.map g)∧(w=false→toPVL es=l.map g)
 | [],l,h=>by cases h; exact ⟨.nil,fun _=>rfl⟩
 | x::r,l,h=>by
  simp only [collEs] at h
  split at h
  ·rename_i a ha
   split at h
   ·rename_i l' hl
    cases h
    obtain ⟨h1,h2⟩:=hf x a ha
    obtain ⟨h3,h4⟩:=collEs_spec hf hl
    refine ⟨.cons h1 h3,fun hw=>?_⟩
    simp [toPVL,h2 hw,h4 hw]
   ·cases h
  ·cases h
theorem collC_spec {w:Bool}:∀ {t:TT} {cs:List XV} {v:t.den} {r:List XV},collC w t cs=some (v,r)→∃ pre,cs=pre++r∧L2 (toPVL pre) (enc t v).cells∧(w=false→toPVL pre=(enc t v).cells)
 | .i k,[],v,r,h=>by cases h
 | .b,[],v,r,h=>by cases h
 | .s,[],v,r,h=>by cases h
 | .sl t,[],v,r,h=>by cases h
 | .ar t,_,v,r,h=>by cases h
 | .i k,c::r',v,r,h=>by
  simp only [collC] at h
  split at h
  ·split at h
   ·rename_i he
    cases h
    rw [ikB_eq he]
    exact ⟨[_],rfl,by simp only [toPVL,XV.toPV,enc,PV.cells]; exact L2.refl _,fun _=>by simp [toPVL,XV.toPV,enc,PV.cells]⟩
   ·cases h
  ·cases h
 | .b,c::r',v,r,h=>by
  simp only [collC] at h
  split at h
  ·cases h
   exact ⟨[_],rfl,by simp only [toPVL,XV.toPV,enc,PV.cells]; exact L2.refl _,fun _=>by simp [toPVL,XV.toPV,enc,PV.cells]⟩
  ·cases h
 | .s,c::r',v,r,h=>by
  simp only [collC] at h
  split at h
  ·cases h
   exact ⟨[_],rfl,by simp only [toPVL,XV.toPV,enc,PV.cells]; exact L2.refl _,fun _=>by simp [toPVL,XV.toPV,enc,PV.cells]⟩
  ·cases h
 | .sl t,c::r',v,r,h=>by
  simp only [collC] at h
  split at h
  ·split at h
   ·rename_i l hl
    cases h
    obtain ⟨rfl,rfl⟩:=castL_spec hl
    exact ⟨[_],rfl,by simp only [toPVL,XV.toPV,enc,PV.cells]; exact L2.refl _,fun _=>by simp [toPVL,XV.toPV,enc,PV.cells]⟩
   ·cases h
  ·rename_i cl es
   split at h
   ·rename_i hw
    split at h
    ·rename_i l hl
     cases h
     have hs:=collEs_spec (g:=enc t) (w:=w) (fun x a hx=>by
      split at hx
      ·rename_i hb
       rw [Bool.and_eq_true] at hb
       split at hx
       ·rename_i v' hc
        cases hx
        obtain ⟨pre,e,h1,h2⟩:=collC_spec hc
        rw [List.append_nil] at e
        subst e
        rw [cells_notArr hb.1]
        refine ⟨h1,fun hw=>eq_of_cells (by rw [cells_notArr hb.1]; exact h2 hw) ?_⟩
        rw [isAgg_toPV,isAgg_enc]; exact eqBB_eq hb.2
       ·cases hx
      ·cases hx) hl
     refine ⟨[_],rfl,?_,fun hw'=>?_⟩
     ·simp only [toPVL,XV.toPV,enc,PV.cells]
      exact .cons (lp_sl hs.1 (by intro h; cases h)) .nil
     ·subst hw'
      simp at hw
      subst hw
      simp only [toPVL,XV.toPV,enc,PV.cells,hs.2 rfl]
    ·cases h
   ·cases h
  ·cases h
 | .p x y,cs,v,r,h=>by
  simp only [collC] at h
  split at h
  ·rename_i a r1 h1
   split at h
   ·rename_i b r2 h2
    cases h
    obtain ⟨p1,e1,l1,q1⟩:=collC_spec h1
    obtain ⟨p2,e2,l2,q2⟩:=collC_spec h2
    refine ⟨p1++p2,by rw [e1,e2,List.append_assoc],?_,fun hw=>?_⟩
    ·simp only [toPVL_append,enc,PV.cells]; exact l1.append l2
    ·simp only [toPVL_append,enc,PV.cells,q1 hw,q2 hw]
   ·cases h
  ·cases h
theorem coll_spec {w:Bool} {t:TT} {x:XV} {v:t.den} (h:coll w t x=some v):L2 x.toPV.cells (enc t v).cells∧Lp x.toPV (enc t v)∧(w=false→x.toPV=enc t v):=by
 have gen:∀ {t:TT} {v:t.den},(match notArr x&&eqBB (isAggX x) (isAggTT t) with | true=>(match collC w t x.cells with | some (v,[])=>some v | _=>none) | false=>none)=some v→L2 x.toPV.cells (enc t v).cells∧Lp x.toPV (enc t v)∧(w=false→x.toPV=enc t v):=by
  intro t v h
  split at h
  ·rename_i hb
   rw [Bool.and_eq_true] at hb
   split at h
   ·rename_i v' hc
    cases h
    obtain ⟨pre,e,h1,h2⟩:=collC_spec hc
    rw [List.append_nil] at e
    subst e
    have hg:x.toPV.isAgg=(enc t v).isAgg:=by rw [isAgg_toPV,isAgg_enc]; exact eqBB_eq hb.2
    rw [cells_notArr hb.1]
    exact ⟨h1,lp_of_cells (by rw [cells_notArr hb.1]; exact h1) hg,fun hw=>eq_of_cells (by rw [cells_notArr hb.1]; exact h2 hw) hg⟩
   ·cases h
  ·cases h
 cases t with
 | ar t' =>
  simp only [coll] at h
  split at h
  ·obtain ⟨e1,e2⟩:=castL_spec h
   subst e1 e2
   have e:∀ (t:TT) (l:List t.den),(XV.arr t l).toPV=enc (.ar t) l:=by intro t l; simp [XV.toPV,enc]
   rw [e]
   exact ⟨L2.refl _,Lp.refl _,fun _=>rfl⟩
  ·cases h
 | _=>exact gen h
def wid:TT→Nat
 | .p x y=>wid x+wid y
 | _=>1
def noAr:TT→Bool
 | .p x y=>noAr x&&noAr y
 | .ar _=>false
 | _=>true
def widB (t:TT) (sz:Nat):Bool:=noAr t&&Nat.beq (wid t) sz
theorem wid_cells:∀ {t:TT} (v:t.den),noAr t=true→(enc t v).cells.length=wid t
 | .i k,v,_=>rfl
 | .b,v,_=>rfl
 | .s,v,_=>rfl
 | .sl t,v,_=>rfl
 | .p x y,v,h=>by
  simp only [noAr,Bool.and_eq_true] at h
  have:(enc (.p x y) v).cells=(enc x v.1).cells++(enc y v.2).cells:=rfl
  rw [this,List.length_append,wid_cells v.1 h.1,wid_cells v.2 h.2]; rfl
 | .ar t,v,h=>by cases h
theorem widB_cells {t:TT} {sz:Nat} (h:widB t sz=true) (v:t.den):(enc t v).cells.length=sz:=by
 unfold widB at h
 rw [Bool.and_eq_true] at h
 rw [wid_cells v h.1]; exact Nat.eq_of_beq_eq_true h.2
inductive XBlk where
 | row (e:XV)
 | rows (t:TT) (l:List t.den)
 | map (kt vt:TT) (l:List (kt.den×vt.den))
 | mapX (l:List (XV×XV))
 | iter (s:ByteArray) (pos:Nat)
def XBlk.toB:XBlk→Blk
 | .row e=>.cells [e.toPV]
 | .rows t l=>.cells (l.map (enc t))
 | .map kt vt l=>.map (l.map fun p=>(enc kt p.1,enc vt p.2))
 | .mapX l=>.map (l.map fun p=>(p.1.toPV,p.2.toPV))
 | .iter s pos=>.iter s pos
abbrev Heap:=List (Nat×Option (Nat×XBlk))
def lk {α:Type}:List (Nat×α)→Nat→Option α
 | [],_=>none
 | x::r,i=>match Nat.beq x.1 i with | true=>some x.2 | false=>lk r i
def lkS (h:Heap) (b:Nat):Option (Nat×XBlk):=match lk h b with | some x=>x | none=>none
def toH (M:Nat) (h:Heap):List Slot:=(List.range M).map fun b=>(lkS h b).map fun x=>(x.1,x.2.toB)
def toT (N:Nat) (t:List (Nat×XV)):List PV:=(List.range N).map fun i=>((lk t i).getD .dead).toPV
theorem lk_cons {α:Type} (j:Nat) (a:α) (r:List (Nat×α)) (i:Nat):lk ((j,a)::r) i=if j=i then some a else lk r i:=by
 simp only [lk]
 by_cases h:j=i
 ·rw [if_pos h,(Nat.beq_eq ▸ h:Nat.beq j i=true)]
 ·rw [if_neg h]
  have:Nat.beq j i=false:=by rw [Bool.eq_false_iff]; intro hb; exact h (Nat.eq_of_beq_eq_true hb)
  rw [this]
theorem toH_len (M:Nat) (h:Heap):(toH M h).length=M:=by simp [toH]
theorem toT_len (N:Nat) (t:List (Nat×XV)):(toT N t).length=N:=by simp [toT]
theorem toH_set (M:Nat) (h:Heap) (b:Nat) (x:Option (Nat×XBlk)):toH M ((b,x)::h)=(toH M h).set b (x.map fun x=>(x.1,x.2.toB)):=by
 apply List.ext_getElem?
 intro i
 rw [List.getElem?_set]
 simp only [toH,List.getElem?_map,List.length_map,List.length_range]
 by_cases hi:i < M
 ·rw [List.getElem?_range hi]
  simp only [Option.map_some,lkS,lk_cons]
  by_cases hb:b=i
  ·subst hb
   simp only [if_true,hi]
  ·simp only [if_neg hb]
 ·have:(List.range M)[i]?=none:=by simp; omega
  rw [this]
  simp only [Option.map_none]
  by_cases hb:b=i
  ·subst hb; simp [hi]
  ·simp [hb]
theorem toT_set (N:Nat) (t:List (Nat×XV)) (d:Nat) (x:XV):toT N ((d,x)::t)=(toT N t).set d x.toPV:=by
 apply List.ext_getElem?
 intro i
 rw [List.getElem?_set]
 simp only [toT,List.getElem?_map,List.length_map,List.length_range]
 by_cases hi:i < N
 ·rw [List.getElem?_range hi]
  simp only [Option.map_some,lk_cons]
  by_cases hb:d=i
  ·subst hb; simp [hi]
  ·simp [hb]
 ·have:(List.range N)[i]?=none:=by simp; omega
  rw [this]
  by_cases hb:d=i
  ·subst hb; simp [hi]
  ·simp [hb]
theorem toH_get {M:Nat} {h:Heap} {b:Nat} (hb:b < M) {x:Nat×XBlk} (hx:lkS h b=some x):(toH M h)[b]?=some (some (x.1,x.2.toB)):=by
 simp only [toH,List.getElem?_map,List.getElem?_range hb,Option.map_some,hx]
def rd (M:Nat) (h:Heap) (b s:Nat):Option XBlk:=match lkS h b with
 | some (s',k)=>(match Nat.beq s' s&&Nat.blt b M with | true=>some k | false=>none)
 | none=>none
theorem rd_spec {M:Nat} {h:Heap} {b s:Nat} {k:XBlk} (hk:rd M h b s=some k):b < M∧(toH M h)[b]?=some (some (s,k.toB)):=by
 unfold rd at hk
 split at hk
 ·rename_i s' k' hl
  split at hk
  ·rename_i hb
   cases hk
   rw [Bool.and_eq_true] at hb
   have h1:=Nat.eq_of_beq_eq_true hb.1
   have h2:b < M:=Nat.le_of_ble_eq_true hb.2
   subst h1
   exact ⟨h2,toH_get h2 hl⟩
  ·cases hk
 ·cases hk
theorem blt_spec {a b:Nat} (h:Nat.blt a b=true):a < b:=Nat.le_of_ble_eq_true h
end Go.Proofs.Yticljphbbdnomaa.VL
