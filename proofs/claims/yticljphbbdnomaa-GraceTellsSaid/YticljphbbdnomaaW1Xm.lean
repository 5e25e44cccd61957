import Derived.Test.YticljphbbdnomaaW1Xl
namespace Go.Proofs.Yticljphbbdnomaa.VL
open Go
set_option linter.unusedVariables false
set_option linter.unusedSimpArgs false
set_option linter.unusedSectionVars false
variable [Val]
variable {P:Program}
def StayX (M:Nat) (l:List Nat) (h h':Heap):Prop:=∀ b,b ∉ l→(toH M h')[b]?=(toH M h)[b]?
theorem StayX.refl (M:Nat) (l:List Nat) (h:Heap):StayX M l h h:=fun _ _=>rfl
theorem StayX.trans {M:Nat} {l:List Nat} {a b c:Heap} (h:StayX M l a b) (k:StayX M l b c):StayX M l a c:=fun x hx=>(k x hx).trans (h x hx)
theorem StayX.cons {M:Nat} {l:List Nat} {b:Nat} (hb:b ∈ l) (x:Option (Nat×XBlk)) (h:Heap):StayX M l h ((b,x)::h):=by
 intro b' hb'
 rw [toH_set,List.getElem?_set_ne]
 intro he; subst he; exact hb' hb
theorem StayX.mono {M:Nat} {l l':List Nat} {a b:Heap} (h:StayX M l a b) (hl:∀ x ∈ l,x ∈ l'):StayX M l' a b:=fun x hx=>h x (fun hm=>hx (hl x hm))
structure Pur where
 p:(f:Nat)→(args:List XV)→(R:Type)→(XV→Option R)→Option R
 g:(f:Nat)→(args:List XV)→(M:Nat)→(ws:List Nat)→Heap→(n s:Nat)→(R:Type)→KX R→Option R
 fr:∀ (f:Nat) (args:List XV) (M:Nat) (ws:List Nat) (h:Heap) (n s:Nat) (R:Type) (K K':KX R),(∀ v h' n',StayX M ws h h'→K v h' n'=K' v h' n')→g f args M ws h n s R K=g f args M ws h n s R K'
structure PurOk (P:Program) (pur:Pur):Prop where
 p:∀ (f:Nat) (args:List XV) (R:Type) (K:XV→Option R) (r:R),pur.p f args R K=some r→∃ v:XV,K v=some r∧VPure P f (toPVL args) v.toPV
 g:∀ (f:Nat) (args:List XV) (M:Nat) (ws:List Nat) (h:Heap) (n s:Nat) (R:Type) (K:KX R) (r:R),pur.g f args M ws h n s R K=some r→∃ (v:XV) (h':Heap) (n':Nat),K v h' n'=some r∧GCall P f (toPVL args) (toH M h) n v.toPV (toH M h') n'∧StayX M ws h h'
noncomputable def xOne {R:Type} (pur:Pur) (wp:List Nat) (N M o:Nat) (a:TT) (op:IOp) (d:Option Nat) (st:XSt) (K:XSt→Option R):Option R:=match op with
 | .call s f args=>pur.p f (args.map (evX N st.t)) R fun v=>K (XSt.put st.t d v st.h st.n)
 | .callG s f args=>pur.p f (args.map (evX N st.t)) R fun v=>K (XSt.put st.t d v st.h st.n)
 | .callv s x args=>(match evX N st.t x with | .clo f fs cs=>pur.p f (fs++args.map (evX N st.t)++cs) R fun v=>K (XSt.put st.t d v st.h st.n) | _=>none)
 | .callvG s x args=>(match evX N st.t x with | .clo f fs cs=>pur.p f (fs++args.map (evX N st.t)++cs) R fun v=>K (XSt.put st.t d v st.h st.n) | _=>none)
 | op=>(match permB wp (tgX N st (op.at o)) with
  | true=>xOp false M a (evX N st.t) st.h st.n (fun v h n=>K (XSt.put st.t d v h n)) (op.at o)
  | false=>none)
noncomputable def xOneW {R:Type} (pur:Pur) (wp:List Nat) (N M o:Nat) (a:TT) (ws:List Nat) (op:IOp) (d:Option Nat) (st:XSt) (K:XSt→Option R):Option R:=match ws with
 | []=>xOne pur wp N M o a op d st K
 | w::r=>(match op with
  | .callG s f args=>(match (w::r).all (inB' wp) with
   | true=>pur.g f (args.map (evX N st.t)) M (w::r) st.h st.n (o+s) R fun v h n=>K (XSt.put st.t d v h n)
   | false=>none)
  | .callvG s x args=>(match (w::r).all (inB' wp) with
   | true=>(match evX N st.t x with
    | .clo f fs cs=>pur.g f (fs++args.map (evX N st.t)++cs) M (w::r) st.h st.n (o+s) R fun v h n=>K (XSt.put st.t d v h n)
    | _=>none)
   | false=>none)
  | _=>none)
def tgO (N o:Nat) (st:XSt) (x:XO):Option (List Nat):=match x.ws with
 | []=>tgX N st (x.io.op.at o)
 | ws=>some ws
def Stay (l:List Nat) (h h':List Slot):Prop:=∀ b,b ∉ l→h'[b]?=h[b]?
theorem Stay.refl (l:List Nat) (h:List Slot):Stay l h h:=fun _ _=>rfl
theorem Stay.set {l:List Nat} {h:List Slot} {b:Nat} (hb:b ∈ l) (x:Slot):Stay l h (h.set b x):=by
 intro b' hb'
 rw [List.getElem?_set_ne]
 intro he; subst he; exact hb' hb
theorem opK_stay {N M:Nat} {st:XSt} {op:IOp} {l:List Nat} (hl:tgX N st op=some l) {Q:QP} (hK:opK (st.to N M).ev (st.to N M).h (st.to N M).n Q op):∃ p h' n',Q p h' n'∧Stay l (st.to N M).h h':=by
 have he:=evX_eq N M st
 rw [← he] at hK
 generalize (st.to N M).h=H at hK ⊢
 generalize (st.to N M).n=n at hK ⊢
 cases op<;>simp only [tgX,reduceCtorEq,Option.some.injEq] at hl<;>simp only [opK] at hK<;>first | exact hK.elim | skip
 case nilq neg x =>
  split at hK<;>first | exact hK.elim | exact ⟨_,_,_,hK.2,Stay.refl _ _⟩
 case cap x =>
  split at hK<;>first
   | exact hK.elim
   | exact ⟨_,_,_,hK,Stay.refl _ _⟩
   | exact ⟨_,_,_,hK _ (Nat.le_refl _),Stay.refl _ _⟩
 case mov=>exact ⟨_,_,_,hK,Stay.refl _ _⟩
 case pick c a b =>
  split at hK
  ·rename_i t _
   cases t with
   | true=>exact ⟨_,_,_,hK.1 rfl,Stay.refl _ _⟩
   | false=>exact ⟨_,_,_,hK.2 rfl,Stay.refl _ _⟩
  ·rename_i x _
   obtain ⟨t,ht⟩:=sx_bool hK.1
   cases t with
   | true=>exact ⟨_,_,_,hK.2.1 ht,Stay.refl _ _⟩
   | false=>exact ⟨_,_,_,hK.2.2 ht,Stay.refl _ _⟩
  ·exact hK.elim
 case alloc s z=>subst hl; exact ⟨_,_,_,hK.2.2.2,Stay.set (by simp) _⟩
 case box s sz x=>subst hl; exact ⟨_,_,_,hK.2.2.2.2,Stay.set (by simp) _⟩
 case bld z ps =>
  split at hK
  ·exact ⟨_,_,_,hK,Stay.refl _ _⟩
  ·exact hK.elim
 case bsl sz z len ps=>exact ⟨_,_,_,hK.2.2.2.2.2,Stay.refl _ _⟩
 case load g m a =>
  split at hK
  ·obtain ⟨es,e,p,_,_,_,hK⟩:=hK; exact ⟨_,_,_,hK,Stay.refl _ _⟩
  ·obtain ⟨p,_,hK⟩:=hK; exact ⟨_,_,_,hK,Stay.refl _ _⟩
  ·exact hK.elim
 case store m a x =>
  split at hl<;>simp only [reduceCtorEq,Option.some.injEq] at hl
  rename_i b s i off hv
  subst hl
  simp only [rp,hv,XV.toPV] at hK
  obtain ⟨es,e,e',_,_,_,_,hK⟩:=hK
  exact ⟨_,_,_,hK,Stay.set (by simp) _⟩
 case nilc x =>
  split at hK<;>first | exact hK.elim | exact ⟨_,_,_,hK,Stay.refl _ _⟩
 case bin op x y =>
  split at hK
  ·exact ⟨_,_,_,hK,Stay.refl _ _⟩
  ·split at hK
   ·exact ⟨_,_,_,hK,Stay.refl _ _⟩
   ·exact hK.elim
 case binB neg x y =>
  split at hK
  ·exact ⟨_,_,_,hK,Stay.refl _ _⟩
  ·split at hK
   ·exact ⟨_,_,_,hK,Stay.refl _ _⟩
   ·exact hK.elim
 case eqA neg sz pl x y =>
  split at hK
  ·split at hK
   ·exact ⟨_,_,_,hK,Stay.refl _ _⟩
   ·split at hK
    ·exact ⟨_,_,_,hK,Stay.refl _ _⟩
    ·exact hK.elim
  ·exact hK.elim
 case un op x =>
  split at hK
  ·exact ⟨_,_,_,hK,Stay.refl _ _⟩
  ·split at hK
   ·exact ⟨_,_,_,hK.2,Stay.refl _ _⟩
   ·exact hK.elim
 case conv k x =>
  split at hK
  ·exact ⟨_,_,_,hK,Stay.refl _ _⟩
  ·exact ⟨_,_,_,hK.2,Stay.refl _ _⟩
  ·exact hK.elim
 case convS x =>
  split at hK
  ·exact ⟨_,_,_,hK,Stay.refl _ _⟩
  ·exact ⟨_,_,_,hK.2,Stay.refl _ _⟩
  ·exact hK.elim
 case fn f fs cs=>exact ⟨_,_,_,hK,Stay.refl _ _⟩
 case mksl s sz bytes z a c =>
  subst hl
  split at hK
  ·exact ⟨_,_,_,hK.2.2.2.2.2.2.2.2,Stay.set (by simp) _⟩
  ·exact hK.elim
 case slc sz x lo hi mx =>
  split at hK
  ·split at hK
   ·exact ⟨_,_,_,hK.2.2.2.2.2,Stay.refl _ _⟩
   ·exact hK.elim
  ·obtain ⟨_,hK⟩:=hK
   split at hK
   ·exact ⟨_,_,_,hK.2.2.2,Stay.refl _ _⟩
   ·split at hK
    ·exact ⟨_,_,_,hK.2.2.2.2,Stay.refl _ _⟩
    ·exact hK.elim
   ·exact hK.elim
  ·exact hK.elim
 case slS x lo hi =>
  split at hK
  ·split at hK
   ·exact ⟨_,_,_,hK.2.2.2,Stay.refl _ _⟩
   ·exact hK.elim
  ·exact hK.elim
 case fad off x =>
  split at hK<;>first | exact hK.elim | exact ⟨_,_,_,hK,Stay.refl _ _⟩
 case fld g off m x =>
  split at hK
  ·obtain ⟨_,p,_,hK⟩:=hK; exact ⟨_,_,_,hK,Stay.refl _ _⟩
  ·exact hK.elim
 case iad sz x i =>
  split at hK
  ·obtain ⟨_,e,_,_,hK⟩:=hK; exact ⟨_,_,_,hK,Stay.refl _ _⟩
  ·exact ⟨_,_,_,hK.2.2.2,Stay.refl _ _⟩
  ·exact hK.elim
 case iaA len sz x i =>
  split at hK
  ·exact ⟨_,_,_,hK.2.2,Stay.refl _ _⟩
  ·exact ⟨_,_,_,hK.2.2,Stay.refl _ _⟩
  ·exact hK.elim
 case ixA g len sz x i =>
  split at hK
  ·obtain ⟨_,_,_,p,_,hK⟩:=hK; exact ⟨_,_,_,hK,Stay.refl _ _⟩
  ·exact hK.elim
 case ixS x i =>
  split at hK
  ·obtain ⟨_,p,_,hK⟩:=hK; exact ⟨_,_,_,hK,Stay.refl _ _⟩
  ·exact hK.elim
 case ext x i =>
  split at hK
  ·obtain ⟨p,_,hK⟩:=hK; exact ⟨_,_,_,hK,Stay.refl _ _⟩
  ·exact hK.elim
 case len x =>
  split at hK<;>first | exact hK.elim | exact ⟨_,_,_,hK,Stay.refl _ _⟩
 case lenS x =>
  split at hK
  ·exact ⟨_,_,_,hK,Stay.refl _ _⟩
  ·exact ⟨_,_,_,hK.2,Stay.refl _ _⟩
  ·exact hK.elim
 case app s sz bytes z x y =>
  obtain ⟨_,_,_,_,ys,_,_,hK⟩:=hK
  split at hl<;>simp only [reduceCtorEq,Option.some.injEq] at hl
  ·rename_i b st' sz' off len cap hv
   subst hl
   simp only [rp,hv,XV.toPV] at hK
   obtain ⟨_,es,_,_,_,_,hK⟩:=hK
   split at hK
   ·split at hK
    ·exact ⟨_,_,_,hK.2,Stay.set (by simp) _⟩
    ·exact ⟨_,_,_,hK,Stay.set (by simp) _⟩
   ·split at hK
    ·exact ⟨_,_,_,hK,Stay.set (by simp) _⟩
    ·exact ⟨_,_,_,hK,Stay.set (by simp) _⟩
  ·rename_i c es hv
   subst hl
   simp only [rp,hv,XV.toPV] at hK
   cases c with
   | false=>exact hK.elim
   | true =>
    obtain ⟨_,_,_,h1,h2⟩:=hK
    by_cases hy:ys=[]
    ·exact ⟨_,_,_,h1 hy,Stay.refl _ _⟩
    ·exact ⟨_,_,_,h2 hy,Stay.set (by simp) _⟩
 case cpy sz x y =>
  split at hl<;>simp only [reduceCtorEq,Option.some.injEq] at hl
  rename_i b s sz' off len cap hv
  subst hl
  simp only [rp,hv,XV.toPV] at hK
  obtain ⟨_,es,ys,_,_,_,_,hK⟩:=hK
  exact ⟨_,_,_,hK,Stay.set (by simp) _⟩
 case mm mx xs =>
  split at hK
  ·exact ⟨_,_,_,hK,Stay.refl _ _⟩
  ·split at hK
   ·exact ⟨_,_,_,hK,Stay.refl _ _⟩
   ·exact hK.elim
 case mkm s=>subst hl; exact ⟨_,_,_,hK.2,Stay.set (by simp) _⟩
 case lkp ok k z x key =>
  split at hK
  ·obtain ⟨ps,r,_,_,hK⟩:=hK; exact ⟨_,_,_,hK,Stay.refl _ _⟩
  ·exact hK.elim
 case mup k x key v =>
  split at hl<;>simp only [reduceCtorEq,Option.some.injEq] at hl
  rename_i b s hv
  subst hl
  simp only [rp,hv,XV.toPV] at hK
  obtain ⟨ps,r,_,_,hK⟩:=hK
  exact ⟨_,_,_,hK,Stay.set (by simp) _⟩
 case del k x key =>
  split at hl<;>simp only [reduceCtorEq,Option.some.injEq] at hl
  rename_i b s hv
  subst hl
  simp only [rp,hv,XV.toPV] at hK
  obtain ⟨ps,r,_,_,hK⟩:=hK
  exact ⟨_,_,_,hK,Stay.set (by simp) _⟩
 case lenM x =>
  split at hK
  ·obtain ⟨ps,_,hK⟩:=hK; exact ⟨_,_,_,hK,Stay.refl _ _⟩
  ·exact hK.elim
 case clr sz z x =>
  split at hl<;>simp only [reduceCtorEq,Option.some.injEq] at hl
  rename_i b s sz' off len cap hv
  subst hl
  simp only [rp,hv,XV.toPV] at hK
  obtain ⟨_,_,_,es,_,_,hK⟩:=hK
  exact ⟨_,_,_,hK,Stay.set (by simp) _⟩
 case ovl x y =>
  split at hK
  ·obtain ⟨_,hK⟩:=hK; exact ⟨_,_,_,hK,Stay.refl _ _⟩
  ·exact hK.elim
 case bts x =>
  obtain ⟨es,ns,_,_,hK⟩:=hK
  exact ⟨_,_,_,hK,Stay.refl _ _⟩
 case rngS s x =>
  subst hl
  split at hK
  ·exact ⟨_,_,_,hK.2,Stay.set (by simp) _⟩
  ·exact hK.elim
 case nxtS x =>
  split at hl<;>simp only [reduceCtorEq,Option.some.injEq] at hl
  rename_i b s i off hv
  subst hl
  simp only [rp,hv,XV.toPV] at hK
  split at hK
  ·rename_i heq
   cases heq
   obtain ⟨t,pos,_,hK⟩:=hK
   split at hK
   ·exact ⟨_,_,_,hK,Stay.set (by simp) _⟩
   ·exact ⟨_,_,_,hK,Stay.refl _ _⟩
  ·exact hK.elim
end Go.Proofs.Yticljphbbdnomaa.VL
