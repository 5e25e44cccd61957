import Derived.Test.YticljphbbdnomaaW1Vv
namespace Go.Proofs.Yticljphbbdnomaa.VL
open Go
set_option linter.unusedVariables false
set_option linter.unusedSimpArgs false
set_option linter.unusedSectionVars false
variable [Val]
mutual
def samePV:PV→PV→Bool
 | .v u,.v v=>sameV u v
 | .agg cs,.agg ds=>sameL cs ds
 | .tup cs,.tup ds=>sameL cs ds
 | .sl c es,.sl c' es'=>c==c'&&sameL es es'
 | .own b s sz off len cap,.own b' s' sz' off' len' cap'=>b==b'&&s==s'&&sz==sz'&&off==off'&&len==len'&&decide (cap=cap')
 | .optr b s i off,.optr b' s' i' off'=>b==b'&&s==s'&&i==i'&&off==off'
 | .sptr cs,.sptr ds=>sameL cs ds
 | .mp b s,.mp b' s'=>b==b'&&s==s'
 | .clo f fs cs,.clo f' fs' cs'=>f==f'&&sameL fs fs'&&sameL cs cs'
 | .sy x,.sy y=>sameSX x y
 | .dead,.dead=>true
 | _,_=>false
def sameL:List PV→List PV→Bool
 | [],[]=>true
 | p::r,q::l=>samePV p q&&sameL r l
 | _,_=>false
end
mutual
theorem samePV_eq:∀ {p q:PV},samePV p q=true→p=q
 | .v u,q,h=>by cases q<;>simp only [samePV] at h<;>first | (cases h; done) | (rw [sameV_eq h])
 | .agg cs,q,h=>by cases q<;>simp only [samePV] at h<;>first | (cases h; done) | (rw [sameL_eq h])
 | .tup cs,q,h=>by cases q<;>simp only [samePV] at h<;>first | (cases h; done) | (rw [sameL_eq h])
 | .sl c es,q,h=>by cases q<;>simp only [samePV,Bool.and_eq_true,beq_iff_eq] at h<;>first | (cases h; done) | (rw [h.1,sameL_eq h.2])
 | .own b s sz off len cap,q,h=>by cases q<;>simp only [samePV,Bool.and_eq_true,beq_iff_eq,decide_eq_true_eq] at h<;>first | (cases h; done) | (obtain ⟨⟨⟨⟨⟨h1,h2⟩,h3⟩,h4⟩,h5⟩,h6⟩:=h; rw [h1,h2,h3,h4,h5,h6])
 | .optr b s i off,q,h=>by cases q<;>simp only [samePV,Bool.and_eq_true,beq_iff_eq] at h<;>first | (cases h; done) | (obtain ⟨⟨⟨h1,h2⟩,h3⟩,h4⟩:=h; rw [h1,h2,h3,h4])
 | .sptr cs,q,h=>by cases q<;>simp only [samePV] at h<;>first | (cases h; done) | (rw [sameL_eq h])
 | .clo f fs cs,q,h=>by cases q<;>simp only [samePV,Bool.and_eq_true,beq_iff_eq] at h<;>first | (cases h; done) | (rw [h.1.1,sameL_eq h.1.2,sameL_eq h.2])
 | .mp b s,q,h=>by cases q<;>simp only [samePV,Bool.and_eq_true,beq_iff_eq] at h<;>first | (cases h; done) | (rw [h.1,h.2])
 | .sy x,q,h=>by cases q<;>simp only [samePV] at h<;>first | (cases h; done) | (rw [sameSX_eq h])
 | .dead,q,h=>by cases q<;>first | rfl | (simp [samePV] at h)
theorem sameL_eq:∀ {l m:List PV},sameL l m=true→l=m
 | [],[],_=>rfl
 | p::r,q::l,h=>by simp only [sameL,Bool.and_eq_true] at h; rw [samePV_eq h.1,sameL_eq h.2]
 | [],_::_,h=>by simp [sameL] at h
 | _::_,[],h=>by simp [sameL] at h
end
def sameO:Option PV→Option PV→Bool
 | some p,some q=>samePV p q
 | none,none=>true
 | _,_=>false
theorem sameO_eq {p q:Option PV} (h:sameO p q=true):p=q:=by
 unfold sameO at h
 split at h
 ·rw [samePV_eq h]
 ·rfl
 ·cases h
structure FI where
 ic:ICode
 al:List Nat
 nt:Nat
 ts:List RV
def FI.ok (P:Program) (f:Nat) (x:FI):Prop:=∃ fn c,P.funcs[f]?=some fn∧fn.body=some c∧callable P f=true∧fn.results=(x.ts.map RV.to).toArray∧x.ts.all (RV.okB P)=true∧fn.ntmps=x.nt∧(fun o=>cCode P (slotF x.al o) c)=fun o=>some (x.ic.at o)
def find (f:Nat):List (Nat×FI)→Option FI
 | []=>none
 | x::r=>if x.1=f then some x.2 else find f r
def TabOk (P:Program):List (Nat×FI)→Prop
 | []=>True
 | x::r=>x.2.ok P x.1∧TabOk P r
theorem find_ok {P:Program} {f:Nat} {y:FI}:∀ {tab:List (Nat×FI)},TabOk P tab→find f tab=some y→y.ok P f
 | [],_,h=>by cases h
 | x::r,ht,h=>by
  simp only [find] at h
  split at h
  ·rename_i he; cases h; rw [← he]; exact ht.1
  ·exact find_ok ht.2 h
abbrev Callee:=Nat→List PV→List Slot→Nat→Tr (PV×List Slot×Nat)
def frzAll (st:St):St:=(List.range st.h.length).foldl St.freeze st
theorem Weak.frzAll (st:St):Weak st (VL.frzAll st):=by
 unfold VL.frzAll
 have:∀ (l:List Nat) (st:St),Weak st (l.foldl St.freeze st):=by
  intro l
  induction l with
  | nil=>exact fun st=>Weak.refl st
  | cons b r ih=>exact fun st=>(Weak.freeze st b).trans (ih _)
 exact this _ st
def shut (r:PV) (h:List Slot) (n:Nat):Option PV:=match (frzAll ⟨[r],h,n⟩).t with
 | [r']=>if closed r' then some r' else none
 | _=>none
def shutTr (y:PV×List Slot×Nat):Tr PV:=match shut y.1 y.2.1 y.2.2 with | some r'=>.ok r' | none=>.no
def evC (C:Callee) (d:Bool) (f:Nat) (args:List PV) (st:St):Tr (PV×List Slot×Nat) :=
 match d with
 | false=>C f args st.h st.n
 | true=>if closedL args then (C f args [none] 0).bind fun y=>(shutTr y).bind fun r'=>.ok (r',st.h,st.n) else .no
def ev1 (C:Callee) (o:Nat) (d:Bool) (st:St):IOp→Tr (PV×List Slot×Nat)
 | .call _ f args=>evC C d f (args.map st.ev) st
 | .callv _ x args=>match st.ev x with | .clo f fs cs=>evC C d f (fs++args.map st.ev++cs) st | _=>.no
 | .callG _ f args=>C f (args.map st.ev) st.h st.n
 | .callvG _ x args=>match st.ev x with | .clo f fs cs=>C f (fs++args.map st.ev++cs) st.h st.n | _=>.no
 | op=>semOf o op st.ev st.h st.n
def evOps (C:Callee) (o:Nat) (d:Bool):List IOper→St→Tr St
 | [],st=>.ok st
 | x::r,st=>match x.guard with
  | none=>(ev1 C o d st x.op).bind fun y=>evOps C o d r (St.put ⟨st.t,y.2.1,y.2.2⟩ x.dst y.1)
  | some (g,want)=>match st.t[g]? with
   | some (.v (.bool b))=>if b=want then (ev1 C o d st x.op).bind fun y=>evOps C o d r (St.put ⟨st.t,y.2.1,y.2.2⟩ x.dst y.1) else evOps C o d r (st.put x.dst (.v undef))
   | some (.v _)=>evOps C o d r (st.put x.dst (.v undef))
   | some (.sy z)=>if z.ty=some .b then (match want with
     | true=>.br z ((ev1 C o d st x.op).bind fun y=>evOps C o d r (St.put ⟨st.t,y.2.1,y.2.2⟩ x.dst y.1)) (evOps C o d r (st.put x.dst (.v undef)))
     | false=>.br z (evOps C o d r (st.put x.dst (.v undef))) ((ev1 C o d st x.op).bind fun y=>evOps C o d r (St.put ⟨st.t,y.2.1,y.2.2⟩ x.dst y.1))) else .no
   | _=>.no
def evAll (C:Callee) (o:Nat):List IOper→St→Tr (List St)
 | [],st=>.ok [st]
 | x::r,st=>(evOps C o true [x] st).bind fun st'=>(evAll C o r st').bind fun l=>.ok (st::l)
def keepsB (ops:List IOper) (un:List (Nat×Nat)) (l:List St):Bool:=un.all fun x=>match ops[x.1]?,l[x.1]?,l[x.2]?,l[x.2+1]? with
 | some io,some s,some s1,some s2=>sameO (peekOp s.ev s1.h io.op) (peekOp s.ev s2.h io.op)
 | _,_,_,_=>false
def evDr (C:Callee) (o:Nat) (un:List (Nat×Nat)) (ops:List IOper) (st:St):Tr (IExit×St):=if ops.all (fun x=>decide (x.op.cls≤2))&&ops.all (fun x=>match x.dst with | some d=>decide (d < st.t.length) | none=>true) then (evAll C o ops st).bind fun l=>if keepsB ops un l then (match l.getLast? with | some s=>.ok (.normal,s) | none=>.no) else .no else .no
def evLoop (body:St→Tr (IExit×St)):Nat→St→Tr (IExit×St)
 | 0,_=>.no
 | m+1,st=>(body st).bind fun y=>match y.1 with
  | .normal=>evLoop body m y.2
  | e=>.ok (e,y.2)
def evCode (C:Callee) (o F:Nat):ICode→St→Tr (IExit×St)
 | .skip,st=>.ok (.normal,st)
 | .reg d ops,st=>(evOps C o d ops st).bind fun st'=>.ok (.normal,st')
 | .dr un ops,st=>evDr C o un ops st
 | .seq a b,st=>(evCode C o F a st).bind fun y=>match y.1 with | .normal=>evCode C o F b y.2 | e=>.ok (e,y.2)
 | .cond c a b,st=>match st.ev c with
  | .v (.bool true)=>evCode C o F a st
  | .v (.bool false)=>evCode C o F b st
  | .sy z=>if z.ty=some .b then .br z (evCode C o F a st) (evCode C o F b st) else .no
  | _=>.no
 | .blk id b,st=>(evCode C o F b st).bind fun y=>match y.1 with | .exit i=>(if i=id then .ok (.normal,y.2) else .ok (.exit i,y.2)) | e=>.ok (e,y.2)
 | .loop b,st=>evLoop (evCode C o F b) F st
 | .exit id,st=>.ok (.exit id,st)
 | .ret,st=>.ok (.ret,st)
 | .bad,_=>.no
mutual
def newP (n:Nat):PV→Bool
 | .v _=>false
 | .agg cs=>newL n cs
 | .tup cs=>newL n cs
 | .sl _ es=>newL n es
 | .own _ s _ _ _ _=>n≤s
 | .optr _ s _ _=>n≤s
 | .sptr cs=>newL n cs
 | .clo _ fs cs=>newL n fs || newL n cs
 | .mp _ s=>n≤s
 | .sy _=>false
 | .dead=>false
def newL (n:Nat):List PV→Bool
 | []=>false
 | p::r=>newP n p || newL n r
end
def newB (n:Nat):Blk→Bool
 | .cells es=>newL n es
 | .map ps=>ps.any fun p=>newP n p.1 || newP n p.2
 | .iter _ _=>false
def trim (k n:Nat) (r:PV) (h:List Slot):List Slot :=
 if newP n r || (h.take k).any (fun x=>match x with | some (s,b)=>decide (n≤s) || newB n b | none=>false) then h else h.take k
def frzFrom (fz:Bool) (k:Nat) (st:St):St:=if fz then (List.range st.h.length).foldl (fun s b=>if k≤b then s.freeze b else s) st else st
theorem Weak.frzFrom (fz:Bool) (k:Nat) (st:St):Weak st (VL.frzFrom fz k st):=by
 unfold VL.frzFrom
 split
 ·have:∀ (l:List Nat) (st:St),Weak st (l.foldl (fun s b=>if k≤b then s.freeze b else s) st):=by
   intro l
   induction l with
   | nil=>exact fun st=>Weak.refl st
   | cons b r ih =>
    intro st
    rw [List.foldl_cons]
    split
    ·exact (Weak.freeze st b).trans (ih _)
    ·exact ih _
  exact this _ st
 ·exact Weak.refl st
def fin (k n:Nat) (ts:List RV) (st:St):Tr (PV×List Slot×Nat):=match resR st ts with
 | some r=>.ok (r,trim k n r st.h,st.n)
 | none=>.no
def endTr (fz:Bool) (k n:Nat) (ts:List RV) (y:IExit×St):Tr (PV×List Slot×Nat):=match y.1 with
 | .exit _=>.no
 | _=>fin k n ts (frzFrom fz k y.2)
def evCall (ov:Callee) (fz:List Nat) (tab:List (Nat×FI)) (F:Nat):Nat→Callee
 | 0,_,_,_,_=>.no
 | D+1,f,args,h,n=>match ov f args h n with
 | .no=>(match find f tab with
  | none=>.no
  | some x=>(evCode (evCall ov fz tab F D) h.length F x.ic ⟨args++List.replicate (x.nt - args.length) (.v undef),h++List.replicate (x.al.length+1) none,n⟩).bind (endTr (fz.contains f) h.length n x.ts))
 | y=>y
variable {P:Program}
def CalleeOk (P:Program) (C:Callee):Prop:=∀ (f:Nat) (args:List PV) (h:List Slot) (n:Nat) (r:PV) (h':List Slot) (n':Nat),(C f args h n).pick=some (r,h',n')→GCall P f args h n r h' n'
theorem vpure_of_g {f:Nat} {args:List PV} {r r':PV} {h:List Slot} {n:Nat} (hG:GCall P f args [none] 0 r h n) (ha:closedL args=true) (hs:shut r h n=some r'):VPure P f args r':=by
  unfold shut at hs
  split at hs
  · rename_i r1 ht
    split at hs
    · rename_i hc
      cases hs
      refine ⟨ha,hc,hG.1,fun W S ents vals hel J hv hargs=>?_⟩
      obtain rfl:ents=[]:=by simpa using hel
      refine (hG.2 _ [] emptyAct _ vals J hv hargs).mono ?_
      rintro e W' ⟨v,E',rfl,rfl,I',hR⟩
      have I1:InvE ⟨W,(([]:List Ent)[·]?),handed [],S⟩ ⟨[r],h,n⟩ { tmps:=#[v],defers:=[] } E' :=
        { good:=I'.good,since:=I'.since,touch:=I'.touch,defers:=rfl,tsize:=rfl,tmps:=by
            intro i p u hp hu
            cases i with
            | zero=>simp at hp hu; subst hp hu; exact hR
            | succ i=>simp at hp }
      obtain ⟨E2,e2,I2⟩:=Weak.frzAll ⟨[r],h,n⟩ _ _ _ I1
      obtain ⟨σ',F,hren⟩:=fin_sound I2 none (.inl rfl)
      have h0:=I2.tmps 0 r' v (by rw [ht]; rfl) rfl
      refine ⟨v,r',[],none,σ',E2.S,rfl,rfl,rfl,?_,?_⟩
      · rw [← e2]; exact F
      · rw [← e2]
        have:=hren r' v h0
        rwa [ren_closed _ r' hc] at this
    · cases hs
  · cases hs
theorem shutTr_pick {y:PV×List Slot×Nat} {r:PV} (h:(shutTr y).pick=some r):shut y.1 y.2.1 y.2.2=some r:=by
 unfold shutTr at h
 split at h
 ·rename_i r' h'; cases h; exact h'
 ·cases h
theorem evC_ok {C:Callee} (hC:CalleeOk P C) {d:Bool} {s f:Nat} {args:List PV} {st:St} {p:PV} {h':List Slot} {n':Nat} {K:PV→List Slot→Nat→Prop} (h:(evC C d f args st).pick=some (p,h',n')) (hK:K p h' n'):callK P d st s f args K:=by
 cases d with
 | false=>exact .inr (.inr ⟨rfl,p,h',n',hC _ _ _ _ _ _ _ h,hK⟩)
 | true =>
  simp only [evC] at h
  split at h
  ·rename_i ha
   obtain ⟨⟨r,h1,n1⟩,hcall,h⟩:=Tr.pick_bind h
   obtain ⟨r',hs,h⟩:=Tr.pick_bind h
   have hs:=shutTr_pick hs
   cases h
   exact .inl ⟨_,vpure_of_g (hC _ _ _ _ _ _ _ hcall) ha hs,hK⟩
  ·cases h
theorem ev1_op {C:Callee} {o:Nat} {d:Bool} {st:St} {op:IOp} (h:op.isCall=false):ev1 C o d st op=semOf o op st.ev st.h st.n:=by
 cases op<;>first | rfl | cases h
theorem ev1_ok {C:Callee} (hC:CalleeOk P C) {o:Nat} {d:Bool} {x:IOper} {st:St} {p:PV} {h':List Slot} {n':Nat} {K:St→Prop} (h:(ev1 C o d st x.op).pick=some (p,h',n')) (hK:K (St.put ⟨st.t,h',n'⟩ x.dst p)):execK P d (x.at o) st K:=by
 obtain ⟨dst,op,g⟩:=x
 cases op with
 | call s f args=>exact evC_ok hC (K:=fun p h n=>K (St.put ⟨st.t,h,n⟩ dst p)) h hK
 | callv s y args =>
  change (match st.ev y with | .clo f fs cs=>evC C d f (fs++args.map st.ev++cs) st | _=>Tr.no).pick=some (p,h',n') at h
  show (match st.ev y with | .clo f fs cs=>callK P d st (o+s) f (fs++args.map st.ev++cs) fun p h n=>K (St.put ⟨st.t,h,n⟩ dst p) | _=>False)
  split at h
  ·exact evC_ok hC (K:=fun p h n=>K (St.put ⟨st.t,h,n⟩ dst p)) h hK
  ·cases h
 | callG s f args=>exact ⟨p,h',n',hC _ _ _ _ _ _ _ h,hK⟩
 | callvG s y args =>
  change (match st.ev y with | .clo f fs cs=>C f (fs++args.map st.ev++cs) st.h st.n | _=>Tr.no).pick=some (p,h',n') at h
  show (match st.ev y with | .clo f fs cs=>∃ r h' n',GCall P f (fs++args.map st.ev++cs) st.h st.n r h' n'∧K (St.put ⟨st.t,h',n'⟩ dst r) | _=>False)
  split at h
  ·exact ⟨p,h',n',hC _ _ _ _ _ _ _ h,hK⟩
  ·cases h
 | _ =>
  rw [ev1_op rfl] at h
  exact semOf_ok (K:=fun p h n=>K (St.put ⟨st.t,h,n⟩ dst p)) h hK
theorem pick_br {α:Type} {x:SX} {t f:Tr α} {a:α} (h:(Tr.br x t f).pick=some a):(x.eval=.bool true∧t.pick=some a)∨(x.eval=.bool false∧f.pick=some a):=by
 simp only [Tr.pick] at h
 generalize hr:isTrue x.eval=r at h
 match r with
 | some true=>exact .inl ⟨isTrue_spec hr,h⟩
 | some false=>exact .inr ⟨isTrue_spec hr,h⟩
 | none=>cases h
theorem evOps_ok {C:Callee} (hC:CalleeOk P C) {o:Nat} {d:Bool} {Q:St→Prop}:∀ (l:List IOper) (st st':St),(evOps C o d l st).pick=some st'→Q st'→opsK P d Q (atOps o l) st
 | [],st,st',h,hQ=>by cases h; exact hQ
 | x::r,st,st',h,hQ=>by
  simp only [evOps] at h
  show opsK P d Q (x.at o::atOps o r) st
  rw [opsK]
  have hg:(x.at o).guard=x.guard:=rfl
  have hd:(x.at o).dst=x.dst:=rfl
  rw [hg,hd]
  have yes:((ev1 C o d st x.op).bind fun y=>evOps C o d r (St.put ⟨st.t,y.2.1,y.2.2⟩ x.dst y.1)).pick=some st'→execK P d (x.at o) st (opsK P d Q (atOps o r)):=by
   intro h
   obtain ⟨⟨p,h1,n1⟩,he,h⟩:=Tr.pick_bind h
   exact ev1_ok hC he (evOps_ok hC r _ _ h hQ)
  split at h
  ·rename_i g0
   simp only [g0]
   exact yes h
  ·rename_i g want g0
   simp only [g0]
   split at h
   ·rename_i b hb
    simp only [hb]
    split at h
    ·rename_i hbw
     exact ⟨fun _=>yes h,fun hn=>by rw [hbw] at hn; cases want<;>cases hn⟩
    ·rename_i hbw
     exact ⟨fun he=>absurd he hbw,fun _=>evOps_ok hC r _ _ h hQ⟩
   ·rename_i u hne hb
    simp only [hb]
    exact evOps_ok hC r _ _ h hQ
   ·rename_i z hb
    simp only [hb]
    split at h
    ·rename_i hty
     refine ⟨hty,?_⟩
     cases want with
     | true =>
      rcases pick_br h with ⟨h1,h2⟩ | ⟨h1,h2⟩
      ·exact ⟨fun _=>yes h2,fun hn=>by rw [h1] at hn; cases hn⟩
      ·exact ⟨(fun hn=>by rw [h1] at hn; cases hn),fun _=>evOps_ok hC r _ _ h2 hQ⟩
     | false =>
      rcases pick_br h with ⟨h1,h2⟩ | ⟨h1,h2⟩
      ·exact ⟨(fun hn=>by rw [h1] at hn; cases hn),fun _=>evOps_ok hC r _ _ h2 hQ⟩
      ·exact ⟨fun _=>yes h2,fun hn=>by rw [h1] at hn; cases hn⟩
    ·cases h
   ·cases h
theorem cls_at (o:Nat) (op:IOp):(op.at o).cls=op.cls:=by cases op<;>rfl
theorem peek_at (o:Nat) (ρ:Opd→PV) (h:List Slot) (op:IOp):peekOp ρ h (op.at o)=peekOp ρ h op:=by cases op<;>rfl
theorem atOps_get (o:Nat):∀ (l:List IOper) (i:Nat),(atOps o l)[i]?=l[i]?.map (IOper.at o)
 | [],i=>by simp [atOps]
 | x::r,i=>by cases i<;>simp [atOps,atOps_get o r]
theorem atOps_length (o:Nat):∀ (l:List IOper),(atOps o l).length=l.length
 | []=>rfl
 | x::r=>by simp [atOps,atOps_length o r]
theorem evAll_ok {C:Callee} (hC:CalleeOk P C) {o:Nat}:∀ (l:List IOper) (st:St) (L:List St),(∀ x ∈ l,x.op.cls≤2)→(evAll C o l st).pick=some L→L.length=l.length+1∧L[0]?=some st ∧
  ∀ (i:Nat) (x:IOper) (s s':St),l[i]?=some x→L[i]?=some s→L[i+1]?=some s'→Stp P (x.at o) s s'
 | [],st,L,_,h=>by cases h; exact ⟨rfl,rfl,fun i x s s' hx=>by simp at hx⟩
 | x::r,st,L,hc,h=>by
  simp only [evAll] at h
  obtain ⟨st',h1,h⟩:=Tr.pick_bind h
  obtain ⟨L',h2,h⟩:=Tr.pick_bind h
  cases h
  obtain ⟨g1,g2,g3⟩:=evAll_ok hC r st' L' (fun y hy=>hc y (by simp [hy])) h2
  have hk:=evOps_ok hC (Q:=fun q=>q=st') [x] st st' h1 rfl
  obtain ⟨s'',q1,q2⟩:=stp_of (by rw [show (x.at o).op=x.op.at o from rfl,cls_at]; exact hc x (by simp)) hk
  have q2:s''=st':=q2
  subst q2
  refine ⟨by simp [g1],rfl,fun i y s s' hy hs hs'=>?_⟩
  cases i with
  | zero =>
   simp at hy hs hs'
   subst hy hs
   rw [g2] at hs'
   cases hs'
   exact q1
  | succ i=>exact g3 i y s s' (by simpa using hy) (by simpa using hs) (by simpa using hs')
theorem evDr_ok {C:Callee} (hC:CalleeOk P C) {o:Nat} {un:List (Nat×Nat)} {ops:List IOper} {st:St} {e:IExit} {st':St} {Q:IExit→St→Prop} (h:(evDr C o un ops st).pick=some (e,st')) (hQ:Q e st'):icWp P (.dr un (atOps o ops)) Q st:=by
 unfold evDr at h
 split at h
 ·rename_i hc
  rw [Bool.and_eq_true] at hc
  obtain ⟨hc,hdd⟩:=hc
  simp only [List.all_eq_true,decide_eq_true_eq] at hc
  obtain ⟨L,hL,h⟩:=Tr.pick_bind h
  split at h
  ·rename_i hk
   split at h
   ·rename_i s hs
    cases h
    obtain ⟨g1,g2,g3⟩:=evAll_ok hC ops st L hc hL
    refine ⟨fun i=>L.getD i st,by simp [List.getD_eq_getElem?_getD,g2],?_,?_,?_,?_⟩
    case refine_4 =>
     intro io hio d hd
     obtain ⟨i,hi⟩:=List.mem_iff_getElem?.1 hio
     rw [atOps_get] at hi
     simp only [Option.map_eq_some_iff] at hi
     obtain ⟨x,hx,rfl⟩:=hi
     have:=List.all_eq_true.1 hdd x (List.mem_of_getElem? hx)
     have hd':x.dst=some d:=hd
     rw [hd'] at this
     simpa using this
    ·rw [atOps_length]
     rw [List.getLast?_eq_getElem?,g1] at hs
     simp only [Nat.add_sub_cancel] at hs
     simp only [List.getD_eq_getElem?_getD,hs,Option.getD_some]
     exact hQ
    ·intro i io hio
     rw [atOps_get] at hio
     simp only [Option.map_eq_some_iff] at hio
     obtain ⟨x,hx,rfl⟩:=hio
     have hi:i < ops.length:=(List.getElem?_eq_some_iff.1 hx).1
     have e1:L[i]?=some (L.getD i st):=by simp [List.getD_eq_getElem?_getD,List.getElem?_eq_getElem (show i < L.length by omega)]
     have e2:L[i+1]?=some (L.getD (i+1) st):=by simp [List.getD_eq_getElem?_getD,List.getElem?_eq_getElem (show i+1 < L.length by omega)]
     exact g3 i x _ _ hx e1 e2
    ·intro x hx io hio
     have:=List.all_eq_true.1 hk x hx
     rw [atOps_get] at hio
     simp only [Option.map_eq_some_iff] at hio
     obtain ⟨y,hy,rfl⟩:=hio
     rw [hy] at this
     rw [show (y.at o).op=y.op.at o from rfl,peek_at,peek_at]
     split at this
     ·rename_i io s s1 s2 q0 q1 q2 q3
      cases q0
      simp only [List.getD_eq_getElem?_getD,q1,q2,q3,Option.getD_some]
      exact sameO_eq this
     ·cases this
   ·cases h
  ·cases h
 ·cases h
theorem evCode_ok {C:Callee} (hC:CalleeOk P C) {o F:Nat}:∀ (ic:ICode) (Q:IExit→St→Prop) (st:St) (e:IExit) (st':St),(evCode C o F ic st).pick=some (e,st')→Q e st'→icWp P (ic.at o) Q st:=by
 intro ic
 induction ic with
 | skip=>intro Q st e st' h hQ; cases h; exact hQ
 | reg d ops =>
  intro Q st e st' h hQ
  simp only [evCode] at h
  obtain ⟨st1,h1,h⟩:=Tr.pick_bind h
  cases h; exact evOps_ok hC ops st _ h1 hQ
 | dr un ops=>intro Q st e st' h hQ; exact evDr_ok hC h hQ
 | seq a b iha ihb =>
  intro Q st e st' h hQ
  simp only [evCode] at h
  obtain ⟨⟨e1,st1⟩,h1,h⟩:=Tr.pick_bind h
  refine iha (thenQ (icWp P (b.at o) Q) Q) st e1 st1 h1 ?_
  cases e1 with
  | normal=>exact ihb Q _ _ _ h hQ
  | exit id=>cases h; exact hQ
  | ret=>cases h; exact hQ
 | cond c a b iha ihb =>
  intro Q st e st' h hQ
  simp only [evCode] at h
  simp only [ICode.at,icWp]
  split at h
  ·rename_i hev; simp only [hev]; exact ⟨fun _=>iha Q st e st' h hQ,by simp⟩
  ·rename_i hev; simp only [hev]; exact ⟨by simp,fun _=>ihb Q st e st' h hQ⟩
  ·rename_i z hev
   simp only [hev]
   split at h
   ·rename_i hty
    refine ⟨hty,?_⟩
    rcases pick_br h with ⟨h1,h2⟩ | ⟨h1,h2⟩
    ·exact ⟨fun _=>iha Q st e st' h2 hQ,fun hn=>by rw [h1] at hn; cases hn⟩
    ·exact ⟨(fun hn=>by rw [h1] at hn; cases hn),fun _=>ihb Q st e st' h2 hQ⟩
   ·cases h
  ·cases h
 | blk id b ih =>
  intro Q st e st' h hQ
  simp only [evCode] at h
  show icWp P (b.at o) (blkQ id Q) st
  obtain ⟨⟨e1,st1⟩,h1,h⟩:=Tr.pick_bind h
  refine ih _ st _ _ h1 ?_
  cases e1 with
  | normal=>cases h; exact hQ
  | exit i =>
   simp only [blkQ]
   simp only at h
   split at h
   ·rename_i hi; cases h; rw [if_pos hi]; exact hQ
   ·rename_i hi; cases h; rw [if_neg hi]; exact hQ
  | ret=>cases h; exact hQ
 | loop b ih =>
  intro Q st e st' h hQ
  simp only [evCode] at h
  refine ⟨fun m x=>(evLoop (evCode C o F b) m x).pick=some (e,st'),F,⟨st,Weak.refl st,h⟩,fun m x hx=>?_⟩
  cases m with
  | zero=>cases hx
  | succ m =>
   simp only [evLoop] at hx
   obtain ⟨⟨e1,x1⟩,h1,hx⟩:=Tr.pick_bind hx
   refine ih _ x _ _ h1 ?_
   cases e1 with
   | normal=>exact ⟨m,Nat.lt_succ_self m,x1,Weak.refl x1,hx⟩
   | exit i=>cases hx; exact hQ
   | ret=>cases hx; exact hQ
 | exit id=>intro Q st e st' h hQ; cases h; exact hQ
 | ret=>intro Q st e st' h hQ; cases h; exact hQ
 | bad=>intro Q st e st' h hQ; cases h
theorem evCall_ok (hm:P.follows .mixedOrders=true) {ov:Callee} (ho:CalleeOk P ov) (fz:List Nat) {tab:List (Nat×FI)} (ht:TabOk P tab) (F:Nat):∀ D,CalleeOk P (evCall ov fz tab F D):=by
 intro D
 induction D with
 | zero=>intro f args h n r h' n' he; cases he
 | succ D ih =>
  intro f args h n r h' n' he
  simp only [evCall] at he
  split at he
  ·split at he
   ·cases he
   ·rename_i x hx
    obtain ⟨fn,c,h1,h2,h3,h4,h4b,h5,h6⟩:=find_ok ht hx
    have h6':cCode P (slotF x.al h.length) c=some (x.ic.at h.length):=congrFun h6 h.length
    have w:∀ (e:IExit) (st:St),(e=.normal∨e=.ret)→(evCode (evCall ov fz tab F D) h.length F x.ic ⟨args++List.replicate (x.nt - args.length) (.v undef),h++List.replicate (x.al.length+1) none,n⟩).pick=some (e,st)→(fin h.length n x.ts (frzFrom (fz.contains f) h.length st)).pick=some (r,h',n')→GCall P f args h n r h' n':=by
     intro e st hei hev hfin
     simp only [fin] at hfin
     have wf:=Weak.frzFrom (fz.contains f) h.length st
     generalize frzFrom (fz.contains f) h.length st=sf at hfin wf
     split at hfin
     case h_2=>cases hfin
     rename_i r0 hr
     simp only [Tr.pick,Option.some.injEq,Prod.mk.injEq] at hfin
     obtain ⟨rfl,hh,hn⟩:=hfin
     refine gcall_of hm h1 h2 h3 h4 h4b h6' (x.al.length+1) ?_
     rw [h5]
     refine evCode_ok ih x.ic _ _ e st hev ⟨hei,?_⟩
     unfold trim at hh
     split at hh
     ·exact ⟨sf,sf.h.length,wf,hr,by rw [List.take_length]; exact hh,hn⟩
     ·exact ⟨sf,h.length,wf,hr,hh,hn⟩
    obtain ⟨⟨e,st⟩,hev,he⟩:=Tr.pick_bind he
    cases e with
    | normal=>exact w _ st (.inl rfl) hev he
    | ret=>exact w _ st (.inr rfl) hev he
    | exit i=>cases he
  ·exact ho _ _ _ _ _ _ _ he
def runF (ov:Callee) (fz:List Nat) (tab:List (Nat×FI)) (F D f:Nat) (args:List PV):Tr PV:=if closedL args then (evCall ov fz tab F D f args [none] 0).bind shutTr else .no
theorem vpure_pick (hm:P.follows .mixedOrders=true) {ov:Callee} (ho:CalleeOk P ov) (fz:List Nat) {tab:List (Nat×FI)} (ht:TabOk P tab) (F D:Nat) {f:Nat} {args:List PV} {r:PV} (h:(runF ov fz tab F D f args).pick=some r):VPure P f args r:=by
 unfold runF at h
 split at h
 ·rename_i ha
  obtain ⟨⟨r0,h0,n0⟩,hc,h⟩:=Tr.pick_bind h
  exact vpure_of_g (evCall_ok hm ho fz ht F D _ _ _ _ _ _ _ hc) ha (shutTr_pick h)
 ·cases h
theorem vpure_run (hm:P.follows .mixedOrders=true) {ov:Callee} (ho:CalleeOk P ov) (fz:List Nat) {tab:List (Nat×FI)} (ht:TabOk P tab) (F D:Nat) {f:Nat} {args:List PV} {r:PV} (h:runF ov fz tab F D f args=.ok r):VPure P f args r :=
 vpure_pick hm ho fz ht F D (by rw [h]; rfl)
end Go.Proofs.Yticljphbbdnomaa.VL
