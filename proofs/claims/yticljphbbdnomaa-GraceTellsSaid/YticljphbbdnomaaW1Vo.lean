import Derived.Test.YticljphbbdnomaaW1Vm
import Derived.Orders
import Derived.Deep.LoopGhost
namespace Go.Proofs.Yticljphbbdnomaa.VL
open Go
set_option linter.unusedVariables false
set_option linter.unusedSimpArgs false
set_option linter.unusedSectionVars false
variable [Val]
def St.put (st:St) (dst:Option Nat) (p:PV):St:=match dst with | some d=>⟨st.t.set d p,st.h,st.n⟩ | none=>st
def GCall (P:Program) (f:FuncId) (args:List PV) (h:List Slot) (n:Nat) (r:PV) (h':List Slot) (n':Nat):Prop :=
 callable P f=true∧∀ (C:Ctx) (t:List PV) (a:Act) (E:Env) (vals:Array Value),InvE C ⟨t,h,n⟩ a E→vals.size=args.length→(∀ (i:Nat) (p:PV) (u:Value),args[i]?=some p→vals[i]?=some u→Rep E p u) →
  Calls P f vals E.w fun e W'=>∃ v E',e=.returned v∧E'.w=W'∧InvE C ⟨t,h',n'⟩ a E'∧Rep E' r v
def callK (P:Program) (d:Bool) (st:St) (s f:Nat) (args:List PV) (K:PV→List Slot→Nat→Prop):Prop :=
 (∃ r,VPure P f args r∧K r st.h st.n) ∨
 (d=false∧∃ (ms:List (Nat×Nat)) (ks:List Blk) (R:PV→List (Option Blk)→Option Blk→Prop),ks.length=ms.length∧(ms.map (·.1)).Nodup∧(∀ (i b s:Nat) (k:Blk),ms[i]?=some (b,s)→ks[i]?=some k→st.h[b]?=some (some (s,k)))∧(∀ x ∈ ms,x.1≠s)∧s < st.h.length ∧
  VCall P f (ks.map (renB (qin ms))) (args.map (ren (qin ms))) R∧∀ r L' N,R r L' N→L'.length=ms.length→K (ren (qout ms s st.n N.isSome) r) (callH st.h st.n ms s L' N) (st.n+if N.isSome then 1 else 0)) ∨
 (d=false∧∃ r h' n',GCall P f args st.h st.n r h' n'∧K r h' n')
def execK (P:Program) (d:Bool) (o:IOper) (st:St) (K:St→Prop):Prop :=
 match o.op with
 | .call s f args=>callK P d st s f (args.map st.ev) fun p h n=>K (St.put ⟨st.t,h,n⟩ o.dst p)
 | .callv s x args=>match st.ev x with
  | .clo f fs cs=>callK P d st s f (fs++args.map st.ev++cs) fun p h n=>K (St.put ⟨st.t,h,n⟩ o.dst p)
  | _=>False
 | .callG s f args=>∃ r h' n',GCall P f (args.map st.ev) st.h st.n r h' n'∧K (St.put ⟨st.t,h',n'⟩ o.dst r)
 | .callvG s x args=>match st.ev x with
  | .clo f fs cs=>∃ r h' n',GCall P f (fs++args.map st.ev++cs) st.h st.n r h' n'∧K (St.put ⟨st.t,h',n'⟩ o.dst r)
  | _=>False
 | op=>opK st.ev st.h st.n (fun p h n=>K (St.put ⟨st.t,h,n⟩ o.dst p)) op
def opsK (P:Program) (d:Bool) (Q:St→Prop):List IOper→St→Prop
 | [],st=>Q st
 | o::r,st=>match o.guard with
  | none=>execK P d o st (opsK P d Q r)
  | some (g,want)=>match st.t[g]? with
   | some (.v (.bool b))=>(b=want→execK P d o st (opsK P d Q r))∧(b=!want→opsK P d Q r (st.put o.dst (.v undef)))
   | some (.v _)=>opsK P d Q r (st.put o.dst (.v undef))
   | some (.sy x)=>x.ty=some .b∧(x.eval=.bool want→execK P d o st (opsK P d Q r))∧(x.eval=.bool (!want)→opsK P d Q r (st.put o.dst (.v undef)))
   | _=>False
variable {P:Program} {C:Ctx} {st:St} {a:Act} {E:Env}
theorem InvE.putO (I:InvE C st a E) {p:PV} {u:Value} (h:Rep E p u) (d:Option Nat):InvE C (st.put d p) (a.put d u) E:=by
 cases d with
 | none=>exact I
 | some d=>exact I.put h d
theorem call_sound {d:Bool} {s f:Nat} {args:List PV} {vals:Array Value} {K:PV→List Slot→Nat→Prop} (I:InvE C st a E) (hv:vals.size=args.length) (hr:∀ (i:Nat) (p:PV) (u:Value),args[i]?=some p→vals[i]?=some u→Rep E p u)
    (hK:callK P d st s f args K):callable P f=true∧Calls P f vals E.w fun e W'=>∃ v r h' n' E',e=.returned v∧E'.w=W'∧K r h' n'∧InvE C ⟨st.t,h',n'⟩ a E'∧Rep E' r v:=by
  rcases hK with ⟨r,⟨h1,h2,h3⟩,hK⟩ | ⟨_,ms,ks,R,h1,h2,h3,h4,h5,h6,hK⟩ | ⟨_,r,h',n',hG,hK⟩
  · refine ⟨h3.1,?_⟩
    obtain ⟨ents,e1,e2,J,e3⟩:=callee_start I (ms:=[]) (ks:=[]) rfl (by simp) (fun i b s k h=>by simp at h)
    obtain rfl:ents=[]:=by simpa using e1
    have hcl:=(closedL_all args).1 h1
    refine (h3.2 E.w E.S [] vals rfl J hv (fun i p u hp hu=>(hr i p u hp hu).any_names (hcl p (List.mem_of_getElem? hp)))).mono ?_
    rintro e W' ⟨v,r',L',N,σ',S',rfl,rfl,hL,J',hR⟩
    obtain rfl:L'=[]:=by simpa using hL
    have J2:InvE ⟨E.w,fun x=>([]:List Ent)[x]?,handed [],E.S⟩ ⟨[],slots [] none,0+1⟩ emptyAct ⟨W',σ',S'⟩:=by
      have:=J'.kill 0
      simpa [slots] using this
    have I0:InvE C ⟨st.t,st.h++[none],st.n⟩ a E:=by
      refine I.step (Env.le.refl E) rfl rfl rfl (Nat.le_refl _) (fun r h=>.inl h) (fun _ _ _=>rfl) ⟨I.good.free,?_,?_,I.good.stay⟩ ?_
      · intro b s k hb
        rw [List.getElem?_append] at hb
        split at hb
        · obtain ⟨en,A,h⟩:=I.good.blk b s k hb
          exact ⟨en,⟨by rw [List.getElem?_append_left (by assumption)]; exact hb,A.σ⟩,h⟩
        · rename_i hge
          cases hb':b - st.h.length<;>simp [hb'] at hb
      · intro b1 b2 s1 s2 k1 k2 en1 en2 A1 A2 q1 q2 he
        have back:∀ (b s:Nat) (k:Blk) (en:Ent),At E (st.h++[none]) b s k en→At E st.h b s k en:=by
          intro b s k en A
          have hb:=A.slot
          rw [List.getElem?_append] at hb
          split at hb
          · exact ⟨hb,A.σ⟩
          · cases hb':b - st.h.length<;>simp [hb'] at hb
        exact I.good.inj _ _ _ _ _ _ _ _ (back _ _ _ _ A1) (back _ _ _ _ A2) q1 q2 he
      · intro b s k en A h0
        have hb:=A.slot
        rw [List.getElem?_append] at hb
        split at hb
        · exact .inl ⟨b,s,k,en,⟨hb,A.σ⟩,h0,rfl⟩
        · cases hb':b - st.h.length<;>simp [hb'] at hb
    obtain ⟨σ2,I2,hren⟩:=callee_end I0 (ms:=[]) (ks:=[]) (ents:=[]) rfl (by simp) rfl (site:=st.h.length) (by simp) (by simp) (fun i b s k en h=>by simp at h) (L':=[]) (N:=none) rfl J2
    refine ⟨v,r',st.h,st.n,⟨W',σ2,S'⟩,rfl,rfl,hK,?_,?_⟩
    · have I3:InvE C ⟨st.t,st.h++[none],st.n⟩ a ⟨W',σ2,S'⟩:=by simpa [callH,putL] using I2
      have sub:∀ (b s:Nat) (k:Blk),st.h[b]?=some (some (s,k))→(st.h++[none])[b]?=some (some (s,k)):=fun b s k hb=>by
        rw [List.getElem?_append_left (List.getElem?_eq_some_iff.1 hb).1]; exact hb
      exact { good:=⟨I3.good.free,fun b s k hb=>by
                obtain ⟨en,A,h⟩:=I3.good.blk b s k (sub _ _ _ hb)
                exact ⟨en,⟨hb,A.σ⟩,h⟩,fun b1 b2 s1 s2 k1 k2 en1 en2 A1 A2=>I3.good.inj b1 b2 s1 s2 k1 k2 en1 en2 ⟨sub _ _ _ A1.slot,A1.σ⟩ ⟨sub _ _ _ A2.slot,A2.σ⟩,I3.good.stay⟩,
              since:=I3.since,touch:=fun b s k en A=>I3.touch b s k en ⟨sub _ _ _ A.slot,A.σ⟩,defers:=I3.defers,tsize:=I3.tsize,tmps:=I3.tmps }
    · have:=hren r' v hR
      rwa [ren_closed _ r' h2] at this
  · refine ⟨h6.1,?_⟩
    obtain ⟨ents,e1,e2,J,e3⟩:=callee_start I h1 h2 h3
    have hk:(ks.map (renB (qin ms))).length=ks.length:=by simp
    refine (h6.2 E.w E.S ents vals (by rw [hk,e1,h1]) (by rw [hk]; exact J) (by simpa using hv) (fun i p u hp hu=>?_)).mono ?_
    · simp only [List.getElem?_map,Option.map_eq_some_iff] at hp
      obtain ⟨p',hp',rfl⟩:=hp
      exact Rep.ren (E:=E) (E':=⟨E.w,(ents[·]?),E.S⟩) (fun _ h=>h) (fun _ _=>rfl) e3 (hr i p' u hp' hu)
    · rintro e W' ⟨v,r',L',N,σ',S',rfl,hR,hL,J',hrep⟩
      rw [hk,h1] at hL J'
      obtain ⟨σ2,I2,hren⟩:=callee_end I h1 h2 e1 h5 h4 e2 hL J'
      exact ⟨v,_,_,_,⟨W',σ2,S'⟩,rfl,rfl,hK r' L' N hR hL,I2,hren r' v hrep⟩
  · refine ⟨hG.1,(hG.2 C st.t a E vals I hv hr).mono ?_⟩
    rintro e W' ⟨v,E',rfl,rfl,I',hR⟩
    exact ⟨v,r,h',n',E',rfl,rfl,hK,I',hR⟩
theorem run_call {f:FuncId} {o:Oper} {c:Call} {us vs:Array Value} (ho:o.op=.call c) {x:Operand} (hc:c.callee=.value x) (hx:a.eval x=.func (.func f) us vs) (hf:callable P f=true) (w:World) :
  (execOp a.eval o).run P w=.ok (.enter f (us++c.args.map a.eval++vs)) w:=by
 unfold callable at hf
 cases hfn:P.funcs[f]? with
 | none=>rw [hfn] at hf; cases hf
 | some fn =>
  rw [hfn] at hf
  simp only [bne_iff_ne,ne_eq,Bool.and_eq_true,Bool.not_eq_true'] at hf
  have h1:¬ (fn.name = "runtime.NumGoroutine"):=by simpa using hf.1
  have h2:¬ (fn.body=none):=by intro h; rw [h] at hf; simp at hf
  simp [execOp,ho,resolve,hc,hx,Deferred.ofValue,invoke,callFunc,hfn,h1,h2]
def cAny (P:Program) (slot:Nat) (o:Oper):Option IOp:=match cOp P slot o with | some x=>some x | none=>match cCall slot o with | some x=>some x | none=>some .bad
theorem exec_sound {slot:Nat} {o:Oper} {io:IOper} {d:Bool} {K:St→Prop} {next:Act→World→Prop} {Q:Exit→Act→World→Prop} (hc:cAny P slot o=some io.op) (hd:io.dst=o.dst) (I:InvE C st a E) (hK:execK P d io st K)
  (hn:∀ st' a' E',(∃ u,a'=a.put o.dst u)→InvE C st' a' E'→K st'→next a' E'.w):o.wp P a E.w next Q:=by
 unfold execK at hK
 have call:∀ {s f:Nat} {args:List PV} {c:Call} {x:Operand} {us vs:Array Value},o.op=.call c→c.callee=.value x→a.eval x=.func (.func f) us vs →
   (us++c.args.map a.eval++vs).size=args.length→(∀ (i:Nat) (p:PV) (u:Value),args[i]?=some p→(us++c.args.map a.eval++vs)[i]?=some u→Rep E p u) →
   callK P d st s f args (fun p h n=>K (St.put ⟨st.t,h,n⟩ io.dst p))→o.wp P a E.w next Q:=by
  intro s f args c x us vs h1 h2 h3 h4 h5 h6
  obtain ⟨hf,hcall⟩:=call_sound I h4 h5 h6
  unfold Oper.wp
  rw [run_call h1 h2 h3 hf E.w,Oper.upon_enter]
  refine hcall.mono ?_
  rintro e W' ⟨v,r,h',n',E',rfl,rfl,k1,k2,k3⟩
  refine hn _ _ E' ⟨_,rfl⟩ (InvE.putO k2 k3 o.dst) ?_
  rw [← hd]; exact k1
 have plain:cOp P slot o=some io.op→opK st.ev st.h st.n (fun p h n=>K (St.put ⟨st.t,h,n⟩ io.dst p)) io.op→o.wp P a E.w next Q:=by
  intro h1 h2
  obtain ⟨p,h',n',k1,u,E',nx,k2,k3,k4,k5⟩:=op_sound h1 I h2
  unfold Oper.wp
  rw [k2]
  have fin:next (a.put o.dst u) E'.w:=by
   refine hn _ _ E' ⟨_,rfl⟩ (InvE.putO k4 k5 o.dst) ?_
   rw [← hd]; exact k1
  rcases k3 with rfl | ⟨rfl,rfl⟩
  ·rw [Oper.upon_value]; exact fin
  ·rw [Oper.upon_skip]; exact fin
 unfold cAny at hc
 split at hc
 ·rename_i iop h1
  cases hc
  have hnc:=cOp_noCall h1
  split at hK
  ·rename_i hop; rw [hop] at hnc; cases hnc
  ·rename_i hop; rw [hop] at hnc; cases hnc
  ·rename_i hop; rw [hop] at hnc; cases hnc
  ·rename_i hop; rw [hop] at hnc; cases hnc
  ·exact plain h1 hK
 ·split at hc
  ·rename_i _ iop hcc
   cases hc
   unfold cCall at hcc
   split at hcc
   ·rename_i c ho
    split at hcc
    ·rename_i f hcl
     simp only [Option.map_eq_some_iff] at hcc
     obtain ⟨args,h1,h2⟩:=hcc
     rw [← h2] at hK
     obtain ⟨g1,g2⟩:=evs_rep I h1
     refine call (us:=#[]) (vs:=#[]) ho hcl rfl (by simpa using g1) (fun i p u hp hu=>g2 i p u hp (by simpa using hu)) hK
    ·rename_i t hcl
     simp only [Option.map_eq_some_iff] at hcc
     obtain ⟨args,h1,h2⟩:=hcc
     rw [← h2] at hK
     obtain ⟨g1,g2⟩:=evs_rep I h1
     have hx:=ev_rep (x:=.tmp t) I rfl
     simp only at hK
     split at hK
     ·rename_i f fs cs hev
      rw [hev] at hx
      generalize hu:a.eval (.tmp t)=u at hx
      cases hx with
      | clo _ _ _ us vs hk g hl h =>
       refine call ho hcl hu (by simp [hk,hl]; simpa using g1) (fun i p u hp hu=>?_) hK
       rw [List.getElem?_append,List.getElem?_append] at hp
       rw [Array.getElem?_append,Array.getElem?_append] at hu
       simp only [List.length_append,List.length_map,Array.size_append,Array.size_map,hk] at hp hu
       have g1':c.args.size=args.length:=by simpa using g1
       rw [g1'] at hu
       split at hp
       ·rename_i q1
        rw [if_pos q1] at hu
        split at hp
        ·rename_i q2; rw [if_pos q2] at hu; exact g i p u hp hu
        ·rename_i q2; rw [if_neg q2] at hu; exact g2 _ p u hp (by simpa using hu)
       ·rename_i q1
        rw [if_neg q1] at hu
        exact h _ p u hp hu
     ·exact hK.elim
    ·cases hcc
   ·cases hcc
  ·simp only [Option.some.injEq] at hc
   rw [← hc] at hK
   exact hK.elim
def cOper (P:Program) (slot:Option Nat→Nat) (ops:Array Oper) (o:Oper):Option IOper :=
 (cAny P (slot o.dst) o).bind fun iop=>match o.guard with
  | none=>some ⟨o.dst,iop,none⟩
  | some (j,w)=>((ops[j]?).bind (·.dst)).map fun g=>⟨o.dst,iop,some (g,w)⟩
theorem wanted_of {ops:Array Oper} {o:Oper} {slot:Option Nat→Nat} {io:IOper} (hc:cOper P slot ops o=some io) (I:InvE C st a E) :
  io.dst=o.dst∧cAny P (slot o.dst) o=some io.op∧match io.guard with
   | none=>Region.wanted o (yielded ops a.tmps)=true
   | some (g,want)=>(∀ b,st.t[g]?=some (.v (.bool b))→Region.wanted o (yielded ops a.tmps)=(b==want))∧(∀ u,(∀ b,u≠.bool b)→st.t[g]?=some (.v u)→Region.wanted o (yielded ops a.tmps)=false)∧(∀ x b,st.t[g]?=some (.sy x)→x.eval=.bool b→Region.wanted o (yielded ops a.tmps)=(b==want)):=by
 unfold cOper at hc
 simp only [Option.bind_eq_some_iff] at hc
 obtain ⟨iop,h1,hc⟩:=hc
 split at hc
 ·rename_i hg
  cases hc
  exact ⟨rfl,h1,by simp [Region.wanted,hg]⟩
 ·rename_i j w hg
  simp only [Option.map_eq_some_iff] at hc
  obtain ⟨g,hd,rfl⟩:=hc
  refine ⟨rfl,h1,?_,?_,?_⟩
  ·intro b hb
   have hlt:=(List.getElem?_eq_some_iff.1 hb).1
   have hlt':g < a.tmps.size:=by rw [I.tsize]; exact hlt
   have:=rep_v (I.tmps g _ _ hb (Array.getElem?_eq_getElem hlt'))
   simp only [Region.wanted,hg,yielded,hd,Option.bind_some]
   rw [Array.getElem?_eq_getElem hlt',this]
   simp
  ·intro u hu hb
   have hlt:=(List.getElem?_eq_some_iff.1 hb).1
   have hlt':g < a.tmps.size:=by rw [I.tsize]; exact hlt
   have:=rep_v (I.tmps g _ _ hb (Array.getElem?_eq_getElem hlt'))
   simp only [Region.wanted,hg,yielded,hd,Option.bind_some]
   rw [Array.getElem?_eq_getElem hlt',this]
   cases u<;>first | rfl | exact absurd rfl (hu _)
  ·intro x b hx hb
   have hlt:=(List.getElem?_eq_some_iff.1 hx).1
   have hlt':g < a.tmps.size:=by rw [I.tsize]; exact hlt
   have:=(rep_sy (I.tmps g _ _ hx (Array.getElem?_eq_getElem hlt'))).trans hb
   simp only [Region.wanted,hg,yielded,hd,Option.bind_some]
   rw [Array.getElem?_eq_getElem hlt',this]
   simp
def IOper.g (x:IOper):IOper:=⟨x.dst,match x.op with | .call s f args=>.callG s f args | .callv s y args=>.callvG s y args | op=>op,x.guard⟩
theorem execK_g {d:Bool} {io:IOper} {st:St} {K:St→Prop} (h:execK P d io.g st K):execK P false io st K:=by
  obtain ⟨dst,op,g⟩:=io
  cases op with
  | call s f args =>
    obtain ⟨r,h',n',h1,h2⟩:=h
    exact .inr (.inr ⟨rfl,r,h',n',h1,h2⟩)
  | callv s x args =>
    have h:(match st.ev x with | .clo f fs cs=>∃ r h' n',GCall P f (fs++args.map st.ev++cs) st.h st.n r h' n'∧K (St.put ⟨st.t,h',n'⟩ dst r) | _=>False):=h
    show (match st.ev x with | .clo f fs cs=>callK P false st s f (fs++args.map st.ev++cs) fun p h n=>K (St.put ⟨st.t,h,n⟩ dst p) | _=>False)
    generalize st.ev x=p at h ⊢
    cases p<;>first
      | exact h.elim
      | (obtain ⟨r,h',n',h1,h2⟩:=h
         exact .inr (.inr ⟨rfl,r,h',n',h1,h2⟩))
  | _=>exact h
theorem opsK_g {d:Bool} {io:IOper} {st:St} {Q:St→Prop} (h:opsK P d Q [io.g] st):opsK P false Q [io] st:=by
 rw [opsK] at h ⊢
 have hg:io.g.guard=io.guard:=rfl
 have hd:io.g.dst=io.dst:=rfl
 rw [hg,hd] at h
 split
 ·rename_i g0; simp only [g0] at h; exact execK_g h
 ·rename_i g w g0
  simp only [g0] at h
  split
  ·rename_i hb; simp only [hb] at h; exact ⟨fun e=>execK_g (h.1 e),h.2⟩
  ·rename_i u hne hb; simp only [hb] at h; exact h
  ·rename_i x hb; simp only [hb] at h; exact ⟨h.1,fun e=>execK_g (h.2.1 e),h.2.2⟩
  ·rename_i h1 h2 h3
   split at h
   ·rename_i hb; exact absurd hb (h1 _)
   ·rename_i hb; exact absurd hb (h2 _)
   ·rename_i hb; exact absurd hb (h3 _)
   ·exact h.elim
theorem wpOp_sound {d:Bool} {ops:Array Oper} {slot:Option Nat→Nat} {i:Nat} {o:Oper} {io:IOper} {r:List IOper} {Q:St→Prop} {next:Act→World→Prop} {Q':Exit→Act→World→Prop} (ho:ops[i]?=some o) (hc:cOper P slot ops o=some io) (I:InvE C st a E)
  (hK:opsK P d Q (io::r) st) (hn:∀ st' a' E',(∃ u,a'=a.put o.dst u)→InvE C st' a' E'→opsK P d Q r st'→next a' E'.w):wpOp P ops Q' i next a E.w:=by
 obtain ⟨h1,h2,h3⟩:=wanted_of hc I
 unfold wpOp
 rw [ho]
 simp only
 rw [opsK] at hK
 have yes:execK P d io st (opsK P d Q r)→Region.wanted o (yielded ops a.tmps)=true→(if Region.wanted o (yielded ops a.tmps)=true then o.wp P a E.w next Q'∨(o.asks P a E.w∧LetsOut Q') else next (a.put o.dst undef) E.w):=by
  intro hK hw
  rw [if_pos hw]
  exact .inl (exec_sound h2 h1 I hK hn)
 have no:opsK P d Q r (st.put io.dst (.v undef))→Region.wanted o (yielded ops a.tmps)=false→(if Region.wanted o (yielded ops a.tmps)=true then o.wp P a E.w next Q'∨(o.asks P a E.w∧LetsOut Q') else next (a.put o.dst undef) E.w):=by
  intro hK hw
  rw [if_neg (by simp [hw])]
  refine hn _ _ E ⟨_,rfl⟩ (InvE.putO I (.v undef) o.dst) ?_
  rw [← h1]; exact hK
 split at hK
 ·rename_i hg
  rw [hg] at h3
  exact yes hK h3
 ·rename_i g want hg
  rw [hg] at h3
  obtain ⟨h4,h5,h6⟩:=h3
  split at hK
  ·rename_i b hb
   have hw:=h4 b hb
   by_cases hbw:b=want
   ·exact yes (hK.1 hbw) (by rw [hw]; simp [hbw])
   ·have:b=!want:=by cases b<;>cases want<;>simp_all
    exact no (hK.2 this) (by rw [hw]; simp [hbw])
  ·rename_i u hne hb
   exact no hK (h5 u (fun b h=>hne b (by rw [h])) hb)
  ·rename_i x hx
   obtain ⟨k1,k2,k3⟩:=hK
   obtain ⟨b,hb⟩:=sx_bool k1
   have hw:=h6 x b hx hb
   by_cases hbw:b=want
   ·subst hbw; exact yes (k2 hb) (by rw [hw]; simp)
   ·have hb2:b=!want:=by cases b<;>cases want<;>simp_all
    subst hb2; exact no (k3 hb) (by rw [hw]; simp)
  ·exact hK.elim
theorem region_sound {d:Bool} {ops:Array Oper} {slot:Option Nat→Nat} {Q:St→Prop} {Q':Exit→Act→World→Prop} (hQ:∀ st' a' E',InvE C st' a' E'→Q st'→Q' .normal a' E'.w) :
  ∀ (post:List Oper) (k:Nat) (iops:List IOper) (st:St) (a:Act) (E:Env),(∀ j,post[j]?=ops[k+j]?)→post.mapM (cOper P slot ops)=some iops→InvE C st a E→opsK P d Q iops st→wpOps P ops Q' (List.range' k post.length) a E.w
 | [],k,iops,st,a,E,_,hm,I,hK=>by
  simp at hm; subst hm
  simpa [wpOps] using hQ st a E I hK
 | o::post,k,iops,st,a,E,hp,hm,I,hK=>by
  rw [List.mapM_cons] at hm
  simp only [Option.bind_eq_bind,Option.bind_eq_some_iff,Option.pure_def,Option.some.injEq] at hm
  obtain ⟨io,h1,rest,h2,rfl⟩:=hm
  rw [List.length_cons,List.range'_succ,wpOps_cons]
  refine wpOp_sound (by have:=hp 0; simpa using this.symm) h1 I hK ?_
  intro st' a' E' _ I' hK'
  exact region_sound hQ post (k+1) rest st' a' E' (fun j=>by have:=hp (j+1); simpa [Nat.add_assoc,Nat.add_comm 1 j] using this) h2 I' hK'
end Go.Proofs.Yticljphbbdnomaa.VL
