import Derived.Test.YticljphbbdnomaaW1Xk
import Derived.Test.YticljphbbdnomaaW1Vv
namespace Go.Proofs.Yticljphbbdnomaa.VL
open Go
set_option linter.unusedVariables false
set_option linter.unusedSimpArgs false
set_option linter.unusedSectionVars false
variable [Val]
variable {P:Program}
def CSem (P:Program) (f:FuncId) (args:List PV) (h:List Slot) (n:Nat) (Q:QP):Prop :=
 callable P f=true∧∀ (C:Ctx) (t:List PV) (a:Act) (E:Env) (vals:Array Value),InvE C ⟨t,h,n⟩ a E→vals.size=args.length→(∀ (i:Nat) (p:PV) (u:Value),args[i]?=some p→vals[i]?=some u→Rep E p u) →
  Calls P f vals E.w fun e W'=>∃ v r h' n' E',e=.returned v∧E'.w=W'∧Q r h' n'∧InvE C ⟨t,h',n'⟩ a E'∧Rep E' r v
theorem csem_of_callK {f s:Nat} {args:List PV} {h:List Slot} {n:Nat} {Q:QP} (hK:callK P false ⟨[],h,n⟩ s f args Q):CSem P f args h n Q:=by
 have key:∀ (t:List PV),callK P false ⟨t,h,n⟩ s f args Q:=fun t=>hK
 refine ⟨?_,fun C t a E vals I hv hr=>(call_sound I hv hr (key t)).2⟩
 rcases hK with ⟨r,⟨h1,h2,h3⟩,hK⟩ | ⟨_,ms,ks,R,h1,h2,h3,h4,h5,h6,hK⟩ | ⟨_,r,h',n',hG,hK⟩
 ·exact h3.1
 ·exact h6.1
 ·exact hG.1
theorem gcall_of_pure {f:Nat} {args:List PV} {r:PV} (hp:VPure P f args r) (h:List Slot) (n:Nat):GCall P f args h n r h n:=by
 have hK:∀ t:List PV,callK P false ⟨t,h,n⟩ 0 f args (fun p h' n'=>p=r∧h'=h∧n'=n):=fun t=>.inl ⟨r,hp,rfl,rfl,rfl⟩
 refine ⟨hp.2.2.1,fun C t a E vals I hv hr=>((call_sound I hv hr (hK t)).2).mono ?_⟩
 rintro e W' ⟨v,r',h',n',E',rfl,rfl,⟨rfl,rfl,rfl⟩,I',hR⟩
 exact ⟨v,E',rfl,rfl,I',hR⟩
theorem exec_csem {C:Ctx} {st:St} {a:Act} {E:Env} {slot:Nat} {o:Oper} {io:IOper} {K:St→Prop} {next:Act→World→Prop} {Q:Exit→Act→World→Prop} (hc:cAny P slot o=some io.op) (hd:io.dst=o.dst) (I:InvE C st a E)
  (hK:(∃ s f args,io.op=.call s f args∧CSem P f (args.map st.ev) st.h st.n (fun p h n=>K (St.put ⟨st.t,h,n⟩ io.dst p))) ∨
   (∃ s x args f fs cs,io.op=.callv s x args∧st.ev x=.clo f fs cs∧CSem P f (fs++args.map st.ev++cs) st.h st.n (fun p h n=>K (St.put ⟨st.t,h,n⟩ io.dst p))))
  (hn:∀ st' a' E',(∃ u,a'=a.put o.dst u)→InvE C st' a' E'→K st'→next a' E'.w):o.wp P a E.w next Q:=by
 have call:∀ {f:Nat} {args:List PV} {c:Call} {x:Operand} {us vs:Array Value},o.op=.call c→c.callee=.value x→a.eval x=.func (.func f) us vs →
   (us++c.args.map a.eval++vs).size=args.length→(∀ (i:Nat) (p:PV) (u:Value),args[i]?=some p→(us++c.args.map a.eval++vs)[i]?=some u→Rep E p u) →
   CSem P f args st.h st.n (fun p h n=>K (St.put ⟨st.t,h,n⟩ io.dst p))→o.wp P a E.w next Q:=by
  intro f args c x us vs h1 h2 h3 h4 h5 h6
  have hcall:=h6.2 C st.t a E _ I h4 h5
  unfold Oper.wp
  rw [run_call h1 h2 h3 h6.1 E.w,Oper.upon_enter]
  refine hcall.mono ?_
  rintro e W' ⟨v,r,h',n',E',rfl,rfl,k1,k2,k3⟩
  refine hn _ _ E' ⟨_,rfl⟩ (InvE.putO k2 k3 o.dst) ?_
  rw [← hd]; exact k1
 have hcall:io.op.isCall=true:=by
  rcases hK with ⟨s,f,args,h,_⟩ | ⟨s,x,args,f,fs,cs,h,_⟩<;>rw [h]<;>rfl
 have notBad:io.op≠.bad:=by intro h; rw [h] at hcall; cases hcall
 unfold cAny at hc
 split at hc
 ·rename_i iop h1
  cases hc
  rw [cOp_noCall h1] at hcall; cases hcall
 ·split at hc
  ·rename_i _ iop hcc
   cases hc
   unfold cCall at hcc
   split at hcc
   ·rename_i c ho
    split at hcc
    ·rename_i f hcl
     simp only [Option.map_eq_some_iff] at hcc
     obtain ⟨args,h1,h2⟩:=hcc
     rw [← h2] at hK
     obtain ⟨g1,g2⟩:=evs_rep I h1
     rcases hK with ⟨s',f',args',h,hK⟩ | ⟨s',x,args',f',fs,cs,h,_⟩
     ·cases h
      exact call (us:=#[]) (vs:=#[]) ho hcl rfl (by simpa using g1) (fun i p u hp hu=>g2 i p u hp (by simpa using hu)) hK
     ·cases h
    ·rename_i t hcl
     simp only [Option.map_eq_some_iff] at hcc
     obtain ⟨args,h1,h2⟩:=hcc
     rw [← h2] at hK
     obtain ⟨g1,g2⟩:=evs_rep I h1
     have hx:=ev_rep (x:=.tmp t) I rfl
     rcases hK with ⟨s',f',args',h,_⟩ | ⟨s',x,args',f,fs,cs,h,hev,hK⟩
     ·cases h
     ·cases h
      rw [hev] at hx
      generalize hu:a.eval (.tmp t)=u at hx
      cases hx with
      | clo _ _ _ us vs hk g hl h =>
       refine call ho hcl hu (by simp [hk,hl]; simpa using g1) (fun i p u hp hu=>?_) hK
       rw [List.getElem?_append,List.getElem?_append] at hp
       rw [Array.getElem?_append,Array.getElem?_append] at hu
       simp only [List.length_append,List.length_map,Array.size_append,Array.size_map,hk] at hp hu
       have g1':c.args.size=args.length:=by simpa using g1
       rw [g1'] at hu
       split at hp
       ·rename_i q1
        rw [if_pos q1] at hu
        split at hp
        ·rename_i q2; rw [if_pos q2] at hu; exact g i p u hp hu
        ·rename_i q2; rw [if_neg q2] at hu; exact g2 _ p u hp (by simpa using hu)
       ·rename_i q1
        rw [if_neg q1] at hu
        exact h _ p u hp hu
    ·cases hcc
   ·cases hcc
  ·simp only [Option.some.injEq] at hc
   exact absurd hc.symm notBad
structure XO where
 io:IOper
 a:TT
 fz:List Nat
 ws:List Nat
abbrev Cal:=(f:Nat)→(args:List XV)→(M:Nat)→(wp:List Nat)→Heap→(n:Nat)→(site:Nat)→(R:Type)→KX R→Option R
def CalOk (P:Program) (cal:Cal):Prop:=∀ (f:Nat) (args:List XV) (M:Nat) (wp:List Nat) (h:Heap) (n s:Nat) (R:Type) (K:KX R) (r:R) (Q:QP),cal f args M wp h n s R K=some r→OkK true M K r Q→CSem P f (toPVL args) (toH M h) n Q
def evX (N:Nat) (t:List (Nat×XV)):Opd→XV
 | .t i=>(match Nat.blt i N with | true=>(match lk t i with | some x=>x | none=>.dead) | false=>.dead)
 | .c p=>ofPV p
theorem evX_eq (N M:Nat) (st:XSt):rp (evX N st.t)=(st.to N M).ev:=by
 funext x
 cases x with
 | t i =>
  simp only [rp,evX,XSt.to,St.ev,List.getD_eq_getElem?_getD]
  by_cases hi:i < N
  ·have:Nat.blt i N=true:=Nat.ble_eq ▸ hi
   rw [this]
   simp only [toT,List.getElem?_map,List.getElem?_range hi,Option.map_some,Option.getD_some]
   cases lk st.t i<;>rfl
  ·have:Nat.blt i N=false:=by rw [Bool.eq_false_iff]; intro h; exact hi (Nat.le_of_ble_eq_true h)
   rw [this]
   have:(toT N st.t)[i]?=none:=by rw [List.getElem?_eq_none]; rw [toT_len]; omega
   rw [this]; rfl
 | c p=>exact toPV_ofPV p
def XSt.put (t:List (Nat×XV)) (d:Option Nat) (v:XV) (h:Heap) (n:Nat):XSt:=match d with
 | some d=>⟨(d,v)::t,h,n⟩
 | none=>⟨t,h,n⟩
theorem put_to (N M:Nat) (t:List (Nat×XV)) (d:Option Nat) (v:XV) (h:Heap) (n:Nat):(XSt.put t d v h n).to N M=St.put ⟨toT N t,toH M h,n⟩ d v.toPV:=by
 cases d with
 | none=>rfl
 | some d=>simp only [XSt.put,XSt.to,St.put,toT_set]
theorem frzE {t:List PV} {h:List Slot} {n b s:Nat} {es:List PV} (hb:h[b]?=some (some (s,.cells es))) {C:Ctx} {a:Act} {E:Env} (I:InvE C ⟨t,h,n⟩ a E) :
  ∃ E',E'.w=E.w∧InvE C ⟨t,h.set b none,n⟩ a E'∧E.le E'∧∀ (sz off len:Nat) (cap:Option Nat) (u:Value),off+len≤es.length→Rep E (.own b s sz off len cap) u→Rep E' (.sl false ((es.drop off).take len)) u:=by
 obtain ⟨en,A,hB,hnS⟩:=I.good.blk b s _ hb
 let E':Env:=⟨E.w,E.σ,fun r=>E.S r∨(en.tot≠0∧r=en.rb)⟩
 have hE:E.le E':=⟨fun _ h=>.inl h,fun _ _=>rfl,fun _ _ h=>h⟩
 have old:∀ (b' s':Nat) (k':Blk),(h.set b none)[b']?=some (some (s',k'))→b'≠b∧h[b']?=some (some (s',k')):=by
  intro b' s' k' h1
  rw [List.getElem?_set] at h1
  split at h1
  ·split at h1<;>cases h1
  ·rename_i hne; exact ⟨Ne.symm hne,h1⟩
 have I1:InvE C ⟨t,h.set b none,n⟩ a E':=by
  refine I.step hE rfl rfl rfl (Nat.le_refl _) ?_ (fun _ _ _=>rfl) ⟨I.good.free,?_,?_,?_⟩ ?_
  ·intro r hr
   rcases hr with h | ⟨h0,rfl⟩
   ·exact .inl h
   ·exact .inr (.inl ⟨b,s,_,en,A,h0,rfl⟩)
  ·intro b' s' k' hb'
   obtain ⟨hne,h1⟩:=old _ _ _ hb'
   obtain ⟨en',A',hB',hS'⟩:=I.good.blk b' s' k' h1
   refine ⟨en',⟨hb',A'.σ⟩,hB'.mono hE (fun _=>rfl),fun h0 hS=>?_⟩
   rcases hS with h | ⟨h1,h2⟩
   ·exact hS' h0 h
   ·exact hne (I.good.inj _ _ _ _ _ _ _ _ A' A h0 h1 h2)
  ·intro b1 b2 s1 s2 k1 k2 en1 en2 A1 A2 h1 h2 he
   obtain ⟨_,g1⟩:=old _ _ _ A1.slot
   obtain ⟨_,g2⟩:=old _ _ _ A2.slot
   exact I.good.inj _ _ _ _ _ _ _ _ ⟨g1,A1.σ⟩ ⟨g2,A2.σ⟩ h1 h2 he
  ·intro r hr
   rcases hr with h | ⟨h0,rfl⟩
   ·exact I.good.stay r h
   ·exact A.lt I.good h0
  ·intro b' s' k' en' A' h0
   obtain ⟨_,g1⟩:=old _ _ _ A'.slot
   exact .inl ⟨b',s',k',en',⟨g1,A'.σ⟩,h0,rfl⟩
 refine ⟨E',rfl,I1,hE,fun sz off len cap u hg h1=>?_⟩
 have h2:=rep_frz hE A.σ hB (fun h0=>.inr ⟨h0,rfl⟩) (fun _=>rfl) h1
 simp only [frz,if_true] at h2
 rw [if_pos hg] at h2
 exact rep_unclip h2
theorem Weak.frzT {t:List PV} {h:List Slot} {n i b s sz off len:Nat} {cap:Option Nat} {es:List PV} (ht:t[i]?=some (.own b s sz off len cap)) (hb:h[b]?=some (some (s,.cells es))) (hg:off+len≤es.length) :
  Weak ⟨t,h,n⟩ ⟨t.set i (.sl false ((es.drop off).take len)),h.set b none,n⟩:=by
 intro C a E I
 obtain ⟨E',hw,I1,hE,hR⟩:=frzE hb I
 refine ⟨E',hw,{ good:=I1.good,since:=I1.since,touch:=I1.touch,defers:=I1.defers,tsize:=by rw [I1.tsize]; simp,tmps:=?_ }⟩
 intro j p u hp hu
 replace hp:(t.set i (.sl false ((es.drop off).take len)))[j]?=some p:=hp
 rw [List.getElem?_set] at hp
 split at hp
 ·rename_i hij
  subst hij
  split at hp
  ·cases hp
   exact hR sz off len cap u hg (I.tmps i _ u ht hu)
  ·cases hp
 ·exact (I.tmps j p u hp hu).mono hE
def frzX {R:Type} (N M:Nat) (i:Nat) (st:XSt) (K:XSt→Option R):Option R:=match evX N st.t (.t i) with
 | .own b s _ off len _=>(match rd M st.h b s with
  | some (.rows t l)=>cond (decide (off+len≤l.length)) (K ⟨(i,.tl t ((l.drop off).take len))::st.t,(b,none)::st.h,st.n⟩) none
  | _=>none)
 | .tl ..=>K st
 | .xl ..=>K st
 | _=>none
theorem frzX_ok {R:Type} {N M i:Nat} {st:XSt} {K:XSt→Option R} {r:R} (h:frzX N M i st K=some r):∃ st',K st'=some r∧Weak (st.to N M) (st'.to N M):=by
 unfold frzX at h
 split at h
 ·rename_i b s sz off len cap hv
  split at h
  ·rename_i t l hr
   obtain ⟨hg,h⟩:=guard_some h
   refine ⟨_,h,?_⟩
   obtain ⟨hb,hr⟩:=rd_spec hr
   simp only [evX] at hv
   split at hv
   ·rename_i hi
    have hi:i < N:=Nat.le_of_ble_eq_true hi
    split at hv
    ·rename_i x hx
     subst hv
     have ht:(toT N st.t)[i]?=some (.own b s sz off len cap):=by
      simp only [toT,List.getElem?_map,List.getElem?_range hi,Option.map_some,hx,Option.getD_some,XV.toPV]
     have:=Weak.frzT (n:=st.n) ht hr (by simpa using hg)
     simp only [XSt.to,toT_set,toH_set,Option.map_none,XV.toPV,List.map_take,List.map_drop]
     exact this
    ·cases hv
   ·cases hv
  ·cases h
 ·exact ⟨st,h,Weak.refl _⟩
 ·exact ⟨st,h,Weak.refl _⟩
 ·cases h
def frzXs {R:Type} (N M:Nat):List Nat→XSt→(XSt→Option R)→Option R
 | [],st,K=>K st
 | i::r,st,K=>frzX N M i st fun st'=>frzXs N M r st' K
theorem frzXs_ok {R:Type} {N M:Nat}:∀ {l:List Nat} {st:XSt} {K:XSt→Option R} {r:R},frzXs N M l st K=some r→∃ st',K st'=some r∧Weak (st.to N M) (st'.to N M)
 | [],st,K,r,h=>⟨st,h,Weak.refl _⟩
 | i::l,st,K,r,h=>by
  obtain ⟨st1,h1,w1⟩:=frzX_ok h
  obtain ⟨st2,h2,w2⟩:=frzXs_ok h1
  exact ⟨st2,h2,w1.trans w2⟩
def tgX (N:Nat) (st:XSt):IOp→Option (List Nat)
 | .store _ a _=>(match evX N st.t a with | .optr b _ _ _=>some [b] | _=>none)
 | .alloc s _=>some [s]
 | .box s _ _=>some [s]
 | .mksl s _ _ _ _ _=>some [s]
 | .mkm s=>some [s]
 | .rngS s _=>some [s]
 | .app s _ _ _ x _=>(match evX N st.t x with | .own b _ _ _ _ _=>some [s,b] | .xl ..=>some [s] | _=>none)
 | .cpy _ x _=>(match evX N st.t x with | .own b _ _ _ _ _=>some [b] | _=>none)
 | .clr _ _ x=>(match evX N st.t x with | .own b _ _ _ _ _=>some [b] | _=>none)
 | .mup _ x _ _=>(match evX N st.t x with | .mp b _=>some [b] | _=>none)
 | .del _ x _=>(match evX N st.t x with | .mp b _=>some [b] | _=>none)
 | .nxtS x=>(match evX N st.t x with | .optr b _ _ _=>some [b] | _=>none)
 | .call ..=>some []
 | .callv ..=>some []
 | .callG ..=>some []
 | .callvG ..=>some []
 | .bad=>none
 | .apz ..=>none
 | _=>some []
def permB (wp:List Nat):Option (List Nat)→Bool
 | none=>false
 | some l=>l.all (inB' wp)
noncomputable def xDo {R:Type} (cal:Cal) (wp:List Nat) (N M o:Nat) (a:TT) (op:IOp) (d:Option Nat) (st:XSt) (K:XSt→Option R):Option R:=match op with
 | .call s f args=>cal f (args.map (evX N st.t)) M wp st.h st.n (o+s) R fun v h n=>K (XSt.put st.t d v h n)
 | .callv s x args=>(match evX N st.t x with
  | .clo f fs cs=>cal f (fs++args.map (evX N st.t)++cs) M wp st.h st.n (o+s) R fun v h n=>K (XSt.put st.t d v h n)
  | _=>none)
 | op=>(match permB wp (tgX N st (op.at o)) with
  | true=>xOp true M a (evX N st.t) st.h st.n (fun v h n=>K (XSt.put st.t d v h n)) (op.at o)
  | false=>none)
def xGuard {R:Type} (N:Nat) (g:Option (Nat×Bool)) (st:XSt) (yes no:XSt→Option R):Option R:=match g with
 | none=>yes st
 | some (g,want)=>(match evX N st.t (.t g) with
  | .b c=>(match want with
   | true=>cond c (yes ⟨(g,.b true)::st.t,st.h,st.n⟩) (no ⟨(g,.b false)::st.t,st.h,st.n⟩)
   | false=>cond c (no ⟨(g,.b true)::st.t,st.h,st.n⟩) (yes ⟨(g,.b false)::st.t,st.h,st.n⟩))
  | .i _ _=>no st
  | .s _=>no st
  | .k (.v (.bool _))=>none
  | .k (.v _)=>no st
  | _=>none)
def frzOk (wp:List Nat) (N:Nat) (st:XSt):List Nat→Bool
 | []=>true
 | i::r=>(match evX N st.t (.t i) with | .own b _ _ _ _ _=>inB' wp b | _=>true)&&frzOk wp N st r
noncomputable def xOps {R:Type} (cal:Cal) (wp:List Nat) (N M o:Nat):List XO→XSt→(XSt→Option R)→Option R
 | [],st,K=>K st
 | x::r,st,K=>(match frzOk wp N st x.fz with
  | true=>frzXs N M x.fz st fun st=>xGuard N x.io.guard st (fun st=>xDo cal wp N M o x.a x.io.op x.io.dst st (fun st'=>xOps cal wp N M o r st' K)) (fun st=>xOps cal wp N M o r (XSt.put st.t x.io.dst (.k (.v undef)) st.h st.n) K)
  | false=>none)
def Clo (Q:St→Prop):Prop:=∀ st st',Weak st st'→Q st'→Q st
theorem xDo_ok {R:Type} {cal:Cal} (hcal:CalOk P cal) {wp:List Nat} {N M o:Nat} {a:TT} {x:IOper} {st:XSt} {K:XSt→Option R} {r:R} {Q:St→Prop} (hQ:Clo Q) (hk:xDo cal wp N M o a x.op x.dst st K=some r) (hK:∀ st',K st'=some r→Q (st'.to N M)) :
  ((∃ s f args,(x.op.at o)=.call s f args∧CSem P f (args.map (st.to N M).ev) (st.to N M).h (st.to N M).n (fun p h n=>Q (St.put ⟨(st.to N M).t,h,n⟩ x.dst p))) ∨
   (∃ s y args f fs cs,(x.op.at o)=.callv s y args∧(st.to N M).ev y=.clo f fs cs∧CSem P f (fs++args.map (st.to N M).ev++cs) (st.to N M).h (st.to N M).n (fun p h n=>Q (St.put ⟨(st.to N M).t,h,n⟩ x.dst p)))) ∨
  ((x.op.at o).isCall=false∧opK (st.to N M).ev (st.to N M).h (st.to N M).n (fun p h n=>Q (St.put ⟨(st.to N M).t,h,n⟩ x.dst p)) (x.op.at o)):=by
 have O:OkK true M (fun v h n=>K (XSt.put st.t x.dst v h n)) r (fun p h n=>Q (St.put ⟨toT N st.t,h,n⟩ x.dst p)):=by
  refine ⟨fun {v h n} hk=>?_,fun _ {p h n p' h' n'} hl hq=>hQ _ _ (hl _ _) hq⟩
  have:=hK _ hk
  rwa [put_to] at this
 have hargs:∀ args:List Opd,toPVL (args.map (evX N st.t))=args.map (st.to N M).ev:=by
  intro args
  rw [toPVL_map,List.map_map,← evX_eq N M st]; rfl
 unfold xDo at hk
 split at hk
 ·rename_i s f args hop
  left; left
  have:=hcal _ _ _ _ _ _ _ _ _ _ _ hk O
  rw [hargs] at this
  exact ⟨_,f,args,by rw [hop]; rfl,this⟩
 ·rename_i s y args hop
  split at hk
  ·rename_i f fs cs hy
   left; right
   have:=hcal _ _ _ _ _ _ _ _ _ _ _ hk O
   rw [toPVL_append,toPVL_append,hargs] at this
   refine ⟨_,y,args,f,toPVL fs,toPVL cs,by rw [hop]; rfl,?_,this⟩
   rw [← evX_eq N M st]
   simp only [rp,hy,XV.toPV]
  ·cases hk
 ·rename_i h1 h2
  right
  split at hk
  case h_2=>cases hk
  have hh:=xOp_snd a (x.op.at o) _ r _ hk O
  rw [evX_eq N M st] at hh
  refine ⟨?_,hh⟩
  have:xOp true M a (evX N st.t) st.h st.n (fun v h n=>K (XSt.put st.t x.dst v h n)) (x.op.at o)=some r:=hk
  generalize x.op.at o=op at this h1 h2 hh
  revert this
  cases op<;>first | (intro _; rfl) | (intro h; cases h)
theorem wpOpX {C:Ctx} {ops:Array Oper} {slot:Option Nat→Nat} {i:Nat} {ox:Oper} {x:XO} {io:IOper} {o:Nat} {next:Act→World→Prop} {Q':Exit→Act→World→Prop} {R:Type} {cal:Cal} (hcal:CalOk P cal) {N M:Nat} {st:XSt} {a:Act} {E:Env} {yes no:XSt→Option R} {r:R} {Q:St→Prop}
  (hQ:Clo Q) (ho:ops[i]?=some ox) (hc:cOper P slot ops ox=some io) (hio:io=⟨x.io.dst,x.io.op.at o,x.io.guard⟩) (I:InvE C (st.to N M) a E) (hk:xGuard N x.io.guard st yes no=some r)
  (hyes:∀ st1:XSt,yes st1=some r→((∃ s f args,(x.io.op.at o)=.call s f args∧CSem P f (args.map (st1.to N M).ev) (st1.to N M).h (st1.to N M).n (fun p h n=>Q (St.put ⟨(st1.to N M).t,h,n⟩ x.io.dst p))) ∨
   (∃ s y args f fs cs,(x.io.op.at o)=.callv s y args∧(st1.to N M).ev y=.clo f fs cs∧CSem P f (fs++args.map (st1.to N M).ev++cs) (st1.to N M).h (st1.to N M).n (fun p h n=>Q (St.put ⟨(st1.to N M).t,h,n⟩ x.io.dst p)))) ∨
  ((x.io.op.at o).isCall=false∧opK (st1.to N M).ev (st1.to N M).h (st1.to N M).n (fun p h n=>Q (St.put ⟨(st1.to N M).t,h,n⟩ x.io.dst p)) (x.io.op.at o)))
  (hno:∀ st1:XSt,no st1=some r→Q ((st1.to N M).put x.io.dst (.v undef)))
  (hn:∀ st' a' E',InvE C st' a' E'→Q st'→next a' E'.w):wpOp P ops Q' i next a E.w:=by
 obtain ⟨h1,h2,h3⟩:=wanted_of hc I
 subst hio
 simp only at h1 h2 h3
 unfold wpOp
 rw [ho]
 simp only
 have yes':∀ st1:XSt,st1.to N M=st.to N M→yes st1=some r→Region.wanted ox (yielded ops a.tmps)=true→(if Region.wanted ox (yielded ops a.tmps)=true then ox.wp P a E.w next Q'∨(ox.asks P a E.w∧LetsOut Q') else next (a.put ox.dst undef) E.w):=by
  intro st1 he hy hw
  rw [if_pos hw]
  left
  have:=hyes st1 hy
  rw [he] at this
  rcases this with h | ⟨hnc,h⟩
  ·exact exec_csem (io:=⟨x.io.dst,x.io.op.at o,x.io.guard⟩) h2 h1 I h (fun st' a' E' _ I' q=>hn st' a' E' I' q)
  ·refine exec_sound (d:=false) (io:=⟨x.io.dst,x.io.op.at o,x.io.guard⟩) h2 h1 I (K:=Q) ?_ (fun st' a' E' _ I' q=>hn st' a' E' I' q)
   unfold execK
   simp only
   generalize hop:x.io.op.at o=op at h hnc
   cases op<;>first | exact h | cases hnc
 have no':∀ st1:XSt,st1.to N M=st.to N M→no st1=some r→Region.wanted ox (yielded ops a.tmps)=false→(if Region.wanted ox (yielded ops a.tmps)=true then ox.wp P a E.w next Q'∨(ox.asks P a E.w∧LetsOut Q') else next (a.put ox.dst undef) E.w):=by
  intro st1 he hy hw
  rw [if_neg (by simp [hw])]
  have:=hno st1 hy
  rw [he] at this
  refine hn _ _ E (InvE.putO I (.v undef) ox.dst) ?_
  rw [← h1]; exact this
 unfold xGuard at hk
 split at hk
 ·rename_i hg
  rw [hg] at h3
  exact yes' st rfl hk h3
 ·rename_i g want hg
  rw [hg] at h3
  obtain ⟨h4,h5,h6⟩:=h3
  have getg:∀ {y:XV},evX N st.t (.t g)=y→y≠.dead→g < N∧(st.to N M).t[g]?=some y.toPV:=by
   intro y hy hd
   simp only [evX] at hy
   split at hy
   ·rename_i hi
    have hi:g < N:=Nat.le_of_ble_eq_true hi
    refine ⟨hi,?_⟩
    split at hy
    ·rename_i z hz
     subst hy
     simp only [XSt.to,toT,List.getElem?_map,List.getElem?_range hi,Option.map_some,hz,Option.getD_some]
    ·exact absurd hy.symm hd
   ·exact absurd hy.symm hd
  have setg:∀ {c:Bool},(st.to N M).t[g]?=some (.v (.bool c))→∀ c',c=c'→(⟨(g,.b c')::st.t,st.h,st.n⟩:XSt).to N M=st.to N M:=by
   intro c hc c' he
   subst he
   simp only [XSt.to,toT_set,XV.toPV]
   congr 1
   simp only [XSt.to] at hc
   apply List.ext_getElem?
   intro j
   rw [List.getElem?_set]
   by_cases hj:g=j
   ·subst hj
    have hlt:=(List.getElem?_eq_some_iff.1 hc).1
    rw [if_pos rfl,if_pos hlt]; exact hc.symm
   ·simp [hj]
  split at hk
  ·rename_i c hv
   obtain ⟨_,hb⟩:=getg hv (by simp)
   have hw:=h4 c hb
   split at hk
   ·rcases cond_some hk with ⟨rfl,hk⟩ | ⟨rfl,hk⟩
    ·exact yes' _ (setg hb true rfl) hk (by rw [hw]; rfl)
    ·exact no' _ (setg hb false rfl) hk (by rw [hw]; rfl)
   ·rcases cond_some hk with ⟨rfl,hk⟩ | ⟨rfl,hk⟩
    ·exact no' _ (setg hb true rfl) hk (by rw [hw]; rfl)
    ·exact yes' _ (setg hb false rfl) hk (by rw [hw]; rfl)
  ·rename_i k m hv
   obtain ⟨_,hb⟩:=getg hv (by simp)
   exact no' st rfl hk (h5 _ (fun b h=>by simp at h) hb)
  ·rename_i m hv
   obtain ⟨_,hb⟩:=getg hv (by simp)
   exact no' st rfl hk (h5 _ (fun b h=>by simp at h) hb)
  ·cases hk
  ·rename_i u hu hv
   obtain ⟨_,hb⟩:=getg hv (by simp)
   exact no' st rfl hk (h5 u (fun b h=>hu b (by rw [h])) hb)
  ·cases hk
theorem regX_ok {C:Ctx} {ops:Array Oper} {slot:Option Nat→Nat} {Q':Exit→Act→World→Prop} {R:Type} {cal:Cal} (hcal:CalOk P cal) {wp:List Nat} {N M o:Nat} {K:XSt→Option R} {r:R} (hQ:∀ st',K st'=some r→∀ a' E',InvE C (st'.to N M) a' E'→Q' .normal a' E'.w) :
  ∀ (post:List Oper) (k:Nat) (xs:List XO) (st:XSt) (a:Act) (E:Env),(∀ j,post[j]?=ops[k+j]?)→post.mapM (cOper P slot ops)=some (xs.map fun x=>⟨x.io.dst,x.io.op.at o,x.io.guard⟩)→InvE C (st.to N M) a E→xOps cal wp N M o xs st K=some r→wpOps P ops Q' (List.range' k post.length) a E.w
 | [],k,xs,st,a,E,_,hm,I,hK=>by
  simp only [List.mapM_nil,Option.pure_def,Option.some.injEq] at hm
  have:xs=[]:=by cases xs<;>simp at hm ⊢
  subst this
  simpa [wpOps] using hQ st hK a E I
 | ox::post,k,xs,st,a,E,hp,hm,I,hK=>by
  rw [List.mapM_cons] at hm
  simp only [Option.bind_eq_bind,Option.bind_eq_some_iff,Option.pure_def,Option.some.injEq] at hm
  obtain ⟨io,h1,rest,h2,h3⟩:=hm
  cases xs with
  | nil=>simp at h3
  | cons x xs =>
   simp only [List.map_cons,List.cons.injEq] at h3
   obtain ⟨h3,h4⟩:=h3
   subst h4
   rw [List.length_cons,List.range'_succ,wpOps_cons]
   simp only [xOps] at hK
   split at hK
   case h_2=>cases hK
   obtain ⟨st1,hK,hw⟩:=frzXs_ok hK
   obtain ⟨E1,e1,I1⟩:=hw C a E I
   rw [← e1]
   have clo:Clo (fun st':St=>∀ a' E',InvE C st' a' E'→wpOps P ops Q' (List.range' (k+1) post.length) a' E'.w):=by
    intro s s' hw hs a' E' I'
    obtain ⟨E2,e2,I2⟩:=hw C a' E' I'
    rw [← e2]; exact hs a' E2 I2
   have recu:∀ st',xOps cal wp N M o xs st' K=some r→∀ a' E',InvE C (st'.to N M) a' E'→wpOps P ops Q' (List.range' (k+1) post.length) a' E'.w:=by
    intro st' hK' a' E' I'
    exact regX_ok hcal hQ post (k+1) xs st' a' E' (fun j=>by have:=hp (j+1); simpa [Nat.add_assoc,Nat.add_comm 1 j] using this) h2 I' hK'
   refine wpOpX hcal clo (by have:=hp 0; simpa using this.symm) h1 h3 I1 hK (fun st2 hy=>?_) (fun st2 hy=>?_) (fun st' a' E' I' q=>q a' E' I')
   ·exact xDo_ok (x:=x.io) hcal clo hy recu
   ·have:=recu _ hy
    rw [put_to] at this
    exact this
end Go.Proofs.Yticljphbbdnomaa.VL
