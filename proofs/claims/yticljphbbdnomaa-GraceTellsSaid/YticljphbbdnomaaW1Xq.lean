import Derived.Test.YticljphbbdnomaaW1Xp2
namespace Go.Proofs.Yticljphbbdnomaa.VL
open Go
set_option linter.unusedVariables false
set_option linter.unusedSimpArgs false
set_option linter.unusedSectionVars false
variable [Val]
variable {P:Program}
structure PE where
 f:Nat
 ins:Fm
 outs:Fm
 F:DT ins.den→Option (DT outs.den)
structure PE.ok (P:Program) (x:PE):Prop where
 i1:x.ins.data=true
 i2:x.ins.fine=true
 o1:x.outs.data=true
 o2:x.outs.fine=true
 o3:rowOk x.outs=true
 h:∀ v y,x.F v=some y→VPure P x.f (toPVL (expF e0 x.ins v)) (hdX (expF e0 x.outs y)).toPV
def findPE:List PE→Nat→Option PE
 | [],_=>none
 | x::r,f=>match Nat.beq x.f f with | true=>some x | false=>findPE r f
def PEsOk (P:Program):List PE→Prop
 | []=>True
 | x::r=>x.ok P∧PEsOk P r
theorem findPE_ok:∀ {l:List PE} {f:Nat} {x:PE},PEsOk P l→findPE l f=some x→x.ok P∧x.f=f
 | [],f,x,_,h=>by cases h
 | y::r,f,x,hl,h=>by
  simp only [findPE] at h
  split at h
  ·rename_i hb; cases h; exact ⟨hl.1,Nat.eq_of_beq_eq_true hb⟩
  ·exact findPE_ok hl.2 h
theorem VPure.less {f:Nat} {args args':List PV} {r:PV} (h:VPure P f args' r) (hc:closedL args=true) (hl:∀ E:Env,LI E E args args'):VPure P f args r:=by
 refine ⟨hc,h.2.1,h.2.2.1,fun W S ents vals hel J hv hargs=>h.2.2.2 W S ents vals hel J ?_ ?_⟩
 ·rw [hv,(hl ⟨W,(ents[·]?),S⟩).len]
 ·intro i p u hp hu
  obtain ⟨q,hq,hI⟩:=(hl ⟨W,(ents[·]?),S⟩).get i p hp
  exact hI u (hargs i q u hq hu)
def cE:CEnv:=⟨[],0,[],fun _=>none,fun _=>0⟩
theorem cE_ok (E:Env):CutOk cE e0 E E :=
 ⟨fun _ h=>h,rfl,fun b s s' k en h=>(by simp [cE,rd,lkS,lk] at h),fun b s k h=>(by simp [cE,inB'] at h),fun b s h=>(by cases h),fun b s h=>(by cases h),fun b s h=>(by cases h),fun b s' s t l h=>(by cases h)⟩
def purT (tab:List PE) (f:Nat) (args:List XV) (R:Type) (K:XV→Option R):Option R:=match findPE tab f with
 | some x=>(match closedXL args,cutF cE x.ins args with
  | true,some y=>gdL y.2 ((x.F y.1).bind fun y=>K (hdX (expF e0 x.outs y)))
  | _,_=>none)
 | none=>none
theorem purT_ok {tab:List PE} (ht:PEsOk P tab) {f:Nat} {args:List XV} {R:Type} {K:XV→Option R} {r:R} (h:purT tab f args R K=some r):∃ v:XV,K v=some r∧VPure P f (toPVL args) v.toPV:=by
 unfold purT at h
 split at h
 ·rename_i x hx
  obtain ⟨hok,rfl⟩:=findPE_ok ht hx
  split at h
  ·rename_i y hc hy
   obtain ⟨hg,h⟩:=gdL_some h
   rw [Option.bind_eq_some_iff] at h
   obtain ⟨z,hz,h⟩:=h
   exact ⟨_,h,(hok.h y.1 z hz).less (closedXL_ok hc) fun E=>cutF_spec (v:=y.1) (g:=y.2) (cE_ok E) hok.i2 hy hg⟩
  ·cases h
 ·cases h
mutual
def plainP:PV→Bool
 | .v _=>true
 | .agg cs=>plainPL cs
 | .tup cs=>plainPL cs
 | _=>false
def plainPL:List PV→Bool
 | []=>true
 | p::r=>plainP p&&plainPL r
end
theorem plainPL_all:∀ {l:List PV},plainPL l=true→∀ p ∈ l,plainP p=true
 | [],_,p,h=>by simp at h
 | q::r,h,p,hp=>by
  simp only [plainPL,Bool.and_eq_true] at h
  rcases List.mem_cons.1 hp with rfl | hp
  ·exact h.1
  ·exact plainPL_all h.2 p hp
theorem rep_plain {E E':Env} {p:PV} {u:Value} (h:Rep E p u):plainP p=true→Rep E' p u:=by
 induction h with
 | v x=>intro _; exact .v x
 | agg cs vs hl ho _ ih =>
  intro hp
  simp only [plainP] at hp
  exact .agg cs vs hl ho fun i c u hc hu=>ih i c u hc hu (plainPL_all hp c (List.mem_of_getElem? hc))
 | tup cs vs hl _ ih =>
  intro hp
  simp only [plainP] at hp
  exact .tup cs vs hl fun i c u hc hu=>ih i c u hc hu (plainPL_all hp c (List.mem_of_getElem? hc))
 | _=>intro hp; simp [plainP] at hp
def flatB:TT→Bool
 | .i _ | .b | .s=>true
 | .p x y=>flatB x&&flatB y
 | _=>false
def Fm.plain:Fm→Bool
 | .v t=>flatB t
 | .agg cs=>cs.plain
 | .tup cs=>cs.plain
 | .no=>true
 | .co f r=>f.plain&&r.plain
 | _=>false
theorem plainPL_append:∀ (a b:List PV),plainPL (a++b)=(plainPL a&&plainPL b)
 | [],b=>by simp [plainPL]
 | p::r,b=>by simp [plainPL,plainPL_append r b,Bool.and_assoc]
theorem plain_cells (p:PV):plainPL p.cells=plainP p:=by cases p<;>simp [PV.cells,plainP,plainPL]
theorem plain_enc:∀ {t:TT} (v:t.den),flatB t=true→plainP (enc t v)=true
 | .i k,v,_=>by simp [enc,plainP]
 | .b,v,_=>by simp [enc,plainP]
 | .s,v,_=>by simp [enc,plainP]
 | .p x y,v,h=>by
  simp only [flatB,Bool.and_eq_true] at h
  simp only [enc,plainP,plainPL_append,plain_cells,plain_enc v.1 h.1,plain_enc v.2 h.2,Bool.and_self]
 | .sl t,v,h=>by cases h
 | .ar t,v,h=>by cases h
theorem plain_exp:∀ {f:Fm} (v:DT f.den),f.plain=true→f.fine=true→plainPL (toPVL (expF e0 f v))=true
 | .v t,v,h,hf=>by
  simp only [expF,toPVL,plainPL,Bool.and_true]
  rw [toPV_expand v (by simpa [Fm.fine] using hf)]; exact plain_enc v h
 | .agg cs,v,h,hf=>by
  have:=plain_exp (f:=cs) v h hf
  simpa [expF,toPVL,plainPL,XV.toPV,plainP] using this
 | .tup cs,v,h,hf=>by
  have:=plain_exp (f:=cs) v h hf
  simpa [expF,toPVL,plainPL,XV.toPV,plainP] using this
 | .no,v,_,_=>by simp [expF,toPVL,plainPL]
 | .co f r,v,h,hf=>by
  simp only [Fm.plain,Bool.and_eq_true] at h
  simp only [Fm.fine,Bool.and_eq_true] at hf
  simp only [expF,toPVL_append,plainPL_append,plain_exp _ h.1 hf.1,plain_exp _ h.2 hf.2,Bool.and_self]
theorem csem_borrow {f:Nat} {args args':List PV} {r:PV} {M:Nat} {h:Heap} {n:Nat} {Q:QP} (hp:VPure P f args' r) (hr:plainP r=true)
  (hargs:∀ E E':Env,CutOk ⟨List.range M,M,h,fun _=>none,fun _=>0⟩ e0 E E'→LI E E' args args') (hQ:Q r (toH M h) n):CSem P f args (toH M h) n Q:=by
 refine ⟨hp.2.2.1,fun C t a E vals I hv hrep=>?_⟩
 let S1:Nat→Prop:=fun x=>E.S x∨∃ (b s:Nat) (k:Blk) (en:Ent),At E (toH M h) b s k en∧en.tot≠0∧x=en.rb
 let E1:Env:=⟨E.w,fun x=>([]:List Ent)[x]?,S1⟩
 have hO:CutOk ⟨List.range M,M,h,fun _=>none,fun _=>0⟩ e0 E E1:=by
  refine ⟨fun x hx=>.inl hx,rfl,fun b s s' k en _ h=>(by cases h),fun b s k hb hk=>?_,fun b s h=>(by cases h),fun b s h=>(by cases h),fun b s h=>(by cases h),fun b s' s t l h=>(by cases h)⟩
  obtain ⟨_,h2⟩:=rd_spec hk
  obtain ⟨en,A,B,_⟩:=I.good.blk b s _ h2
  exact ⟨en,A.σ,B,fun h0=>.inr ⟨b,s,_,en,A,h0,rfl⟩⟩
 have hL:=hargs E E1 hO
 have noAt:∀ {b s:Nat} {k:Blk} {en:Ent},¬ At E1 (slots (([]:List Blk).map some) none) b s k en:=by
  intro b s k en A
  have:=A.σ
  simp [E1] at this
 have hst:∀ x,S1 x→x < E.w.heap.size:=by
  intro x hx
  rcases hx with hx | ⟨b,s,k,en,A,h0,rfl⟩
  ·exact I.good.stay x hx
  ·exact A.lt I.good h0
 refine (hp.2.2.2 E.w S1 [] vals rfl ?_ (by rw [hv,hL.len]) ?_).mono ?_
 ·refine { good:=⟨fun s _=>by simp,fun b s k hb=>?_,fun b b' s s' k k' en en' A=>absurd A noAt,hst⟩,since:=⟨rfl,rfl,rfl,Nat.le_refl _,fun _ _ _=>rfl,fun _ _ h=>h,fun _ h=>h,fun _ h=>.inl h,Nat.le_refl _⟩,touch:=fun b s k en A=>absurd A noAt,defers:=rfl,tsize:=rfl,tmps:=fun i p u hp=>by simp at hp }
  simp only [slots,List.map_nil,List.zipIdx_nil,List.nil_append,Option.map_none,List.length_nil] at hb
  cases b<;>simp at hb
 ·intro i p u hp' hu
  obtain ⟨q,hq,hI⟩:=hL.get i p hp'
  exact hI u (hrep i q u hq hu)
 ·rintro e W' ⟨v,r',L',N',σ',S',rfl,rfl,hLl,J,hR⟩
  have kept:∀ x,x < E.w.heap.size→W'.heap[x]?=E.w.heap[x]?:=fun x hx=>J.since.kept x hx fun ⟨i,en,hi,_⟩=>by simp at hi
  let E':Env:=⟨W',E.σ,E.S⟩
  have hle:E.le E':=⟨fun _ h=>h,fun x hx=>kept x (I.good.stay x hx),fun _ _ h=>h⟩
  refine ⟨v,r',toH M h,n,E',rfl,rfl,hQ,?_,rep_plain hR hr⟩
  refine I.step hle J.since.os J.since.tape J.since.output J.since.size (fun x hx=>.inl hx) (fun x hx _=>kept x hx) ⟨I.good.free,?_,?_,?_⟩ ?_ J.since.drawn
  ·intro b s k hb
   obtain ⟨en,A,B,S⟩:=I.good.blk b s k hb
   exact ⟨en,⟨hb,A.σ⟩,B.mono hle (fun h0=>kept _ (A.lt I.good h0)),S⟩
  ·intro b1 b2 s1 s2 k1 k2 en1 en2 A1 A2 q1 q2 he
   exact I.good.inj _ _ _ _ _ _ _ _ ⟨A1.slot,A1.σ⟩ ⟨A2.slot,A2.σ⟩ q1 q2 he
  ·intro x hx
   exact Nat.lt_of_lt_of_le (I.good.stay x hx) J.since.size
  ·intro b s k en A h0
   exact .inl ⟨b,s,k,en,⟨A.slot,A.σ⟩,h0,rfl⟩
def calP (x:PE) (args:List XV) (M:Nat) (h:Heap) (n:Nat) {R:Type} (K:KX R):Option R:=match closedXL args with
 | true=>(match cutF cE x.ins args with
  | some y=>gdL y.2 ((x.F y.1).bind fun y=>K (hdX (expF e0 x.outs y)) h n)
  | none=>none)
 | false=>(match x.outs.plain,cutF ⟨List.range M,M,h,fun _=>none,fun _=>0⟩ x.ins args with
  | true,some y=>gdL y.2 ((x.F y.1).bind fun y=>K (hdX (expF e0 x.outs y)) h n)
  | _,_=>none)
theorem calP_ok {x:PE} (hx:x.ok P) {args:List XV} {M:Nat} {h:Heap} {n:Nat} {R:Type} {K:KX R} {r:R} {Q:QP} (hk:calP x args M h n K=some r) (O:OkK true M K r Q):CSem P x.f (toPVL args) (toH M h) n Q:=by
 unfold calP at hk
 split at hk
 ·rename_i hc
  split at hk
  ·rename_i y hy
   obtain ⟨hg,hk⟩:=gdL_some hk
   rw [Option.bind_eq_some_iff] at hk
   obtain ⟨z,hz,hk⟩:=hk
   have hp:=(hx.h y.1 z hz).less (closedXL_ok hc) fun E=>cutF_spec (v:=y.1) (g:=y.2) (cE_ok E) hx.i2 hy hg
   exact csem_of_callK (s:=0) (.inl ⟨_,hp,O.ok hk⟩)
  ·cases hk
 ·split at hk
  ·rename_i y hpl hy
   obtain ⟨hg,hk⟩:=gdL_some hk
   rw [Option.bind_eq_some_iff] at hk
   obtain ⟨z,hz,hk⟩:=hk
   refine csem_borrow (hx.h y.1 z hz) ?_ (fun E E' hO=>cutF_spec (v:=y.1) (g:=y.2) hO hx.i2 hy hg) (O.ok hk)
   obtain ⟨w,hw⟩:=data_one hx.o1 hx.o3 e0 z
   have:=plain_exp z hpl hx.o2
   rw [hw] at this ⊢
   simpa [toPVL,plainPL,hdX] using this
  ·cases hk
def killS (o:Nat):Nat→Heap→Heap
 | 0,h=>h
 | k+1,h=>(o+k,none)::killS o k h
theorem killS_ok {C:Ctx} {t:List PV} {n:Nat} {a:Act} {E:Env} {M o:Nat}:∀ (k:Nat) {h:Heap},InvE C ⟨t,toH M h,n⟩ a E→InvE C ⟨t,toH M (killS o k h),n⟩ a E
 | 0,h,I=>I
 | k+1,h,I=>by
  have:=(killS_ok (o:=o) k I).kill (o+k)
  simp only [killS,toH_set,Option.map_none]
  exact this
def retX {R:Type} (x:FX) (M:Nat) (K:KX R) (st:XSt):Option R:=resK x.nt M st x.ts fun xs=>K (valX xs) st.h st.n
theorem retX_some (P:Program) {R:Type} {x:FX} {M:Nat} {K:KX R} {st:XSt} {r:R} (h:retX x M K st=some r):∃ xs,valsR (st.to x.nt M) x.ts=some (toPVL xs)∧K (valX xs) st.h st.n=some r:=resK_spec P h
theorem ldK_bind {R R':Type} (g:Bool) (m:Nat) (e:XV) (off:Nat) (F:XV→Option R) (G:R→Option R'):ldK g m e off (fun v=>(F v).bind G)=(ldK g m e off F).bind G:=by
 unfold ldK
 split
 ·rename_i t l
  cases g
  ·simp only
   split
   ·rw [Option.bind_assoc]
   ·rfl
  ·simp only
   split
   ·cases decide (l.length=m)<;>rfl
   ·rfl
 ·split<;>rfl
theorem xLoad_bind {R R':Type} (M:Nat) (g:Bool) (m:Nat) (a:XV) (h:Heap) (n:Nat) (F:XV→Option R) (G:R→Option R'):xLoad M g m a h n (fun v _ _=>(F v).bind G)=(xLoad M g m a h n (fun v _ _=>F v)).bind G:=by
 unfold xLoad
 repeat' split
 all_goals first | rfl | exact ldK_bind _ _ _ _ _ _ | (rw [Option.bind_assoc]; exact congrArg (Option.bind _) (funext fun v=>ldK_bind _ _ _ _ _ _))
theorem resK_bind {R R':Type} (N M:Nat) (st:XSt) (G:R→Option R'):∀ (ts:List RV) (F:List XV→Option R),resK N M st ts (fun xs=>(F xs).bind G)=(resK N M st ts F).bind G
 | [],F=>rfl
 | .t n::r,F=>by
  simp only [resK]
  exact resK_bind N M st G r _
 | .c n ty g m::r,F=>by
  simp only [resK]
  rw [← xLoad_bind]
  congr 1
  funext v _ _
  exact resK_bind N M st G r _
theorem retX_split {R:Type} {x:FX} {M:Nat} {K:KX R} {st:XSt} {r:R} (h:retX x M K st=some r):∃ xs,retX x M (fun v h n=>some (v,h,n)) st=some (valX xs,st.h,st.n)∧K (valX xs) st.h st.n=some r:=by
 unfold retX at h ⊢
 have e:(fun xs=>K (valX xs) st.h st.n)=fun xs=>Option.bind (some xs) fun xs=>K (valX xs) st.h st.n:=rfl
 rw [e,resK_bind,Option.bind_eq_some_iff] at h
 obtain ⟨xs,h1,h2⟩:=h
 refine ⟨xs,?_,h2⟩
 have e:(fun xs:List XV=>some (valX xs,st.h,st.n))=fun xs=>Option.bind (some xs) fun xs=>some (valX xs,st.h,st.n):=rfl
 rw [e,resK_bind,h1]
 rfl
def QR {R:Type} (x:FX) (M n:Nat) (K:KX R) (r:R):IExit→St→Prop:=fun z s=>(z=.normal∨z=.ret)∧∃ (st':XSt),WeakB n s (st'.to x.nt M)∧retX x M K st'=some r
theorem inl_of {f:Nat} {x:FX} (hx:x.ok P f) {o:Nat} {args:List XV} {M:Nat} {h:Heap} {n:Nat} {R:Type} {K:KX R} {r:R} {Q:QP} (hlen:args.length≤x.nt) (O:OkK true M K r Q)
  (hs:∀ c,cCode P (slotF x.al o) c=some (x.xc.ic o)→x.xc.ok=true→SemC P n c (QR x M n K r) ((⟨argsT 0 args,killS o x.m h,n⟩:XSt).to x.nt M)):CSem P f (toPVL args) (toH M h) n Q:=by
 obtain ⟨fn,c,hf,hb,hcl,hr,hrs,hnt,hic,hok⟩:=hx
 refine ⟨hcl,fun C t a E vals I0 hv hargs=>calls_of_wp hf hb ?_⟩
 have I:InvE C ⟨t,toH M (killS o x.m h),n⟩ a E:=killS_ok x.m I0
 let a0:Act:={ tmps:=vals++Array.replicate (fn.ntmps - vals.size) undef,defers:=[] }
 let H:=toH M (killS o x.m h)
 let C':Ctx:=⟨E.w,E.σ,fun r=>∃ (b s:Nat) (k:Blk) (en:Ent),At E H b s k en∧en.tot≠0∧en.rb=r,E.S⟩
 have hbase:Base n C':=fun s hs=>I.good.free s hs
 let st0:XSt:=⟨argsT 0 args,killS o x.m h,n⟩
 have I1:InvE C' (st0.to x.nt M) a0 E:=by
  refine { good:=I.good,since:=⟨rfl,rfl,rfl,Nat.le_refl _,fun _ _ _=>rfl,fun _ _ h=>h,fun _ h=>h,fun _ h=>.inl h,Nat.le_refl _⟩,touch:=fun b s k en A h0=>.inl ⟨b,s,k,en,A,h0,rfl⟩,defers:=rfl,tsize:=?_,tmps:=?_ }
  ·simp only [XSt.to,toT_len,a0]
   rw [Array.size_append,Array.size_replicate,hnt]
   rw [toPVL_map,List.length_map] at hv
   omega
  ·intro i p u hp hu
   have hi:i < x.nt:=by
    have:=(List.getElem?_eq_some_iff.1 hp).1
    simpa only [XSt.to,toT_len] using this
   simp only [XSt.to,toT,List.getElem?_map,List.getElem?_range hi,Option.map_some,Option.some.injEq,st0,argsT_lk] at hp
   subst hp
   simp only [Nat.zero_le,if_true,Nat.sub_zero]
   cases hx:args[i]? with
   | none=>exact .dead u
   | some z =>
    refine hargs i _ u ?_ ?_
    ·rw [toPVL_map,List.getElem?_map,hx]; rfl
    ·have hlt:i < vals.size:=by
      rw [hv,toPVL_map,List.length_map]; exact (List.getElem?_eq_some_iff.1 hx).1
     simp only [a0,Array.getElem?_append,if_pos hlt] at hu
     exact hu
 have hsem:=hs c (congrFun hic o) hok
 refine wp_mono (hsem C' a0 E hbase I1) ?_
 rintro z a1 w ⟨i,st1,E1,rfl,rfl,I2,hi',st',hw,hret⟩
 obtain ⟨xs,hxs,hkk⟩:=retX_some P hret
 obtain ⟨E2,e2,I3⟩:=hw C' a1 E1 hbase I2
 obtain ⟨u,hrun,hrep⟩:=run_resR I3 hr hrs (valX_spec hxs)
 have hS:∀ r,E.S r→E2.w.heap[r]?=E.w.heap[r]?:=fun r hr=>I3.since.kept r (I.good.stay r hr) fun ⟨b,s,k,en,A,h0,he⟩=>(A.brep I.good).2 h0 (he ▸ hr)
 have J:InvE C ⟨t,toH M st'.h,st'.n⟩ a E2:=I.step (E':=E2) ⟨I3.since.S1,hS,I3.since.σ⟩ I3.since.os I3.since.tape I3.since.output I3.since.size (fun r hr=>I3.since.S2 r hr) (fun r hr hn=>I3.since.kept r hr fun ⟨b,s,k,en,A,h0,he⟩=>hn b s k en A h0 he) I3.good I3.touch I3.since.drawn
 have post:a1.defers=[]∧∃ v,(results fn a1.tmps).run P E1.w=.ok v E1.w∧∃ v' r h' n' E',Ending.returned v=.returned v'∧E'.w=E1.w∧Q r h' n'∧InvE C ⟨t,h',n'⟩ a E'∧Rep E' r v' :=
  ⟨I3.defers,u,by rw [← e2]; exact hrun,u,_,_,_,E2,rfl,e2,O.ok hkk,J,hrep⟩
 rcases hi' with rfl | rfl
 ·exact post
 ·exact post
noncomputable def inlX (cal:Cal) (pur:Pur) (x:FX) (o:Nat) (p:Option Pl) (args:List XV) (M:Nat) (wp:List Nat) (h:Heap) (n:Nat) {R:Type} (K:KX R):Option R:=match ((List.range x.m).all fun i=>inB' wp (o+i))&&(x.xc.sets (List.range x.nt)&&(Nat.ble (o+x.m) M&&Nat.ble args.length x.nt)) with
 | true=>(match p with
  | none=>runX x.xc ⟨cal,pur,n,x.nt,M,o,wp⟩ R ⟨argsT 0 args,killS o x.m h,n⟩ fun z st=>(match z with
   | .exit _=>none
   | _=>retX x M K st)
  | some p=>(match plB ⟨cal,pur,n,x.nt,M,o,wp⟩ p ⟨argsT 0 args,killS o x.m h,n⟩&&(p.tsub&&x.xc.sets p.ds) with
   | true=>(runX x.xc ⟨cal,pur,n,x.nt,M,o,p.ws⟩ p.sh.den ⟨argsT 0 args,killS o x.m h,n⟩ fun z st=>(match z with
    | .exit _=>none
    | _=>cutS (killS o x.m h) n M p.ws p.sh st fun v=>some v)).bind fun v=>retX x M K (expS n M p.ds p.ws ⟨argsT 0 args,killS o x.m h,n⟩ p.sh v)
   | false=>none))
 | false=>none
theorem killS_stay {M o:Nat} {wp:List Nat}:∀ (k:Nat) {h:Heap},(∀ i,i < k→(o+i) ∈ wp)→StayX M wp h (killS o k h)
 | 0,h,_=>StayX.refl _ _ _
 | k+1,h,hk=>by
  have:=killS_stay (M:=M) k (h:=h) (fun i hi=>hk i (by omega))
  exact this.trans (StayX.cons (hk k (by omega)) _ _)
theorem retX_congr {R:Type} {x:FX} {M:Nat} {K K':KX R} {st:XSt} (h:∀ v,K v st.h st.n=K' v st.h st.n):retX x M K st=retX x M K' st:=by
 unfold retX
 have:(fun xs=>K (valX xs) st.h st.n)=fun xs=>K' (valX xs) st.h st.n:=funext fun xs=>h _
 rw [this]
theorem inlX_fr {cal:Cal} (hfr:CalFr cal) {pur:Pur} {x:FX} {o:Nat} {p:Option Pl} {args:List XV} {M:Nat} {wp:List Nat} {h:Heap} {n:Nat} {R:Type} {K K':KX R} (hK:∀ v h' n',StayX M wp h h'→K v h' n'=K' v h' n'):inlX cal pur x o p args M wp h n K=inlX cal pur x o p args M wp h n K':=by
 unfold inlX
 split
 ·rename_i hb
  simp only [Bool.and_eq_true] at hb
  have hw:StayX M wp h (killS o x.m h):=killS_stay x.m fun i hi=>inB'_true (List.all_eq_true.1 hb.1 i (List.mem_range.2 hi))
  split
  ·refine runX_congr (N:=x.nt) (M:=M) (ds:=List.range x.nt) x.xc ⟨cal,pur,n,x.nt,M,o,wp⟩ _ _ _ _ rfl rfl hfr hb.2.1 fun z st' hs=>?_
   have hs:StayX M wp h st'.h:=hw.trans hs.h
   cases z with
   | exit i=>rfl
   | normal=>exact retX_congr fun v=>hK _ _ _ hs
   | ret=>exact retX_congr fun v=>hK _ _ _ hs
  ·rename_i p
   split
   ·rename_i hp
    simp only [Pl.tsub,Bool.and_eq_true] at hp
    obtain ⟨h1,h2,h3,h4,h5,h6⟩:=plB_ok hp.1
    congr 1
    funext v
    refine retX_congr fun v'=>hK _ _ _ ?_
    exact hw.trans ((expS_fro (N:=x.nt) (M:=M) (f:=⟨argsT 0 args,killS o x.m h,n⟩) (fun x hx=>hx) (sets_mem2 hp.2.1.2) h3).mono (fun x hx=>hx) h1).h
   ·rfl
 ·rfl
theorem inlX_ok (hm:P.follows .mixedOrders=true) {cal:Cal} {pur:Pur} (hcal:CalOk P cal) (hfr:CalFr cal) (hpur:PurOk P pur) {f:Nat} {x:FX} (hx:x.ok P f) {o:Nat} {p:Option Pl} {args:List XV} {M:Nat} {wp:List Nat} {h:Heap} {n:Nat} {R:Type} {K:KX R} {r:R} {Q:QP} (hk:inlX cal pur x o p args M wp h n K=some r) (O:OkK true M K r Q):CSem P f (toPVL args) (toH M h) n Q:=by
 unfold inlX at hk
 split at hk
 case h_2=>cases hk
 rename_i hbb
 simp only [Bool.and_eq_true] at hbb
 have hlen:args.length≤x.nt:=Nat.le_of_ble_eq_true hbb.2.2.2
 refine inl_of hx (o:=o) hlen O fun c hc hok=>?_
 split at hk
 ·refine runX_ok hm x.xc ⟨cal,pur,n,x.nt,M,o,wp⟩ hcal hfr hpur c _ ⟨argsT 0 args,killS o x.m h,n⟩ _ r (QR x M n K r) hok hc ?_ hk ?_
  ·rintro z s s' hs ⟨h1,st',h2,h3⟩
   exact ⟨h1,st',hs.trans h2,h3⟩
  ·intro z st' hz
   cases z with
   | normal=>exact ⟨.inl rfl,st',WeakB.refl _ _,hz⟩
   | ret=>exact ⟨.inr rfl,st',WeakB.refl _ _,hz⟩
   | exit i=>cases hz
 ·rename_i p
  split at hk
  case h_2=>cases hk
  rename_i hp
  simp only [Pl.tsub,Bool.and_eq_true] at hp
  obtain ⟨hp1,⟨hp2,hp3⟩,hp4⟩:=hp
  have hsub:=sets_mem2 hp3
  rw [Option.bind_eq_some_iff] at hk
  obtain ⟨v,hv,hk⟩:=hk
  classical
  let st0:XSt:=⟨argsT 0 args,killS o x.m h,n⟩
  let K0:XK p.sh.den:=fun z st=>(match z with | .exit _=>none | _=>cutS (killS o x.m h) n M p.ws p.sh st fun v=>some v)
  let K1:XK p.sh.den:=fun z st'=>if Fro x.nt M p.ds p.ws st0 st' then K0 z st' else none
  have hx1:runX x.xc ⟨cal,pur,n,x.nt,M,o,p.ws⟩ p.sh.den st0 K1=some v:=by
   rw [← hv]
   refine runX_congr (N:=x.nt) (M:=M) (ds:=p.ds) x.xc ⟨cal,pur,n,x.nt,M,o,p.ws⟩ _ st0 K1 _ rfl rfl hfr hp4 fun z st' hs=>?_
   have hs:Fro x.nt M p.ds p.ws st0 st':=hs
   simp only [K1]
   rw [if_pos hs]
  refine runX_ok hm x.xc ⟨cal,pur,n,x.nt,M,o,p.ws⟩ hcal hfr hpur c _ st0 _ v (QR x M n K r) hok hc ?_ hx1 ?_
  ·rintro z s s' hs ⟨h1,st',h2,h3⟩
   exact ⟨h1,st',hs.trans h2,h3⟩
  ·intro z st' hz
   simp only [K1] at hz
   split at hz
   case isFalse=>cases hz
   rename_i hs
   have key:(z=.normal∨z=.ret)→cutS (killS o x.m h) n M p.ws p.sh st' (fun v=>some v)=some v→QR x M n K r z (st'.to x.nt M):=by
    intro hz1 hz
    obtain ⟨v',hv',hw'⟩:=cut_place (e:=⟨cal,pur,n,x.nt,M,o,wp⟩) hp1 hp2 (.inl rfl) hs hsub hz
    obtain rfl:=Option.some.inj hv'
    exact ⟨hz1,_,hw',hk⟩
   cases z with
   | normal=>exact key (.inl rfl) hz
   | ret=>exact key (.inr rfl) hz
   | exit i=>cases hz
structure IN where
 s:Nat
 f:Nat
 o:Nat
 x:FX
 p:Option Pl
def findIN:List IN→Nat→Nat→Option IN
 | [],_,_=>none
 | x::r,s,f=>match Nat.beq x.s s with
  | true=>(match Nat.beq x.f f with | true=>some x | false=>findIN r s f)
  | false=>findIN r s f
def INsOk (P:Program):List IN→Prop
 | []=>True
 | x::r=>x.x.ok P x.f∧INsOk P r
theorem findIN_ok:∀ {l:List IN} {s f:Nat} {x:IN},INsOk P l→findIN l s f=some x→x.x.ok P f
 | [],s,f,x,_,h=>by cases h
 | y::r,s,f,x,hl,h=>by
  simp only [findIN] at h
  split at h
  ·split at h
   ·rename_i hb; cases h; rw [← Nat.eq_of_beq_eq_true hb]; exact hl.1
   ·exact findIN_ok hl.2 h
  ·exact findIN_ok hl.2 h
def cal0 (tab:List PE) (ext:List EX):Cal:=fun f args M wp h n s R K=>(match findEX ext f with | some x=>calE x args M wp h n s K | none=>(match findPE tab f with | some x=>calP x args M h n K | none=>none))
theorem calP_fr {x:PE} {args:List XV} {M:Nat} {h:Heap} {n:Nat} {R:Type} {K K':KX R} (hK:∀ v,K v h n=K' v h n):calP x args M h n K=calP x args M h n K':=by
 unfold calP
 simp only [hK]
theorem cal0_fr (tab:List PE) (ext:List EX):CalFr (cal0 tab ext):=by
 intro f args M wp h n s R K K' hK
 unfold cal0
 split
 ·exact calE_fr hK
 split
 ·exact calP_fr fun v=>hK v h n (StayX.refl _ _ _)
 ·rfl
theorem cal0_ok (hm:P.follows .mixedOrders=true) {tab:List PE} (ht:PEsOk P tab) {ext:List EX} (he:EXsOk P ext):CalOk P (cal0 tab ext):=by
 intro f args M wp h n s R K r Q hk O
 unfold cal0 at hk
 split at hk
 ·rename_i x hx
  obtain ⟨hok,rfl⟩:=findEX_ok he hx
  exact calE_ok hm hok hk O
 split at hk
 ·rename_i x hx
  obtain ⟨hok,rfl⟩:=findPE_ok ht hx
  exact calP_ok hok hk O
 ·cases hk
noncomputable def calS (tab:List PE) (ext:List EX) (inl:List IN) (cal:Cal) (pur:Pur):Cal:=fun f args M wp h n s R K=>(match findEX ext f with
 | some x=>calE x args M wp h n s K
 | none=>(match findPE tab f,findIN inl s f with
  | _,some x=>inlX cal pur x.x x.o x.p args M wp h n K
  | some x,none=>calP x args M h n K
  | none,none=>none))
theorem calS_fr {tab:List PE} {ext:List EX} {inl:List IN} {cal:Cal} {pur:Pur} (hc:CalFr cal):CalFr (calS tab ext inl cal pur):=by
 intro f args M wp h n s R K K' hK
 unfold calS
 split
 ·exact calE_fr hK
 split
 ·exact inlX_fr hc hK
 ·exact calP_fr fun v=>hK v h n (StayX.refl _ _ _)
 ·rfl
def frA {R:Type} (M:Nat) (ws:List Nat):List XV→Heap→(List XV→Heap→Option R)→Option R
 | [],h,K=>K [] h
 | x::r,h,K=>(match x with
  | .own b s _ off len _=>(match inB' ws b,rd M h b s with
   | true,some (.rows t l)=>cond (decide (off+len≤l.length)) (frA M ws r ((b,none)::h) fun a h'=>K (.tl t ((l.drop off).take len)::a) h') none
   | _,_=>none)
  | x=>frA M ws r h fun a h'=>K (x::a) h')
theorem frA_ok {R:Type} {M:Nat} {ws:List Nat}:∀ {args:List XV} {h:Heap} {K:List XV→Heap→Option R} {r:R},frA M ws args h K=some r →
  ∃ (a:List XV) (h':Heap),K a h'=some r∧StayX M ws h h'∧a.length=args.length∧∀ (n:Nat) (C:Ctx) (t:List PV) (ac:Act) (E:Env),InvE C ⟨t,toH M h,n⟩ ac E→∃ E',E'.w=E.w∧InvE C ⟨t,toH M h',n⟩ ac E'∧E.le E'∧∀ (i:Nat) (p q:XV) (u:Value),args[i]?=some p→a[i]?=some q→Rep E p.toPV u→Rep E' q.toPV u
 | [],h,K,r,hk=>⟨[],h,hk,StayX.refl _ _ _,rfl,fun n C t ac E I=>⟨E,rfl,I,Env.le.refl E,fun i p q u hp=>by simp at hp⟩⟩
 | x::l,h,K,r,hk=>by
  have other:(frA M ws l h fun a h'=>K (x::a) h')=some r→∃ (a:List XV) (h':Heap),K a h'=some r∧StayX M ws h h'∧a.length=(x::l).length∧∀ (n:Nat) (C:Ctx) (t:List PV) (ac:Act) (E:Env),InvE C ⟨t,toH M h,n⟩ ac E→∃ E',E'.w=E.w∧InvE C ⟨t,toH M h',n⟩ ac E'∧E.le E'∧∀ (i:Nat) (p q:XV) (u:Value),(x::l)[i]?=some p→a[i]?=some q→Rep E p.toPV u→Rep E' q.toPV u:=by
   intro hk
   obtain ⟨a,h',h1,h2,h3,h4⟩:=frA_ok hk
   refine ⟨x::a,h',h1,h2,by simp [h3],fun n C t ac E I=>?_⟩
   obtain ⟨E',e1,e2,e3,e4⟩:=h4 n C t ac E I
   refine ⟨E',e1,e2,e3,fun i p q u hp hq hr=>?_⟩
   cases i with
   | zero=>simp only [List.getElem?_cons_zero,Option.some.injEq] at hp hq; subst hp hq; exact hr.mono e3
   | succ i=>simp only [List.getElem?_cons_succ] at hp hq; exact e4 i p q u hp hq hr
  unfold frA at hk
  split at hk
  ·rename_i b s sz off len cap
   split at hk
   ·rename_i t0 l0 hb hr
    obtain ⟨hg,hk⟩:=guard_some hk
    simp only [decide_eq_true_eq] at hg
    obtain ⟨hbM,hr⟩:=rd_spec hr
    obtain ⟨a,h',h1,h2,h3,h4⟩:=frA_ok hk
    refine ⟨_,h',h1,(StayX.cons (inB'_true hb) none h).trans h2,by simp [h3],fun n C t ac E I=>?_⟩
    obtain ⟨E1,w1,I1,le1,R1⟩:=frzE hr I
    have I1:InvE C ⟨t,toH M ((b,none)::h),n⟩ ac E1:=by rw [toH_set]; exact I1
    obtain ⟨E',e1,e2,e3,e4⟩:=h4 n C t ac E1 I1
    refine ⟨E',e1.trans w1,e2,le1.trans e3,fun i p q u hp hq hrep=>?_⟩
    cases i with
    | zero =>
     simp only [List.getElem?_cons_zero,Option.some.injEq] at hp hq
     subst hp hq
     have:=R1 sz off len cap u (by simpa using hg) hrep
     simp only [XV.toPV,List.map_take,List.map_drop]
     exact this.mono e3
    | succ i=>simp only [List.getElem?_cons_succ] at hp hq; exact e4 i p q u hp hq (hrep.mono le1)
   ·cases hk
  ·exact other hk
def calZ (x:PE) (args:List XV) (M:Nat) (ws:List Nat) (h:Heap) (n:Nat) {R:Type} (K:KX R):Option R:=frA M ws args h fun a h'=>(match closedXL a,cutF cE x.ins a with
 | true,some y=>gdL y.2 ((x.F y.1).bind fun y=>K (hdX (expF e0 x.outs y)) h' n)
 | _,_=>none)
theorem calZ_ok {x:PE} (hx:x.ok P) {args:List XV} {M:Nat} {ws:List Nat} {h:Heap} {n:Nat} {R:Type} {K:KX R} {r:R} (hk:calZ x args M ws h n K=some r) :
  ∃ (v:XV) (h':Heap) (n':Nat),K v h' n'=some r∧GCall P x.f (toPVL args) (toH M h) n v.toPV (toH M h') n'∧StayX M ws h h':=by
 unfold calZ at hk
 obtain ⟨a,h',hk,hS,hl,hE⟩:=frA_ok hk
 split at hk
 ·rename_i y hc hy
  obtain ⟨hg,hk⟩:=gdL_some hk
  rw [Option.bind_eq_some_iff] at hk
  obtain ⟨z,hz,hk⟩:=hk
  have hp:=(hx.h y.1 z hz).less (closedXL_ok hc) fun E=>cutF_spec (v:=y.1) (g:=y.2) (cE_ok E) hx.i2 hy hg
  have hG:=gcall_of_pure hp (toH M h') n
  refine ⟨_,_,_,hk,⟨hG.1,fun C t ac E vals I hv hr=>?_⟩,hS⟩
  obtain ⟨E1,w1,I1,le1,R1⟩:=hE n C t ac E I
  have hla:(toPVL a).length=(toPVL args).length:=by rw [toPVL_len,toPVL_len,hl]
  have:=hG.2 C t ac E1 vals I1 (by rw [hv,hla]) (fun i p u hp hu=>by
   rw [toPVL_map,List.getElem?_map] at hp
   simp only [Option.map_eq_some_iff] at hp
   obtain ⟨q,hq,rfl⟩:=hp
   have hi:i < args.length:=by rw [← hl]; exact (List.getElem?_eq_some_iff.1 hq).1
   exact R1 i args[i] q u (List.getElem?_eq_getElem hi) hq (hr i _ u (by rw [toPVL_map,List.getElem?_map,List.getElem?_eq_getElem hi]; rfl) hu))
  rw [w1] at this
  exact this
 ·cases hk
theorem frA_fr {R:Type} {M:Nat} {ws:List Nat}:∀ {args:List XV} {h:Heap} {K K':List XV→Heap→Option R},(∀ a h',StayX M ws h h'→K a h'=K' a h')→frA M ws args h K=frA M ws args h K'
 | [],h,K,K',hK=>hK [] h (StayX.refl _ _ _)
 | x::l,h,K,K',hK=>by
  unfold frA
  split
  ·split
   ·rename_i hb _
    rw [frA_fr fun a h' hs=>hK _ _ ((StayX.cons (inB'_true hb) none h).trans hs)]
   ·rfl
  ·exact frA_fr fun a h' hs=>hK _ _ hs
theorem calZ_fr {x:PE} {args:List XV} {M:Nat} {ws:List Nat} {h:Heap} {n:Nat} {R:Type} {K K':KX R} (hK:∀ v h' n',StayX M ws h h'→K v h' n'=K' v h' n'):calZ x args M ws h n K=calZ x args M ws h n K':=by
 unfold calZ
 refine frA_fr fun a h' hs=>?_
 split
 ·congr 1
  congr 1
  funext y
  exact hK _ _ _ hs
 ·rfl
noncomputable def galS (tab:List PE) (ext:List EX) (inl:List IN) (cal:Cal) (pur:Pur) (f:Nat) (args:List XV) (M:Nat) (ws:List Nat) (h:Heap) (n s:Nat) (R:Type) (K:KX R):Option R:=match findEX ext f with
 | some x=>calE x args M ws h n s K
 | none=>(match findIN inl s f with
  | some x=>(match x.p with
   | some p=>inlX cal pur x.x x.o (some p) args M ws h n K
   | none=>none)
  | none=>(match findPE tab f with | some x=>calZ x args M ws h n K | none=>none))
theorem galS_fr {tab:List PE} {ext:List EX} {inl:List IN} {cal:Cal} {pur:Pur} (hc:CalFr cal) (f:Nat) (args:List XV) (M:Nat) (ws:List Nat) (h:Heap) (n s:Nat) (R:Type) (K K':KX R) (hK:∀ v h' n',StayX M ws h h'→K v h' n'=K' v h' n'):galS tab ext inl cal pur f args M ws h n s R K=galS tab ext inl cal pur f args M ws h n s R K':=by
 unfold galS
 split
 ·exact calE_fr hK
 split
 ·split
  ·exact inlX_fr hc hK
  ·rfl
 ·split
  ·exact calZ_fr hK
  ·rfl
noncomputable def envT (tab:List PE) (ext:List EX) (inl:List IN):Nat→{ x:Cal×Pur // CalFr x.1 }
 | 0=>⟨(cal0 tab ext,⟨purT tab,galE ext,galE_fr⟩),cal0_fr tab ext⟩
 | d+1=>⟨(calS tab ext inl (envT tab ext inl d).1.1 (envT tab ext inl d).1.2,⟨purT tab,galS tab ext inl (envT tab ext inl d).1.1 (envT tab ext inl d).1.2,galS_fr (envT tab ext inl d).2⟩),calS_fr (envT tab ext inl d).2⟩
theorem galS_ok (hm:P.follows .mixedOrders=true) {tab:List PE} (ht:PEsOk P tab) {ext:List EX} (he:EXsOk P ext) {inl:List IN} (hf:INsOk P inl) {cal:Cal} {pur:Pur} (hcal:CalOk P cal) (hfr:CalFr cal) (hpur:PurOk P pur) {f:Nat} {args:List XV} {M:Nat} {ws:List Nat} {h:Heap} {n s:Nat} {R:Type} {K:KX R} {r:R} (hk:galS tab ext inl cal pur f args M ws h n s R K=some r) :
  ∃ (v:XV) (h':Heap) (n':Nat),K v h' n'=some r∧GCall P f (toPVL args) (toH M h) n v.toPV (toH M h') n'∧StayX M ws h h':=by
 unfold galS at hk
 split at hk
 ·rename_i x hx
  obtain ⟨hok,rfl⟩:=findEX_ok he hx
  exact galE1_ok hm hok hk
 split at hk
 case h_2 =>
  split at hk
  ·rename_i x hx
   obtain ⟨hok,rfl⟩:=findPE_ok ht hx
   exact calZ_ok hok hk
  ·cases hk
 rename_i x hx
 split at hk
 case h_2=>cases hk
 rename_i p hp
 have hxo:=findIN_ok hf hx
 have hk0:=hk
 unfold inlX at hk
 split at hk
 case h_2=>cases hk
 rename_i hbb
 simp only at hk
 split at hk
 case h_2=>cases hk
 rename_i hpp
 rw [Option.bind_eq_some_iff] at hk
 obtain ⟨v,hv,hk⟩:=hk
 obtain ⟨xs,hxs,hkk⟩:=retX_split hk
 refine ⟨_,_,_,hkk,?_,?_⟩
 ·refine gcall_of_csem ?_
  let K0:KX (XV×Heap×Nat):=fun v h n=>some (v,h,n)
  have hk1:inlX cal pur x.x x.o (some p) args M ws h n K0=some (valX xs,(expS n M p.ds p.ws ⟨argsT 0 args,killS x.o x.x.m h,n⟩ p.sh v).h,(expS n M p.ds p.ws ⟨argsT 0 args,killS x.o x.x.m h,n⟩ p.sh v).n):=by
   unfold inlX
   rw [hbb]
   simp only
   rw [hpp]
   simp only
   rw [Option.bind_eq_some_iff]
   refine ⟨v,hv,?_⟩
   exact hxs
  refine inlX_ok hm hcal hfr hpur hxo hk1 ⟨fun {v' h' n'} hh=>?_,fun _ p' h1 n1 p2 h2 n2 hle hq=>hle.trans hq⟩
  simp only [K0,Option.some.injEq,Prod.mk.injEq] at hh
  obtain ⟨rfl,rfl,rfl⟩:=hh
  exact PLe.refl _ _ _
 ·simp only [Bool.and_eq_true] at hbb
  simp only [Pl.tsub,Bool.and_eq_true] at hpp
  obtain ⟨h1,h2,h3,h4,h5,h6⟩:=plB_ok hpp.1
  have hw:StayX M ws h (killS x.o x.x.m h):=killS_stay x.x.m fun i hi=>inB'_true (List.all_eq_true.1 hbb.1 i (List.mem_range.2 hi))
  exact hw.trans ((expS_fro (N:=x.x.nt) (M:=M) (f:=⟨argsT 0 args,killS x.o x.x.m h,n⟩) (fun x hx=>hx) (sets_mem2 hpp.2.1.2) h3).mono (fun x hx=>hx) h1).h
theorem envT_ok (hm:P.follows .mixedOrders=true) {tab:List PE} (ht:PEsOk P tab) {ext:List EX} (he:EXsOk P ext) {inl:List IN} (hf:INsOk P inl):∀ d,CalOk P (envT tab ext inl d).1.1∧PurOk P (envT tab ext inl d).1.2
 | 0=>⟨cal0_ok hm ht he,⟨fun f args R K r h=>purT_ok ht h,fun f args M ws h n s R K r hk=>galE_ok hm he hk⟩⟩
 | d+1=>by
  obtain ⟨ih1,ih2⟩:=envT_ok hm ht he hf d
  refine ⟨fun f args M wp h n s R K r Q hk O=>?_,⟨fun f args R K r h=>purT_ok ht h,fun f args M ws h n s R K r hk=>galS_ok hm ht he hf ih1 (envT tab ext inl d).2 ih2 hk⟩⟩
  change calS tab ext inl (envT tab ext inl d).1.1 (envT tab ext inl d).1.2 f args M wp h n s R K=some r at hk
  unfold calS at hk
  split at hk
  ·rename_i x hx
   obtain ⟨hok,rfl⟩:=findEX_ok he hx
   exact calE_ok hm hok hk O
  split at hk
  ·rename_i x hx
   exact inlX_ok hm ih1 (envT tab ext inl d).2 ih2 (findIN_ok hf hx) hk O
  ·rename_i x hx1 hx2
   obtain ⟨hok,he⟩:=findPE_ok ht hx1
   subst he
   exact calP_ok hok hk O
  ·cases hk
noncomputable def pureT (tab:List PE) (ext:List EX) (inl:List IN) (d:Nat) (x:FX) (ins outs:Fm) (fz:List Nat) (v:DT ins.den):Option (DT outs.den):=pureX (envT tab ext inl d).1.1 (envT tab ext inl d).1.2 x ins outs fz v
def insB (x:FX) (ins outs:Fm):Bool:=ins.data&&(ins.fine&&(outs.data&&(outs.fine&&(rowOk outs&&Nat.ble (lenF ins) x.nt))))
theorem pe_of (hm:P.follows .mixedOrders=true) {tab:List PE} (ht:PEsOk P tab) {ext:List EX} (he:EXsOk P ext) {inl:List IN} (hf:INsOk P inl) {d f:Nat} {x:FX} (hx:x.ok P f) {ins outs:Fm} (hb:insB x ins outs=true) {fz:List Nat} {F:DT ins.den→Option (DT outs.den)} (hF:∀ v,pureT tab ext inl d x ins outs fz v=F v):PE.ok P ⟨f,ins,outs,F⟩:=by
 simp only [insB,Bool.and_eq_true] at hb
 obtain ⟨h1,h2,h3,h4,h5,h6⟩:=hb
 refine ⟨h1,h2,h3,h4,h5,fun v y h=>?_⟩
 have h:F v=some y:=h
 rw [← hF v] at h
 exact vpure_of hm (envT_ok hm ht he hf d).1 (envT tab ext inl d).2 (envT_ok hm ht he hf d).2 hx h1 h2 h3 h4 h5 (Nat.le_of_ble_eq_true h6) h
end Go.Proofs.Yticljphbbdnomaa.VL
