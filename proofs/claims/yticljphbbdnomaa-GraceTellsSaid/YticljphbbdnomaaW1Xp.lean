import Derived.Test.YticljphbbdnomaaW1Xo
namespace Go.Proofs.Yticljphbbdnomaa.VL
open Go
set_option linter.unusedVariables false
set_option linter.unusedSimpArgs false
set_option linter.unusedSectionVars false
variable [Val]
variable {P:Program}
structure FX where
 xc:XC
 al:List Nat
 nt:Nat
 ts:List RV
 m:Nat
def FX.ok (P:Program) (f:Nat) (x:FX):Prop:=∃ fn c,P.funcs[f]?=some fn∧fn.body=some c∧callable P f=true∧fn.results=(x.ts.map RV.to).toArray∧x.ts.all (RV.okB P)=true∧fn.ntmps=x.nt∧((fun o=>cCode P (slotF x.al o) c)=fun o=>some (x.xc.ic o))∧x.xc.ok=true
def resK {R:Type} (N M:Nat) (st:XSt):List RV→(List XV→Option R)→Option R
 | [],K=>K []
 | .t n::r,K=>resK N M st r fun xs=>K (evX N st.t (.t n)::xs)
 | .c n ty g m::r,K=>xLoad M g m (evX N st.t (.t n)) st.h st.n (fun v _ _=>resK N M st r fun xs=>K (v::xs))
def valX:List XV→XV
 | [x]=>x
 | xs=>.tup xs
theorem resK_spec (P:Program) {R:Type} {N M:Nat} {st:XSt} {y:R}:∀ {ts:List RV} {K:List XV→Option R},resK N M st ts K=some y→∃ xs,valsR (st.to N M) ts=some (toPVL xs)∧K xs=some y
 | [],K,h=>⟨[],rfl,h⟩
 | .t n::r,K,h=>by
  simp only [resK] at h
  obtain ⟨ys,h1,h2⟩:=resK_spec P h
  refine ⟨_,?_,h2⟩
  simp only [valsR,valR,h1,toPVL]
  rw [← evX_eq N M st]
 | .c n ty g m::r,K,h=>by
  simp only [resK] at h
  have hs:=load_snd (w:=false) (M:=M) (ρ:=evX N st.t) (h:=st.h) (n:=st.n) (g:=g) (m:=m) (a:=.t n) (fun v _ _=>resK N M st r fun xs=>K (v::xs)) y (fun p _ _=>∃ v:XV,p=v.toPV∧resK N M st r (fun xs=>K (v::xs))=some y) h ⟨fun hk=>⟨_,rfl,hk⟩,fun h=>by cases h⟩
  rw [evX_eq N M st] at hs
  obtain ⟨p,h1,v,rfl,hk⟩:=peek_of (P:=P) (n:=st.n) (op:=.load g m (.t n)) (K:=fun p _ _=>∃ v:XV,p=v.toPV∧resK N M st r (fun xs=>K (v::xs))=some y) rfl hs
  obtain ⟨ys,h3,h4⟩:=resK_spec P hk
  refine ⟨_,?_,h4⟩
  have h1:peekOp (st.to N M).ev (st.to N M).h (.load g m (.t n))=some v.toPV:=h1
  simp only [valsR,valR,h3,toPVL]
  rw [h1]
theorem valX_spec {N M:Nat} {st:XSt} {ts:List RV} {xs:List XV} (h:valsR (st.to N M) ts=some (toPVL xs)):resR (st.to N M) ts=some (valX xs).toPV:=by
 unfold resR
 rw [h]
 match xs with
 | []=>simp [toPVL,valX,XV.toPV]
 | [x]=>simp [toPVL,valX]
 | x::y::r=>simp [toPVL,valX,XV.toPV]
def argsT:Nat→List XV→List (Nat×XV)
 | _,[]=>[]
 | i,x::r=>(i,x)::argsT (i+1) r
theorem argsT_lk:∀ (l:List XV) (k i:Nat),lk (argsT k l) i=if k≤i then l[i - k]? else none
 | [],k,i=>by simp [argsT,lk]
 | x::r,k,i=>by
  simp only [argsT,lk_cons,argsT_lk r (k+1) i]
  by_cases h1:k=i
  ·subst h1; simp
  ·rw [if_neg h1]
   by_cases h2:k+1≤i
   ·rw [if_pos h2,if_pos (by omega)]
    have:i - k=(i - (k+1))+1:=by omega
    rw [this]; rfl
   ·rw [if_neg h2,if_neg (by omega)]
def Fm.data:Fm→Bool
 | .v _=>true
 | .agg cs=>cs.data
 | .tup cs=>cs.data
 | .nil=>true
 | .no=>true
 | .co f r=>f.data&&r.data
 | _=>false
def e0:XEnv:=⟨fun _=>0,fun _=>0⟩
theorem data_closed:∀ {f:Fm} (v:DT f.den),f.data=true→f.fine=true→closedL (toPVL (expF e0 f v))=true
 | .v t,v,_,hf=>by
  simp only [expF,toPVL,closedL,Bool.and_true]
  rw [toPV_expand v (by simpa [Fm.fine] using hf)]; exact closed_enc v
 | .agg cs,v,h,hf=>by
  have:=data_closed (f:=cs) v h hf
  simpa [expF,toPVL,closedL,XV.toPV,closed] using this
 | .tup cs,v,h,hf=>by
  have:=data_closed (f:=cs) v h hf
  simpa [expF,toPVL,closedL,XV.toPV,closed] using this
 | .nil,v,_,_=>by simp [expF,toPVL,closedL,XV.toPV,closed]
 | .no,v,_,_=>by simp [expF,toPVL,closedL]
 | .co f r,v,h,hf=>by
  simp only [Fm.data,Bool.and_eq_true] at h
  simp only [Fm.fine,Bool.and_eq_true] at hf
  simp only [expF,toPVL_append,closedL_append,data_closed _ h.1 hf.1,data_closed _ h.2 hf.2,Bool.and_self]
theorem data_one:∀ {f:Fm},f.data=true→rowOk f=true→∀ (e:XEnv) (v:DT f.den),∃ x,expF e f v=[x]
 | .v t,_,_,e,v=>⟨_,rfl⟩
 | .agg cs,_,_,e,v=>⟨_,rfl⟩
 | .tup cs,_,_,e,v=>⟨_,rfl⟩
 | .nil,_,_,e,v=>⟨_,rfl⟩
theorem data_env:∀ {f:Fm},f.data=true→∀ (e e':XEnv) (v:DT f.den),expF e f v=expF e' f v
 | .v t,_,e,e',v=>rfl
 | .agg cs,h,e,e',v=>by simp only [expF]; rw [data_env (f:=cs) h e e' v]
 | .tup cs,h,e,e',v=>by simp only [expF]; rw [data_env (f:=cs) h e e' v]
 | .nil,_,e,e',v=>rfl
 | .no,_,e,e',v=>rfl
 | .co f r,h,e,e',v=>by
  simp only [Fm.data,Bool.and_eq_true] at h
  simp only [expF]
  rw [data_env h.1 e e' _,data_env h.2 e e' _]
def lenF:Fm→Nat
 | .no=>0
 | .co f r=>lenF f+lenF r
 | _=>1
theorem expF_len (e:XEnv):∀ {f:Fm} (v:DT f.den),(expF e f v).length=lenF f
 | .v t,v=>rfl
 | .ow ..,v=>rfl
 | .oc ..,v=>rfl
 | .op ..,v=>rfl
 | .ptr ..,v=>rfl
 | .pix ..,v=>rfl
 | .clo ..,v=>rfl
 | .agg cs,v=>rfl
 | .tup cs,v=>rfl
 | .mp _,v=>rfl
 | .nil,v=>rfl
 | .dead,v=>rfl
 | .no,v=>rfl
 | .co f r,v=>by simp only [expF,List.length_append,expF_len e (f:=f),expF_len e (f:=r),lenF]
def finV (base M:Nat) (fz:List Nat) (outs:Fm) (h:Heap) (n:Nat) (v:XV):Option (DT outs.den) :=
 cutS [] base M [] ⟨fz,[(0,outs)],[]⟩ ⟨[(0,v)],h,n⟩ fun y=>some (dFst outs.den (denT []) (dFst (denT [(0,outs)]) (denH []) y))
def finX (base N M:Nat) (fz:List Nat) (ts:List RV) (outs:Fm):XK (DT outs.den):=fun z st=>match z with
 | .exit _=>none
 | _=>resK N M st ts fun xs=>finV base M fz outs st.h st.n (valX xs)
noncomputable def pureX (cal:Cal) (pur:Pur) (x:FX) (ins outs:Fm) (fz:List Nat) (v:DT ins.den):Option (DT outs.den) :=
 runX x.xc ⟨cal,pur,0,x.nt,x.m,0,List.range x.m⟩ _ ⟨argsT 0 (expF e0 ins v),[],0⟩ (finX 0 x.nt x.m fz x.ts outs)
theorem finV_ok {base N M:Nat} {fz:List Nat} {outs:Fm} {h:Heap} {n:Nat} {v:XV} {y:DT outs.den} (hd:outs.data=true) (hf:outs.fine=true) (hy:finV base M fz outs h n v=some y) {C:Ctx} {E:Env} {u:Value} {a:Act} (hb:Base base C)
  (I:InvE C ⟨[v.toPV],toH M h,n⟩ { tmps:=#[u],defers:=[] } E):∃ E',E'.w=E.w∧InvE C ⟨[(hdX (expF e0 outs y)).toPV],toH M [],base+M⟩ { tmps:=#[u],defers:=[] } E':=by
 unfold finV at hy
 have hok:Sh.okB ⟨fz,[(0,outs)],[]⟩=true:=by simp [Sh.okB,hf]
 obtain ⟨d,h1,h2⟩:=cut_weak (N:=1) (ds:=[]) (ws:=[]) (f:=⟨[],[],0⟩) hok rfl rfl (fun i x _ _ h=>(by cases h)) (fun b y _ _ h=>(by cases h)) (fun b _=>.inr rfl) hy
 have e1:(⟨[(0,v)],h,n⟩:XSt).to 1 M=⟨[v.toPV],toH M h,n⟩:=by
  simp [XSt.to,toT,lk]
 rw [e1] at h2
 obtain ⟨E',e',I'⟩:=h2 C _ E hb I
 refine ⟨E',e',?_⟩
 cases h1
 have e2:(expS base M [] [] ⟨[],[],0⟩ ⟨fz,[(0,outs)],[]⟩ d).to 1 M=⟨[(hdX (expF e0 outs (dFst outs.den (denT []) (dFst (denT [(0,outs)]) (denH []) d)))).toPV],toH M [],base+M⟩:=by
  have e3:expF ⟨nsD [] base M [] [],lnOf [] [] (dSnd (denT [(0,outs)]) (denH []) d)⟩ outs (dFst outs.den (denT []) (dFst (denT [(0,outs)]) (denH []) d))=expF e0 outs (dFst outs.den (denT []) (dFst (denT [(0,outs)]) (denH []) d)):=data_env hd _ _ _
  simp only [XSt.to,expS,expT,expH,killT,killW]
  rw [e3]
  congr 1
 rw [e2] at I'
 exact I'
theorem L2.lp {a b:List PV} (h:L2 a b) {E:Env} {vs:Array Value} (hr:∀ (i:Nat) (p:PV) (u:Value),a[i]?=some p→vs[i]?=some u→Rep E p u):∀ (i:Nat) (p:PV) (u:Value),b[i]?=some p→vs[i]?=some u→Rep E p u:=by
 intro i p u hp hu
 obtain ⟨q,hq,hl⟩:=h.get i p hp
 exact hl E u (hr i q u hq hu)
theorem vpure_of (hm:P.follows .mixedOrders=true) {cal:Cal} {pur:Pur} (hcal:CalOk P cal) (hfr:CalFr cal) (hpur:PurOk P pur) {f:Nat} {x:FX} {ins outs:Fm} {fz:List Nat} (hx:x.ok P f) (hi:ins.data=true) (hif:ins.fine=true) (ho:outs.data=true) (hof:outs.fine=true) (hor:rowOk outs=true) (hlen:lenF ins≤x.nt)
    {v:DT ins.den} {y:DT outs.den} (h:pureX cal pur x ins outs fz v=some y):VPure P f (toPVL (expF e0 ins v)) (hdX (expF e0 outs y)).toPV:=by
  obtain ⟨fn,c,hf,hb,hcl,hr,hrs,hnt,hic,hok⟩:=hx
  have hcl2:closed (hdX (expF e0 outs y)).toPV=true:=by
    obtain ⟨z,hz⟩:=data_one ho hor e0 y
    have:=data_closed y ho hof
    rw [hz] at this ⊢
    simpa [toPVL,closedL,hdX] using this
  refine ⟨data_closed v hi hif,hcl2,hcl,fun W S ents vals hel J hv hargs=>?_⟩
  obtain rfl:ents=[]:=by simpa using hel
  refine calls_of_wp hf hb ?_
  let a0:Act:={ tmps:=vals++Array.replicate (fn.ntmps - vals.size) undef,defers:=[] }
  let C:Ctx:=⟨W,(([]:List Ent)[·]?),handed [],S⟩
  have hbase:Base 0 C:=fun s _=>by simp [C]
  let st0:XSt:=⟨argsT 0 (expF e0 ins v),[],0⟩
  have noAt:∀ {E:Env} {h:List Slot} {b s:Nat} {k:Blk} {en:Ent},(∀ (i:Nat) (x:Slot),h[i]?=some x→x=none)→¬ At E h b s k en:=by
    intro E h b s k en hh A
    have:=hh _ _ A.slot
    cases this
  have hemp:∀ (i:Nat) (y:Slot),(toH x.m [])[i]?=some y→y=none:=by
    intro i y hy
    have:=List.mem_of_getElem? hy
    simp only [toH,List.mem_map] at this
    obtain ⟨b,_,rfl⟩:=this
    rfl
  have I0:InvE C (st0.to x.nt x.m) a0 ⟨W,(([]:List Ent)[·]?),S⟩:=by
    refine { good:=⟨J.good.free,fun b s k hb=>?_,fun b b' s s' k k' en en' A=>absurd A (noAt hemp),J.good.stay⟩,since:=J.since,touch:=fun b s k en A=>absurd A (noAt hemp),defers:=rfl,tsize:=?_,tmps:=?_ }
    · have:=hemp _ _ hb; cases this
    · simp only [XSt.to,toT_len,a0]
      rw [Array.size_append,Array.size_replicate,hnt]
      rw [toPVL_map,List.length_map,expF_len] at hv
      omega
    · intro i p u hp hu
      have hi:i < x.nt:=by
        have:=(List.getElem?_eq_some_iff.1 hp).1
        simpa only [XSt.to,toT_len] using this
      simp only [XSt.to,toT,List.getElem?_map,List.getElem?_range hi,Option.map_some,Option.some.injEq,st0,argsT_lk] at hp
      subst hp
      simp only [Nat.zero_le,if_true,Nat.sub_zero]
      cases hx:(expF e0 ins v)[i]? with
      | none=>exact .dead u
      | some z =>
        refine hargs i _ u ?_ ?_
        · rw [toPVL_map,List.getElem?_map,hx]; rfl
        · have hlt:i < vals.size:=by
            rw [hv,toPVL_map,List.length_map]; exact (List.getElem?_eq_some_iff.1 hx).1
          simp only [a0,Array.getElem?_append,if_pos hlt] at hu
          exact hu
  let Q:IExit→St→Prop:=fun z s=>(z=.normal∨z=.ret)∧∃ st':XSt,WeakB 0 s (st'.to x.nt x.m)∧finX 0 x.nt x.m fz x.ts outs z st'=some y
  have hsem:SemC P 0 c Q (st0.to x.nt x.m):=by
    refine runX_ok hm x.xc ⟨cal,pur,0,x.nt,x.m,0,List.range x.m⟩ hcal hfr hpur c _ st0 _ y Q hok (congrFun hic 0) ?_ h ?_
    · rintro z s s' hs ⟨h1,st',h2,h3⟩
      exact ⟨h1,st',hs.trans h2,h3⟩
    · intro z st' hz
      refine ⟨?_,st',WeakB.refl _ _,hz⟩
      cases z with
      | normal=>exact .inl rfl
      | ret=>exact .inr rfl
      | exit i=>cases hz
  refine wp_mono (hsem C a0 _ hbase I0) ?_
  rintro z a w ⟨i,st,E,rfl,rfl,I,hi',st',hw,hfin⟩
  obtain ⟨E1,e1,I1⟩:=hw C a E hbase I
  have hfin2:∃ xs,valsR (st'.to x.nt x.m) x.ts=some (toPVL xs)∧finV 0 x.m fz outs st'.h st'.n (valX xs)=some y:=by
    rcases hi' with rfl | rfl<;>exact resK_spec P hfin
  obtain ⟨xs,hxs,hfv⟩:=hfin2
  obtain ⟨u,hrun,hrep⟩:=run_resR I1 hr hrs (valX_spec hxs)
  have I2:InvE C ⟨[(valX xs).toPV],toH x.m st'.h,st'.n⟩ { tmps:=#[u],defers:=[] } E1 :=
    { good:=I1.good,since:=I1.since,touch:=I1.touch,defers:=rfl,tsize:=rfl,tmps:=by
        intro i p u' hp hu
        cases i with
        | zero=>simp at hp hu; subst hp hu; exact hrep
        | succ i=>simp at hp }
  obtain ⟨E2,e2,I3⟩:=finV_ok (N:=x.nt) (a:=a) ho hof hfv hbase I2
  obtain ⟨σ',F,hren⟩:=fin_sound I3 none (.inl rfl)
  have h0:=I3.tmps 0 _ u rfl rfl
  have post:a.defers=[]∧∃ v',(results fn a.tmps).run P E.w=.ok v' E.w∧∃ v'' r L' N σ' S',Ending.returned v'=.returned v''∧r=(hdX (expF e0 outs y)).toPV∧L'.length=([]:List Blk).length ∧
      InvE C ⟨[],slots L' N,([]:List Blk).length+1⟩ emptyAct ⟨E.w,σ',S'⟩∧Rep ⟨E.w,σ',S'⟩ r v'':=by
    refine ⟨I1.defers,u,by rw [← e1]; exact hrun,u,_,[],none,σ',E2.S,rfl,rfl,rfl,?_,?_⟩
    · rw [← e1,← e2]; exact F
    · rw [← e1,← e2]
      have:=hren _ u h0
      rwa [ren_closed _ _ hcl2] at this
  rcases hi' with rfl | rfl
  · exact post
  · exact post
end Go.Proofs.Yticljphbbdnomaa.VL
