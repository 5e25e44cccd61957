import Derived.Test.YticljphbbdnomaaW1Xn
namespace Go.Proofs.Yticljphbbdnomaa.VL
open Go
set_option linter.unusedVariables false
set_option linter.unusedSimpArgs false
set_option linter.unusedSectionVars false
variable [Val]
variable {P:Program}
def loopN {σ ρ:Type} (f:σ→Option (σ ⊕ ρ)):Nat→σ→Option ρ
 | 0,_=>none
 | n+1,s=>match f s with
  | some (.inl s')=>loopN f n s'
  | some (.inr r)=>some r
  | none=>none
open Classical in
noncomputable def loopX {σ ρ:Type} (f:σ→Option (σ ⊕ ρ)) (s:σ):Option ρ:=if h:∃ r n,loopN f n s=some r then some h.choose else none
theorem loopN_succ {σ ρ:Type} (f:σ→Option (σ ⊕ ρ)) (n:Nat) (s:σ):loopN f (n+1) s=match f s with | some (.inl s')=>loopN f n s' | some (.inr r)=>some r | none=>none:=rfl
theorem loopN_det {σ ρ:Type} {f:σ→Option (σ ⊕ ρ)}:∀ {n m:Nat} {s:σ} {r r':ρ},loopN f n s=some r→loopN f m s=some r'→r=r'
 | 0,_,_,_,_,h,_=>by cases h
 | _+1,0,_,_,_,_,h=>by cases h
 | n+1,m+1,s,r,r',h,h'=>by
  simp only [loopN] at h h'
  split at h
  ·rename_i s' hs; rw [hs] at h'; exact loopN_det h h'
  ·rename_i x hs; rw [hs] at h'; cases h; cases h'; rfl
  ·cases h
theorem loopX_some {σ ρ:Type} {f:σ→Option (σ ⊕ ρ)} {s:σ} {r:ρ} (h:loopX f s=some r):∃ n,loopN f n s=some r:=by
 unfold loopX at h
 split at h
 ·rename_i hh
  cases h
  exact hh.choose_spec
 ·cases h
theorem loopX_of {σ ρ:Type} {f:σ→Option (σ ⊕ ρ)} {s:σ} {r:ρ} {n:Nat} (h:loopN f n s=some r):loopX f s=some r:=by
 unfold loopX
 have hh:∃ r n,loopN f n s=some r:=⟨r,n,h⟩
 rw [dif_pos hh]
 obtain ⟨m,hm⟩:=hh.choose_spec
 rw [loopN_det hm h]
theorem loopX_eq {σ ρ:Type} (f:σ→Option (σ ⊕ ρ)) (s:σ):loopX f s=match f s with | some (.inl s')=>loopX f s' | some (.inr r)=>some r | none=>none:=by
 cases hs:f s with
 | none =>
  simp only
  cases hl:loopX f s with
  | none=>rfl
  | some r =>
   obtain ⟨n,hn⟩:=loopX_some hl
   cases n with
   | zero=>cases hn
   | succ n=>simp only [loopN,hs] at hn; cases hn
 | some x =>
  cases x with
  | inr r=>exact loopX_of (n:=1) (by simp [loopN,hs])
  | inl s' =>
   simp only
   cases hl:loopX f s' with
   | some r =>
    obtain ⟨n,hn⟩:=loopX_some hl
    exact loopX_of (n:=n+1) (by simp [loopN,hs,hn])
   | none =>
    cases hl2:loopX f s with
    | none=>rfl
    | some r =>
     obtain ⟨n,hn⟩:=loopX_some hl2
     cases n with
     | zero=>cases hn
     | succ n =>
      simp only [loopN,hs] at hn
      rw [loopX_of hn] at hl; cases hl
structure Pl where
 ds:List Nat
 ws:List Nat
 sh:Sh
inductive XC where
 | skip
 | reg (ops:List XO)
 | rdr (ops:List XO)
 | dr (un:List (Nat×Nat)) (ops:List XO)
 | seq (a b:XC)
 | cond (c:Opd) (a b:XC)
 | blk (id:Nat) (b:XC)
 | exit (id:Nat)
 | ret
 | loop (p:Pl) (b:XC)
 | lpU (k:Nat) (b:XC)
 | cut (p:Pl) (b:XC)
 | cutN (p:Pl) (b:XC)
def XC.ic (o:Nat):XC→ICode
 | .skip=>.skip
 | .reg ops=>.reg false (ops.map fun x=>x.io.at o)
 | .rdr ops=>.reg true (ops.map fun x=>x.io.at o)
 | .dr un ops=>.dr un (ops.map fun x=>x.io.at o)
 | .seq a b=>.seq (a.ic o) (b.ic o)
 | .cond c a b=>.cond c (a.ic o) (b.ic o)
 | .blk id b=>.blk id (b.ic o)
 | .exit id=>.exit id
 | .ret=>.ret
 | .loop _ b=>.loop (b.ic o)
 | .lpU _ b=>.loop (b.ic o)
 | .cut _ b=>b.ic o
 | .cutN _ b=>b.ic o
def XC.sets (ds:List Nat):XC→Bool
 | .skip=>true
 | .reg ops=>ops.all (setXO ds)
 | .rdr ops=>ops.all (setXO ds)
 | .dr _ ops=>ops.all (setXO ds)
 | .seq a b=>a.sets ds&&b.sets ds
 | .cond _ a b=>a.sets ds&&b.sets ds
 | .blk _ b=>b.sets ds
 | .exit _=>true
 | .ret=>true
 | .loop p b=>b.sets ds&&(p.ds.all (inB' ds)&&p.sh.t.all fun x=>inB' ds x.1)
 | .lpU _ b=>b.sets ds
 | .cut p b=>b.sets ds&&(p.ds.all (inB' ds)&&p.sh.t.all fun x=>inB' ds x.1)
 | .cutN p b=>b.sets ds&&(p.ds.all (inB' ds)&&p.sh.t.all fun x=>inB' ds x.1)
def Pl.tsub (p:Pl):Bool:=p.sh.okB&&p.sh.t.all fun x=>inB' p.ds x.1
def XC.ok:XC→Bool
 | .seq a b=>a.ok&&b.ok
 | .cond _ a b=>a.ok&&b.ok
 | .blk _ b=>b.ok
 | .loop p b=>p.tsub&&(b.ok&&b.sets p.ds)
 | .lpU _ b=>b.ok
 | .cut p b=>p.tsub&&(b.ok&&b.sets p.ds)
 | .cutN p b=>p.tsub&&(b.ok&&b.sets p.ds)
 | _=>true
abbrev XK (R:Type):=IExit→XSt→Option R
def thenX {R:Type} (k:XSt→Option R) (K:XK R):XK R:=fun e st=>match e with
 | .normal=>k st
 | e=>K e st
def blkX {R:Type} (id:Nat) (K:XK R):XK R:=fun e st=>match e with
 | .exit i=>(match Nat.beq i id with | true=>K .normal st | false=>K (.exit i) st)
 | e=>K e st
def sumX {R:Type} (fh:Heap) (base M:Nat) (ws:List Nat) (sh:Sh) (K:XK R):XK (sh.den ⊕ R):=fun e st=>match e with
 | .normal=>cutS fh base M ws sh st fun v=>some (.inl v)
 | e=>(K e st).map .inr
def onlyX (fh:Heap) (base M:Nat) (ws:List Nat) (sh:Sh):XK sh.den:=fun e st=>match e with
 | .normal=>cutS fh base M ws sh st fun v=>some v
 | _=>none
def joinX {α R:Type} (x:Option (α ⊕ R)) (k:α→Option R):Option R:=x.bind fun y=>match y with
 | .inl v=>k v
 | .inr r=>some r
def unrollX {R:Type} (f:XSt→XK R→Option R) (K:XK R):Nat→XSt→Option R
 | 0,_=>none
 | n+1,st=>f st (thenX (unrollX f K n) K)
structure XE where
 cal:Cal
 pur:Pur
 base:Nat
 N:Nat
 M:Nat
 o:Nat
 wp:List Nat
def XE.in (e:XE) (ws:List Nat):XE:=⟨e.cal,e.pur,e.base,e.N,e.M,e.o,ws⟩
def plB (e:XE) (p:Pl) (st:XSt):Bool:=p.ws.all (inB' e.wp)&&(p.sh.fz.all (inB' p.ws)&&(p.sh.h.all (fun x=>inB' p.ws x.b)&&(Nat.ble e.base st.n&&(belowT st.n st.t&&belowH st.n st.h))))
noncomputable def runX:XC→XE→(R:Type)→XSt→XK R→Option R
 | .skip,e,R,st,K=>K .normal st
 | .reg ops,e,R,st,K=>xOps e.cal e.wp e.N e.M e.o ops st fun st'=>K .normal st'
 | .rdr ops,e,R,st,K=>xDraw e.pur e.wp e.N e.M e.o [] ops st fun st'=>K .normal st'
 | .dr un ops,e,R,st,K=>xDraw e.pur e.wp e.N e.M e.o un ops st fun st'=>K .normal st'
 | .seq a b,e,R,st,K=>runX a e R st (thenX (fun st'=>runX b e R st' K) K)
 | .cond c a b,e,R,st,K=>(match evX e.N st.t c with
  | .b t=>_root_.cond t (runX a e R st K) (runX b e R st K)
  | _=>none)
 | .blk id b,e,R,st,K=>runX b e R st (blkX id K)
 | .exit id,e,R,st,K=>K (.exit id) st
 | .ret,e,R,st,K=>K .ret st
 | .loop p b,e,R,st,K=>(match plB e p st with
  | true=>cutS st.h st.n e.M p.ws p.sh st fun v=>loopX (fun v=>runX b (e.in p.ws) (p.sh.den ⊕ R) (expS st.n e.M p.ds p.ws st p.sh v) (sumX st.h st.n e.M p.ws p.sh K)) v
  | false=>none)
 | .lpU k b,e,R,st,K=>unrollX (fun st K=>runX b e R st K) K k st
 | .cut p b,e,R,st,K=>(match plB e p st with
  | true=>joinX (runX b (e.in p.ws) (p.sh.den ⊕ R) st (sumX st.h st.n e.M p.ws p.sh K)) fun v=>K .normal (expS st.n e.M p.ds p.ws st p.sh v)
  | false=>none)
 | .cutN p b,e,R,st,K=>(match plB e p st with
  | true=>(runX b (e.in p.ws) p.sh.den st (onlyX st.h st.n e.M p.ws p.sh)).bind fun v=>K .normal (expS st.n e.M p.ds p.ws st p.sh v)
  | false=>none)
theorem plB_ok {e:XE} {p:Pl} {st:XSt} (h:plB e p st=true):(∀ b ∈ p.ws,b ∈ e.wp)∧(∀ b,inB' p.sh.fz b=true→b ∈ p.ws)∧(∀ x ∈ p.sh.h,x.b ∈ p.ws)∧e.base≤st.n∧belowT st.n st.t=true∧belowH st.n st.h=true:=by
 simp only [plB,Bool.and_eq_true,List.all_eq_true] at h
 obtain ⟨h1,h2,h3,h4,h5,h6⟩:=h
 exact ⟨fun b hb=>inB'_true (h1 b hb),fun b hb=>inB'_true (h2 b (inB'_true hb)),fun x hx=>inB'_true (h3 x hx),Nat.le_of_ble_eq_true h4,h5,h6⟩
theorem expT_out {e:XEnv} {tt:List (Nat×XV)}:∀ {l:List (Nat×Fm)} {v:DT (denT l)} {i:Nat},(∀ x ∈ l,x.1≠i)→lk (expT e l v tt) i=lk tt i
 | [],v,i,_=>rfl
 | x::r,v,i,h=>by
  simp only [expT,lk_cons,if_neg (h x (by simp))]
  exact expT_out fun y hy=>h y (List.mem_cons_of_mem _ hy)
theorem hasB_out:∀ {l:List SlF} {b:Nat},(∀ x ∈ l,x.b≠b)→hasB l b=false
 | [],b,_=>rfl
 | x::r,b,h=>by
  rw [hasB_cons,if_neg (h x (by simp))]
  exact hasB_out fun y hy=>h y (List.mem_cons_of_mem _ hy)
theorem expS_fro {base N M:Nat} {ds ws ds':List Nat} {f:XSt} {sh:Sh} {v:sh.den} (hd:∀ x ∈ ds,x ∈ ds') (ht:∀ x ∈ sh.t,x.1 ∈ ds') (hh:∀ x ∈ sh.h,x.b ∈ ws):Fro N M ds' ws f (expS base M ds ws f sh v):=by
 refine ⟨fun i hi=>?_,fun b hb=>?_⟩
 ·simp only [XSt.to,expS]
  by_cases hlt:i < N
  ·simp only [toT,List.getElem?_map,List.getElem?_range hlt,Option.map_some]
   rw [expT_out (fun x hx he=>hi (by rw [← he]; exact ht x hx)),killT_lk,if_neg (fun hm=>hi (hd i hm))]
  ·rw [List.getElem?_eq_none (by rw [toT_len]; omega),List.getElem?_eq_none (by rw [toT_len]; omega)]
 ·simp only [expS]
  by_cases hlt:b < M
  ·simp only [toH,List.getElem?_map,List.getElem?_range hlt,Option.map_some]
   rw [expH_none (hasB_out fun x hx he=>hb (by rw [← he]; exact hh x hx)),killW_lk,if_neg hb]
  ·rw [List.getElem?_eq_none (by rw [toH_len]; omega),List.getElem?_eq_none (by rw [toH_len]; omega)]
theorem cut_place {e:XE} {p:Pl} {st st':XSt} {R:Type} {K:p.sh.den→Option R} {r:R} {f:XSt} (hp:plB e p st=true) (hok:p.sh.okB=true) (hf:f=st∨∃ v,f=expS st.n e.M p.ds p.ws st p.sh v) (hs:Fro e.N e.M p.ds p.ws f st') (hsub:∀ x ∈ p.sh.t,x.1 ∈ p.ds) (h:cutS st.h st.n e.M p.ws p.sh st' K=some r) :
  ∃ v,K v=some r∧WeakB e.base (st'.to e.N e.M) ((expS st.n e.M p.ds p.ws st p.sh v).to e.N e.M):=by
 obtain ⟨h1,h2,h3,h4,h5,h6⟩:=plB_ok hp
 have hs2:Fro e.N e.M p.ds p.ws st st':=by
  rcases hf with rfl | ⟨v,rfl⟩
  ·exact hs
  ·exact (expS_fro (fun x hx=>hx) hsub h3).trans hs
 have hTT:∀ i x,i ∉ p.ds→i < e.N→lk st.t i=some x→(toT e.N st'.t)[i]?=some x.toPV:=by
  intro i x hi hlt hx
  have:=hs2.t i hi
  simp only [XSt.to] at this
  rw [this]
  simp only [toT,List.getElem?_map,List.getElem?_range hlt,Option.map_some,hx,Option.getD_some]
 have hHH:∀ b y,b ∉ p.ws→b < e.M→lkS st.h b=some y→(toH e.M st'.h)[b]?=some (some (y.1,y.2.toB)):=by
  intro b y hb hlt hy
  rw [hs2.h b hb]
  exact toH_get hlt hy
 obtain ⟨v,hv,hw⟩:=cut_weak (N:=e.N) (ds:=p.ds) (ws:=p.ws) (f:=st) hok h5 h6 hTT hHH (fun b hb=>.inl (h2 b hb)) h
 exact ⟨v,hv,fun C a E hbase I=>hw C a E (fun s hs=>hbase s (Nat.le_trans h4 hs)) I⟩
theorem sets_mem {ds:List Nat} {l:List Nat} (h:l.all (inB' ds)=true):∀ x ∈ l,x ∈ ds:=fun x hx=>inB'_true (List.all_eq_true.1 h x hx)
theorem sets_mem2 {ds:List Nat} {l:List (Nat×Fm)} (h:(l.all fun x=>inB' ds x.1)=true):∀ x ∈ l,x.1 ∈ ds:=fun x hx=>inB'_true (List.all_eq_true.1 h x hx)
theorem loopN_congr {σ ρ:Type} {f g:σ→Option (σ ⊕ ρ)} (h:∀ s,f s=g s):loopX f=loopX g:=by
 have:f=g:=funext h
 rw [this]
theorem runX_congr {N M:Nat} {ds:List Nat}:∀ (b:XC) (e:XE) (R:Type) (st:XSt) (K K':XK R),e.N=N→e.M=M→CalFr e.cal→b.sets ds=true→(∀ z st',Fro N M ds e.wp st st'→K z st'=K' z st')→runX b e R st K=runX b e R st K':=by
 intro b
 induction b with
 | skip=>intro e R st K K' hN hM hc hq h; exact h _ st (Fro.refl st)
 | reg ops=>intro e R st K K' hN hM hc hq h; subst hN hM; exact xOps_congr hc hq (h .normal)
 | rdr ops=>intro e R st K K' hN hM hc hq h; subst hN hM; exact xDraw_congr hq (h .normal)
 | dr un ops=>intro e R st K K' hN hM hc hq h; subst hN hM; exact xDraw_congr hq (h .normal)
 | seq a b iha ihb =>
  intro e R st K K' hN hM hc hq h
  simp only [XC.sets,Bool.and_eq_true] at hq
  refine iha e R st _ _ hN hM hc hq.1 fun z st1 s1=>?_
  cases z with
  | normal=>exact ihb e R st1 K K' hN hM hc hq.2 fun z st2 s2=>h z st2 (s1.trans s2)
  | exit i=>exact h _ _ s1
  | ret=>exact h _ _ s1
 | cond c a b iha ihb =>
  intro e R st K K' hN hM hc hq h
  simp only [XC.sets,Bool.and_eq_true] at hq
  simp only [runX]
  rw [iha e R st K K' hN hM hc hq.1 h,ihb e R st K K' hN hM hc hq.2 h]
 | blk id b ih =>
  intro e R st K K' hN hM hc hq h
  refine ih e R st _ _ hN hM hc hq fun z st1 s1=>?_
  cases z with
  | normal=>exact h _ _ s1
  | exit i =>
   simp only [blkX]
   split
   ·exact h _ _ s1
   ·exact h _ _ s1
  | ret=>exact h _ _ s1
 | exit i=>intro e R st K K' hN hM hc hq h; exact h _ st (Fro.refl st)
 | ret=>intro e R st K K' hN hM hc hq h; exact h _ st (Fro.refl st)
 | loop p b ih =>
  intro e R st K K' hN hM hc hq h
  subst hN hM
  simp only [XC.sets,Bool.and_eq_true] at hq
  simp only [runX]
  split
  ·rename_i hp
   obtain ⟨h1,h2,h3,h4,h5,h6⟩:=plB_ok hp
   congr 1
   funext v
   refine congrFun (loopN_congr fun v=>?_) v
   refine ih (e.in p.ws) _ _ _ _ rfl rfl hc hq.1 fun z st1 s1=>?_
   have s1:Fro e.N e.M ds p.ws (expS st.n e.M p.ds p.ws st p.sh v) st1:=s1
   cases z with
   | normal=>rfl
   | exit i =>
    simp only [sumX]
    rw [h]
    exact ((expS_fro (sets_mem hq.2.1) (sets_mem2 hq.2.2) h3).trans s1).mono (fun _ hx=>hx) h1
   | ret =>
    simp only [sumX]
    rw [h]
    exact ((expS_fro (sets_mem hq.2.1) (sets_mem2 hq.2.2) h3).trans s1).mono (fun _ hx=>hx) h1
  ·rfl
 | lpU k b ih =>
  intro e R st K K' hN hM hc hq h
  have key:∀ (k:Nat) (st:XSt),(∀ z st',Fro N M ds e.wp st st'→K z st'=K' z st')→unrollX (fun st K=>runX b e R st K) K k st=unrollX (fun st K=>runX b e R st K) K' k st:=by
   intro k
   induction k with
   | zero=>intro st _; rfl
   | succ k ihk =>
    intro st h
    simp only [unrollX]
    refine ih e R st _ _ hN hM hc hq fun z st1 s1=>?_
    cases z with
    | normal=>exact ihk st1 (fun z st2 s2=>h z st2 (s1.trans s2))
    | exit i=>exact h _ _ s1
    | ret=>exact h _ _ s1
  exact key k st h
 | cut p b ih =>
  intro e R st K K' hN hM hc hq h
  subst hN hM
  simp only [XC.sets,Bool.and_eq_true] at hq
  simp only [runX]
  split
  ·rename_i hp
   obtain ⟨h1,h2,h3,h4,h5,h6⟩:=plB_ok hp
   have e1:runX b (e.in p.ws) (p.sh.den ⊕ R) st (sumX st.h st.n e.M p.ws p.sh K)=runX b (e.in p.ws) (p.sh.den ⊕ R) st (sumX st.h st.n e.M p.ws p.sh K'):=by
    refine ih (e.in p.ws) _ _ _ _ rfl rfl hc hq.1 fun z st1 s1=>?_
    cases z with
    | normal=>rfl
    | exit i=>simp only [sumX]; rw [h _ _ (s1.mono (fun _ hx=>hx) h1)]
    | ret=>simp only [sumX]; rw [h _ _ (s1.mono (fun _ hx=>hx) h1)]
   have e2:(fun v=>K .normal (expS st.n e.M p.ds p.ws st p.sh v))=fun v=>K' .normal (expS st.n e.M p.ds p.ws st p.sh v):=by
    funext v
    exact h _ _ ((expS_fro (sets_mem hq.2.1) (sets_mem2 hq.2.2) h3).mono (fun _ hx=>hx) h1)
   rw [e1,e2]
  ·rfl
 | cutN p b ih =>
  intro e R st K K' hN hM hc hq h
  subst hN hM
  simp only [XC.sets,Bool.and_eq_true] at hq
  simp only [runX]
  split
  ·rename_i hp
   obtain ⟨h1,h2,h3,h4,h5,h6⟩:=plB_ok hp
   have e2:(fun v=>K .normal (expS st.n e.M p.ds p.ws st p.sh v))=fun v=>K' .normal (expS st.n e.M p.ds p.ws st p.sh v):=by
    funext v
    exact h _ _ ((expS_fro (sets_mem hq.2.1) (sets_mem2 hq.2.2) h3).mono (fun _ hx=>hx) h1)
   rw [e2]
  ·rfl
def CloB (base:Nat) (Q:St→Prop):Prop:=∀ st st',WeakB base st st'→Q st'→Q st
theorem CloB.clo {base:Nat} {Q:St→Prop} (h:CloB base Q):Clo Q:=fun st st' hw=>h st st' hw.b
def SemC (P:Program) (base:Nat) (c:Code) (Q:IExit→St→Prop) (st:St):Prop:=∀ (C:Ctx) (a:Act) (E:Env),Base base C→InvE C st a E→c.wp P (Back C Q) a E.w
theorem SemC.clo {base:Nat} {c:Code} {Q:IExit→St→Prop}:CloB base (SemC P base c Q):=by
 intro st st' hw h C a E hb I
 obtain ⟨E',e',I'⟩:=hw C a E hb I
 rw [← e']; exact h C a E' hb I'
def peel:Code→Code
 | .scope b=>peel b
 | c=>c
def isPeeled:Code→Bool
 | .scope _=>false
 | _=>true
theorem peel_peeled (c:Code):isPeeled (peel c)=true:=by
 induction c<;>simp_all [peel,isPeeled]
theorem peel_code {slot:Option Nat→Nat} (c:Code):cCode P slot (peel c)=cCode P slot c:=by
 induction c<;>simp_all [peel,cCode]
theorem peel_wp {C:Ctx} {Q:IExit→St→Prop} {a:Act} {w:World} (c:Code) (h:(peel c).wp P (Back C Q) a w):c.wp P (Back C Q) a w:=by
 induction c with
 | scope b ih =>
  refine wp_scope_straight (wp_mono (ih h) ?_)
  rintro e a' w' ⟨i,st',E',rfl,rfl,I',q⟩
  cases i with
  | normal=>exact ⟨.normal,st',E',rfl,rfl,I',q⟩
  | exit id=>exact ⟨.exit id,st',E',rfl,rfl,I',q⟩
  | ret=>exact ⟨.ret,st',E',rfl,rfl,I',q⟩
 | _=>exact h
theorem cond_inv {slot:Option Nat→Nat} {c:Code} {ic:ICode} (hp:isPeeled c=true) (h:cCode P slot c=some ic):(∀ a b,ic=.seq a b→∃ x y,c=.seq x y∧cCode P slot x=some a∧cCode P slot y=some b) ∧
  (∀ q a b,ic=.cond q a b→∃ q' x y,c=.cond q' x y∧cOpd q'=some q∧cCode P slot x=some a∧cCode P slot y=some b)∧(∀ id b,ic=.blk id b→∃ x,c=.block id x∧cCode P slot x=some b) ∧
  (∀ b,ic=.loop b→∃ x,c=.loop x∧cCode P slot x=some b)∧(ic=.skip→c=.skip∨∃ l,c=.label l)∧(∀ id,ic=.exit id→c=.exit id)∧(ic=.ret→c=.ret)∧(∀ l,ic=.reg false l→∃ id ops,c=.region id ops false∧ops.toList.mapM (cOper P slot ops)=some l):=by
 have draw:∀ (ops:Array Oper) (iops:List IOper),(∃ d l,cDraw P slot ops iops=.reg d l∧d=true)∨(∃ un l,cDraw P slot ops iops=.dr un l)∨cDraw P slot ops iops=.bad:=by
  intro ops iops
  unfold cDraw
  split
  ·exact .inl ⟨true,_,rfl,rfl⟩
  ·split
   ·exact .inr (.inl ⟨_,_,rfl⟩)
   ·split
    ·exact .inr (.inl ⟨_,_,rfl⟩)
    ·split
     ·exact .inr (.inl ⟨_,_,rfl⟩)
     ·split
      ·exact .inr (.inl ⟨_,_,rfl⟩)
      ·exact .inr (.inr rfl)
 cases c with
 | skip=>cases h; simp
 | region id ops d =>
  simp only [cCode,Option.bind_eq_some_iff] at h
  obtain ⟨iops,h1,h⟩:=h
  split at h
  ·simp only [Option.some.injEq] at h
   rcases draw ops iops with ⟨d',l,q,rfl⟩ | ⟨un,l,q⟩ | q<;>rw [q] at h<;>subst h<;>simp
  ·rename_i hd
   have hd:d=false:=by simpa using hd
   subst hd
   cases h
   simp only [reduceCtorEq,false_implies,implies_true,true_and,ICode.reg.injEq]
   intro l hl
   exact ⟨id,ops,rfl,by rw [← hl]; exact h1⟩
 | seq x y =>
  simp only [cCode,Option.bind_eq_some_iff,Option.map_eq_some_iff] at h
  obtain ⟨ix,h1,iy,h2,rfl⟩:=h
  refine ⟨fun a b he=>?_,by simp⟩
  cases he
  exact ⟨x,y,rfl,h1,h2⟩
 | cond q x y =>
  simp only [cCode,Option.bind_eq_some_iff,Option.map_eq_some_iff] at h
  obtain ⟨c',h0,ix,h1,iy,h2,rfl⟩:=h
  refine ⟨by simp,fun q' a b he=>?_,by simp⟩
  cases he
  exact ⟨q,x,y,rfl,h0,h1,h2⟩
 | block id b =>
  simp only [cCode,Option.map_eq_some_iff] at h
  obtain ⟨ib,h1,rfl⟩:=h
  refine ⟨by simp,by simp,fun id' b' he=>?_,by simp⟩
  cases he
  exact ⟨b,rfl,h1⟩
 | loop b =>
  simp only [cCode,Option.map_eq_some_iff] at h
  obtain ⟨ib,h1,rfl⟩:=h
  refine ⟨by simp,by simp,by simp,fun b' he=>?_,by simp⟩
  cases he
  exact ⟨b,rfl,h1⟩
 | exit id=>cases h; simp
 | ret=>cases h; simp
 | rangeFunc _ _ _=>cases h; simp
 | scope _=>simp [isPeeled] at hp
 | label l=>cases h; simp
 | goto _=>cases h; simp
 | refuse _=>cases h; simp
theorem runX_ok (hm:P.follows .mixedOrders=true) {slot:Option Nat→Nat}:∀ (xc:XC) (e:XE) (hcal:CalOk P e.cal) (hfr:CalFr e.cal) (hpur:PurOk P e.pur) (c:Code) (R:Type) (st:XSt) (K:XK R) (r:R) (Q:IExit→St→Prop),xc.ok=true→cCode P slot c=some (xc.ic e.o)→(∀ x,CloB e.base (Q x)) →
  runX xc e R st K=some r→(∀ x st',K x st'=some r→Q x (st'.to e.N e.M))→SemC P e.base c Q (st.to e.N e.M):=by
 intro xc
 induction xc with
 | skip =>
  intro e hcal hfr hpur c R st K r Q _ hc hQ hk hK C a E hb I
  refine peel_wp c ?_; have hp:=peel_peeled c; replace hc:=(peel_code (P:=P) (slot:=slot) c).trans hc; generalize peel c=c at hc hp ⊢
  obtain rfl | ⟨l,rfl⟩:=(cond_inv hp hc).2.2.2.2.1 rfl
  ·exact wp_skip ⟨.normal,_,E,rfl,rfl,I,hK _ _ hk⟩
  ·exact wp_label ⟨.normal,_,E,rfl,rfl,I,hK _ _ hk⟩
 | exit id =>
  intro e hcal hfr hpur c R st K r Q _ hc hQ hk hK C a E hb I
  refine peel_wp c ?_; have hp:=peel_peeled c; replace hc:=(peel_code (P:=P) (slot:=slot) c).trans hc; generalize peel c=c at hc hp ⊢
  obtain rfl:=(cond_inv hp hc).2.2.2.2.2.1 id rfl
  exact wp_exit ⟨.exit id,_,E,rfl,rfl,I,hK _ _ hk⟩
 | ret =>
  intro e hcal hfr hpur c R st K r Q _ hc hQ hk hK C a E hb I
  refine peel_wp c ?_; have hp:=peel_peeled c; replace hc:=(peel_code (P:=P) (slot:=slot) c).trans hc; generalize peel c=c at hc hp ⊢
  obtain rfl:=(cond_inv hp hc).2.2.2.2.2.2.1 rfl
  exact wp_ret ⟨.ret,_,E,rfl,rfl,I,hK _ _ hk⟩
 | reg ops =>
  intro e hcal hfr hpur c R st K r Q _ hc hQ hk hK C a E hb I
  refine peel_wp c ?_; have hp:=peel_peeled c; replace hc:=(peel_code (P:=P) (slot:=slot) c).trans hc; generalize peel c=c at hc hp ⊢
  obtain ⟨id,ops',rfl,hmm⟩:=(cond_inv hp hc).2.2.2.2.2.2.2 _ rfl
  refine wp_region ?_
  have:=regX_ok (C:=C) (ops:=ops') (slot:=slot) (Q':=Back C Q) (o:=e.o) hcal (K:=fun st'=>K .normal st') (r:=r) (fun st' hk' a' E' I'=>⟨.normal,_,E',rfl,rfl,I',hK _ _ hk'⟩) ops'.toList 0 ops st a E (fun j=>by simp) hmm I hk
  rwa [Array.length_toList,← List.range_eq_range'] at this
 | rdr ops =>
  intro e hcal hfr hpur c R st K r Q _ hc hQ hk hK C a E hb I
  obtain ⟨S,s,h1,h2,h3,h4,h5,h6,h7⟩:=xDraw_ok (M:=e.M) hpur hk
  refine icWp_sound hm c _ Q _ a E hc I ?_
  show opsK P true (Q .normal) (ops.map fun x=>x.io.at e.o) (st.to e.N e.M)
  have key:∀ (l:List IOper) (i:Nat),(∀ (j:Nat) (io:IOper),l[j]?=some io→Stp P io (S (i+j)) (S (i+j+1)))→S (i+l.length)=s.to e.N e.M→opsK P true (Q .normal) l (S i):=by
   intro l
   induction l with
   | nil=>intro i _ hs; simp only [List.length_nil,Nat.add_zero] at hs; show Q .normal (S i); rw [hs]; exact hK _ _ h2
   | cons io l ih =>
    intro i hst hs
    have rest:=ih (i+1) (fun j io' hj=>by have:=hst (j+1) io' (by simpa using hj); rw [show i+(j+1)=i+1+j by omega] at this; exact this) (by rw [← hs]; congr 1; simp; omega)
    have hstp:=hst 0 io rfl
    simp only [Nat.add_zero] at hstp
    have e1:opsK P true (Q .normal) (io::l) (S i)=opsK P true (opsK P true (Q .normal) l) [io] (S i):=by rw [opsK,opsK]; rfl
    rw [e1]
    refine opsK_of_stp ?_
    rcases hstp with ⟨hg,p,h',n',k1,k2,k3,k4⟩ | ⟨hg,k1⟩
    ·exact .inl ⟨hg,k2 _ (by rw [← k1]; exact rest)⟩
    ·exact .inr ⟨hg,by rw [← k1]; exact rest⟩
  have:=key (ops.map fun x=>x.io.at e.o) 0 (fun j io hj=>by simpa using h4 j io hj) (by simpa using h3)
  rwa [h1] at this
 | dr un ops =>
  intro e hcal hfr hpur c R st K r Q _ hc hQ hk hK C a E hb I
  obtain ⟨S,s,h1,h2,h3,h4,h5,h6,h7⟩:=xDraw_ok (M:=e.M) hpur hk
  refine icWp_sound hm c _ Q _ a E hc I ?_
  refine ⟨S,h1,?_,h4,h5,h6⟩
  rw [List.length_map,h3]; exact hK _ _ h2
 | seq x y ihx ihy =>
  intro e hcal hfr hpur c R st K r Q hok hc hQ hk hK C a E hb I
  simp only [XC.ok,Bool.and_eq_true] at hok
  refine peel_wp c ?_; have hp:=peel_peeled c; replace hc:=(peel_code (P:=P) (slot:=slot) c).trans hc; generalize peel c=c at hc hp ⊢
  obtain ⟨cx,cy,rfl,h1,h2⟩:=(cond_inv hp hc).1 _ _ rfl
  let Q1:IExit→St→Prop:=fun z st=>match z with | .normal=>SemC P e.base cy Q st | z=>Q z st
  have s1:SemC P e.base cx Q1 (st.to e.N e.M):=by
   refine ihx e hcal hfr hpur cx R st _ r Q1 hok.1 h1 (fun z=>?_) hk (fun z st' hz=>?_)
   ·cases z with
    | normal=>exact SemC.clo
    | exit id=>exact hQ (.exit id)
    | ret=>exact hQ .ret
   ·cases z with
    | normal=>exact ihy e hcal hfr hpur cy R st' K r Q hok.2 h2 hQ hz hK
    | exit id=>exact hK _ _ hz
    | ret=>exact hK _ _ hz
  refine wp_seq (wp_mono (s1 C a E hb I) ?_)
  rintro z a' w' ⟨i,st',E',rfl,rfl,I',q⟩
  cases i with
  | normal=>exact q C a' E' hb I'
  | exit id=>exact ⟨.exit id,st',E',rfl,rfl,I',q⟩
  | ret=>exact ⟨.ret,st',E',rfl,rfl,I',q⟩
 | cond q x y ihx ihy =>
  intro e hcal hfr hpur c R st K r Q hok hc hQ hk hK C a E hb I
  simp only [XC.ok,Bool.and_eq_true] at hok
  refine peel_wp c ?_; have hp:=peel_peeled c; replace hc:=(peel_code (P:=P) (slot:=slot) c).trans hc; generalize peel c=c at hc hp ⊢
  obtain ⟨q',cx,cy,rfl,h0,h1,h2⟩:=(cond_inv hp hc).2.1 _ _ _ rfl
  have hr:=ev_rep I h0
  rw [← evX_eq e.N e.M st] at hr
  simp only [runX] at hk
  split at hk
  ·rename_i t hv
   simp only [rp,hv,XV.toPV] at hr
   rcases cond_some hk with ⟨rfl,hk⟩ | ⟨rfl,hk⟩
   ·exact wp_cond_split (rep_v hr) (fun _=>ihx e hcal hfr hpur cx R st K r Q hok.1 h1 hQ hk hK C a E hb I) (fun h=>by cases h)
   ·exact wp_cond_split (rep_v hr) (fun h=>by cases h) (fun _=>ihy e hcal hfr hpur cy R st K r Q hok.2 h2 hQ hk hK C a E hb I)
  ·cases hk
 | blk id b ih =>
  intro e hcal hfr hpur c R st K r Q hok hc hQ hk hK C a E hb I
  refine peel_wp c ?_; have hp:=peel_peeled c; replace hc:=(peel_code (P:=P) (slot:=slot) c).trans hc; generalize peel c=c at hc hp ⊢
  obtain ⟨cb,rfl,h1⟩:=(cond_inv hp hc).2.2.1 _ _ rfl
  let Q1:IExit→St→Prop:=fun z st=>match z with | .exit i=>(if i=id then Q .normal st else Q (.exit i) st) | z=>Q z st
  have s1:SemC P e.base cb Q1 (st.to e.N e.M):=by
   refine ih e hcal hfr hpur cb R st _ r Q1 hok h1 (fun z=>?_) hk (fun z st' hz=>?_)
   ·cases z with
    | normal=>exact hQ .normal
    | exit i =>
     simp only [Q1]
     by_cases hi:i=id
     ·simp only [if_pos hi]; exact hQ .normal
     ·simp only [if_neg hi]; exact hQ (.exit i)
    | ret=>exact hQ .ret
   ·cases z with
    | normal=>exact hK _ _ hz
    | exit i =>
     simp only [blkX] at hz
     simp only [Q1]
     by_cases hi:i=id
     ·rw [(Nat.beq_eq ▸ hi:Nat.beq i id=true)] at hz
      rw [if_pos hi]; exact hK _ _ hz
     ·have hbf:Nat.beq i id=false:=by rw [Bool.eq_false_iff]; intro hh; exact hi (Nat.eq_of_beq_eq_true hh)
      rw [hbf] at hz
      rw [if_neg hi]; exact hK _ _ hz
    | ret=>exact hK _ _ hz
  refine wp_block (wp_mono (s1 C a E hb I) ?_)
  rintro z a' w' ⟨i,st',E',rfl,rfl,I',q⟩
  cases i with
  | normal=>exact ⟨.normal,st',E',rfl,rfl,I',q⟩
  | exit id' =>
   show Exit.inBlock id (Back C Q) (.exit id') a' E'.w
   simp only [Exit.inBlock]
   simp only [Q1] at q
   split
   ·rename_i h; rw [if_pos h] at q; exact ⟨.normal,st',E',rfl,rfl,I',q⟩
   ·rename_i h; rw [if_neg h] at q; exact ⟨.exit id',st',E',rfl,rfl,I',q⟩
  | ret=>exact ⟨.ret,st',E',rfl,rfl,I',q⟩
 | loop p b ih =>
  intro e hcal hfr hpur c R st K r Q hok hc hQ hk hK C a E hb I
  simp only [XC.ok,Bool.and_eq_true] at hok
  obtain ⟨hok1,hok2,hok3⟩:=hok
  refine peel_wp c ?_; have hp:=peel_peeled c; replace hc:=(peel_code (P:=P) (slot:=slot) c).trans hc; generalize peel c=c at hc hp ⊢
  obtain ⟨cb,rfl,h1⟩:=(cond_inv hp hc).2.2.2.1 _ rfl
  simp only [runX] at hk
  split at hk
  case h_2=>cases hk
  rename_i hp
  simp only [Pl.tsub,Bool.and_eq_true] at hok1
  have hsub:=sets_mem2 hok1.2
  obtain ⟨v,hk,hw⟩:=cut_place hp hok1.1 (.inl rfl) (Fro.refl st) hsub hk
  obtain ⟨E0,e0,I0⟩:=hw C a E hb I
  obtain ⟨n,hn⟩:=loopX_some hk
  let xs:=expS st.n e.M p.ds p.ws st p.sh
  let f:=fun v=>runX b (e.in p.ws) (p.sh.den ⊕ R) (xs v) (sumX st.h st.n e.M p.ws p.sh K)
  refine wp_loop_ghost (fun n a w=>∃ v E',E'.w=w∧InvE C ((xs v).to e.N e.M) a E'∧loopN f n v=some r) n ⟨v,E0,e0,I0,hn⟩ ?_
  rintro n a w ⟨v,E',rfl,I',hl⟩
  cases n with
  | zero=>cases hl
  | succ n =>
   rw [loopN_succ] at hl
   cases hf:f v with
   | none=>rw [hf] at hl; cases hl
   | some x =>
    rw [hf] at hl
    let Q1:IExit→St→Prop:=fun z st=>match z with | .normal=>∃ v',x=.inl v'∧WeakB e.base st ((xs v').to e.N e.M) | z=>x=.inr r∧Q z st
    have hx:∀ r',x=.inr r'→r'=r:=by intro r' he; subst he; exact Option.some.inj hl
    classical
    let K1:XK (p.sh.den ⊕ R):=fun z st'=>if Fro e.N e.M p.ds p.ws (xs v) st' then sumX st.h st.n e.M p.ws p.sh K z st' else none
    have hx1:runX b (e.in p.ws) (p.sh.den ⊕ R) (xs v) K1=some x:=by
     rw [← hf]
     refine runX_congr (N:=e.N) (M:=e.M) (ds:=p.ds) b (e.in p.ws) _ (xs v) K1 _ rfl rfl hfr hok3 fun z st' hs=>?_
     have hs:Fro e.N e.M p.ds p.ws (xs v) st':=hs
     simp only [K1]
     rw [if_pos hs]
    have s1:SemC P e.base cb Q1 ((xs v).to e.N e.M):=by
     refine ih (e.in p.ws) hcal hfr hpur cb _ _ _ x Q1 hok2 h1 (fun z=>?_) hx1 (fun z st' hz=>?_)
     ·cases z with
      | normal=>rintro s s' hs ⟨v',he,hw'⟩; exact ⟨v',he,hs.trans hw'⟩
      | exit i=>rintro s s' hs ⟨he,hq⟩; exact ⟨he,hQ (.exit i) s s' hs hq⟩
      | ret=>rintro s s' hs ⟨he,hq⟩; exact ⟨he,hQ .ret s s' hs hq⟩
     ·simp only [K1] at hz
      split at hz
      case isFalse=>cases hz
      rename_i hs
      cases z with
      | normal =>
       have hz:cutS st.h st.n e.M p.ws p.sh st' (fun v=>some (Sum.inl v))=some x:=hz
       obtain ⟨v',hv',hw'⟩:=cut_place hp hok1.1 (.inr ⟨v,rfl⟩) hs hsub hz
       exact ⟨v',(Option.some.inj hv').symm,hw'⟩
      | exit i =>
       simp only [sumX,Option.map_eq_some_iff] at hz
       obtain ⟨r',hz,he⟩:=hz
       have:=hx r' he.symm
       subst this
       exact ⟨he.symm,hK _ _ hz⟩
      | ret =>
       simp only [sumX,Option.map_eq_some_iff] at hz
       obtain ⟨r',hz,he⟩:=hz
       have:=hx r' he.symm
       subst this
       exact ⟨he.symm,hK _ _ hz⟩
    refine wp_mono (s1 C a E' hb I') ?_
    rintro z a' w' ⟨i,st2,E2,rfl,rfl,I2,q⟩
    cases i with
    | normal =>
     obtain ⟨v',he,hw'⟩:=q
     subst he
     obtain ⟨E3,e3,I3⟩:=hw' C a' E2 hb I2
     exact ⟨n,Nat.lt_succ_self n,v',E3,e3,I3,hl⟩
    | exit id=>exact ⟨.exit id,st2,E2,rfl,rfl,I2,q.2⟩
    | ret=>exact ⟨.ret,st2,E2,rfl,rfl,I2,q.2⟩
 | lpU k b ih =>
  intro e hcal hfr hpur c R st K r Q hok hc hQ hk hK C a E hb I
  refine peel_wp c ?_; have hp:=peel_peeled c; replace hc:=(peel_code (P:=P) (slot:=slot) c).trans hc; generalize peel c=c at hc hp ⊢
  obtain ⟨cb,rfl,h1⟩:=(cond_inv hp hc).2.2.2.1 _ rfl
  simp only [runX] at hk
  let f:XSt→XK R→Option R:=fun st K=>runX b e R st K
  let J:Nat→St→Prop:=fun n s=>∃ st',WeakB e.base s (st'.to e.N e.M)∧unrollX f K n st'=some r
  refine wp_loop_ghost (fun n a w=>∃ s E',E'.w=w∧InvE C s a E'∧J n s) k ⟨_,E,rfl,I,st,WeakB.refl _ _,hk⟩ ?_
  rintro n a w ⟨s,E',rfl,I',st',hw,hu⟩
  obtain ⟨E1,e1,I1⟩:=hw C a E' hb I'
  rw [← e1]
  cases n with
  | zero=>cases hu
  | succ n =>
   let Q1:IExit→St→Prop:=fun z st=>match z with | .normal=>J n st | z=>Q z st
   have s1:SemC P e.base cb Q1 (st'.to e.N e.M):=by
    refine ih e hcal hfr hpur cb R st' _ r Q1 hok h1 (fun z=>?_) hu (fun z st2 hz=>?_)
    ·cases z with
     | normal=>rintro s s' hs ⟨st3,h3,h4⟩; exact ⟨st3,hs.trans h3,h4⟩
     | exit i=>exact hQ (.exit i)
     | ret=>exact hQ .ret
    ·cases z with
     | normal=>exact ⟨st2,WeakB.refl _ _,hz⟩
     | exit i=>exact hK _ _ hz
     | ret=>exact hK _ _ hz
   refine wp_mono (s1 C a E1 hb I1) ?_
   rintro z a' w' ⟨i,st2,E2,rfl,rfl,I2,q⟩
   cases i with
   | normal=>exact ⟨n,Nat.lt_succ_self n,st2,E2,rfl,I2,q⟩
   | exit id=>exact ⟨.exit id,st2,E2,rfl,rfl,I2,q⟩
   | ret=>exact ⟨.ret,st2,E2,rfl,rfl,I2,q⟩
 | cut p b ih =>
  intro e hcal hfr hpur c R st K r Q hok hc hQ hk hK C a E hb I
  simp only [XC.ok,Bool.and_eq_true] at hok
  obtain ⟨hok1,hok2,hok3⟩:=hok
  simp only [runX] at hk
  split at hk
  case h_2=>cases hk
  rename_i hp
  simp only [Pl.tsub,Bool.and_eq_true] at hok1
  have hsub:=sets_mem2 hok1.2
  simp only [joinX,Option.bind_eq_some_iff] at hk
  obtain ⟨x,hx,hk⟩:=hk
  classical
  let K1:XK (p.sh.den ⊕ R):=fun z st'=>if Fro e.N e.M p.ds p.ws st st' then sumX st.h st.n e.M p.ws p.sh K z st' else none
  have hx1:runX b (e.in p.ws) (p.sh.den ⊕ R) st K1=some x:=by
   rw [← hx]
   refine runX_congr (N:=e.N) (M:=e.M) (ds:=p.ds) b (e.in p.ws) _ st K1 _ rfl rfl hfr hok3 fun z st' hs=>?_
   have hs:Fro e.N e.M p.ds p.ws st st':=hs
   simp only [K1]
   rw [if_pos hs]
  have s1:SemC P e.base c Q (st.to e.N e.M):=by
   refine ih (e.in p.ws) hcal hfr hpur c _ st _ x Q hok2 hc hQ hx1 (fun z st' hz=>?_)
   simp only [K1] at hz
   split at hz
   case isFalse=>cases hz
   rename_i hs
   cases z with
   | normal =>
    have hz:cutS st.h st.n e.M p.ws p.sh st' (fun v=>some (Sum.inl v))=some x:=hz
    obtain ⟨v',hv',hw'⟩:=cut_place hp hok1.1 (.inl rfl) hs hsub hz
    obtain rfl:=Option.some.inj hv'
    exact hQ .normal _ _ hw' (hK .normal _ hk)
   | exit i =>
    simp only [sumX,Option.map_eq_some_iff] at hz
    obtain ⟨r',hz,he⟩:=hz
    subst he
    cases hk
    exact hK _ _ hz
   | ret =>
    simp only [sumX,Option.map_eq_some_iff] at hz
    obtain ⟨r',hz,he⟩:=hz
    subst he
    cases hk
    exact hK _ _ hz
  exact s1 C a E hb I
 | cutN p b ih =>
  intro e hcal hfr hpur c R st K r Q hok hc hQ hk hK C a E hb I
  simp only [XC.ok,Bool.and_eq_true] at hok
  obtain ⟨hok1,hok2,hok3⟩:=hok
  simp only [runX] at hk
  split at hk
  case h_2=>cases hk
  rename_i hp
  simp only [Pl.tsub,Bool.and_eq_true] at hok1
  have hsub:=sets_mem2 hok1.2
  simp only [Option.bind_eq_some_iff] at hk
  obtain ⟨x,hx,hk⟩:=hk
  classical
  let K1:XK p.sh.den:=fun z st'=>if Fro e.N e.M p.ds p.ws st st' then onlyX st.h st.n e.M p.ws p.sh z st' else none
  have hx1:runX b (e.in p.ws) p.sh.den st K1=some x:=by
   rw [← hx]
   refine runX_congr (N:=e.N) (M:=e.M) (ds:=p.ds) b (e.in p.ws) _ st K1 _ rfl rfl hfr hok3 fun z st' hs=>?_
   have hs:Fro e.N e.M p.ds p.ws st st':=hs
   simp only [K1]
   rw [if_pos hs]
  have s1:SemC P e.base c Q (st.to e.N e.M):=by
   refine ih (e.in p.ws) hcal hfr hpur c _ st _ x Q hok2 hc hQ hx1 (fun z st' hz=>?_)
   simp only [K1] at hz
   split at hz
   case isFalse=>cases hz
   rename_i hs
   cases z with
   | normal =>
    have hz:cutS st.h st.n e.M p.ws p.sh st' (fun v=>some v)=some x:=hz
    obtain ⟨v',hv',hw'⟩:=cut_place hp hok1.1 (.inl rfl) hs hsub hz
    obtain rfl:=Option.some.inj hv'
    exact hQ .normal _ _ hw' (hK .normal _ hk)
   | exit i=>cases hz
   | ret=>cases hz
  exact s1 C a E hb I
end Go.Proofs.Yticljphbbdnomaa.VL
