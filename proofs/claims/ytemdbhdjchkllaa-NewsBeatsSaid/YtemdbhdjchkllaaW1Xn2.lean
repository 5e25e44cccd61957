import Derived.Test.YtemdbhdjchkllaaW1Xn
namespace Go.Proofs.Ytemdbhdjchkllaa.VL
open Go
set_option linter.unusedVariables false
set_option linter.unusedSimpArgs false
set_option linter.unusedSectionVars false
variable [Val]
variable {P:Program} {R:Type}
def quietOp:IOp→Bool
 | .mov .. | .pick .. | .bld .. | .bsl .. | .load .. | .nilc .. | .bin .. | .binB .. | .nilq .. | .eqA .. | .un .. | .conv .. | .convS .. | .fn .. | .slc .. | .slS .. | .fad .. | .fld .. | .iad .. | .iaA .. | .ixA .. | .ixS .. | .ext .. | .len .. | .lenS .. | .cap .. | .mm .. | .lkp .. | .lenM .. | .bts ..=>true
 | _=>false
theorem lkpX_const {ok:Bool} {k:EK} {z key:XV} {h:Heap} {n:Nat} {K:KX R}:∀ l:List (XV×XV),lkpX ok k z key h n K l=lkpX ok k z key h n (fun v _ _=>K v h n) l
 | []=>rfl
 | p::l=>by
  simp only [lkpX]
  rw [lkpX_const l]
  rfl
theorem xOp_const {w:Bool} {M:Nat} {a:TT} {ρ:Opd→XV} {h:Heap} {n:Nat} {K:KX R} {op:IOp} (hq:quietOp op=true):xOp w M a ρ h n K op=xOp w M a ρ h n (fun v _ _=>K v h n) op:=by
 cases op<;>first
  | rfl
  | (cases hq; done)
  | skip
 rename_i ok k z x key
 show xLkp w M ok k z (ρ x) (ρ key) h n K=xLkp w M ok k z (ρ x) (ρ key) h n (fun v _ _=>K v h n)
 unfold xLkp
 split
 ·split
  ·rfl
  ·exact lkpX_const _
  ·rfl
 ·rfl
theorem xOp_congr {w:Bool} {N M:Nat} {a:TT} {st:XSt} {K K':KX R} {op:IOp} {l:List Nat} (hl:tgX N st op=some l) (h:∀ v h' n',StayX M l st.h h'→K v h' n'=K' v h' n'):xOp w M a (evX N st.t) st.h st.n K op=xOp w M a (evX N st.t) st.h st.n K' op:=by
 by_cases hq:quietOp op=true
 ·rw [xOp_const (K:=K) hq,xOp_const (K:=K') hq]
  congr 1
  funext v _ _
  exact h v st.h st.n (StayX.refl _ _ _)
 ·have e0:∀ v n',K v st.h n'=K' v st.h n':=fun v n'=>h v st.h n' (StayX.refl _ _ _)
  have e1:∀ b,b ∈ l→∀ v x n',K v ((b,x)::st.h) n'=K' v ((b,x)::st.h) n':=fun b hb v x n'=>h v _ n' (StayX.cons hb x _)
  cases op<;>simp only [quietOp,not_true_eq_false] at hq<;>simp only [tgX,Option.some.injEq,reduceCtorEq] at hl
  case alloc s z=>subst hl; simp only [xOp,xAlloc,e1 s (by simp)]
  case box s sz x=>subst hl; simp only [xOp,xBox,e1 s (by simp)]
  case store m a x =>
   split at hl<;>simp only [reduceCtorEq,Option.some.injEq] at hl
   rename_i b s i off hv
   subst hl
   simp only [xOp,xStore,hv,e1 b (by simp)]
  case mksl s sz bytes z a c=>subst hl; simp only [xOp,xMksl,e1 s (by simp)]
  case app s sz bytes z x y =>
   split at hl<;>simp only [reduceCtorEq,Option.some.injEq] at hl
   ·rename_i b st' sz' off len cap hv
    subst hl
    simp only [xOp,xApp,hv,e1 b (by simp),e1 s (by simp)]
   ·rename_i c es hv
    subst hl
    simp only [xOp,xApp,hv,e1 s (by simp)]
    cases c<;>cases es<;>rfl
  case cpy sz x y =>
   split at hl<;>simp only [reduceCtorEq,Option.some.injEq] at hl
   rename_i b s sz' off len cap hv
   subst hl
   simp only [xOp,xCpy,hv,e1 b (by simp)]
  case mkm s=>subst hl; simp only [xOp,xMkm,e1 s (by simp)]
  case mup k x key v =>
   split at hl<;>simp only [reduceCtorEq,Option.some.injEq] at hl
   rename_i b s hv
   subst hl
   simp only [xOp,xMup,hv,e1 b (by simp)]
  case del k x key =>
   split at hl<;>simp only [reduceCtorEq,Option.some.injEq] at hl
   rename_i b s hv
   subst hl
   simp only [xOp,xDel,hv,e1 b (by simp)]
  case clr sz z x =>
   split at hl<;>simp only [reduceCtorEq,Option.some.injEq] at hl
   rename_i b s sz' off len cap hv
   subst hl
   simp only [xOp,xClr,hv,e1 b (by simp)]
  case rngS s x=>subst hl; simp only [xOp,xRngS,e1 s (by simp)]
  case nxtS x =>
   split at hl<;>simp only [reduceCtorEq,Option.some.injEq] at hl
   rename_i b s i off hv
   subst hl
   simp only [xOp,xNxtS,hv,e1 b (by simp),e0]
  all_goals rfl
def CalFr (cal:Cal):Prop:=∀ (f:Nat) (args:List XV) (M:Nat) (wp:List Nat) (h:Heap) (n s:Nat) (R:Type) (K K':KX R),(∀ v h' n',StayX M wp h h'→K v h' n'=K' v h' n')→cal f args M wp h n s R K=cal f args M wp h n s R K'
structure Fro (N M:Nat) (ds ws:List Nat) (st st':XSt):Prop where
 t:∀ i,i ∉ ds→(st'.to N M).t[i]?=(st.to N M).t[i]?
 h:StayX M ws st.h st'.h
theorem Fro.refl {N M:Nat} {ds ws:List Nat} (st:XSt):Fro N M ds ws st st:=⟨fun _ _=>rfl,StayX.refl _ _ _⟩
theorem Fro.trans {N M:Nat} {ds ws:List Nat} {a b c:XSt} (h:Fro N M ds ws a b) (k:Fro N M ds ws b c):Fro N M ds ws a c:=⟨fun i hi=>(k.t i hi).trans (h.t i hi),h.h.trans k.h⟩
theorem Fro.of {N M:Nat} {ds ws:List Nat} {st st1:XSt} (h:st1.to N M=st.to N M):Fro N M ds ws st st1:=⟨fun i _=>by rw [h],fun b _=>by
 have:(st1.to N M).h=(st.to N M).h:=by rw [h]
 have e:toH M st1.h=toH M st.h:=this
 rw [e]⟩
theorem Fro.put {N M:Nat} {ds ws:List Nat} (st:XSt) {d:Option Nat} (hd:∀ x,d=some x→x ∈ ds) (v:XV) {h':Heap} {n':Nat} (hh:StayX M ws st.h h'):Fro N M ds ws st (XSt.put st.t d v h' n'):=by
 refine ⟨fun i hi=>?_,?_⟩
 ·rw [put_to]
  cases d with
  | none=>rfl
  | some x =>
   have hx:=hd x rfl
   show ((toT N st.t).set x v.toPV)[i]?=_
   rw [List.getElem?_set_ne (fun h=>hi (by rw [← h]; exact hx))]; rfl
 ·cases d<;>exact hh
theorem Fro.mono {N M:Nat} {ds ds' ws ws':List Nat} {st st':XSt} (h:Fro N M ds ws st st') (hd:∀ x ∈ ds,x ∈ ds') (hw:∀ x ∈ ws,x ∈ ws'):Fro N M ds' ws' st st':=⟨fun i hi=>h.t i (fun hm=>hi (hd i hm)),h.h.mono hw⟩
def dstIn (ds:List Nat) (x:IOper):Bool:=match x.dst with | some d=>inB' ds d | none=>true
theorem inB'_true:∀ {l:List Nat} {b:Nat},inB' l b=true→b ∈ l
 | [],b,h=>by cases h
 | x::r,b,h=>by
  simp only [inB'] at h
  split at h
  ·rename_i hx; rw [Nat.eq_of_beq_eq_true hx]; simp
  ·exact List.mem_cons_of_mem _ (inB'_true h)
theorem dstIn_ok {ds:List Nat} {x:IOper} (h:dstIn ds x=true):∀ y,x.dst=some y→y ∈ ds:=by
 intro y hy
 unfold dstIn at h
 rw [hy] at h
 exact inB'_true h
def setXO (ds:List Nat) (x:XO):Bool:=dstIn ds x.io&&x.fz.all (inB' ds)
theorem permB_ok {wp:List Nat} {o:Option (List Nat)} (h:permB wp o=true):∃ l,o=some l∧∀ b ∈ l,b ∈ wp:=by
 cases o with
 | none=>cases h
 | some l=>exact ⟨l,rfl,fun b hb=>inB'_true (List.all_eq_true.1 h b hb)⟩
theorem xDo_congr {cal:Cal} (hc:CalFr cal) {wp:List Nat} {N M o:Nat} {a:TT} {op:IOp} {d:Option Nat} {st:XSt} {K K':XSt→Option R} (h:∀ v h' n',StayX M wp st.h h'→K (XSt.put st.t d v h' n')=K' (XSt.put st.t d v h' n')):xDo cal wp N M o a op d st K=xDo cal wp N M o a op d st K':=by
 unfold xDo
 split
 ·exact hc _ _ _ _ _ _ _ _ _ _ h
 ·split
  ·exact hc _ _ _ _ _ _ _ _ _ _ h
  ·rfl
 ·split
  ·rename_i hp
   obtain ⟨l,hl,hw⟩:=permB_ok hp
   exact xOp_congr hl fun v h' n' hs=>h v h' n' (hs.mono hw)
  ·rfl
theorem xOne_congr {pur:Pur} {wp:List Nat} {N M o:Nat} {a:TT} {op:IOp} {d:Option Nat} {st:XSt} {K K':XSt→Option R} (h:∀ v h' n',StayX M wp st.h h'→K (XSt.put st.t d v h' n')=K' (XSt.put st.t d v h' n')):xOne pur wp N M o a op d st K=xOne pur wp N M o a op d st K':=by
 have e2:(fun (v:XV)=>K (XSt.put st.t d v st.h st.n))=fun (v:XV)=>K' (XSt.put st.t d v st.h st.n):=by
  funext v; exact h v _ _ (StayX.refl _ _ _)
 unfold xOne
 split
 ·rw [e2]
 ·rw [e2]
 ·split
  ·rw [e2]
  ·rfl
 ·split
  ·rw [e2]
  ·rfl
 ·split
  ·rename_i hp
   obtain ⟨l,hl,hw⟩:=permB_ok hp
   exact xOp_congr hl fun v h' n' hs=>h v h' n' (hs.mono hw)
  ·rfl
theorem xOneW_congr {pur:Pur} {wp:List Nat} {N M o:Nat} {a:TT} {ws:List Nat} {op:IOp} {d:Option Nat} {st:XSt} {K K':XSt→Option R} (h:∀ v h' n',StayX M wp st.h h'→K (XSt.put st.t d v h' n')=K' (XSt.put st.t d v h' n')):xOneW pur wp N M o a ws op d st K=xOneW pur wp N M o a ws op d st K':=by
 unfold xOneW
 split
 ·exact xOne_congr h
 ·split
  ·split
   ·rename_i hb
    exact pur.fr _ _ _ _ _ _ _ _ _ _ fun v h' n' hs=>h v h' n' (hs.mono fun x hx=>inB'_true (List.all_eq_true.1 hb x hx))
   ·rfl
  ·split
   ·rename_i hb
    split
    ·exact pur.fr _ _ _ _ _ _ _ _ _ _ fun v h' n' hs=>h v h' n' (hs.mono fun x hx=>inB'_true (List.all_eq_true.1 hb x hx))
    ·rfl
   ·rfl
  ·rfl
theorem xGuard_congr {N M:Nat} {ds ws:List Nat} {g:Option (Nat×Bool)} {st:XSt} {yes no yes' no':XSt→Option R} (hy:∀ st1,Fro N M ds ws st st1→yes st1=yes' st1) (hn:∀ st1,Fro N M ds ws st st1→no st1=no' st1):xGuard N g st yes no=xGuard N g st yes' no':=by
 unfold xGuard
 split
 ·exact hy st (Fro.refl st)
 ·split
  ·rename_i c hv
   split
   ·cases c with
    | true=>simp only [cond_true]; exact hy _ (Fro.of (setg_to hv))
    | false=>simp only [cond_false]; exact hn _ (Fro.of (setg_to hv))
   ·cases c with
    | true=>simp only [cond_true]; exact hn _ (Fro.of (setg_to hv))
    | false=>simp only [cond_false]; exact hy _ (Fro.of (setg_to hv))
  ·exact hn st (Fro.refl st)
  ·exact hn st (Fro.refl st)
  ·rfl
  ·exact hn st (Fro.refl st)
  ·rfl
theorem frzOk_tl {wp:List Nat} {N i:Nat} {st:XSt} {t:TT} {l:List t.den} {h:Heap} {n:Nat}:∀ {r:List Nat},frzOk wp N st r=true→frzOk wp N ⟨(i,.tl t l)::st.t,h,n⟩ r=true
 | [],_=>rfl
 | j::r,hk=>by
  simp only [frzOk,Bool.and_eq_true] at hk ⊢
  refine ⟨?_,frzOk_tl hk.2⟩
  by_cases hj:i=j
  ·subst hj
   simp only [evX,lk_cons,if_true]
   split
   ·rename_i hx
    split at hx
    ·cases hx
    ·cases hx
   ·rfl
  ·simp only [evX,lk_cons,if_neg hj]
   exact hk.1
theorem frzXs_congr {N M:Nat} {ds ws:List Nat}:∀ {l:List Nat} {st:XSt} {K K':XSt→Option R},(∀ i ∈ l,i ∈ ds)→frzOk ws N st l=true→(∀ st',Fro N M ds ws st st'→K st'=K' st')→frzXs N M l st K=frzXs N M l st K'
 | [],st,K,K',_,_,h=>h st (Fro.refl st)
 | i::r,st,K,K',hd,hk,h=>by
  simp only [frzOk,Bool.and_eq_true] at hk
  have hdr:∀ j ∈ r,j ∈ ds:=fun j hj=>hd j (List.mem_cons_of_mem _ hj)
  simp only [frzXs]
  unfold frzX
  split
  ·rename_i b s sz off len cap hv
   split
   ·rename_i t l hr
    have hb:b ∈ ws:=by
     have:=hk.1
     rw [hv] at this
     exact inB'_true this
    have s1:Fro N M ds ws st ⟨(i,.tl t ((l.drop off).take len))::st.t,(b,none)::st.h,st.n⟩:=by
     refine ⟨fun j hj=>?_,StayX.cons hb _ _⟩
     simp only [XSt.to,toT_set]
     rw [List.getElem?_set_ne (fun he=>hj (by rw [← he]; exact hd i (by simp)))]
    simp only
    rw [frzXs_congr hdr (frzOk_tl hk.2) (fun st' s'=>h st' (s1.trans s'))]
   ·rfl
  ·exact frzXs_congr hdr hk.2 h
  ·exact frzXs_congr hdr hk.2 h
  ·rfl
theorem setXO_ok {ds:List Nat} {x:XO} (h:setXO ds x=true):(∀ y,x.io.dst=some y→y ∈ ds)∧∀ i ∈ x.fz,i ∈ ds:=by
 unfold setXO at h
 rw [Bool.and_eq_true] at h
 exact ⟨dstIn_ok h.1,fun i hi=>inB'_true (List.all_eq_true.1 h.2 i hi)⟩
theorem xOps_congr {cal:Cal} (hc:CalFr cal) {wp:List Nat} {N M o:Nat} {ds:List Nat}:∀ {ops:List XO} {st:XSt} {K K':XSt→Option R},(ops.all (setXO ds))=true→(∀ st',Fro N M ds wp st st'→K st'=K' st')→xOps cal wp N M o ops st K=xOps cal wp N M o ops st K'
 | [],st,K,K',_,h=>h st (Fro.refl st)
 | x::l,st,K,K',hq,h=>by
  simp only [List.all_cons,Bool.and_eq_true] at hq
  obtain ⟨hd,hf⟩:=setXO_ok hq.1
  have hl:=hq.2
  simp only [xOps]
  split
  ·rename_i hk
   refine frzXs_congr hf hk fun st0 s0=>?_
   refine xGuard_congr (M:=M) (ds:=ds) (ws:=wp) (fun st1 s1=>?_) (fun st1 s1=>?_)
   ·refine xDo_congr hc fun v h' n' hs=>?_
    exact xOps_congr hc hl fun st' s'=>h st' (((s0.trans s1).trans (Fro.put st1 hd v hs)).trans s')
   ·exact xOps_congr hc hl fun st' s'=>h st' (((s0.trans s1).trans (Fro.put st1 hd _ (StayX.refl _ _ _))).trans s')
  ·rfl
theorem xDr_congr {pur:Pur} {wp:List Nat} {N M o:Nat} {ds:List Nat}:∀ {ops:List XO} {st:XSt} {K K':List XSt→Option R},(ops.all (setXO ds))=true→(∀ l,(∀ s,lastX l=some s→Fro N M ds wp st s)→K l=K' l)→xDr pur wp N M o ops st K=xDr pur wp N M o ops st K'
 | [],st,K,K',_,h=>h _ (fun s hs=>by cases hs; exact Fro.refl st)
 | x::l,st,K,K',hq,h=>by
  simp only [List.all_cons,Bool.and_eq_true] at hq
  obtain ⟨hd,hf⟩:=setXO_ok hq.1
  have hl:=hq.2
  simp only [xDr]
  have last:∀ {st':XSt} {m:List XSt},Fro N M ds wp st st'→(∀ s,lastX m=some s→Fro N M ds wp st' s)→∀ s,lastX (st::m)=some s→Fro N M ds wp st s:=by
   intro st' m h1 h2 s hs
   cases m with
   | nil=>cases hs; exact Fro.refl st
   | cons a m=>exact h1.trans (h2 s hs)
  refine xGuard_congr (M:=M) (ds:=ds) (ws:=wp) (fun st1 s1=>?_) (fun st1 s1=>?_)
  ·refine xOneW_congr fun v h' n' hs=>?_
   exact xDr_congr hl fun m hm=>h _ (last (s1.trans (Fro.put st1 hd v hs)) hm)
  ·exact xDr_congr hl fun m hm=>h _ (last (s1.trans (Fro.put st1 hd _ (StayX.refl _ _ _))) hm)
theorem xDraw_congr {pur:Pur} {wp:List Nat} {N M o:Nat} {ds:List Nat} {un:List (Nat×Nat)} {ops:List XO} {st:XSt} {K K':XSt→Option R} (hq:(ops.all (setXO ds))=true) (h:∀ st',Fro N M ds wp st st'→K st'=K' st'):xDraw pur wp N M o un ops st K=xDraw pur wp N M o un ops st K':=by
 unfold xDraw
 split
 ·refine xDr_congr (M:=M) hq fun l hl=>?_
  split
  ·rename_i s _ hs
   exact h s (hl s hs)
  ·rfl
 ·rfl
end Go.Proofs.Ytemdbhdjchkllaa.VL
