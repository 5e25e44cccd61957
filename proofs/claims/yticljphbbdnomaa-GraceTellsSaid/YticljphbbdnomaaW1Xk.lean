import Derived.Test.YticljphbbdnomaaW1Xj
namespace Go.Proofs.Yticljphbbdnomaa.VL
open Go
set_option linter.unusedVariables false
set_option linter.unusedSimpArgs false
set_option linter.unusedSectionVars false
variable [Val]
theorem cutB_stamp {c:CEnv} {x:SlF} {y:DT x.f.den×List Bool} (h:cutB c x=some y) :
  x.b < c.M∧(lkS c.h x.b=none→x.k=false∧∃ t sz,x.f=.rows t sz∧0 < sz)∧(∀ s0 k,lkS c.h x.b=some (s0,k)→x.k=true→c.ns x.b=some s0):=by
 unfold cutB at h
 split at h
 ·rename_i hb
  rw [Bool.and_eq_true] at hb
  refine ⟨blt_spec hb.1,?_⟩
  split at h
  ·rename_i s0 k hl
   split at h
   case h_2=>cases h
   rename_i hk
   refine ⟨(fun h1=>by rw [hl] at h1; cases h1),fun s1 k1 h1 h2=>?_⟩
   rw [hl] at h1
   cases h1
   unfold kpB at hk
   rw [h2] at hk
   simp only at hk
   split at hk
   ·rename_i s hs; rw [hs,Nat.eq_of_beq_eq_true hk]
   ·cases hk
  ·rename_i hl
   split at h
   ·cases h
   rename_i hkf
   refine ⟨fun _=>⟨hkf,?_⟩,(fun s1 k1 h1=>by rw [hl] at h1; cases h1)⟩
   obtain ⟨b,f,kp⟩:=x
   simp only at h ⊢
   cases f<;>simp only [cutN,reduceCtorEq] at h
   split at h
   ·rename_i h0; exact ⟨_,_,rfl,blt_spec h0⟩
   ·cases h
 ·cases h
theorem hasB_cons (x:SlF) (r:List SlF) (b:Nat):hasB (x::r) b=if x.b=b then true else hasB r b:=by
 simp only [hasB]
 by_cases h:x.b=b
 ·rw [if_pos h,(Nat.beq_eq ▸ h:Nat.beq x.b b=true)]
 ·rw [if_neg h]
  have:Nat.beq x.b b=false:=by rw [Bool.eq_false_iff]; intro hb; exact h (Nat.eq_of_beq_eq_true hb)
  rw [this]
theorem nwB_cons (x:SlF) (r:List SlF) (b:Nat):nwB (x::r) b=if x.b=b then !x.k else nwB r b:=by
 simp only [nwB]
 by_cases h:x.b=b
 ·rw [if_pos h,(Nat.beq_eq ▸ h:Nat.beq x.b b=true)]
 ·rw [if_neg h]
  have:Nat.beq x.b b=false:=by rw [Bool.eq_false_iff]; intro hb; exact h (Nat.eq_of_beq_eq_true hb)
  rw [this]
theorem nwB_has:∀ {l:List SlF} {b:Nat},nwB l b=true→hasB l b=true
 | [],b,h=>by cases h
 | x::r,b,h=>by
  rw [nwB_cons] at h
  rw [hasB_cons]
  split
  ·rfl
  ·rename_i hb; rw [if_neg hb] at h; exact nwB_has h
theorem nsOf_cons (fh:Heap) (base M:Nat) (ws:List Nat) (x:SlF) (r:List SlF) (b:Nat):nsOf fh base M ws (x::r) b=if x.b=b then stOf fh base x else nsOf fh base M ws r b:=by
 simp only [nsOf]
 by_cases h:x.b=b
 ·rw [if_pos h,(Nat.beq_eq ▸ h:Nat.beq x.b b=true)]
 ·rw [if_neg h]
  have:Nat.beq x.b b=false:=by rw [Bool.eq_false_iff]; intro hb; exact h (Nat.eq_of_beq_eq_true hb)
  rw [this]
theorem oldS_spec {fh:Heap} {M:Nat} {ws:List Nat} {b s:Nat} (h:oldS fh M ws b=some s):b < M∧b ∉ ws∧∃ k,lkS fh b=some (s,k):=by
 unfold oldS at h
 split at h
 ·rename_i hb
  rw [Bool.and_eq_true] at hb
  refine ⟨blt_spec hb.1,?_,?_⟩
  ·intro hm
   have:∀ {l:List Nat},b ∈ l→inB' l b=true:=by
    intro l
    induction l with
    | nil=>intro h; simp at h
    | cons x r ih =>
     intro h
     simp only [inB']
     split
     ·rfl
     ·rename_i hx
      rcases List.mem_cons.1 h with rfl | h
      ·rw [Nat.beq_refl] at hx; cases hx
      ·exact ih h
   rw [this hm] at hb
   simp at hb
  ·split at h
   ·rename_i y hy; cases h; exact ⟨y.2,hy⟩
   ·cases h
 ·cases h
theorem nsOf_out {fh:Heap} {base M:Nat} {ws:List Nat}:∀ {l:List SlF} {b:Nat},hasB l b=false→nsOf fh base M ws l b=oldS fh M ws b
 | [],b,_=>rfl
 | x::r,b,h=>by
  rw [hasB_cons] at h
  rw [nsOf_cons]
  split at h
  ·cases h
  ·rename_i hb; rw [if_neg hb]; exact nsOf_out h
theorem lnOf_out {fh:Heap}:∀ {l:List SlF} {v:DT (denH l)} {b:Nat},hasB l b=false→lnOf fh l v b=(match lkS fh b with | some y=>rowsB y.2 | none=>0)
 | [],v,b,_=>rfl
 | x::r,v,b,h=>by
  rw [hasB_cons] at h
  split at h
  ·cases h
  ·rename_i hb
   have hbf:Nat.beq x.b b=false:=by rw [Bool.eq_false_iff]; intro hh; exact hb (Nat.eq_of_beq_eq_true hh)
   simp only [lnOf,hbf]
   exact lnOf_out h
theorem nsOf_val {fh:Heap} {base M:Nat} {ws:List Nat}:∀ {l:List SlF} {b s:Nat},nsOf fh base M ws l b=some s→(nwB l b=true∧s=base+b)∨(nwB l b=false∧∃ k,lkS fh b=some (s,k))
 | [],b,s,h=>.inr ⟨rfl,(oldS_spec h).2.2⟩
 | x::r,b,s,h=>by
  rw [nsOf_cons] at h
  rw [nwB_cons]
  split at h
  ·rename_i hb
   rw [if_pos hb]
   unfold stOf at h
   split at h
   ·rename_i hk
    split at h
    ·rename_i y hy; cases h; exact .inr ⟨by simp [hk],y.2,by rw [← hb]; exact hy⟩
    ·cases h
   ·rename_i hk; cases h; exact .inl ⟨by simp [hk],by rw [hb]⟩
  ·rename_i hb
   rw [if_neg hb]
   exact nsOf_val h
theorem nsOf_nw {fh:Heap} {base M:Nat} {ws:List Nat}:∀ {l:List SlF} {b:Nat},nwB l b=true→nsOf fh base M ws l b=some (base+b)
 | [],b,h=>by cases h
 | x::r,b,h=>by
  rw [nwB_cons] at h
  rw [nsOf_cons]
  split at h
  ·rename_i hb
   rw [if_pos hb]
   unfold stOf
   have:x.k=false:=by simpa using h
   rw [this,hb]
  ·rename_i hb
   rw [if_neg hb]
   exact nsOf_nw h
theorem cutH_slot {c:CEnv} (e:XEnv) (hh fh:Heap):∀ {l:List SlF} {v:DT (denH l)} {g:List Bool},cutH c l=some (v,g)→∀ {b:Nat},hasB l b=true →
  ∃ (x:SlF) (a:DT x.f.den) (ga:List Bool),x ∈ l∧x.b=b∧(nwB l b=!x.k)∧cutB c x=some (a,ga)∧(∀ y ∈ ga,y ∈ g)∧lkS (expH e l v hh) b=some (e.ns b,expB e x.f a) ∧
   (lkS c.h b=none→lnOf fh l v b=0)∧(∀ s0 t l',lkS c.h b=some (s0,.rows t l')→lnOf fh l v b=l'.length)
 | [],v,g,h,b,hn=>by cases hn
 | x::r,v,g,h,b,hn=>by
  simp only [cutH] at h
  split at h
  ·rename_i hnd
   split at h
   ·rename_i a ga b' gb h1 h2
    simp only [Option.some.injEq,Prod.mk.injEq] at h
    obtain ⟨rfl,rfl⟩:=h
    rw [hasB_cons] at hn
    by_cases hb:x.b=b
    ·rw [if_pos hb] at hn
     refine ⟨x,a,ga,by simp,hb,by rw [nwB_cons,if_pos hb],h1,fun y hy=>List.mem_append_left _ hy,?_,?_,?_⟩
     ·simp only [expH,lkS,lk_cons,if_pos hb,dFst_mk]; rw [hb]
     ·intro hl
      simp only [lnOf,(Nat.beq_eq ▸ hb:Nat.beq x.b b=true),dFst_mk]
      unfold cutB at h1
      split at h1
      ·rw [hb,hl] at h1
       simp only at h1
       obtain ⟨xb,xf,xk⟩:=x
       simp only at a h1 ⊢
       cases xk<;>simp only [reduceCtorEq] at h1
       cases xf<;>simp only [cutN,reduceCtorEq] at h1
       split at h1
       ·simp only [Option.some.injEq,Prod.mk.injEq] at h1
        obtain ⟨h1,_⟩:=h1
        subst h1; rfl
       ·cases h1
      ·cases h1
     ·intro s0 t l' hl
      simp only [lnOf,(Nat.beq_eq ▸ hb:Nat.beq x.b b=true),dFst_mk]
      unfold cutB at h1
      split at h1
      ·rw [hb,hl] at h1
       simp only at h1
       obtain ⟨xb,xf,xk⟩:=x
       simp only at a h1 ⊢
       split at h1
       case h_2=>cases h1
       cases xf<;>simp only [cutK,reduceCtorEq] at h1
       split at h1
       ·rename_i l2 hc
        obtain ⟨e1,e2⟩:=castL_spec hc
        subst e1
        simp only [Option.some.injEq,Prod.mk.injEq] at h1
        obtain ⟨h1,_⟩:=h1
        subst h1 e2; rfl
       ·cases h1
      ·cases h1
    ·rw [if_neg hb] at hn
     obtain ⟨x',a',ga',q1,q2,q3,q4,q5,q6,q7,q8⟩:=cutH_slot e hh fh h2 hn
     have hbf:Nat.beq x.b b=false:=by rw [Bool.eq_false_iff]; intro hh; exact hb (Nat.eq_of_beq_eq_true hh)
     refine ⟨x',a',ga',List.mem_cons_of_mem _ q1,q2,by rw [nwB_cons,if_neg hb]; exact q3,q4,fun y hy=>List.mem_append_right _ (q5 y hy),?_,?_,?_⟩
     ·simp only [expH,lkS,lk_cons,if_neg hb,dSnd_mk]; exact q6
     ·intro hl; simp only [lnOf,hbf,dSnd_mk]; exact q7 hl
     ·intro s0 t l' hl; simp only [lnOf,hbf,dSnd_mk]; exact q8 s0 t l' hl
   ·cases h
  ·cases h
theorem expH_none {e:XEnv} {hh:Heap}:∀ {l:List SlF} {v:DT (denH l)} {b:Nat},hasB l b=false→lkS (expH e l v hh) b=lkS hh b
 | [],v,b,h=>rfl
 | x::r,v,b,h=>by
  rw [hasB_cons] at h
  split at h
  ·cases h
  ·rename_i hb
   simp only [expH,lkS,lk_cons,if_neg hb]
   exact expH_none h
theorem killW_lk:∀ (ws:List Nat) (h:Heap) (b:Nat),lkS (killW ws h) b=if b ∈ ws then none else lkS h b
 | [],h,b=>by simp [killW]
 | d::r,h,b=>by
  have:=killW_lk r h b
  simp only [killW,lkS,lk_cons] at this ⊢
  by_cases hd:d=b
  ·subst hd; simp
  ·have:¬ b=d:=fun e=>hd e.symm
   simp only [if_neg hd,List.mem_cons,this,false_or]
   assumption
theorem killT_lk:∀ (ds:List Nat) (t:List (Nat×XV)) (i:Nat),lk (killT ds t) i=if i ∈ ds then some .dead else lk t i
 | [],t,i=>by simp [killT]
 | d::r,t,i=>by
  simp only [killT,lk_cons,killT_lk r t i,List.mem_cons]
  by_cases h:d=i
  ·subst h; simp
  ·have:¬ i=d:=fun e=>h e.symm
   simp only [if_neg h,this,false_or]
theorem cutT_lk {c:CEnv} {e:XEnv} {E E':Env} (O:CutOk c e E E') {t tt:List (Nat×XV)}:∀ {l:List (Nat×Fm)} {v:DT (denT l)} {g:List Bool},(l.all fun x=>x.2.fine)=true→cutT c t l=some (v,g)→(∀ b ∈ g,b=true)→∀ {i:Nat} {y:XV},lk (expT e l v tt) i=some y →
  (∃ x,lk t i=some x∧Ito E E' x.toPV y.toPV)∨lk tt i=some y
 | [],v,g,_,h,hg,i,y,hy=>.inr hy
 | x::r,v,g,hf,h,hg,i,y,hy=>by
  simp only [List.all_cons,Bool.and_eq_true] at hf
  simp only [cutT] at h
  split at h
  ·rename_i z hz
   split at h
   ·rename_i a ga b gb h1 h2
    simp only [Option.some.injEq,Prod.mk.injEq] at h
    obtain ⟨rfl,rfl⟩:=h
    simp only [expT,lk_cons,dFst_mk,dSnd_mk] at hy
    by_cases hi:x.1=i
    ·rw [if_pos hi] at hy
     cases hy
     refine .inl ⟨z,by rw [← hi]; exact hz,?_⟩
     have hL:=cutF_spec O hf.1 h1 (fun b hb=>hg b (List.mem_append_left _ hb))
     generalize expF e x.2 a=ys at hL ⊢
     have hlen:=hL.len
     match ys with
     | []=>simp [toPVL] at hlen
     | [q]=>cases hL with | cons h t=>exact h
     | _::_::_=>simp [toPVL] at hlen
    ·rw [if_neg hi] at hy
     exact cutT_lk O hf.2 h2 (fun b hb=>hg b (List.mem_append_right _ hb)) hy
   ·cases h
  ·cases h
def qB (n b s:Nat):Option (Nat×Nat):=if s < n then some (b,s) else none
mutual
theorem ren_below {n:Nat}:∀ {x:XV},belowX n x=true→ren (qB n) x.toPV=x.toPV
 | .i _ _,_=>by simp [XV.toPV,ren]
 | .b _,_=>by simp [XV.toPV,ren]
 | .s _,_=>by simp [XV.toPV,ren]
 | .k p,h=>by cases p<;>simp [belowX] at h<;>simp [XV.toPV,ren]
 | .agg cs,h=>by simp only [belowX] at h; simp [XV.toPV,ren,ren_belowL h]
 | .arr t l,_=>by simp only [XV.toPV]; exact ren_closed _ _ (closed_enc (t:=.ar t) l)
 | .tup cs,h=>by simp only [belowX] at h; simp [XV.toPV,ren,ren_belowL h]
 | .tl t l,_=>by simp only [XV.toPV]; exact ren_closed _ _ (closed_enc (t:=.sl t) l)
 | .xl c es,h=>by simp only [belowX] at h; simp [XV.toPV,ren,ren_belowL h]
 | .own b s sz off len cap,h=>by simp only [belowX] at h; simp [XV.toPV,ren,qB,blt_spec h]
 | .optr b s i off,h=>by simp only [belowX] at h; simp [XV.toPV,ren,qB,blt_spec h]
 | .sptr cs,h=>by simp only [belowX] at h; simp [XV.toPV,ren,ren_belowL h]
 | .clo f fs cs,h=>by simp only [belowX,Bool.and_eq_true] at h; simp [XV.toPV,ren,ren_belowL h.1,ren_belowL h.2]
 | .mp b s,h=>by simp only [belowX] at h; simp [XV.toPV,ren,qB,blt_spec h]
 | .dead,_=>by simp [XV.toPV,ren]
theorem ren_belowL {n:Nat}:∀ {l:List XV},belowL n l=true→renL (qB n) (toPVL l)=toPVL l
 | [],_=>by simp [toPVL,renL]
 | x::r,h=>by
  simp only [belowL,Bool.and_eq_true] at h
  simp [toPVL,renL,ren_below h.1,ren_belowL h.2]
end
theorem renB_below {n:Nat} {k:XBlk} (h:belowB n k=true):renB (qB n) k.toB=k.toB:=by
 cases k with
 | row e=>simp only [belowB] at h; simp [XBlk.toB,renB,ren_below h]
 | rows t l =>
  simp only [XBlk.toB,renB,Blk.cells.injEq,List.map_map]
  congr 1
  funext v
  exact ren_closed _ _ (closed_enc v)
 | map kt vt l =>
  simp only [XBlk.toB,renB,Blk.map.injEq,List.map_map]
  congr 1
  funext v
  simp only [Function.comp,ren_closed _ _ (closed_enc v.1),ren_closed _ _ (closed_enc v.2)]
 | mapX l =>
  simp only [belowB] at h
  simp only [XBlk.toB,renB,Blk.map.injEq,List.map_map]
  revert h
  induction l with
  | nil=>intro _; rfl
  | cons p r ih =>
   intro h
   simp only [belowB.belowM,Bool.and_eq_true] at h
   simp only [List.map_cons,ih h.2.2,Function.comp,ren_below h.1,ren_below h.2.1]
 | iter s pos=>simp [XBlk.toB,renB]
theorem belowT_lk {n:Nat}:∀ {t:List (Nat×XV)} {i:Nat} {x:XV},belowT n t=true→lk t i=some x→belowX n x=true
 | [],i,x,_,h=>by cases h
 | (j,y)::r,i,x,hb,h=>by
  simp only [belowT,Bool.and_eq_true] at hb
  rw [lk_cons] at h
  split at h
  ·cases h; exact hb.1
  ·exact belowT_lk hb.2 h
theorem belowH_lk {n:Nat}:∀ {h:Heap} {b s:Nat} {k:XBlk},belowH n h=true→lkS h b=some (s,k)→s < n∧belowB n k=true
 | [],b,s,k,_,h=>by cases h
 | (j,y)::r,b,s,k,hb,h=>by
  simp only [belowH,Bool.and_eq_true] at hb
  simp only [lkS,lk_cons] at h
  by_cases hj:j=b
  ·rw [if_pos hj] at h
   have h:y=some (s,k):=h
   subst h
   have h1:=hb.1
   simp only [Bool.and_eq_true] at h1
   exact ⟨blt_spec h1.1,h1.2⟩
  ·rw [if_neg hj] at h
   exact belowH_lk hb.2 h
theorem gdL_some {R:Type}:∀ {g:List Bool} {k:Option R} {r:R},gdL g k=some r→(∀ b ∈ g,b=true)∧k=some r
 | [],k,r,h=>⟨fun b hb=>by simp at hb,h⟩
 | b::g,k,r,h=>by
  obtain ⟨h1,h2⟩:=guard_some h
  obtain ⟨h3,h4⟩:=gdL_some h2
  refine ⟨fun x hx=>?_,h4⟩
  rcases List.mem_cons.1 hx with rfl | hx
  ·exact h1
  ·exact h3 x hx
theorem toH_at {M:Nat} {h:Heap} {b s:Nat} {k:Blk} (hk:(toH M h)[b]?=some (some (s,k))):b < M∧∃ x,lkS h b=some (s,x)∧k=x.toB:=by
 have hlt:b < M:=by
  have:=(List.getElem?_eq_some_iff.1 hk).1
  rwa [toH_len] at this
 refine ⟨hlt,?_⟩
 simp only [toH,List.getElem?_map,List.getElem?_range hlt,Option.map_some,Option.some.injEq] at hk
 simp only [Option.map_eq_some_iff] at hk
 obtain ⟨⟨s',x⟩,h1,h2⟩:=hk
 cases h2
 exact ⟨x,h1,rfl⟩
theorem rd_of {M:Nat} {h:Heap} {b s:Nat} {k:XBlk} (hb:b < M) (hk:lkS h b=some (s,k)):rd M h b s=some k:=by
 unfold rd
 rw [hk]
 have h1:Nat.beq s s=true:=Nat.beq_refl s
 have h2:Nat.blt b M=true:=Nat.ble_eq ▸ hb
 simp only [h1,h2,Bool.and_self]
theorem cut_weak {base N M:Nat} {ds ws:List Nat} {f:XSt} {sh:Sh} {st:XSt} {R:Type} {K:sh.den→Option R} {r:R} (hok:sh.okB=true) (hbt:belowT base f.t=true) (hbh:belowH base f.h=true)
    (hT:∀ i x,i ∉ ds→i < N→lk f.t i=some x→(toT N st.t)[i]?=some x.toPV) (hHf:∀ b y,b ∉ ws→b < M→lkS f.h b=some y→(toH M st.h)[b]?=some (some (y.1,y.2.toB))) (hfz:∀ b,inB' sh.fz b=true→b ∈ ws∨lkS f.h b=none)
    (h:cutS f.h base M ws sh st K=some r):∃ v,K v=some r∧WeakB base (st.to N M) ((expS base M ds ws f sh v).to N M):=by
  unfold cutS at h
  split at h
  case h_2=>cases h
  rename_i va ga vb gb hTt hH
  obtain ⟨g1,h⟩:=gdL_some h
  obtain ⟨g2,h⟩:=gdL_some h
  refine ⟨_,h,?_⟩
  unfold Sh.okB at hok
  rw [Bool.and_eq_true] at hok
  intro C a E hbase I
  let xe:XEnv:=⟨nsD f.h base M ws sh.h,lnOf f.h sh.h vb⟩
  let hf:=killW ws f.h
  have hM:∀ b,hasB sh.h b=true→b < M∧(lkS st.h b=none→nwB sh.h b=true∧0 < szOf sh.h b)∧(∀ s0 k,lkS st.h b=some (s0,k)→nwB sh.h b=false→nsOf f.h base M ws sh.h b=some s0):=by
    intro b hs
    obtain ⟨x,a',ga',q1,rfl,q3,q4,_⟩:=cutH_slot xe hf f.h hH hs
    obtain ⟨k1,k3,k4⟩:=cutB_stamp q4
    refine ⟨k1,fun hl=>?_,fun s0 k hl hnw=>k4 s0 k hl (by rw [q3] at hnw; simpa using hnw)⟩
    obtain ⟨kf,t,sz,k5,k6⟩:=k3 hl
    refine ⟨by rw [q3,kf]; rfl,?_⟩
    have first:∀ {l:List SlF} {v:DT (denH l)} {g:List Bool},cutH (envOf f.h base M ws sh st.h) l=some (v,g)→x ∈ l→szOf l x.b=sz:=by
      intro l
      induction l with
      | nil=>intro v g _ hx; simp at hx
      | cons y r ih =>
        intro v g h1 hx
        simp only [cutH] at h1
        split at h1
        · rename_i hnd
          split at h1
          · rename_i p1 p2 p3 p4 z1 z2
            simp only [szOf]
            rcases List.mem_cons.1 hx with rfl | hx
            · rw [Nat.beq_refl]; simp only [k5]
            · have hne:Nat.beq y.b x.b=false:=by
                rw [Bool.eq_false_iff]
                intro hh
                have hh:=Nat.eq_of_beq_eq_true hh
                have:∀ {l:List SlF},x ∈ l→hasB l x.b=true:=by
                  intro l
                  induction l with
                  | nil=>intro h; simp at h
                  | cons w m ih2 =>
                    intro h
                    rw [hasB_cons]
                    split
                    · rfl
                    · rename_i hw
                      rcases List.mem_cons.1 h with rfl | h
                      · exact absurd rfl hw
                      · exact ih2 h
                have:=this hx
                rw [← hh,hnd] at this; cases this
              rw [hne]
              exact ih z2 hx
          · cases h1
        · cases h1
    rw [first hH q1]; exact k6
  let σ':Nat→Option Ent:=fun s=>if s < base then E.σ s else match nwB sh.h (s - base) with
    | true=>(match lkS st.h (s - base) with | some y=>E.σ y.1 | none=>some ⟨0,0,szOf sh.h (s - base),0⟩)
    | false=>none
  let fzr:Nat→Prop:=fun r=>∃ (b s:Nat) (k:XBlk) (en:Ent),inB' sh.fz b=true∧rd M st.h b s=some k∧E.σ s=some en∧en.tot≠0∧r=en.rb
  let E':Env:=⟨E.w,σ',fun r=>E.S r∨fzr r⟩
  have hlow:∀ s,s < base→σ' s=E.σ s:=fun s hs=>by simp only [σ',if_pos hs]
  have hσ:∀ (b s s0:Nat) (k:XBlk),nsOf f.h base M ws sh.h b=some s→lkS st.h b=some (s0,k)→σ' s=E.σ s0:=by
    intro b s s0 k hs hl
    rcases nsOf_val hs with ⟨hn,rfl⟩ | ⟨hn,k0,hk0⟩
    · have e1:base+b - base=b:=by omega
      simp only [σ']
      rw [if_neg (by omega),e1,hn]
      simp only [hl]
    · have h1:s0=s:=by
        cases hb:hasB sh.h b with
        | true =>
          have h1:=(hM b hb).2.2 s0 k hl hn
          rw [hs] at h1
          cases h1; rfl
        | false =>
          rw [nsOf_out hb] at hs
          obtain ⟨z1,z2,k1,z3⟩:=oldS_spec hs
          have h1:=hHf b _ z2 z1 z3
          obtain ⟨_,x,h2,h3⟩:=toH_at h1
          rw [hl] at h2
          cases h2; rfl
      subst h1
      exact hlow s0 (belowH_lk hbh hk0).1
  have hasN:∀ (b s:Nat),nsOf f.h base M ws sh.h b=some s→lkS st.h b=none→hasB sh.h b=true:=by
    intro b s hs hl
    cases hb:hasB sh.h b with
    | true=>rfl
    | false =>
      rw [nsOf_out hb] at hs
      obtain ⟨z1,z2,k1,z3⟩:=oldS_spec hs
      have h1:=hHf b _ z2 z1 z3
      obtain ⟨_,x,h2,h3⟩:=toH_at h1
      rw [hl] at h2
      cases h2
  have hσ0:∀ (b s:Nat),nsOf f.h base M ws sh.h b=some s→lkS st.h b=none→σ' s=some ⟨0,0,szOf sh.h b,0⟩:=by
    intro b s hs hl
    have hb:=hasN b s hs hl
    have h1:=((hM b hb).2.1 hl).1
    rcases nsOf_val hs with ⟨hn,rfl⟩ | ⟨hn,_⟩
    · have e1:base+b - base=b:=by omega
      simp only [σ']
      rw [if_neg (by omega),e1,hn]
      simp only [hl]
    · rw [h1] at hn; cases hn
  have at1:∀ (b s:Nat) (k:XBlk),rd M st.h b s=some k→∃ en,At E (st.to N M).h b s k.toB en∧BRep E en k.toB∧(en.tot≠0→¬ E.S en.rb):=by
    intro b s k hr
    obtain ⟨h1,h2⟩:=rd_spec hr
    obtain ⟨en,A,B,S⟩:=I.good.blk b s _ h2
    exact ⟨en,A,B,S⟩
  have O:CutOk (envOf f.h base M ws sh st.h) xe E E':=by
    refine ⟨fun r hr=>.inl hr,rfl,?_,?_,fun b s' hs hl=>hσ0 b s' hs hl,fun b s' hs=>?_,?_,?_⟩
    · intro b s s' k en hr hs hE
      show σ' s'=some en
      rw [hσ b s' s k hs (rd_lkS hr)]; exact hE
    · intro b s k hf hr
      obtain ⟨en,A,B,S⟩:=at1 b s k hr
      exact ⟨en,A.σ,B,fun h0=>.inr ⟨b,s,k,en,hf,hr,A.σ,h0,rfl⟩⟩
    · have hs:nsOf f.h base M ws sh.h b=some s':=hs
      show nsD f.h base M ws sh.h b=s'
      unfold nsD
      rw [hs]
    · intro b s' hs hl
      obtain ⟨_,_,_,_,_,_,_,_,_,q7,_⟩:=cutH_slot xe hf f.h hH (hasN b s' hs hl)
      exact q7 hl
    · intro b s' s t l hs hl
      cases hb:hasB sh.h b with
      | true =>
        obtain ⟨_,_,_,_,_,_,_,_,_,_,q8⟩:=cutH_slot xe hf f.h hH hb
        exact q8 s t l hl
      | false =>
        have hs:nsOf f.h base M ws sh.h b=some s':=hs
        rw [nsOf_out hb] at hs
        obtain ⟨z1,z2,k1,z3⟩:=oldS_spec hs
        have h1:=hHf b _ z2 z1 z3
        obtain ⟨_,x,h2,h3⟩:=toH_at h1
        have hl:lkS st.h b=some (s,.rows t l):=hl
        rw [hl] at h2
        cases h2
        show lnOf f.h sh.h vb b=l.length
        rw [lnOf_out hb,z3]
        have h3:k1.toB=(XBlk.rows t l).toB:=h3
        cases k1 with
        | rows t0 l0 =>
          simp only [XBlk.toB,Blk.cells.injEq] at h3
          have:=congrArg List.length h3
          simp only [List.length_map] at this
          exact this
        | row e0 =>
          simp only [XBlk.toB,Blk.cells.injEq] at h3
          have:=congrArg List.length h3
          simp only [List.length_map,List.length_cons,List.length_nil] at this
          exact this
        | _=>simp [XBlk.toB] at h3
  have below:∀ (p:PV) (u:Value),ren (qB base) p=p→Rep E p u→Rep E' p u:=by
    intro p u hp hr
    have:=Rep.ren (E:=E) (E':=E') (q:=qB base) (fun r hr=>.inl hr) (fun _ _=>rfl) (fun b s b' s' en hq hs=>by
      unfold qB at hq
      split at hq
      · rename_i hlt
        cases hq
        show σ' s=some en
        rw [hlow s hlt]; exact hs
      · cases hq) hr
    rwa [hp] at this
  have belowBk:∀ (en:Ent) (k:Blk),renB (qB base) k=k→BRep E en k→BRep E' en k:=by
    intro en k hp hr
    have:=BRep.ren (E:=E) (E':=E') (q:=qB base) (fun r hr=>.inl hr) (fun _ _=>rfl) (fun b s b' s' en hq hs=>by
      unfold qB at hq
      split at hq
      · rename_i hlt
        cases hq
        show σ' s=some en
        rw [hlow s hlt]; exact hs
      · cases hq) (fun _=>rfl) hr
    rwa [hp] at this
  have live:∀ (b s:Nat) (k:Blk),((expS base M ds ws f sh (dMk _ _ va vb)).to N M).h[b]?=some (some (s,k))→b < M ∧
      ((∃ s0 k0 en,At E (st.to N M).h b s0 k0 en∧(inB' sh.fz b=true→False)∧σ' s=some en∧BRep E' en k∧(en.tot≠0→¬ E.S en.rb)) ∨
       (∃ en:Ent,en.tot=0∧σ' s=some en∧BRep E' en k)):=by
    intro b s k hk
    have hk:(toH M (expH xe sh.h vb hf))[b]?=some (some (s,k)):=by
      have:=hk
      simpa only [XSt.to,expS,dSnd_mk] using this
    obtain ⟨hb,x,hl,rfl⟩:=toH_at hk
    refine ⟨hb,?_⟩
    cases hs:hasB sh.h b with
    | true =>
      obtain ⟨y,a',ga',q1,rfl,q3,q4,q5,q6,_⟩:=cutH_slot xe hf f.h hH hs
      have hs0:=hs
      have hs:nsOf f.h base M ws sh.h y.b=some s:=by
        rw [q6] at hl
        simp only [Option.some.injEq,Prod.mk.injEq] at hl
        obtain ⟨hl1,hl2⟩:=hl
        have hl1:nsD f.h base M ws sh.h y.b=s:=hl1
        cases hn:nsOf f.h base M ws sh.h y.b with
        | some s2=>unfold nsD at hl1; rw [hn] at hl1; exact congrArg some hl1
        | none =>
          exfalso
          cases hw:nwB sh.h y.b with
          | true=>rw [nsOf_nw hw] at hn; cases hn
          | false =>
            cases hk:lkS st.h y.b with
            | none=>have:=((hM _ hs0).2.1 hk).1; rw [hw] at this; cases this
            | some z =>
              have:=(hM _ hs0).2.2 z.1 z.2 hk hw
              rw [hn] at this; cases this
      rw [q6] at hl
      simp only [Option.some.injEq,Prod.mk.injEq] at hl
      obtain ⟨hl1,hl2⟩:=hl
      subst hl2
      have hbf:bfOk y.f=true:=List.all_eq_true.1 hok.2 y q1
      obtain ⟨z1,z2,z3⟩:=cutB_spec O hbf q4 (fun b hb=>g2 b (q5 b hb))
      rcases z3 with ⟨s0,k0,z4,z6⟩ | ⟨z4,t,sz,z6,z7,z8⟩
      · left
        have hr:=rd_of hb z4
        obtain ⟨en,A,B,S⟩:=at1 y.b s0 k0 hr
        refine ⟨s0,_,en,A,(fun hh=>by rw [show inB' sh.fz y.b=false from z2] at hh; cases hh),?_,z6 en B,S⟩
        rw [hσ y.b _ s0 k0 hs z4]; exact A.σ
      · right
        refine ⟨⟨0,0,szOf sh.h y.b,0⟩,rfl,hσ0 y.b _ hs z4,z8 _ rfl ?_⟩
        exact ((hM y.b hs0).2.1 z4).2
    | false =>
      left
      rw [expH_none hs,killW_lk] at hl
      split at hl
      · cases hl
      · rename_i hnw
        obtain ⟨b1,b2⟩:=belowH_lk hbh hl
        have hreal:=hHf b (s,x) hnw hb hl
        obtain ⟨en,A,B,S⟩:=I.good.blk b s x.toB hreal
        refine ⟨s,_,en,A,(fun hh=>?_),by rw [hlow s b1]; exact A.σ,belowBk en _ (renB_below b2) B,S⟩
        rcases hfz b hh with h1 | h1
        · exact hnw h1
        · rw [h1] at hl; cases hl
  refine ⟨E',rfl,{ good:=⟨?_,?_,?_,?_⟩,since:=?_,touch:=?_,defers:=I.defers,tsize:=?_,tmps:=?_ }⟩
  · intro s hs
    have hs:base+M≤s:=hs
    show σ' s=none
    simp only [σ']
    rw [if_neg (by omega)]
    cases hn:nwB sh.h (s - base) with
    | false=>rfl
    | true =>
      have:=(hM _ (nwB_has hn)).1
      omega
  · intro b s k hk
    obtain ⟨hb,h1⟩:=live b s k hk
    rcases h1 with ⟨s0,k0,en,A,hf,h2,h3,h4⟩ | ⟨en,h0,h2,h3⟩
    · refine ⟨en,⟨hk,h2⟩,h3,fun h0 hS=>?_⟩
      rcases hS with hS | ⟨b',s',k',en',f1,f2,f3,f4,f5⟩
      · exact h4 h0 hS
      · obtain ⟨en2,A2,_⟩:=at1 b' s' k' f2
        have:en2=en':=by have:=A2.σ; rw [f3] at this; cases this; rfl
        subst this
        have hbb:=I.good.inj b b' s0 s' _ _ en en2 A A2 h0 f4 f5
        subst hbb
        exact hf f1
    · exact ⟨en,⟨hk,h2⟩,h3,fun hn=>absurd h0 hn⟩
  · intro b b' s s' k k' en en' A A' h0 h0' he
    obtain ⟨_,h1⟩:=live b s k A.slot
    obtain ⟨_,h1'⟩:=live b' s' k' A'.slot
    rcases h1 with ⟨s0,k0,e1,B1,_,q1,_⟩ | ⟨e1,z0,q1,_⟩
    · have:e1=en:=by have:=A.σ; rw [show E'.σ s=σ' s from rfl,q1] at this; cases this; rfl
      subst this
      rcases h1' with ⟨s0',k0',e2,B2,_,q2,_⟩ | ⟨e2,z0,q2,_⟩
      · have:e2=en':=by have:=A'.σ; rw [show E'.σ s'=σ' s' from rfl,q2] at this; cases this; rfl
        subst this
        exact I.good.inj b b' s0 s0' _ _ e1 e2 B1 B2 h0 h0' he
      · have:e2=en':=by have:=A'.σ; rw [show E'.σ s'=σ' s' from rfl,q2] at this; cases this; rfl
        subst this
        exact absurd z0 h0'
    · have:e1=en:=by have:=A.σ; rw [show E'.σ s=σ' s from rfl,q1] at this; cases this; rfl
      subst this
      exact absurd z0 h0
  · intro r hr
    rcases hr with hr | ⟨b',s',k',en',f1,f2,f3,f4,rfl⟩
    · exact I.good.stay r hr
    · obtain ⟨en2,A2,_⟩:=at1 b' s' k' f2
      have:en2=en':=by have:=A2.σ; rw [f3] at this; cases this; rfl
      subst this
      exact A2.lt I.good f4
  · refine { os:=I.since.os,tape:=I.since.tape,output:=I.since.output,size:=I.since.size,kept:=I.since.kept,drawn:=I.since.drawn,σ:=?_,S1:=fun r hr=>.inl (I.since.S1 r hr),S2:=?_ }
    · intro b en hb
      have hlt:b < base:=by
        rcases Nat.lt_or_ge b base with h | h
        · exact h
        · rw [hbase b h] at hb; cases hb
      show σ' b=some en
      rw [hlow b hlt]
      exact I.since.σ b en hb
    · intro r hr
      rcases hr with hr | ⟨b',s',k',en',f1,f2,f3,f4,rfl⟩
      · exact I.since.S2 r hr
      · obtain ⟨en2,A2,_⟩:=at1 b' s' k' f2
        have:en2=en':=by have:=A2.σ; rw [f3] at this; cases this; rfl
        subst this
        rcases I.touch _ _ _ _ A2 f4 with h | h
        · exact .inr (.inl h)
        · exact .inr (.inr h)
  · intro b s k en A h0
    obtain ⟨_,h1⟩:=live b s k A.slot
    rcases h1 with ⟨s0,k0,e1,B1,_,q1,_⟩ | ⟨e1,z0,q1,_⟩
    · have:e1=en:=by have:=A.σ; rw [show E'.σ s=σ' s from rfl,q1] at this; cases this; rfl
      subst this
      exact I.touch b s0 _ e1 B1 h0
    · have:e1=en:=by have:=A.σ; rw [show E'.σ s=σ' s from rfl,q1] at this; cases this; rfl
      subst this
      exact absurd z0 h0
  · have:=I.tsize
    simp only [XSt.to,toT_len] at this ⊢
    exact this
  · intro i p u hp hu
    have hp:(toT N (expT xe sh.t va (killT ds f.t)))[i]?=some p:=by
      have:=hp
      simpa only [XSt.to,expS,dSnd_mk,dFst_mk] using this
    have hi:i < N:=by
      have:=(List.getElem?_eq_some_iff.1 hp).1
      rwa [toT_len] at this
    simp only [toT,List.getElem?_map,List.getElem?_range hi,Option.map_some,Option.some.injEq] at hp
    subst hp
    cases hy:lk (expT xe sh.t va (killT ds f.t)) i with
    | none=>exact .dead u
    | some y =>
      rcases cutT_lk O hok.1 hTt g1 hy with ⟨x,hx,hI⟩ | hy2
      · refine hI u (I.tmps i _ u ?_ hu)
        simp only [XSt.to,toT,List.getElem?_map,List.getElem?_range hi,Option.map_some,hx,Option.getD_some]
      · rw [killT_lk] at hy2
        split at hy2
        · cases hy2; exact .dead u
        · rename_i hds
          exact below _ u (ren_below (belowT_lk hbt hy2)) (I.tmps i _ u (hT i y hds hi hy2) hu)
end Go.Proofs.Yticljphbbdnomaa.VL
