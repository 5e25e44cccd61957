import Derived.Test.YticljphbbdnomaaW1Xd
namespace Go.Proofs.Yticljphbbdnomaa.VL
open Go
set_option linter.unusedVariables false
set_option linter.unusedSimpArgs false
set_option linter.unusedSectionVars false
variable [Val]
variable {R:Type} {w:Bool} {M:Nat} {ρ:Opd→XV} {h:Heap} {n:Nat}
abbrev rp (ρ:Opd→XV):Opd→PV:=fun x=>(ρ x).toPV
abbrev Op (w:Bool) (M:Nat) (ρ:Opd→XV) (h:Heap) (n:Nat) (R:Type) (f:KX R→Option R) (op:IOp):Prop:=Snd w M f fun Q=>opK (rp ρ) (toH M h) n Q op
theorem pick_snd {c a b:Opd}:Op w M ρ h n R (xPick (ρ c) (ρ a) (ρ b) h n) (.pick c a b):=by
 intro K r Q hk O
 simp only [opK]
 unfold xPick at hk
 split at hk
 ·rename_i t hc
  simp only [rp,hc,XV.toPV]
  split at hk
  ·rename_i x y ha hb
   have:=O.ok hk
   simp only [ha,hb,XV.toPV] at this ⊢
   exact ⟨(fun ht=>by subst ht; exact this),(fun ht=>by subst ht; exact this)⟩
  ·rename_i k x k' y ha hb
   split at hk
   ·rename_i he
    have:=O.ok hk
    have he:=ikB_eq he
    simp only [ha,hb,XV.toPV,he] at this ⊢
    exact ⟨(fun ht=>by subst ht; exact this),(fun ht=>by subst ht; exact this)⟩
   ·cases hk
  ·rcases cond_some hk with ⟨ht,hk⟩ | ⟨ht,hk⟩
   ·subst ht; exact ⟨fun _=>O.ok hk,fun h=>by cases h⟩
   ·subst ht; exact ⟨(fun h=>by cases h),fun _=>O.ok hk⟩
 ·cases hk
theorem alloc_snd {s:Nat} {a:TT} {z:PV}:Op w M ρ h n R (xAlloc M s a z h n) (.alloc s z):=by
 intro K r Q hk O
 simp only [opK]
 unfold xAlloc at hk
 split at hk
 ·rename_i hb
  rw [Bool.and_eq_true,Bool.and_eq_true] at hb
  have:=O.ok hk
  rw [toH_set] at this
  simp only [XV.toPV,Option.map_some,XBlk.toB,rowOf_spec] at this
  exact ⟨by rw [toH_len]; exact blt_spec hb.1,hb.2.1,blt_spec hb.2.2,this⟩
 ·cases hk
theorem box_snd {s sz:Nat} {x:Opd}:Op w M ρ h n R (xBox M s sz (ρ x) h n) (.box s sz x):=by
 intro K r Q hk O
 simp only [opK]
 unfold xBox at hk
 split at hk
 ·rename_i hb
  rw [Bool.and_eq_true,Bool.and_eq_true] at hb
  have fin:∀ {x':XV},ρ x=x'→x'.toPV.cells.length=sz→K (.optr s n 0 0) ((s,some (n,.row x'))::h) (n+1)=some r→s < (toH M h).length∧(rp ρ x).stor=true∧0 < sz∧(rp ρ x).cells.length=sz∧Q (.optr s n 0 0) ((toH M h).set s (some (n,.cells [rp ρ x]))) (n+1):=by
   intro x' hx hc hk
   have:=O.ok hk
   rw [toH_set] at this
   simp only [XV.toPV,Option.map_some,XBlk.toB] at this
   simp only [rp,hx]
   exact ⟨by rw [toH_len]; exact blt_spec hb.1,storX_spec (by rw [← hx]; exact hb.2.1),blt_spec hb.2.2,hc,this⟩
  split at hk
  ·rename_i t l hx
   obtain ⟨h1,hk⟩:=guard_some hk
   rw [hx] at hk
   exact fin hx (by simp [XV.toPV,PV.cells]; simpa using h1) hk
  ·rename_i x' hne
   split at hk
   ·rename_i hl
    refine fin rfl ?_ hk
    rw [cells_toPV _ (fun t l e=>absurd e (hne t l)),toPVL_map,List.length_map]
    exact Nat.eq_of_beq_eq_true hl
   ·cases hk
 ·cases hk
theorem cells_agg (cs:List PV):(PV.agg cs).cells=cs:=rfl
theorem isAgg_agg (cs:List PV):(PV.agg cs).isAgg=true:=rfl
theorem toPVL_take (l:List XV) (k:Nat):toPVL (l.take k)=(toPVL l).take k:=by simp [toPVL_map]
theorem toPVL_drop (l:List XV) (k:Nat):toPVL (l.drop k)=(toPVL l).drop k:=by simp [toPVL_map]
theorem toPVL_len (l:List XV):(toPVL l).length=l.length:=by simp [toPVL_map]
theorem fillX_spec:∀ {ps:List (Nat×Nat×Opd)} {cs cs':List XV},fillX ρ cs ps=some cs'→fillV (rp ρ) (toPVL cs) ps=some (toPVL cs')
 | [],cs,cs',h=>by cases h; rfl
 | p::ps,cs,cs',h=>by
  obtain ⟨off,m,x⟩:=p
  simp only [fillX] at h
  split at h
  ·rename_i hb
   simp only [Bool.and_eq_true] at hb
   obtain ⟨h1,h2,h3,h4⟩:=hb
   have hc:=cells_notArr h1
   simp only [fillV,rp]
   rw [if_pos ⟨by rw [hc,toPVL_len]; exact Nat.eq_of_beq_eq_true h2,by rw [toPVL_len]; exact Nat.le_of_ble_eq_true h3,storX_spec h4⟩]
   have:=fillX_spec h
   simp only [toPVL_append,toPVL_take,toPVL_drop] at this
   rw [hc]; exact this
  ·cases h
theorem bld_snd {z:List PV} {ps:List (Nat×Nat×Opd)}:Op w M ρ h n R (xBld ρ z ps h n) (.bld z ps):=by
 intro K r Q hk O
 simp only [opK]
 unfold xBld at hk
 split at hk
 ·rename_i cs hc
  have:=fillX_spec hc
  rw [toPVL_ofPVL] at this
  rw [this]
  have:=O.ok hk
  simpa only [XV.toPV] using this
 ·cases hk
theorem partsX_spec:∀ (ps:List (Nat×Opd)) (z:XV) (i:Nat),(partsX ρ z i ps).toPV=partsV (rp ρ) z.toPV i ps
 | [],z,i=>rfl
 | p::ps,z,i=>by
  simp only [partsX,partsV]
  rw [partsX_spec ps]
  by_cases hi:p.1=i
  ·rw [if_pos hi,(Nat.beq_eq ▸ hi:Nat.beq p.1 i=true)]
  ·rw [if_neg hi]
   have:Nat.beq p.1 i=false:=by rw [Bool.eq_false_iff]; intro hb; exact hi (Nat.eq_of_beq_eq_true hb)
   rw [this]
theorem bsl_snd {sz:Nat} {z:PV} {len:Nat} {ps:List (Nat×Opd)}:Op w M ρ h n R (xBsl ρ sz z len ps h n) (.bsl sz z len ps):=by
 intro K r Q hk O
 simp only [opK]
 unfold xBsl at hk
 split at hk
 ·rename_i hb
  simp only [Bool.and_eq_true,List.all_eq_true] at hb
  obtain ⟨h1,h2,h3,h4,h5⟩:=hb
  have:=O.ok hk
  simp only [XV.toPV,toPVL_map,List.map_map] at this
  refine ⟨blt_spec h1,Nat.le_of_ble_eq_true h2,Nat.eq_of_beq_eq_true h3,h4,fun p hp=>?_,?_⟩
  ·obtain ⟨a,b,c,d⟩:=h5 p hp
   refine ⟨?_,storX_spec c,blt_spec d⟩
   simp only [rp]
   rw [cells_notArr a,toPVL_len]; exact Nat.eq_of_beq_eq_true b
  ·have e:(fun i=>partsV (rp ρ) z i ps)=XV.toPV ∘ fun i=>partsX ρ (ofPV z) i ps:=by
    funext i
    simp only [Function.comp,partsX_spec,toPV_ofPV]
   rw [e]; exact this
 ·cases hk
theorem ldvX_spec {g:Bool} {m:Nat} {e v:XV} {off:Nat} (he:notArr e=true) (hv:ldvX g m e off=some v):ldv g m e.toPV off=some v.toPV:=by
 have hc:=cells_notArr he
 unfold ldvX at hv
 unfold ldv
 split at hv
 ·rename_i hb
  simp only [Bool.and_eq_true] at hb
  cases hv
  rw [if_pos ⟨Nat.eq_of_beq_eq_true hb.1,by rw [hc,toPVL_len]; exact Nat.eq_of_beq_eq_true hb.2.1,by rw [isAgg_toPV]; exact eqBB_eq hb.2.2⟩]
 ·rename_i hb
  rw [if_neg (by
   rintro ⟨h1,h2,h3⟩
   subst h1
   rw [hc,toPVL_len] at h2
   rw [isAgg_toPV] at h3
   subst h2 h3
   rw [Bool.and_eq_false_iff,Bool.and_eq_false_iff] at hb
   have q:Nat.beq (0:Nat) 0=true:=rfl
   have q2:Nat.beq e.cells.length e.cells.length=true:=Nat.beq_refl _
   have q3:eqBB (isAggX e) (isAggX e)=true:=by cases isAggX e<;>rfl
   rw [q,q2,q3] at hb
   simp at hb)]
  split at hv
  ·rename_i hle
   rw [hc,toPVL_len,if_pos (Nat.le_of_ble_eq_true hle)]
   split at hv
   ·cases hv
    simp only [XV.toPV,toPVL_take,toPVL_drop,if_true]
   ·split at hv
    ·rename_i h1
     rw [if_neg (by simp),if_pos (Nat.eq_of_beq_eq_true h1)]
     rw [toPVL_map,List.getElem?_map,hv]; rfl
    ·cases hv
  ·cases hv
theorem ldK_spec {g:Bool} {m:Nat} {e:XV} {off:Nat} {K:XV→Option R} {r:R} (hk:ldK g m e off K=some r):∃ v:XV,K v=some r∧ldv g m e.toPV off=some v.toPV:=by
 unfold ldK at hk
 split at hk
 ·rename_i t l
  split at hk
  ·split at hk
   ·rename_i h0
    obtain ⟨h1,hk⟩:=guard_some hk
    refine ⟨_,hk,?_⟩
    have h0:=Nat.eq_of_beq_eq_true h0
    subst h0
    simp only [XV.toPV,ldv,cells_agg,isAgg_agg,List.length_map]
    rw [if_pos ⟨trivial,by simpa using h1,trivial⟩]
   ·cases hk
  ·split at hk
   ·rename_i hb
    rw [Bool.and_eq_true] at hb
    rw [Option.bind_eq_some_iff] at hk
    obtain ⟨v,hv,hk⟩:=hk
    refine ⟨_,hk,?_⟩
    have h1:=Nat.eq_of_beq_eq_true hb.1
    subst h1
    have hlt:=(List.getElem?_eq_some_iff.1 hv).1
    simp only [XV.toPV,ldv,cells_agg,isAgg_agg,List.length_map]
    rw [if_neg (by simp),if_pos (by omega),if_neg (by simp)]
    simp only [if_true,List.getElem?_map,hv,toPV_expand1 hb.2,Option.map_some]
   ·cases hk
 ·rename_i hne
  split at hk
  ·rename_i v hv
   exact ⟨v,hk,ldvX_spec (by cases e<;>first | rfl | exact absurd rfl (hne _ _)) hv⟩
  ·cases hk
theorem load_snd {g:Bool} {m:Nat} {a:Opd}:Op w M ρ h n R (xLoad M g m (ρ a) h n) (.load g m a):=by
 intro K r Q hk O
 simp only [opK]
 unfold xLoad at hk
 split at hk
 ·rename_i b s i off ha
  simp only [rp,ha,XV.toPV]
  split at hk
  ·rename_i e hr
   obtain ⟨_,hr⟩:=rd_spec hr
   split at hk
   ·rename_i hi
    have hi:=Nat.eq_of_beq_eq_true hi
    subst hi
    obtain ⟨v,hk,hl⟩:=ldK_spec hk
    exact ⟨_,_,_,hr,rfl,hl,O.ok hk⟩
   ·cases hk
  ·rename_i t l hr
   obtain ⟨_,hr⟩:=rd_spec hr
   split at hk
   ·rename_i hf
    rw [Option.bind_eq_some_iff] at hk
    obtain ⟨v,hv,hk⟩:=hk
    obtain ⟨p,hk,hl⟩:=ldK_spec hk
    refine ⟨_,enc t v,_,hr,by rw [List.getElem?_map,hv]; rfl,?_,O.ok hk⟩
    rw [← toPV_expand v hf]; exact hl
   ·cases hk
  ·cases hk
 ·rename_i cs ha
  simp only [rp,ha,XV.toPV]
  split at hk
  ·rename_i v hv
   exact ⟨_,ldvX_spec (e:=.agg cs) rfl hv,O.ok hk⟩
  ·cases hk
 ·cases hk
theorem stvX_spec {e x v:XV} {off m:Nat} (hv:stvX e off m x=some v):stv e.toPV off m x.toPV=some v.toPV:=by
 unfold stvX at hv
 unfold stv
 split at hv
 ·rename_i hb
  simp only [Bool.and_eq_true] at hb
  have he:=cells_notArr hb.1
  have hx:=cells_notArr hb.2.1
  rw [if_pos (by rw [hx,toPVL_len]; exact Nat.eq_of_beq_eq_true hb.2.2)]
  split at hv
  ·rename_i h0
   rw [Bool.and_eq_true] at h0
   cases hv
   rw [if_pos ⟨Nat.eq_of_beq_eq_true h0.1,by rw [he,toPVL_len]; exact Nat.eq_of_beq_eq_true h0.2⟩]
  ·rename_i h0
   rw [if_neg (by
    rintro ⟨q1,q2⟩
    rw [he,toPVL_len] at q2
    subst q1 q2
    rw [Nat.beq_refl,Nat.beq_refl] at h0
    cases h0)]
   split at hv
   ·rename_i hle
    cases hv
    rw [if_pos (by rw [he,toPVL_len]; exact Nat.le_of_ble_eq_true hle)]
    simp only [XV.toPV,toPVL_append,toPVL_take,toPVL_drop,he,hx]
   ·cases hv
 ·cases hv
theorem encOne_cells {t:TT} (h:encOne t=true) (v:t.den):(enc t v).cells=[enc t v]∧(enc t v).isAgg=false:=by
 cases t<;>first | (cases h; done) | (simp [enc,PV.cells,PV.isAgg])
theorem lp_one {t:TT} (h:encOne t=true) {p:PV} {v:t.den} (hl:L2 p.cells (enc t v).cells):p.cells.length=1:=by
 rw [hl.len,(encOne_cells h v).1]; rfl
theorem stK_spec {e x:XV} {off m:Nat} {K:XV→Option R} {r:R} (hk:stK w e off m x K=some r):∃ (v:XV) (q:PV),K v=some r∧stv e.toPV off m x.toPV=some q∧L2 q.cells v.toPV.cells∧(w=false→q=v.toPV):=by
 unfold stK at hk
 split at hk
 ·rename_i t l
  split at hk
  ·rename_i t' l'
   split at hk
   ·rename_i h0
    obtain ⟨h1,hk⟩:=guard_some hk
    rw [Bool.and_eq_true,decide_eq_true_eq,decide_eq_true_eq] at h1
    have h0:=Nat.eq_of_beq_eq_true h0
    subst h0
    refine ⟨_,(XV.arr t' l').toPV,hk,?_,L2.refl _,fun _=>rfl⟩
    simp only [XV.toPV,stv,cells_agg,List.length_map]
    rw [if_pos h1.2,if_pos ⟨trivial,h1.1⟩]
   ·cases hk
  ·split at hk
   ·rename_i hb
    rw [Bool.and_eq_true] at hb
    split at hk
    ·rename_i v hv
     obtain ⟨h1,hk⟩:=guard_some hk
     rw [Bool.and_eq_true,decide_eq_true_eq,decide_eq_true_eq] at h1
     obtain ⟨c1,c2,c3⟩:=coll_spec hv
     have hm:=Nat.eq_of_beq_eq_true hb.1
     subst hm
     obtain ⟨e1,e2⟩:=encOne_cells hb.2 v
     have hset:(l.set off v).map (enc t)=(l.map (enc t)).take off++[enc t v]++(l.map (enc t)).drop (off+1):=by
      rw [List.set_eq_take_append_cons_drop,if_pos h1.1]; simp
     refine ⟨_,.agg ((l.map (enc t)).take off++x.toPV.cells++(l.map (enc t)).drop (off+1)),hk,?_,?_,fun hw=>?_⟩
     ·simp only [XV.toPV,stv,cells_agg,List.length_map]
      rw [if_pos (lp_one hb.2 c1),if_neg (by omega),if_pos (by omega)]
     ·simp only [XV.toPV,cells_agg,hset]
      rw [e1] at c1
      exact ((L2.refl _).append c1).append (L2.refl _)
     ·simp only [XV.toPV,hset,c3 hw,e1]
    ·cases hk
   ·cases hk
 ·split at hk
  ·rename_i v hv
   exact ⟨v,_,hk,stvX_spec hv,L2.refl _,fun _=>rfl⟩
  ·cases hk
theorem R2.one {p q:PV} (h:L2 p.cells q.cells):R2 [p] [q]:=.cons h .nil
theorem store_snd {m:Nat} {a x:Opd}:Op w M ρ h n R (xStore w M m (ρ a) (ρ x) h n) (.store m a x):=by
 intro K r Q hk O
 simp only [opK]
 unfold xStore at hk
 split at hk
 ·rename_i b s i off ha
  simp only [rp,ha,XV.toPV]
  split at hk
  ·rename_i hst
   split at hk
   ·rename_i e hr
    obtain ⟨hb,hr⟩:=rd_spec hr
    split at hk
    ·rename_i hi
     have hi:=Nat.eq_of_beq_eq_true hi
     subst hi
     obtain ⟨v,q,hk,h1,h2,h3⟩:=stK_spec hk
     refine ⟨_,_,_,hr,rfl,storX_spec hst,h1,O.of hk (fun hw=>⟨rfl,?_,rfl⟩) ?_⟩
     ·rw [toH_set,h3 hw]; rfl
     ·rw [toH_set]
      exact PLe.less (Lp.refl _) (HL.set (HL.refl _) rfl b (.cells (R2.one h2))) (Nat.le_refl _)
    ·cases hk
   ·rename_i t l hr
    obtain ⟨hb,hr⟩:=rd_spec hr
    split at hk
    ·rename_i hf
     rw [Option.bind_eq_some_iff] at hk
     obtain ⟨v,hv,hk⟩:=hk
     obtain ⟨e',q,hk,h1,h2,h3⟩:=stK_spec hk
     split at hk
     ·rename_i v' hc
      obtain ⟨c1,c2,c3⟩:=coll_spec hc
      refine ⟨_,enc t v,q,hr,by rw [List.getElem?_map,hv]; rfl,storX_spec hst,by rw [← toPV_expand v hf]; exact h1,O.of hk (fun hw=>⟨rfl,?_,rfl⟩) ?_⟩
      ·rw [toH_set,h3 hw,c3 hw]
       simp only [Option.map_some,XBlk.toB,List.map_set]
      ·rw [toH_set]
       simp only [Option.map_some,XBlk.toB,List.map_set]
       exact PLe.less (Lp.refl _) (HL.set (HL.refl _) rfl b (.cells ((R2.refl _).set i (h2.trans c1)))) (Nat.le_refl _)
     ·cases hk
    ·cases hk
   ·cases hk
  ·cases hk
 ·cases hk
theorem nilc_snd {x:Opd}:Op w M ρ h n R (xNilc (ρ x) h n) (.nilc x):=by
 intro K r Q hk O
 simp only [opK]
 unfold xNilc at hk
 split at hk
 ·rename_i hx
  have:=O.ok hk
  simp only [rp,hx,XV.toPV] at this ⊢
  exact this
 ·rename_i hx
  have:=O.ok hk
  simp only [rp,hx,XV.toPV] at this ⊢
  exact this
 ·rename_i hx
  have:=O.ok hk
  simp only [rp,hx,XV.toPV] at this ⊢
  exact this
 ·cases hk
theorem bin_snd {op:BinOp} {x y:Opd}:Op w M ρ h n R (xBin op (ρ x) (ρ y) h n) (.bin op x y):=by
  intro K r Q hk O
  simp only [opK]
  unfold xBin at hk
  split at hk
  · rename_i k a k' b hx hy
    simp only [rp,hx,hy,XV.toPV]
    split at hk
    · rename_i hs
      cases op<;>simp only [isShift,reduceCtorEq] at hs
      all_goals
        simp only [xShift] at hk
        rcases cond_some hk with ⟨_,hk⟩ | ⟨hb,hk⟩
        · cases hk
        · have:=O.ok hk
          simp only [decide_eq_false_iff_not] at hb
          simpa only [binV,shifts,if_neg hb,XV.toPV] using this
    · rename_i hs
      split at hk
      · rename_i hkk
        have hkk:=ikB_eq hkk
        subst hkk
        cases op<;>simp only [isShift,reduceCtorEq] at hs<;>simp only [xArith] at hk<;>first
          | (cases hk; done)
          | (have:=O.ok hk
             simpa only [binV,arith,if_true,XV.toPV] using this)
          | (rcases cond_some hk with ⟨_,hk⟩ | ⟨hb,hk⟩
             · cases hk
             · have:=O.ok hk
               simp only [decide_eq_false_iff_not] at hb
               simpa only [binV,arith,if_true,if_neg hb,XV.toPV] using this)
      · cases hk
  · rename_i a b hx hy
    simp only [rp,hx,hy,XV.toPV]
    cases op<;>simp only [xStr] at hk<;>first
      | (cases hk; done)
      | (have:=O.ok hk
         simpa only [binV,strOp,XV.toPV] using this)
      | (obtain ⟨hb,hk⟩:=guard_some hk
         have:=O.ok hk
         simp only [decide_eq_true_eq] at hb
         simpa only [binV,strOp,if_pos hb,XV.toPV] using this)
  · cases hk
theorem binB_snd {neg:Bool} {x y:Opd}:Op w M ρ h n R (xBinB neg (ρ x) (ρ y) h n) (.binB neg x y):=by
 intro K r Q hk O
 simp only [opK]
 unfold xBinB at hk
 split at hk
 ·rename_i a b hx hy
  simp only [rp,hx,hy,XV.toPV]
  split at hk
  ·have:=O.ok hk; simpa [XV.toPV] using this
  ·have:=O.ok hk; simpa [XV.toPV] using this
 ·cases hk
theorem nilq_snd {neg:Bool} {x:Opd}:Op w M ρ h n R (xNilq neg (ρ x) h n) (.nilq neg x):=by
 intro K r Q hk O
 simp only [opK]
 unfold xNilq at hk
 split at hk
 ·rename_i c es hx
  split at hk
  ·obtain ⟨h1,h2⟩:=bothX_some hk
   have q1:=O.ok h1
   have q2:=O.ok (h2 rfl)
   simp only [rp,hx,XV.toPV,toPVL] at q1 q2 ⊢
   exact ⟨fun _=>q2,q1⟩
  ·have:=O.ok hk
   simp only [rp,hx,XV.toPV,toPVL] at this ⊢
   exact ⟨fun he=>(by cases he),this⟩
 ·rename_i t l hx
  obtain ⟨h1,h2⟩:=bothX_some hk
  have q1:=O.ok h1
  simp only [rp,hx,XV.toPV] at q1 ⊢
  refine ⟨fun he=>?_,q1⟩
  have:=O.ok (h2 (by cases l with | nil=>rfl | cons=>cases he))
  simpa only [XV.toPV] using this
 ·rename_i b s sz off len cap hx
  obtain ⟨h1,h2⟩:=bothX_some hk
  have q1:=O.ok h1
  simp only [rp,hx,XV.toPV] at q1 ⊢
  refine ⟨fun he=>?_,q1⟩
  have:=O.ok (h2 (by simp [he]))
  simpa only [XV.toPV] using this
 ·cases hk
theorem eqKX_spec {k:EK} {x y:XV} {r:Bool} (hr:eqKX k x y=some r):eqKind k x.toPV y.toPV=some r:=by
 unfold eqKX at hr
 split at hr
 ·split at hr
  ·rename_i he; cases hr; simp [XV.toPV,eqKind,ikB_eq he]
  ·cases hr
 ·cases hr; simp [XV.toPV,eqKind]
 ·cases hr; simp [XV.toPV,eqKind]
 ·cases hr
theorem toPVL_getD (l:List XV) (i:Nat):(toPVL l).getD i .dead=(l.getD i .dead).toPV:=by
 simp only [toPVL_map,List.getD_eq_getElem?_getD,List.getElem?_map]
 cases l[i]?<;>rfl
theorem eqCX_spec {cs ds:List XV}:∀ {plan:List (Nat×EK)} {r:Bool},eqCX cs ds plan=some r→eqV (toPVL cs) (toPVL ds) plan=some r
 | [],r,h=>h
 | p::l,r,h=>by
  simp only [eqCX] at h
  split at h
  ·rename_i x y h1 h2
   simp only [eqV,toPVL_getD,eqKX_spec h1,eqCX_spec h2]; exact h
  ·cases h
theorem eqA_snd {neg:Bool} {sz:Nat} {plan:List (Nat×EK)} {x y:Opd}:Op w M ρ h n R (xEqA neg sz plan (ρ x) (ρ y) h n) (.eqA neg sz plan x y):=by
 intro K r Q hk O
 simp only [opK]
 unfold xEqA at hk
 split at hk
 ·rename_i cs ds hx hy
  simp only [rp,hx,hy,XV.toPV]
  split at hk
  ·rename_i hb
   rw [Bool.and_eq_true] at hb
   split at hk
   ·rename_i b hb'
    have:eqVs sz plan (toPVL cs) (toPVL ds)=some b:=by
     unfold eqVs
     rw [if_pos ⟨by rw [toPVL_len]; exact Nat.eq_of_beq_eq_true hb.1,by rw [toPVL_len]; exact Nat.eq_of_beq_eq_true hb.2⟩]
     exact eqCX_spec hb'
    simp only [this]
    split at hk
    ·have:=O.ok hk; simpa [XV.toPV] using this
    ·have:=O.ok hk; simpa [XV.toPV] using this
   ·cases hk
  ·cases hk
 ·cases hk
theorem un_snd {op:UnOp} {x:Opd}:Op w M ρ h n R (xUn op (ρ x) h n) (.un op x):=by
 intro K r Q hk O
 simp only [opK]
 unfold xUn at hk
 split at hk
 ·rename_i b hx
  simp only [rp,hx,XV.toPV]
  split at hk
  ·have:=O.ok hk; simpa [XV.toPV,unV] using this
  ·cases hk
 ·rename_i k m hx
  simp only [rp,hx,XV.toPV]
  split at hk
  ·have:=O.ok hk; simpa only [XV.toPV,unV] using this
  ·have:=O.ok hk; simpa only [XV.toPV,unV] using this
  ·cases hk
 ·cases hk
theorem conv_snd {k:IntKind} {x:Opd}:Op w M ρ h n R (xConv k (ρ x) h n) (.conv k x):=by
 intro K r Q hk O
 simp only [opK]
 unfold xConv at hk
 split at hk
 ·rename_i k' m hx
  have:=O.ok hk
  simpa only [rp,hx,XV.toPV] using this
 ·cases hk
theorem convS_snd {x:Opd}:Op w M ρ h n R (xConvS (ρ x) h n) (.convS x):=by
 intro K r Q hk O
 simp only [opK]
 unfold xConvS at hk
 split at hk
 ·rename_i m hx
  have:=O.ok hk
  simpa only [rp,hx,XV.toPV] using this
 ·cases hk
theorem mksl_snd {s sz bytes:Nat} {t:TT} {z:PV} {l c:Opd}:Op w M ρ h n R (xMksl w M s sz bytes t z (ρ l) (ρ c) h n) (.mksl s sz bytes z l c):=by
 intro K r Q hk O
 simp only [opK]
 unfold xMksl at hk
 split at hk
 ·rename_i k1 l' k2 c' hl hc
  simp only [rp,hl,hc,XV.toPV]
  split at hk
  ·rename_i hb
   simp only [Bool.and_eq_true] at hb
   split at hk
   ·rename_i v hv
    obtain ⟨hg,hk⟩:=guard_some hk
    simp only [Bool.and_eq_true,decide_eq_true_eq,fits] at hg
    obtain ⟨c1,c2,c3⟩:=coll_spec hv
    rw [toPV_ofPV] at c1 c3
    refine ⟨by rw [toH_len]; exact blt_spec hb.1,blt_spec hb.2.1,Nat.eq_of_beq_eq_true hb.2.2.1,hb.2.2.2,hg.1,hg.2.1,hg.2.2.1,hg.2.2.2,O.of hk (fun hw=>⟨rfl,?_,rfl⟩) ?_⟩
    ·rw [toH_set]; simp only [Option.map_some,XBlk.toB,List.map_replicate,← c3 hw]
    ·rw [toH_set]
     simp only [Option.map_some,XBlk.toB,List.map_replicate,XV.toPV]
     exact PLe.less (Lp.refl _) (HL.set (HL.refl _) rfl s (.cells (R2.rep c1 _))) (Nat.le_refl _)
   ·cases hk
  ·cases hk
 ·cases hk
end Go.Proofs.Yticljphbbdnomaa.VL
