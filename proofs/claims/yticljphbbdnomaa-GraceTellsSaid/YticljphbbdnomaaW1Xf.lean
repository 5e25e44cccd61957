import Derived.Test.YticljphbbdnomaaW1Xe
namespace Go.Proofs.Yticljphbbdnomaa.VL
open Go
set_option linter.unusedVariables false
set_option linter.unusedSimpArgs false
set_option linter.unusedSectionVars false
variable [Val]
variable {R:Type} {w:Bool} {M:Nat} {ρ:Opd→XV} {h:Heap} {n:Nat}
theorem bndI_spec {x:Option Opd} {a:Option Int} (d:Int) (ha:bndI ρ x=some a):bnd (rp ρ) d x=some (a.getD d):=by
 cases x with
 | none=>cases ha; rfl
 | some x =>
  simp only [bndI] at ha
  split at ha
  ·rename_i k i hx
   cases ha
   simp [bnd,rp,hx,XV.toPV]
  ·cases ha
theorem inB_spec {lo hi:Option Int} {len:Nat} (hb:inB lo hi len=true):0≤lo.getD 0∧lo.getD 0≤hi.getD len∧hi.getD len≤len:=by
 cases lo<;>cases hi<;>simp only [inB,Bool.and_eq_true,decide_eq_true_eq] at hb<;>simp only [Option.getD_none,Option.getD_some]<;>omega
theorem subL_eq {α:Type} (l:List α) (lo hi:Option Int):(l.drop (lo.getD 0).toNat).take ((hi.getD l.length).toNat - (lo.getD 0).toNat)=subL l lo hi:=by
 cases lo<;>cases hi<;>simp [subL,List.take_of_length_le]
theorem slc_snd {sz:Nat} {x:Opd} {lo hi mx:Option Opd}:Op w M ρ h n R (xSlc w M ρ sz (ρ x) lo hi mx h n) (.slc sz x lo hi mx):=by
 intro K r Q hk O
 simp only [opK]
 unfold xSlc at hk
 split at hk
 ·rename_i t l hx
  simp only [rp,hx,XV.toPV]
  split at hk
  ·split at hk
   ·rename_i a b ha hb hs
    obtain ⟨hg,hk⟩:=guard_some hk
    obtain ⟨g1,g2,g3⟩:=inB_spec hg
    have h1:=bndI_spec (0:Int) ha
    have h2:=bndI_spec (l.length:Int) hb
    have h3:bnd (rp ρ) (l.length:Int) none=some (l.length:Int):=rfl
    simp only [List.length_map]
    rw [show bnd (fun x=>(ρ x).toPV) 0 lo=_ from h1,show bnd (fun x=>(ρ x).toPV) (l.length:Int) hi=_ from h2,show bnd (fun x=>(ρ x).toPV) (l.length:Int) none=_ from h3]
    refine ⟨fun e he=>?_,g1,g2,g3,Int.le_refl _,?_⟩
    ·rw [List.mem_map] at he
     obtain ⟨v,_,rfl⟩:=he
     exact widB_cells hs v
    ·have:=O.ok hk
     simp only [XV.toPV,← subL_eq,List.map_take,List.map_drop] at this
     simpa using this
   ·cases hk
  ·cases hk
 ·rename_i b s sz' off len cap hx
  simp only [rp,hx,XV.toPV]
  split at hk
  ·rename_i lo' hi' hs hlo hhi
   have h1:=bndI_spec (0:Int) hlo
   have h2:=bndI_spec (len:Int) hhi
   refine ⟨Nat.eq_of_beq_eq_true hs,?_⟩
   rw [show bnd (fun x=>(ρ x).toPV) 0 lo=_ from h1,show bnd (fun x=>(ρ x).toPV) (len:Int) hi=_ from h2]
   have e1:offX off lo'=off+(lo'.getD 0).toNat:=by cases lo'<;>simp [offX]
   have e2:lenX len lo' hi'=(hi'.getD len).toNat - (lo'.getD 0).toNat:=by cases lo'<;>cases hi'<;>simp [lenX]
   have e4:∀ c:Option Nat,capX c lo'=c.map (· - (lo'.getD 0).toNat):=by intro c; cases c<;>cases lo'<;>simp [capX]
   split at hk
   ·split at hk
    ·rename_i a u
     obtain ⟨hg,hk⟩:=guard_some hk
     simp only [Bool.and_eq_true,decide_eq_true_eq] at hg
     obtain ⟨g1,g2,g3⟩:=hg
     have:=O.ok hk
     refine ⟨g1,g2,?_,this⟩
     refine Int.le_trans g3 (Int.ofNat_le.mpr ?_)
     unfold xRows
     split
     ·rename_i hr
      obtain ⟨_,hr⟩:=rd_spec hr
      simp only [capOf,rowsIn,hr,XBlk.toB,List.length_map]
      exact Nat.le_refl _
     ·exact Nat.le_max_left _ _
    ·obtain ⟨hg,hk⟩:=guard_some hk
     rw [Bool.and_eq_true] at hg
     obtain ⟨g1,g2,g3⟩:=inB_spec hg.1
     have:=O.ok hk
     simp only [XV.toPV,e1,e2,e4] at this
     refine ⟨g1,g2,?_,this⟩
     cases cap with
     | none=>simp only [capOf]; omega
     | some c=>have:=hg.2; simp only [capG,decide_eq_true_eq] at this; simp only [capOf]; omega
   ·split at hk
    ·rename_i mx k m hmx
     obtain ⟨hg,hk⟩:=guard_some hk
     simp only [Bool.and_eq_true,decide_eq_true_eq] at hg
     obtain ⟨g1,g2,g3⟩:=inB_spec hg.1
     have e3:hiX len hi'=hi'.getD len:=by cases hi'<;>rfl
     rw [e3] at hg
     have:=O.ok hk
     simp only [XV.toPV,e1,e2,e4,Option.map_some] at this
     simp only [hmx,XV.toPV]
     exact ⟨g1,g2,hg.2.1,hg.2.2,this⟩
    ·cases hk
  ·cases hk
 ·cases hk
theorem slS_snd {x:Opd} {lo hi:Option Opd}:Op w M ρ h n R (xSlS ρ (ρ x) lo hi h n) (.slS x lo hi):=by
 intro K r Q hk O
 simp only [opK]
 unfold xSlS at hk
 split at hk
 ·rename_i x' a b hx ha hb
  obtain ⟨hg,hk⟩:=guard_some hk
  obtain ⟨g1,g2,g3⟩:=inB_spec hg
  simp only [rp,hx,XV.toPV]
  rw [show bnd (fun x=>(ρ x).toPV) 0 lo=_ from bndI_spec (0:Int) ha,show bnd (fun x=>(ρ x).toPV) (x'.size:Int) hi=_ from bndI_spec (x'.size:Int) hb]
  refine ⟨g1,g2,g3,?_⟩
  have:=O.ok hk
  have e:subS x' a b=x'.extract (a.getD 0).toNat (b.getD x'.size).toNat:=by cases a<;>cases b<;>simp [subS]
  simpa only [XV.toPV,e] using this
 ·cases hk
theorem fad_snd {off:Nat} {x:Opd}:Op w M ρ h n R (xFad off (ρ x) h n) (.fad off x):=by
 intro K r Q hk O
 simp only [opK]
 unfold xFad at hk
 split at hk
 ·rename_i hx
  have:=O.ok hk
  simpa only [rp,hx,XV.toPV] using this
 ·rename_i hx
  have:=O.ok hk
  simpa only [rp,hx,XV.toPV,toPVL_drop] using this
 ·cases hk
theorem fld_snd {g:Bool} {off m:Nat} {x:Opd}:Op w M ρ h n R (xFld g off m (ρ x) h n) (.fld g off m x):=by
 intro K r Q hk O
 simp only [opK]
 unfold xFld at hk
 split at hk
 ·rename_i cs hx
  simp only [rp,hx,XV.toPV]
  split at hk
  ·rename_i hb
   split at hk
   ·rename_i v hv
    refine ⟨fun hg=>?_,_,ldvX_spec (e:=.agg cs) rfl hv,O.ok hk⟩
    subst hg
    simp at hb
    exact hb
   ·cases hk
  ·cases hk
 ·cases hk
theorem iad_snd {sz:Nat} {x i:Opd}:Op w M ρ h n R (xIad sz (ρ x) (ρ i) h n) (.iad sz x i):=by
 intro K r Q hk O
 simp only [opK]
 unfold xIad at hk
 split at hk
 ·rename_i t l k i' hx hi
  simp only [rp,hx,hi,XV.toPV]
  split at hk
  ·rename_i hb
   rw [Bool.and_eq_true] at hb
   obtain ⟨hg,hk⟩:=guard_some hk
   rw [Option.bind_eq_some_iff] at hk
   obtain ⟨v,hv,hk⟩:=hk
   have:=O.ok hk
   simp only [XV.toPV] at this
   have hc:toPVL (expand t v).cells=(enc t v).cells:=by
    rw [← cells_toPV _ (fun t' l' he=>fine_arr hb.2 he),toPV_expand v hb.2]
   rw [hc] at this
   exact ⟨by simpa using hg,enc t v,by rw [List.getElem?_map,hv]; rfl,widB_cells hb.1 v,this⟩
  ·cases hk
 ·rename_i c es k i' hx hi
  simp only [rp,hx,hi,XV.toPV]
  obtain ⟨hg,hk⟩:=guard_some hk
  split at hk
  ·rename_i e he
   split at hk
   ·rename_i hb
    rw [Bool.and_eq_true] at hb
    have:=O.ok hk
    simp only [XV.toPV] at this
    have hc:=cells_notArr hb.1
    rw [← hc] at this
    exact ⟨by simpa using hg,e.toPV,by rw [toPVL_map,List.getElem?_map,he]; rfl,by rw [hc,toPVL_len]; exact Nat.eq_of_beq_eq_true hb.2,this⟩
   ·cases hk
  ·cases hk
 ·rename_i b s sz' off len cap k i' hx hi
  simp only [rp,hx,hi,XV.toPV]
  split at hk
  ·rename_i hs
   obtain ⟨hg,hk⟩:=guard_some hk
   simp only [Bool.and_eq_true,decide_eq_true_eq] at hg
   have:=O.ok hk
   simp only [XV.toPV] at this
   exact ⟨Nat.eq_of_beq_eq_true hs,hg.1,hg.2,this⟩
  ·cases hk
 ·cases hk
theorem iaA_snd {len sz:Nat} {x i:Opd}:Op w M ρ h n R (xIaA len sz (ρ x) (ρ i) h n) (.iaA len sz x i):=by
 intro K r Q hk O
 simp only [opK]
 unfold xIaA at hk
 split at hk
 ·rename_i hx hi
  obtain ⟨hg,hk⟩:=guard_some hk
  simp only [Bool.and_eq_true,decide_eq_true_eq] at hg
  have:=O.ok hk
  simp only [rp,hx,hi,XV.toPV] at this ⊢
  exact ⟨hg.1,hg.2,this⟩
 ·rename_i hx hi
  obtain ⟨hg,hk⟩:=guard_some hk
  simp only [Bool.and_eq_true,decide_eq_true_eq] at hg
  have:=O.ok hk
  simp only [rp,hx,hi,XV.toPV,toPVL_drop] at this ⊢
  exact ⟨hg.1,hg.2,this⟩
 ·cases hk
theorem ixA_snd {g:Bool} {len sz:Nat} {x i:Opd}:Op w M ρ h n R (xIxA g len sz (ρ x) (ρ i) h n) (.ixA g len sz x i):=by
 intro K r Q hk O
 simp only [opK]
 unfold xIxA at hk
 split at hk
 ·rename_i t l k i' hx hi
  simp only [rp,hx,hi,XV.toPV]
  split at hk
  ·rename_i hs ht
   obtain ⟨hg,hk⟩:=guard_some hk
   simp only [Bool.and_eq_true,decide_eq_true_eq] at hg
   rw [Option.bind_eq_some_iff] at hk
   obtain ⟨v,hv,hk⟩:=hk
   have h1:=Nat.eq_of_beq_eq_true hs
   subst h1
   have hlt:=(List.getElem?_eq_some_iff.1 hv).1
   refine ⟨hg.1,hg.2,fun _=>rfl,_,?_,O.ok hk⟩
   simp only [ldv,cells_agg,isAgg_agg,List.length_map,Nat.mul_one]
   rw [if_neg (by simp),if_pos (by omega),if_neg (by simp)]
   simp only [if_true,List.getElem?_map,hv,toPV_expand1 ht,Option.map_some]
  ·cases hk
 ·rename_i cs k i' hx hi
  simp only [rp,hx,hi,XV.toPV]
  split at hk
  ·rename_i hb
   obtain ⟨hg,hk⟩:=guard_some hk
   simp only [Bool.and_eq_true,decide_eq_true_eq] at hg
   split at hk
   ·rename_i v hv
    refine ⟨hg.1,hg.2,fun hgg=>?_,_,ldvX_spec (e:=.agg cs) rfl hv,O.ok hk⟩
    subst hgg
    simp at hb
    exact hb
   ·cases hk
  ·cases hk
 ·cases hk
theorem ixS_snd {x i:Opd}:Op w M ρ h n R (xIxS (ρ x) (ρ i) h n) (.ixS x i):=by
 intro K r Q hk O
 simp only [opK]
 unfold xIxS at hk
 split at hk
 ·rename_i hx hi
  obtain ⟨hg,hk⟩:=guard_some hk
  rw [Option.bind_eq_some_iff] at hk
  obtain ⟨v,hv,hk⟩:=hk
  have:=O.ok hk
  simp only [rp,hx,hi,XV.toPV] at this ⊢
  exact ⟨by simpa using hg,v,hv,this⟩
 ·cases hk
theorem ext_snd {x:Opd} {i:Nat}:Op w M ρ h n R (xExt (ρ x) i h n) (.ext x i):=by
 intro K r Q hk O
 simp only [opK]
 unfold xExt at hk
 split at hk
 ·rename_i cs hx
  simp only [rp,hx,XV.toPV]
  split at hk
  ·rename_i v hv
   exact ⟨v.toPV,by rw [toPVL_map,List.getElem?_map,hv]; rfl,O.ok hk⟩
  ·cases hk
 ·cases hk
theorem len_snd {x:Opd}:Op w M ρ h n R (xLen (ρ x) h n) (.len x):=by
 intro K r Q hk O
 simp only [opK]
 unfold xLen at hk
 split at hk
 ·rename_i hx
  have:=O.ok hk
  simpa only [rp,hx,XV.toPV,List.length_map] using this
 ·rename_i hx
  have:=O.ok hk
  simpa only [rp,hx,XV.toPV,toPVL_len] using this
 ·rename_i hx
  have:=O.ok hk
  simpa only [rp,hx,XV.toPV] using this
 ·cases hk
theorem lenS_snd {x:Opd}:Op w M ρ h n R (xLenS (ρ x) h n) (.lenS x):=by
 intro K r Q hk O
 simp only [opK]
 unfold xLenS at hk
 split at hk
 ·rename_i hx
  have:=O.ok hk
  simpa only [rp,hx,XV.toPV] using this
 ·cases hk
theorem cap_snd {x:Opd}:Op w M ρ h n R (xCap (ρ x) h n) (.cap x):=by
 intro K r Q hk O
 simp only [opK]
 unfold xCap at hk
 split at hk
 ·rename_i hx
  have:=O.ok hk
  simpa only [rp,hx,XV.toPV,toPVL_len] using this
 ·rename_i hx
  have:=O.ok hk
  simpa only [rp,hx,XV.toPV] using this
 ·cases hk
theorem elX_spec {t:TT} {x:XV} {l:List t.den} {g:Bool} (he:elX w M t h x=some (l,g)) (hg:g=true):∃ ys,elems (toH M h) x.toPV=some ys∧R2 ys (l.map (enc t))∧(w=false→ys=l.map (enc t)):=by
 unfold elX at he
 split at he
 ·split at he
  ·rename_i l' hl
   cases he
   obtain ⟨rfl,rfl⟩:=castL_spec hl
   exact ⟨_,rfl,R2.refl _,fun _=>rfl⟩
  ·cases he
 ·split at he
  ·rename_i l' hl
   cases he
   obtain ⟨h1,h2⟩:=collEs_spec (g:=enc t) (w:=w) (fun x a hx=>by obtain ⟨a,b,c⟩:=coll_spec hx; exact ⟨a,c⟩) hl
   exact ⟨_,rfl,h1,h2⟩
  ·cases he
 ·rename_i b s sz off len cap
  split at he
  ·rename_i t' l' hr
   obtain ⟨_,hr⟩:=rd_spec hr
   split at he
   ·rename_i l2 hl
    cases he
    obtain ⟨rfl,rfl⟩:=castL_spec hl
    simp only [decide_eq_true_eq] at hg
    refine ⟨((l2.map (enc t')).drop off).take len,?_,?_,fun _=>?_⟩
    ·simp only [XV.toPV,elems,hr,XBlk.toB]
     rw [if_pos ⟨trivial,by simpa using hg⟩]
    ·simp only [List.map_take,List.map_drop]; exact R2.refl _
    ·simp only [List.map_take,List.map_drop]
   ·cases he
  ·cases he
 ·cases he
theorem R2.cells {ys:List PV} {t:TT} {l:List t.den} {sz:Nat} (h:R2 ys (l.map (enc t))) (hs:widB t sz=true):∀ e ∈ ys,e.cells.length=sz:=by
 intro e he
 obtain ⟨i,hi,rfl⟩:=List.mem_iff_getElem.1 he
 have hlt:i < (l.map (enc t)).length:=by rw [← h.len]; exact hi
 obtain ⟨p,hp,hl⟩:=h.get i _ (List.getElem?_eq_getElem hlt)
 rw [List.getElem?_eq_getElem hi] at hp
 cases hp
 rw [hl.len,List.getElem_map]; exact widB_cells hs _
theorem fits_spec {c b:Nat} (hf:fits (c:Int) (b:Int)=true):c * b≤70368744177664∧c≤70368744177664:=by
 simp only [fits,Bool.and_eq_true,decide_eq_true_eq] at hf
 obtain ⟨h1,h2⟩:=hf
 rw [← Int.natCast_mul] at h1
 constructor<;>omega
theorem app_snd {s sz bytes:Nat} {t:TT} {z:PV} {x y:Opd}:Op w M ρ h n R (xApp w M s sz bytes t z (ρ x) (ρ y) h n) (.app s sz bytes z x y):=by
 intro K r Q hk O
 simp only [opK]
 unfold xApp at hk
 split at hk
 ·rename_i ys g hb hy
  simp only [Bool.and_eq_true] at hb
  obtain ⟨b1,b2,b3,b4,b5⟩:=hb
  obtain ⟨hg,hk⟩:=guard_some hk
  obtain ⟨zs,q1,q2,q3⟩:=elX_spec hy hg
  have hsM:=blt_spec b1
  have hl:zs.length=ys.length:=by rw [q2.len,List.length_map]
  refine ⟨by rw [toH_len]; exact hsM,blt_spec b2,Nat.eq_of_beq_eq_true b3,b4,zs,q1,q2.cells b5,?_⟩
  split at hk
  ·rename_i hx
   have main:∀ (hf:fits (ys.length:Int) bytes=true) (hk:K (.own s n sz 0 ys.length none) ((s,some (n,.rows t ys))::h) (n+1)=some r),Q (.own s n sz 0 zs.length none) ((toH M h).set s (some (n,.cells zs))) (n+1):=by
    intro hf hk
    rw [hl]
    refine O.of hk (fun hw=>⟨rfl,?_,rfl⟩) ?_
    ·rw [toH_set,q3 hw]; rfl
    ·rw [toH_set]; exact PLe.less (Lp.refl _) (HL.set (HL.refl _) rfl s (.cells q2)) (Nat.le_refl _)
   simp only [rp,hx,XV.toPV,toPVL]
   split at hk
   ·obtain ⟨hf,hk⟩:=guard_some hk
    have f:=fits_spec hf
    refine ⟨by simp,by rw [List.length_nil,Nat.zero_add,hl]; exact f.1,by rw [List.length_nil,Nat.zero_add,hl]; exact f.2,fun he=>?_,fun he=>?_⟩
    ·have:=main hf hk
     refine O.le rfl ?_ this
     subst he
     exact PLe.own0 (by rw [toH_len]; exact hsM) (blt_spec b2)
    ·have:=main hf hk
     simpa using this
   ·obtain ⟨hf,hk⟩:=guard_some hk
    have f:=fits_spec hf
    refine ⟨by simp,by rw [List.length_nil,Nat.zero_add,hl]; exact f.1,by rw [List.length_nil,Nat.zero_add,hl]; exact f.2,fun he=>?_,fun he=>?_⟩
    ·subst he
     have h0:ys=[]:=List.length_eq_zero_iff.1 (by simpa using hl.symm)
     subst h0
     simp only [List.isEmpty_nil,cond_true] at hk
     exact O.of hk (fun hw=>⟨rfl,rfl,rfl⟩) (PLe.refl _ _ _)
    ·have h0:ys.isEmpty=false:=by
      cases ys with
      | nil=>exact absurd (List.length_eq_zero_iff.1 (by simpa using hl)) he
      | cons a r=>rfl
     rw [h0] at hk
     have:=main hf hk
     simpa using this
  ·rename_i e0 es0 hx
   split at hk
   ·rename_i xs hxs
    obtain ⟨zs0,p1,p2,p3⟩:=elX_spec hxs rfl
    simp only [XV.toPV,elems,Option.some.injEq] at p1
    subst p1
    have hl0:(toPVL (e0::es0)).length=xs.length:=by rw [p2.len,List.length_map]
    obtain ⟨hf,hk⟩:=guard_some hk
    simp only [Bool.and_eq_true,Bool.not_eq_true'] at hf
    obtain ⟨hf,hne⟩:=hf
    have f:=fits_spec hf
    simp only [rp,hx,XV.toPV]
    refine ⟨p2.cells b5,by rw [hl0,hl]; exact f.1,by rw [hl0,hl]; exact f.2,fun he=>?_,fun he=>?_⟩
    ·exfalso
     subst he
     cases ys with
     | nil=>simp at hne
     | cons a r=>simp at hl
    ·rw [hl0,hl]
     refine O.of hk (fun hw=>⟨rfl,?_,rfl⟩) ?_
     ·rw [toH_set,q3 hw,p3 hw]; simp [XBlk.toB]
     ·rw [toH_set]; exact PLe.less (Lp.refl _) (HL.set (HL.refl _) rfl s (.cells (by rw [List.map_append]; exact p2.append q2))) (Nat.le_refl _)
   ·cases hk
  ·rename_i b st sz' off len cap hx
   simp only [rp,hx,XV.toPV]
   split at hk
   ·rename_i t' l0 hr hs
    obtain ⟨hbM,hr⟩:=rd_spec hr
    split at hk
    ·rename_i l hc
     obtain ⟨rfl,rfl⟩:=castL_spec hc
     refine ⟨Nat.eq_of_beq_eq_true hs,_,hr,?_⟩
     have hblt:b < (toH M h).length:=by rw [toH_len]; exact hbM
     split at hk
     ·split at hk
      ·rename_i h0
       rw [Bool.and_eq_true] at h0
       obtain ⟨hw1,h0⟩:=h0
       have h0:=Nat.eq_of_beq_eq_true h0
       subst h0
       obtain ⟨hf,hk⟩:=guard_some hk
       simp only [Bool.and_eq_true,decide_eq_true_eq] at hf
       obtain ⟨hlen,hf⟩:=hf
       subst hlen
       have f:=fits_spec hf
       have new:∀ rows:List PV,R2 rows ((l++ys).map (enc t'))→Q (.own b n sz 0 (l.length+zs.length) none) ((toH M h).set b (some (n,.cells rows))) (n+1):=by
        intro rows hR
        rw [hl]
        refine O.of hk (fun hw=>by rw [hw] at hw1; cases hw1) ?_
        rw [toH_set]; exact PLe.less (Lp.refl _) (HL.set (HL.refl _) rfl b (.cells hR)) (Nat.le_refl _)
       simp only [List.length_map]
       refine ⟨by omega,by rw [hl]; exact f.1,by rw [hl]; exact f.2,?_⟩
       split
       ·rename_i hle
        have hz:zs=[]:=List.length_eq_zero_iff.1 (by omega)
        subst hz
        have e:(l.map (enc t')).take (0+l.length)++[]++(l.map (enc t')).drop (0+l.length+([]:List PV).length)=l.map (enc t'):=by simp
        rw [e]
        refine O.le hw1 (PLe.restamp (k:=.cells (l.map (enc t'))) ?_ sz 0 _ none) ?_
        ·simp [hblt]
        ·rw [List.set_set]
         refine new _ ?_
         have:ys=[]:=List.length_eq_zero_iff.1 (by rw [← hl]; rfl)
         subst this
         simp; exact R2.refl _
       ·refine new _ ?_
        simp only [List.drop_zero,List.map_append]
        rw [List.take_of_length_le (by simp)]
        exact (R2.refl _).append q2
      ·obtain ⟨hf,hk⟩:=guard_some hk
       simp only [Bool.and_eq_true,decide_eq_true_eq] at hf
       have f:=fits_spec hf.2
       simp only [List.length_map]
       refine ⟨hf.1,by rw [hl]; exact f.1,by rw [hl]; exact f.2,?_⟩
       rcases cond_some hk with ⟨hc,hk⟩ | ⟨hc,hk⟩
       ·simp only [decide_eq_true_eq] at hc
        rw [if_pos (by omega),hl]
        refine O.of hk (fun hw=>⟨rfl,?_,rfl⟩) ?_
        ·rw [toH_set,q3 hw]; simp [XBlk.toB]
        ·rw [toH_set]
         simp only [Option.map_some,XBlk.toB,List.map_append,List.map_take,List.map_drop]
         exact PLe.less (Lp.refl _) (HL.set (HL.refl _) rfl b (.cells (((R2.refl _).append q2).append (R2.refl _)))) (Nat.le_refl _)
       ·simp only [decide_eq_false_iff_not] at hc
        rw [if_neg (by omega),hl]
        refine O.of hk (fun hw=>⟨rfl,?_,rfl⟩) ?_
        ·rw [toH_set,q3 hw]; simp [XBlk.toB]
        ·rw [toH_set]
         simp only [Option.map_some,XBlk.toB,List.map_append,List.map_take,List.map_drop]
         exact PLe.less (Lp.refl _) (HL.set (HL.refl _) rfl b (.cells ((R2.refl _).append q2))) (Nat.le_refl _)
     ·rename_i c
      obtain ⟨hf,hk⟩:=guard_some hk
      simp only [Bool.and_eq_true,decide_eq_true_eq] at hf
      have f:=fits_spec hf.2
      simp only [List.length_map]
      refine ⟨hf.1,by rw [hl]; exact f.1,by rw [hl]; exact f.2,?_⟩
      rcases cond_some hk with ⟨hc,hk⟩ | ⟨hc,hk⟩
      ·simp only [decide_eq_true_eq] at hc
       obtain ⟨hg2,hk⟩:=guard_some hk
       simp only [decide_eq_true_eq] at hg2
       rw [if_pos (by omega)]
       refine ⟨by omega,?_⟩
       rw [hl]
       refine O.of hk (fun hw=>⟨rfl,?_,rfl⟩) ?_
       ·rw [toH_set,q3 hw]; simp [XBlk.toB]
       ·rw [toH_set]
        simp only [Option.map_some,XBlk.toB,List.map_append,List.map_take,List.map_drop]
        exact PLe.less (Lp.refl _) (HL.set (HL.refl _) rfl b (.cells (((R2.refl _).append q2).append (R2.refl _)))) (Nat.le_refl _)
      ·simp only [decide_eq_false_iff_not] at hc
       rw [if_neg (by omega),hl]
       refine O.of hk (fun hw=>⟨rfl,?_,rfl⟩) ?_
       ·rw [toH_set,q3 hw]; simp [XBlk.toB]
       ·rw [toH_set]
        simp only [Option.map_some,XBlk.toB,List.map_append,List.map_take,List.map_drop]
        exact PLe.less (Lp.refl _) (HL.set (HL.refl _) rfl s (.cells ((R2.refl _).append q2))) (Nat.le_refl _)
    ·cases hk
   ·cases hk
  ·cases hk
 ·cases hk
theorem cpy_snd {sz:Nat} {x y:Opd}:Op w M ρ h n R (xCpy w M sz (ρ x) (ρ y) h n) (.cpy sz x y):=by
 intro K r Q hk O
 simp only [opK]
 unfold xCpy at hk
 split at hk
 ·rename_i b s sz' off len cap hx
  simp only [rp,hx,XV.toPV]
  split at hk
  ·rename_i t l hr hs
   obtain ⟨hbM,hr⟩:=rd_spec hr
   split at hk
   ·rename_i ys g hy hw5
    obtain ⟨hg,hk⟩:=guard_some hk
    simp only [Bool.and_eq_true,decide_eq_true_eq] at hg
    obtain ⟨zs,q1,q2,q3⟩:=elX_spec hy hg.1
    have hl:zs.length=ys.length:=by rw [q2.len,List.length_map]
    refine ⟨Nat.eq_of_beq_eq_true hs,_,zs,hr,by simpa using hg.2,q1,q2.cells hw5,?_⟩
    rw [hl]
    refine O.of hk (fun hw=>⟨rfl,?_,rfl⟩) ?_
    ·rw [toH_set,q3 hw]; simp [XBlk.toB]
    ·rw [toH_set]
     simp only [Option.map_some,XBlk.toB,List.map_append,List.map_take,List.map_drop]
     exact PLe.less (Lp.refl _) (HL.set (HL.refl _) rfl b (.cells (((R2.refl _).append (q2.take _)).append (R2.refl _)))) (Nat.le_refl _)
   ·cases hk
  ·cases hk
 ·cases hk
theorem mmX_spec {mx:Bool} {k:IntKind}:∀ {xs:List XV} {m a:Int},mmX mx k m xs=some a→mmGo mx k m (toPVL xs)=some (.int k a)
 | [],m,a,h=>by cases h; rfl
 | x::r,m,a,h=>by
  simp only [mmX] at h
  split at h
  ·rename_i k' b
   split at h
   ·rename_i he
    have:=mmX_spec h
    simp only [toPVL,XV.toPV,mmGo]
    rw [if_pos (ikB_eq he)]
    have e:(if mx=true then (if b > m then b else m) else (if b < m then b else m))=mmOne mx m b:=by
     cases mx
     ·simp only [Bool.false_eq_true,if_false,mmOne]
      split<;>omega
     ·simp only [if_true,mmOne]
      split<;>omega
    rw [e]; exact this
   ·cases h
  ·cases h
theorem mm_snd {mx:Bool} {xs:List Opd}:Op w M ρ h n R (xMm mx (xs.map ρ) h n) (.mm mx xs):=by
 intro K r Q hk O
 simp only [opK]
 have e:xs.map (rp ρ)=toPVL (xs.map ρ):=by rw [toPVL_map,List.map_map]; rfl
 rw [e]
 generalize xs.map ρ=l at hk ⊢
 unfold xMm at hk
 split at hk
 ·rename_i k m r'
  split at hk
  ·rename_i a ha
   have:=mmX_spec ha
   simp only [toPVL,XV.toPV,mmV,this]
   have:=O.ok hk
   simpa only [XV.toPV] using this
  ·cases hk
 ·cases hk
end Go.Proofs.Yticljphbbdnomaa.VL
