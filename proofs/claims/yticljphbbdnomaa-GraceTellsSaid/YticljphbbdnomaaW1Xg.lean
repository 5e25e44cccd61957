import Derived.Test.YticljphbbdnomaaW1Xf
namespace Go.Proofs.Yticljphbbdnomaa.VL
open Go
set_option linter.unusedVariables false
set_option linter.unusedSimpArgs false
set_option linter.unusedSectionVars false
variable [Val]
variable {R:Type} {w:Bool} {M:Nat} {ρ:Opd→XV} {h:Heap} {n:Nat}
theorem eqD_spec {k:EK} {kt:TT} (hk:keyB k kt=true) (a b:kt.den):eqKind k (enc kt a) (enc kt b)=some (eqD kt a b):=by
 cases k<;>cases kt<;>first | (cases hk; done) | simp [eqKind,enc,eqD]
abbrev encP (kt vt:TT):List (kt.den×vt.den)→List (PV×PV):=List.map fun p=>(enc kt p.1,enc vt p.2)
theorem map_spec {k:EK} {kt vt:TT} (hk:keyB k kt=true) (key:kt.den):∀ (l:List (kt.den×vt.den)) (i:Nat),
  (mFind k (enc kt key) (encP kt vt l) i=some none∧mget key l=none∧(∀ v,mput key v l=l++[(key,v)])∧mdel key l=l) ∨
  ∃ j p,mFind k (enc kt key) (encP kt vt l) i=some (some (i+j))∧l[j]?=some p∧mget key l=some p.2∧(∀ v,mput key v l=l.set j (key,v))∧mdel key l=l.eraseIdx j
 | [],i=>.inl ⟨rfl,rfl,fun _=>rfl,rfl⟩
 | p::r,i=>by
  simp only [List.map_cons,mFind,eqD_spec hk,mget,mput,mdel]
  cases he:eqD kt key p.1 with
  | true=>right; exact ⟨0,p,rfl,rfl,rfl,fun _=>rfl,rfl⟩
  | false =>
   rcases map_spec hk key r (i+1) with ⟨h1,h2,h3,h4⟩ | ⟨j,q,h1,h2,h3,h4,h5⟩
   ·left; exact ⟨h1,h2,fun v=>by simp [h3 v],by simp [h4]⟩
   ·right
    refine ⟨j+1,q,?_,by simpa using h2,h3,fun v=>by simp [h4 v],by simp [h5]⟩
    show mFind k (enc kt key) (encP kt vt r) (i+1)=_
    rw [h1]; congr 2; omega
theorem map_eraseIdx {α β:Type} (f:α→β):∀ (l:List α) (j:Nat),(l.map f).eraseIdx j=(l.eraseIdx j).map f
 | [],j=>by simp
 | a::r,0=>by simp
 | a::r,j+1=>by simp [map_eraseIdx f r j]
theorem mkm_snd {s:Nat} {a:TT}:Op w M ρ h n R (xMkm M s a h n) (.mkm s):=by
 intro K r Q hk O
 simp only [opK]
 unfold xMkm at hk
 split at hk
 ·rename_i hs
  refine ⟨by rw [toH_len]; exact blt_spec hs,?_⟩
  split at hk
  ·have:=O.ok hk
   rw [toH_set] at this
   exact this
  ·have:=O.ok hk
   rw [toH_set] at this
   exact this
 ·cases hk
theorem lkpX_spec {ok:Bool} {k:EK} {z key:XV} {K:KX R} {r:R} {Q:QP} (O:OkK w M K r Q):∀ (l pre:List (XV×XV)),lkpX ok k z key h n K l=some r →
  ∃ res,mFind k key.toPV (l.map fun p=>(p.1.toPV,p.2.toPV)) pre.length=some res∧Q (lkV ok z.toPV ((pre++l).map fun p=>(p.1.toPV,p.2.toPV)) res) (toH M h) n
 | [],pre,hk=>by
  refine ⟨none,rfl,?_⟩
  unfold lkpX okX at hk
  split at hk
  ·have:=O.ok hk; simpa [lkV,XV.toPV,toPVL] using this
  ·have:=O.ok hk; simpa [lkV] using this
 | p::l,pre,hk=>by
  simp only [lkpX] at hk
  split at hk
  ·rename_i c hc
   have hc:=eqKX_spec hc
   simp only [List.map_cons,mFind,hc]
   rcases cond_some hk with ⟨rfl,hk⟩ | ⟨rfl,hk⟩
   ·refine ⟨_,rfl,?_⟩
    have hp:((pre++p::l).map fun p=>(p.1.toPV,p.2.toPV))[pre.length]?=some (p.1.toPV,p.2.toPV):=by simp
    unfold okX at hk
    split at hk
    ·have:=O.ok hk; simpa [lkV,XV.toPV,toPVL,hp] using this
    ·have:=O.ok hk; simpa [lkV,hp] using this
   ·obtain ⟨res,h1,h2⟩:=lkpX_spec O l (pre++[p]) hk
    refine ⟨res,by simpa using h1,?_⟩
    rw [List.append_assoc] at h2
    exact h2
  ·cases hk
theorem lkp_snd {ok:Bool} {k:EK} {z:PV} {x key:Opd}:Op w M ρ h n R (xLkp w M ok k z (ρ x) (ρ key) h n) (.lkp ok k z x key):=by
 intro K r Q hk O
 simp only [opK]
 unfold xLkp at hk
 split at hk
 ·rename_i b s hx
  simp only [rp,hx,XV.toPV]
  split at hk
  ·rename_i kt vt l hr
   obtain ⟨_,hr⟩:=rd_spec hr
   split at hk
   ·rename_i key' z' hkey hz hb
    rw [Bool.and_eq_true] at hb
    obtain ⟨_,_,hkey⟩:=coll_spec hkey
    obtain ⟨z1,z2,z3⟩:=coll_spec hz
    rw [toPV_ofPV] at z1 z2 z3
    rw [hkey rfl]
    have fin:∀ (o:Option Nat) (v:Option vt.den),lkV ok z (encP kt vt l) o=lkV ok z (encP kt vt l) o →
      ((o=none∧v=none)∨∃ j p,o=some j∧l[j]?=some p∧v=some p.2)→lkpM ok vt K (v.getD z') v.isSome h n=some r→Q (lkV ok z (encP kt vt l) o) (toH M h) n:=by
     intro o v _ ho hk
     have hval:∃ p:PV,lkV ok z (encP kt vt l) o=(if ok then .tup [p,.v (.bool v.isSome)] else p)∧Lp p (enc vt (v.getD z'))∧(w=false→p=enc vt (v.getD z')):=by
      rcases ho with ⟨rfl,rfl⟩ | ⟨j,p,rfl,hp,rfl⟩
      ·exact ⟨z,by simp [lkV],z2,z3⟩
      ·refine ⟨enc vt p.2,?_,Lp.refl _,fun _=>rfl⟩
       simp [lkV,encP,List.getElem?_map,hp]
     obtain ⟨p,hp,hl,he⟩:=hval
     rw [hp]
     cases ok with
     | true =>
      have hk:K (.tup [expand vt (v.getD z'),.b v.isSome]) h n=some r:=hk
      refine O.of hk (fun hw=>⟨?_,rfl,rfl⟩) (PLe.less ?_ (HL.refl _) (Nat.le_refl _))
      ·simp only [if_true,XV.toPV,toPVL,toPV_expand _ hb.2,he hw]
      ·simp only [if_true,XV.toPV,toPVL,toPV_expand _ hb.2]
       exact lp_tup (.cons hl (L2.refl _))
     | false =>
      have hk:K (expand vt (v.getD z')) h n=some r:=hk
      refine O.of hk (fun hw=>⟨?_,rfl,rfl⟩) (PLe.less ?_ (HL.refl _) (Nat.le_refl _))
      ·simp only [Bool.false_eq_true,if_false,toPV_expand _ hb.2,he hw]
      ·simp only [Bool.false_eq_true,if_false,toPV_expand _ hb.2]
       exact hl
    rcases map_spec hb.1 key' l 0 with ⟨h1,h2,_,_⟩ | ⟨j,p,h1,h2,h3,_,_⟩
    ·exact ⟨_,none,hr,h1,fin none _ rfl (.inl ⟨rfl,h2⟩) hk⟩
    ·rw [Nat.zero_add] at h1
     exact ⟨_,some j,hr,h1,fin (some j) _ rfl (.inr ⟨j,p,rfl,h2,h3⟩) hk⟩
   ·cases hk
  ·rename_i l hr
   obtain ⟨_,hr⟩:=rd_spec hr
   obtain ⟨res,h1,h2⟩:=lkpX_spec O l [] hk
   rw [toPV_ofPV] at h2
   exact ⟨_,res,hr,h1,h2⟩
  ·cases hk
 ·cases hk
theorem litKey_spec {k:EK} {key:XV}:∀ {l:List (XV×XV)} (i:Nat),litKey k key l=true→mFind k key.toPV (l.map fun p=>(p.1.toPV,p.2.toPV)) i=some none
 | [],i,_=>rfl
 | p::r,i,h=>by
  simp only [litKey] at h
  split at h
  ·rename_i hc
   simp only [List.map_cons,mFind,eqKX_spec (neKX_spec hc)]
   exact litKey_spec (i+1) h
  ·cases h
theorem mup_snd {k:EK} {x key v:Opd}:Op w M ρ h n R (xMup w M k (ρ x) (ρ key) (ρ v) h n) (.mup k x key v):=by
 intro K r Q hk O
 simp only [opK]
 unfold xMup at hk
 split at hk
 ·rename_i b s hx
  simp only [rp,hx,XV.toPV]
  split at hk
  ·rename_i kt vt l hr
   obtain ⟨_,hr⟩:=rd_spec hr
   split at hk
   ·rename_i key' v' hkey hv hb
    obtain ⟨_,_,hkey⟩:=coll_spec hkey
    obtain ⟨_,_,hv⟩:=coll_spec hv
    rw [hkey rfl,hv rfl]
    have:=O.ok hk
    rw [toH_set] at this
    simp only [XV.toPV,Option.map_some,XBlk.toB] at this
    rcases map_spec hb key' l 0 with ⟨h1,_,h3,_⟩ | ⟨j,p,h1,_,_,h4,_⟩
    ·refine ⟨_,none,hr,h1,?_⟩
     rw [h3] at this
     simpa [mPut] using this
    ·rw [Nat.zero_add] at h1
     refine ⟨_,some j,hr,h1,?_⟩
     rw [h4] at this
     simpa [mPut,List.map_set] using this
   ·cases hk
  ·rename_i l hr
   obtain ⟨_,hr⟩:=rd_spec hr
   split at hk
   ·rename_i hl
    have:=O.ok hk
    rw [toH_set] at this
    simp only [XV.toPV,Option.map_some,XBlk.toB] at this
    refine ⟨_,none,hr,litKey_spec 0 hl,?_⟩
    simpa [mPut] using this
   ·cases hk
  ·cases hk
 ·cases hk
theorem del_snd {k:EK} {x key:Opd}:Op w M ρ h n R (xDel M k (ρ x) (ρ key) h n) (.del k x key):=by
 intro K r Q hk O
 simp only [opK]
 unfold xDel at hk
 split at hk
 ·rename_i b s hx
  simp only [rp,hx,XV.toPV]
  split at hk
  ·rename_i kt vt l hr
   obtain ⟨_,hr⟩:=rd_spec hr
   split at hk
   ·rename_i key' hkey hb
    obtain ⟨_,_,hkey⟩:=coll_spec hkey
    rw [hkey rfl]
    have:=O.ok hk
    rw [toH_set] at this
    simp only [XV.toPV,toPVL,Option.map_some,XBlk.toB] at this
    rcases map_spec hb key' l 0 with ⟨h1,_,_,h4⟩ | ⟨j,p,h1,_,_,_,h5⟩
    ·refine ⟨_,none,hr,h1,?_⟩
     rw [h4] at this
     exact this
    ·rw [Nat.zero_add] at h1
     refine ⟨_,some j,hr,h1,?_⟩
     rw [h5] at this
     have e:(encP kt vt l).eraseIdx j=encP kt vt (l.eraseIdx j):=by
      exact map_eraseIdx _ _ _
     simp only [mDel]
     rw [show (XBlk.map kt vt l).toB=.map (encP kt vt l) from rfl] at hr
     first
      | (rw [e]; exact this)
      | (have e':=e; simp only [encP] at e'; rw [e']; exact this)
   ·cases hk
  ·cases hk
 ·cases hk
theorem lenM_snd {x:Opd}:Op w M ρ h n R (xLenM M (ρ x) h n) (.lenM x):=by
 intro K r Q hk O
 simp only [opK]
 unfold xLenM at hk
 split at hk
 ·rename_i b s hx
  simp only [rp,hx,XV.toPV]
  split at hk
  ·rename_i kt vt l hr
   obtain ⟨_,hr⟩:=rd_spec hr
   have:=O.ok hk
   exact ⟨_,hr,by simpa [XV.toPV] using this⟩
  ·rename_i l hr
   obtain ⟨_,hr⟩:=rd_spec hr
   have:=O.ok hk
   exact ⟨_,hr,by simpa [XV.toPV] using this⟩
  ·cases hk
 ·cases hk
theorem clr_snd {sz:Nat} {z:PV} {x:Opd}:Op w M ρ h n R (xClr w M sz z (ρ x) h n) (.clr sz z x):=by
 intro K r Q hk O
 simp only [opK]
 unfold xClr at hk
 split at hk
 ·rename_i b s sz' off len cap hx
  simp only [rp,hx,XV.toPV]
  split at hk
  ·rename_i t l hr hb
   simp only [Bool.and_eq_true] at hb
   obtain ⟨_,hr⟩:=rd_spec hr
   split at hk
   ·rename_i v hv
    obtain ⟨c1,c2,c3⟩:=coll_spec hv
    rw [toPV_ofPV] at c1 c2 c3
    obtain ⟨hg,hk⟩:=guard_some hk
    simp only [decide_eq_true_eq] at hg
    refine ⟨Nat.eq_of_beq_eq_true hb.2.1,hb.2.2,Nat.eq_of_beq_eq_true hb.1,_,hr,by simpa using hg,O.of hk (fun hw=>⟨rfl,?_,rfl⟩) ?_⟩
    ·rw [toH_set,c3 hw]; simp [XBlk.toB]
    ·rw [toH_set]
     simp only [Option.map_some,XBlk.toB,List.map_append,List.map_take,List.map_drop,List.map_replicate]
     exact PLe.less (Lp.refl _) (HL.set (HL.refl _) rfl b (.cells (((R2.refl _).append (R2.rep c1 _)).append (R2.refl _)))) (Nat.le_refl _)
   ·cases hk
  ·cases hk
 ·cases hk
theorem bytesOf_map:∀ l:List Int,bytesOf (l.map (enc (.i .u8)))=some l
 | []=>rfl
 | a::r=>by
  have:=bytesOf_map r
  simp only [List.map_cons,bytesOf,enc,byteOf] at this ⊢
  rw [this]
theorem bts_snd {x:Opd}:Op w M ρ h n R (xBts w M (ρ x) h n) (.bts x):=by
 intro K r Q hk O
 simp only [opK]
 unfold xBts at hk
 split at hk
 ·rename_i l g he
  obtain ⟨hg,hk⟩:=guard_some hk
  obtain ⟨ys,h1,h2,h3⟩:=elX_spec he hg
  refine ⟨ys,l,h1,by rw [h3 rfl]; exact bytesOf_map l,?_⟩
  have:=O.ok hk
  simpa only [XV.toPV] using this
 ·cases hk
theorem rngS_snd {s:Nat} {x:Opd}:Op w M ρ h n R (xRngS M s (ρ x) h n) (.rngS s x):=by
 intro K r Q hk O
 simp only [opK]
 unfold xRngS at hk
 split at hk
 ·rename_i t hx hs
  have:=O.ok hk
  rw [toH_set] at this
  simp only [rp,hx,XV.toPV] at this ⊢
  exact ⟨by rw [toH_len]; exact blt_spec hs,this⟩
 ·cases hk
theorem nxtS_snd {x:Opd}:Op w M ρ h n R (xNxtS M (ρ x) h n) (.nxtS x):=by
 intro K r Q hk O
 simp only [opK]
 unfold xNxtS at hk
 split at hk
 ·rename_i b s i off hx
  split at hk
  ·rename_i t pos hr hb
   rw [Bool.and_eq_true] at hb
   have h1:=Nat.eq_of_beq_eq_true hb.1
   have h2:=Nat.eq_of_beq_eq_true hb.2
   subst h1 h2
   obtain ⟨_,hr⟩:=rd_spec hr
   simp only [rp,hx,XV.toPV]
   refine ⟨t,pos,hr,?_⟩
   rcases cond_some hk with ⟨hc,hk⟩ | ⟨hc,hk⟩
   ·rw [if_pos (by simpa using hc)]
    have:=O.ok hk
    rw [toH_set] at this
    exact this
   ·rw [if_neg (by simpa using hc)]
    have:=O.ok hk
    exact this
  ·cases hk
 ·cases hk
theorem fn_snd {f:Nat} {fs cs:List Opd}:Op w M ρ h n R (fun K=>K (.clo f (fs.map ρ) (cs.map ρ)) h n) (.fn f fs cs):=by
 intro K r Q hk O
 simp only [opK]
 have:=O.ok hk
 have e:rp ρ=XV.toPV ∘ ρ:=rfl
 rw [e]
 simpa only [XV.toPV,toPVL_map,List.map_map] using this
theorem mov_snd {x:Opd}:Op w M ρ h n R (fun K=>K (ρ x) h n) (.mov x):=by
 intro K r Q hk O
 exact O.ok hk
theorem xOp_snd (a:TT) (op:IOp):Op w M ρ h n R (fun K=>xOp w M a ρ h n K op) op:=by
 cases op<;>first
  | exact mov_snd
  | exact pick_snd
  | exact alloc_snd
  | exact box_snd
  | exact bld_snd
  | exact bsl_snd
  | exact load_snd
  | exact store_snd
  | exact nilc_snd
  | exact bin_snd
  | exact binB_snd
  | exact nilq_snd
  | exact eqA_snd
  | exact un_snd
  | exact conv_snd
  | exact convS_snd
  | exact fn_snd
  | exact mksl_snd
  | exact slc_snd
  | exact slS_snd
  | exact fad_snd
  | exact fld_snd
  | exact iad_snd
  | exact iaA_snd
  | exact ixA_snd
  | exact ixS_snd
  | exact ext_snd
  | exact len_snd
  | exact lenS_snd
  | exact cap_snd
  | exact app_snd
  | exact cpy_snd
  | exact mm_snd
  | exact mkm_snd
  | exact lkp_snd
  | exact mup_snd
  | exact del_snd
  | exact lenM_snd
  | exact clr_snd
  | exact bts_snd
  | exact rngS_snd
  | exact nxtS_snd
  | (intro K r Q hk O; cases hk)
end Go.Proofs.Yticljphbbdnomaa.VL
