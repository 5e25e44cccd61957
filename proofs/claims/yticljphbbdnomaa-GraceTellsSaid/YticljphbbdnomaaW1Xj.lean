import Derived.Test.YticljphbbdnomaaW1Xh
namespace Go.Proofs.Yticljphbbdnomaa.VL
open Go
set_option linter.unusedVariables false
set_option linter.unusedSimpArgs false
set_option linter.unusedSectionVars false
variable [Val]
variable {c:CEnv} {e:XEnv} {E E':Env}
def rowOk:Fm→Bool
 | .dead=>false
 | .no=>false
 | .co _ _=>false
 | _=>true
theorem row_spec (O:CutOk c e E E') {f:Fm} {x:XV} {v:DT f.den} {g:List Bool} (hf:f.fine=true) (hr:rowOk f=true) (h:cutF c f [x]=some (v,g)) (hg:∀ b ∈ g,b=true):LI E E' x.toPV.cells (hdX (expF e f v)).toPV.cells:=by
 have one:∀ {y:XV},x.toPV.cells=[x.toPV]→y.toPV.cells=[y.toPV]→toPVL (expF e f v)=[y.toPV]→hdX (expF e f v)=y→LI E E' x.toPV.cells (hdX (expF e f v)).toPV.cells:=by
  intro y h1 h2 h3 h4
  have:=cutF_spec O hf h hg
  rw [h3] at this
  rw [h4,h1,h2]; exact this
 cases f with
 | v t =>
  have h:cutV c t x=some (v,g):=h
  have e1:(hdX (expF e (.v t) v)).toPV=enc t v:=by
   simp only [expF,hdX]; exact toPV_expand v (by simpa [Fm.fine] using hf)
  rw [e1]; exact (cutV_spec O h hg).1
 | agg cs =>
  obtain ⟨p,hx,h⟩:=bnd1_some h
  have hx:=aggX_some hx
  simp only [List.cons.injEq,and_true] at hx
  subst hx
  have:=cutF_spec O (f:=cs) (by simpa [Fm.fine] using hf) h hg
  simpa only [expF,hdX,XV.toPV,cells_agg] using this
 | ow b sz =>
  obtain ⟨y,hx,h'⟩:=bnd1_some (unitG_some h)
  have hx:=oneX_some hx
  simp only [List.cons.injEq,and_true] at hx
  subst hx
  exact one (cutW_spec O h' hg).1 rfl rfl rfl
 | oc b sz =>
  obtain ⟨y,hx,h'⟩:=bnd1_some (unitG_some h)
  have hx:=oneX_some hx
  simp only [List.cons.injEq,and_true] at hx
  subst hx
  exact one (cutO_spec O h' hg).1 rfl rfl rfl
 | op b sz =>
  refine one (y:=.own b (e.ns b) sz v.1 v.2 none) ?_ rfl rfl rfl
  have h':cutP c b sz x=some (v,g):=h
  unfold cutP at h'
  split at h'
  ·rfl
  ·cases h'
 | ptr b off =>
  refine one (y:=.optr b (e.ns b) 0 off) ?_ rfl rfl rfl
  have h':=unitG_some h
  unfold cutPtr at h'
  split at h'
  ·rename_i hx
   simp only [List.cons.injEq,and_true] at hx
   rw [hx]; rfl
  ·cases h'
 | pix b off =>
  refine one (y:=.optr b (e.ns b) v off) ?_ rfl rfl rfl
  have h':cutPix c b off [x]=some (v,g):=h
  unfold cutPix at h'
  split at h'
  ·rename_i hx
   simp only [List.cons.injEq,and_true] at hx
   rw [hx]; rfl
  ·cases h'
 | clo f' fs cs =>
  obtain ⟨p,hx,h'⟩:=bnd1_some h
  have hx:=cloX_some hx
  simp only [List.cons.injEq,and_true] at hx
  subst hx
  exact one (y:=.clo f' (expF e fs (dFst _ _ v)) (expF e cs (dSnd _ _ v))) rfl rfl rfl rfl
 | tup cs =>
  obtain ⟨p,hx,h'⟩:=bnd1_some h
  have hx:=tupX_some hx
  simp only [List.cons.injEq,and_true] at hx
  subst hx
  exact one (y:=.tup (expF e cs v)) rfl rfl rfl rfl
 | mp b =>
  refine one (y:=.mp b (e.ns b)) ?_ rfl rfl rfl
  have h':=unitG_some h
  unfold cutMp at h'
  split at h'
  ·rename_i hx
   simp only [List.cons.injEq,and_true] at hx
   rw [hx]; rfl
  ·cases h'
 | nil =>
  refine one (y:=.xl true []) ?_ rfl rfl rfl
  have h':=unitG_some h
  unfold isNilX at h'
  split at h'
  ·rename_i hx
   simp only [List.cons.injEq,and_true] at hx
   rw [hx]; rfl
  ·cases h'
 | dead=>cases hr
 | no=>cases hr
 | co _ _=>cases hr
def Base (base:Nat) (C:Ctx):Prop:=∀ s,base≤s→C.σ s=none
def WeakB (base:Nat) (st st':St):Prop:=∀ (C:Ctx) (a:Act) (E:Env),Base base C→InvE C st a E→∃ E',E'.w=E.w∧InvE C st' a E'
theorem WeakB.refl (base:Nat) (st:St):WeakB base st st:=fun C a E _ I=>⟨E,rfl,I⟩
theorem WeakB.trans {base:Nat} {x y z:St} (h:WeakB base x y) (k:WeakB base y z):WeakB base x z:=fun C a E hb I =>
 let ⟨E1,h1,I1⟩:=h C a E hb I
 let ⟨E2,h2,I2⟩:=k C a E1 hb I1
 ⟨E2,h2.trans h1,I2⟩
theorem Weak.b {base:Nat} {x y:St} (h:Weak x y):WeakB base x y:=fun C a E _ I=>h C a E I
def bfOk:BF→Bool
 | .row f=>f.fine&&rowOk f
 | _=>true
def Sh.okB (sh:Sh):Bool:=(sh.t.all fun x=>x.2.fine)&&(sh.h.all fun x=>bfOk x.f)
theorem castM_spec {kt vt kt' vt':TT} {l:List (kt.den×vt.den)} {l':List (kt'.den×vt'.den)} (h:castM kt vt kt' vt' l=some l'):(XBlk.map kt vt l)=.map kt' vt' l':=by
 unfold castM at h
 split at h
 ·rename_i he
  rw [Bool.and_eq_true] at he
  have h1:=ttB_eq he.1
  have h2:=ttB_eq he.2
  subst h1 h2
  cases h
  rfl
 ·cases h
theorem cutB_spec (O:CutOk c e E E') {x:SlF} {v:DT x.f.den} {g:List Bool} (hf:bfOk x.f=true) (h:cutB c x=some (v,g)) (hg:∀ b ∈ g,b=true) :
    x.b < c.M∧inB' c.fz x.b=false ∧
    ((∃ s0 k,lkS c.h x.b=some (s0,k)∧∀ en,BRep E en k.toB→BRep E' en (expB e x.f v).toB) ∨
     (lkS c.h x.b=none∧∃ t sz,x.f=.rows t sz∧0 < sz∧∀ en:Ent,en.tot=0→0 < en.sz→BRep E' en (expB e x.f v).toB)):=by
  have mono:∀ {en:Ent} {es fs:List PV},es.length=fs.length→(∀ (i:Nat) (q:PV),fs[i]?=some q→∃ p,es[i]?=some p∧LI E E' p.cells q.cells)→BRep E en (.cells es)→BRep E' en (.cells fs):=by
    rintro en es fs hl hR ⟨h1,h2,h3,h4⟩
    refine ⟨by rw [← hl]; exact h1,h2,fun i q hq=>?_,fun h0=>?_⟩
    · obtain ⟨p,hp,hL⟩:=hR i q hq
      rw [← hL.len]; exact h3 i p hp
    · obtain ⟨arr,t,g1,g2,g3,g4⟩:=h4 h0
      refine ⟨arr,t,by rw [O.w]; exact g1,g2,fun i q j cq hq hj=>?_,g4⟩
      obtain ⟨p,hp,hL⟩:=hR i q hq
      obtain ⟨cp,hc,hI⟩:=hL.get j cq hj
      obtain ⟨u,hu,hr⟩:=g3 i p j cp hp hc
      exact ⟨u,hu,hI u hr⟩
  have cl:∀ {l:List PV},closedL l=true→LI E E' l l:=by
    intro l hl
    induction l with
    | nil=>exact .nil
    | cons p r ih=>simp only [closedL,Bool.and_eq_true] at hl; exact .cons (into_closed O hl.1) (ih hl.2)
  unfold cutB at h
  split at h
  · rename_i hb
    rw [Bool.and_eq_true] at hb
    refine ⟨blt_spec hb.1,by simpa using hb.2,?_⟩
    split at h
    · rename_i s0 k hl
      split at h
      case h_2=>cases h
      · refine .inl ⟨s0,k,hl,?_⟩
        obtain ⟨b,f,kp⟩:=x
        simp only at v hf h ⊢
        cases f with
        | row f' =>
          simp only [bfOk,Bool.and_eq_true] at hf
          cases k<;>simp only [cutK,reduceCtorEq] at h
          rename_i e'
          intro en hB
          refine mono (by simp) (fun i q hq=>?_) hB
          cases i with
          | succ i=>simp at hq
          | zero =>
            simp only [List.getElem?_cons_zero,Option.some.injEq] at hq
            subst hq
            exact ⟨_,rfl,row_spec O hf.1 hf.2 h hg⟩
        | rows t sz =>
          cases k<;>simp only [cutK,reduceCtorEq] at h
          rename_i t' l
          split at h
          · rename_i l' hc
            obtain ⟨e1,e2⟩:=castL_spec hc
            subst e1
            simp only [Option.some.injEq,Prod.mk.injEq] at h
            obtain ⟨h,_⟩:=h
            subst h e2
            intro en hB
            refine mono rfl (fun i q hq=>⟨q,hq,cl ?_⟩) hB
            rw [closedL_cells]
            rw [List.getElem?_map] at hq
            simp only [Option.map_eq_some_iff] at hq
            obtain ⟨v,_,rfl⟩:=hq
            exact closed_enc v
          · cases h
        | map kt vt =>
          cases k<;>simp only [cutK,reduceCtorEq] at h
          rename_i kt' vt' l
          split at h
          · rename_i l' hc
            have hc:=castM_spec hc
            simp only [Option.some.injEq,Prod.mk.injEq] at h
            obtain ⟨h,_⟩:=h
            subst h
            rw [hc]
            rintro en ⟨h0,es,clock,h1,h2,h3,h4⟩
            refine ⟨h0,es,clock,by rw [O.w]; exact h1,h2,fun i p e hp he=>?_,h4⟩
            obtain ⟨a,b,d⟩:=h3 i p e hp he
            simp only [List.getElem?_map,Option.map_eq_some_iff] at hp
            obtain ⟨q,_,rfl⟩:=hp
            exact ⟨into_closed O (closed_enc q.1) _ a,into_closed O (closed_enc q.2) _ b,d⟩
          · cases h
        | iter =>
          cases k<;>simp only [cutK,reduceCtorEq] at h
          simp only [Option.some.injEq,Prod.mk.injEq] at h
          obtain ⟨h,_⟩:=h
          subst h
          rintro en ⟨h1,h2,h3⟩
          exact ⟨h1,h2,by rw [O.w]; exact h3⟩
    · rename_i hl
      split at h
      · cases h
      · rename_i hkf
        clear hkf
        obtain ⟨b,f,kp⟩:=x
        simp only at v hf h ⊢
        cases f<;>simp only [cutN,reduceCtorEq] at h
        rename_i t sz
        split at h
        · rename_i h0
          simp only [Option.some.injEq,Prod.mk.injEq] at h
          obtain ⟨h,_⟩:=h
          subst h
          refine .inr ⟨hl,t,sz,rfl,blt_spec h0,?_⟩
          intro en ht hsz
          exact ⟨Nat.zero_le _,hsz,fun i q hq=>by simp [expB] at hq,fun hn=>absurd ht hn⟩
        · cases h
  · cases h
end Go.Proofs.Yticljphbbdnomaa.VL
