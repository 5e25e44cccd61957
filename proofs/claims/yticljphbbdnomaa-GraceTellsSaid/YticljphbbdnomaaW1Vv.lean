import Derived.Test.YticljphbbdnomaaW1Vu
namespace Go.Proofs.Yticljphbbdnomaa.VL
open Go
set_option linter.unusedVariables false
set_option linter.unusedSimpArgs false
set_option linter.unusedSectionVars false
variable [Val]
def IOp.at (o:Nat):IOp→IOp
 | .alloc s z=>.alloc (o+s) z
 | .box s sz x=>.box (o+s) sz x
 | .mksl s sz b z l c=>.mksl (o+s) sz b z l c
 | .app s sz b z x y=>.app (o+s) sz b z x y
 | .apz s sz b z x y=>.apz (o+s) sz b z x y
 | .mkm s=>.mkm (o+s)
 | .rngS s x=>.rngS (o+s) x
 | .call s f args=>.call (o+s) f args
 | .callv s x args=>.callv (o+s) x args
 | .callG s f args=>.callG (o+s) f args
 | .callvG s x args=>.callvG (o+s) x args
 | x=>x
def IOper.at (o:Nat) (x:IOper):IOper:=⟨x.dst,x.op.at o,x.guard⟩
def atOps (o:Nat):List IOper→List IOper
 | []=>[]
 | x::r=>x.at o::atOps o r
def ICode.at (o:Nat):ICode→ICode
 | .reg d ops=>.reg d (atOps o ops)
 | .dr un ops=>.dr un (atOps o ops)
 | .seq a b=>.seq (a.at o) (b.at o)
 | .cond c a b=>.cond c (a.at o) (b.at o)
 | .blk id b=>.blk id (b.at o)
 | .loop b=>.loop (b.at o)
 | x=>x
theorem InvE.take {C:Ctx} {st:St} {a:Act} {E:Env} (I:InvE C st a E) (k:Nat):InvE C ⟨st.t,st.h.take k,st.n⟩ a E:=by
 have get:∀ (b:Nat) (x:Nat×Blk),(st.h.take k)[b]?=some (some x)→st.h[b]?=some (some x):=by
  intro b x h
  rw [List.getElem?_take] at h
  split at h
  ·exact h
  ·cases h
 have at_:∀ (b s:Nat) (k':Blk) (en:Ent),At E (st.h.take k) b s k' en→At E st.h b s k' en:=fun b s k' en A=>⟨get _ _ A.slot,A.σ⟩
 refine { good:=⟨I.good.free,?_,fun b1 b2 s1 s2 k1 k2 en1 en2 A1 A2=>I.good.inj _ _ _ _ _ _ _ _ (at_ _ _ _ _ A1) (at_ _ _ _ _ A2),I.good.stay⟩,since:=I.since,touch:=fun b s k en A=>I.touch b s k en (at_ _ _ _ _ A),defers:=I.defers,tsize:=I.tsize,tmps:=I.tmps }
 intro b s k' hb
 obtain ⟨en,A,h⟩:=I.good.blk b s k' (get _ _ hb)
 exact ⟨en,⟨hb,A.σ⟩,h⟩
theorem Weak.take (st:St) (k:Nat):Weak st ⟨st.t,st.h.take k,st.n⟩:=fun C a E I=>⟨E,rfl,I.take k⟩
inductive RV where
 | t (n:Nat)
 | c (n:Nat) (ty:TypeId) (g:Bool) (m:Nat)
def RV.to:RV→ResultVar
 | .t n=>.tmp n
 | .c n ty _ _=>.cell n ty
def RV.okB (P:Program):RV→Bool
 | .t _=>true
 | .c _ ty g m=>decide (isAggT P ty=some g)&&(match P.info? ty with | some i=>i.size==m | none=>false)
def valR (st:St):RV→Option PV
 | .t n=>some (st.ev (.t n))
 | .c n _ g m=>peekOp st.ev st.h (.load g m (.t n))
def valsR (st:St):List RV→Option (List PV)
 | []=>some []
 | x::r=>match valR st x,valsR st r with | some p,some ps=>some (p::ps) | _,_=>none
def resR (st:St) (rs:List RV):Option PV:=match valsR st rs with
 | some [p]=>some p
 | some ps=>some (.tup ps)
 | none=>none
theorem run_valR {P:Program} {C:Ctx} {st:St} {a:Act} {E:Env} (I:InvE C st a E) {x:RV} (hok:x.okB P=true) {p:PV} (h:valR st x=some p) :
  ∃ v,Sem.run P (match x.to with | ResultVar.tmp t=>(pure (a.tmps.getD t undef):Sem Value) | ResultVar.cell b t=>do loadVar t (← asAddr (a.tmps.getD b undef))) E.w=.ok v E.w∧Rep E p v:=by
 cases x with
 | t n=>cases h; exact ⟨a.tmps.getD n undef,by simp [RV.to],ev_rep (x:=.tmp n) I rfl⟩
 | c n ty g m =>
  simp only [RV.okB,Bool.and_eq_true,decide_eq_true_eq] at hok
  obtain ⟨hg,hm⟩:=hok
  split at hm
  ·rename_i i hi
   have hm:i.size=m:=by simpa using hm
   have hr:Rep E (st.ev (.t n)) (a.tmps.getD n undef):=ev_rep (x:=.tmp n) I rfl
   simp only [valR] at h
   simp only [RV.to,Sem.run_bind]
   simp only [peekOp] at h
   split at h
   ·rename_i b s r off hev
    rw [hev] at hr
    obtain ⟨en,hσ,hu⟩:=rep_optr hr
    split at h
    ·rename_i s' es h1
     split at h
     ·rename_i hs
      subst hs
      split at h
      ·rename_i e h2
       obtain ⟨arr,ty',g1,g2,g3,g4,g5,g6,g7,X,gX1,gX⟩:=At.row I.good ⟨h1,hσ⟩ h2
       obtain ⟨l1,l2,l3⟩:=ldv_rep h (fun j c hc=>(gX j c hc).2) gX1
       refine ⟨_,?_,l3⟩
       rw [hu]
       simp only [asAddr,Sem.run_pure,Result.andThen_ok]
       rw [run_loadVar_cells (X:=fun j=>X (off+j)) hg hi hm l2]
       ·rfl
       ·intro j hj
        have:=(gX (off+j) _ (List.getElem?_eq_getElem (show off+j < e.cells.length by omega))).1
        rw [← this]
        congr 2; omega
      ·cases h
     ·cases h
    ·cases h
   ·rename_i cs hev
    rw [hev] at hr
    obtain ⟨rb,off,U,hu,hS,hm',ho',h'⟩:=rep_sptr hr
    obtain ⟨l1,l2,l3⟩:=ldv_rep (E:=E) (X:=U) h (fun j c hc=>h' j c hc) ho'
    simp only [PV.cells] at l1
    refine ⟨_,?_,l3⟩
    rw [hu]
    simp only [asAddr,Sem.run_pure,Result.andThen_ok]
    rw [run_loadVar_cells (X:=U) hg hi hm l2]
    ·simp
    ·intro j hj
     exact hm' j _ (List.getElem?_eq_getElem (show j < cs.length by omega))
   ·cases h
  ·cases hm
theorem run_resR {P:Program} {C:Ctx} {st:St} {a:Act} {E:Env} (I:InvE C st a E) {fn:Func} {rs:List RV} (hr:fn.results=(rs.map RV.to).toArray) (hok:rs.all (RV.okB P)=true) {r:PV} (h:resR st rs=some r) :
  ∃ v,(results fn a.tmps).run P E.w=.ok v E.w∧Rep E r v:=by
 have key:∀ (rs:List RV) (ps:List PV),rs.all (RV.okB P)=true→valsR st rs=some ps→∃ vs:List Value,vs.length=ps.length∧(∀ (i:Nat) (p:PV) (u:Value),ps[i]?=some p→vs[i]?=some u→Rep E p u) ∧
   Sem.run P ((rs.map RV.to).mapM (m:=Sem) (fun x:ResultVar=>match x with | ResultVar.tmp t=>(pure (a.tmps.getD t undef):Sem Value) | ResultVar.cell b t=>do loadVar t (← asAddr (a.tmps.getD b undef)))) E.w=Result.ok vs E.w:=by
  intro rs
  induction rs with
  | nil=>intro ps _ h; cases h; exact ⟨[],rfl,fun i p u hp=>by simp at hp,by simp⟩
  | cons x rs ih =>
   intro ps hok h
   simp only [List.all_cons,Bool.and_eq_true] at hok
   simp only [valsR] at h
   split at h
   ·rename_i p qs hp hqs
    cases h
    obtain ⟨v,h1,h2⟩:=run_valR I hok.1 hp
    obtain ⟨vs,g1,g2,g3⟩:=ih qs hok.2 hqs
    refine ⟨v::vs,by simp [g1],fun i p' u hp' hu=>?_,?_⟩
    ·cases i with
     | zero=>simp at hp' hu; subst hp' hu; exact h2
     | succ i=>exact g2 i p' u (by simpa using hp') (by simpa using hu)
    ·rw [List.map_cons,List.mapM_cons]
     rw [Sem.run_bind,h1]
     simp only [Result.andThen_ok,Sem.run_bind,g3,Sem.run_pure]
   ·cases h
 unfold resR at h
 have fin:∀ (ps:List PV),valsR st rs=some ps→∃ vs:List Value,vs.length=ps.length∧(∀ (i:Nat) (p:PV) (u:Value),ps[i]?=some p→vs[i]?=some u→Rep E p u)∧(results fn a.tmps).run P E.w=.ok (if h:vs.toArray.size=1 then vs.toArray[0] else .tuple vs.toArray) E.w:=by
  intro ps hps
  obtain ⟨vs,g1,g2,g3⟩:=key rs ps hok hps
  refine ⟨vs,g1,g2,?_⟩
  unfold results
  rw [hr,List.mapM_toArray,Sem.run_bind,Sem.run_map]
  erw [g3]
  rfl
 split at h
 ·rename_i p hps
  cases h
  obtain ⟨vs,g1,g2,g3⟩:=fin _ hps
  match vs,g1 with
  | [v],_=>exact ⟨v,by rw [g3]; simp,g2 0 _ v rfl rfl⟩
 ·rename_i ps hne hps
  cases h
  obtain ⟨vs,g1,g2,g3⟩:=fin _ hps
  have h1:vs.toArray.size≠1:=by
   intro h1
   have:ps.length=1:=by simp at h1; omega
   match ps,this with
   | [p],_=>exact hne p rfl
  refine ⟨.tuple vs.toArray,by rw [g3,dif_neg h1],.tup _ _ (by simpa using g1) (fun i p u hp hu=>g2 i p u hp (by simpa using hu))⟩
 ·cases h
theorem gcall_of {P:Program} (hm:P.follows .mixedOrders=true) {f:Nat} {fn:Func} {c:Code} {ic:ICode} {ts:List RV} {args:List PV} {h h':List Slot} {n n':Nat} {r:PV} {slot:Option Nat→Nat}
  (hf:P.funcs[f]?=some fn) (hb:fn.body=some c) (hcl:callable P f=true) (hr:fn.results=(ts.map RV.to).toArray) (hrs:ts.all (RV.okB P)=true) (hic:cCode P slot c=some ic) (m:Nat)
  (hK:icWp P ic (fun e st=>(e=.normal∨e=.ret)∧∃ (st':St) (kk:Nat),Weak st st'∧resR st' ts=some r∧st'.h.take kk=h'∧st'.n=n') ⟨args++List.replicate (fn.ntmps - args.length) (.v undef),h++List.replicate m none,n⟩) :
  GCall P f args h n r h' n':=by
 refine ⟨hcl,fun C t a E vals I hv hargs=>calls_of_wp hf hb ?_⟩
 let a0:Act:={ tmps:=vals++Array.replicate (fn.ntmps - vals.size) undef,defers:=[] }
 let C':Ctx:=⟨E.w,E.σ,fun r=>∃ (b s:Nat) (k:Blk) (en:Ent),At E h b s k en∧en.tot≠0∧en.rb=r,E.S⟩
 have get:∀ (b:Nat) (x:Nat×Blk),(h++List.replicate m none)[b]?=some (some x)→h[b]?=some (some x):=by
  intro b x hx
  rw [List.getElem?_append] at hx
  split at hx
  ·exact hx
  ·have:=List.mem_of_getElem? hx
   simp at this
 have at_:∀ (b s:Nat) (k':Blk) (en:Ent),At E (h++List.replicate m none) b s k' en→At E h b s k' en:=fun b s k' en A=>⟨get _ _ A.slot,A.σ⟩
 have I0:InvE C' ⟨args++List.replicate (fn.ntmps - args.length) (.v undef),h++List.replicate m none,n⟩ a0 E:=by
  refine { good:=⟨I.good.free,?_,fun b1 b2 s1 s2 k1 k2 en1 en2 A1 A2=>I.good.inj _ _ _ _ _ _ _ _ (at_ _ _ _ _ A1) (at_ _ _ _ _ A2),I.good.stay⟩,since:=⟨rfl,rfl,rfl,Nat.le_refl _,fun _ _ _=>rfl,fun _ _ h=>h,fun _ h=>h,fun _ h=>.inl h,Nat.le_refl _⟩,touch:=fun b s k en A h0=>.inl ⟨b,s,k,en,at_ _ _ _ _ A,h0,rfl⟩,defers:=rfl,tsize:=?_,tmps:=?_ }
  ·intro b s k' hb
   obtain ⟨en,A,h⟩:=I.good.blk b s k' (get _ _ hb)
   exact ⟨en,⟨hb,A.σ⟩,h⟩
  ·simp [a0,hv]
  ·intro i p u hp hu
   simp only [List.getElem?_append] at hp
   simp only [a0,Array.getElem?_append,hv] at hu
   split at hp
   ·rename_i hlt
    rw [if_pos hlt] at hu
    exact hargs i p u hp hu
   ·rename_i hge
    rw [if_neg hge] at hu
    have hp':=List.mem_of_getElem? hp
    have hu':=Array.mem_of_getElem? hu
    simp at hp' hu'
    rw [hp'.2,hu'.2]
    exact .v _
 refine wp_mono (icWp_sound hm c ic _ _ a0 E hic I0 hK) ?_
 rintro e a1 w ⟨i,st,E1,rfl,rfl,I1,hi,st1,kk,hw,hres,rfl,rfl⟩
 obtain ⟨E2,e2,I2⟩:=hw _ a1 E1 I1
 have hd:=I2.defers
 obtain ⟨v,hrun,hrep⟩:=run_resR I2 hr hrs hres
 replace I2:=I2.take kk
 generalize hst':(⟨st1.t,st1.h.take kk,st1.n⟩:St)=st' at I2
 have eh:st1.h.take kk=st'.h:=by rw [← hst']
 have en:st1.n=st'.n:=by rw [← hst']
 rw [eh,en]
 have hS:∀ r,E.S r→E2.w.heap[r]?=E.w.heap[r]?:=fun r hr=>I2.since.kept r (I.good.stay r hr) fun ⟨b,s,k,en,A,h0,he⟩=>(A.brep I.good).2 h0 (he ▸ hr)
 have J:InvE C ⟨t,st'.h,st'.n⟩ a E2:=I.step (E':=E2) ⟨I2.since.S1,hS,I2.since.σ⟩ I2.since.os I2.since.tape I2.since.output I2.since.size (fun r hr=>I2.since.S2 r hr) (fun r hr hn=>I2.since.kept r hr fun ⟨b,s,k,en,A,h0,he⟩=>hn b s k en A h0 he) I2.good I2.touch I2.since.drawn
 have post:a1.defers=[]∧∃ v,(results fn a1.tmps).run P E1.w=.ok v E1.w∧∃ v' E',Ending.returned v=.returned v'∧E'.w=E1.w∧InvE C ⟨t,st'.h,st'.n⟩ a E'∧Rep E' r v' :=
  ⟨hd,v,by rw [← e2]; exact hrun,_,E2,rfl,e2,J,hrep⟩
 rcases hi with rfl | rfl
 ·exact post
 ·exact post
def isIntB:PV→Bool | .v (.int _ _)=>true | _=>false
def isStrB:PV→Bool | .v (.string _)=>true | _=>false
def bndB (ρ:Opd→PV):Option Opd→Bool | none=>true | some x=>isIntB (ρ x)
def slotB (h:List Slot) (b s:Nat):Bool:=match h[b]? with | some (some (s',.cells _))=>s'==s | _=>false
def mapB (h:List Slot) (b s:Nat):Bool:=match h[b]? with | some (some (s',.map _))=>s'==s | _=>false
theorem mapB_ok {h:List Slot} {b s:Nat} (hb:mapB h b s=true):mapIs h b s:=by
 unfold mapB at hb; unfold mapIs
 split at hb
 ·rename_i heq; simp only [heq]; simpa using hb
 ·cases hb
theorem isIntB_ok {p:PV} (h:isIntB p=true):isInt p:=by
 unfold isIntB at h; split at h
 ·exact trivial
 ·cases h
theorem isStrB_ok {p:PV} (h:isStrB p=true):isStr p:=by
 unfold isStrB at h; split at h
 ·exact trivial
 ·cases h
theorem bndB_ok {ρ:Opd→PV} {x:Option Opd} (h:bndB ρ x=true):bndOk ρ x:=by
 cases x with
 | none=>exact trivial
 | some x=>exact isIntB_ok h
theorem slotB_ok {h:List Slot} {b s:Nat} (hb:slotB h b s=true):slotIs h b s:=by
 unfold slotB at hb; unfold slotIs
 split at hb
 ·rename_i heq; simp only [heq]; simpa using hb
 ·cases hb
def opOkB (ρ:Opd→PV) (h:List Slot) (n:Nat):IOp→Bool
 | .mov _=>true
 | .alloc s z=>s < h.length&&z.stor&&0 < z.cells.length
 | .box s sz x=>s < h.length&&(ρ x).stor&&0 < sz&&(ρ x).cells.length==sz
 | .bld z ps=>(fillV ρ z ps).isSome
 | .bsl sz z len ps=>0 < sz&&len * sz≤16777216&&z.cells.length==sz&&z.stor&&ps.all fun p=>(ρ p.2).cells.length==sz&&(ρ p.2).stor&&p.1 < len
 | .load g m a=>match ρ a with | .optr b s i off=>slotB h b s&&i < (blkEs h b s).length&&(ldv g m (rowAt h b s i) off).isSome | .sptr cs=>(ldv g m (.agg cs) 0).isSome | _=>false
 | .store m a x=>match ρ a with | .optr b s i off=>slotB h b s&&i < (blkEs h b s).length&&(ρ x).stor&&(stv (rowAt h b s i) off m (ρ x)).isSome | _=>false
 | .nilc x=>match ρ x with | .optr .. | .sptr _ | .clo ..=>true | _=>false
 | .bin op x y=>(binV op (ρ x) (ρ y)).isSome
 | .binB _ x y=>match ρ x,ρ y with | .v (.bool _),.v (.bool _)=>true | _,_=>false
 | .eqA _ sz plan x y=>match ρ x,ρ y with | .agg cs,.agg ds=>(eqVs sz plan cs ds).isSome | _,_=>false
 | .un op x=>(unV op (ρ x)).isSome
 | .conv _ x=>isIntB (ρ x)
 | .convS x=>isStrB (ρ x)
 | .fn ..=>true
 | .mksl s sz bytes z l c=>isIntB (ρ l)&&isIntB (ρ c)&&s < h.length&&0 < sz&&z.cells.length==sz&&z.stor&&0≤intOf' (ρ l)&&intOf' (ρ l)≤intOf' (ρ c)&&intOf' (ρ c) * bytes≤70368744177664&&intOf' (ρ c)≤70368744177664
 | .slc sz x lo hi mx=>bndB ρ lo&&bndB ρ hi&&bndB ρ mx&&match ρ x with
   | .sl _ es=>(es.all fun e=>e.cells.length==sz)&&0≤bndV ρ 0 lo&&bndV ρ 0 lo≤bndV ρ es.length hi&&bndV ρ es.length hi≤bndV ρ es.length mx&&bndV ρ es.length mx≤es.length
   | .own b s sz' off len cap=>sz'==sz&&0≤bndV ρ 0 lo&&bndV ρ 0 lo≤bndV ρ len hi&&bndV ρ len hi≤bndV ρ (slCap h b s off len cap mx:Nat) mx&&bndV ρ (slCap h b s off len cap mx:Nat) mx≤(slCap h b s off len cap mx:Nat)
   | _=>false
 | .slS x lo hi=>isStrB (ρ x)&&bndB ρ lo&&bndB ρ hi&&0≤bndV ρ 0 lo&&bndV ρ 0 lo≤bndV ρ (strOf (ρ x)).size hi&&bndV ρ (strOf (ρ x)).size hi≤(strOf (ρ x)).size
 | .fad _ x=>match ρ x with | .optr .. | .sptr _=>true | _=>false
 | .fld g off m x=>match ρ x with | .agg cs=>(g || m==1)&&(ldv g m (.agg cs) off).isSome | _=>false
 | .iad sz x i=>isIntB (ρ i)&&0≤intOf' (ρ i)&&match ρ x with
   | .sl _ es=>intOf' (ρ i) < es.length&&(es.getD (intOf' (ρ i)).toNat .dead).cells.length==sz
   | .own _ _ sz' _ len _=>sz'==sz&&intOf' (ρ i) < len
   | _=>false
 | .iaA len _ x i=>isIntB (ρ i)&&0≤intOf' (ρ i)&&intOf' (ρ i) < len&&match ρ x with | .optr .. | .sptr _=>true | _=>false
 | .ixA g len sz x i=>isIntB (ρ i)&&0≤intOf' (ρ i)&&intOf' (ρ i) < len&&(g || sz==1)&&match ρ x with | .agg cs=>(ldv g sz (.agg cs) ((intOf' (ρ i)).toNat * sz)).isSome | _=>false
 | .ixS x i=>isStrB (ρ x)&&isIntB (ρ i)&&0≤intOf' (ρ i)&&intOf' (ρ i) < (strOf (ρ x)).size
 | .ext x i=>match ρ x with | .tup cs=>i < cs.length | _=>false
 | .len x=>match ρ x with | .sl .. | .own ..=>true | _=>false
 | .lenS x=>isStrB (ρ x)
 | .mm mx xs=>(mmV mx (xs.map ρ)).isSome
 | .cpy sz x y=>match ρ x with
   | .own b st sz' off len _=>sz'==sz&&slotB h b st&&off+len≤(blkEs h b st).length&&(elems h (ρ y)).isSome&&((elems h (ρ y)).getD []).all fun e=>e.cells.length==sz
   | .sl _ []=>(elems h (ρ y)).isSome
   | _=>false
 | .mkm s=>s < h.length
 | .lkp _ k _ x key=>match ρ x with | .mp b s=>mapB h b s&&(mFind k (ρ key) (mapPs h b s) 0).isSome | _=>false
 | .mup k x key _=>match ρ x with | .mp b s=>mapB h b s&&(mFind k (ρ key) (mapPs h b s) 0).isSome | _=>false
 | .del k x key=>match ρ x with | .mp b s=>mapB h b s&&(mFind k (ρ key) (mapPs h b s) 0).isSome | _=>false
 | .lenM x=>match ρ x with | .mp b s=>mapB h b s | _=>false
 | .clr sz z x=>z.cells.length==sz&&z.stor&&match ρ x with
   | .own b st sz' off len _=>sz'==sz&&slotB h b st&&off+len≤(blkEs h b st).length
   | .sl _ []=>true
   | _=>false
 | .rngS s x=>isStrB (ρ x)&&s < h.length
 | .nxtS x=>match ρ x with | .optr b s 0 0=>(iterAt h b s).isSome | _=>false
 | .bts x=>(elems h (ρ x)).isSome&&(bytesOf ((elems h (ρ x)).getD [])).isSome
 | _=>false
theorem opOkB_ok {ρ:Opd→PV} {h:List Slot} {n:Nat} {op:IOp} (hb:opOkB ρ h n op=true):opOk ρ h n op:=by
 cases op with
 | bsl sz z len ps =>
  simp only [opOkB,Bool.and_eq_true,decide_eq_true_eq,beq_iff_eq,List.all_eq_true] at hb
  obtain ⟨⟨⟨⟨h1,h2⟩,h3⟩,h4⟩,h5⟩:=hb
  exact ⟨h1,h2,h3,h4,fun p hp=>⟨(h5 p hp).1.1,(h5 p hp).1.2,(h5 p hp).2⟩⟩
 | load g m a =>
  simp only [opOkB,opOk] at hb ⊢
  generalize ρ a=q at hb ⊢; cases q<;>simp only [Bool.and_eq_true,decide_eq_true_eq] at hb ⊢<;>first | exact ⟨slotB_ok hb.1.1,hb.1.2,hb.2⟩ | exact hb | cases hb
 | store m a x =>
  simp only [opOkB,opOk] at hb ⊢
  generalize ρ a=q at hb ⊢; cases q<;>simp only [Bool.and_eq_true,decide_eq_true_eq] at hb ⊢<;>first | exact ⟨slotB_ok hb.1.1.1,hb.1.1.2,hb.1.2,hb.2⟩ | cases hb
 | nilc x=>simp only [opOkB,opOk] at hb ⊢; generalize ρ x=q at hb ⊢; cases q<;>first | exact trivial | cases hb
 | eqA g sz pl x y =>
  simp only [opOkB,opOk] at hb ⊢
  split at hb
  ·rename_i h1 h2; simp only [h1,h2]; exact hb
  ·cases hb
 | binB g x y =>
  simp only [opOkB,opOk] at hb ⊢
  split at hb
  ·rename_i h1 h2; simp only [h1,h2]
  ·cases hb
 | conv k x=>exact isIntB_ok hb
 | convS x=>exact isStrB_ok hb
 | lenS x=>exact isStrB_ok hb
 | fn f fs cs=>exact trivial
 | mov x=>exact trivial
 | mksl s sz b z l c =>
  simp only [opOkB,Bool.and_eq_true,decide_eq_true_eq,beq_iff_eq] at hb
  obtain ⟨⟨⟨⟨⟨⟨⟨⟨⟨h1,h2⟩,h3⟩,h4⟩,h5⟩,h6⟩,h7⟩,h8⟩,h9⟩,h10⟩:=hb
  exact ⟨isIntB_ok h1,isIntB_ok h2,h3,h4,h5,h6,h7,h8,h9,h10⟩
 | slc sz x lo hi mx =>
  simp only [opOkB,Bool.and_eq_true] at hb
  obtain ⟨⟨⟨h1,h2⟩,h3⟩,h4⟩:=hb
  refine ⟨bndB_ok h1,bndB_ok h2,bndB_ok h3,?_⟩
  generalize ρ x=q at h4 ⊢; cases q<;>simp only [Bool.and_eq_true,decide_eq_true_eq,beq_iff_eq,List.all_eq_true] at h4 ⊢<;>first | cases h4; done | exact ⟨h4.1.1.1.1,h4.1.1.1.2,h4.1.1.2,h4.1.2,h4.2⟩
 | slS x lo hi =>
  simp only [opOkB,Bool.and_eq_true,decide_eq_true_eq] at hb
  exact ⟨isStrB_ok hb.1.1.1.1.1,bndB_ok hb.1.1.1.1.2,bndB_ok hb.1.1.1.2,hb.1.1.2,hb.1.2,hb.2⟩
 | fad off x=>simp only [opOkB,opOk] at hb ⊢; generalize ρ x=q at hb ⊢; cases q<;>first | exact trivial | cases hb
 | fld g off m x =>
  simp only [opOkB,opOk] at hb ⊢
  generalize ρ x=q at hb ⊢; cases q<;>simp only [Bool.and_eq_true] at hb ⊢<;>first | cases hb; done | (refine ⟨fun hg=>?_,hb.2⟩; have:=hb.1; subst hg; simpa using this)
 | iad sz x i =>
  simp only [opOkB,Bool.and_eq_true,decide_eq_true_eq] at hb
  refine ⟨isIntB_ok hb.1.1,hb.1.2,?_⟩
  have h2:=hb.2
  generalize ρ x=q at h2 ⊢; cases q<;>simp only [Bool.and_eq_true,decide_eq_true_eq,beq_iff_eq] at h2 ⊢<;>first | cases h2; done | exact h2
 | iaA len sz x i =>
  simp only [opOkB,Bool.and_eq_true,decide_eq_true_eq] at hb
  refine ⟨isIntB_ok hb.1.1.1,hb.1.1.2,hb.1.2,?_⟩
  have h2:=hb.2
  generalize ρ x=q at h2 ⊢; cases q<;>first | exact trivial | cases h2
 | ixA g len sz x i =>
  simp only [opOkB,Bool.and_eq_true,decide_eq_true_eq] at hb
  refine ⟨isIntB_ok hb.1.1.1.1,hb.1.1.1.2,hb.1.1.2,fun hg=>?_,?_⟩
  ·have:=hb.1.2; subst hg; simpa using this
  ·have h2:=hb.2
   generalize ρ x=q at h2 ⊢; cases q<;>first | exact h2 | cases h2
 | ixS x i =>
  simp only [opOkB,Bool.and_eq_true,decide_eq_true_eq] at hb
  exact ⟨isStrB_ok hb.1.1.1,isIntB_ok hb.1.1.2,hb.1.2,hb.2⟩
 | ext x i=>simp only [opOkB,opOk] at hb ⊢; generalize ρ x=q at hb ⊢; cases q<;>simp only [decide_eq_true_eq] at hb ⊢<;>first | exact hb | cases hb
 | len x=>simp only [opOkB,opOk] at hb ⊢; generalize ρ x=q at hb ⊢; cases q<;>first | exact trivial | cases hb
 | cpy sz x y =>
  simp only [opOkB,opOk] at hb ⊢
  split at hb
  ·rename_i hev
   simp only [hev,Bool.and_eq_true,decide_eq_true_eq,beq_iff_eq,List.all_eq_true] at hb ⊢
   exact ⟨hb.1.1.1.1,slotB_ok hb.1.1.1.2,hb.1.1.2,hb.1.2,hb.2⟩
  ·rename_i hev; simp only [hev]; exact hb
  ·cases hb
 | alloc s z=>simp only [opOkB,opOk,Bool.and_eq_true,decide_eq_true_eq] at hb ⊢; exact ⟨hb.1.1,hb.1.2,hb.2⟩
 | box s sz x=>simp only [opOkB,opOk,Bool.and_eq_true,decide_eq_true_eq,beq_iff_eq] at hb ⊢; exact ⟨hb.1.1.1,hb.1.1.2,hb.1.2,hb.2⟩
 | bld z ps=>exact hb
 | bin op x y=>exact hb
 | mkm s=>simp only [opOkB,decide_eq_true_eq] at hb; exact hb
 | lkp o k z x y=>simp only [opOkB,opOk] at hb ⊢; generalize ρ x=q at hb ⊢; cases q<;>simp only [Bool.and_eq_true] at hb ⊢<;>first | exact ⟨mapB_ok hb.1,hb.2⟩ | cases hb
 | mup k x y z=>simp only [opOkB,opOk] at hb ⊢; generalize ρ x=q at hb ⊢; cases q<;>simp only [Bool.and_eq_true] at hb ⊢<;>first | exact ⟨mapB_ok hb.1,hb.2⟩ | cases hb
 | del k x y=>simp only [opOkB,opOk] at hb ⊢; generalize ρ x=q at hb ⊢; cases q<;>simp only [Bool.and_eq_true] at hb ⊢<;>first | exact ⟨mapB_ok hb.1,hb.2⟩ | cases hb
 | lenM x=>simp only [opOkB,opOk] at hb ⊢; generalize ρ x=q at hb ⊢; cases q<;>first | exact mapB_ok hb | cases hb
 | clr sz z x =>
  simp only [opOkB,Bool.and_eq_true,beq_iff_eq] at hb
  obtain ⟨⟨h1,h2⟩,h3⟩:=hb
  refine ⟨h1,h2,?_⟩
  split at h3
  ·rename_i hev
   simp only [hev]
   simp only [Bool.and_eq_true,decide_eq_true_eq,beq_iff_eq] at h3
   exact ⟨h3.1.1,slotB_ok h3.1.2,h3.2⟩
  ·rename_i hev
   simp only [hev]
  ·cases h3
 | bts x=>simp only [opOkB,Bool.and_eq_true] at hb; exact ⟨hb.1,hb.2⟩
 | rngS s x=>simp only [opOkB,Bool.and_eq_true,decide_eq_true_eq] at hb; exact ⟨isStrB_ok hb.1,hb.2⟩
 | nxtS x =>
  simp only [opOkB,opOk] at hb ⊢
  split at hb
  ·rename_i hev; simp only [hev]; exact hb
  ·cases hb
 | un op x=>exact hb
 | mm g xs=>exact hb
 | _=>cases hb
def appTry (h:List Slot) (n s sz bytes:Nat) (ys:List PV):PV→Option (PV×List Slot×Nat)
 | .sl true es=>if (es.all fun e=>e.cells.length==sz)&&(es.length+ys.length) * bytes≤70368744177664&&es.length+ys.length≤70368744177664 then
   (if ys.isEmpty then some (.sl true es,h,n) else some (.own s n sz 0 (es.length+ys.length) none,h.set s (some (n,.cells (es++ys))),n+1)) else none
 | .sl false []=>if ys.length * bytes≤70368744177664&&ys.length≤70368744177664 then none else none
 | .own b st sz' off len cap=>if sz'==sz&&slotB h b st&&off+len≤(blkEs h b st).length&&(len+ys.length) * bytes≤70368744177664&&len+ys.length≤70368744177664 then
   (match cap with
   | some c=>if len+ys.length≤c then (if off+len+ys.length≤(blkEs h b st).length then some (.own b st sz off (len+ys.length) cap,h.set b (some (st,.cells ((blkEs h b st).take (off+len)++ys++(blkEs h b st).drop (off+len+ys.length)))),n) else none)
     else some (.own s n sz 0 (len+ys.length) none,h.set s (some (n,.cells (((blkEs h b st).drop off).take len++ys))),n+1)
   | none=>if off+len+ys.length≤(blkEs h b st).length then some (.own b st sz off (len+ys.length) none,h.set b (some (st,.cells ((blkEs h b st).take (off+len)++ys++(blkEs h b st).drop (off+len+ys.length)))),n)
     else some (.own b n sz 0 (len+ys.length) none,h.set b (some (n,.cells (((blkEs h b st).drop off).take len++ys))),n+1)) else none
 | _=>none
inductive Tr (α:Type) where
 | no
 | ok (a:α)
 | br (x:SX) (t f:Tr α)
def Tr.ofO {α:Type}:Option α→Tr α
 | some a=>.ok a
 | none=>.no
def Tr.bind {α β:Type}:Tr α→(α→Tr β)→Tr β
 | .no,_=>.no
 | .ok a,k=>k a
 | .br x t f,k=>.br x (t.bind k) (f.bind k)
def isTrue:Value→Option Bool
 | .bool t=>some t
 | _=>none
def Tr.pick {α:Type}:Tr α→Option α
 | .no=>none
 | .ok a=>some a
 | .br x t f=>match isTrue x.eval with | some true=>t.pick | some false=>f.pick | none=>none
theorem Tr.pick_bind {α β:Type} {k:α→Tr β}:∀ {x:Tr α} {b:β},(x.bind k).pick=some b→∃ a,x.pick=some a∧(k a).pick=some b
 | .no,b,h=>by cases h
 | .ok a,b,h=>⟨a,rfl,h⟩
 | .br x t f,b,h=>by
  simp only [Tr.bind,Tr.pick] at h ⊢
  generalize isTrue x.eval=r at h ⊢
  match r with
  | some true=>exact Tr.pick_bind h
  | some false=>exact Tr.pick_bind h
  | none=>cases h
theorem Tr.pick_ofO {α:Type} {o:Option α} {a:α} (h:(Tr.ofO o).pick=some a):o=some a:=by
 cases o with
 | none=>cases h
 | some b=>exact h
theorem isTrue_spec {v:Value} {t:Bool} (h:isTrue v=some t):v=.bool t:=by
 unfold isTrue at h
 split at h
 ·cases h; rfl
 ·cases h
def guardSy (x:SX):Option PV:=if x.ty.isSome=true then some (.sy x) else none
def symRes (ρ:Opd→PV):IOp→Option PV
 | .bin op x y=>(binS op (ρ x) (ρ y)).map .sy
 | .binB neg x y=>(beqS neg (ρ x) (ρ y)).map .sy
 | .eqA neg sz plan x y=>match ρ x,ρ y with | .agg cs,.agg ds=>(eqSs sz neg plan cs ds).map .sy | _,_=>none
 | .un op x=>match toSX (ρ x) with | some y=>guardSy (.un op y) | none=>none
 | .conv k x=>match ρ x with | .sy y=>guardSy (.conv k y) | _=>none
 | .convS x=>match ρ x with | .sy y=>if y.ty=some .s then some (.sy y) else none | _=>none
 | .lenS x=>match ρ x with | .sy y=>guardSy (.len y) | _=>none
 | .mm _ xs=>(mmS (xs.map ρ)).map .sy
 | _=>none
theorem guardSy_spec {x:SX} {p:PV} (h:guardSy x=some p):p=.sy x∧x.ty.isSome=true:=by
 unfold guardSy at h
 split at h
 ·cases h; exact ⟨rfl,by assumption⟩
 ·cases h
theorem symRes_ok {ρ:Opd→PV} {h:List Slot} {n:Nat} {op:IOp} {K:PV→List Slot→Nat→Prop} {p:PV} (hb:opOkB ρ h n op=false) (hs:symRes ρ op=some p) (hK:K p h n):opK ρ h n K op:=by
 cases op<;>simp only [symRes] at hs<;>first | (cases hs; done) | skip
 ·rename_i op x y
  simp only [Option.map_eq_some_iff] at hs
  obtain ⟨z,hz,rfl⟩:=hs
  simp only [opOkB] at hb
  simp only [opK]
  have:binV op (ρ x) (ρ y)=none:=by simpa using hb
  simp only [this,hz]; exact hK
 ·rename_i neg x y
  simp only [Option.map_eq_some_iff] at hs
  obtain ⟨z,hz,rfl⟩:=hs
  simp only [opOkB] at hb
  simp only [opK]
  split at hb
  ·cases hb
  ·rename_i hne
   split
   ·rename_i h1 h2; exact absurd h2 (hne _ _ h1)
   ·simp only [hz]; exact hK
 ·rename_i neg sz plan x y
  simp only [opOkB] at hb
  simp only [opK]
  split at hs
  ·rename_i cs ds h1 h2
   simp only [Option.map_eq_some_iff] at hs
   obtain ⟨z,hz,rfl⟩:=hs
   simp only [h1,h2] at hb ⊢
   have:eqVs sz plan cs ds=none:=by simpa using hb
   simp only [this,hz]; exact hK
  ·cases hs
 ·rename_i op x
  simp only [opOkB] at hb
  simp only [opK]
  split at hs
  ·rename_i y hy
   obtain ⟨rfl,h2⟩:=guardSy_spec hs
   have:unV op (ρ x)=none:=by simpa using hb
   simp only [this,hy]; exact ⟨h2,hK⟩
  ·cases hs
 ·rename_i k x
  simp only [opK]
  split at hs
  ·rename_i y hy
   obtain ⟨rfl,h2⟩:=guardSy_spec hs
   simp only [hy]; exact ⟨h2,hK⟩
  ·cases hs
 ·rename_i x
  simp only [opK]
  split at hs
  ·rename_i y hy
   split at hs
   ·cases hs; simp only [hy]; exact ⟨by assumption,hK⟩
   ·cases hs
  ·cases hs
 ·rename_i x
  simp only [opK]
  split at hs
  ·rename_i y hy
   obtain ⟨rfl,h2⟩:=guardSy_spec hs
   simp only [hy]; exact ⟨h2,hK⟩
  ·cases hs
 ·rename_i mx xs
  simp only [Option.map_eq_some_iff] at hs
  obtain ⟨z,hz,rfl⟩:=hs
  simp only [opOkB] at hb
  simp only [opK]
  have:mmV mx (xs.map ρ)=none:=by simpa using hb
  simp only [this,hz]; exact hK
def opTr (ρ:Opd→PV) (h:List Slot) (n:Nat):IOp→Option (PV×List Slot×Nat)
 | .nilq neg x=>match ρ x with | .sl _ (_::_)=>some (.v (.bool neg),h,n) | .own _ _ _ _ (_+1) _=>some (.v (.bool neg),h,n) | _=>none
 | .cap x=>match ρ x with | .sl true es=>some (.v (.int .i64 es.length),h,n) | .own _ _ _ _ _ (some c)=>some (.v (.int .i64 c),h,n) | _=>none
 | .app s sz bytes z x y=>if s < h.length&&0 < sz&&z.cells.length==sz&&z.stor then
   (match elems h (ρ y) with | some ys=>if ys.all fun e=>e.cells.length==sz then appTry h n s sz bytes ys (ρ x) else none | none=>none) else none
 | op=>if opOkB ρ h n op then some (opRes ρ h n op) else (match symRes ρ op with | some p=>some (p,h,n) | none=>none)
theorem opTr_ok {ρ:Opd→PV} {h:List Slot} {n:Nat} {op:IOp} {K:PV→List Slot→Nat→Prop} {p:PV} {h':List Slot} {n':Nat} (ho:opTr ρ h n op=some (p,h',n')) (hK:K p h' n'):opK ρ h n K op:=by
 have base:(if opOkB ρ h n op then some (opRes ρ h n op) else (match symRes ρ op with | some p=>some (p,h,n) | none=>none))=some (p,h',n')→opK ρ h n K op:=by
  intro h1
  split at h1
  ·rename_i hb
   refine opK_of (opOkB_ok hb) ?_
   simp only [Option.some.injEq] at h1
   rw [h1]; exact hK
  ·rename_i hb
   split at h1
   ·rename_i q hq
    cases h1
    exact symRes_ok (by simpa using hb) hq hK
   ·cases h1
 cases op with
 | nilq g x =>
  simp only [opTr] at ho
  simp only [opK]
  split at ho
  ·rename_i hev; cases ho; simp only [hev]; exact ⟨by simp,hK⟩
  ·rename_i hev; cases ho; simp only [hev]; exact ⟨by simp,hK⟩
  ·cases ho
 | cap x =>
  simp only [opTr] at ho
  simp only [opK]
  split at ho
  ·rename_i hev; cases ho; simp only [hev]; exact hK
  ·rename_i hev; cases ho; simp only [hev]; exact hK
  ·cases ho
 | app s sz bytes z x y =>
  simp only [opTr] at ho
  simp only [opK]
  split at ho
  ·rename_i h0
   simp only [Bool.and_eq_true,decide_eq_true_eq,beq_iff_eq] at h0
   split at ho
   ·rename_i ys hys
    split at ho
    ·rename_i hall
     simp only [List.all_eq_true,beq_iff_eq] at hall
     refine ⟨h0.1.1.1,h0.1.1.2,h0.1.2,h0.2,ys,hys,hall,?_⟩
     unfold appTry at ho
     split at ho
     ·rename_i es hev
      split at ho
      ·rename_i hc
       simp only [Bool.and_eq_true,decide_eq_true_eq,beq_iff_eq,List.all_eq_true] at hc
       simp only [hev]
       refine ⟨hc.1.1,hc.1.2,hc.2,fun he=>?_,fun he=>?_⟩
       ·simp only [he,List.isEmpty_nil,if_true] at ho; cases ho; exact hK
       ·rw [if_neg (by simpa using he)] at ho; cases ho; exact hK
      ·cases ho
     ·split at ho<;>cases ho
     ·rename_i b st sz' off len cap hev
      split at ho
      ·rename_i hc
       simp only [Bool.and_eq_true,decide_eq_true_eq,beq_iff_eq] at hc
       simp only [hev]
       refine ⟨hc.1.1.1.1,_,slotIs_spec (slotB_ok hc.1.1.1.2),hc.1.1.2,hc.1.2,hc.2,?_⟩
       split at ho
       ·rename_i c
        simp only
        split at ho
        ·rename_i hl
         rw [if_pos hl]
         split at ho
         ·rename_i hl2; cases ho; exact ⟨hl2,hK⟩
         ·cases ho
        ·rename_i hl; rw [if_neg hl]; cases ho; exact hK
       ·simp only
        split at ho
        ·rename_i hl; rw [if_pos hl]; cases ho; exact hK
        ·rename_i hl; rw [if_neg hl]; cases ho; exact hK
      ·cases ho
     ·cases ho
    ·cases ho
   ·cases ho
  ·cases ho
 | _=>exact base ho
def opTry (ρ:Opd→PV) (h:List Slot) (n:Nat):IOp→Tr (PV×List Slot×Nat)
 | .pick c a b=>match ρ c with
  | .v (.bool true)=>.ok (ρ a,h,n)
  | .v (.bool false)=>.ok (ρ b,h,n)
  | .sy x=>if x.ty=some .b then .br x (.ok (ρ a,h,n)) (.ok (ρ b,h,n)) else .no
  | _=>.no
 | op=>.ofO (opTr ρ h n op)
theorem opTry_ok {ρ:Opd→PV} {h:List Slot} {n:Nat} {op:IOp} {K:PV→List Slot→Nat→Prop} {p:PV} {h':List Slot} {n':Nat} (ho:(opTry ρ h n op).pick=some (p,h',n')) (hK:K p h' n'):opK ρ h n K op:=by
 cases op with
 | pick c a b =>
  simp only [opTry] at ho
  simp only [opK]
  split at ho
  ·rename_i hev; cases ho; simp only [hev]; exact ⟨fun _=>hK,by simp⟩
  ·rename_i hev; cases ho; simp only [hev]; exact ⟨by simp,fun _=>hK⟩
  ·rename_i x hev
   simp only [hev]
   split at ho
   ·rename_i hty
    simp only [Tr.pick] at ho
    split at ho
    ·rename_i hx
     have hx:=isTrue_spec hx
     cases ho
     exact ⟨hty,fun _=>hK,fun h=>by rw [hx] at h; cases h⟩
    ·rename_i hx
     have hx:=isTrue_spec hx
     cases ho
     exact ⟨hty,(fun h=>by rw [hx] at h; cases h),fun _=>hK⟩
    ·cases ho
   ·cases ho
  ·cases ho
 | _=>exact opTr_ok (Tr.pick_ofO ho) hK
abbrev Sem1:=(Opd→PV)→List Slot→Nat→Tr (PV×List Slot×Nat)
def okIf (b:Bool) (y:PV×List Slot×Nat):Tr (PV×List Slot×Nat):=match b with | true=>.ok y | false=>.no
def okSy (p:Option PV) (h:List Slot) (n:Nat):Tr (PV×List Slot×Nat):=match p with | some p=>.ok (p,h,n) | none=>.no
def tPick (c a b:Opd):Sem1:=fun ρ h n=>match ρ c with
 | .v (.bool true)=>.ok (ρ a,h,n)
 | .v (.bool false)=>.ok (ρ b,h,n)
 | .sy x=>if x.ty=some .b then .br x (.ok (ρ a,h,n)) (.ok (ρ b,h,n)) else .no
 | _=>.no
def tMov (x:Opd):Sem1:=fun ρ h n=>.ok (ρ x,h,n)
def tAlloc (s:Nat) (z:PV):Sem1:=fun ρ h n=>okIf (s < h.length&&z.stor&&0 < z.cells.length) (.optr s n 0 0,h.set s (some (n,.cells [z])),n+1)
def tBox (s sz:Nat) (x:Opd):Sem1:=fun ρ h n=>okIf (s < h.length&&(ρ x).stor&&0 < sz&&(ρ x).cells.length==sz) (.optr s n 0 0,h.set s (some (n,.cells [ρ x])),n+1)
def tBld (z:List PV) (ps:List (Nat×Nat×Opd)):Sem1:=fun ρ h n=>match fillV ρ z ps with | some cs=>.ok (.agg cs,h,n) | none=>.no
def tLoad (g:Bool) (m:Nat) (a:Opd):Sem1:=fun ρ h n=>match ρ a with
 | .optr b s i off=>(match h[b]? with
  | some (some (s',.cells es))=>(match s'==s with | true=>(match es[i]? with | some e=>okSy (ldv g m e off) h n | none=>.no) | false=>.no)
  | _=>.no)
 | .sptr cs=>okSy (ldv g m (.agg cs) 0) h n
 | _=>.no
def tStore (m:Nat) (a x:Opd):Sem1:=fun ρ h n=>match ρ a with
 | .optr b s i off=>(match h[b]? with
  | some (some (s',.cells es))=>(match s'==s&&(ρ x).stor with | true=>(match es[i]? with | some e=>(match stv e off m (ρ x) with | some e'=>.ok (.v undef,h.set b (some (s,.cells (es.set i e'))),n) | none=>.no) | none=>.no) | false=>.no)
  | _=>.no)
 | _=>.no
def tNilc (x:Opd):Sem1:=fun ρ h n=>match ρ x with | .optr b s i off=>.ok (.optr b s i off,h,n) | .sptr cs=>.ok (.sptr cs,h,n) | .clo f fs cs=>.ok (.clo f fs cs,h,n) | _=>.no
def tBin (op:BinOp) (x y:Opd):Sem1:=fun ρ h n=>match binV op (ρ x) (ρ y) with | some u=>.ok (.v u,h,n) | none=>(match binS op (ρ x) (ρ y) with | some z=>.ok (.sy z,h,n) | none=>.no)
def tFad (off:Nat) (x:Opd):Sem1:=fun ρ h n=>match ρ x with | .optr b s i o=>.ok (.optr b s i (o+off),h,n) | .sptr cs=>.ok (.sptr (cs.drop off),h,n) | _=>.no
def tFld (g:Bool) (off m:Nat) (x:Opd):Sem1:=fun ρ h n=>match ρ x with | .agg cs=>(match g || m==1 with | true=>okSy (ldv g m (.agg cs) off) h n | false=>.no) | _=>.no
def tExt (x:Opd) (i:Nat):Sem1:=fun ρ h n=>match ρ x with | .tup cs=>okSy cs[i]? h n | _=>.no
def tIad (sz:Nat) (x i:Opd):Sem1:=fun ρ h n=>match ρ x,ρ i with
 | .sl _ es,.v (.int _ (.ofNat i))=>(match es[i]? with | some e=>okIf (e.cells.length==sz) (.sptr e.cells,h,n) | none=>.no)
 | .own b s sz' off len _,.v (.int _ (.ofNat i))=>okIf (sz'==sz&&decide (i < len)) (.optr b s (off+i) 0,h,n)
 | _,_=>.no
def tRest (o:Nat) (op:IOp):Sem1:=fun ρ h n=>opTry ρ h n (op.at o)
def semOf (o:Nat):IOp→Sem1
 | .mov x=>tMov x
 | .pick c a b=>tPick c a b
 | .alloc s z=>tAlloc (o+s) z
 | .box s sz x=>tBox (o+s) sz x
 | .bld z ps=>tBld z ps
 | .load g m a=>tLoad g m a
 | .store m a x=>tStore m a x
 | .nilc x=>tNilc x
 | .bin op x y=>tBin op x y
 | .fad off x=>tFad off x
 | .fld g off m x=>tFld g off m x
 | .ext x i=>tExt x i
 | .iad sz x i=>tIad sz x i
 | op=>tRest o op
theorem pick_okIf {b:Bool} {y z:PV×List Slot×Nat} (h:(okIf b y).pick=some z):b=true∧y=z:=by
 cases b with
 | true=>simp only [okIf,Tr.pick,Option.some.injEq] at h; exact ⟨rfl,h⟩
 | false=>cases h
theorem pick_okSy {p:Option PV} {h:List Slot} {n:Nat} {z:PV×List Slot×Nat} (hh:(okSy p h n).pick=some z):∃ q,p=some q∧z=(q,h,n):=by
 cases p with
 | none=>cases hh
 | some q=>simp only [okSy,Tr.pick,Option.some.injEq] at hh; exact ⟨q,rfl,hh.symm⟩
theorem semOf_ok {ρ:Opd→PV} {h:List Slot} {n o:Nat} {op:IOp} {K:PV→List Slot→Nat→Prop} {p:PV} {h':List Slot} {n':Nat} (ho:(semOf o op ρ h n).pick=some (p,h',n')) (hK:K p h' n'):opK ρ h n K (op.at o):=by
 have rest:(opTry ρ h n (op.at o)).pick=some (p,h',n')→opK ρ h n K (op.at o):=fun h=>opTry_ok h hK
 cases op with
 | mov x=>cases ho; exact hK
 | pick c a b=>exact rest ho
 | alloc s z =>
  obtain ⟨h1,h2⟩:=pick_okIf ho
  cases h2
  simp only [Bool.and_eq_true,decide_eq_true_eq] at h1
  exact ⟨h1.1.1,h1.1.2,h1.2,hK⟩
 | box s sz x =>
  obtain ⟨h1,h2⟩:=pick_okIf ho
  cases h2
  simp only [Bool.and_eq_true,decide_eq_true_eq,beq_iff_eq] at h1
  exact ⟨h1.1.1.1,h1.1.1.2,h1.1.2,h1.2,hK⟩
 | bld z ps =>
  simp only [semOf,tBld] at ho
  simp only [IOp.at,opK]
  split at ho
  ·rename_i cs hcs; cases ho; simp only [hcs]; exact hK
  ·cases ho
 | load g m a =>
  simp only [semOf,tLoad] at ho
  simp only [IOp.at,opK]
  split at ho
  ·rename_i b s i off hev
   simp only [hev]
   split at ho
   ·rename_i s' es h1
    split at ho
    ·rename_i hs
     have hs:s'=s:=by simpa using hs
     subst hs
     split at ho
     ·rename_i e he
      obtain ⟨q,h2,h3⟩:=pick_okSy ho
      cases h3
      exact ⟨es,e,p,h1,he,h2,hK⟩
     ·cases ho
    ·cases ho
   ·cases ho
  ·rename_i cs hev
   simp only [hev]
   obtain ⟨q,h2,h3⟩:=pick_okSy ho
   cases h3
   exact ⟨p,h2,hK⟩
  ·cases ho
 | store m a x =>
  simp only [semOf,tStore] at ho
  simp only [IOp.at,opK]
  split at ho
  ·rename_i b s i off hev
   simp only [hev]
   split at ho
   ·rename_i s' es h1
    split at ho
    ·rename_i hs
     rw [Bool.and_eq_true,beq_iff_eq] at hs
     obtain ⟨rfl,hst⟩:=hs
     split at ho
     ·rename_i e he
      split at ho
      ·rename_i e' he'
       cases ho
       exact ⟨es,e,e',h1,he,hst,he',hK⟩
      ·cases ho
     ·cases ho
    ·cases ho
   ·cases ho
  ·cases ho
 | nilc x =>
  simp only [semOf,tNilc] at ho
  simp only [IOp.at,opK]
  split at ho
  ·rename_i hev; cases ho; simp only [hev]; exact hK
  ·rename_i hev; cases ho; simp only [hev]; exact hK
  ·rename_i hev; cases ho; simp only [hev]; exact hK
  ·cases ho
 | bin op x y =>
  simp only [semOf,tBin] at ho
  simp only [IOp.at,opK]
  split at ho
  ·rename_i u hu; cases ho; simp only [hu]; exact hK
  ·rename_i hu
   split at ho
   ·rename_i z hz; cases ho; simp only [hu,hz]; exact hK
   ·cases ho
 | fad off x =>
  simp only [semOf,tFad] at ho
  simp only [IOp.at,opK]
  split at ho
  ·rename_i hev; cases ho; simp only [hev]; exact hK
  ·rename_i hev; cases ho; simp only [hev]; exact hK
  ·cases ho
 | fld g off m x =>
  simp only [semOf,tFld] at ho
  simp only [IOp.at,opK]
  split at ho
  ·rename_i cs hev
   simp only [hev]
   split at ho
   ·rename_i hg
    obtain ⟨q,h2,h3⟩:=pick_okSy ho
    cases h3
    refine ⟨fun h=>?_,p,h2,hK⟩
    subst h; simpa using hg
   ·cases ho
  ·cases ho
 | ext x i =>
  simp only [semOf,tExt] at ho
  simp only [IOp.at,opK]
  split at ho
  ·rename_i cs hev
   simp only [hev]
   obtain ⟨q,h2,h3⟩:=pick_okSy ho
   cases h3
   exact ⟨p,h2,hK⟩
  ·cases ho
 | iad sz x i =>
  simp only [semOf,tIad] at ho
  simp only [IOp.at,opK]
  split at ho
  ·rename_i c es k j h1 h2
   simp only [h1,h2]
   split at ho
   ·rename_i e he
    obtain ⟨h3,h4⟩:=pick_okIf ho
    cases h4
    exact ⟨Int.natCast_nonneg _,e,he,by simpa using h3,hK⟩
   ·cases ho
  ·rename_i b s sz' off len cap k j h1 h2
   simp only [h1,h2]
   obtain ⟨h3,h4⟩:=pick_okIf ho
   cases h4
   simp only [Bool.and_eq_true,beq_iff_eq,decide_eq_true_eq] at h3
   exact ⟨h3.1,Int.natCast_nonneg _,by simpa using h3.2,hK⟩
  ·cases ho
 | _=>exact rest ho
end Go.Proofs.Yticljphbbdnomaa.VL
