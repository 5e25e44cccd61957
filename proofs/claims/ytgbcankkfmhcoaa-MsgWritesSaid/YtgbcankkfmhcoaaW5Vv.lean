import Derived.Test.YtgbcankkfmhcoaaW5Vu
namespace Go.Proofs.Ytgbcankkfmhcoaa.VL
open Go
set_option linter.unusedVariables false
set_option linter.unusedSimpArgs false
set_option linter.unusedSectionVars false
variable [Val]
def IOp.at (o:Nat):IOp→IOp
 | .alloc s z=>.alloc (o+s) z
 | .box s sz x=>.box (o+s) sz x
 | .mksl s sz b z l c=>.mksl (o+s) sz b z l c
 | .app s sz b z x y=>.app (o+s) sz b z x y
 | .apz s sz b z x y=>.apz (o+s) sz b z x y
 | .mkm s=>.mkm (o+s)
 | .rngS s x=>.rngS (o+s) x
 | .call s f args=>.call (o+s) f args
 | .callv s x args=>.callv (o+s) x args
 | .callG s f args=>.callG (o+s) f args
 | .callvG s x args=>.callvG (o+s) x args
 | x=>x
def IOper.at (o:Nat) (x:IOper):IOper:=⟨x.dst,x.op.at o,x.guard⟩
def atOps (o:Nat):List IOper→List IOper
 | []=>[]
 | x::r=>x.at o::atOps o r
def ICode.at (o:Nat):ICode→ICode
 | .reg d ops=>.reg d (atOps o ops)
 | .dr un ops=>.dr un (atOps o ops)
 | .seq a b=>.seq (a.at o) (b.at o)
 | .cond c a b=>.cond c (a.at o) (b.at o)
 | .blk id b=>.blk id (b.at o)
 | .loop b=>.loop (b.at o)
 | x=>x
theorem InvE.take {C:Ctx} {st:St} {a:Act} {E:Env} (I:InvE C st a E) (k:Nat):InvE C ⟨st.t,st.h.take k,st.n⟩ a E:=by
 have get:∀ (b:Nat) (x:Nat×Blk),(st.h.take k)[b]?=some (some x)→st.h[b]?=some (some x):=by
  intro b x h
  rw [List.getElem?_take] at h
  split at h
  ·exact h
  ·cases h
 have at_:∀ (b s:Nat) (k':Blk) (en:Ent),At E (st.h.take k) b s k' en→At E st.h b s k' en:=fun b s k' en A=>⟨get _ _ A.slot,A.σ⟩
 refine { good:=⟨I.good.free,?_,fun b1 b2 s1 s2 k1 k2 en1 en2 A1 A2=>I.good.inj _ _ _ _ _ _ _ _ (at_ _ _ _ _ A1) (at_ _ _ _ _ A2),I.good.stay⟩,since:=I.since,touch:=fun b s k en A=>I.touch b s k en (at_ _ _ _ _ A),defers:=I.defers,tsize:=I.tsize,tmps:=I.tmps }
 intro b s k' hb
 obtain ⟨en,A,h⟩:=I.good.blk b s k' (get _ _ hb)
 exact ⟨en,⟨hb,A.σ⟩,h⟩
theorem Weak.take (st:St) (k:Nat):Weak st ⟨st.t,st.h.take k,st.n⟩:=fun C a E I=>⟨E,rfl,I.take k⟩
inductive RV where
 | t (n:Nat)
 | c (n:Nat) (ty:TypeId) (g:Bool) (m:Nat)
def RV.to:RV→ResultVar
 | .t n=>.tmp n
 | .c n ty _ _=>.cell n ty
def RV.okB (P:Program):RV→Bool
 | .t _=>true
 | .c _ ty g m=>decide (isAggT P ty=some g)&&(match P.info? ty with | some i=>i.size==m | none=>false)
def valR (st:St):RV→Option PV
 | .t n=>some (st.ev (.t n))
 | .c n _ g m=>peekOp st.ev st.h (.load g m (.t n))
def valsR (st:St):List RV→Option (List PV)
 | []=>some []
 | x::r=>match valR st x,valsR st r with | some p,some ps=>some (p::ps) | _,_=>none
def resR (st:St) (rs:List RV):Option PV:=match valsR st rs with
 | some [p]=>some p
 | some ps=>some (.tup ps)
 | none=>none
theorem run_valR {P:Program} {C:Ctx} {st:St} {a:Act} {E:Env} (I:InvE C st a E) {x:RV} (hok:x.okB P=true) {p:PV} (h:valR st x=some p) :
  ∃ v,Sem.run P (match x.to with | ResultVar.tmp t=>(pure (a.tmps.getD t undef):Sem Value) | ResultVar.cell b t=>do loadVar t (← asAddr (a.tmps.getD b undef))) E.w=.ok v E.w∧Rep E p v:=by
 cases x with
 | t n=>cases h; exact ⟨a.tmps.getD n undef,by simp [RV.to],ev_rep (x:=.tmp n) I rfl⟩
 | c n ty g m =>
  simp only [RV.okB,Bool.and_eq_true,decide_eq_true_eq] at hok
  obtain ⟨hg,hm⟩:=hok
  split at hm
  ·rename_i i hi
   have hm:i.size=m:=by simpa using hm
   have hr:Rep E (st.ev (.t n)) (a.tmps.getD n undef):=ev_rep (x:=.tmp n) I rfl
   simp only [valR] at h
   simp only [RV.to,Sem.run_bind]
   simp only [peekOp] at h
   split at h
   ·rename_i b s r off hev
    rw [hev] at hr
    obtain ⟨en,hσ,hu⟩:=rep_optr hr
    split at h
    ·rename_i s' es h1
     split at h
     ·rename_i hs
      subst hs
      split at h
      ·rename_i e h2
       obtain ⟨arr,ty',g1,g2,g3,g4,g5,g6,g7,X,gX1,gX⟩:=At.row I.good ⟨h1,hσ⟩ h2
       obtain ⟨l1,l2,l3⟩:=ldv_rep h (fun j c hc=>(gX j c hc).2) gX1
       refine ⟨_,?_,l3⟩
       rw [hu]
       simp only [asAddr,Sem.run_pure,Result.andThen_ok]
       rw [run_loadVar_cells (X:=fun j=>X (off+j)) hg hi hm l2]
       ·rfl
       ·intro j hj
        have:=(gX (off+j) _ (List.getElem?_eq_getElem (show off+j < e.cells.length by omega))).1
        rw [← this]
        congr 2; omega
      ·cases h
     ·cases h
    ·cases h
   ·rename_i cs hev
    rw [hev] at hr
    obtain ⟨rb,off,U,hu,hS,hm',ho',h'⟩:=rep_sptr hr
    obtain ⟨l1,l2,l3⟩:=ldv_rep (E:=E) (X:=U) h (fun j c hc=>h' j c hc) ho'
    simp only [PV.cells] at l1
    refine ⟨_,?_,l3⟩
    rw [hu]
    simp only [asAddr,Sem.run_pure,Result.andThen_ok]
    rw [run_loadVar_cells (X:=U) hg hi hm l2]
    ·simp
    ·intro j hj
     exact hm' j _ (List.getElem?_eq_getElem (show j < cs.length by omega))
   ·cases h
  ·cases hm
theorem run_resR {P:Program} {C:Ctx} {st:St} {a:Act} {E:Env} (I:InvE C st a E) {fn:Func} {rs:List RV} (hr:fn.results=(rs.map RV.to).toArray) (hok:rs.all (RV.okB P)=true) {r:PV} (h:resR st rs=some r) :
  ∃ v,(results fn a.tmps).run P E.w=.ok v E.w∧Rep E r v:=by
 have key:∀ (rs:List RV) (ps:List PV),rs.all (RV.okB P)=true→valsR st rs=some ps→∃ vs:List Value,vs.length=ps.length∧(∀ (i:Nat) (p:PV) (u:Value),ps[i]?=some p→vs[i]?=some u→Rep E p u) ∧
   Sem.run P ((rs.map RV.to).mapM (m:=Sem) (fun x:ResultVar=>match x with | ResultVar.tmp t=>(pure (a.tmps.getD t undef):Sem Value) | ResultVar.cell b t=>do loadVar t (← asAddr (a.tmps.getD b undef)))) E.w=Result.ok vs E.w:=by
  intro rs
  induction rs with
  | nil=>intro ps _ h; cases h; exact ⟨[],rfl,fun i p u hp=>by simp at hp,by simp⟩
  | cons x rs ih =>
   intro ps hok h
   simp only [List.all_cons,Bool.and_eq_true] at hok
   simp only [valsR] at h
   split at h
   ·rename_i p qs hp hqs
    cases h
    obtain ⟨v,h1,h2⟩:=run_valR I hok.1 hp
    obtain ⟨vs,g1,g2,g3⟩:=ih qs hok.2 hqs
    refine ⟨v::vs,by simp [g1],fun i p' u hp' hu=>?_,?_⟩
    ·cases i with
     | zero=>simp at hp' hu; subst hp' hu; exact h2
     | succ i=>exact g2 i p' u (by simpa using hp') (by simpa using hu)
    ·rw [List.map_cons,List.mapM_cons]
     rw [Sem.run_bind,h1]
     simp only [Result.andThen_ok,Sem.run_bind,g3,Sem.run_pure]
   ·cases h
 unfold resR at h
 have fin:∀ (ps:List PV),valsR st rs=some ps→∃ vs:List Value,vs.length=ps.length∧(∀ (i:Nat) (p:PV) (u:Value),ps[i]?=some p→vs[i]?=some u→Rep E p u)∧(results fn a.tmps).run P E.w=.ok (if h:vs.toArray.size=1 then vs.toArray[0] else .tuple vs.toArray) E.w:=by
  intro ps hps
  obtain ⟨vs,g1,g2,g3⟩:=key rs ps hok hps
  refine ⟨vs,g1,g2,?_⟩
  unfold results
  rw [hr,List.mapM_toArray,Sem.run_bind,Sem.run_map]
  erw [g3]
  rfl
 split at h
 ·rename_i p hps
  cases h
  obtain ⟨vs,g1,g2,g3⟩:=fin _ hps
  match vs,g1 with
  | [v],_=>exact ⟨v,by rw [g3]; simp,g2 0 _ v rfl rfl⟩
 ·rename_i ps hne hps
  cases h
  obtain ⟨vs,g1,g2,g3⟩:=fin _ hps
  have h1:vs.toArray.size≠1:=by
   intro h1
   have:ps.length=1:=by simp at h1; omega
   match ps,this with
   | [p],_=>exact hne p rfl
  refine ⟨.tuple vs.toArray,by rw [g3,dif_neg h1],.tup _ _ (by simpa using g1) (fun i p u hp hu=>g2 i p u hp (by simpa using hu))⟩
 ·cases h
inductive Tr (α:Type) where
 | no
 | ok (a:α)
 | br (x:SX) (t f:Tr α)
def Tr.bind {α β:Type}:Tr α→(α→Tr β)→Tr β
 | .no,_=>.no
 | .ok a,k=>k a
 | .br x t f,k=>.br x (t.bind k) (f.bind k)
def isTrue:Value→Option Bool
 | .bool t=>some t
 | _=>none
def Tr.pick {α:Type}:Tr α→Option α
 | .no=>none
 | .ok a=>some a
 | .br x t f=>match isTrue x.eval with | some true=>t.pick | some false=>f.pick | none=>none
end Go.Proofs.Ytgbcankkfmhcoaa.VL
