import Derived.Test.YticljphbbdnomaaW1Vj
namespace Go.Proofs.Yticljphbbdnomaa.VL
open Go
set_option linter.unusedVariables false
set_option linter.unusedSimpArgs false
set_option linter.unusedSectionVars false
variable [Val]
variable {P:Program} {C:Ctx} {st:St} {a:Act} {E:Env} {K:PV→List Slot→Nat→Prop} {o:Oper}
theorem out_cpy (I:InvE C st a E) {t t' e e':TypeId} {ie:TypeInfo} {x y:Operand} {x' y':Opd} {cl:Call} (ho:o.op=.call cl) (hcl:cl.callee=.builtin .copy) (hargs:cl.args=#[x,y]) (hat:cl.argTypes=#[t,t'])
  (ht:P.underlying t=some (.slice e)) (hi:P.info? e=some ie) (h0:0 < ie.size) (hx:cOpd x=some x') (hy:cOpd y=some y') (hK:opK st.ev st.h st.n K (.cpy ie.size x' y')):Out P o C st a E K:=by
 have hrx:=ev_rep I hx
 have hry:=ev_rep I hy
 have run:∀ {base ad:Option Addr} {dLen dCap n m:Nat} {news:List Value},a.eval x=.slice base dLen dCap→a.eval y=.slice ad n m→(Builtin.firstCells ie.size (Nat.min n dLen) (.slice ad n m)).run P E.w=.ok news.toArray E.w →
   (execOp a.eval o).run P E.w=match base with
    | some b=>((storeCells b news).run P E.w).andThen fun _ w'=>.ok (.value (.int .i64 (Nat.min n dLen:Nat))) w'
    | none=>.ok (.value (.int .i64 (Nat.min n dLen:Nat))) E.w:=by
  intro base ad dLen dCap n m news h1 h2 h3
  cases base with
  | none=>simp [execOp,ho,resolve,hcl,hargs,hat,invoke,builtin,h1,h2,Builtin.copy_,run_underlying ht,Builtin.lenOf,run_sizeOf hi,h3,goInt]
  | some b =>
   simp only [execOp,ho,resolve,hcl,hargs,hat,invoke,builtin,Builtin.copy_,Sem.run_bind,Sem.run_pure,Result.andThen_ok]
   simp [h1,h2,run_underlying ht,Builtin.lenOf,run_sizeOf hi,h3,goInt]
   cases (storeCells b news).run P E.w<;>rfl
 simp only [opK] at hK
 split at hK
 ·rename_i b sx sz' off len cap hev
  rw [hev] at hrx
  obtain ⟨rfl,es,ys,k1,k2,k3,k4,hK⟩:=hK
  obtain ⟨en,c,ad0,hu,hσ,hsz,had,hn,hlen,hc,htot,hcapn⟩:=rep_own hrx
  obtain ⟨ad,m,hv,hrows⟩:=elems_cells (P:=P) I hry k3 k4 h0
  obtain ⟨news,hR,hf⟩:=hrows (min ys.length len) (Nat.min_le_left _ _)
  rw [hv] at hf
  have hl:(ys.take (min ys.length len)).length=min ys.length len:=by simp
  have A:At E st.h b sx (.cells es) en:=⟨k1,hσ⟩
  by_cases hm0:min ys.length len=0
  ·rw [hm0] at hR hK hf
   obtain rfl:news=[]:=by have:=hR.1; simpa using this
   refine ⟨_,_,_,hK,.int .i64 (0:Nat),E,.value (.int .i64 (0:Nat)),?_,.inl rfl,?_,.v _⟩
   ·rw [run hu hv (by rw [show Nat.min ys.length len=0 from hm0]; exact hf E.w rfl),show Nat.min ys.length len=0 from hm0]
    cases ad0 with
    | none=>rfl
    | some b=>simp [storeCells]
   ·have:st.h.set b (some (sx,Blk.cells (es.take off++ys.take 0++es.drop (off+0))))=st.h:=by
     simp only [List.take_zero,List.append_nil,Nat.add_zero,List.take_append_drop]
     apply List.ext_getElem?
     intro i
     rw [List.getElem?_set]
     split
     ·rename_i hbi
      subst hbi
      rw [k1,if_pos (List.getElem?_eq_some_iff.1 k1).1]
     ·rfl
    rw [this]; exact I
  ·have hc0:c≠0:=by omega
   have ha:=had hc0
   subst ha
   rw [← hsz] at hR
   obtain ⟨arr,ty,s1,s2,I'⟩:=I.splice A (p:=off) hR (fun e he=>by rw [hsz]; exact k4 e (List.mem_of_mem_take he)) (by omega) (by omega)
   rw [hl] at I'
   refine ⟨_,_,_,hK,.int .i64 (min ys.length len:Nat),_,.value (.int .i64 (min ys.length len:Nat)),?_,.inl rfl,I',.v _⟩
   rw [run hu hv (hf E.w rfl)]
   simp only
   rw [run_store_rows s1 s2 hR.2.1]
   rfl
 ·rename_i c hev
  rw [hev] at hrx
  obtain ⟨ys,k3,hK⟩:=hK
  obtain ⟨ad0,m0,hu,_⟩:=rep_sl hrx
  have hvs:∃ ad m,a.eval y=.slice ad ys.length m:=by
   have hy':=hry
   unfold elems at k3
   split at k3
   ·rename_i es hev2
    cases k3
    rw [hev2] at hy'
    obtain ⟨ad,m,h,_⟩:=rep_sl hy'
    exact ⟨ad,m,h⟩
   ·rename_i b s sz off len cap hev2
    split at k3
    ·rename_i s' es' hslot'
     split at k3
     ·rename_i hcond
      cases k3
      rw [hev2] at hy'
      obtain ⟨en,c,ad,h,_⟩:=rep_own hy'
      have:((es'.drop off).take len).length=len:=by
       rw [List.length_take,List.length_drop]
       exact Nat.min_eq_left (by have:=hcond.2; omega)
      exact ⟨ad,c,by rw [this]; exact h⟩
     ·cases k3
    ·cases k3
   ·cases k3
  obtain ⟨ad,m,hv⟩:=hvs
  have h00:Nat.min ys.length ([]:List PV).length=0:=Nat.min_zero _
  have hf:(Builtin.firstCells ie.size (Nat.min ys.length ([]:List PV).length) (.slice ad ys.length m)).run P E.w=.ok ([]:List Value).toArray E.w:=by
   rw [h00]
   cases ad with
   | none=>exact run_firstCells_none E.w ie.size 0 _ m
   | some ad=>exact run_firstCells_some E.w ie.size 0 ad _ m [] (by simp) (fun j v h=>by simp at h)
  refine Out.same I hK ?_ (.v _)
  rw [run hu hv hf,h00]
  cases ad0 with
  | none=>rfl
  | some b=>simp [storeCells]
 ·exact hK.elim
theorem run_min2 (k:IntKind) (m n:Int) (w:World):(Builtin.min2 (.int k m) (.int k n)).run P w=.ok (.int k (if n < m then n else m)) w:=by simp [Builtin.min2]
theorem run_max2 (k:IntKind) (m n:Int) (w:World):(Builtin.max2 (.int k m) (.int k n)).run P w=.ok (.int k (if n > m then n else m)) w:=by simp [Builtin.max2]
theorem run_mmGo (mx:Bool) (w:World) (k:IntKind):∀ (l:List PV) (us:List Value) (m:Int) (r:Value),us.length=l.length→(∀ (i:Nat) (c:PV) (u:Value),l[i]?=some c→us[i]?=some u→Rep E c u)→mmGo mx k m l=some r →
  (us.foldlM (if mx then Builtin.max2 else Builtin.min2) (.int k m)).run P w=.ok r w
 | [],us,m,r,hl,_,h=>by
  obtain rfl:us=[]:=by simpa using hl
  simp only [mmGo,Option.some.injEq] at h
  subst h; rfl
 | p::l,us,m,r,hl,hr,h=>by
  match us,hl with
  | u::us,hl =>
   have h1:=hr 0 p u rfl rfl
   unfold mmGo at h
   split at h
   ·rename_i heq; cases heq
   ·rename_i k' n rest heq
    injection heq with e1 e2
    subst e1; subst e2
    have e1:=rep_v h1
    subst e1
    split at h
    ·rename_i hk
     subst hk
     have ih:=run_mmGo mx w k l us _ r (by simpa using hl) (fun i c u hc hu=>hr (i+1) c u (by simpa using hc) (by simpa using hu)) h
     rw [List.foldlM_cons,Sem.run_bind]
     cases mx with
     | true=>simp only [if_true] at ih ⊢; rw [run_max2]; exact ih
     | false=>simp only [Bool.false_eq_true,if_false] at ih ⊢; rw [run_min2]; exact ih
    ·cases h
   ·cases h
theorem run_mm (mx:Bool) (w:World) (l:List PV) (us:List Value) (r:Value) (hl:us.length=l.length) (hr:∀ (i:Nat) (c:PV) (u:Value),l[i]?=some c→us[i]?=some u→Rep E c u) (h:mmV mx l=some r) :
  (match us with | []=>(stuck "" : Sem Value) | x::rest=>rest.foldlM (if mx then Builtin.max2 else Builtin.min2) x).run P w=.ok r w:=by
 unfold mmV at h
 split at h
 ·rename_i k m rest
  match us,hl with
  | u::us,hl =>
   have h1:=rep_v (hr 0 _ u rfl rfl)
   subst h1
   exact run_mmGo mx w k rest us m r (by simpa using hl) (fun i c u hc hu=>hr (i+1) c u (by simpa using hc) (by simpa using hu)) h
 ·cases h
theorem mmS_spec {ps:List PV} {x:SX} (mx:Bool) (h:mmS ps=some x):mmV mx (ps.map de)=some x.eval:=by
 unfold mmS at h
 split at h
 ·rename_i y r
  split at h
  ·rename_i k hk
   split at h
   ·rename_i hall
    cases h
    obtain ⟨m,hm⟩:=SX.has hk
    have go:∀ r:List PV,(∀ p ∈ r,p=.sy x)→mmGo mx k m (r.map de)=some (.int k m):=by
     intro r
     induction r with
     | nil=>intro _; rfl
     | cons p r ih =>
      intro h
      have hp:=h p (by simp)
      subst hp
      simp only [List.map_cons,de,hm,mmGo,if_true]
      have:(if mx then (if m > m then m else m) else (if m < m then m else m))=m:=by simp
      rw [this]
      exact ih fun q hq=>h q (by simp [hq])
    simp only [List.map_cons,de,hm,mmV]
    refine go r fun p hp=>?_
    have:=List.all_eq_true.1 hall p hp
    cases p<;>simp at this
    rw [sameSX_eq this]
   ·cases h
  ·cases h
 ·cases h
theorem out_mm (I:InvE C st a E) {mx:Bool} {xs:Array Operand} {xs':List Opd} {cl:Call} (ho:o.op=.call cl) (hcl:cl.callee=.builtin (if mx then .max else .min)) (hargs:cl.args=xs) (hx:cOpds xs=some xs') (hK:opK st.ev st.h st.n K (.mm mx xs')):Out P o C st a E K:=by
 simp only [opK] at hK
 obtain ⟨h1,h2⟩:=evs_rep I hx
 have core:∀ (ps:List PV) (r:Value),(xs.toList.map a.eval).length=ps.length→(∀ (i:Nat) (c:PV) (u:Value),ps[i]?=some c→(xs.toList.map a.eval)[i]?=some u→Rep E c u)→mmV mx ps=some r→(execOp a.eval o).run P E.w=.ok (.value r) E.w:=by
  intro ps r h1 h2 hr
  have hrun:=run_mm (P:=P) (E:=E) mx E.w ps (xs.toList.map a.eval) r h1 h2 hr
  cases mx with
  | true =>
   have:(Builtin.max_ cl.argTypes o.type (xs.map a.eval)).run P E.w=.ok r E.w:=by
    simp only [Builtin.max_,Array.toList_map]
    cases hl:xs.toList.map a.eval with
    | nil=>rw [hl] at hrun; simp at hrun
    | cons x rest=>rw [hl] at hrun; exact hrun
   simp [execOp,ho,resolve,hcl,hargs,invoke,builtin,this]
  | false =>
   have:(Builtin.min_ cl.argTypes o.type (xs.map a.eval)).run P E.w=.ok r E.w:=by
    simp only [Builtin.min_,Array.toList_map]
    cases hl:xs.toList.map a.eval with
    | nil=>rw [hl] at hrun; simp at hrun
    | cons x rest=>rw [hl] at hrun; exact hrun
   simp [execOp,ho,resolve,hcl,hargs,invoke,builtin,this]
 split at hK
 ·rename_i r hr
  exact Out.same I hK (core _ r (by simpa using h1) h2 hr) (.v _)
 ·split at hK
  ·rename_i x hxs
   refine Out.same I hK (core ((xs'.map st.ev).map de) x.eval (by simpa using h1) (fun i c u hc hu=>?_) (mmS_spec mx hxs)) (.sy _)
   rw [List.getElem?_map] at hc
   simp only [Option.map_eq_some_iff] at hc
   obtain ⟨c',hc',rfl⟩:=hc
   exact de_rep (h2 i c' u hc' hu)
  ·exact hK.elim
end Go.Proofs.Yticljphbbdnomaa.VL
