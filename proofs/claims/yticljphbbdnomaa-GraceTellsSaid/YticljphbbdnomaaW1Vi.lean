import Derived.Test.YticljphbbdnomaaW1Vg
namespace Go.Proofs.Yticljphbbdnomaa.VL
open Go
set_option linter.unusedVariables false
set_option linter.unusedSimpArgs false
set_option linter.unusedSectionVars false
variable [Val]
variable {P:Program} {C:Ctx} {st:St} {a:Act} {E:Env} {K:PV→List Slot→Nat→Prop} {o:Oper}
theorem out_iad (I:InvE C st a E) {t e:TypeId} {ie:TypeInfo} {x i:Operand} {x' i':Opd} (ho:o.op=.indexAddr t x i) (ht:P.underlying t=some (.slice e)) (hie:P.info? e=some ie) (hx:cOpd x=some x') (hi:cOpd i=some i')
  (hK:opK st.ev st.h st.n K (.iad ie.size x' i')):Out P o C st a E K:=by
 have hr:=ev_rep I hx
 have hri:=ev_rep I hi
 have run:∀ {ad:Addr} {len cap:Nat} {k:IntKind} {m:Int},a.eval x=.slice (some ad) len cap→a.eval i=.int k m→0≤m→m < len→(execOp a.eval o).run P E.w=.ok (.value (.pointer (some (ad.add (m.toNat * ie.size))))) E.w:=by
  intro ad len cap k m h1 h2 h3 h4
  have h5:(0≤m∧m < (len:Int)):=⟨h3,h4⟩
  simp [execOp,ho,h1,h2,Instr.indexAt,asIntOf,run_underlying ht,h5,run_sizeOf hie]
 simp only [opK] at hK
 split at hK
 ·rename_i c es k m hev1 hev2
  rw [hev1] at hr; rw [hev2] at hri
  have hri:=rep_v hri
  obtain ⟨g1,e',g2,g3,g4⟩:=hK
  have hlt:=(List.getElem?_eq_some_iff.1 g2).1
  generalize hu:a.eval x=u at hr
  cases hr with
  | emp=>simp at hlt
  | sl _ _ rb off cap sz U hne hS hcl hcap hsz0 hsz hmm ho' hr' =>
   have hss:sz=ie.size:=by rw [← hsz _ _ g2]; exact g3
   subst hss
   refine Out.same I g4 (run hu hri g1 (by omega)) ?_
   rw [add_addr]
   exact .sptr _ rb _ (fun j=>U m.toNat j) hS (fun j c hc=>hmm _ _ j c g2 hc) (fun j=>ho' _ _) (fun j c hc=>hr' _ _ j c g2 hc)
 ·rename_i b s sz' off len cap k m hev1 hev2
  rw [hev1] at hr; rw [hev2] at hri
  have hri:=rep_v hri
  obtain ⟨rfl,g1,g2,g3⟩:=hK
  obtain ⟨en,c,ad,hu,hσ,hsz,had,hn,hlen,hc,htot,hcap⟩:=rep_own hr
  rw [had (by omega)] at hu
  refine Out.same I g3 (run hu hri g1 g2) ?_
  rw [add_addr,← hsz,Nat.add_assoc,← Nat.add_mul]
  have:=Rep.optr (E:=E) b s (off+m.toNat) 0 en hσ
  simpa using this
 ·exact hK.elim
theorem out_iaA (I:InvE C st a E) {t e:TypeId} {n:Nat} {ie:TypeInfo} {x i:Operand} {x' i':Opd} (ho:o.op=.indexAddr t x i) (ht:P.underlying t=some (.array n e)) (hie:P.info? e=some ie) (hx:cOpd x=some x') (hi:cOpd i=some i')
  (hK:opK st.ev st.h st.n K (.iaA n ie.size x' i')):Out P o C st a E K:=by
 have hr:=ev_rep I hx
 have hri:=ev_rep I hi
 have run:∀ {ad:Addr} {k:IntKind} {m:Int},a.eval x=.pointer (some ad)→a.eval i=.int k m→0≤m→m < n→(execOp a.eval o).run P E.w=.ok (.value (.pointer (some (ad.add (m.toNat * ie.size))))) E.w:=by
  intro ad k m h1 h2 h3 h4
  have h5:(0≤m∧m < (n:Int)):=⟨h3,h4⟩
  simp [execOp,ho,h1,h2,Instr.indexAt,asIntOf,run_underlying ht,h5,run_sizeOf hie,Instr.sureAddr]
 simp only [opK] at hK
 split at hK
 ·rename_i b s j off k m hev1 hev2
  rw [hev1] at hr; rw [hev2] at hri
  have hri:=rep_v hri
  obtain ⟨g1,g2,g3⟩:=hK
  obtain ⟨en,hσ,hu⟩:=rep_optr hr
  refine Out.same I g3 (run hu hri g1 g2) ?_
  rw [add_addr,Nat.add_assoc]
  exact .optr b s j _ en hσ
 ·rename_i cs k m hev1 hev2
  rw [hev1] at hr; rw [hev2] at hri
  have hri:=rep_v hri
  obtain ⟨g1,g2,g3⟩:=hK
  obtain ⟨rb,q,U,hu,hS,hm,ho',h⟩:=rep_sptr hr
  refine Out.same I g3 (run hu hri g1 g2) ?_
  rw [add_addr]
  refine .sptr _ rb _ (fun j=>U (m.toNat * ie.size+j)) hS (fun j c hc=>?_) (fun j=>ho' _) (fun j c hc=>?_)
  ·rw [List.getElem?_drop] at hc
   have:=hm _ c hc
   rw [← this]; congr 2; omega
  ·rw [List.getElem?_drop] at hc; exact h _ c hc
 ·exact hK.elim
theorem out_ixA (I:InvE C st a E) {t e:TypeId} {n:Nat} {g:Bool} {ie:TypeInfo} {x i:Operand} {x' i':Opd} (ho:o.op=.index t x i) (ht:P.underlying t=some (.array n e)) (hie:P.info? e=some ie) (hg:isAggT P e=some g) (hx:cOpd x=some x') (hi:cOpd i=some i')
  (hK:opK st.ev st.h st.n K (.ixA g n ie.size x' i')):Out P o C st a E K:=by
 have hr:=ev_rep I hx
 have hri:=ev_rep I hi
 simp only [opK] at hK
 split at hK
 ·rename_i cs k m hev1 hev2
  rw [hev1] at hr; rw [hev2] at hri
  have hri:=rep_v hri
  obtain ⟨vs,hu,hsz,ho',h⟩:=rep_agg hr
  obtain ⟨g1,g2,g3,p,g4,g5⟩:=hK
  obtain ⟨l1,l2,l3⟩:=ldv_agg (E:=E) g4 hsz ho' h
  refine Out.same I g5 ?_ l3
  have h5:(0≤m∧m < (n:Int)):=⟨g1,g2⟩
  simp only [execOp,ho,hu,hri,Instr.index,asIntOf,Sem.run_bind,Sem.run_pure,run_underlying ht,Result.andThen_ok,h5,and_self,if_true,run_sizeOf hie]
  rw [run_part hg hie l1 l2]; rfl
 ·exact hK.elim
theorem out_ixS (I:InvE C st a E) {t:TypeId} {x i:Operand} {x' i':Opd} (ho:o.op=.index t x i) (ht:P.underlying t=some .string) (hx:cOpd x=some x') (hi:cOpd i=some i')
  (hK:opK st.ev st.h st.n K (.ixS x' i')):Out P o C st a E K:=by
 have hr:=ev_rep I hx
 have hri:=ev_rep I hi
 simp only [opK] at hK
 split at hK
 ·rename_i s k m hev1 hev2
  rw [hev1] at hr; rw [hev2] at hri
  have hri:=rep_v hri
  have hu:=rep_v hr
  obtain ⟨g1,c,g2,g3⟩:=hK
  refine Out.same I g3 ?_ (.v _)
  simp [execOp,ho,hu,hri,Instr.index,asIntOf,run_underlying ht,g1,g2]
 ·exact hK.elim
def Rows' (E:Env) (ys:List PV) (sz:Nat) (news:List Value):Prop:=news.length=ys.length * sz∧(∀ x ∈ news,x.oneCell'=true)∧∀ (i:Nat) (e:PV) (j:Nat) (c:PV),ys[i]?=some e→e.cells[j]?=some c→∃ x,news[i * sz+j]?=some x∧Rep E c x
theorem elems_cells (I:InvE C st a E) {p:PV} {u:Value} {ys:List PV} {sz:Nat} (hp:Rep E p u) (he:elems st.h p=some ys) (hsz:∀ e ∈ ys,e.cells.length=sz) (h0:0 < sz) :
  ∃ ad m,u=.slice ad ys.length m∧∀ n,n≤ys.length→∃ news,Rows' E (ys.take n) sz news∧∀ w':World,w'.heap=E.w.heap→(Builtin.firstCells sz n u).run P w'=.ok news.toArray w':=by
 have cellw:∀ {w':World},w'.heap=E.w.heap→∀ x,w'.cell? x=E.w.cell? x:=by intro w' hw x; simp [World.cell?,hw]
 have main:∀ (rb off:Nat) (m:Nat) (U:Nat→Nat→Value),(∀ (i:Nat) (e:PV) (j:Nat) (c:PV),ys[i]?=some e→e.cells[j]?=some c→E.w.cell? ⟨rb,off+i * sz+j,none⟩=some (U i j)∧(U i j).oneCell'=true∧Rep E c (U i j)) →
   ∀ n,n≤ys.length→∃ news,Rows' E (ys.take n) sz news∧∀ w':World,w'.heap=E.w.heap→(Builtin.firstCells sz n (.slice (some ⟨rb,off,none⟩) ys.length m)).run P w'=.ok news.toArray w':=by
  intro rb off m U hU n hn
  have get:∀ k,k < n * sz→((List.range (n * sz)).map fun k=>U (k / sz) (k % sz))[k]?=some (U (k / sz) (k % sz)):=by intro k hk; simp [hk]
  have part:∀ k,k < n * sz→k / sz < n∧k % sz < sz∧k / sz * sz+k % sz=k:=by
   intro k hk
   refine ⟨?_,Nat.mod_lt _ h0,by rw [Nat.mul_comm]; exact Nat.div_add_mod k sz⟩
   exact (Nat.div_lt_iff_lt_mul h0).2 hk
  have all:∀ k,k < n * sz→E.w.cell? ⟨rb,off+k,none⟩=some (U (k / sz) (k % sz))∧(U (k / sz) (k % sz)).oneCell'=true:=by
   intro k hk
   obtain ⟨p1,p2,p3⟩:=part k hk
   have hlt:k / sz < ys.length:=by omega
   have hc:=hsz ys[k / sz] (List.getElem_mem _)
   have hlt2:k % sz < (ys[k / sz]).cells.length:=by omega
   obtain ⟨q1,q2,_⟩:=hU (k / sz) ys[k / sz] (k % sz) _ (List.getElem?_eq_getElem hlt) (List.getElem?_eq_getElem hlt2)
   refine ⟨?_,q2⟩
   rw [← q1]; congr 2; omega
  refine ⟨(List.range (n * sz)).map fun k=>U (k / sz) (k % sz),⟨by simp [Nat.min_eq_left hn],?_,?_⟩,?_⟩
  ·intro x hx
   simp only [List.mem_map,List.mem_range] at hx
   obtain ⟨k,hk,rfl⟩:=hx
   exact (all k hk).2
  ·intro i e j c he hj
   rw [List.getElem?_take] at he
   split at he
   ·rename_i hin
    have hc:=hsz e (List.mem_of_getElem? he)
    have hjl:j < sz:=by have:=(List.getElem?_eq_some_iff.1 hj).1; omega
    have hk:i * sz+j < n * sz:=by have:=row_fits (i:=i) (n:=n) (j:=j+1) (sz:=sz) hin (by omega); omega
    refine ⟨_,get _ hk,?_⟩
    have e1:(i * sz+j) / sz=i:=by rw [Nat.mul_comm,Nat.mul_add_div h0,Nat.div_eq_of_lt hjl]; omega
    have e2:(i * sz+j) % sz=j:=by rw [Nat.mul_comm,Nat.mul_add_mod,Nat.mod_eq_of_lt hjl]
    rw [e1,e2]
    exact (hU i e j c he hj).2.2
   ·cases he
  ·intro w' hw
   refine run_firstCells_some w' sz n ⟨rb,off,none⟩ ys.length m _ (by simp) ?_
   intro k v hv
   have hk:k < n * sz:=by have:=(List.getElem?_eq_some_iff.1 hv).1; simpa using this
   rw [get k hk] at hv
   cases hv
   rw [add_addr,cellw hw]
   exact (all k hk).1
 have nothing:∀ (ad:Option Addr) (m:Nat),ys=[]→∀ n,n≤ys.length→∃ news,Rows' E (ys.take n) sz news∧∀ w':World,w'.heap=E.w.heap→(Builtin.firstCells sz n (.slice ad ys.length m)).run P w'=.ok news.toArray w':=by
  intro ad m hy n hn
  subst hy
  obtain rfl:n=0:=by simpa using hn
  refine ⟨[],⟨by simp,by simp,fun i e j c he=>by simp at he⟩,fun w' hw=>?_⟩
  cases ad with
  | none=>exact run_firstCells_none w' sz 0 _ m
  | some ad=>exact run_firstCells_some w' sz 0 ad _ m [] (by simp) (fun j v h=>by simp at h)
 unfold elems at he
 split at he
 ·cases he
  generalize hu:u=u' at hp
  cases hp with
  | emp c ad cap hc hn=>exact ⟨ad,cap,rfl,by subst hu; exact nothing ad cap rfl⟩
  | sl c _ rb off cap sz' U hne hS hcl hcap hsz0 hsz' hmm ho' hr' =>
   have hss:sz'=sz:=by
    cases ys with
    | nil=>exact absurd rfl hne
    | cons e r=>rw [← hsz' 0 e rfl]; exact hsz e (by simp)
   subst hss
   subst hu
   exact ⟨_,cap,rfl,main rb off cap U fun i e j c he hj=>⟨hmm i e j c he hj,ho' i j,hr' i e j c he hj⟩⟩
 ·rename_i b s sz' off len cap
  split at he
  ·rename_i s' es hslot
   split at he
   ·rename_i hcond
    obtain ⟨rfl,hle⟩:=hcond
    cases he
    obtain ⟨en,c,ad,hu,hσ,hss,had,hn,hlen,hc,htot,hcap⟩:=rep_own hp
    have hl:((es.drop off).take len).length=len:=by simp; omega
    rw [hl]
    refine ⟨ad,c,hu,?_⟩
    by_cases hne:len=0
    ·have:=nothing ad c (by simp [hne])
     rw [hl] at this
     rw [hu]; exact this
    ·rw [had (by omega)] at hu
     obtain ⟨⟨b1,b2,b3,b4⟩,_⟩:=At.brep I.good ⟨hslot,hσ⟩
     have hsz2:en.sz=sz:=by
      have hlt:off < es.length:=by omega
      rw [← b3 off es[off] (List.getElem?_eq_getElem hlt)]
      refine hsz _ ?_
      refine List.mem_of_getElem? (i:=0) ?_
      rw [List.getElem?_take,if_pos (by omega),List.getElem?_drop]
      simp [hlt]
     obtain ⟨arr,t,b5,b6,b7,b8⟩:=b4 (by omega)
     have:=main en.rb (en.base+off * en.sz) c (fun i j=>arr.getD (en.base+(off+i) * sz+j) undef) (fun i e j x he hj=>by
      obtain ⟨h1,h2⟩:=take_drop_get he
      obtain ⟨v,hv,hrv⟩:=b7 _ e j x h2 hj
      rw [← hsz2]
      have e1:en.base+off * en.sz+i * en.sz+j=en.base+(off+i) * en.sz+j:=by rw [Nat.add_mul]; omega
      refine ⟨?_,?_,?_⟩
      ·rw [e1]
       simp only [World.cell?,b5,Array.getD_eq_getD_getElem?,hv]; rfl
      ·simp only [Array.getD_eq_getD_getElem?,hv,Option.getD_some]; exact b8 _ _ hv
      ·simp only [Array.getD_eq_getD_getElem?,hv,Option.getD_some]; exact hrv)
     rw [hl] at this
     rw [hu]; exact this
   ·cases he
  ·cases he
 ·cases he
end Go.Proofs.Yticljphbbdnomaa.VL
