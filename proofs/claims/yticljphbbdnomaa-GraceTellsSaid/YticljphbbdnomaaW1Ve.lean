import Derived.Test.YticljphbbdnomaaW1Vc
namespace Go.Proofs.Yticljphbbdnomaa.VL
open Go
set_option linter.unusedVariables false
set_option linter.unusedSimpArgs false
set_option linter.unusedSectionVars false
variable [Val]
variable {P:Program} {C:Ctx} {st:St} {a:Act} {E:Env}
def Out (P:Program) (o:Oper) (C:Ctx) (st:St) (a:Act) (E:Env) (K:PV→List Slot→Nat→Prop):Prop :=
 ∃ p h' n',K p h' n'∧∃ (u:Value) (E':Env) (nx:Next),(execOp a.eval o).run P E.w=.ok nx E'.w∧(nx=.value u∨(nx=.skip∧u=undef))∧InvE C ⟨st.t,h',n'⟩ a E'∧Rep E' p u
theorem Out.same {o:Oper} {K:PV→List Slot→Nat→Prop} (I:InvE C st a E) {p:PV} {u:Value} (hK:K p st.h st.n) (hr:(execOp a.eval o).run P E.w=.ok (.value u) E.w) (hp:Rep E p u):Out P o C st a E K :=
 ⟨p,st.h,st.n,hK,u,E,_,hr,.inl rfl,I,hp⟩
theorem run_sizeOf {t:TypeId} {i:TypeInfo} (h:P.info? t=some i) (w:World):(sizeOf t).run P w=.ok i.size w:=by simp [sizeOf,typeInfo,h]
theorem run_isAgg {t:TypeId} {g:Bool} (h:isAggT P t=some g) (w:World):(isAgg t).run P w=.ok g w:=by
 unfold isAggT at h
 unfold isAgg
 cases hu:P.underlying t with
 | none=>rw [hu] at h; cases h
 | some d =>
  rw [hu] at h
  simp only [Sem.run_bind,run_underlying hu,Result.andThen_ok]
  cases d<;>simp at h<;>subst h<;>rfl
theorem add_addr (rb o j:Nat):(⟨rb,o,none⟩:Addr).add j=⟨rb,o+j,none⟩:=by
 unfold Addr.add; split<;>simp_all
theorem run_loadVar_cells {t:TypeId} {g:Bool} {i:TypeInfo} {m rb o:Nat} {X:Nat→Value} {w:World} (hg:isAggT P t=some g) (hi:P.info? t=some i) (hm:i.size=m) (h1:g=false→m=1)
  (hc:∀ j,j < m→w.cell? ⟨rb,o+j,none⟩=some (X j)):(loadVar t ⟨rb,o,none⟩).run P w=.ok (if g then .agg ((List.range m).map X).toArray else X 0) w:=by
 unfold loadVar
 simp only [Sem.run_bind,run_isAgg hg,Result.andThen_ok]
 cases g with
 | true =>
  simp only [if_true,Sem.run_bind,run_sizeOf hi,Result.andThen_ok,hm]
  rw [run_loadCells w ⟨rb,o,none⟩ m X (fun j hj=>by rw [add_addr]; exact hc j hj)]
  rfl
 | false =>
  have:=hc 0 (by rw [h1 rfl]; omega)
  simp only [Nat.add_zero] at this
  simp [this]
theorem At.row (G:Good E st.h st.n) {b s:Nat} {es:List PV} {en:Ent} (A:At E st.h b s (.cells es) en) {i:Nat} {e:PV} (he:es[i]?=some e) :
  ∃ (arr:Array Value) (t:TypeId),E.w.heap[en.rb]?=some (.cells arr t (0,0))∧arr.size=en.base+en.tot * en.sz∧en.tot≠0∧i < en.tot∧e.cells.length=en.sz∧0 < en.sz ∧
   (∀ (j:Nat) (u:Value),arr[j]?=some u→u.oneCell'=true)∧∃ X:Nat→Value,(∀ j,(X j).oneCell'=true)∧(∀ (j:Nat) (c:PV),e.cells[j]?=some c→E.w.cell? ⟨en.rb,en.base+i * en.sz+j,none⟩=some (X j)∧Rep E c (X j)):=by
 obtain ⟨⟨h1,h2,h3,h4⟩,_⟩:=A.brep G
 have hi:i < es.length:=(List.getElem?_eq_some_iff.1 he).1
 have h0:en.tot≠0:=by omega
 obtain ⟨arr,t,h5,h6,h7,h8⟩:=h4 h0
 refine ⟨arr,t,h5,h6,h0,by omega,h3 i e he,h2,h8,fun j=>if j < e.cells.length then arr.getD (en.base+i * en.sz+j) (.int .i64 0) else .int .i64 0,?_,?_⟩
 ·intro j
  dsimp only
  split
  ·rename_i hj
   obtain ⟨u,hu,_⟩:=h7 i e j _ he (List.getElem?_eq_getElem hj)
   simp only [Array.getD_eq_getD_getElem?,hu,Option.getD_some]
   exact h8 _ u hu
  ·rfl
 ·intro j c hc
  have hj:j < e.cells.length:=(List.getElem?_eq_some_iff.1 hc).1
  obtain ⟨u,hu,hr⟩:=h7 i e j c he hc
  simp only [hj,if_true,Array.getD_eq_getD_getElem?,hu,Option.getD_some]
  exact ⟨by simp [World.cell?,h5,hu],hr⟩
theorem rep_optr {b s i off:Nat} {u:Value} (h:Rep E (.optr b s i off) u):∃ en,E.σ s=some en∧u=.pointer (some ⟨en.rb,en.base+i * en.sz+off,none⟩):=by
 cases h with | optr _ _ _ _ en hb=>exact ⟨en,hb,rfl⟩
theorem rep_sptr {cs:List PV} {u:Value} (h:Rep E (.sptr cs) u):∃ (rb off:Nat) (U:Nat→Value),u=.pointer (some ⟨rb,off,none⟩)∧E.S rb∧(∀ (j:Nat) (c:PV),cs[j]?=some c→E.w.cell? ⟨rb,off+j,none⟩=some (U j))∧(∀ (j:Nat),(U j).oneCell'=true)∧∀ (j:Nat) (c:PV),cs[j]?=some c→Rep E c (U j):=by
 cases h with | sptr _ rb off U hS hm ho h=>exact ⟨rb,off,U,rfl,hS,hm,ho,h⟩
theorem At.of (G:Good E st.h st.n) {b s:Nat} {k:Blk} {en:Ent} (hs:st.h[b]?=some (some (s,k))) (hσ:E.σ s=some en):At E st.h b s k en:=⟨hs,hσ⟩
theorem out_load (I:InvE C st a E) {o:Oper} {t:TypeId} {x:Operand} {y:Opd} {g:Bool} {i:TypeInfo} {K:PV→List Slot→Nat→Prop} (ho:o.op=.load t x) (hx:cOpd x=some y) (hg:isAggT P t=some g) (hi:P.info? t=some i)
  (hK:opK st.ev st.h st.n K (.load g i.size y)):Out P o C st a E K:=by
 have hr:=ev_rep I hx
 simp only [opK] at hK
 split at hK
 ·rename_i b s r off hev
  rw [hev] at hr
  obtain ⟨en,hσ,hu⟩:=rep_optr hr
  obtain ⟨es,e,p,h1,h2,h3,h4⟩:=hK
  obtain ⟨arr,ty,g1,g2,g3,g4,g5,g6,g7,X,gX1,gX⟩:=At.row I.good ⟨h1,hσ⟩ h2
  obtain ⟨l1,l2,l3⟩:=ldv_rep h3 (fun j c hc=>(gX j c hc).2) gX1
  refine Out.same I h4 ?_ l3
  simp only [execOp,ho,Instr.loadAt,hu,Instr.sureAddr,Sem.run_bind,Sem.run_pure,Result.andThen_ok]
  rw [run_loadVar_cells (X:=fun j=>X (off+j)) hg hi rfl l2]
  ·rfl
  ·intro j hj
   have:=(gX (off+j) _ (List.getElem?_eq_getElem (show off+j < e.cells.length by omega))).1
   rw [← this]
   congr 2; omega
 ·rename_i cs hev
  rw [hev] at hr
  obtain ⟨p,h3,h4⟩:=hK
  obtain ⟨rb,off,U,hu,hS,hm,ho',h⟩:=rep_sptr hr
  obtain ⟨l1,l2,l3⟩:=ldv_rep (E:=E) (X:=U) h3 (fun j c hc=>h j c hc) ho'
  simp only [PV.cells] at l1
  refine Out.same I h4 ?_ l3
  simp only [execOp,ho,Instr.loadAt,hu,Instr.sureAddr,Sem.run_bind,Sem.run_pure,Result.andThen_ok]
  rw [run_loadVar_cells (X:=U) hg hi rfl l2]
  ·simp
  ·intro j hj
   exact hm j _ (List.getElem?_eq_getElem (show j < cs.length by omega))
 ·exact hK.elim
theorem splice_get {α:Type} (l vs:List α) (o k:Nat) (h:o+vs.length≤l.length):(l.take o++vs++l.drop (o+vs.length))[k]?=if k < o then l[k]? else if k < o+vs.length then vs[k - o]? else l[k]?:=by
 have h1:(l.take o).length=o:=by simp; omega
 split
 ·rename_i hk
  rw [List.append_assoc,List.getElem?_append_left (by omega),List.getElem?_take,if_pos hk]
 ·rename_i hk
  rw [List.append_assoc,List.getElem?_append_right (by omega),h1]
  split
  ·rename_i hk2
   rw [List.getElem?_append_left (by omega)]
  ·rename_i hk2
   rw [List.getElem?_append_right (by omega),List.getElem?_drop]
   congr 1; omega
theorem splice_size {α:Type} (l vs:List α) (o:Nat) (h:o+vs.length≤l.length):(l.take o++vs++l.drop (o+vs.length)).length=l.length:=by
 simp; omega
theorem stv_cells {e p e':PV} {off m:Nat} (h:stv e off m p=some e'):p.cells.length=m∧off+m≤e.cells.length∧e'.cells.length=e.cells.length ∧
  ∀ j,e'.cells[j]?=if j < off then e.cells[j]? else if j < off+m then p.cells[j - off]? else e.cells[j]?:=by
 unfold stv at h
 split at h
 ·rename_i hm
  split at h
  ·rename_i hw
   obtain ⟨rfl,hl⟩:=hw
   cases h
   refine ⟨hm,by omega,by omega,fun j=>?_⟩
   simp only [Nat.not_lt_zero,if_false,Nat.zero_add,Nat.sub_zero]
   split
   ·rfl
   ·rw [List.getElem?_eq_none (by omega),List.getElem?_eq_none (by omega)]
  ·split at h
   ·rename_i hle
    cases h
    have hle':off+p.cells.length≤e.cells.length:=by omega
    refine ⟨hm,hle,?_,fun j=>?_⟩
    ·rw [← hm]; exact splice_size e.cells p.cells off hle'
    ·have:=splice_get e.cells p.cells off j hle'
     rw [hm] at this
     exact this
   ·cases h
 ·cases h
theorem row_apart {i i' j sz:Nat} (hj:j < sz) (h:i'≠i):i' * sz+j < i * sz∨i * sz+sz≤i' * sz+j:=by
 rcases Nat.lt_or_gt_of_ne h with h | h
 ·have:=Nat.mul_le_mul_right sz (show i'+1≤i from h)
  rw [Nat.add_mul] at this; omega
 ·have:=Nat.mul_le_mul_right sz (show i+1≤i' from h)
  rw [Nat.add_mul] at this; omega
theorem row_fits {i n sz j:Nat} (h:i < n) (hj:j≤sz):i * sz+j≤n * sz:=by
 have:=Nat.mul_le_mul_right sz (show i+1≤n from h)
 rw [Nat.add_mul] at this; omega
theorem run_storeVar {t:TypeId} {i:TypeInfo} {u:Value} {g o:Nat} {ty:TypeId} {cur:Array Value} {w:World} (hi:P.info? t=some i) (hs:u.cells.size=i.size) (hg:w.heap[g]?=some (.cells cur ty (0,0)))
  (hl:o+i.size≤cur.size) (h1:∀ (i:Nat) (x:Value),u.cells[i]?=some x→x.oneCell'=true) :
  (storeVar t ⟨g,o,none⟩ u).run P w=.ok () (w.setRow g (cur.toList.take o++u.cells.toList++cur.toList.drop (o+u.cells.toList.length)).toArray):=by
 unfold storeVar
 simp only [Sem.run_bind,run_sizeOf hi,Result.andThen_ok]
 rw [if_neg (by simp [hs])]
 have:=run_storeCells_at P g o ty u.cells.toList 0 cur w hg (by simp; omega) (fun v hv=>by
  obtain ⟨i,hi,rfl⟩:=List.getElem_of_mem hv
  exact h1 i _ (by simp at hi; simp [hi]))
 simpa using this
theorem InvE.store (I:InvE C st a E) {b s:Nat} {es:List PV} {en:Ent} (A:At E st.h b s (.cells es) en) {i off m:Nat} {e e' p:PV} (he:es[i]?=some e) (hst:stv e off m p=some e') {u:Value} (hp:Rep E p u) (hps:p.stor=true) :
  ∃ (arr:Array Value) (ty:TypeId),E.w.heap[en.rb]?=some (.cells arr ty (0,0))∧en.base+i * en.sz+off+m≤arr.size∧u.cells.size=m∧(∀ (i:Nat) (x:Value),u.cells[i]?=some x→x.oneCell'=true) ∧
   InvE C ⟨st.t,st.h.set b (some (s,.cells (es.set i e'))),st.n⟩ a ⟨E.w.setRow en.rb (arr.toList.take (en.base+i * en.sz+off)++u.cells.toList++arr.toList.drop (en.base+i * en.sz+off+u.cells.toList.length)).toArray,E.σ,E.S⟩:=by
 obtain ⟨arr,ty,g1,g2,g3,g4,g5,g6,g7,X,gX1,gX⟩:=A.row I.good he
 obtain ⟨s1,s2,s3,s4⟩:=stv_cells hst
 obtain ⟨c1,c2,c3⟩:=rep_cells hp hps
 have hfit:en.base+i * en.sz+off+m≤arr.size:=by
  have:=row_fits (j:=off+m) (sz:=en.sz) g4 (by omega)
  omega
 refine ⟨arr,ty,g1,hfit,by omega,c2,?_⟩
 have hlen:u.cells.toList.length=m:=by simp; omega
 have hsp:=splice_get arr.toList u.cells.toList (en.base+i * en.sz+off)
 refine I.upd A rfl rfl rfl (by simp [World.setRow]) (fun r=>?_) (fun hle=>?_)
 ·by_cases hr:r=en.rb
  ·exact .inl ⟨g3,hr⟩
  ·exact .inr (heap_setRow_ne _ _ _ _ hr)
 ·obtain ⟨⟨b1,b2,b3,b4⟩,_⟩:=A.brep I.good
  obtain ⟨arr',ty',b5,b6,b7,b8⟩:=b4 g3
  rw [g1] at b5; cases b5
  refine ⟨by simpa using b1,b2,?_,fun _=>⟨_,ty,heap_setRow_same _ _ _ g1,?_,?_,?_⟩⟩
  ·intro i' e2 he2
   by_cases hi:i=i'
   ·subst hi
    rw [List.getElem?_set_self (List.getElem?_eq_some_iff.1 he).1] at he2
    cases he2; omega
   ·rw [List.getElem?_set_ne hi] at he2
    exact b3 i' e2 he2
  ·have:=splice_size arr.toList u.cells.toList (en.base+i * en.sz+off) (by simp; omega)
   simp only [List.size_toArray,this]
   simpa using g2
  ·intro i' e2 j c he2 hc
   simp only [List.getElem?_toArray]
   rw [hsp _ (by simp; omega)]
   by_cases hi:i=i'
   ·subst hi
    rw [List.getElem?_set_self (List.getElem?_eq_some_iff.1 he).1] at he2
    cases he2
    have hj:j < en.sz:=by have:=(List.getElem?_eq_some_iff.1 hc).1; omega
    rw [s4 j] at hc
    by_cases k1:j < off
    ·rw [if_pos k1] at hc
     rw [if_pos (by omega)]
     obtain ⟨x,hx,hr⟩:=b7 i e j c he hc
     exact ⟨x,by simpa using hx,hr.mono hle⟩
    ·rw [if_neg k1] at hc
     rw [if_neg (by omega)]
     by_cases k2:j < off+m
     ·rw [if_pos k2] at hc
      rw [if_pos (by omega)]
      have hk:j - off < u.cells.size:=by omega
      refine ⟨u.cells[j - off],?_,(c3 (j - off) c _ hc (by simp [hk])).mono hle⟩
      rw [show en.base+i * en.sz+j - (en.base+i * en.sz+off)=j - off by omega]
      simp [hk]
     ·rw [if_neg k2] at hc
      rw [if_neg (by omega)]
      obtain ⟨x,hx,hr⟩:=b7 i e j c he hc
      exact ⟨x,by simpa using hx,hr.mono hle⟩
   ·rw [List.getElem?_set_ne hi] at he2
    obtain ⟨x,hx,hr⟩:=b7 i' e2 j c he2 hc
    have hj:j < en.sz:=by have:=(List.getElem?_eq_some_iff.1 hc).1; have:=b3 i' e2 he2; omega
    refine ⟨x,?_,hr.mono hle⟩
    rcases row_apart hj (Ne.symm hi) with h | h
    ·rw [if_pos (by omega)]; simpa using hx
    ·rw [if_neg (by omega),if_neg (by omega)]; simpa using hx
  ·intro k x hx
   simp only [List.getElem?_toArray] at hx
   rw [hsp _ (by simp; omega)] at hx
   split at hx
   ·exact b8 k x (by simpa using hx)
   ·split at hx
    ·exact c2 _ x (by simpa using hx)
    ·exact b8 k x (by simpa using hx)
theorem out_store (I:InvE C st a E) {o:Oper} {t:TypeId} {x v:Operand} {y z:Opd} {i:TypeInfo} {K:PV→List Slot→Nat→Prop} (ho:o.op=.store t x v) (hx:cOpd x=some y) (hv:cOpd v=some z) (hi:P.info? t=some i)
  (hK:opK st.ev st.h st.n K (.store i.size y z)):Out P o C st a E K:=by
 have hr:=ev_rep I hx
 have hrv:=ev_rep I hv
 simp only [opK] at hK
 split at hK
 ·rename_i b s r off hev
  rw [hev] at hr
  obtain ⟨en,hσ,hu⟩:=rep_optr hr
  obtain ⟨es,e,e',h1,h2,h3,h4,h5⟩:=hK
  obtain ⟨arr,ty,g1,g2,g3,g4,I'⟩:=I.store ⟨h1,hσ⟩ h2 h4 hrv h3
  refine ⟨_,_,_,h5,undef,_,.skip,?_,.inr ⟨rfl,rfl⟩,I',.v _⟩
  simp only [execOp,ho,Instr.storeAt,hu,Instr.sureAddr,Sem.run_bind,Sem.run_pure,Result.andThen_ok]
  rw [run_storeVar hi g3 g1 g2 g4]
  rfl
 ·exact hK.elim
theorem out_alloc (I:InvE C st a E) {o:Oper} {t:TypeId} {i:TypeInfo} {z:Value} {s:Nat} {K:PV→List Slot→Nat→Prop} (ho:o.op=.alloc t) (hi:P.info? t=some i) (hz:i.zero=some z)
  (hK:opK st.ev st.h st.n K (.alloc s (cVal z))):Out P o C st a E K:=by
 simp only [opK] at hK
 obtain ⟨h1,h2,h3,h4⟩:=hK
 obtain ⟨c1,c2,c3⟩:=rep_cells (cVal_rep E z) h2
 have I':=I.newBlk (b:=s) h1 (arr:=z.cells) (t:=t) (es:=[cVal z]) (sz:=(cVal z).cells.length) (tot:=1) h3 (by omega) (by simp)
  (fun i e he=>by cases i with | zero=>simp at he; subst he; rfl | succ i=>simp at he)
  (fun i e j c he hj=>by
   cases i with
   | zero =>
    simp at he; subst he
    have hj':j < z.cells.size:=by have:=(List.getElem?_eq_some_iff.1 hj).1; omega
    exact ⟨z.cells[j],by simp [hj'],c3 j c _ hj (by simp [hj'])⟩
   | succ i=>simp at he) c2
 refine ⟨_,_,_,h4,_,_,_,?_,.inl rfl,I',.optr s st.n 0 0 ⟨E.w.heap.size,0,(cVal z).cells.length,1⟩ (by simp [giveAt])⟩
 simp [execOp,ho,Instr.alloc,zeroValue,typeInfo,hi,hz,newVar,newRow]
theorem out_box (I:InvE C st a E) {o:Oper} {t:TypeId} {s sz:Nat} {x:Operand} {y:Opd} {K:PV→List Slot→Nat→Prop} (ho:o.op=.box t x) (hx:cOpd x=some y)
  (hK:opK st.ev st.h st.n K (.box s sz y)):Out P o C st a E K:=by
 simp only [opK] at hK
 obtain ⟨h1,h2,h3,h5,h4⟩:=hK
 obtain ⟨c1,c2,c3⟩:=rep_cells (ev_rep I hx) h2
 have I':=I.newBlk (b:=s) h1 (arr:=(a.eval x).cells) (t:=t) (es:=[st.ev y]) (sz:=sz) (tot:=1) h3 (by omega) (by simp)
  (fun i e he=>by cases i with | zero=>simp at he; subst he; exact h5 | succ i=>simp at he)
  (fun i e j c he hj=>by
   cases i with
   | zero =>
    simp at he; subst he
    have hj':j < (a.eval x).cells.size:=by have:=(List.getElem?_eq_some_iff.1 hj).1; omega
    exact ⟨(a.eval x).cells[j],by simp [hj'],c3 j c _ hj (by simp [hj'])⟩
   | succ i=>simp at he) c2
 refine ⟨_,_,_,h4,_,_,_,?_,.inl rfl,I',.optr s st.n 0 0 ⟨E.w.heap.size,0,sz,1⟩ (by simp [giveAt])⟩
 simp [execOp,ho,Instr.box,newVar,newRow]
end Go.Proofs.Yticljphbbdnomaa.VL
