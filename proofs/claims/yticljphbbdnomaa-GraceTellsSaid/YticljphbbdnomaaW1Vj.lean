import Derived.Test.YticljphbbdnomaaW1Vi
namespace Go.Proofs.Yticljphbbdnomaa.VL
open Go
set_option linter.unusedVariables false
set_option linter.unusedSimpArgs false
set_option linter.unusedSectionVars false
variable [Val]
variable {P:Program} {C:Ctx} {st:St} {a:Act} {E:Env} {K:PV→List Slot→Nat→Prop} {o:Oper}
theorem run_app_in {t t' e e' ty:TypeId} {ie:TypeInfo} (ht:P.underlying t=some (.slice e)) (ht':P.underlying t'=some (.slice e')) (hi:P.info? e=some ie) {base ad:Option Addr} {sLen sCap n m:Nat} {news:List Value} {w:World}
  (hf:(Builtin.firstCells ie.size n (.slice ad n m)).run P w=.ok news.toArray w) (h:sLen+n≤sCap) :
  (Builtin.append_ #[t,t'] ty #[.slice base sLen sCap,.slice ad n m]).run P w=match base with
   | some b=>((storeCells (b.add (sLen * ie.size)) news).run P w).andThen fun _ w'=>.ok (.slice base (sLen+n) sCap) w'
   | none=>.ok (.slice base (sLen+n) sCap) w:=by
 cases base with
 | none=>simp [Builtin.append_,run_underlying ht,run_underlying ht',run_sizeOf hi,Builtin.lenOf,h,hf]
 | some b=>simp [Builtin.append_,run_underlying ht,run_underlying ht',run_sizeOf hi,Builtin.lenOf,h,hf]
theorem run_app_new {t t' e e' ty:TypeId} {ie:TypeInfo} {z:Value} (ht:P.underlying t=some (.slice e)) (ht':P.underlying t'=some (.slice e')) (hi:P.info? e=some ie) (hz:ie.zero=some z) {base ad:Option Addr} {sLen sCap n m:Nat} {olds news:List Value} {w:World}
  (hfo:(Builtin.firstCells ie.size sLen (.slice base sLen sCap)).run P w.drew=.ok olds.toArray w.drew)
  (hf:(Builtin.firstCells ie.size n (.slice ad n m)).run P w.drew=.ok news.toArray w.drew) (h:sCap < sLen+n) (h1:(sLen+n) * ie.bytes≤70368744177664) (h2:sLen+n≤70368744177664) :
  ∃ arr newCap,(Builtin.append_ #[t,t'] ty #[.slice base sLen sCap,.slice ad n m]).run P w=.ok (.slice (some ⟨w.heap.size,0,none⟩) (sLen+n) newCap) (w.drew.alloc (.cells arr e))∧sLen+n≤newCap ∧
   arr=(olds++news).toArray++Builtin.zeroCells z.cells (newCap - (sLen+n)):=by
 have hn:¬ (sLen+n≤sCap):=by omega
 have h63':¬ (9223372036854775807 < ((sLen:Int)+(n:Int))):=by omega
 have h48':¬ (281474976710656 < Builtin.nextslicecap (sLen+n) sCap * ie.bytes):=by
  have:=growslice_fits (need:=sLen+n) (old:=sCap) (bytes:=ie.bytes) h (by omega)
  omega
 refine ⟨_,grownCap w (sLen+n) sCap e,?_,grownCap_ge w _ _ e,rfl⟩
 simp [Builtin.append_,run_underlying ht,run_underlying ht',sizeOf,typeInfo,zeroValue,hi,hz,Builtin.lenOf,hn,h63',h48',Question.forced,hf,hfo,newRow,grownCap]
 congr 2
 apply Array.ext'
 simp
theorem zeroCells_one {z:Value} (hs:(cVal z).stor=true) (n:Nat):(Builtin.zeroCells z.cells n).size=n * (cVal z).cells.length∧∀ (i:Nat) (u:Value),(Builtin.zeroCells z.cells n)[i]?=some u→u.oneCell'=true:=by
 obtain ⟨c1,c2,c3⟩:=cVal_cells (E:=⟨default,fun _=>none,fun _=>False⟩) hs
 refine ⟨by rw [size_zeroCells,c1],fun i u hu=>?_⟩
 have hlt:i < n * z.cells.size:=by have:=(Array.getElem?_eq_some_iff.1 hu).1; simpa [Builtin.zeroCells] using this
 have hpos:0 < z.cells.size:=by rcases Nat.eq_zero_or_pos z.cells.size with h | h; rw [h] at hlt; simp at hlt; exact h
 simp [Builtin.zeroCells,hlt] at hu
 have hm:i % z.cells.size < z.cells.size:=Nat.mod_lt _ hpos
 rw [getElem!_pos z.cells _ hm] at hu
 exact c2 (i % z.cells.size) u (by simp [hm,hu])
theorem Rows'.append {xs ys:List PV} {sz:Nat} {olds news:List Value} (h:Rows' E xs sz olds) (k:Rows' E ys sz news) (hx:∀ e ∈ xs,e.cells.length=sz):Rows' E (xs++ys) sz (olds++news):=by
 obtain ⟨h1,h2,h3⟩:=h
 obtain ⟨k1,k2,k3⟩:=k
 refine ⟨by simp [h1,k1,Nat.add_mul],fun x hx=>?_,fun i e j c he hc=>?_⟩
 ·rcases List.mem_append.1 hx with hx | hx
  ·exact h2 x hx
  ·exact k2 x hx
 ·rw [List.getElem?_append] at he
  split at he
  ·rename_i hlt
   obtain ⟨x,hx',hr⟩:=h3 i e j c he hc
   exact ⟨x,by rw [List.getElem?_append_left (List.getElem?_eq_some_iff.1 hx').1]; exact hx',hr⟩
  ·rename_i hge
   obtain ⟨x,hx',hr⟩:=k3 _ e j c he hc
   refine ⟨x,?_,hr⟩
   have hm:xs.length * sz≤i * sz:=Nat.mul_le_mul_right _ (by omega)
   rw [List.getElem?_append_right (by omega),h1,← hx']
   congr 1
   rw [Nat.sub_mul]; omega
theorem InvE.appBlk (I:InvE C st a E) {b:Nat} (hb:b < st.h.length) {e:TypeId} {sz newCap:Nat} {zs:List PV} {cells:List Value} {z:Value} (hsz0:0 < sz) (hz:(cVal z).stor=true) (hzs:(cVal z).cells.length=sz) (hR:Rows' E zs sz cells)
  (hzl:∀ e ∈ zs,e.cells.length=sz) (hcap:zs.length≤newCap):InvE C ⟨st.t,st.h.set b (some (st.n,.cells zs)),st.n+1⟩ a
   ⟨E.w.drew.alloc (.cells (cells.toArray++Builtin.zeroCells z.cells (newCap - zs.length)) e),giveAt E.σ st.n ⟨E.w.heap.size,0,sz,newCap⟩,E.S⟩:=by
 obtain ⟨r1,r2,r3⟩:=hR
 obtain ⟨z1,z2⟩:=zeroCells_one hz (newCap - zs.length)
 have hle:=le_drew E
 refine (I.drew).newBlk (st:=st) (E:=⟨E.w.drew,E.σ,E.S⟩) hb hsz0 ?_ hcap (fun i e he=>hzl e (List.mem_of_getElem? he)) ?_ ?_
 ·simp only [Array.size_append,List.size_toArray,z1,hzs,r1,← Nat.add_mul]
  congr 1; omega
 ·intro i e j c he hc
  obtain ⟨x,hx,hr⟩:=r3 i e j c he hc
  have hlt:=(List.getElem?_eq_some_iff.1 hx).1
  exact ⟨x,by rw [Array.getElem?_append_left (by simpa using hlt)]; simpa using hx,hr.mono hle⟩
 ·intro i u hu
  rw [Array.getElem?_append] at hu
  split at hu
  ·exact r2 u (by simp only [List.getElem?_toArray] at hu; exact List.mem_of_getElem? hu)
  ·exact z2 _ u hu
theorem InvE.splice (I:InvE C st a E) {b s:Nat} {es:List PV} {en:Ent} (A:At E st.h b s (.cells es) en) {p:Nat} {ys:List PV} {news:List Value} (hR:Rows' E ys en.sz news) (hys:∀ e ∈ ys,e.cells.length=en.sz) (hp:p+ys.length≤es.length) (h0:en.tot≠0) :
  ∃ (arr:Array Value) (ty:TypeId),E.w.heap[en.rb]?=some (.cells arr ty (0,0))∧en.base+p * en.sz+news.length≤arr.size ∧
   InvE C ⟨st.t,st.h.set b (some (s,.cells (es.take p++ys++es.drop (p+ys.length)))),st.n⟩ a ⟨E.w.setRow en.rb (arr.toList.take (en.base+p * en.sz)++news++arr.toList.drop (en.base+p * en.sz+news.length)).toArray,E.σ,E.S⟩:=by
 obtain ⟨⟨b1,b2,b3,b4⟩,_⟩:=A.brep I.good
 obtain ⟨arr,ty,b5,b6,b7,b8⟩:=b4 h0
 obtain ⟨r1,r2,r3⟩:=hR
 have hfit:en.base+p * en.sz+news.length≤arr.size:=by
  have:=Nat.mul_le_mul_right en.sz (show p+ys.length≤en.tot by omega)
  rw [Nat.add_mul] at this; omega
 refine ⟨arr,ty,b5,hfit,?_⟩
 have hsp:=splice_get arr.toList news (en.base+p * en.sz)
 have hsp2:=splice_get es ys p
 refine I.upd A rfl rfl rfl (by simp [World.setRow]) (fun r=>?_) (fun hle=>?_)
 ·by_cases hr:r=en.rb
  ·exact .inl ⟨h0,hr⟩
  ·exact .inr (heap_setRow_ne _ _ _ _ hr)
 ·refine ⟨by rw [splice_size _ _ _ hp]; exact b1,b2,?_,fun _=>⟨_,ty,heap_setRow_same _ _ _ b5,?_,?_,?_⟩⟩
  ·intro i e he
   rw [hsp2 _ hp] at he
   split at he
   ·exact b3 i e he
   ·split at he
    ·exact hys e (List.mem_of_getElem? he)
    ·exact b3 i e he
  ·have:=splice_size arr.toList news (en.base+p * en.sz) (by simpa using hfit)
   simp only [List.size_toArray,this]
   simpa using b6
  ·intro i e j c he hc
   simp only [List.getElem?_toArray]
   rw [hsp _ (by simpa using hfit)]
   rw [hsp2 _ hp] at he
   split at he
   ·rename_i h1
    obtain ⟨x,hx,hr⟩:=b7 i e j c he hc
    have hj:j < en.sz:=by have:=(List.getElem?_eq_some_iff.1 hc).1; have:=b3 i e he; omega
    have:=row_fits (i:=i) (n:=p) (j:=j+1) (sz:=en.sz) h1 (by omega)
    rw [if_pos (by omega)]
    exact ⟨x,by simpa using hx,hr.mono hle⟩
   ·rename_i h1
    split at he
    ·rename_i h2
     obtain ⟨x,hx,hr⟩:=r3 (i - p) e j c he hc
     have hxl:=(List.getElem?_eq_some_iff.1 hx).1
     have h3:p * en.sz≤i * en.sz:=Nat.mul_le_mul_right _ (by omega)
     have h4:(i - p) * en.sz=i * en.sz - p * en.sz:=Nat.sub_mul _ _ _
     rw [if_neg (by omega),if_pos (by omega)]
     refine ⟨x,?_,hr.mono hle⟩
     rw [← hx]; congr 1; omega
    ·rename_i h2
     obtain ⟨x,hx,hr⟩:=b7 i e j c he hc
     have h3:(p+ys.length) * en.sz≤i * en.sz:=Nat.mul_le_mul_right _ (by omega)
     rw [Nat.add_mul] at h3
     rw [if_neg (by omega),if_neg (by omega)]
     exact ⟨x,by simpa using hx,hr.mono hle⟩
  ·intro k x hx
   simp only [List.getElem?_toArray] at hx
   rw [hsp _ (by simpa using hfit)] at hx
   split at hx
   ·exact b8 k x (by simpa using hx)
   ·split at hx
    ·exact r2 x (List.mem_of_getElem? hx)
    ·exact b8 k x (by simpa using hx)
theorem le_setRow' (I:InvE C st a E) {b s:Nat} {k:Blk} {en:Ent} (A:At E st.h b s k en) (h0:en.tot≠0) (cs:Array Value):E.le ⟨E.w.setRow en.rb cs,E.σ,E.S⟩:=by
 refine ⟨fun _ h=>h,fun r hr=>heap_setRow_ne _ _ _ _ ?_,fun _ _ h=>h⟩
 rintro rfl
 exact (A.brep I.good).2 h0 hr
theorem run_store_rows {g o:Nat} {ty:TypeId} {cur:Array Value} {w:World} {news:List Value} (hg:w.heap[g]?=some (.cells cur ty (0,0))) (hl:o+news.length≤cur.size) (h1:∀ x ∈ news,x.oneCell'=true) :
  (storeCells ⟨g,o,none⟩ news).run P w=.ok () (w.setRow g (cur.toList.take o++news++cur.toList.drop (o+news.length)).toArray):=by
 have:=run_storeCells_at P g o ty news 0 cur w hg (by simpa using hl) h1
 simpa using this
theorem rows_nil {sz:Nat} {news:List Value} (h:Rows' E [] sz news):news=[]:=by
 have:=h.1
 simpa using this
theorem out_app (I:InvE C st a E) {t t' e e':TypeId} {ie:TypeInfo} {z:Value} {s:Nat} {x y:Operand} {x' y':Opd} {cl:Call} (ho:o.op=.call cl) (hcl:cl.callee=.builtin .append) (hargs:cl.args=#[x,y]) (hat:cl.argTypes=#[t,t'])
  (ht:P.underlying t=some (.slice e)) (ht':P.underlying t'=some (.slice e')) (hi:P.info? e=some ie) (hz:ie.zero=some z) (hx:cOpd x=some x') (hy:cOpd y=some y')
  (hK:opK st.ev st.h st.n K (.app s ie.size ie.bytes (cVal z) x' y')):Out P o C st a E K:=by
 have hrx:=ev_rep I hx
 have hry:=ev_rep I hy
 have exec:∀ {u v:Value} {r:Value} {w':World},a.eval x=u→a.eval y=v→(Builtin.append_ #[t,t'] o.type #[u,v]).run P E.w=.ok r w'→(execOp a.eval o).run P E.w=.ok (.value r) w':=by
  intro u v r w' hu hv hr
  simp [execOp,ho,resolve,hcl,hargs,hat,invoke,builtin,hu,hv,hr]
 simp only [opK] at hK
 obtain ⟨g1,g2,g3,g4,ys,g5,g6,hK⟩:=hK
 obtain ⟨ad,m,hv,hrows⟩:=elems_cells (P:=P) I hry g5 g6 g2
 obtain ⟨news,hR,hf⟩:=hrows ys.length (Nat.le_refl _)
 rw [List.take_length] at hR
 rw [hv] at hf
 split at hK
 ·rename_i es hev
  rw [hev] at hrx
  obtain ⟨k1,k2,k3,k4,k5⟩:=hK
  obtain ⟨ad0,m0,hu,hrows0⟩:=elems_cells (P:=P) I hrx (show elems st.h (.sl true es)=some es from rfl) k1 g2
  have hm0:m0=es.length:=by
   obtain ⟨ad1,m1,h1,h2,h3,h4⟩:=rep_sl hrx
   rw [hu] at h1
   cases h1
   exact h4 rfl
  subst hm0
  by_cases hys:ys=[]
  ·subst hys
   obtain rfl:=rows_nil hR
   refine Out.same I (k4 rfl) (u:=.slice ad0 es.length es.length) (exec hu hv ?_) (by rw [← hu]; exact hrx)
   rw [run_app_in ht ht' hi (hf E.w rfl) (by simp)]
   cases ad0 with
   | none=>simp
   | some b=>simp [storeCells]
  ·have hlen:0 < ys.length:=by cases ys with | nil=>exact absurd rfl hys | cons=>simp
   obtain ⟨olds,hRo,hfo⟩:=hrows0 es.length (Nat.le_refl _)
   rw [List.take_length] at hRo
   rw [hu] at hfo
   obtain ⟨arr,newCap,hrun,hcap,harr⟩:=run_app_new (ty:=o.type) (P:=P) ht ht' hi hz (hfo E.w.drew rfl) (hf E.w.drew rfl) (by omega) k2 k3
   have I':=I.appBlk g1 (e:=e) (newCap:=newCap) g2 g4 g3 (hRo.append hR k1) (fun e he=>(List.mem_append.1 he).elim (k1 e) (g6 e)) (by simpa using hcap)
   subst harr
   simp only [List.length_append] at I'
   refine ⟨_,_,_,k5 hys,_,_,_,exec (w':=(Env.w _)) hu hv hrun,.inl rfl,I',?_⟩
   ·have:=Rep.own (E:=⟨E.w.drew.alloc (.cells ((olds++news).toArray++Builtin.zeroCells z.cells (newCap - (es.length+ys.length))) e),giveAt E.σ st.n ⟨E.w.heap.size,0,ie.size,newCap⟩,E.S⟩) s st.n 0 (es.length+ys.length) none ⟨E.w.heap.size,0,ie.size,newCap⟩ newCap (some ⟨E.w.heap.size,0,none⟩) (by simp [giveAt]) (fun _=>by simp) (by simp) hcap (by simp) (by simp) (by simp)
    exact this
 ·rename_i b sx sz' off len cap hev
  rw [hev] at hrx
  obtain ⟨rfl,es,k1,k2,k3,k4,hK⟩:=hK
  obtain ⟨en,c,ad0,hu,hσ,hsz,had,hn,hlen,hc,htot,hcapn⟩:=rep_own hrx
  have A:At E st.h b sx (.cells es) en:=⟨k1,hσ⟩
  obtain ⟨⟨b1,b2,b3,b4⟩,_⟩:=A.brep I.good
  have hsub:∀ e ∈ (es.drop off).take len,e.cells.length=ie.size:=by
   intro e he
   have:=List.mem_of_mem_take he
   have:=List.mem_of_mem_drop this
   obtain ⟨i,hi',rfl⟩:=List.getElem_of_mem this
   rw [b3 i _ (List.getElem?_eq_getElem hi')]; exact hsz
  have inplace:∀ {cap':Option Nat},len+ys.length≤c→off+len+ys.length≤es.length→(∀ k,cap'=some k→c=k)→(cap'=none→off+c=en.tot) →
    K (.own b sx ie.size off (len+ys.length) cap') (st.h.set b (some (sx,.cells (es.take (off+len)++ys++es.drop (off+len+ys.length))))) st.n→Out P o C st a E K:=by
   intro cap' q1 q2 q3 q4 hK
   by_cases hys:ys=[]
   ·subst hys
    obtain rfl:=rows_nil hR
    refine ⟨_,_,_,hK,.slice ad0 len c,E,_,exec hu hv ?_,.inl rfl,?_,?_⟩
    ·rw [run_app_in ht ht' hi (hf E.w rfl) (by simpa using hlen)]
     cases ad0 with
     | none=>simp
     | some b=>simp [storeCells]
    ·have:st.h.set b (some (sx,Blk.cells (es.take (off+len)++[]++es.drop (off+len+([]:List PV).length))))=st.h:=by
      simp only [List.append_nil,List.length_nil,Nat.add_zero,List.take_append_drop]
      apply List.ext_getElem?
      intro i
      rw [List.getElem?_set]
      split
      ·rename_i hbi
       subst hbi
       rw [k1,if_pos (List.getElem?_eq_some_iff.1 k1).1]
      ·rfl
     rw [this]; exact I
    ·rw [← hsz]
     exact .own b sx off len cap' en c ad0 hσ had hn hlen q3 htot q4
   ·have hl0:0 < ys.length:=by cases ys with | nil=>exact absurd rfl hys | cons=>simp
    have hc0:c≠0:=by omega
    have ha:=had hc0
    subst ha
    rw [← hsz] at hR
    obtain ⟨arr,ty,s1,s2,I'⟩:=I.splice A (p:=off+len) hR (fun e he=>by rw [hsz]; exact g6 e he) (by omega) (by omega)
    refine ⟨_,_,_,hK,.slice (some ⟨en.rb,en.base+off * en.sz,none⟩) (len+ys.length) c,_,_,exec hu hv ?_,.inl rfl,I',?_⟩
    ·rw [run_app_in ht ht' hi (hf E.w rfl) q1]
     simp only [add_addr]
     have e1:en.base+off * en.sz+len * ie.size=en.base+(off+len) * en.sz:=by rw [← hsz,Nat.add_mul]; omega
     rw [e1,run_store_rows s1 s2 hR.2.1]
     rfl
    ·rw [← hsz]
     exact (Rep.own b sx off (len+ys.length) cap' en c _ hσ had hn q1 q3 htot q4).mono (le_setRow' I A (by omega) _)
  have anew:∀ {s':Nat},s' < st.h.length→c < len+ys.length→K (.own s' st.n ie.size 0 (len+ys.length) none) (st.h.set s' (some (st.n,.cells ((es.drop off).take len++ys)))) (st.n+1)→Out P o C st a E K:=by
   intro s' q0 q1 hK
   obtain ⟨ad1,m1,hu1,hrows1⟩:=elems_cells (P:=P) I hrx (ys:=(es.drop off).take len) (by simp [elems,k1,k2]) hsub g2
   have hl:((es.drop off).take len).length=len:=by simp; omega
   obtain ⟨olds,hRo,hfo⟩:=hrows1 len (by omega)
   rw [List.take_of_length_le (by omega)] at hRo
   rw [hu] at hu1
   injection hu1 with e1 e2 e3
   subst e1; subst e3
   rw [hu] at hfo
   have q2:((es.drop off).take len++ys).length=len+ys.length:=by simp; omega
   obtain ⟨arr,newCap,hrun,hcap,harr⟩:=run_app_new (ty:=o.type) (P:=P) ht ht' hi hz (hfo E.w.drew rfl) (hf E.w.drew rfl) q1 k3 k4
   have I':=I.appBlk q0 (e:=e) (newCap:=newCap) g2 g4 g3 (hRo.append hR hsub) (fun e he=>(List.mem_append.1 he).elim (hsub e) (g6 e)) (by rw [q2]; exact hcap)
   rw [q2] at I'
   subst harr
   refine ⟨_,_,_,hK,_,_,_,exec (w':=(Env.w _)) hu hv hrun,.inl rfl,I',?_⟩
   ·have:=Rep.own (E:=⟨E.w.drew.alloc (.cells ((olds++news).toArray++Builtin.zeroCells z.cells (newCap - (len+ys.length))) e),giveAt E.σ st.n ⟨E.w.heap.size,0,ie.size,newCap⟩,E.S⟩) s' st.n 0 (len+ys.length) none ⟨E.w.heap.size,0,ie.size,newCap⟩ newCap (some ⟨E.w.heap.size,0,none⟩) (by simp [giveAt]) (fun _=>by simp) (by simp) hcap (by simp) (by simp) (by simp)
    exact this
  split at hK
  ·rename_i k
   obtain rfl:=hc k rfl
   split at hK
   ·rename_i hfit
    exact inplace hfit hK.1 (fun k hk=>by cases hk; rfl) (by simp) hK.2
   ·rename_i hfit
    exact anew g1 (by omega) hK
  ·have hblt:b < st.h.length:=(List.getElem?_eq_some_iff.1 k1).1
   split at hK
   ·rename_i hfit
    have:=hcapn rfl
    exact inplace (by omega) hfit (by simp) (fun _=>this) hK
   ·rename_i hfit
    by_cases hreal:c < len+ys.length
    ·exact anew hblt hreal hK
    ·
     have htc:=hcapn rfl
     have hys:ys≠[]:=by intro h; subst h; simp at hfit; omega
     have hl0:0 < ys.length:=by cases ys with | nil=>exact absurd rfl hys | cons=>simp
     have hc0:c≠0:=by omega
     have ha:=had hc0
     subst ha
     obtain ⟨arr,ty,b5,b6,b7,b8⟩:=b4 (by omega)
     obtain ⟨r1,r2,r3⟩:=hR
     have hb:en.base+(off+len) * en.sz+news.length≤arr.size:=by
      have:=Nat.mul_le_mul_right en.sz (show off+len+ys.length≤en.tot by omega)
      rw [Nat.add_mul] at this
      rw [r1,← hsz,b6]; omega
     have hsp:=splice_get arr.toList news (en.base+(off+len) * en.sz)
     have I':=I.give (b:=b) hblt (k:=.cells ((es.drop off).take len++ys)) (en:=⟨en.rb,en.base+off * en.sz,en.sz,en.tot - off⟩) (w':=E.w.setRow en.rb (arr.toList.take (en.base+(off+len) * en.sz)++news++arr.toList.drop (en.base+(off+len) * en.sz+news.length)).toArray)
      rfl rfl rfl (by simp [World.setRow]) (fun r hr=>by
       by_cases hrr:r=en.rb
       ·exact .inl ⟨sx,_,en,A,by omega,hrr.symm⟩
       ·exact .inr (heap_setRow_ne _ _ _ _ hrr))
      (fun _=>.inr ⟨sx,_,en,A,by omega,rfl⟩) (fun hle=>by
       have q2:((es.drop off).take len++ys).length=len+ys.length:=by simp; omega
       refine ⟨by rw [q2]; show len+ys.length≤en.tot - off; omega,b2,?_,fun _=>⟨_,ty,heap_setRow_same _ _ _ b5,?_,?_,?_⟩⟩
       ·intro i e he
        show e.cells.length=en.sz
        have:=List.mem_of_getElem? he
        rw [hsz]
        exact (List.mem_append.1 this).elim (hsub e) (g6 e)
       ·have:=splice_size arr.toList news (en.base+(off+len) * en.sz) (by simpa using hb)
        simp only [List.size_toArray,this,Array.length_toList,b6]
        rw [Nat.sub_mul]
        have:=Nat.mul_le_mul_right en.sz (show off≤en.tot by omega)
        omega
       ·intro i e j x he hx
        simp only [List.getElem?_toArray]
        rw [hsp _ (by simpa using hb)]
        rw [List.getElem?_append] at he
        have hl:((es.drop off).take len).length=len:=by simp; omega
        rw [hl] at he
        split at he
        ·rename_i h1
         obtain ⟨_,h2⟩:=take_drop_get he
         obtain ⟨v,hv',hr'⟩:=b7 _ e j x h2 hx
         have hj:j < en.sz:=by have:=(List.getElem?_eq_some_iff.1 hx).1; have:=b3 _ e h2; omega
         have h3:=row_fits (i:=off+i) (n:=off+len) (j:=j+1) (sz:=en.sz) (by omega) (by omega)
         have h4:(off+i) * en.sz=off * en.sz+i * en.sz:=Nat.add_mul _ _ _
         rw [if_pos (by omega)]
         refine ⟨v,?_,hr'.mono hle⟩
         have:arr.toList[en.base+(off+i) * en.sz+j]?=some v:=by simpa using hv'
         rw [← this]; congr 1; omega
        ·rename_i h1
         obtain ⟨v,hv',hr'⟩:=r3 _ e j x he hx
         have hvl:=(List.getElem?_eq_some_iff.1 hv').1
         rw [← hsz] at hv' hvl
         have h3:(i - len) * en.sz=i * en.sz - len * en.sz:=Nat.sub_mul _ _ _
         have h4:(off+len) * en.sz=off * en.sz+len * en.sz:=Nat.add_mul _ _ _
         have h5:len * en.sz≤i * en.sz:=Nat.mul_le_mul_right _ (by omega)
         rw [if_neg (by omega),if_pos (by omega)]
         refine ⟨v,?_,hr'.mono hle⟩
         rw [← hv']; congr 1; omega
       ·intro k x hx
        simp only [List.getElem?_toArray] at hx
        rw [hsp _ (by simpa using hb)] at hx
        split at hx
        ·exact b8 k x (by simpa using hx)
        ·split at hx
         ·exact r2 x (List.mem_of_getElem? hx)
         ·exact b8 k x (by simpa using hx))
     refine ⟨_,_,_,hK,.slice (some ⟨en.rb,en.base+off * en.sz,none⟩) (len+ys.length) c,_,_,exec hu hv ?_,.inl rfl,I',?_⟩
     ·rw [run_app_in ht ht' hi (hf E.w rfl) (by omega)]
      simp only [add_addr]
      have e1:en.base+off * en.sz+len * ie.size=en.base+(off+len) * en.sz:=by rw [← hsz,Nat.add_mul]; omega
      rw [e1,run_store_rows b5 hb r2]
      rfl
     ·have:=Rep.own (E:=⟨E.w.setRow en.rb (arr.toList.take (en.base+(off+len) * en.sz)++news++arr.toList.drop (en.base+(off+len) * en.sz+news.length)).toArray,giveAt E.σ st.n ⟨en.rb,en.base+off * en.sz,en.sz,en.tot - off⟩,E.S⟩)
       b st.n 0 (len+ys.length) none ⟨en.rb,en.base+off * en.sz,en.sz,en.tot - off⟩ c (some ⟨en.rb,en.base+off * en.sz,none⟩) (by simp [giveAt]) (fun _=>by simp) (by simp) (by omega) (by simp) (by simp; omega) (by simp; omega)
      rw [← hsz]
      exact this
 ·exact hK.elim
end Go.Proofs.Yticljphbbdnomaa.VL
