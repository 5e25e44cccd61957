import Derived.Test.YticljphbbdnomaaW1Vf
import Derived.Laws.Tables
import Derived.Great.BuildSlice
section
namespace Go.Proofs.Yticljphbbdnomaa.VL
open Go
set_option linter.unusedVariables false
set_option linter.unusedSimpArgs false
set_option linter.unusedSectionVars false
variable [Val]
variable {P:Program} {C:Ctx} {st:St} {a:Act} {E:Env} {K:PV→List Slot→Nat→Prop} {o:Oper}
theorem foldl_cells_size:∀ (l:List Value) (k off:Nat) (cs:Array Value),((l.zipIdx k).foldl (fun cs x=>cs.setIfInBounds (off+x.2) x.1) cs).size=cs.size
 | [],_,_,_=>rfl
 | x::l,k,off,cs=>by
  rw [List.zipIdx_cons,List.foldl_cons,foldl_cells_size l (k+1) off]
  simp
theorem foldl_cells_get:∀ (l:List Value) (k off:Nat) (cs:Array Value) (i:Nat),off+k+l.length≤cs.size →
  ((l.zipIdx k).foldl (fun cs x=>cs.setIfInBounds (off+x.2) x.1) cs)[i]?=if i < off+k then cs[i]? else if i < off+k+l.length then l[i - (off+k)]? else cs[i]?
 | [],k,off,cs,i,_=>by
  simp only [List.zipIdx_nil,List.foldl_nil,List.length_nil,Nat.add_zero]
  by_cases h:i < off+k<;>simp [h]
 | x::l,k,off,cs,i,h=>by
  rw [List.length_cons] at h
  rw [List.zipIdx_cons,List.foldl_cons,foldl_cells_get l (k+1) off _ i (by simp; omega)]
  simp only [Array.getElem?_setIfInBounds,List.length_cons]
  by_cases h1:i < off+k
  ·rw [if_pos (by omega),if_pos h1,if_neg (by omega)]
  ·by_cases h2:i=off+k
   ·subst h2
    have e1:off+k < cs.size:=by omega
    simp [e1,show off+k < off+(k+1) by omega,show off+k < off+k+(l.length+1) by omega]
   ·rw [if_neg (show ¬ i < off+(k+1) by omega),if_neg h1]
    by_cases h3:i < off+k+(l.length+1)
    ·rw [if_pos (by omega),if_pos h3,show i - (off+k)=(i - (off+(k+1)))+1 by omega]
     simp
    ·rw [if_neg (by omega),if_neg h3,if_neg (by omega)]
theorem fill_cons (place:Nat→Option (Nat×Nat)) (cells:Array Value) (i:Nat) (v:Value) (r:List (Nat×Value)) {off n:Nat} (hp:place i=some (off,n)) (hn:v.cells.size=n) (hle:off+n≤cells.size) :
  Instr.fill place cells ((i,v)::r)=Instr.fill place (v.cells.toList.zipIdx.foldl (fun cs x=>cs.setIfInBounds (off+x.2) x.1) cells) r:=by
 rw [Instr.fill]
 simp only [hp]
 rw [if_neg (by simp [hn]; omega)]
 congr 1
 rw [← Array.foldl_toList]
 simp
def RC (E:Env) (cs:List PV) (us:Array Value):Prop:=us.size=cs.length∧(∀ (i:Nat) (x:Value),us[i]?=some x→x.oneCell'=true)∧∀ (i:Nat) (c:PV) (x:Value),cs[i]?=some c→us[i]?=some x→Rep E c x
theorem RC.splice {cs ps:List PV} {us vs:Array Value} (h:RC E cs us) (k:RC E ps vs) {off:Nat} (hle:off+ps.length≤cs.length) :
  RC E (cs.take off++ps++cs.drop (off+ps.length)) (vs.toList.zipIdx.foldl (fun cs x=>cs.setIfInBounds (off+x.2) x.1) us):=by
 obtain ⟨h1,h2,h3⟩:=h
 obtain ⟨k1,k2,k3⟩:=k
 have get:=fun i=>foldl_cells_get vs.toList 0 off us i (by simp; omega)
 simp only [Nat.add_zero,Array.length_toList] at get
 refine ⟨?_,?_,?_⟩
 ·rw [foldl_cells_size,splice_size _ _ _ hle,h1]
 ·intro i x hx
  rw [get] at hx
  split at hx
  ·exact h2 i x hx
  ·split at hx
   ·exact k2 _ x (by simpa using hx)
   ·exact h2 i x hx
 ·intro i c x hc hx
  rw [get] at hx
  rw [splice_get _ _ _ _ hle] at hc
  rw [k1] at hx
  split at hx
  ·rename_i h0; rw [if_pos h0] at hc; exact h3 i c x hc hx
  ·rename_i h0
   rw [if_neg h0] at hc
   split at hx
   ·rename_i h4; rw [if_pos h4] at hc; exact k3 _ c x hc (by simpa using hx)
   ·rename_i h4; rw [if_neg h4] at hc; exact h3 i c x hc hx
theorem cVal_cells {z:Value} (h:(cVal z).stor=true):RC E (cVal z).cells z.cells:=rep_cells (cVal_rep E z) h
def cParts (place:Nat→Option (Nat×Nat)) (parts:List (Nat×Operand)):Option (List (Nat×Nat×Opd)) :=
 parts.mapM fun p=>(place p.1).bind fun q=>(cOpd p.2).map fun y=>(q.1,q.2,y)
theorem fill_of (I:InvE C st a E) {place:Nat→Option (Nat×Nat)}:∀ {parts:List (Nat×Operand)} {ps:List (Nat×Nat×Opd)} {cs cs':List PV} {us:Array Value},cParts place parts=some ps→RC E cs us→fillV st.ev cs ps=some cs' →
  ∃ us',Instr.fill place us (parts.map fun p=>(p.1,a.eval p.2))=some us'∧RC E cs' us'
 | [],ps,cs,cs',us,hp,hc,hf=>by
  simp [cParts] at hp; subst hp
  simp [fillV] at hf; subst hf
  exact ⟨us,rfl,hc⟩
 | p::parts,ps,cs,cs',us,hp,hc,hf=>by
  unfold cParts at hp
  rw [List.mapM_cons] at hp
  cases hq:place p.1 with
  | none=>simp [hq] at hp
  | some q =>
   cases hy:cOpd p.2 with
   | none=>simp [hq,hy] at hp
   | some y =>
    cases hr:parts.mapM (fun p=>(place p.1).bind fun q=>(cOpd p.2).map fun y=>(q.1,q.2,y)) with
    | none=>simp [hq,hy,hr] at hp
    | some rest =>
     simp [hq,hy,hr] at hp
     subst hp
     simp only [fillV] at hf
     split at hf
     case isFalse=>cases hf
     rename_i hcond
     obtain ⟨c1,c2,c3⟩:=hcond
     have hk:=rep_cells (ev_rep I hy) c3
     have hsp:=RC.splice hc hk (off:=q.1) (by omega)
     rw [← c1] at hf
     obtain ⟨us',h1,h2⟩:=fill_of I (parts:=parts) hr hsp hf
     refine ⟨us',?_,h2⟩
     rw [List.map_cons,fill_cons place us p.1 (a.eval p.2) _ (off:=q.1) (n:=q.2) hq (by rw [hk.1,c1]) (by rw [hc.1]; exact c2)]
     exact h1
def places (P:Program) (t:TypeId):Option (Nat→Option (Nat×Nat)) :=
 match P.underlying t with
 | some (.array _ e)=>(P.info? e).map fun ie i=>some (i * ie.size,ie.size)
 | some (.struct fields)=>(fields.toList.mapM (fun f=>(P.info? f.type).map fun i=>(f.offset,i.size))).map fun ps i=>ps.toArray[i]?
 | _=>none
theorem out_bld (I:InvE C st a E) {t:TypeId} {it:TypeInfo} {z:Value} {parts:Array (Nat×Operand)} {place:Nat→Option (Nat×Nat)} {ps:List (Nat×Nat×Opd)} (ho:o.op=.build t parts) (hi:P.info? t=some it) (hz:it.zero=some z)
  (hpl:places P t=some place) (hs:(cVal z).stor=true) (hps:cParts place parts.toList=some ps) (hK:opK st.ev st.h st.n K (.bld (cVal z).cells ps)):Out P o C st a E K:=by
 simp only [opK] at hK
 split at hK
 case h_2=>exact hK.elim
 rename_i cs hf
 obtain ⟨us,h1,h2,h3,h4⟩:=fill_of I hps (cVal_cells hs) hf
 refine Out.same I hK (u:=.agg us) ?_ (.agg _ _ h2 h3 h4)
 have hb:P.built t (parts.map fun p=>(p.1,a.eval p.2)).toList=some us:=by
  unfold places at hpl
  unfold Program.built
  split at hpl
  ·rename_i len e hu
   cases hie:P.info? e with
   | none=>rw [hie] at hpl; cases hpl
   | some ie =>
    rw [hie] at hpl; cases hpl
    simp only [hi,hu,hz,hie]
    simpa using h1
  ·rename_i fields hu
   cases hfs:fields.toList.mapM (fun f=>(P.info? f.type).map fun i=>(f.offset,i.size)) with
   | none=>rw [hfs] at hpl; cases hpl
   | some fs =>
    rw [hfs] at hpl; cases hpl
    simp only [hi,hu,hz,hfs]
    simpa using h1
  ·cases hpl
 simp only [execOp,ho,Sem.run_bind]
 rw [run_build E.w t _ us hb]
 rfl
theorem InvE.newSnap (I:InvE C st a E) (arr:Array Value) (t:TypeId):InvE C st a ⟨E.w.alloc (.cells arr t),E.σ,fun r=>E.S r∨r=E.w.heap.size⟩:=by
 have hle:E.le ⟨E.w.alloc (.cells arr t),E.σ,fun r=>E.S r∨r=E.w.heap.size⟩:=⟨fun _ h=>.inl h,fun r hr=>heap_alloc_old _ _ _ (I.good.stay r hr),fun _ _ h=>h⟩
 have hsz:(E.w.alloc (.cells arr t)).heap.size=E.w.heap.size+1:=by simp
 refine I.step (h':=st.h) (n':=st.n) hle rfl rfl rfl (by simp) (fun r hr=>hr.elim .inl fun h=>.inr (.inr (Nat.le_of_eq h.symm))) (fun r hr _=>heap_alloc_old _ _ _ hr) ⟨I.good.free,?_,?_,?_⟩ ?_
 ·intro b s k hb
  obtain ⟨en,h1,h2,h3⟩:=I.good.blk b s k hb
  refine ⟨en,⟨h1.slot,h1.σ⟩,h2.mono hle (fun h0=>heap_alloc_old _ _ _ (h1.lt I.good h0)),fun h0 hS=>?_⟩
  rcases hS with hS | hS
  ·exact h3 h0 hS
  ·have:=h1.lt I.good h0; omega
 ·intro b b' s s' k k' en en' A A' h0 h0' he
  exact I.good.inj b b' s s' k k' en en' ⟨A.slot,A.σ⟩ ⟨A'.slot,A'.σ⟩ h0 h0' he
 ·intro r hr
  show r < (E.w.alloc (.cells arr t)).heap.size
  rw [hsz]
  rcases hr with hr | hr
  ·have:=I.good.stay r hr; omega
  ·omega
 ·intro b s k en A h0
  exact .inl ⟨b,s,k,en,⟨A.slot,A.σ⟩,h0,rfl⟩
theorem cell_alloc_new (w:World) (arr:Array Value) (t:TypeId) (k:Nat):(w.alloc (.cells arr t)).cell? ⟨w.heap.size,k,none⟩=arr[k]?:=by
 show (match (w.alloc (.cells arr t)).heap[w.heap.size]? with | some (.cells c _ _)=>if (none:Option Nat).isSome then none else c[k]? | _=>none)=_
 rw [heap_alloc_new]; rfl
theorem rep_snap {E':Env} {rb:Nat} {arr:Array Value} {es:List PV} {sz cap:Nat} {c:Bool} (hS:E'.S rb) (hcell:∀ k,E'.w.cell? ⟨rb,k,none⟩=arr[k]?) (hsz0:0 < sz) (hsz:∀ (i:Nat) (e:PV),es[i]?=some e→e.cells.length=sz)
  (hc:c=true→cap=es.length) (hcap:es.length≤cap) (ho:∀ (i:Nat) (u:Value),arr[i]?=some u→u.oneCell'=true)
  (h:∀ (i:Nat) (e:PV) (j:Nat) (c:PV),es[i]?=some e→e.cells[j]?=some c→∃ u,arr[i * sz+j]?=some u∧Rep E' c u):Rep E' (.sl c es) (.slice (some ⟨rb,0,none⟩) es.length cap):=by
 by_cases hne:es=[]
 ·subst hne
  exact .emp c _ cap hc (by simp)
 ·refine .sl c es rb 0 cap sz (fun i j=>if i * sz+j < arr.size then arr.getD (i * sz+j) undef else .int .i64 0) hne hS hc hcap hsz0 hsz ?_ ?_ ?_
  ·intro i e j x he hj
   obtain ⟨u,hu,_⟩:=h i e j x he hj
   have hlt:=(Array.getElem?_eq_some_iff.1 hu).1
   rw [hcell,Nat.zero_add,hu]
   simp [hlt,(Array.getElem?_eq_some_iff.1 hu).2.symm]
  ·intro i j
   split
   ·rename_i hlt
    exact ho (i * sz+j) _ (by simp [hlt])
   ·rfl
  ·intro i e j x he hj
   obtain ⟨u,hu,hr⟩:=h i e j x he hj
   have hlt:=(Array.getElem?_eq_some_iff.1 hu).1
   rw [← (Array.getElem?_eq_some_iff.1 hu).2] at hr
   simpa [hlt] using hr
def RW (E:Env) (F:Nat→PV) (len sz:Nat) (us:Array Value):Prop:=us.size=len * sz∧(∀ (i:Nat) (x:Value),us[i]?=some x→x.oneCell'=true) ∧
 ∀ i,i < len→(F i).cells.length=sz∧∀ (j:Nat) (c:PV) (x:Value),(F i).cells[j]?=some c→us[i * sz+j]?=some x→Rep E c x
theorem fill_rows (I:InvE C st a E) {len sz:Nat}:∀ {parts:List (Nat×Operand)} {ps:List (Nat×Opd)} {F:Nat→PV} {us:Array Value},parts.mapM (fun p=>(cOpd p.2).map fun y=>(p.1,y))=some ps→RW E F len sz us →
  (∀ p ∈ ps,(st.ev p.2).cells.length=sz∧(st.ev p.2).stor=true∧p.1 < len) →
  ∃ us',Instr.fill (fun i=>some (i * sz,sz)) us (parts.map fun p=>(p.1,a.eval p.2))=some us'∧RW E (fun i=>partsV st.ev (F i) i ps) len sz us'
 | [],ps,F,us,hp,hc,hf=>by
  simp at hp; subst hp
  exact ⟨us,rfl,hc⟩
 | p::parts,ps,F,us,hp,hc,hf=>by
  rw [List.mapM_cons] at hp
  cases hy:cOpd p.2 with
  | none=>simp [hy] at hp
  | some y =>
   cases hr:parts.mapM (fun p=>(cOpd p.2).map fun y=>(p.1,y)) with
   | none=>simp [hy,hr] at hp
   | some rest =>
    simp [hy,hr] at hp
    subst hp
    obtain ⟨c1,c2,c3⟩:=hf (p.1,y) (by simp)
    replace c1:(st.ev y).cells.length=sz:=c1
    replace c3:p.1 < len:=c3
    have hk:=rep_cells (ev_rep I hy) c2
    obtain ⟨h1,h2,h3⟩:=hc
    have hlen:(a.eval p.2).cells.toList.length=sz:=by simp; omega
    have hfit:=row_fits (j:=sz) (sz:=sz) c3 (Nat.le_refl _)
    have get:=fun i=>foldl_cells_get (a.eval p.2).cells.toList 0 (p.1 * sz) us i (by omega)
    simp only [Nat.add_zero,hlen] at get
    have hnew:RW E (fun i=>if p.1=i then st.ev y else F i) len sz ((a.eval p.2).cells.toList.zipIdx.foldl (fun cs x=>cs.setIfInBounds (p.1 * sz+x.2) x.1) us):=by
     refine ⟨by rw [foldl_cells_size,h1],?_,?_⟩
     ·intro i x hx
      rw [get] at hx
      split at hx
      ·exact h2 i x hx
      ·split at hx
       ·exact hk.2.1 _ x (by simpa using hx)
       ·exact h2 i x hx
     ·intro i hi
      by_cases hpi:p.1=i
      ·subst hpi
       simp only [if_true]
       refine ⟨c1,fun j c x hc hx=>?_⟩
       have hj:=(List.getElem?_eq_some_iff.1 hc).1
       rw [get,if_neg (by omega),if_pos (by omega),show p.1 * sz+j - p.1 * sz=j by omega] at hx
       exact hk.2.2 j c x hc (by simpa using hx)
      ·simp only [hpi,if_false]
       refine ⟨(h3 i hi).1,fun j c x hc hx=>?_⟩
       have hj:j < sz:=by have:=(List.getElem?_eq_some_iff.1 hc).1; have:=(h3 i hi).1; omega
       refine (h3 i hi).2 j c x hc ?_
       rw [← hx,get]
       rcases row_apart hj (Ne.symm hpi) with h | h
       ·rw [if_pos h]
       ·rw [if_neg (by omega),if_neg (by omega)]
    obtain ⟨us',g1,g2⟩:=fill_rows I (parts:=parts) hr hnew (fun q hq=>hf q (by simp [hq]))
    refine ⟨us',?_,g2⟩
    rw [List.map_cons,fill_cons _ us p.1 (a.eval p.2) _ (off:=p.1 * sz) (n:=sz) rfl (by rw [hk.1,c1]) (by rw [h1]; exact hfit)]
    exact g1
theorem zeros_rows {z:Value} (hs:(cVal z).stor=true) (len:Nat) {sz:Nat} (hsz:(cVal z).cells.length=sz) (h0:0 < sz):RW E (fun _=>cVal z) len sz ((Array.range (len * sz)).map (z.cells[· % z.cells.size]!)):=by
 obtain ⟨c1,c2,c3⟩:=cVal_cells (E:=E) hs
 have hzs:z.cells.size=sz:=by omega
 refine ⟨by simp,?_,fun i hi=>⟨hsz,fun j c x hc hx=>?_⟩⟩
 rotate_left
 replace hc:(cVal z).cells[j]?=some c:=hc
 rotate_left
 ·intro i x hx
  have hlt:i < len * sz:=by have:=(Array.getElem?_eq_some_iff.1 hx).1; simpa using this
  simp [hlt] at hx
  have hm:i % z.cells.size < z.cells.size:=Nat.mod_lt _ (by omega)
  rw [getElem!_pos z.cells _ hm] at hx
  exact c2 (i % z.cells.size) x (by simp [hm,hx])
 ·have hj:j < sz:=by have:=(List.getElem?_eq_some_iff.1 hc).1; omega
  have hlt:i * sz+j < len * sz:=by have:=row_fits (j:=j+1) (sz:=sz) hi (by omega); omega
  simp [hlt] at hx
  have hm:(i * sz+j) % z.cells.size=j:=by rw [hzs,Nat.mul_comm,Nat.mul_add_mod,Nat.mod_eq_of_lt hj]
  rw [hm,getElem!_pos z.cells j (by omega)] at hx
  exact c3 j c x hc (by simp [show j < z.cells.size by omega,hx])
theorem out_bsl (I:InvE C st a E) {t e:TypeId} {len:Nat} {ie:TypeInfo} {z:Value} {parts:Array (Nat×Operand)} {ps:List (Nat×Opd)} (ho:o.op=.buildSlice t len parts) (ht:P.underlying t=some (.slice e)) (hi:P.info? e=some ie) (hz:ie.zero=some z)
  (hps:parts.toList.mapM (fun p=>(cOpd p.2).map fun y=>(p.1,y))=some ps) (hK:opK st.ev st.h st.n K (.bsl ie.size (cVal z) len ps)):Out P o C st a E K:=by
 simp only [opK] at hK
 obtain ⟨k1,k2,k3,k4,k5,k6⟩:=hK
 obtain ⟨us,h1,h2⟩:=fill_rows I hps (zeros_rows (E:=E) k4 len k3 k1) k5
 have hzs:z.cells.size=ie.size:=by have:=(cVal_cells (E:=E) k4).1; omega
 have h1':Instr.fill (fun i=>some (i * ie.size,ie.size)) ((Array.range (len * ie.size)).map (z.cells[· % z.cells.size]!)) (parts.map fun p=>(p.1,a.eval p.2)).toList=some us:=by simpa using h1
 by_cases hl0:len=0
 ·subst hl0
  have hpn:parts.toList=[]:=by
   cases hpl:parts.toList with
   | nil=>rfl
   | cons q r =>
    rw [hpl,List.mapM_cons] at hps
    cases hy:cOpd q.2 with
    | none=>simp [hy] at hps
    | some y =>
     cases hr:r.mapM (fun p=>(cOpd p.2).map fun y=>(p.1,y)) with
     | none=>simp [hy,hr] at hps
     | some rest =>
      simp [hy,hr] at hps
      subst hps
      have:=(k5 (q.1,y) (by simp)).2.2
      omega
  have hpa:parts=#[]:=by cases parts; simp_all
  subst hpa
  refine ⟨_,_,_,k6,.slice (some ⟨E.w.heap.size,0,none⟩) 0 0,_,_,?_,.inl rfl,I.newSnap #[] e,.emp true _ 0 (fun _=>rfl) (by simp)⟩
  simp [execOp,ho,Instr.buildSlice,run_underlying ht,run_sizeOf hi,Instr.fill,newRow]
  congr 2
  apply Array.ext
  ·simp
  ·intro i h1 h2; simp at h2
 ·refine ⟨_,_,_,k6,.slice (some ⟨E.w.heap.size,0,none⟩) len len,_,_,?_,.inl rfl,I.newSnap us e,?_⟩
  ·simp only [execOp,ho,Sem.run_bind]
   rw [run_buildSlice E.w t e len _ us ie z ht hi hz (by omega) (Nat.ne_of_gt (Nat.mul_pos (by omega) k1)) h1']
   rfl
  ·obtain ⟨g1,g2,g3⟩:=h2
   have hlen:((List.range len).map fun i=>partsV st.ev (cVal z) i ps).length=len:=by simp
   have hle:E.le ⟨E.w.alloc (.cells us e),E.σ,fun r=>E.S r∨r=E.w.heap.size⟩:=⟨fun _ h=>.inl h,fun r hr=>heap_alloc_old _ _ _ (I.good.stay r hr),fun _ _ h=>h⟩
   have:=rep_snap (E':=⟨E.w.alloc (.cells us e),E.σ,fun r=>E.S r∨r=E.w.heap.size⟩) (rb:=E.w.heap.size) (arr:=us) (es:=(List.range len).map fun i=>partsV st.ev (cVal z) i ps) (sz:=ie.size) (cap:=len) (c:=true)
    (.inr rfl) (fun k=>cell_alloc_new _ _ _ _) k1 ?_ (fun _=>hlen.symm) (Nat.le_of_eq hlen) g2 ?_
   ·rw [hlen] at this; exact this
   ·intro i e he
    have hlt:i < len:=by have:=(List.getElem?_eq_some_iff.1 he).1; simpa using this
    simp [hlt] at he
    subst he; exact (g3 i hlt).1
   ·intro i e j c he hc
    have hlt:i < len:=by have:=(List.getElem?_eq_some_iff.1 he).1; simpa using this
    simp [hlt] at he
    subst he
    have q:(partsV st.ev (cVal z) i ps).cells.length=ie.size:=(g3 i hlt).1
    have hj:j < ie.size:=by have:=(List.getElem?_eq_some_iff.1 hc).1; omega
    have hlt2:i * ie.size+j < us.size:=by have:=row_fits (j:=j+1) (sz:=ie.size) hlt (by omega); omega
    exact ⟨us[i * ie.size+j],by simp [hlt2],((g3 i hlt).2 j c _ hc (by simp [hlt2])).mono hle⟩
end Go.Proofs.Yticljphbbdnomaa.VL
end
section
namespace Go.Proofs.Yticljphbbdnomaa.VL
open Go
set_option linter.unusedVariables false
set_option linter.unusedSimpArgs false
set_option linter.unusedSectionVars false
variable [Val]
variable {P:Program} {C:Ctx} {st:St} {a:Act} {E:Env} {K:PV→List Slot→Nat→Prop} {o:Oper}
theorem wrap_small {i:Int} (h0:0≤i) (h:i≤70368744177664):IntKind.i64.wrap i=i:=by
 simp only [IntKind.wrap,IntKind.bits,IntKind.signed]
 have:i % (2 ^ 64:Int)=i:=Int.emod_eq_of_lt h0 (by omega)
 simp only [this,Bool.true_and]
 rw [if_neg]
 simp only [decide_eq_true_eq]
 omega
theorem run_mksl {t e:TypeId} {ie:TypeInfo} {z:Value} {k k':IntKind} {l c:Int} (ht:P.underlying t=some (.slice e)) (hi:P.info? e=some ie) (hz:ie.zero=some z) (h1:0≤l) (h2:l≤c) (h3:c * ie.bytes≤70368744177664) (h4:c≤70368744177664) (h0:0 < ie.size) (w:World) :
  ∃ arr,(Instr.makeSlice t (.int k l) (.int k' c)).run P w=.ok (.slice (some ⟨w.heap.size,0,none⟩) l.toNat c.toNat) (w.alloc (.cells arr e))∧arr=(Array.range (c.toNat * ie.size)).map (z.cells[· % z.cells.size]!):=by
 have hl:=wrap_small h1 (by omega)
 have hc:=wrap_small (i:=c) (by omega) h4
 have hb:¬ ((ie.bytes:Int) * c > 2 ^ 48):=by rw [Int.mul_comm]; omega
 have hb':¬ ((281474976710656:Int) < (ie.bytes:Int) * c):=by rw [Int.mul_comm]; omega
 by_cases hc0:c=0
 ·subst hc0
  obtain rfl:l=0:=by omega
  refine ⟨#[],?_,by simp⟩
  simp [Instr.makeSlice,run_underlying ht,asInt,asIntOf,typeInfo,hi,hl,newRow,sizeOf]
  congr 2
  apply Array.ext
  ·simp
  ·intro i h1 h2; simp at h2
 ·refine ⟨_,?_,rfl⟩
  have hn0:¬ (c.toNat * ie.size=0):=Nat.ne_of_gt (Nat.mul_pos (by omega) h0)
  have hct:¬ (c.toNat=0):=by omega
  have hs0:¬ (ie.size=0):=by omega
  simp [Instr.makeSlice,run_underlying ht,asInt,asIntOf,typeInfo,hi,hl,hc,newRow,sizeOf,zeroValue,hz,hb',show ¬ c < 0 by omega,show ¬ l < 0 by omega,show ¬ c < l by omega,hn0,hct,hs0]
theorem rows_blk {F:Nat→PV} {len sz:Nat} {us:Array Value} (h:RW E F len sz us) {es:List PV} (hes:es.length≤len) (hF:∀ (i:Nat) (e:PV),es[i]?=some e→e=F i) :
  (∀ (i:Nat) (e:PV),es[i]?=some e→e.cells.length=sz)∧∀ (i:Nat) (e:PV) (j:Nat) (c:PV),es[i]?=some e→e.cells[j]?=some c→∃ u,us[i * sz+j]?=some u∧Rep E c u:=by
 obtain ⟨h1,h2,h3⟩:=h
 refine ⟨fun i e he=>?_,fun i e j c he hc=>?_⟩
 ·have hlt:i < es.length:=(List.getElem?_eq_some_iff.1 he).1
  rw [hF i e he]; exact (h3 i (by omega)).1
 ·have hlt:i < es.length:=(List.getElem?_eq_some_iff.1 he).1
  rw [hF i e he] at hc
  have q:=(h3 i (by omega)).1
  have hj:j < sz:=by have:=(List.getElem?_eq_some_iff.1 hc).1; omega
  have hlt2:i * sz+j < us.size:=by have:=row_fits (i:=i) (n:=len) (j:=j+1) (sz:=sz) (by omega) (by omega); omega
  exact ⟨us[i * sz+j],by simp [hlt2],(h3 i (by omega)).2 j c _ hc (by simp [hlt2])⟩
theorem out_mksl (I:InvE C st a E) {t e:TypeId} {ie:TypeInfo} {z:Value} {s:Nat} {l c:Operand} {l' c':Opd} (ho:o.op=.makeSlice t l c) (ht:P.underlying t=some (.slice e)) (hi:P.info? e=some ie) (hz:ie.zero=some z) (hl:cOpd l=some l') (hc:cOpd c=some c')
  (hK:opK st.ev st.h st.n K (.mksl s ie.size ie.bytes (cVal z) l' c')):Out P o C st a E K:=by
 have hrl:=ev_rep I hl
 have hrc:=ev_rep I hc
 simp only [opK] at hK
 split at hK
 case h_2=>exact hK.elim
 rename_i k1 l k2 c h1 h2
 rw [h1] at hrl; rw [h2] at hrc
 have hrl:=rep_v hrl
 have hrc:=rep_v hrc
 obtain ⟨g1,g2,g3,g4,g5,g6,g7,g8,g9⟩:=hK
 obtain ⟨arr,hrun,harr⟩:=run_mksl (k:=k1) (k':=k2) ht hi hz g5 g6 g7 g8 g2 E.w
 have hrw:=zeros_rows (E:=E) g4 c.toNat g3 g2
 rw [← harr] at hrw
 obtain ⟨r1,r2⟩:=rows_blk hrw (es:=List.replicate c.toNat (cVal z)) (by simp) (fun i e he=>by
  have:=List.mem_of_getElem? he
  exact (List.mem_replicate.1 this).2)
 have I':=I.newBlk g1 (arr:=arr) (t:=e) (es:=List.replicate c.toNat (cVal z)) (sz:=ie.size) (tot:=c.toNat) g2 hrw.1 (by simp) r1 r2 hrw.2.1
 refine ⟨_,_,_,g9,.slice (some ⟨E.w.heap.size,0,none⟩) l.toNat c.toNat,_,_,?_,.inl rfl,I',?_⟩
 ·simp only [execOp,ho,hrl,hrc,Sem.run_bind,hrun,Result.andThen_ok,Sem.run_pure]
 ·exact .own s st.n 0 l.toNat (some c.toNat) ⟨E.w.heap.size,0,ie.size,c.toNat⟩ c.toNat _ (by simp [giveAt]) (fun _=>by simp) (by simp) (by omega) (fun k hk=>by cases hk; rfl) (by simp) (by simp)
def BndV (d i:Int) (x:Option Value):Prop:=(x=none∧i=d)∨∃ k,x=some (.int k i)
theorem bnd_rep (I:InvE C st a E) {d i:Int} {x:Option Operand} {y:Option Opd} (hx:cOpt x=some y) (h:bnd st.ev d y=some i):BndV d i (x.map a.eval):=by
 cases x with
 | none=>cases hx; simp [bnd] at h; exact .inl ⟨rfl,h.symm⟩
 | some x =>
  simp only [cOpt,Option.map_eq_some_iff] at hx
  obtain ⟨y',hy,rfl⟩:=hx
  have hr:=ev_rep I hy
  simp only [bnd] at h
  split at h
  ·rename_i k m hev
   rw [hev] at hr
   cases h
   exact .inr ⟨k,by simp [rep_v hr]⟩
  ·cases h
theorem run_sliceAt {t e:TypeId} {ie:TypeInfo} (ht:P.underlying t=some (.slice e)) (hi:P.info? e=some ie) {ad:Option Addr} {len cap:Nat} {lo hi' mx:Option Value} {l u m:Int} (hlo:BndV 0 l lo) (hhi:BndV len u hi') (hmx:BndV cap m mx) (hh:mx.isSome=true→hi'.isSome=true)
    (h0:0≤l) (h1:l≤u) (h2:u≤m) (h3:m≤cap) (w:World):(Instr.sliceAt t (.slice ad len cap) lo hi' mx).run P w=.ok (.slice (if m.toNat=l.toNat then ad else ad.map (·.add (l.toNat * ie.size))) (u.toNat - l.toNat) (m.toNat - l.toNat)) w:=by
  have sb:∀ (k:IntKind) (i:Int) (y:Nat) (code:BoundsCode),0≤i→i≤y→(Instr.sliceBound (.int k i) y code).run P w=.ok i.toNat w:=fun k i y code a b=>run_sliceBound w k i y code a b
  have hm:m.toNat≤cap:=by omega
  rcases hlo with ⟨rfl,rfl⟩ | ⟨k1,rfl⟩<;>rcases hhi with ⟨rfl,rfl⟩ | ⟨k2,rfl⟩<;>rcases hmx with ⟨rfl,rfl⟩ | ⟨k3,rfl⟩<;>first
    | (simp at hh; done)
    | (simp [Instr.sliceAt,Instr.slice,run_underlying ht,Instr.sliceBounds,run_sizeOf hi]; done)
    | (simp only [Instr.sliceAt,Instr.slice,Sem.run_bind,run_underlying ht,Instr.sliceBounds,Result.andThen_ok,Sem.run_pure,run_sizeOf hi,sb _ _ _ _ h0 (show l≤(len:Int) by omega)]
       simp; done)
    | (have q1:=sb k2 u cap .sliceAcap (by omega) (by omega)
       simp [Instr.sliceAt,Instr.slice,run_underlying ht,Instr.sliceBounds,run_sizeOf hi,q1]; done)
    | (have q1:=sb k3 m cap .slice3Acap (by omega) (by omega)
       have q2:=sb k2 u m.toNat .slice3B (by omega) (by omega)
       simp [Instr.sliceAt,Instr.slice,run_underlying ht,Instr.sliceBounds,run_sizeOf hi,q1,q2]; done)
    | (have q1:=sb k2 u cap .sliceAcap (by omega) (by omega)
       have q3:=sb k1 l u.toNat .sliceB (by omega) (by omega)
       simp [Instr.sliceAt,Instr.slice,run_underlying ht,Instr.sliceBounds,run_sizeOf hi,q1,q3]; done)
    | (have q1:=sb k3 m cap .slice3Acap (by omega) (by omega)
       have q2:=sb k2 u m.toNat .slice3B (by omega) (by omega)
       have q3:=sb k1 l u.toNat .slice3C (by omega) (by omega)
       simp [Instr.sliceAt,Instr.slice,run_underlying ht,Instr.sliceBounds,run_sizeOf hi,q1,q2,q3]; done)
theorem take_drop_get {α:Type} {l:List α} {p q i:Nat} {x:α} (h:((l.drop p).take q)[i]?=some x):i < q∧l[p+i]?=some x:=by
 rw [List.getElem?_take] at h
 split at h
 ·rw [List.getElem?_drop] at h; exact ⟨by assumption,h⟩
 ·cases h
theorem rep_sub {c c':Bool} {es:List PV} {u:Value} (h:Rep E (.sl c es) u) {sz p q k m:Nat} {ad:Option Addr} (hsz:∀ e ∈ es,e.cells.length=sz) (hu:∃ cap,u=.slice ad es.length cap∧m≤cap) (hpq:p+q≤es.length) (hqm:p+q≤m) (hc:c'=true→m=p+q) :
  Rep E (.sl c' ((es.drop p).take q)) (.slice (if m=p then ad else ad.map (·.add (p * sz))) q (m - p)):=by
 have hlen:((es.drop p).take q).length=q:=by simp; omega
 obtain ⟨cap,hu,hm⟩:=hu
 by_cases hq:q=0
 ·subst hq
  simp only [List.take_zero]
  refine .emp c' _ _ (fun h=>by have:=hc h; omega) ?_
  intro hn
  split at hn
  ·omega
  ·have had:ad=none:=by cases ad<;>simp at hn ⊢
   subst had
   generalize u=u' at h hu
   subst hu
   have hcap:cap=0:=by
    generalize hs:Value.slice none es.length cap=v at h
    cases h with
    | emp _ a' cap' _ hn'=>cases hs; exact hn' rfl
    | sl _ _ rb off cap' _ U hne=>cases hs
   omega
 ·rw [if_neg (by omega)]
  subst hu
  generalize hs:Value.slice ad es.length cap=v at h
  cases h with
  | emp _ a' cap' _ hn'=>simp at hpq; omega
  | sl _ _ rb off cap' sz' U hne hS hcl hcap hsz0 hsz' hmm ho hr =>
   cases hs
   have hss:sz'=sz:=by
    cases es with
    | nil=>exact absurd rfl hne
    | cons e r=>rw [← hsz' 0 e rfl]; exact hsz e (by simp)
   subst hss
   have hadd:(some (⟨rb,off,none⟩:Addr)).map (·.add (p * sz'))=some ⟨rb,off+p * sz',none⟩:=by simp [add_addr]
   rw [hadd]
   have:=Rep.sl (E:=E) c' ((es.drop p).take q) rb (off+p * sz') (m - p) sz' (fun i j=>U (p+i) j) (by intro he; rw [he] at hlen; simp at hlen; omega) hS (fun h=>by have:=hc h; omega) (by omega) hsz0
    (fun i e he=>hsz' _ e (take_drop_get he).2)
    (fun i e j x he hj=>by
     have:=hmm (p+i) e j x (take_drop_get he).2 hj
     rw [← this]; congr 2; rw [Nat.add_mul]; omega)
    (fun i j=>ho _ _) (fun i e j x he hj=>hr _ e j x (take_drop_get he).2 hj)
   rw [hlen] at this
   exact this
theorem out_slc (I:InvE C st a E) {t e:TypeId} {ie:TypeInfo} {x:Operand} {x':Opd} {lo hi mx:Option Operand} {lo' hi' mx':Option Opd} (ho:o.op=.slice t x lo hi mx) (ht:P.underlying t=some (.slice e)) (hie:P.info? e=some ie) (hx:cOpd x=some x')
  (hlo:cOpt lo=some lo') (hhi:cOpt hi=some hi') (hmx:cOpt mx=some mx') (hh:mx.isSome=true→hi.isSome=true) (hK:opK st.ev st.h st.n K (.slc ie.size x' lo' hi' mx')):Out P o C st a E K:=by
 have hr:=ev_rep I hx
 have hh':(mx.map a.eval).isSome=true→(hi.map a.eval).isSome=true:=by simpa using hh
 have isome:mx'.isSome=mx.isSome:=by
  cases mx with
  | none=>cases hmx; rfl
  | some m=>simp only [cOpt,Option.map_eq_some_iff] at hmx; obtain ⟨y,_,rfl⟩:=hmx; rfl
 simp only [opK] at hK
 split at hK
 ·rename_i c es hev
  rw [hev] at hr
  obtain ⟨ad,cap,hu,h1,h2,h3⟩:=rep_sl hr
  split at hK
  case h_2=>exact hK.elim
  rename_i l u m hl hu' hm
  obtain ⟨g1,g2,g3,g4,g5,g6⟩:=hK
  have bl:=bnd_rep I hlo hl
  have bu:=bnd_rep I hhi hu'
  have bm:∃ M:Int,BndV cap M (mx.map a.eval)∧u≤M∧M≤cap∧(mx'.isSome=true→M=m)∧(mx'.isSome=false→M=cap):=by
   rcases bnd_rep I hmx hm with ⟨hn,rfl⟩ | ⟨k,hk⟩
   ·refine ⟨cap,.inl ⟨hn,rfl⟩,by omega,Int.le_refl _,?_,fun _=>rfl⟩
    intro h; rw [isome] at h; simp at hn; rw [hn] at h; cases h
   ·refine ⟨m,.inr ⟨k,hk⟩,g4,by omega,fun _=>rfl,?_⟩
    intro h; rw [isome] at h
    cases mx<;>simp at h hk
  obtain ⟨M,b1,b2,b3,b4,b5⟩:=bm
  refine Out.same I g6 ?_ (rep_sub (sz:=ie.size) (p:=l.toNat) (q:=u.toNat - l.toNat) (m:=M.toNat) (k:=0) (ad:=ad) hr g1 ⟨cap,hu,by omega⟩ (by omega) (by omega) ?_)
  ·simp only [execOp,ho,hu,Sem.run_bind]
   rw [run_sliceAt ht hie bl bu b1 hh' g2 g3 b2 b3]
   rfl
  ·intro hc'
   simp only [Bool.or_eq_true,Bool.and_eq_true,decide_eq_true_eq] at hc'
   rcases hc' with ⟨q1,q2⟩ | ⟨q1,q2⟩
   ·have:=b4 q1; omega
   ·have:=h3 q1
    cases hms:mx'.isSome with
    | true=>have:=b4 hms; omega
    | false=>have:=b5 hms; omega
 ·rename_i b s sz' off len cap hev
  rw [hev] at hr
  obtain ⟨en,c,ad,hu,hσ,hsz,had,hn,hlen,hc,htot,hcap⟩:=rep_own hr
  obtain ⟨rfl,hK⟩:=hK
  have hle:(cap.getD len:Nat)≤c:=by
   cases cap with
   | none=>simpa using hlen
   | some k=>have:=hc k rfl; simp; omega
  have hcp:(capOf st.h b s off len cap:Nat)≤(c:Int):=by
   cases hcap0:cap with
   | some k=>have:=hc k hcap0; simp [capOf]; omega
   | none =>
    have h1:=hcap hcap0
    have h2:rowsIn st.h b s - off≤c:=by
     unfold rowsIn
     split
     ·rename_i s' es hs
      split
      ·rename_i he
       subst he
       have A:At E st.h b s' (.cells es) en:=⟨hs,hσ⟩
       have:=(A.brep I.good).1.1
       omega
      ·omega
     ·omega
    simp only [capOf]
    have:max len (rowsIn st.h b s - off)≤c:=Nat.max_le.2 ⟨hlen,h2⟩
    omega
  have mk:∀ {l u M:Int} {cap':Option Nat},0≤l→l≤u→u≤M→M≤c→(∀ k,cap'=some k→M.toNat - l.toNat=k)→(cap'=none→cap=none∧M=c) →
    Rep E (.own b s ie.size (off+l.toNat) (u.toNat - l.toNat) cap') (.slice (if M.toNat=l.toNat then ad else ad.map (·.add (l.toNat * ie.size))) (u.toNat - l.toNat) (M.toNat - l.toNat)):=by
   intro l u M cap' q1 q2 q3 q4 q5 q6
   rw [← hsz]
   refine .own b s (off+l.toNat) (u.toNat - l.toNat) cap' en (M.toNat - l.toNat) _ hσ ?_ ?_ (by omega) q5 (by omega) ?_
   ·intro h0
    rw [if_neg (by omega),had (by omega)]
    simp [add_addr,Nat.add_mul,Nat.add_assoc]
   ·intro hn'
    split at hn'
    ·omega
    ·have:ad=none:=by cases ad<;>simp at hn' ⊢
     have:=hn this
     omega
   ·intro hcn
    obtain ⟨r1,r2⟩:=q6 hcn
    have:=hcap r1
    omega
  split at hK
  ·rename_i l u hl hu'
   obtain ⟨g1,g2,g3,g4⟩:=hK
   have bl:=bnd_rep I hlo hl
   have bu:=bnd_rep I hhi hu'
   have hmxn:mx=none:=by cases mx with | none=>rfl | some m=>simp [cOpt] at hmx
   have bm:BndV c c (mx.map a.eval):=.inl ⟨by simp [hmxn],rfl⟩
   refine Out.same I g4 ?_ (mk (M:=c) g1 g2 (by omega) (Int.le_refl _) ?_ ?_)
   ·simp only [execOp,ho,hu,Sem.run_bind]
    rw [run_sliceAt ht hie bl bu bm hh' g1 g2 (by omega) (Int.le_refl _)]
    rfl
   ·intro k hk
    cases cap with
    | none=>cases hk
    | some k'=>have:=hc k' rfl; simp at hk; omega
   ·intro hk
    cases cap with
    | none=>exact ⟨rfl,rfl⟩
    | some k'=>cases hk
  ·rename_i l u my hl hu'
   split at hK
   case h_2=>exact hK.elim
   rename_i k m hev2
   obtain ⟨g1,g2,g3,g4,g5⟩:=hK
   have bl:=bnd_rep I hlo hl
   have bu:=bnd_rep I hhi hu'
   have bm:BndV c m (mx.map a.eval):=bnd_rep I hmx (by simp [bnd,hev2])
   refine Out.same I g5 ?_ (mk (M:=m) g1 g2 g3 (by omega) (fun k hk=>by cases hk; rfl) (by simp))
   simp only [execOp,ho,hu,Sem.run_bind]
   rw [run_sliceAt ht hie bl bu bm hh' g1 g2 g3 (by omega)]
   rfl
  ·exact hK.elim
 ·exact hK.elim
theorem out_slS (I:InvE C st a E) {t:TypeId} {x:Operand} {x':Opd} {lo hi:Option Operand} {lo' hi':Option Opd} (ho:o.op=.slice t x lo hi none) (ht:P.underlying t=some .string) (hx:cOpd x=some x')
  (hlo:cOpt lo=some lo') (hhi:cOpt hi=some hi') (hK:opK st.ev st.h st.n K (.slS x' lo' hi')):Out P o C st a E K:=by
 have hr:=ev_rep I hx
 simp only [opK] at hK
 split at hK
 case h_2=>exact hK.elim
 rename_i s hev
 rw [hev] at hr
 have hu:=rep_v hr
 split at hK
 case h_2=>exact hK.elim
 rename_i l u hl hu'
 obtain ⟨g1,g2,g3,g4⟩:=hK
 refine Out.same I g4 ?_ (.v _)
 have sb:∀ (k:IntKind) (i:Int) (y:Nat) (code:BoundsCode),0≤i→i≤y→(Instr.sliceBound (.int k i) y code).run P E.w=.ok i.toNat E.w:=fun k i y code a b=>run_sliceBound E.w k i y code a b
 have hul:(u.toNat:Int)=u:=by omega
 simp only [execOp,ho,hu,Sem.run_bind]
 rcases bnd_rep I hlo hl with ⟨h1,rfl⟩ | ⟨k1,h1⟩<;>rcases bnd_rep I hhi hu' with ⟨h2,rfl⟩ | ⟨k2,h2⟩<;>rw [h1,h2]
 ·simp [Instr.sliceAt,Instr.slice,run_underlying ht,Instr.sliceBounds]
 ·have q1:=sb k2 u s.size .sliceAlen (by omega) (by omega)
  simp [Instr.sliceAt,Instr.slice,run_underlying ht,Instr.sliceBounds,q1]
 ·have q1:=sb k1 l s.size .sliceB (by omega) (by omega)
  simp [Instr.sliceAt,Instr.slice,run_underlying ht,Instr.sliceBounds,q1]
 ·have q1:=sb k2 u s.size .sliceAlen (by omega) (by omega)
  have q2:=sb k1 l u.toNat .sliceB (by omega) (by omega)
  simp [Instr.sliceAt,Instr.slice,run_underlying ht,Instr.sliceBounds,q1,q2]
end Go.Proofs.Yticljphbbdnomaa.VL
end
