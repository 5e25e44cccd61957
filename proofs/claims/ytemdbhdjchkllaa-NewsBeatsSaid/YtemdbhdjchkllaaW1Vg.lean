import Derived.Test.YtemdbhdjchkllaaW1Vf
import Derived.Laws.Tables
import Derived.Great.BuildSlice
namespace Go.Proofs.Ytemdbhdjchkllaa.VL
open Go
set_option linter.unusedVariables false
set_option linter.unusedSimpArgs false
set_option linter.unusedSectionVars false
variable [Val]
variable {P:Program} {C:Ctx} {st:St} {a:Act} {E:Env} {K:PV→List Slot→Nat→Prop} {o:Oper}
theorem foldl_cells_size:∀ (l:List Value) (k off:Nat) (cs:Array Value),((l.zipIdx k).foldl (fun cs x=>cs.setIfInBounds (off+x.2) x.1) cs).size=cs.size
 | [],_,_,_=>rfl
 | x::l,k,off,cs=>by
  rw [List.zipIdx_cons,List.foldl_cons,foldl_cells_size l (k+1) off]
  simp
theorem foldl_cells_get:∀ (l:List Value) (k off:Nat) (cs:Array Value) (i:Nat),off+k+l.length≤cs.size →
  ((l.zipIdx k).foldl (fun cs x=>cs.setIfInBounds (off+x.2) x.1) cs)[i]?=if i < off+k then cs[i]? else if i < off+k+l.length then l[i - (off+k)]? else cs[i]?
 | [],k,off,cs,i,_=>by
  simp only [List.zipIdx_nil,List.foldl_nil,List.length_nil,Nat.add_zero]
  by_cases h:i < off+k<;>simp [h]
 | x::l,k,off,cs,i,h=>by
  rw [List.length_cons] at h
  rw [List.zipIdx_cons,List.foldl_cons,foldl_cells_get l (k+1) off _ i (by simp; omega)]
  simp only [Array.getElem?_setIfInBounds,List.length_cons]
  by_cases h1:i < off+k
  ·rw [if_pos (by omega),if_pos h1,if_neg (by omega)]
  ·by_cases h2:i=off+k
   ·subst h2
    have e1:off+k < cs.size:=by omega
    simp [e1,show off+k < off+(k+1) by omega,show off+k < off+k+(l.length+1) by omega]
   ·rw [if_neg (show ¬ i < off+(k+1) by omega),if_neg h1]
    by_cases h3:i < off+k+(l.length+1)
    ·rw [if_pos (by omega),if_pos h3,show i - (off+k)=(i - (off+(k+1)))+1 by omega]
     simp
    ·rw [if_neg (by omega),if_neg h3,if_neg (by omega)]
theorem fill_cons (place:Nat→Option (Nat×Nat)) (cells:Array Value) (i:Nat) (v:Value) (r:List (Nat×Value)) {off n:Nat} (hp:place i=some (off,n)) (hn:v.cells.size=n) (hle:off+n≤cells.size) :
  Instr.fill place cells ((i,v)::r)=Instr.fill place (v.cells.toList.zipIdx.foldl (fun cs x=>cs.setIfInBounds (off+x.2) x.1) cells) r:=by
 rw [Instr.fill]
 simp only [hp]
 rw [if_neg (by simp [hn]; omega)]
 congr 1
 rw [← Array.foldl_toList]
 simp
def RC (E:Env) (cs:List PV) (us:Array Value):Prop:=us.size=cs.length∧(∀ (i:Nat) (x:Value),us[i]?=some x→x.oneCell'=true)∧∀ (i:Nat) (c:PV) (x:Value),cs[i]?=some c→us[i]?=some x→Rep E c x
theorem RC.splice {cs ps:List PV} {us vs:Array Value} (h:RC E cs us) (k:RC E ps vs) {off:Nat} (hle:off+ps.length≤cs.length) :
  RC E (cs.take off++ps++cs.drop (off+ps.length)) (vs.toList.zipIdx.foldl (fun cs x=>cs.setIfInBounds (off+x.2) x.1) us):=by
 obtain ⟨h1,h2,h3⟩:=h
 obtain ⟨k1,k2,k3⟩:=k
 have get:=fun i=>foldl_cells_get vs.toList 0 off us i (by simp; omega)
 simp only [Nat.add_zero,Array.length_toList] at get
 refine ⟨?_,?_,?_⟩
 ·rw [foldl_cells_size,splice_size _ _ _ hle,h1]
 ·intro i x hx
  rw [get] at hx
  split at hx
  ·exact h2 i x hx
  ·split at hx
   ·exact k2 _ x (by simpa using hx)
   ·exact h2 i x hx
 ·intro i c x hc hx
  rw [get] at hx
  rw [splice_get _ _ _ _ hle] at hc
  rw [k1] at hx
  split at hx
  ·rename_i h0; rw [if_pos h0] at hc; exact h3 i c x hc hx
  ·rename_i h0
   rw [if_neg h0] at hc
   split at hx
   ·rename_i h4; rw [if_pos h4] at hc; exact k3 _ c x hc (by simpa using hx)
   ·rename_i h4; rw [if_neg h4] at hc; exact h3 i c x hc hx
theorem cVal_cells {z:Value} (h:(cVal z).stor=true):RC E (cVal z).cells z.cells:=rep_cells (cVal_rep E z) h
def cParts (place:Nat→Option (Nat×Nat)) (parts:List (Nat×Operand)):Option (List (Nat×Nat×Opd)) :=
 parts.mapM fun p=>(place p.1).bind fun q=>(cOpd p.2).map fun y=>(q.1,q.2,y)
theorem fill_of (I:InvE C st a E) {place:Nat→Option (Nat×Nat)}:∀ {parts:List (Nat×Operand)} {ps:List (Nat×Nat×Opd)} {cs cs':List PV} {us:Array Value},cParts place parts=some ps→RC E cs us→fillV st.ev cs ps=some cs' →
  ∃ us',Instr.fill place us (parts.map fun p=>(p.1,a.eval p.2))=some us'∧RC E cs' us'
 | [],ps,cs,cs',us,hp,hc,hf=>by
  simp [cParts] at hp; subst hp
  simp [fillV] at hf; subst hf
  exact ⟨us,rfl,hc⟩
 | p::parts,ps,cs,cs',us,hp,hc,hf=>by
  unfold cParts at hp
  rw [List.mapM_cons] at hp
  cases hq:place p.1 with
  | none=>simp [hq] at hp
  | some q =>
   cases hy:cOpd p.2 with
   | none=>simp [hq,hy] at hp
   | some y =>
    cases hr:parts.mapM (fun p=>(place p.1).bind fun q=>(cOpd p.2).map fun y=>(q.1,q.2,y)) with
    | none=>simp [hq,hy,hr] at hp
    | some rest =>
     simp [hq,hy,hr] at hp
     subst hp
     simp only [fillV] at hf
     split at hf
     case isFalse=>cases hf
     rename_i hcond
     obtain ⟨c1,c2,c3⟩:=hcond
     have hk:=rep_cells (ev_rep I hy) c3
     have hsp:=RC.splice hc hk (off:=q.1) (by omega)
     rw [← c1] at hf
     obtain ⟨us',h1,h2⟩:=fill_of I (parts:=parts) hr hsp hf
     refine ⟨us',?_,h2⟩
     rw [List.map_cons,fill_cons place us p.1 (a.eval p.2) _ (off:=q.1) (n:=q.2) hq (by rw [hk.1,c1]) (by rw [hc.1]; exact c2)]
     exact h1
def places (P:Program) (t:TypeId):Option (Nat→Option (Nat×Nat)) :=
 match P.underlying t with
 | some (.array _ e)=>(P.info? e).map fun ie i=>some (i * ie.size,ie.size)
 | some (.struct fields)=>(fields.toList.mapM (fun f=>(P.info? f.type).map fun i=>(f.offset,i.size))).map fun ps i=>ps.toArray[i]?
 | _=>none
theorem out_bld (I:InvE C st a E) {t:TypeId} {it:TypeInfo} {z:Value} {parts:Array (Nat×Operand)} {place:Nat→Option (Nat×Nat)} {ps:List (Nat×Nat×Opd)} (ho:o.op=.build t parts) (hi:P.info? t=some it) (hz:it.zero=some z)
  (hpl:places P t=some place) (hs:(cVal z).stor=true) (hps:cParts place parts.toList=some ps) (hK:opK st.ev st.h st.n K (.bld (cVal z).cells ps)):Out P o C st a E K:=by
 simp only [opK] at hK
 split at hK
 case h_2=>exact hK.elim
 rename_i cs hf
 obtain ⟨us,h1,h2,h3,h4⟩:=fill_of I hps (cVal_cells hs) hf
 refine Out.same I hK (u:=.agg us) ?_ (.agg _ _ h2 h3 h4)
 have hb:P.built t (parts.map fun p=>(p.1,a.eval p.2)).toList=some us:=by
  unfold places at hpl
  unfold Program.built
  split at hpl
  ·rename_i len e hu
   cases hie:P.info? e with
   | none=>rw [hie] at hpl; cases hpl
   | some ie =>
    rw [hie] at hpl; cases hpl
    simp only [hi,hu,hz,hie]
    simpa using h1
  ·rename_i fields hu
   cases hfs:fields.toList.mapM (fun f=>(P.info? f.type).map fun i=>(f.offset,i.size)) with
   | none=>rw [hfs] at hpl; cases hpl
   | some fs =>
    rw [hfs] at hpl; cases hpl
    simp only [hi,hu,hz,hfs]
    simpa using h1
  ·cases hpl
 simp only [execOp,ho,Sem.run_bind]
 rw [run_build E.w t _ us hb]
 rfl
theorem InvE.newSnap (I:InvE C st a E) (arr:Array Value) (t:TypeId):InvE C st a ⟨E.w.alloc (.cells arr t),E.σ,fun r=>E.S r∨r=E.w.heap.size⟩:=by
 have hle:E.le ⟨E.w.alloc (.cells arr t),E.σ,fun r=>E.S r∨r=E.w.heap.size⟩:=⟨fun _ h=>.inl h,fun r hr=>heap_alloc_old _ _ _ (I.good.stay r hr),fun _ _ h=>h⟩
 have hsz:(E.w.alloc (.cells arr t)).heap.size=E.w.heap.size+1:=by simp
 refine I.step (h':=st.h) (n':=st.n) hle rfl rfl rfl (by simp) (fun r hr=>hr.elim .inl fun h=>.inr (.inr (Nat.le_of_eq h.symm))) (fun r hr _=>heap_alloc_old _ _ _ hr) ⟨I.good.free,?_,?_,?_⟩ ?_
 ·intro b s k hb
  obtain ⟨en,h1,h2,h3⟩:=I.good.blk b s k hb
  refine ⟨en,⟨h1.slot,h1.σ⟩,h2.mono hle (fun h0=>heap_alloc_old _ _ _ (h1.lt I.good h0)),fun h0 hS=>?_⟩
  rcases hS with hS | hS
  ·exact h3 h0 hS
  ·have:=h1.lt I.good h0; omega
 ·intro b b' s s' k k' en en' A A' h0 h0' he
  exact I.good.inj b b' s s' k k' en en' ⟨A.slot,A.σ⟩ ⟨A'.slot,A'.σ⟩ h0 h0' he
 ·intro r hr
  show r < (E.w.alloc (.cells arr t)).heap.size
  rw [hsz]
  rcases hr with hr | hr
  ·have:=I.good.stay r hr; omega
  ·omega
 ·intro b s k en A h0
  exact .inl ⟨b,s,k,en,⟨A.slot,A.σ⟩,h0,rfl⟩
theorem cell_alloc_new (w:World) (arr:Array Value) (t:TypeId) (k:Nat):(w.alloc (.cells arr t)).cell? ⟨w.heap.size,k,none⟩=arr[k]?:=by
 show (match (w.alloc (.cells arr t)).heap[w.heap.size]? with | some (.cells c _ _)=>if (none:Option Nat).isSome then none else c[k]? | _=>none)=_
 rw [heap_alloc_new]; rfl
theorem rep_snap {E':Env} {rb:Nat} {arr:Array Value} {es:List PV} {sz cap:Nat} {c:Bool} (hS:E'.S rb) (hcell:∀ k,E'.w.cell? ⟨rb,k,none⟩=arr[k]?) (hsz0:0 < sz) (hsz:∀ (i:Nat) (e:PV),es[i]?=some e→e.cells.length=sz)
  (hc:c=true→cap=es.length) (hcap:es.length≤cap) (ho:∀ (i:Nat) (u:Value),arr[i]?=some u→u.oneCell'=true)
  (h:∀ (i:Nat) (e:PV) (j:Nat) (c:PV),es[i]?=some e→e.cells[j]?=some c→∃ u,arr[i * sz+j]?=some u∧Rep E' c u):Rep E' (.sl c es) (.slice (some ⟨rb,0,none⟩) es.length cap):=by
 by_cases hne:es=[]
 ·subst hne
  exact .emp c _ cap hc (by simp)
 ·refine .sl c es rb 0 cap sz (fun i j=>if i * sz+j < arr.size then arr.getD (i * sz+j) undef else .int .i64 0) hne hS hc hcap hsz0 hsz ?_ ?_ ?_
  ·intro i e j x he hj
   obtain ⟨u,hu,_⟩:=h i e j x he hj
   have hlt:=(Array.getElem?_eq_some_iff.1 hu).1
   rw [hcell,Nat.zero_add,hu]
   simp [hlt,(Array.getElem?_eq_some_iff.1 hu).2.symm]
  ·intro i j
   split
   ·rename_i hlt
    exact ho (i * sz+j) _ (by simp [hlt])
   ·rfl
  ·intro i e j x he hj
   obtain ⟨u,hu,hr⟩:=h i e j x he hj
   have hlt:=(Array.getElem?_eq_some_iff.1 hu).1
   rw [← (Array.getElem?_eq_some_iff.1 hu).2] at hr
   simpa [hlt] using hr
def RW (E:Env) (F:Nat→PV) (len sz:Nat) (us:Array Value):Prop:=us.size=len * sz∧(∀ (i:Nat) (x:Value),us[i]?=some x→x.oneCell'=true) ∧
 ∀ i,i < len→(F i).cells.length=sz∧∀ (j:Nat) (c:PV) (x:Value),(F i).cells[j]?=some c→us[i * sz+j]?=some x→Rep E c x
theorem fill_rows (I:InvE C st a E) {len sz:Nat}:∀ {parts:List (Nat×Operand)} {ps:List (Nat×Opd)} {F:Nat→PV} {us:Array Value},parts.mapM (fun p=>(cOpd p.2).map fun y=>(p.1,y))=some ps→RW E F len sz us →
  (∀ p ∈ ps,(st.ev p.2).cells.length=sz∧(st.ev p.2).stor=true∧p.1 < len) →
  ∃ us',Instr.fill (fun i=>some (i * sz,sz)) us (parts.map fun p=>(p.1,a.eval p.2))=some us'∧RW E (fun i=>partsV st.ev (F i) i ps) len sz us'
 | [],ps,F,us,hp,hc,hf=>by
  simp at hp; subst hp
  exact ⟨us,rfl,hc⟩
 | p::parts,ps,F,us,hp,hc,hf=>by
  rw [List.mapM_cons] at hp
  cases hy:cOpd p.2 with
  | none=>simp [hy] at hp
  | some y =>
   cases hr:parts.mapM (fun p=>(cOpd p.2).map fun y=>(p.1,y)) with
   | none=>simp [hy,hr] at hp
   | some rest =>
    simp [hy,hr] at hp
    subst hp
    obtain ⟨c1,c2,c3⟩:=hf (p.1,y) (by simp)
    replace c1:(st.ev y).cells.length=sz:=c1
    replace c3:p.1 < len:=c3
    have hk:=rep_cells (ev_rep I hy) c2
    obtain ⟨h1,h2,h3⟩:=hc
    have hlen:(a.eval p.2).cells.toList.length=sz:=by simp; omega
    have hfit:=row_fits (j:=sz) (sz:=sz) c3 (Nat.le_refl _)
    have get:=fun i=>foldl_cells_get (a.eval p.2).cells.toList 0 (p.1 * sz) us i (by omega)
    simp only [Nat.add_zero,hlen] at get
    have hnew:RW E (fun i=>if p.1=i then st.ev y else F i) len sz ((a.eval p.2).cells.toList.zipIdx.foldl (fun cs x=>cs.setIfInBounds (p.1 * sz+x.2) x.1) us):=by
     refine ⟨by rw [foldl_cells_size,h1],?_,?_⟩
     ·intro i x hx
      rw [get] at hx
      split at hx
      ·exact h2 i x hx
      ·split at hx
       ·exact hk.2.1 _ x (by simpa using hx)
       ·exact h2 i x hx
     ·intro i hi
      by_cases hpi:p.1=i
      ·subst hpi
       simp only [if_true]
       refine ⟨c1,fun j c x hc hx=>?_⟩
       have hj:=(List.getElem?_eq_some_iff.1 hc).1
       rw [get,if_neg (by omega),if_pos (by omega),show p.1 * sz+j - p.1 * sz=j by omega] at hx
       exact hk.2.2 j c x hc (by simpa using hx)
      ·simp only [hpi,if_false]
       refine ⟨(h3 i hi).1,fun j c x hc hx=>?_⟩
       have hj:j < sz:=by have:=(List.getElem?_eq_some_iff.1 hc).1; have:=(h3 i hi).1; omega
       refine (h3 i hi).2 j c x hc ?_
       rw [← hx,get]
       rcases row_apart hj (Ne.symm hpi) with h | h
       ·rw [if_pos h]
       ·rw [if_neg (by omega),if_neg (by omega)]
    obtain ⟨us',g1,g2⟩:=fill_rows I (parts:=parts) hr hnew (fun q hq=>hf q (by simp [hq]))
    refine ⟨us',?_,g2⟩
    rw [List.map_cons,fill_cons _ us p.1 (a.eval p.2) _ (off:=p.1 * sz) (n:=sz) rfl (by rw [hk.1,c1]) (by rw [h1]; exact hfit)]
    exact g1
theorem zeros_rows {z:Value} (hs:(cVal z).stor=true) (len:Nat) {sz:Nat} (hsz:(cVal z).cells.length=sz) (h0:0 < sz):RW E (fun _=>cVal z) len sz ((Array.range (len * sz)).map (z.cells[· % z.cells.size]!)):=by
 obtain ⟨c1,c2,c3⟩:=cVal_cells (E:=E) hs
 have hzs:z.cells.size=sz:=by omega
 refine ⟨by simp,?_,fun i hi=>⟨hsz,fun j c x hc hx=>?_⟩⟩
 rotate_left
 replace hc:(cVal z).cells[j]?=some c:=hc
 rotate_left
 ·intro i x hx
  have hlt:i < len * sz:=by have:=(Array.getElem?_eq_some_iff.1 hx).1; simpa using this
  simp [hlt] at hx
  have hm:i % z.cells.size < z.cells.size:=Nat.mod_lt _ (by omega)
  rw [getElem!_pos z.cells _ hm] at hx
  exact c2 (i % z.cells.size) x (by simp [hm,hx])
 ·have hj:j < sz:=by have:=(List.getElem?_eq_some_iff.1 hc).1; omega
  have hlt:i * sz+j < len * sz:=by have:=row_fits (j:=j+1) (sz:=sz) hi (by omega); omega
  simp [hlt] at hx
  have hm:(i * sz+j) % z.cells.size=j:=by rw [hzs,Nat.mul_comm,Nat.mul_add_mod,Nat.mod_eq_of_lt hj]
  rw [hm,getElem!_pos z.cells j (by omega)] at hx
  exact c3 j c x hc (by simp [show j < z.cells.size by omega,hx])
theorem out_bsl (I:InvE C st a E) {t e:TypeId} {len:Nat} {ie:TypeInfo} {z:Value} {parts:Array (Nat×Operand)} {ps:List (Nat×Opd)} (ho:o.op=.buildSlice t len parts) (ht:P.underlying t=some (.slice e)) (hi:P.info? e=some ie) (hz:ie.zero=some z)
  (hps:parts.toList.mapM (fun p=>(cOpd p.2).map fun y=>(p.1,y))=some ps) (hK:opK st.ev st.h st.n K (.bsl ie.size (cVal z) len ps)):Out P o C st a E K:=by
 simp only [opK] at hK
 obtain ⟨k1,k2,k3,k4,k5,k6⟩:=hK
 obtain ⟨us,h1,h2⟩:=fill_rows I hps (zeros_rows (E:=E) k4 len k3 k1) k5
 have hzs:z.cells.size=ie.size:=by have:=(cVal_cells (E:=E) k4).1; omega
 have h1':Instr.fill (fun i=>some (i * ie.size,ie.size)) ((Array.range (len * ie.size)).map (z.cells[· % z.cells.size]!)) (parts.map fun p=>(p.1,a.eval p.2)).toList=some us:=by simpa using h1
 by_cases hl0:len=0
 ·subst hl0
  have hpn:parts.toList=[]:=by
   cases hpl:parts.toList with
   | nil=>rfl
   | cons q r =>
    rw [hpl,List.mapM_cons] at hps
    cases hy:cOpd q.2 with
    | none=>simp [hy] at hps
    | some y =>
     cases hr:r.mapM (fun p=>(cOpd p.2).map fun y=>(p.1,y)) with
     | none=>simp [hy,hr] at hps
     | some rest =>
      simp [hy,hr] at hps
      subst hps
      have:=(k5 (q.1,y) (by simp)).2.2
      omega
  have hpa:parts=#[]:=by cases parts; simp_all
  subst hpa
  refine ⟨_,_,_,k6,.slice (some ⟨E.w.heap.size,0,none⟩) 0 0,_,_,?_,.inl rfl,I.newSnap #[] e,.emp true _ 0 (fun _=>rfl) (by simp)⟩
  simp [execOp,ho,Instr.buildSlice,run_underlying ht,run_sizeOf hi,Instr.fill,newRow]
  congr 2
  apply Array.ext
  ·simp
  ·intro i h1 h2; simp at h2
 ·refine ⟨_,_,_,k6,.slice (some ⟨E.w.heap.size,0,none⟩) len len,_,_,?_,.inl rfl,I.newSnap us e,?_⟩
  ·simp only [execOp,ho,Sem.run_bind]
   rw [run_buildSlice E.w t e len _ us ie z ht hi hz (by omega) (Nat.ne_of_gt (Nat.mul_pos (by omega) k1)) h1']
   rfl
  ·obtain ⟨g1,g2,g3⟩:=h2
   have hlen:((List.range len).map fun i=>partsV st.ev (cVal z) i ps).length=len:=by simp
   have hle:E.le ⟨E.w.alloc (.cells us e),E.σ,fun r=>E.S r∨r=E.w.heap.size⟩:=⟨fun _ h=>.inl h,fun r hr=>heap_alloc_old _ _ _ (I.good.stay r hr),fun _ _ h=>h⟩
   have:=rep_snap (E':=⟨E.w.alloc (.cells us e),E.σ,fun r=>E.S r∨r=E.w.heap.size⟩) (rb:=E.w.heap.size) (arr:=us) (es:=(List.range len).map fun i=>partsV st.ev (cVal z) i ps) (sz:=ie.size) (cap:=len) (c:=true)
    (.inr rfl) (fun k=>cell_alloc_new _ _ _ _) k1 ?_ (fun _=>hlen.symm) (Nat.le_of_eq hlen) g2 ?_
   ·rw [hlen] at this; exact this
   ·intro i e he
    have hlt:i < len:=by have:=(List.getElem?_eq_some_iff.1 he).1; simpa using this
    simp [hlt] at he
    subst he; exact (g3 i hlt).1
   ·intro i e j c he hc
    have hlt:i < len:=by have:=(List.getElem?_eq_some_iff.1 he).1; simpa using this
    simp [hlt] at he
    subst he
    have q:(partsV st.ev (cVal z) i ps).cells.length=ie.size:=(g3 i hlt).1
    have hj:j < ie.size:=by have:=(List.getElem?_eq_some_iff.1 hc).1; omega
    have hlt2:i * ie.size+j < us.size:=by have:=row_fits (j:=j+1) (sz:=ie.size) hlt (by omega); omega
    exact ⟨us[i * ie.size+j],by simp [hlt2],((g3 i hlt).2 j c _ hc (by simp [hlt2])).mono hle⟩
end Go.Proofs.Ytemdbhdjchkllaa.VL
