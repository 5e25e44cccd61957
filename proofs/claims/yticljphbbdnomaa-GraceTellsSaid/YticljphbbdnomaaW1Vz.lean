import Derived.Test.YticljphbbdnomaaW1Vy
namespace Go.Proofs.Yticljphbbdnomaa.VL
open Go Go.ChangeShapes Go.WideShapes Go.ChangeAt Go.RowKit
set_option linter.unusedVariables false
set_option linter.unusedSimpArgs false
set_option linter.unusedSectionVars false
variable [Val]
inductive Fit (P:Program):TypeId→PV→Prop
 | bool (t:TypeId) (b:Bool) (h:P.underlying t=some .bool):Fit P t (.v (.bool b))
 | int (t:TypeId) (k:IntKind) (n:Int) (h:P.underlying t=some (.int k)) (hw:(Lit.int k n).wf=true):Fit P t (.v (.int k n))
 | str (t:TypeId) (s:ByteArray) (h:P.underlying t=some .string) (hs:s.size≤maxLen):Fit P t (.v (.string s))
 | nil (t e:TypeId) (h:P.underlying t=some (.slice e)):Fit P t (.sl true [])
 | sl (t e:TypeId) (es:List PV) (h:P.underlying t=some (.slice e)) (hs:es.length≤maxLen) (he:∀ p ∈ es,Fit P e p):Fit P t (.sl false es)
 | struct (t:TypeId) (fs:Array Field) (ps:List PV) (h:P.underlying t=some (.struct fs)) (hl:ps.length=fs.size) (hp:∀ (i:Nat) (f:Field) (p:PV),fs[i]?=some f→ps[i]?=some p→Fit P f.type p):Fit P t (.agg (ps.flatMap PV.cells))
def offs (P:Program):Nat→List Field→Option Nat
 | o,[]=>some o
 | o,f::r=>if f.offset=o then offs P (o+P.cellsOf f.type) r else none
def plainT (P:Program):Nat→TypeId→Bool
 | 0,_=>false
 | d+1,t=>match P.underlying t with
  | some .bool | some (.int _) | some .string=>P.cellsOf t==1
  | some (.slice e)=>P.cellsOf t==1&&0 < P.cellsOf e&&plainT P d e
  | some (.struct fs)=>(fs.toList.all fun f=>plainT P d f.type)&&offs P 0 fs.toList==some (P.cellsOf t)
  | _=>false
structure Read (P:Program) (W:World) (t:TypeId) (cs:List Value) (p:PV):Prop where
 fit:Fit P t p
 len:p.cells.length=cs.length
 size:cs.length=P.cellsOf t
 rep:∀ (j:Nat) (c:PV) (u:Value),p.cells[j]?=some c→cs[j]?=some u→Rep (begE W) c u
 one:∀ (j:Nat) (u:Value),cs[j]?=some u→u.oneCell'=true
theorem read_one {P:Program} {W:World} {t:TypeId} {p:PV} {u:Value} (hf:Fit P t p) (hp:p.cells=[p]) (hs:P.cellsOf t=1) (hr:Rep (begE W) p u) (ho:u.oneCell'=true):Read P W t [u] p where
 fit:=hf
 len:=by rw [hp]; rfl
 size:=by rw [hs]; rfl
 rep:=by
  intro j c u' hc hu
  rw [hp] at hc
  cases j with
  | zero=>simp at hc hu; subst hc hu; exact hr
  | succ j=>simp at hu
 one:=by
  intro j u' hu
  cases j with
  | zero=>simp at hu; subst hu; exact ho
  | succ j=>simp at hu
theorem add_spot {W:World} {a:Addr} {n:Nat} {v:Value} (h:W.cell? (a.add n)=some v) (ha:a.spot=none):W.cell? ⟨a.block,a.off+n,none⟩=some v:=by
 obtain ⟨b,o,s⟩:=a
 simp only at ha
 subst ha
 unfold Addr.add at h
 split at h
 ·rename_i h0; subst h0; exact h
 ·exact h
theorem read_parts {P:Program} {W:World} {cs:List Value}:∀ (fs:List Field) (o total:Nat),offs P o fs=some total→(∀ f ∈ fs,∃ p,Read P W f.type ((cs.drop f.offset).take (P.cellsOf f.type)) p) →
  ∃ ps:List PV,ps.length=fs.length∧(∀ (i:Nat) (f:Field) (p:PV),fs[i]?=some f→ps[i]?=some p→Fit P f.type p)∧o+(ps.flatMap PV.cells).length=total∧∀ (j:Nat) (c:PV),(ps.flatMap PV.cells)[j]?=some c→∃ u,cs[o+j]?=some u∧Rep (begE W) c u∧u.oneCell'=true
 | [],o,total,h,_=>by cases h; exact ⟨[],rfl,by simp,by simp,by simp⟩
 | f::r,o,total,h,hr=>by
  simp only [offs] at h
  split at h
  ·rename_i ho
   obtain ⟨p,R⟩:=hr f List.mem_cons_self
   obtain ⟨ps,h1,h2,h3,h4⟩:=read_parts r _ total h (fun f hf=>hr f (List.mem_cons_of_mem _ hf))
   have hp:p.cells.length=P.cellsOf f.type:=by rw [R.len,R.size]
   refine ⟨p::ps,by simp [h1],?_,by simp only [List.flatMap_cons,List.length_append]; omega,?_⟩
   ·intro i g q hg hq
    cases i with
    | zero=>simp at hg hq; subst hg hq; exact R.fit
    | succ i=>simp at hg hq; exact h2 i g q hg hq
   ·intro j c hc
    rw [List.flatMap_cons,List.getElem?_append] at hc
    split at hc
    ·rename_i hj
     have hlt:j < ((cs.drop f.offset).take (P.cellsOf f.type)).length:=by rw [R.size]; omega
     have hu:=List.getElem?_eq_getElem hlt
     refine ⟨_,?_,R.rep j c _ hc hu,R.one j _ hu⟩
     have h5:=hu
     rw [List.getElem?_take_of_lt (by omega),List.getElem?_drop] at h5
     rw [← ho]
     exact h5
    ·rename_i hj
     obtain ⟨u,q1,q2,q3⟩:=h4 _ c hc
     exact ⟨u,by rw [← q1]; congr 1; omega,q2,q3⟩
  ·cases h
theorem read_trod {H:Type} {enc:TypeId×Value→H} {P:Program} {W:World}:∀ (d:Nat) (t:TypeId),plainT P d t=true→∀ (fuel:Nat) (cs:List Value) (x:DataW H×List MemPlace),DataW.trod enc P W 0 (fun _=>true) true fuel t cs=some x→∃ p,Read P W t cs p
 | 0,t,h=>by cases h
 | d+1,t,h=>by
  intro fuel cs x hx
  unfold plainT at h
  split at h
  ·rename_i hu
   obtain ⟨b,rfl,_⟩:=DataW.trod_bool hu hx
   exact ⟨_,read_one (.bool t b hu) rfl (by simpa using h) (.v _) rfl⟩
  ·rename_i k hu
   obtain ⟨n,rfl,_,hw⟩:=DataW.trod_int hu hx
   exact ⟨_,read_one (.int t k n hu hw) rfl (by simpa using h) (.v _) rfl⟩
  ·rename_i hu
   obtain ⟨s,rfl,_,hs⟩:=DataW.trod_string hu hx
   exact ⟨_,read_one (.str t s hu hs) rfl (by simpa using h) (.v _) rfl⟩
  ·rename_i e hu
   simp only [Bool.and_eq_true,beq_iff_eq,decide_eq_true_eq] at h
   obtain ⟨⟨h1,h2⟩,h3⟩:=h
   rcases DataW.trod_slice hu hx with ⟨rfl,_⟩ | ⟨a,len,cap,elems,rest,n,_,rfl,_,_,hlc,hcm,hel,hi,_,_⟩
   ·exact ⟨_,read_one (.nil t e hu) rfl h1 (.emp true none 0 (fun _=>rfl) (fun _=>rfl)) rfl⟩
   ·have each:∀ i,i < len→∃ cs' p,W.cells? 0 (a.add (i * P.cellsOf e)) (P.cellsOf e)=some cs'∧Read P W e cs' p:=by
     intro i hl
     have:=hi i hl
     rw [List.getElem?_eq_getElem (by omega)] at this
     simp only [Option.bind_eq_some_iff] at this
     obtain ⟨cs',g1,g2⟩:=this
     obtain ⟨p,hp⟩:=read_trod d e h3 n cs' _ g2
     exact ⟨cs',p,g1,hp⟩
    by_cases hl0:len=0
    ·subst hl0
     exact ⟨_,read_one (.sl t e [] hu (Nat.zero_le _) (fun p hp=>by cases hp)) rfl h1 (.emp false (some a) cap (by simp) (by simp)) rfl⟩
    ·obtain ⟨Cs,Ps,hCP⟩:∃ (Cs:Nat→List Value) (Ps:Nat→PV),∀ i,i < len→W.cells? 0 (a.add (i * P.cellsOf e)) (P.cellsOf e)=some (Cs i)∧Read P W e (Cs i) (Ps i):=by
      refine ⟨fun i=>if h:i < len then (each i h).choose else [],fun i=>if h:i < len then (each i h).choose_spec.choose else .dead,fun i hl=>?_⟩
      simp only [hl,dif_pos]
      exact (each i hl).choose_spec.choose_spec
     have hspot:a.spot=none:=by
      obtain ⟨g1,g2⟩:=hCP 0 (by omega)
      obtain ⟨_,g3,g4⟩:=World.cells?_some g1
      have:=g4 0 h2
      rw [List.getElem?_eq_getElem (by omega)] at this
      have:=World.cell?_spot this
      simpa [Addr.add] using this
     have hS:a.block < W.heap.size:=by
      have:=World.cells?_block (hCP 0 (by omega)).1 h2
      simpa [Addr.add] using this
     have cell:∀ i j v,i < len→(Cs i)[j]?=some v→j < P.cellsOf e∧W.cell? ⟨a.block,a.off+i * P.cellsOf e+j,none⟩=some v:=by
      intro i j v hi hj
      obtain ⟨g1,g2⟩:=hCP i hi
      obtain ⟨_,g3,g4⟩:=World.cells?_some g1
      have hjl:j < P.cellsOf e:=by have:=(List.getElem?_eq_some_iff.1 hj).1; omega
      refine ⟨hjl,?_⟩
      have:=g4 j hjl
      rw [hj] at this
      have hs2:(a.add (i * P.cellsOf e)).spot=none:=by
       unfold Addr.add; split
       ·exact hspot
       ·rfl
      have h3:=add_spot this hs2
      rw [← h3]
      unfold Addr.add
      split
      ·rename_i h0; simp [h0]
      ·rfl
     have get:∀ (i:Nat) (p:PV),((List.range len).map Ps)[i]?=some p→i < len∧p=Ps i:=by
      intro i p hp
      simp only [List.getElem?_map,Option.map_eq_some_iff] at hp
      obtain ⟨i',hi',rfl⟩:=hp
      have:=List.getElem?_eq_some_iff.1 hi'
      obtain ⟨q1,q2⟩:=this
      simp at q1 q2
      subst q2
      exact ⟨q1,rfl⟩
     have rep:=Rep.sl (E:=begE W) false ((List.range len).map Ps) a.block a.off cap (P.cellsOf e) (fun i j=>if i < len∧j < P.cellsOf e then (Cs i).getD j (.bool false) else .bool false) (by simp; omega) hS (by simp) (by simpa using hlc) h2 ?_ ?_ ?_ ?_
     ·refine ⟨_,read_one (.sl t e ((List.range len).map Ps) hu (by simp; omega) ?_) rfl h1 (u:=.slice (some a) len cap) ?_ rfl⟩
      ·intro p hp
       rw [List.mem_map] at hp
       obtain ⟨i,hi,rfl⟩:=hp
       exact (hCP i (List.mem_range.1 hi)).2.fit
      ·have ea:a=⟨a.block,a.off,none⟩:=by obtain ⟨b,o,s⟩:=a; simp only at hspot; rw [hspot]
       rw [ea]
       simpa using rep
     ·intro i p hp
      obtain ⟨hi,rfl⟩:=get i p hp
      have:=(hCP i hi).2
      rw [this.len,this.size]
     ·intro i p j c hp hj
      obtain ⟨hi,rfl⟩:=get i p hp
      have R:=(hCP i hi).2
      have hjl:j < (Cs i).length:=by have:=(List.getElem?_eq_some_iff.1 hj).1; rw [R.len] at this; exact this
      obtain ⟨q1,q2⟩:=cell i j _ hi (List.getElem?_eq_getElem hjl)
      rw [if_pos ⟨hi,q1⟩]
      simp only [begE]
      rw [q2]
      simp [hjl]
     ·intro i j
      split
      ·rename_i hij
       have R:=(hCP i hij.1).2
       have hjl:j < (Cs i).length:=by rw [R.size]; exact hij.2
       have:=R.one j _ (List.getElem?_eq_getElem hjl)
       simpa [hjl] using this
      ·rfl
     ·intro i p j c hp hj
      obtain ⟨hi,rfl⟩:=get i p hp
      have R:=(hCP i hi).2
      have hjl:j < (Cs i).length:=by have:=(List.getElem?_eq_some_iff.1 hj).1; rw [R.len] at this; exact this
      have hjs:j < P.cellsOf e:=by rw [← R.size]; exact hjl
      rw [if_pos ⟨hi,hjs⟩]
      have:=R.rep j c _ hj (List.getElem?_eq_getElem hjl)
      simpa [hjl] using this
  ·rename_i fs hu
   simp only [Bool.and_eq_true,beq_iff_eq,List.all_eq_true] at h
   obtain ⟨h1,h2⟩:=h
   obtain ⟨xs,n,_,_,hl,hxl,hf⟩:=DataW.trod_struct hu hx
   obtain ⟨ps,g1,g2,g3,g4⟩:=read_parts (W:=W) (cs:=cs) fs.toList 0 _ h2 (fun f hfm=>by
    obtain ⟨i,hi,rfl⟩:=List.getElem_of_mem hfm
    have hi':i < fs.size:=by simpa using hi
    have:=hf i fs[i] (by simp [hi'])
    rw [List.getElem?_eq_getElem (by omega)] at this
    have h3:=h1 _ hfm
    simp only [Array.getElem_toList] at h3 ⊢
    exact read_trod d _ h3 n _ _ this)
   have hlen:(ps.flatMap PV.cells).length=cs.length:=by omega
   refine ⟨.agg (ps.flatMap PV.cells),⟨.struct t fs ps hu (by simpa using g1) (fun i f p q1 q2=>g2 i f p (by simpa using q1) q2),hlen,hl,?_,?_⟩⟩
   ·intro j c u hc hu'
    obtain ⟨u',q1,q2,_⟩:=g4 j c hc
    rw [Nat.zero_add,hu'] at q1
    cases q1; exact q2
   ·intro j u hu'
    have hj:=(List.getElem?_eq_some_iff.1 hu').1
    have:j < (ps.flatMap PV.cells).length:=by omega
    obtain ⟨u',q1,_,q3⟩:=g4 j _ (List.getElem?_eq_getElem this)
    rw [Nat.zero_add,hu'] at q1
    cases q1; exact q3
  ·cases h
theorem read_arg {H:Type} {enc:TypeId×Value→H} {P:Program} {W:World} {d:Nat} {t:TypeId} {v:Value} {x:DataW H} {ps:List MemPlace} {r:Reach} {b0:Nat} (hp:plainT P d t=true) (hv:Value.okWide P W r b0 t v) (h:DataW.Trod enc P W 0 (fun _=>true) true t v x ps) :
  ∃ p,Fit P t p∧Rep (begE W) p v:=by
 obtain ⟨fuel,hf⟩:=h
 obtain ⟨p,R⟩:=read_trod d t hp fuel _ _ hf
 refine ⟨p,R.fit,?_⟩
 have single:v.cells.toList=[v]→p.cells=[p]→Rep (begE W) p v:=by
  intro h1 h2
  exact R.rep 0 p v (by rw [h2]; rfl) (by rw [h1]; rfl)
 cases R.fit with
 | bool _ b hu=>obtain ⟨b',rfl⟩:=okWide_bool hu hv; exact single rfl rfl
 | int _ k n hu hw=>obtain ⟨n',rfl⟩:=okWide_int hu hv; exact single rfl rfl
 | str _ s hu hs=>obtain ⟨s',rfl⟩:=okWide_string hu hv; exact single rfl rfl
 | nil _ e hu=>obtain ⟨a,l,c,rfl⟩:=okWide_slice hu hv; exact single rfl rfl
 | sl _ e es hu hs he=>obtain ⟨a,l,c,rfl⟩:=okWide_slice hu hv; exact single rfl rfl
 | struct _ fs qs hu hl hq =>
  obtain ⟨cs,rfl,hc⟩:=okWide_struct hu hv
  refine .agg _ cs (by have h1:(qs.flatMap PV.cells).length=cs.toList.length:=R.len; rw [h1]; simp) ?_ ?_
  ·intro i u hi
   exact R.one i u (by simpa [Value.cells] using hi)
  ·intro i c u hc hi
   exact R.rep i c u (by simpa [PV.cells] using hc) (by simpa [Value.cells] using hi)
inductive NoSy:PV→Prop
 | v (x:Value):NoSy (.v x)
 | agg (cs:List PV) (h:∀ c ∈ cs,NoSy c):NoSy (.agg cs)
 | sl (c:Bool) (es:List PV) (h:∀ e ∈ es,∀ q ∈ e.cells,NoSy q):NoSy (.sl c es)
end Go.Proofs.Yticljphbbdnomaa.VL
