import Derived.Test.YticljphbbdnomaaW1Vk
import Derived.MapKept
import Derived.Laws.Strings
import Derived.Laws.BytesArg
import Derived.Laws.RangeAny
import Derived.Laws.Externs
section
namespace Go.Proofs.Yticljphbbdnomaa.VL
open Go
set_option linter.unusedVariables false
set_option linter.unusedSimpArgs false
set_option linter.unusedSectionVars false
variable [Val]
variable {P:Program} {C:Ctx} {st:St} {a:Act} {E:Env} {K:PV→List Slot→Nat→Prop} {o:Oper}
def ekD:EK→TypeDesc→Bool
 | .i,.int _=>true
 | .b,.bool=>true
 | .s,.string=>true
 | _,_=>false
def cKey (P:Program) (t:TypeId):Option (EK×TypeId):=match P.underlying t with
 | some (.map kt et)=>match P.underlying kt with
  | some (.int _)=>some (.i,et)
  | some .bool=>some (.b,et)
  | some .string=>some (.s,et)
  | _=>none
 | _=>none
theorem cKey_spec {t et:TypeId} {k:EK} (h:cKey P t=some (k,et)):∃ kt d,P.underlying t=some (.map kt et)∧P.underlying kt=some d∧ekD k d=true:=by
 unfold cKey at h
 split at h
 ·rename_i kt et' h1
  split at h<;>first
   | (rename_i h2; cases h; exact ⟨kt,_,h1,h2,rfl⟩)
   | cases h
 ·cases h
theorem run_checkKey' {w:World} {kt:TypeId} {d:TypeDesc} {k:EK} (v:Value) (hd:P.underlying kt=some d) (hk:ekD k d=true) (e:Bool) (n:Nat):(Instr.checkKey e (n+1) kt v).run P w=.ok () w:=by
 unfold Instr.checkKey
 simp only [Sem.run_bind,run_underlying hd,Result.andThen]
 cases k<;>cases d<;>simp [ekD] at hk<;>simp
theorem toList_inj' {a b:ByteArray} (h:(a.toList==b.toList)=true):a=b:=by
 rw [beq_iff_eq] at h
 rw [ByteArray.toList_eq,ByteArray.toList_eq] at h
 cases a; cases b
 simp only at h
 rw [Array.toList_inj.1 h]
theorem same_now {k:EK} {d:TypeDesc} {p q:PV} {u v:Value} {r:Bool} (hd:ekD k d=true) (hp:Rep E p u) (hq:Rep E q v) (h:eqKind k p q=some r):Instr.sameNow d u v=some r∧(r=true→u=v):=by
 rcases eq_leaf hp hq h with ⟨rfl,kk,a,b,rfl,rfl,rfl⟩ | ⟨rfl,a,b,rfl,rfl,rfl⟩ | ⟨rfl,a,b,rfl,rfl,rfl⟩
 ·cases d<;>simp [ekD] at hd
  exact ⟨by simp [Instr.sameNow],fun h=>by rw [beq_iff_eq] at h; rw [h]⟩
 ·cases d<;>simp [ekD] at hd
  exact ⟨by simp [Instr.sameNow],fun h=>by rw [beq_iff_eq] at h; rw [h]⟩
 ·cases d<;>simp [ekD] at hd
  refine ⟨?_,fun h=>by rw [toList_inj' h]⟩
  simp only [Instr.sameNow,Option.some.injEq]
  have h1:=MapKept.bytes_beq a b
  cases h3:a==b<;>cases h4:a.toList==b.toList<;>try rfl
  ·have:=h1.2 (toList_inj' h4)
   rw [h3] at this; cases this
  ·have:=h1.1 h3
   subst this
   rw [beq_self_eq_true] at h4; cases h4
theorem find_now {k:EK} {d:TypeDesc} {key:PV} {u:Value} (hd:ekD k d=true) (hp:Rep E key u):∀ (l:List MapEntry) (ps:List (PV×PV)) (i:Nat) (r:Option Nat),l.length=ps.length→(∀ (j:Nat) (p:PV×PV) (e:MapEntry),ps[j]?=some p→l[j]?=some e→Rep E p.1 e.key)→mFind k key ps i=some r →
  (r=none∧Instr.findNow d u l i=some none)∨∃ m e,r=some (i+m)∧l[m]?=some e∧Instr.findNow d u l i=some (some (i+m,e.val))∧e.key=u
 | [],[],i,r,_,_,h=>by cases h; exact .inl ⟨rfl,rfl⟩
 | [],_::_,i,r,hl,_,h=>by simp at hl
 | _::_,[],i,r,hl,_,h=>by simp at hl
 | e::l,p::ps,i,r,hl,hr,h=>by
  simp only [mFind] at h
  have hk:=hr 0 p e rfl rfl
  split at h
  ·rename_i h1
   cases h
   obtain ⟨h2,h3⟩:=same_now hd hp hk h1
   exact .inr ⟨0,e,rfl,rfl,by simp [Instr.findNow,h2],(h3 rfl).symm⟩
  ·rename_i h1
   obtain ⟨h2,h3⟩:=same_now hd hp hk h1
   rcases find_now hd hp l ps (i+1) r (by simpa using hl) (fun j p' e' h4 h5=>hr (j+1) p' e' h4 h5) h with ⟨g1,g2⟩ | ⟨m,e',g1,g2,g3,g4⟩
   ·exact .inl ⟨g1,by simp [Instr.findNow,h2,g2]⟩
   ·exact .inr ⟨m+1,e',by rw [g1]; congr 1; omega,g2,by simp [Instr.findNow,h2,g3]; omega,g4⟩
  ·cases h
theorem out_mkm (I:InvE C st a E) {t et:TypeId} {r:Option Operand} {s:Nat} {k:EK} (ho:o.op=.makeMap t r) (hr:r=none∨∃ kk n,r=some (.const (.int kk n))) (hk:cKey P t=some (k,et)) (hK:opK st.ev st.h st.n K (.mkm s)):Out P o C st a E K:=by
 simp only [opK] at hK
 obtain ⟨h1,h2⟩:=hK
 obtain ⟨kt,d,g1,g2,g3⟩:=cKey_spec hk
 have I':=I.give (b:=s) h1 (k:=.map []) (en:=⟨E.w.heap.size,0,1,1⟩) (w':=E.w.alloc (.map #[] 0)) rfl rfl rfl (by simp) (fun r hr=>.inr (heap_alloc_old _ _ _ hr)) (fun _=>.inl ⟨Nat.le_refl _,by simp⟩)
  (fun hle=>⟨by simp,#[],0,heap_alloc_new _ _,rfl,fun i p e hp=>by simp at hp,fun i j e e' he=>by simp at he⟩)
 refine ⟨_,_,_,h2,.map (some E.w.heap.size),_,.value (.map (some E.w.heap.size)),?_,.inl rfl,I',.mp s st.n ⟨E.w.heap.size,0,1,1⟩ (by simp [giveAt])⟩
 rcases hr with rfl | ⟨kk,n,rfl⟩
 ·simp [execOp,ho,Instr.makeMap]
 ·have hu:a.eval (.const (.int kk n))=.int kk n:=rfl
  simp [execOp,ho,Instr.makeMap,hu,run_underlying g1,asInt,asIntOf]
theorem At.mapRow (G:Good E st.h st.n) {b s:Nat} {ps:List (PV×PV)} {en:Ent} (A:At E st.h b s (.map ps) en) :
  en.tot≠0∧∃ es clock,E.w.heap[en.rb]?=some (.map es clock)∧es.size=ps.length∧(∀ (i:Nat) (p:PV×PV) (e:MapEntry),ps[i]?=some p→es[i]?=some e→Rep E p.1 e.key∧Rep E p.2 e.val∧e.born < clock) ∧
   (∀ (i j:Nat) (e e':MapEntry),es[i]?=some e→es[j]?=some e'→e.born=e'.born→i=j):=(A.brep G).1
theorem rep_mp {b s:Nat} {u:Value} (h:Rep E (.mp b s) u):∃ en,E.σ s=some en∧u=.map (some en.rb):=by
 cases h with | mp _ _ en hb=>exact ⟨en,hb,rfl⟩
theorem out_lkp (I:InvE C st a E) {t et ty:TypeId} {x key:Operand} {x' key':Opd} {ok:Bool} {k:EK} {ie:TypeInfo} {z:Value} (ho:o.op=.lookup t x key ok) (hk:cKey P t=some (k,et)) (hi:P.info? et=some ie) (hz:ie.zero=some z) (hx:cOpd x=some x') (hy:cOpd key=some key')
  (hK:opK st.ev st.h st.n K (.lkp ok k (cVal z) x' key')):Out P o C st a E K:=by
 have hrx:=ev_rep I hx
 have hry:=ev_rep I hy
 obtain ⟨kt,d,g1,g2,g3⟩:=cKey_spec hk
 simp only [opK] at hK
 split at hK
 ·rename_i b s hev
  rw [hev] at hrx
  obtain ⟨ps,r,h1,h2,hK⟩:=hK
  obtain ⟨en,hσ,hu⟩:=rep_mp hrx
  obtain ⟨ht,es,clock,e1,e2,e3,e4⟩:=At.mapRow I.good ⟨h1,hσ⟩
  have hz0:(zeroValue et).run P E.w=.ok z E.w:=by simp [zeroValue,typeInfo,hi,hz]
  rcases find_now g3 hry es.toList ps 0 r (by simpa using e2) (fun j p e hp he=>(e3 j p e hp (by simpa using he)).1) h2 with ⟨rfl,f2⟩ | ⟨m,e,rfl,f1,f2,f3⟩
  ·refine Out.same I hK (u:=if ok then .tuple #[z,.bool false] else z) ?_ ?_
   ·simp only [execOp,ho,Instr.lookup,hu,Sem.run_bind,Sem.run_pure,Result.andThen_ok,run_underlying g1,MapKept.run_getObj_map e1,run_checkKey' _ g2 g3,MapKept.run_findKey g2 f2,hz0]
   ·have h0:=cVal_rep E z
    cases ok with
    | false=>exact h0
    | true =>
     refine .tup _ _ rfl ?_
     intro i c u hc hu
     match i with
     | 0=>simp at hc hu; subst hc hu; exact h0
     | 1=>simp at hc hu; subst hc hu; exact .v _
     | i+2=>simp at hu
  ·refine Out.same I hK (u:=if ok then .tuple #[e.val,.bool true] else e.val) ?_ ?_
   ·simp only [execOp,ho,Instr.lookup,hu,Sem.run_bind,Sem.run_pure,Result.andThen_ok,run_underlying g1,MapKept.run_getObj_map e1,run_checkKey' _ g2 g3,MapKept.run_findKey g2 f2]
   ·simp only [Nat.zero_add]
    have hm:m < ps.length:=by
     have:=(List.getElem?_eq_some_iff.1 f1).1
     simp at this; omega
    have h0:=(e3 m ps[m] e (List.getElem?_eq_getElem hm) (by simpa using f1)).2.1
    unfold lkV
    simp only [List.getElem?_eq_getElem hm]
    cases ok with
    | false=>exact h0
    | true =>
     refine .tup _ _ rfl ?_
     intro i c u hc hu
     match i with
     | 0=>simp at hc hu; subst hc hu; exact h0
     | 1=>simp at hc hu; subst hc hu; exact .v _
     | i+2=>simp at hu
 ·exact hK.elim
theorem heap_setMap_same (w:World) (g:Nat) {o o':Obj} (h:w.heap[g]?=some o):(w.heap.setIfInBounds g o')[g]?=some o':=(MapKept.heap_set h).1
theorem heap_setMap_ne (w:World) (g r:Nat) (o':Obj) (h:r≠g):(w.heap.setIfInBounds g o')[r]?=w.heap[r]?:=by
 simp [Ne.symm h]
theorem InvE.mapSet (I:InvE C st a E) {b s:Nat} {ps ps':List (PV×PV)} {en:Ent} (A:At E st.h b s (.map ps) en) {es':Array MapEntry} {clock':Nat}
  (hn:es'.size=ps'.length) (hr:∀ (i:Nat) (p:PV×PV) (e:MapEntry),ps'[i]?=some p→es'[i]?=some e→Rep E p.1 e.key∧Rep E p.2 e.val∧e.born < clock')
  (hd:∀ (i j:Nat) (e e':MapEntry),es'[i]?=some e→es'[j]?=some e'→e.born=e'.born→i=j) :
  InvE C ⟨st.t,st.h.set b (some (s,.map ps')),st.n⟩ a ⟨{ E.w with heap:=E.w.heap.setIfInBounds en.rb (.map es' clock') },E.σ,E.S⟩:=by
 obtain ⟨ht,es,clock,e1,_⟩:=At.mapRow I.good A
 refine I.upd A rfl rfl rfl (by simp) (fun r=>?_) (fun hle=>?_)
 ·by_cases hrr:r=en.rb
  ·exact .inl ⟨ht,hrr⟩
  ·exact .inr (heap_setMap_ne _ _ _ _ hrr)
 ·refine ⟨ht,es',clock',heap_setMap_same _ _ e1,hn,fun i p e hp he=>?_,hd⟩
  obtain ⟨q1,q2,q3⟩:=hr i p e hp he
  exact ⟨q1.mono hle,q2.mono hle,q3⟩
theorem out_mup (I:InvE C st a E) {t et:TypeId} {x key v:Operand} {x' key' v':Opd} {k:EK} (ho:o.op=.mapUpdate t x key v∨o.op=.insert t x key v) (hk:cKey P t=some (k,et)) (hx:cOpd x=some x') (hy:cOpd key=some key') (hv:cOpd v=some v')
  (hK:opK st.ev st.h st.n K (.mup k x' key' v')):Out P o C st a E K:=by
 have hrx:=ev_rep I hx
 have hry:=ev_rep I hy
 have hrv:=ev_rep I hv
 obtain ⟨kt,d,g1,g2,g3⟩:=cKey_spec hk
 have hop:∀ w,(execOp a.eval o).run P w=((Instr.mapUpdate t (a.eval x) (a.eval key) (a.eval v)).run P w).andThen fun _ w'=>.ok .skip w':=by
  intro w
  rcases ho with ho | ho<;>simp only [execOp,ho,Sem.run_bind]<;>rfl
 simp only [opK] at hK
 split at hK
 ·rename_i b s hev
  rw [hev] at hrx
  obtain ⟨ps,r,h1,h2,hK⟩:=hK
  obtain ⟨en,hσ,hu⟩:=rep_mp hrx
  have A:At E st.h b s (.map ps) en:=⟨h1,hσ⟩
  obtain ⟨ht,es,clock,e1,e2,e3,e4⟩:=At.mapRow I.good A
  rcases find_now g3 hry es.toList ps 0 r (by simpa using e2) (fun j p e hp he=>(e3 j p e hp (by simpa using he)).1) h2 with ⟨rfl,f2⟩ | ⟨m,e,rfl,f1,f2,f3⟩
  ·have I':=I.mapSet A (ps':=mPut ps none (st.ev key') (st.ev v')) (es':=es.push { key:=a.eval key,val:=a.eval v,born:=clock }) (clock':=clock+1) (by simp [mPut,e2]) (by
     intro i p e hp he
     rw [Array.getElem?_push] at he
     simp only [mPut,List.getElem?_append] at hp
     split at he
     ·rename_i hi
      cases he
      rw [if_neg (by omega)] at hp
      rw [hi,e2] at hp
      simp at hp
      subst hp
      exact ⟨hry,hrv,Nat.lt_succ_self _⟩
     ·rename_i hi
      have:i < ps.length:=by have:=(Array.getElem?_eq_some_iff.1 he).1; omega
      rw [if_pos this] at hp
      obtain ⟨q1,q2,q3⟩:=e3 i p e hp he
      exact ⟨q1,q2,by omega⟩) (by
     intro i j e e' he he' hb
     rw [Array.getElem?_push] at he he'
     have old:∀ (i:Nat) (e:MapEntry),es[i]?=some e→e.born < clock:=by
      intro i e he
      have hi:i < ps.length:=by have:=(Array.getElem?_eq_some_iff.1 he).1; omega
      exact (e3 i _ e (List.getElem?_eq_getElem hi) he).2.2
     split at he<;>split at he'
     ·omega
     ·cases he
      have:=old _ _ he'
      simp only at hb; omega
     ·cases he'
      have:=old _ _ he
      simp only at hb; omega
     ·exact e4 i j e e' he he' hb)
   refine ⟨_,_,_,hK,undef,_,.skip,?_,.inr ⟨rfl,rfl⟩,I',.v _⟩
   rw [hop,hu]
   simp only [Instr.mapUpdate,Sem.run_bind,Sem.run_pure,Result.andThen_ok,run_underlying g1,MapKept.run_getObj_map e1,run_checkKey' _ g2 g3,MapKept.run_findKey g2 f2,MapKept.run_setObj_map _ e1]
  ·have hj:es[m]?=some e:=by simpa using f1
   have hkt:(Instr.keyThatStays (a.eval key) (a.eval key)).run P E.w=.ok (a.eval key) E.w:=by
    have hm:m < ps.length:=by have:=(Array.getElem?_eq_some_iff.1 hj).1; omega
    have hkey:MapKept.IsKey (match k with | .i=>(match a.eval key with | .int kk _=>.int kk | _=>d) | _=>d) (a.eval key)∨True:=.inr trivial
    have:Instr.sameBits 10000 (a.eval key) (a.eval key)=true:=by
     have hcmp:∃ q,eqKind k (st.ev key') q≠none:=by
      clear hK
      have:∀ (ps:List (PV×PV)) (i:Nat) (r:Nat),mFind k (st.ev key') ps i=some (some r)→∃ q,eqKind k (st.ev key') q≠none:=by
       intro ps
       induction ps with
       | nil=>intro i r h; cases h
       | cons p ps ih =>
        intro i r h
        simp only [mFind] at h
        split at h
        ·rename_i h1; exact ⟨p.1,by rw [h1]; simp⟩
        ·rename_i h1; exact ⟨p.1,by rw [h1]; simp⟩
        ·cases h
      exact this ps 0 _ h2
     obtain ⟨q,hq⟩:=hcmp
     generalize st.ev key'=p at hq hry
     generalize a.eval key=u at hry
     unfold eqKind at hq
     split at hq<;>first
      | (rw [rep_v hry]; simp [Instr.sameBits]; done)
      | (rw [rep_v hry]; simp only [Instr.sameBits]; exact (MapKept.bytes_beq _ _).2 rfl)
      | exact absurd rfl hq
    simp [Instr.keyThatStays,this]
   have I':=I.mapSet A (ps':=mPut ps (some (0+m)) (st.ev key') (st.ev v')) (es':=es.modify m fun e=>{ e with key:=a.eval key,val:=a.eval v }) (clock':=clock) (by simp [mPut,e2]) (by
     intro i p e' hp he
     rw [Array.getElem?_modify] at he
     simp only [mPut,Nat.zero_add,List.getElem?_set] at hp
     split at he
     ·rename_i hi
      subst hi
      rw [hj] at he
      simp at he
      subst he
      have hm:m < ps.length:=by have:=(Array.getElem?_eq_some_iff.1 hj).1; omega
      simp [hm] at hp
      subst hp
      exact ⟨hry,hrv,(e3 m _ e (List.getElem?_eq_getElem hm) hj).2.2⟩
     ·rename_i hi
      rw [if_neg hi] at hp
      exact e3 i p e' hp he) (by
     intro i j x y he he' hb
     rw [Array.getElem?_modify] at he he'
     have back:∀ (i:Nat) (x:MapEntry),(if m=i then Option.map (fun e=>{ e with key:=a.eval key,val:=a.eval v }) es[i]? else es[i]?)=some x→∃ x0,es[i]?=some x0∧x0.born=x.born:=by
      intro i x h
      split at h
      ·simp only [Option.map_eq_some_iff] at h
       obtain ⟨x0,h1,rfl⟩:=h
       exact ⟨x0,h1,rfl⟩
      ·exact ⟨x,h,rfl⟩
     obtain ⟨x0,q1,q2⟩:=back i x he
     obtain ⟨y0,q3,q4⟩:=back j y he'
     exact e4 i j x0 y0 q1 q3 (by omega))
   refine ⟨_,_,_,hK,undef,_,.skip,?_,.inr ⟨rfl,rfl⟩,I',.v _⟩
   rw [hop,hu]
   simp only [Instr.mapUpdate,Sem.run_bind,Sem.run_pure,Result.andThen_ok,run_underlying g1,MapKept.run_getObj_map e1,run_checkKey' _ g2 g3,MapKept.run_findKey g2 f2,MapKept.run_setObj_map _ e1,Nat.zero_add,hj,Option.map_some,Option.getD_some,f3,hkt]
 ·exact hK.elim
theorem erase_get {α:Type} (l:List α) (m i:Nat):(l.eraseIdx m)[i]?=l[if i < m then i else i+1]?:=by
 rw [List.getElem?_eraseIdx]; split<;>rfl
theorem out_del (I:InvE C st a E) {t et t':TypeId} {x key:Operand} {x' key':Opd} {k:EK} {cl:Call} (ho:o.op=.call cl) (hcl:cl.callee=.builtin .delete) (hargs:cl.args=#[x,key]) (hat:cl.argTypes=#[t,t']) (hk:cKey P t=some (k,et)) (hx:cOpd x=some x') (hy:cOpd key=some key')
  (hK:opK st.ev st.h st.n K (.del k x' key')):Out P o C st a E K:=by
 have hrx:=ev_rep I hx
 have hry:=ev_rep I hy
 obtain ⟨kt,d,g1,g2,g3⟩:=cKey_spec hk
 simp only [opK] at hK
 split at hK
 ·rename_i b s hev
  rw [hev] at hrx
  obtain ⟨ps,r,h1,h2,hK⟩:=hK
  obtain ⟨en,hσ,hu⟩:=rep_mp hrx
  have A:At E st.h b s (.map ps) en:=⟨h1,hσ⟩
  obtain ⟨ht,es,clock,e1,e2,e3,e4⟩:=At.mapRow I.good A
  rcases find_now g3 hry es.toList ps 0 r (by simpa using e2) (fun j p e hp he=>(e3 j p e hp (by simpa using he)).1) h2 with ⟨rfl,f2⟩ | ⟨m,e,rfl,f1,f2,f3⟩
  ·have I':=I.mapSet A (ps':=mDel ps none) (es':=es) (clock':=clock) e2 e3 e4
   refine ⟨_,_,_,hK,.tuple #[],_,.value (.tuple #[]),?_,.inl rfl,I',.tup [] #[] rfl (fun i c u hc=>by simp at hc)⟩
   simp [execOp,ho,resolve,hcl,hargs,hat,hu,invoke,builtin,Builtin.delete_,run_underlying g1,MapKept.run_getObj_map e1,run_checkKey' _ g2 g3,MapKept.run_findKey g2 f2,MapKept.run_setObj_map _ e1]
  ·have hj:es[m]?=some e:=by simpa using f1
   have hms:m < es.size:=(Array.getElem?_eq_some_iff.1 hj).1
   have hget:∀ i,(es.eraseIdxIfInBounds m)[i]?=es[if i < m then i else i+1]?:=by
    intro i
    have:(es.eraseIdxIfInBounds m).toList=es.toList.eraseIdx m:=by
     simp [Array.eraseIdxIfInBounds,hms,Array.toList_eraseIdx]
    rw [← Array.getElem?_toList,this,erase_get,Array.getElem?_toList]
   have hsz:(es.eraseIdxIfInBounds m).size=ps.length - 1:=by
    unfold Array.eraseIdxIfInBounds
    rw [dif_pos hms,Array.size_eraseIdx,e2]
   have I':=I.mapSet A (ps':=mDel ps (some (0+m))) (es':=es.eraseIdxIfInBounds m) (clock':=clock) (by
     simp only [mDel,Nat.zero_add,hsz,List.length_eraseIdx]
     rw [if_pos (by omega)]) (by
     intro i p e' hp he
     rw [hget] at he
     simp only [mDel,Nat.zero_add,erase_get] at hp
     exact e3 _ p e' hp he) (by
     intro i j x y he he' hb
     rw [hget] at he he'
     have:=e4 _ _ x y he he' hb
     split at this<;>split at this<;>omega)
   refine ⟨_,_,_,hK,.tuple #[],_,.value (.tuple #[]),?_,.inl rfl,I',.tup [] #[] rfl (fun i c u hc=>by simp at hc)⟩
   simp [execOp,ho,resolve,hcl,hargs,hat,hu,invoke,builtin,Builtin.delete_,run_underlying g1,MapKept.run_getObj_map e1,run_checkKey' _ g2 g3,MapKept.run_findKey g2 f2,MapKept.run_setObj_map _ e1]
 ·exact hK.elim
theorem out_lenM (I:InvE C st a E) {t kt et:TypeId} {x:Operand} {x':Opd} {cl:Call} (ho:o.op=.call cl) (hc:cl.callee=.builtin .len) (ha:cl.args=#[x]) (hat:cl.argTypes=#[t]) (ht:P.underlying t=some (.map kt et)) (hx:cOpd x=some x') (hK:opK st.ev st.h st.n K (.lenM x')):Out P o C st a E K:=by
 have hrx:=ev_rep I hx
 simp only [opK] at hK
 split at hK
 ·rename_i b s hev
  rw [hev] at hrx
  obtain ⟨ps,h1,hK⟩:=hK
  obtain ⟨en,hσ,hu⟩:=rep_mp hrx
  obtain ⟨_,es,clock,e1,e2,e3,e4⟩:=At.mapRow I.good ⟨h1,hσ⟩
  refine Out.same I hK ?_ (.v _)
  rw [← e2]
  simp [execOp,ho,resolve,hc,ha,hat,hu,invoke,builtin,Builtin.len_,run_underlying ht,goInt,MapKept.run_getObj_map e1]
 ·exact hK.elim
theorem zero_rows {z:Value} (hs:(cVal z).stor=true) (n:Nat):Rows' E (List.replicate n (cVal z)) (cVal z).cells.length (Builtin.zeroCells z.cells n).toList:=by
 obtain ⟨c1,c2,c3⟩:=rep_cells (cVal_rep E z) hs
 obtain ⟨q1,q2⟩:=zeroCells_one hs n
 refine ⟨by simp [q1],?_,?_⟩
 ·intro x hx
  obtain ⟨i,hi,rfl⟩:=List.getElem_of_mem hx
  exact q2 i _ (by simp at hi; simp [hi])
 ·intro i e j c he hc
  rw [List.getElem?_replicate] at he
  split at he
  ·rename_i hi
   cases he
   have hj:j < (cVal z).cells.length:=(List.getElem?_eq_some_iff.1 hc).1
   have hlt:i * (cVal z).cells.length+j < (Builtin.zeroCells z.cells n).size:=by
    rw [q1]; have:=row_fits (sz:=(cVal z).cells.length) (j:=j+1) hi (by omega); omega
   refine ⟨(Builtin.zeroCells z.cells n)[i * (cVal z).cells.length+j],by simp [hlt],?_⟩
   have:z.cells[j]?=some ((Builtin.zeroCells z.cells n)[i * (cVal z).cells.length+j]):=by
    have hmod:(i * (cVal z).cells.length+j) % z.cells.size=j:=by
     rw [c1,Nat.mul_comm,Nat.mul_add_mod]; exact Nat.mod_eq_of_lt hj
    simp only [Builtin.zeroCells,Array.getElem_map,Array.getElem_range]
    rw [hmod]
    rw [getElem!_pos z.cells j (by omega)]
    rw [Array.getElem?_eq_getElem (by omega)]
   exact c3 j c _ hc this
  ·cases he
theorem out_clr (I:InvE C st a E) {t e:TypeId} {ie:TypeInfo} {z:Value} {x:Operand} {x':Opd} {cl:Call} (ho:o.op=.call cl) (hcl:cl.callee=.builtin .clear) (hargs:cl.args=#[x]) (hat:cl.argTypes=#[t])
  (ht:P.underlying t=some (.slice e)) (hi:P.info? e=some ie) (hz:ie.zero=some z) (hx:cOpd x=some x') (hK:opK st.ev st.h st.n K (.clr ie.size (cVal z) x')):Out P o C st a E K:=by
 have hrx:=ev_rep I hx
 have hz0:∀ w,(zeroValue e).run P w=.ok z w:=fun w=>by simp [zeroValue,typeInfo,hi,hz]
 have run0:∀ {ad:Option Addr} {m:Nat},a.eval x=.slice ad 0 m→(execOp a.eval o).run P E.w=.ok (.value (.tuple #[])) E.w:=by
  intro ad m hu
  cases ad<;>simp [execOp,ho,resolve,hcl,hargs,hat,hu,invoke,builtin,Builtin.clear_,run_underlying ht]
 simp only [opK] at hK
 obtain ⟨hzl,hzs,hK⟩:=hK
 split at hK
 ·rename_i b s sz' off len cap hev
  rw [hev] at hrx
  obtain ⟨rfl,es,h1,h2,hK⟩:=hK
  obtain ⟨en,c,ad,hu,hσ,hsz,had,hn,hlen,hc,htot,hcapn⟩:=rep_own hrx
  have A:At E st.h b s (.cells es) en:=⟨h1,hσ⟩
  by_cases hl:len=0
  ·subst hl
   refine ⟨_,_,_,hK,.tuple #[],E,.value (.tuple #[]),run0 hu,.inl rfl,?_,.tup [] #[] rfl (fun i c u hc=>by simp at hc)⟩
   have:st.h.set b (some (s,Blk.cells (es.take off++List.replicate 0 (cVal z)++es.drop (off+0))))=st.h:=by
    simp only [List.replicate_zero,List.append_nil,Nat.add_zero,List.take_append_drop]
    apply List.ext_getElem?
    intro i
    rw [List.getElem?_set]
    split
    ·rename_i hbi
     subst hbi
     rw [h1,if_pos (List.getElem?_eq_some_iff.1 h1).1]
    ·rfl
   rw [this]; exact I
  ·have hc0:c≠0:=by omega
   have ha:=had hc0
   subst ha
   have hR:Rows' E (List.replicate len (cVal z)) en.sz (Builtin.zeroCells z.cells len).toList:=by
    have:=zero_rows (E:=E) hzs len
    rwa [hzl,← hsz] at this
   obtain ⟨arr,ty,s1,s2,I'⟩:=I.splice A (p:=off) hR (fun e he=>by rw [(List.mem_replicate.1 he).2,hzl,hsz]) (by simpa using h2) (by omega)
   rw [List.length_replicate] at I'
   refine ⟨_,_,_,hK,.tuple #[],_,.value (.tuple #[]),?_,.inl rfl,I',.tup [] #[] rfl (fun i c u hc=>by simp at hc)⟩
   have hst:=run_store_rows (P:=P) s1 s2 hR.2.1
   obtain ⟨l0,rfl⟩:∃ l0,len=l0+1:=⟨len - 1,by omega⟩
   simp only [execOp,ho,resolve,hcl,hargs,hat,Sem.run_bind,Sem.run_pure,Result.andThen_ok]
   simp [hu,invoke,builtin,Builtin.clear_,run_underlying ht,hz0,hst]
 ·rename_i hev
  rw [hev] at hrx
  obtain ⟨ad,m,hu,_⟩:=rep_sl hrx
  exact Out.same I hK (run0 hu) (.tup [] #[] rfl (fun i c u hc=>by simp at hc))
 ·exact hK.elim
theorem bytesOf_get:∀ {es:List PV} {ns:List Int},bytesOf es=some ns→es=ns.map fun n=>.v (.int .u8 n)
 | [],ns,h=>by cases h; rfl
 | p::r,ns,h=>by
  simp only [bytesOf] at h
  split at h
  ·rename_i n l h1 h2
   cases h
   have:=bytesOf_get h2
   unfold byteOf at h1
   split at h1
   ·cases h1; rw [List.map_cons,← this]
   ·cases h1
  ·cases h
theorem out_bts (I:InvE C st a E) {s t e:TypeId} {x:Operand} {x':Opd} (ho:o.op=.convert s t x) (hs:P.underlying s=some (.slice e)) (he:P.underlying e=some (.int .u8)) (ht:P.underlying t=some .string) (hx:cOpd x=some x') (hK:opK st.ev st.h st.n K (.bts x')):Out P o C st a E K:=by
 have hrx:=ev_rep I hx
 simp only [opK] at hK
 obtain ⟨es,ns,h1,h2,hK⟩:=hK
 have h3:=bytesOf_get h2
 have hl:es.length=ns.length:=by rw [h3]; simp
 obtain ⟨ad,m,hu,hf⟩:=elems_cells (P:=P) I hrx h1 (sz:=1) (fun e he=>by rw [h3,List.mem_map] at he; obtain ⟨n,_,rfl⟩:=he; rfl) (by omega)
 obtain ⟨news,hR,hrun⟩:=hf es.length (Nat.le_refl _)
 have hrun:=hrun E.w rfl
 rw [List.take_length] at hR
 have hnews:news=ns.map (Value.int .u8):=by
  obtain ⟨r1,_,r3⟩:=hR
  apply List.ext_getElem?
  intro i
  by_cases hi:i < ns.length
  ·obtain ⟨x,hx1,hx2⟩:=r3 i (.v (.int .u8 ns[i])) 0 (.v (.int .u8 ns[i])) (by rw [h3]; simp [hi]) rfl
   simp only [Nat.mul_one,Nat.add_zero] at hx1
   rw [hx1,rep_v hx2]
   simp [hi]
  ·rw [List.getElem?_eq_none (by omega),List.getElem?_eq_none (by simp; omega)]
 subst hnews
 refine Out.same I hK ?_ (.v _)
 rw [hu] at hrun
 simp only [execOp,ho,hu,Sem.run_bind]
 cases ad with
 | none =>
  have hn:ns=[]:=by
   simp only [Builtin.firstCells,Sem.run_pure,Result.ok.injEq,and_true] at hrun
   have:=congrArg Array.size hrun
   simp at this
   exact List.eq_nil_of_length_eq_zero (by omega)
  subst hn
  rw [run_convert_bytes_nil E.w s e hs he _ _ t ht]
  rfl
 | some ad =>
  have hlc:(loadCells ad es.length).run P E.w=.ok (ns.map (Value.int .u8)).toArray E.w:=by
   simp only [Builtin.firstCells,Nat.mul_one] at hrun; exact hrun
  rw [run_convert_bytes_string E.w s t e _ _ _ hs he ht,run_bytesToString E.w ad _ m ns hlc,foldl_push_bytes]
  simp only [Result.andThen_ok,Sem.run_pure]
  have:(⟨ByteArray.empty.data++(ns.map fun n=>UInt8.ofNat n.toNat).toArray⟩:ByteArray)=txtOf ns:=by
   simp [txtOf,ByteArray.empty,ByteArray.emptyWithCapacity]
   rfl
  rw [this]
theorem out_rngS (I:InvE C st a E) {t:TypeId} {x:Operand} {x':Opd} {s:Nat} (ho:o.op=.range t x) (ht:P.underlying t=some .string) (hx:cOpd x=some x') (hK:opK st.ev st.h st.n K (.rngS s x')):Out P o C st a E K:=by
 have hrx:=ev_rep I hx
 simp only [opK] at hK
 split at hK
 ·rename_i tx hev
  rw [hev] at hrx
  have hu:=rep_v hrx
  obtain ⟨h1,h2⟩:=hK
  have I':=I.give (b:=s) h1 (k:=.iter tx 0) (en:=⟨E.w.heap.size,0,1,1⟩) (w':=E.w.alloc (.stringIter tx 0)) rfl rfl rfl (by simp) (fun r hr=>.inr (heap_alloc_old _ _ _ hr)) (fun _=>.inl ⟨Nat.le_refl _,by simp⟩)
   (fun hle=>⟨by simp,rfl,heap_alloc_new _ _⟩)
  refine ⟨_,_,_,h2,.pointer (some ⟨E.w.heap.size,0,none⟩),_,.value (.pointer (some ⟨E.w.heap.size,0,none⟩)),?_,.inl rfl,I',?_⟩
  ·simp [execOp,ho,Instr.range,hu,run_underlying ht]
  ·have:=Rep.optr (E:=⟨E.w.alloc (.stringIter tx 0),giveAt E.σ st.n ⟨E.w.heap.size,0,1,1⟩,E.S⟩) s st.n 0 0 ⟨E.w.heap.size,0,1,1⟩ (by simp [giveAt])
   simpa using this
 ·exact hK.elim
theorem out_nxtS (I:InvE C st a E) {x:Operand} {x':Opd} (ho:o.op=.next x true) (hx:cOpd x=some x') (hK:opK st.ev st.h st.n K (.nxtS x')):Out P o C st a E K:=by
 have hrx:=ev_rep I hx
 simp only [opK] at hK
 split at hK
 ·rename_i b s hev
  rw [hev] at hrx
  obtain ⟨t,pos,h1,hK⟩:=hK
  obtain ⟨en,hσ,hu⟩:=rep_optr hrx
  have A:At E st.h b s (.iter t pos) en:=⟨h1,hσ⟩
  obtain ⟨⟨e1,e2,e3⟩,_⟩:=A.brep I.good
  have hu':a.eval x=.pointer (some ⟨en.rb,0,none⟩):=by rw [hu,e2]; simp
  have hget:(getObj en.rb).run P E.w=.ok (.stringIter t pos) E.w:=by simp [getObj,Sem.run,e3]
  split at hK
  ·rename_i hlt
   have I':=I.upd A (k':=.iter t (pos+(Utf8.decode t pos).2)) (w':={ E.w with heap:=E.w.heap.setIfInBounds en.rb (.stringIter t (pos+(Utf8.decode t pos).2)) }) rfl rfl rfl (by simp) (fun r=>by
     by_cases hr:r=en.rb
     ·exact .inl ⟨e1,hr⟩
     ·exact .inr (heap_setMap_ne _ _ _ _ hr)) (fun hle=>⟨e1,e2,heap_setMap_same _ _ e3⟩)
   have hset:(setObj en.rb (.stringIter t (pos+(Utf8.decode t pos).2))).run P E.w=.ok () { E.w with heap:=E.w.heap.setIfInBounds en.rb (.stringIter t (pos+(Utf8.decode t pos).2)) }:=by
    simp [setObj,Sem.run,e3]
   refine ⟨_,_,_,hK,.tuple #[.bool true,.int .i64 pos,.int .i32 (Utf8.decode t pos).1],_,.value (.tuple #[.bool true,.int .i64 pos,.int .i32 (Utf8.decode t pos).1]),?_,.inl rfl,I',?_⟩
   ·simp only [execOp,ho,Instr.next,hu',Sem.run_bind,hget,Result.andThen_ok]
    rw [if_pos hlt]
    simp only [Sem.run_bind,hset,Result.andThen_ok,Sem.run_pure]
    simp [goInt]
   ·refine .tup _ _ rfl ?_
    intro i c u hc hu
    match i with
    | 0=>simp at hc hu; subst hc hu; exact .v _
    | 1=>simp at hc hu; subst hc hu; exact .v _
    | 2=>simp at hc hu; subst hc hu; exact .v _
    | i+3=>simp at hu
  ·rename_i hlt
   refine Out.same I hK (u:=.tuple #[.bool false]) ?_ ?_
   ·simp only [execOp,ho,Instr.next,hu',Sem.run_bind,hget,Result.andThen_ok]
    rw [if_neg hlt]
    simp
   ·refine .tup _ _ rfl ?_
    intro i c u hc hu
    match i with
    | 0=>simp at hc hu; subst hc hu; exact .v _
    | i+1=>simp at hu
 ·exact hK.elim
end Go.Proofs.Yticljphbbdnomaa.VL
end
section
namespace Go.Proofs.Yticljphbbdnomaa.VL
open Go
set_option linter.unusedVariables false
set_option linter.unusedSimpArgs false
set_option linter.unusedSectionVars false
variable [Val]
variable {P:Program} {C:Ctx} {st:St} {a:Act} {E:Env} {K:PV→List Slot→Nat→Prop} {o:Oper}
theorem run_apz_new {t t' e ty:TypeId} {k k':IntKind} {ie:TypeInfo} {z:Value} (ht:P.underlying t=some (.slice e)) (ht':P.underlying t'=some (.int k)) (hi:P.info? e=some ie) (hz:ie.zero=some z) {base:Option Addr} {sLen sCap m:Nat} {olds:List Value} {w:World}
  (hfo:(Builtin.firstCells ie.size sLen (.slice base sLen sCap)).run P w.drew=.ok olds.toArray w.drew)
  (hm:0 < m) (hs:0 < ie.size) (h:sCap < sLen+m) (h1:(sLen+m) * ie.bytes≤70368744177664) (h2:sLen+m≤70368744177664) :
  ∃ arr newCap,(Builtin.append_ #[t,t'] ty #[.slice base sLen sCap,.int k' (m:Int)]).run P w=.ok (.slice (some ⟨w.heap.size,0,none⟩) (sLen+m) newCap) (w.drew.alloc (.cells arr e))∧sLen+m≤newCap ∧
   arr=(olds++(Builtin.zeroCells z.cells m).toList).toArray++Builtin.zeroCells z.cells (newCap - (sLen+m)):=by
 have hn:¬ (sLen+m≤sCap):=by omega
 have hw:IntKind.i64.wrap (m:Int)=(m:Int):=by rw [IntKind.wrap_i64]; omega
 have h63':¬ (9223372036854775807 < ((sLen:Int)+(m:Int))):=by omega
 have h48':¬ (281474976710656 < Builtin.nextslicecap (sLen+m) sCap * ie.bytes):=by
  have:=growslice_fits (need:=sLen+m) (old:=sCap) (bytes:=ie.bytes) h (by omega)
  omega
 have hb:m * ie.bytes≤(sLen+m) * ie.bytes:=Nat.mul_le_mul_right _ (by omega)
 have h48:¬ (281474976710656 < (m:Int) * (ie.bytes:Int)):=by
  have:((m * ie.bytes:Nat):Int)≤70368744177664:=by omega
  rw [Int.natCast_mul] at this
  omega
 have hn0:¬ ((m:Int) < 0):=by omega
 have hm0:¬ (m=0):=by omega
 have hs0:¬ (ie.size=0):=by omega
 have hms:¬ (m * ie.size=0):=by have:=Nat.mul_pos hm hs; omega
 refine ⟨_,grownCap w (sLen+m) sCap e,?_,grownCap_ge w _ _ e,rfl⟩
 simp [Builtin.append_,run_underlying ht,run_underlying ht',sizeOf,typeInfo,zeroValue,hi,hz,asInt,asIntOf,hw,hn0,h48,hn,h63',h48',hm0,hs0,Question.forced,hfo,newRow,grownCap]
 rw [if_neg hms]
 congr 3
 apply Array.ext'
 simp
theorem rows_zero {z:Value} (hs:(cVal z).stor=true) {sz:Nat} (hsz:(cVal z).cells.length=sz) (m:Nat):Rows' E (List.replicate m (cVal z)) sz (Builtin.zeroCells z.cells m).toList:=by
 obtain ⟨c1,c2,c3⟩:=cVal_cells (E:=E) hs
 obtain ⟨z1,z2⟩:=zeroCells_one hs m
 refine ⟨by simp only [Array.length_toList,z1,hsz,List.length_replicate],fun x hx=>?_,fun i e j c he hc=>?_⟩
 ·obtain ⟨i,hi⟩:=List.getElem?_of_mem hx
  exact z2 i x (by simpa using hi)
 ·rw [List.getElem?_replicate] at he
  split at he
  ·rename_i hlt
   cases he
   have hj:j < sz:=by have:=(List.getElem?_eq_some_iff.1 hc).1; omega
   have hzs:z.cells.size=sz:=by rw [c1,hsz]
   have hlt2:i * sz+j < m * z.cells.size:=by
    rw [hzs]
    have:=Nat.mul_le_mul_right sz (show i+1≤m by omega)
    rw [Nat.add_mul] at this
    omega
   have hmod:(i * sz+j) % z.cells.size=j:=by
    rw [hzs,Nat.mul_comm,Nat.mul_add_mod,Nat.mod_eq_of_lt hj]
   refine ⟨z.cells[j]'(by omega),?_,c3 j c _ hc (by rw [Array.getElem?_eq_getElem (by omega)])⟩
   simp only [Builtin.zeroCells,Array.getElem?_toList,Array.getElem?_map,Array.getElem?_range,if_pos hlt2,Option.map_some,hmod]
   rw [getElem!_pos z.cells j (by omega)]
  ·cases he
theorem out_apz (I:InvE C st a E) {t t' e:TypeId} {k:IntKind} {ie:TypeInfo} {z:Value} {s:Nat} {x y:Operand} {x' y':Opd} {cl:Call} (ho:o.op=.call cl) (hcl:cl.callee=.builtin .append) (hargs:cl.args=#[x,y]) (hat:cl.argTypes=#[t,t'])
  (ht:P.underlying t=some (.slice e)) (ht':P.underlying t'=some (.int k)) (hi:P.info? e=some ie) (hz:ie.zero=some z) (hx:cOpd x=some x') (hy:cOpd y=some y')
  (hK:opK st.ev st.h st.n K (.apz s ie.size ie.bytes (cVal z) x' y')):Out P o C st a E K:=by
 have hrx:=ev_rep I hx
 have hry:=ev_rep I hy
 have exec:∀ {u v:Value} {r:Value} {w':World},a.eval x=u→a.eval y=v→(Builtin.append_ #[t,t'] o.type #[u,v]).run P E.w=.ok r w'→(execOp a.eval o).run P E.w=.ok (.value r) w':=by
  intro u v r w' hu hv hr
  simp [execOp,ho,resolve,hcl,hargs,hat,invoke,builtin,hu,hv,hr]
 simp only [opK] at hK
 split at hK
 case h_2=>exact hK.elim
 rename_i b sx sz' off len cap ky m hex hey
 rw [hex] at hrx
 rw [hey] at hry
 obtain ⟨g1,g2,rfl,g3,g4,g5,g6,k3,k4,es,k1,k2,hK⟩:=hK
 obtain ⟨m,rfl⟩:∃ n:Nat,m=n:=⟨m.toNat,by omega⟩
 simp only [Int.toNat_natCast] at g6 k3 k4 hK
 have hv:=rep_v hry
 obtain ⟨en,c,ad0,hu,hσ,hsz,had,hn,hlen,hc,htot,hcapn⟩:=rep_own hrx
 obtain rfl:=hc cap rfl
 have A:At E st.h b sx (.cells es) en:=⟨k1,hσ⟩
 obtain ⟨⟨b1,b2,b3,b4⟩,_⟩:=A.brep I.good
 have hsub:∀ e ∈ (es.drop off).take len,e.cells.length=ie.size:=by
  intro e he
  have:=List.mem_of_mem_take he
  have:=List.mem_of_mem_drop this
  obtain ⟨i,hi',rfl⟩:=List.getElem_of_mem this
  rw [b3 i _ (List.getElem?_eq_getElem hi')]; exact hsz
 obtain ⟨ad1,m1,hu1,hrows1⟩:=elems_cells (P:=P) I hrx (ys:=(es.drop off).take len) (by simp [elems,k1,k2]) hsub g2
 have hl:((es.drop off).take len).length=len:=by simp; omega
 obtain ⟨olds,hRo,hfo⟩:=hrows1 len (by omega)
 rw [List.take_of_length_le (by omega)] at hRo
 rw [hu] at hu1
 injection hu1 with e1 e2 e3
 subst e1; subst e3
 rw [hu] at hfo
 have q2:((es.drop off).take len++List.replicate m (cVal z)).length=len+m:=by simp; omega
 obtain ⟨arr,newCap,hrun,hcap,harr⟩:=run_apz_new (ty:=o.type) (P:=P) (k':=ky) ht ht' hi hz (hfo E.w.drew rfl) (by omega) g2 g6 k3 k4
 have hzr:∀ e ∈ List.replicate m (cVal z),e.cells.length=ie.size:=by
  intro e he
  rw [(List.mem_replicate.1 he).2]; exact g3
 have I':=I.appBlk g1 (e:=e) (newCap:=newCap) g2 g4 g3 (hRo.append (rows_zero g4 g3 m) hsub) (fun e he=>(List.mem_append.1 he).elim (hsub e) (hzr e)) (by rw [q2]; exact hcap)
 rw [q2] at I'
 subst harr
 refine ⟨_,_,_,hK,_,_,_,exec (w':=(Env.w _)) hu hv hrun,.inl rfl,I',?_⟩
 have:=Rep.own (E:=⟨E.w.drew.alloc (.cells ((olds++(Builtin.zeroCells z.cells m).toList).toArray++Builtin.zeroCells z.cells (newCap - (len+m))) e),giveAt E.σ st.n ⟨E.w.heap.size,0,ie.size,newCap⟩,E.S⟩) s st.n 0 (len+m) none ⟨E.w.heap.size,0,ie.size,newCap⟩ newCap (some ⟨E.w.heap.size,0,none⟩) (by simp [giveAt]) (fun _=>by simp) (by simp) hcap (by simp) (by simp) (by simp)
 exact this
def ovlF (P:Program) (f:FuncId):Bool:=match P.funcs[f]? with
 | some fn=>fn.body.isNone&&(fn.origin == "slices.overlaps" && (!(fn.name == "runtime.NumGoroutine")&&((Extern.findNext fn).isNone &&
   ((Extern.allGenericRows.lookup fn.name).isNone&&((Extern.allTypedRows.lookup fn.name).isNone&&((Extern.allRows.lookup fn.name).isNone &&
    (match fn.params[0]? with | some t=>(match P.underlying t with | some (.slice e)=>(match P.info? e with | some i=>i.size != 0 | none=>false) | _=>false) | none=>false)))))))
 | none=>false
theorem find_ovl {fn:Func} (ho:fn.origin = "slices.overlaps") (h1:(Extern.allGenericRows.lookup fn.name).isNone=true) (h2:(Extern.allTypedRows.lookup fn.name).isNone=true) (h3:(Extern.allRows.lookup fn.name).isNone=true) :
  Extern.find fn=some (Extern.SlicesOverlaps.overlaps fn.params fn.resultTypes):=by
 have e0:Extern.allGenericRows.lookup "slices.overlaps" = none:=by kernel_rfl
 have e1:Extern.allTypedRows.lookup "slices.overlaps" = some Extern.SlicesOverlaps.overlaps:=by kernel_rfl
 unfold Extern.find
 simp only [Option.isNone_iff_eq_none] at h1 h2 h3
 simp only [h1,h2,h3,ho,e0,e1,Option.map_none,Option.map_some,Option.orElse_eq_orElse,Option.orElse_eq_or,Option.none_or,Option.some_or]
theorem out_ovl (I:InvE C st a E) {f:FuncId} {x y:Operand} {x' y':Opd} {cl:Call} (ho:o.op=.call cl) (hcl:cl.callee=.value (.func f)) (hargs:cl.args=#[x,y]) (hf:ovlF P f=true)
  (hx:cOpd x=some x') (hy:cOpd y=some y') (hK:opK st.ev st.h st.n K (.ovl x' y')):Out P o C st a E K:=by
 have hrx:=ev_rep I hx
 have hry:=ev_rep I hy
 unfold ovlF at hf
 split at hf
 case h_2=>cases hf
 rename_i fn hfn
 simp only [Bool.and_eq_true,beq_iff_eq,Bool.not_eq_true'] at hf
 obtain ⟨f1,f2,f3,f4,f5,f6,f7,f8⟩:=hf
 split at f8
 case h_2=>cases f8
 rename_i t hpar
 split at f8
 case h_2=>cases f8
 rename_i e hu
 split at f8
 case h_2=>cases f8
 rename_i ie hi
 have hs0:ie.size≠0:=by simpa using f8
 simp only [opK] at hK
 split at hK
 case h_2=>exact hK.elim
 rename_i c e0 es b s sz off len cap hex hey
 rw [hex] at hrx
 rw [hey] at hry
 obtain ⟨⟨es',hslot⟩,hK⟩:=hK
 have run:(Extern.SlicesOverlaps.overlaps fn.params fn.resultTypes #[a.eval x,a.eval y]).run P E.w=.ok (.bool false) E.w:=by
  generalize hux:a.eval x=u at hrx
  generalize huy:a.eval y=v at hry
  obtain ⟨en,c',ad0,rfl,hσ,hsz,had,hn,hlen,hc,htot,hcapn⟩:=rep_own hry
  cases hrx with
  | sl _ _ rb off' cap' sz' U hne hS hc2 hcap hsz0 hsz2 hm ho2 h =>
   change Sem.run P (do
    let some t:=fn.params[0]? | stuck "slices.overlaps: no parameter types"
    let .slice elem ← underlying t | stuck "slices.overlaps: slice type expected"
    let size ← sizeOf elem
    match (some ⟨rb,off',none⟩:Option Addr),ad0 with
    | some a,some b =>
     if (e0::es).length=0∨len=0∨size=0 then pure (Value.bool false)
     else if a.block != b.block&&(← frozen a)&&(← frozen b) then unsupported .addressObserved
     else do
      if a.block != b.block then do
       noView a; noView b
       if ← mayBeOne a b then return Value.bool ((← choose (.extern "sameAddr.stringBytes" 2))==1)
      pure (Value.bool (a.block==b.block&&a.off < b.off+len * size&&b.off < a.off+(e0::es).length * size))
    | _,_=>pure (Value.bool false)) E.w=_
   cases ad0 with
   | none=>simp [hpar,run_underlying hu,run_sizeOf hi]
   | some b0 =>
    by_cases h0:len=0
    ·simp [hpar,run_underlying hu,run_sizeOf hi,h0]
    ·have hc0:c'≠0:=by omega
     have hb:=had hc0
     cases hb
     have ht0:en.tot≠0:=by omega
     have A:At E st.h b s (.cells es') en:=⟨hslot,hσ⟩
     obtain ⟨⟨b1,b2,b3,b4⟩,hnS⟩:=A.brep I.good
     obtain ⟨arr,ty,b5,b6,b7,b8⟩:=b4 ht0
     have hne':rb≠en.rb:=fun h=>hnS ht0 (h ▸ hS)
     have hnb:(rb != en.rb)=true:=by simpa using hne'
     have hnb':(rb==en.rb)=false:=by simpa using hne'
     have hfb:E.w.frozen? ⟨en.rb,en.base+off * en.sz,none⟩=false:=by simp [World.frozen?,b5]
     have hfb2:E.w.frozen? ⟨en.rb,arr.size,none⟩=false:=by simp [World.frozen?,b5]
     have hsb:E.w.shape? en.rb=some (ty,arr.size):=by simp [World.shape?,b5]
     have harr:arr.size≠0:=by
      have:0 < en.tot * en.sz:=Nat.mul_pos (Nat.pos_of_ne_zero ht0) b2
      omega
     have hcell:=hm 0 e0 0 (e0.cells[0]'(by rw [hsz2 0 e0 rfl]; exact hsz0)) rfl (List.getElem?_eq_getElem _)
     have hsa:∃ ta ka,E.w.shape? rb=some (ta,ka+1):=by
      simp only [World.cell?] at hcell
      simp only [World.shape?]
      split at hcell
      ·rename_i arr2 ty2 fr2 hobj
       have hcell:arr2[off'+0 * sz'+0]?=some (U 0 0):=by simpa using hcell
       have:=(Array.getElem?_eq_some_iff.1 hcell).1
       exact ⟨ty2,arr2.size - 1,by simp only [Option.some.injEq,Prod.mk.injEq,true_and]; omega⟩
      ·cases hcell
     obtain ⟨ta,ka,hsa⟩:=hsa
     cases hk:arr.size with
     | zero=>exact absurd hk harr
     | succ kk =>
      rw [hk] at hsb hfb2
      simp [hpar,run_underlying hu,run_sizeOf hi,h0,hs0,hnb,hnb',frozen,noView,viewAt,mayBeOne,stringish,shape,Sem.run,hsa,hsb,hfb,hfb2]
 have hex':(execOp a.eval o).run P E.w=.ok (.value (.bool false)) E.w:=by
  have h1:=run_callFunc_extern (P:=P) (f:=f) hfn (by simpa using f3) f1 (Option.isNone_iff_eq_none.1 f4) (find_ovl f2 f5 f6 f7) #[a.eval x,a.eval y] E.w
  rw [run] at h1
  simp only [Result.andThen_ok] at h1
  have hev:a.eval (.func f)=.func (.func f) #[] #[]:=rfl
  simp [execOp,ho,resolve,hcl,hargs,hev,Deferred.ofValue,invoke,h1]
 exact Out.same I hK hex' (.v _)
end Go.Proofs.Yticljphbbdnomaa.VL
end
