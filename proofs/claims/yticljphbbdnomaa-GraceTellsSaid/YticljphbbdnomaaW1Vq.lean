import Derived.Test.YticljphbbdnomaaW1Vp
namespace Go.Proofs.Yticljphbbdnomaa.VL
open Go
set_option linter.unusedVariables false
set_option linter.unusedSimpArgs false
set_option linter.unusedSectionVars false
variable [Val]
def IOper.tmps (io:IOper):List Nat:=io.dst.toList++(io.op.opds.filterMap fun x=>match x with | .t n=>some n | _=>none)++(io.guard.map (·.1)).toList
def preds (o:Oper):List Nat:=(o.after.toList.filter (Region.binds .any)).map (·.on)
def maskOf (f:Nat→Nat) (ps:List Nat):Nat:=ps.foldl (fun m e=>m ||| 2 ^ e ||| f e) 0
def masks:List (List Nat)→List Nat→List Nat
 | [],acc=>acc
 | ps::r,acc=>masks r (acc++[maskOf (fun e=>acc.getD e 0) ps])
def isLoad:IOp→Bool
 | .load ..=>true
 | _=>false
def peekOp (ρ:Opd→PV) (h:List Slot):IOp→Option PV
 | .load g m a=>match ρ a with
  | .optr b s i off=>(match h[b]? with
   | some (some (s',.cells es))=>if s'=s then (match es[i]? with | some e=>ldv g m e off | none=>none) else none
   | _=>none)
  | .sptr cs=>ldv g m (.agg cs) 0
  | _=>none
 | _=>none
theorem peek_of {P:Program} {ρ:Opd→PV} {h:List Slot} {n:Nat} {K:PV→List Slot→Nat→Prop} {op:IOp} (hl:isLoad op=true) (hK:rawK P ρ h n K op):∃ p,peekOp ρ h op=some p∧K p h n:=by
 cases op<;>simp only [isLoad] at hl<;>first | (cases hl; done) | skip
 rename_i g m a
 simp only [rawK,opK] at hK
 simp only [peekOp]
 split at hK
 ·rename_i b s i off hev
  obtain ⟨es,e,p,h1,h2,h3,h4⟩:=hK
  exact ⟨p,by simp only [hev,h1,if_true,h2,h3],h4⟩
 ·rename_i cs hev
  obtain ⟨p,h3,h4⟩:=hK
  exact ⟨p,by simp only [hev,h3],h4⟩
 ·exact hK.elim
theorem of_peek {P:Program} {ρ:Opd→PV} {h:List Slot} {n:Nat} {K:PV→List Slot→Nat→Prop} {op:IOp} {p:PV} (hp:peekOp ρ h op=some p) (hK:K p h n):rawK P ρ h n K op:=by
 cases op<;>simp only [peekOp] at hp<;>first | (cases hp; done) | skip
 rename_i g m a
 simp only [rawK,opK]
 split at hp
 ·rename_i b s i off hev
  simp only [hev]
  split at hp
  ·rename_i s' es h1
   split at hp
   ·rename_i hs
    subst hs
    split at hp
    ·rename_i e he; exact ⟨es,e,p,h1,he,hp,hK⟩
    ·cases hp
   ·cases hp
  ·cases hp
 ·rename_i cs hev
  simp only [hev]
  exact ⟨p,hp,hK⟩
 ·cases hp
theorem cls2_noload {op:IOp} (h:op.cls=2):isLoad op=false:=by cases op<;>first | rfl | simp [IOp.cls] at h
theorem peek_congr {ρ ρ2:Opd→PV} {h:List Slot} {op:IOp} (hρ:∀ x ∈ op.opds,ρ x=ρ2 x):peekOp ρ h op=peekOp ρ2 h op:=by
 cases op<;>first | rfl | skip
 rename_i g m a
 simp only [peekOp,hρ a (by simp [IOp.opds])]
def conflict (x y:IOper):Bool :=
 (match x.dst with | some d=>y.tmps.contains d | none=>false) || (match y.dst with | some d=>x.tmps.contains d | none=>false) || (x.op.cls==2&&1≤y.op.cls&&!isLoad y.op) || (y.op.cls==2&&1≤x.op.cls&&!isLoad x.op)
def drawOk (ops:List Oper) (iops:List IOper):Bool :=
 let ps:=ops.map preds
 let ms:=masks ps []
 (ps.zipIdx.all fun x=>x.1.all (· < x.2))&&(iops.all fun x=>x.op.cls≤2) &&
 (iops.zipIdx.all fun y=>iops.zipIdx.all fun x=>!decide (x.2 < y.2) || !conflict x.1 y.1 || (ms.getD y.2 0).testBit x.2)
def unOf (ops:List Oper) (iops:List IOper):List (Nat×Nat) :=
 let ms:=masks (ops.map preds) []
 iops.zipIdx.flatMap fun x=>if isLoad x.1.op then (iops.zipIdx.filterMap fun y=>if y.1.op.cls==2&&y.2 != x.2&&!(if y.2 < x.2 then (ms.getD x.2 0).testBit y.2 else (ms.getD y.2 0).testBit x.2) then some (x.2,y.2) else none) else []
theorem unOf_spec {ops:List Oper} {iops:List IOper} {i k:Nat} {x y:IOper} (hx:iops[i]?=some x) (hy:iops[k]?=some y) (hl:isLoad x.op=true) (hc:y.op.cls=2) (hne:k≠i) :
  (i,k) ∈ unOf ops iops∨(if k < i then ((masks (ops.map preds) []).getD i 0).testBit k else ((masks (ops.map preds) []).getD k 0).testBit i)=true:=by
 by_cases hb:(if k < i then ((masks (ops.map preds) []).getD i 0).testBit k else ((masks (ops.map preds) []).getD k 0).testBit i)=true
 ·exact .inr hb
 ·left
  simp only [unOf,List.mem_flatMap]
  refine ⟨(x,i),by rw [List.mem_zipIdx_iff_getElem?]; exact hx,?_⟩
  simp only [hl,if_true,List.mem_filterMap]
  refine ⟨(y,k),by rw [List.mem_zipIdx_iff_getElem?]; exact hy,?_⟩
  simp only [hc,beq_self_eq_true,Bool.true_and]
  rw [if_pos]
  simp only [Bool.and_eq_true,bne_iff_ne,ne_eq,Bool.not_eq_true']
  exact ⟨hne,by simpa using hb⟩
def Keeps (iops:List IOper) (un:List (Nat×Nat)) (S:Nat→St):Prop:=∀ x ∈ un,∀ io,iops[x.1]?=some io→peekOp (S x.1).ev (S x.2).h io.op=peekOp (S x.1).ev (S (x.2+1)).h io.op
theorem testBit_maskOf (f:Nat→Nat) (ps:List Nat) (i:Nat):(maskOf f ps).testBit i=ps.any fun e=>decide (e=i) || (f e).testBit i:=by
 have:∀ (ps:List Nat) (m:Nat),(ps.foldl (fun m e=>m ||| 2 ^ e ||| f e) m).testBit i=(m.testBit i || ps.any fun e=>decide (e=i) || (f e).testBit i):=by
  intro ps
  induction ps with
  | nil=>intro m; simp
  | cons e r ih =>
   intro m
   rw [List.foldl_cons,ih]
   simp only [Nat.testBit_or,Nat.testBit_two_pow,List.any_cons,Bool.or_assoc]
 rw [maskOf,this]; simp
theorem masks_old:∀ (ps:List (List Nat)) (acc:List Nat) (k:Nat),k < acc.length→(masks ps acc)[k]?=acc[k]?
 | [],acc,k,_=>rfl
 | p::r,acc,k,h=>by
  rw [masks,masks_old r _ k (by simp; omega),List.getElem?_append_left h]
theorem masks_new:∀ (ps:List (List Nat)) (acc:List Nat) (j:Nat) (p:List Nat),ps[j]?=some p→(∀ (k:Nat) (q:List Nat),ps[k]?=some q→∀ e ∈ q,e < acc.length+k) →
  (masks ps acc)[acc.length+j]?=some (maskOf (fun e=>(masks ps acc).getD e 0) p)
 | [],acc,j,p,h,_=>by simp at h
 | q::r,acc,j,p,h,hlt=>by
  cases j with
  | zero =>
   simp at h; subst h
   rw [masks,Nat.add_zero,masks_old r _ _ (by simp),List.getElem?_append_right (Nat.le_refl _)]
   simp only [Nat.sub_self,List.getElem?_cons_zero,Option.some.injEq]
   have hq:=hlt 0 q rfl
   unfold maskOf
   have:∀ (l:List Nat) (m:Nat),(∀ e ∈ l,e < acc.length)→l.foldl (fun m e=>m ||| 2 ^ e ||| acc.getD e 0) m=l.foldl (fun m e=>m ||| 2 ^ e ||| (masks r (acc++[q.foldl (fun m e=>m ||| 2 ^ e ||| acc.getD e 0) 0])).getD e 0) m:=by
    intro l
    induction l with
    | nil=>intro m _; rfl
    | cons e l ih =>
     intro m hl
     rw [List.foldl_cons,List.foldl_cons]
     have he:=hl e (by simp)
     have:(masks r (acc++[q.foldl (fun m e=>m ||| 2 ^ e ||| acc.getD e 0) 0])).getD e 0=acc.getD e 0:=by
      rw [List.getD_eq_getElem?_getD,masks_old r _ _ (by simp; omega),List.getElem?_append_left he,← List.getD_eq_getElem?_getD]
     rw [this]
     exact ih _ fun x hx=>hl x (by simp [hx])
   exact this q 0 fun e he=>by have:=hq e he; omega
  | succ j =>
   have:=masks_new r (acc++[maskOf (fun e=>acc.getD e 0) q]) j p (by simpa using h) (fun k q' hk e he=>by
    have:=hlt (k+1) q' (by simpa using hk) e he
    simp; omega)
   simp only [List.length_append,List.length_cons,List.length_nil] at this
   rw [masks,show acc.length+(j+1)=acc.length+(0+1)+j by omega]
   exact this
def guardYes (io:IOper) (s:St):Prop:=match io.guard with | none=>True | some (g,w)=>s.t[g]?=some (.v (.bool w))∨∃ x,s.t[g]?=some (.sy x)∧x.ty=some .b∧x.eval=.bool w
def guardNo (io:IOper) (s:St):Prop:=match io.guard with | none=>False | some (g,w)=>(∃ u,s.t[g]?=some (.v u)∧u≠.bool w)∨∃ x,s.t[g]?=some (.sy x)∧x.ty=some .b∧x.eval=.bool (!w)
def Stp (P:Program) (io:IOper) (s s':St):Prop :=
 (guardYes io s∧∃ p h' n',s'=St.put ⟨s.t,h',n'⟩ io.dst p∧(∀ K':PV→List Slot→Nat→Prop,K' p h' n'→rawK P s.ev s.h s.n K' io.op)∧(io.op.cls≤1→h'=s.h∧n'=s.n) ∧
  (io.op.cls=0→∀ h2 n2 (K':PV→List Slot→Nat→Prop),K' p h2 n2→rawK P s.ev h2 n2 K' io.op)) ∨
 (guardNo io s∧s'=s.put io.dst (.v undef))
theorem stp_of {P:Program} {io:IOper} {r:List IOper} {s:St} {Q:St→Prop} (hc:io.op.cls≤2) (hK:opsK P true Q (io::r) s):∃ s',Stp P io s s'∧opsK P true Q r s':=by
 rw [opsK] at hK
 have yes:guardYes io s→execK P true io s (opsK P true Q r)→∃ s',Stp P io s s'∧opsK P true Q r s':=by
  intro hg hK
  rw [execK_raw] at hK
  obtain ⟨p,h',n',k1,k2,k3,k4⟩:=rawK_det hc hK
  exact ⟨_,.inl ⟨hg,p,h',n',rfl,k2,k3,k4⟩,k1⟩
 split at hK
 ·rename_i hg; exact yes (by simp [guardYes,hg]) hK
 ·rename_i g want hg
  split at hK
  ·rename_i b hb
   by_cases hbw:b=want
   ·exact yes (by simp [guardYes,hg,hb,hbw]) (hK.1 hbw)
   ·have:b=!want:=by cases b<;>cases want<;>simp_all
    exact ⟨_,.inr ⟨by simp only [guardNo,hg]; exact .inl ⟨_,hb,by simp [hbw]⟩,rfl⟩,hK.2 this⟩
  ·rename_i u hne hb
   exact ⟨_,.inr ⟨by simp only [guardNo,hg]; exact .inl ⟨_,hb,fun h=>hne want (by rw [h])⟩,rfl⟩,hK⟩
  ·rename_i x hx
   obtain ⟨k1,k2,k3⟩:=hK
   obtain ⟨b,hb⟩:=sx_bool k1
   by_cases hbw:b=want
   ·subst hbw; exact yes (by simp only [guardYes,hg]; exact .inr ⟨x,hx,k1,hb⟩) (k2 hb)
   ·have hb2:b=!want:=by cases b<;>cases want<;>simp_all
    subst hb2
    exact ⟨_,.inr ⟨by simp only [guardNo,hg]; exact .inr ⟨x,hx,k1,hb⟩,rfl⟩,k3 hb⟩
  ·exact hK.elim
theorem opsK_of_stp {P:Program} {io:IOper} {s:St} {Q:St→Prop} (hg:guardYes io s∧rawK P s.ev s.h s.n (fun p h n=>Q (St.put ⟨s.t,h,n⟩ io.dst p)) io.op∨guardNo io s∧Q (s.put io.dst (.v undef))):opsK P true Q [io] s:=by
 rw [opsK]
 rcases hg with ⟨h1,h2⟩ | ⟨h1,h2⟩
 ·have hx:execK P true io s (opsK P true Q []):=by rw [execK_raw]; exact h2
  split
  ·exact hx
  ·rename_i g want hg
   simp only [guardYes,hg] at h1
   rcases h1 with h1 | ⟨x,h1,h3,h4⟩
   ·rw [h1]
    exact ⟨fun _=>hx,fun h=>by cases want<;>simp at h⟩
   ·rw [h1]
    exact ⟨h3,fun _=>hx,fun h=>by rw [h4] at h; cases want<;>simp at h⟩
 ·unfold guardNo at h1
  split
  ·rename_i hg; rw [hg] at h1; exact h1.elim
  ·rename_i g want hg
   rw [hg] at h1
   rcases h1 with ⟨u,h3,h4⟩ | ⟨x,h3,h4,h5⟩
   ·rw [h3]
    split
    ·rename_i b hb
     cases hb
     exact ⟨fun h=>absurd (by rw [h]) h4,fun _=>h2⟩
    ·exact h2
    ·rename_i hb; cases hb
    ·rename_i hne1 hne2 hne3
     exact hne2 _ rfl
   ·rw [h3]
    exact ⟨h4,(fun h=>by rw [h5] at h; cases want<;>simp at h),fun _=>h2⟩
theorem lex_of {P:Program} {Q:St→Prop}:∀ (iops:List IOper) (s:St),(∀ io ∈ iops,io.op.cls≤2)→opsK P true Q iops s→∃ S:Nat→St,S 0=s∧Q (S iops.length)∧∀ (i:Nat) (io:IOper),iops[i]?=some io→Stp P io (S i) (S (i+1))
 | [],s,_,h=>⟨fun _=>s,rfl,h,fun i io hi=>by simp at hi⟩
 | io::r,s,hc,h=>by
  obtain ⟨s',h1,h2⟩:=stp_of (hc io (by simp)) h
  obtain ⟨S,g1,g2,g3⟩:=lex_of r s' (fun x hx=>hc x (by simp [hx])) h2
  refine ⟨fun i=>match i with | 0=>s | i+1=>S i,rfl,by simpa using g2,?_⟩
  intro i io' hi
  cases i with
  | zero=>simp at hi; subst hi; simp only [g1]; exact h1
  | succ i=>exact g3 i io' (by simpa using hi)
theorem put_t (s:St) (d:Option Nat) (p:PV) (t:Nat) (h:d≠some t):(s.put d p).t[t]?=s.t[t]?:=by
 cases d with
 | none=>rfl
 | some d=>simp only [St.put]; rw [List.getElem?_set_ne (by intro e; exact h (by rw [e]))]
theorem put_len (s:St) (d:Option Nat) (p:PV):(s.put d p).t.length=s.t.length:=by cases d<;>simp [St.put]
theorem stp_t {P:Program} {io:IOper} {s s':St} (h:Stp P io s s') (t:Nat) (hd:io.dst≠some t):s'.t[t]?=s.t[t]?:=by
 rcases h with ⟨_,p,h',n',rfl,_⟩ | ⟨_,rfl⟩
 ·exact put_t _ _ _ _ hd
 ·exact put_t _ _ _ _ hd
theorem stp_len {P:Program} {io:IOper} {s s':St} (h:Stp P io s s'):s'.t.length=s.t.length:=by
 rcases h with ⟨_,p,h',n',rfl,_⟩ | ⟨_,rfl⟩<;>exact put_len _ _ _
theorem stp_h {P:Program} {io:IOper} {s s':St} (h:Stp P io s s') (hc:io.op.cls≤1):s'.h=s.h∧s'.n=s.n:=by
 rcases h with ⟨_,p,h',n',rfl,_,h1,_⟩ | ⟨_,rfl⟩
 ·obtain ⟨rfl,rfl⟩:=h1 hc
  cases io.dst<;>exact ⟨rfl,rfl⟩
 ·cases io.dst<;>exact ⟨rfl,rfl⟩
structure Ok (iops:List IOper) (S:Nat→St) (L:Nat→Prop) (s:St):Prop where
 len:s.t.length=(S 0).t.length
 t:∀ (t:Nat),∃ m,m≤iops.length∧s.t[t]?=(S m).t[t]?∧(∀ k,m=k+1→L k)∧(∀ (i:Nat) (io:IOper),iops[i]?=some io→L i→io.dst=some t→i < m)∧(∀ k,m=k+1→∃ io,iops[k]?=some io∧io.dst=some t)
 h:∃ m,m≤iops.length∧s.h=(S m).h∧s.n=(S m).n∧(∀ (i:Nat) (io:IOper),iops[i]?=some io→io.op.cls=2→(L i ↔ i < m))
theorem lex_t {P:Program} {iops:List IOper} {S:Nat→St} (hS:∀ (i:Nat) (io:IOper),iops[i]?=some io→Stp P io (S i) (S (i+1))) (t m:Nat):∀ (d:Nat),m+d≤iops.length→(∀ (i:Nat) (io:IOper),iops[i]?=some io→m≤i→i < m+d→io.dst≠some t)→(S (m+d)).t[t]?=(S m).t[t]?
 | 0,_,_=>rfl
 | d+1,hd,h=>by
  have hlt:m+d < iops.length:=by omega
  rw [show m+(d+1)=m+d+1 by omega,stp_t (hS _ _ (List.getElem?_eq_getElem hlt)) t (h _ _ (List.getElem?_eq_getElem hlt) (by omega) (by omega))]
  exact lex_t hS t m d (by omega) fun i io hi h1 h2=>h i io hi h1 (by omega)
theorem lex_h {P:Program} {iops:List IOper} {S:Nat→St} (hS:∀ (i:Nat) (io:IOper),iops[i]?=some io→Stp P io (S i) (S (i+1))) (hcls:∀ io ∈ iops,io.op.cls≤2) (m:Nat):∀ (d:Nat),m+d≤iops.length→(∀ (i:Nat) (io:IOper),iops[i]?=some io→m≤i→i < m+d→io.op.cls≠2)→(S (m+d)).h=(S m).h∧(S (m+d)).n=(S m).n
 | 0,_,_=>⟨rfl,rfl⟩
 | d+1,hd,h=>by
  have hlt:m+d < iops.length:=by omega
  have h1:=h _ _ (List.getElem?_eq_getElem hlt) (by omega) (by omega)
  have h2:=hcls _ (List.getElem_mem hlt)
  obtain ⟨e1,e2⟩:=stp_h (hS _ _ (List.getElem?_eq_getElem hlt)) (by omega)
  rw [show m+(d+1)=m+d+1 by omega,e1,e2]
  exact lex_h hS hcls m d (by omega) fun i io hi h1 h2=>h i io hi h1 (by omega)
theorem mapM_get {α β:Type} {f:α→Option β}:∀ {l:List α} {l':List β},l.mapM f=some l'→l'.length=l.length∧∀ (i:Nat) (x:α),l[i]?=some x→∃ y,l'[i]?=some y∧f x=some y
 | [],l',h=>by simp at h; subst h; simp
 | a::l,l',h=>by
  rw [List.mapM_cons] at h
  simp only [Option.bind_eq_bind,Option.bind_eq_some_iff,Option.pure_def,Option.some.injEq] at h
  obtain ⟨y,hy,r,hr,rfl⟩:=h
  obtain ⟨h1,h2⟩:=mapM_get hr
  refine ⟨by simp [h1],fun i x hx=>?_⟩
  cases i with
  | zero=>simp at hx; subst hx; exact ⟨y,rfl,hy⟩
  | succ i=>simpa using h2 i x (by simpa using hx)
theorem count_set (f g:Nat→Bool) (i:Nat) (hf:f i=true) (hg:∀ j,g j=if j=i then false else f j):∀ (l:List Nat),l.Nodup→i ∈ l→(l.filter g).length+1=(l.filter f).length
 | [],_,h=>by cases h
 | x::l,hnd,hmem=>by
  simp only [List.nodup_cons] at hnd
  by_cases hx:x=i
  ·subst hx
   have hrest:l.filter g=l.filter f:=by
    apply List.filter_congr
    intro j hj
    have:j≠x:=fun h=>hnd.1 (h ▸ hj)
    rw [hg j,if_neg this]
   rw [List.filter_cons,List.filter_cons,hg x,if_pos rfl,hf,hrest]
   simp
  ·have hmem':i ∈ l:=by
    rcases List.mem_cons.1 hmem with h | h
    ·exact absurd h.symm hx
    ·exact h
   have ih:=count_set f g i hf hg l hnd.2 hmem'
   rw [List.filter_cons,List.filter_cons,hg x,if_neg hx]
   cases f x
   ·simpa using ih
   ·simp only [if_true,List.length_cons]; omega
set_option maxHeartbeats 2000000 in
theorem drawn_gen {P:Program} {st:St} {a:Act} {E:Env} {id:Nat} {ops:Array Oper} {iops:List IOper} {Q:St→Prop} {Q':Exit→Act→World→Prop} (hm:P.follows .mixedOrders=true)
  (hlen:iops.length=ops.toList.length) (hok:drawOk ops.toList iops=true) (J:(Nat→Prop)→St→Act→Env→Prop) (hJ0:J (fun _=>False) st a ⟨E.w.drew,E.σ,E.S⟩)
  (hQ:∀ L s a E,(∀ i,i < ops.size→L i)→J L s a E→Q s→Q' .normal a E.w)
  (hstep:∀ (L:Nat→Prop) (i:Nat) (o:Oper) (io:IOper) (s:St) (a:Act) (E:Env) (Q1:St→Prop) (next:Act→World→Prop),ops.toList[i]?=some o→iops[i]?=some io→¬ L i→(∀ e ∈ preds o,L e)→J L s a E→opsK P true Q1 [io] s →
   (∀ s' a' E',J (fun j=>j=i∨L j) s' a' E'→Q1 s'→next a' E'.w)→wpOp P ops Q' i next a E.w)
  {S:Nat→St} (s0:S 0=st) (sQ:Q (S iops.length)) (hS:∀ (i:Nat) (io:IOper),iops[i]?=some io→Stp P io (S i) (S (i+1))) (hkeep:Keeps iops (unOf ops.toList iops) S):(Code.region id ops true).wp P Q' a E.w:=by
 simp only [drawOk,Bool.and_eq_true] at hok
 obtain ⟨⟨o1,o2⟩,o3⟩:=hok
 have hcls:∀ io ∈ iops,io.op.cls≤2:=by
  intro io hio
  have:=List.all_eq_true.1 o2 io hio
  simpa using this
 have hlt:∀ (k:Nat) (q:List Nat),(ops.toList.map preds)[k]?=some q→∀ e ∈ q,e < ([]:List Nat).length+k:=by
  intro k q hk e he
  have h1:=List.all_eq_true.1 o1 (q,k) (by rw [List.mem_zipIdx_iff_getElem?]; exact hk)
  have h2:=List.all_eq_true.1 h1 e he
  simpa using h2
 have anc:∀ (L:Nat→Prop),(∀ (j:Nat) (o:Oper),ops.toList[j]?=some o→L j→∀ e ∈ preds o,L e)→∀ (j:Nat) (o:Oper),ops.toList[j]?=some o→(∀ e ∈ preds o,L e)→∀ i,((masks (ops.toList.map preds) []).getD j 0).testBit i=true→L i:=by
  intro L hL j
  induction j using Nat.strongRecOn with
  | _ j ih =>
   intro o ho hp i hb
   have h1:=masks_new (ops.toList.map preds) [] j (preds o) (by simp [ho]) hlt
   simp only [List.length_nil,Nat.zero_add] at h1
   rw [List.getD_eq_getElem?_getD,h1,Option.getD_some,testBit_maskOf,List.any_eq_true] at hb
   obtain ⟨e,he,hb⟩:=hb
   simp only [Bool.or_eq_true,decide_eq_true_eq] at hb
   rcases hb with rfl | hb
   ·exact hp e he
   ·have hej:e < j:=by have:=hlt j (preds o) (by simp [ho]) e he; simpa using this
    have hel:e < ops.toList.length:=Nat.lt_trans hej (List.getElem?_eq_some_iff.1 ho).1
    exact ih e hej _ (List.getElem?_eq_getElem hel) (hL e _ (List.getElem?_eq_getElem hel) (hp e he)) i hb
 have ordered:∀ (i j:Nat) (x y:IOper),iops[i]?=some x→iops[j]?=some y→i < j→conflict x y=true→((masks (ops.toList.map preds) []).getD j 0).testBit i=true:=by
  intro i j x y hx hy hij hcf
  have h1:=List.all_eq_true.1 o3 (y,j) (by rw [List.mem_zipIdx_iff_getElem?]; exact hy)
  have h2:=List.all_eq_true.1 h1 (x,i) (by rw [List.mem_zipIdx_iff_getElem?]; exact hx)
  simpa [hij,hcf] using h2
 have main:∀ (fuel:Nat) (listed:Array Bool) (s:St) (a:Act) (E:Env),listed.size=ops.size→((List.range ops.size).filter fun i=>listed.getD i true=false).length=fuel →
   (∀ (j:Nat) (o:Oper),ops.toList[j]?=some o→listed.getD j false=true→∀ e ∈ preds o,listed.getD e false=true) →
   Ok iops S (fun i=>listed.getD i false=true) s→J (fun i=>listed.getD i false=true) s a E→wpAny P .any ops Q' fuel listed a E.w:=by
  intro fuel
  have size:iops.length=ops.size:=by rw [hlen]; simp
  have fin:∀ (listed:Array Bool) (s:St) (a:Act) (E:Env),(∀ i,i < ops.size→listed.getD i false=true)→Ok iops S (fun i=>listed.getD i false=true) s→J (fun i=>listed.getD i false=true) s a E→Q' .normal a E.w:=by
   intro listed s a E hall hO I
   have hs:s=S iops.length:=by
    have ht:s.t=(S iops.length).t:=by
     apply List.ext_getElem?
     intro t
     obtain ⟨m,m1,m2,m3,m4,m5⟩:=hO.t t
     rw [m2]
     have:=lex_t hS t m (iops.length - m) (by omega) (fun i io hi h1 h2 hd=>by
      have:=m4 i io hi (hall i (by rw [← size]; exact (List.getElem?_eq_some_iff.1 hi).1)) hd
      omega)
     rw [show m+(iops.length - m)=iops.length by omega] at this
     exact this.symm
    obtain ⟨m,m1,m2,m3,m4⟩:=hO.h
    have:=lex_h hS hcls m (iops.length - m) (by omega) (fun i io hi h1 h2 hd=>by
     have:=(m4 i io hi hd).1 (hall i (by rw [← size]; exact (List.getElem?_eq_some_iff.1 hi).1))
     omega)
    rw [show m+(iops.length - m)=iops.length by omega] at this
    cases s
    simp only at ht m2 m3
    rw [ht,m2,m3,← this.1,← this.2]
   subst hs
   exact hQ _ _ a E hall I sQ
  have noneReady:∀ (listed:Array Bool),listed.size=ops.size→Region.ready .any ops listed=[]→∀ i,i < ops.size→listed.getD i false=true:=by
   intro listed hsz hr i
   induction i using Nat.strongRecOn with
   | _ i ih =>
    intro hi
    apply Classical.byContradiction
    intro hn
    have:i ∈ Region.ready .any ops listed:=by
     rw [mem_ready]
     refine ⟨?_,ops[i],by simp [hi],fun e he hb=>?_⟩
     ·simp [show i < listed.size by omega] at hn ⊢; exact hn
     ·have h1:=hlt i (preds ops[i]) (by simp [hi]) e.on (by
       simp only [preds,List.mem_map,List.mem_filter]
       exact ⟨e,⟨by simpa using he,hb⟩,rfl⟩)
      simp only [List.length_nil,Nat.zero_add] at h1
      exact ih e.on h1 (by omega)
    rw [hr] at this; cases this
  induction fuel with
  | zero =>
   intro listed s a E hsz hcnt hcl hO I
   have hall:∀ i,i < ops.size→listed.getD i false=true:=by
    intro i hi
    have:i ∉ (List.range ops.size).filter fun i=>listed.getD i true=false:=by
     rw [List.eq_nil_of_length_eq_zero hcnt]; simp
    simp only [List.mem_filter,List.mem_range,not_and,decide_eq_true_eq] at this
    have:=this hi
    simp [show i < listed.size by omega] at this ⊢; exact this
   refine ⟨?_,fin listed s a E hall hO I⟩
   rw [List.eq_nil_iff_forall_not_mem]
   intro i hi
   obtain ⟨h1,o,ho,_⟩:=mem_ready.1 hi
   have hi':i < ops.size:=(Array.getElem?_eq_some_iff.1 ho).1
   have:=hall i hi'
   simp [show i < listed.size by omega] at this h1
   rw [this] at h1; cases h1
  | succ fuel ih =>
   intro listed s a E hsz hcnt hcl hO I
   refine ⟨fun hr=>fin listed s a E (noneReady listed hsz hr) hO I,fun i hi=>?_⟩
   obtain ⟨hun,o,ho,hready⟩:=mem_ready.1 hi
   have hi':i < ops.size:=(Array.getElem?_eq_some_iff.1 ho).1
   have hil:i < listed.size:=by omega
   have hnl:¬ (listed.getD i false=true):=by simp [hil] at hun ⊢; exact hun
   have ho':ops.toList[i]?=some o:=by simpa using ho
   have hio:iops[i]?=some (iops[i]'(by rw [hlen]; exact (List.getElem?_eq_some_iff.1 ho').1)):=List.getElem?_eq_getElem _
   generalize iops[i]'(by rw [hlen]; exact (List.getElem?_eq_some_iff.1 ho').1)=io at hio
   have hpr:∀ e ∈ preds o,listed.getD e false=true:=by
    intro e he
    simp only [preds,List.mem_map,List.mem_filter] at he
    obtain ⟨x,⟨hx,hb⟩,rfl⟩:=he
    exact hready x (by simpa using hx) hb
   have stp:=hS i io hio
   have before:∀ (k:Nat) (x:IOper),iops[k]?=some x→k≠i→conflict x io=true∨conflict io x=true→(listed.getD k false=true ↔ k < i):=by
    intro k x hx hk hcf
    have sym:conflict x io=conflict io x:=by
     simp only [conflict]
     cases x.dst<;>cases io.dst<;>simp [Bool.or_comm,Bool.or_left_comm,Bool.or_assoc]
    have hcf1:conflict x io=true:=by rcases hcf with h | h; exact h; rw [sym]; exact h
    constructor
    ·intro hk1
     apply Classical.byContradiction
     intro hge
     have hik:i < k:=by omega
     have hb:=ordered i k io x hio hx hik (by rw [← sym]; exact hcf1)
     have hkl:k < ops.toList.length:=by rw [← hlen]; exact (List.getElem?_eq_some_iff.1 hx).1
     exact hnl (anc (fun i=>listed.getD i false=true) hcl k _ (List.getElem?_eq_getElem hkl) (hcl k _ (List.getElem?_eq_getElem hkl) hk1) i hb)
    ·intro hki
     exact anc (fun i=>listed.getD i false=true) hcl i o ho' hpr k (ordered k i x io hx hio hki hcf1)
   have tsame:∀ t ∈ io.tmps,s.t[t]?=(S i).t[t]?:=by
    intro t ht
    obtain ⟨m,m1,m2,m3,m4,m5⟩:=hO.t t
    have writer:∀ (k:Nat) (x:IOper),iops[k]?=some x→x.dst=some t→k≠i→(listed.getD k false=true ↔ k < i):=by
     intro k x hx hd hk
     refine before k x hx hk (.inl ?_)
     simp only [conflict,hd,Bool.or_eq_true,List.contains_iff_mem]
     exact .inl (.inl (.inl ht))
    have hmi:m≤i:=by
     cases hm:m with
     | zero=>omega
     | succ k =>
      obtain ⟨x,hx,hd⟩:=m5 k hm
      have hk:k≠i:=fun h=>hnl (h ▸ m3 k hm)
      have:=(writer k x hx hd hk).1 (m3 k hm)
      omega
    rw [m2]
    have:=lex_t hS t m (i - m) (by omega) (fun k x hx h1 h2 hd=>by
     have hki:k≠i:=by omega
     have:=m4 k x hx ((writer k x hx hd hki).2 (by omega)) hd
     omega)
    rw [show m+(i - m)=i by omega] at this
    exact this.symm
   have hev:∀ x ∈ io.op.opds,s.ev x=(S i).ev x:=by
    intro x hx
    cases x with
    | c p=>rfl
    | t t =>
     have:=tsame t (by
      simp only [IOper.tmps,List.mem_append,List.mem_filterMap]
      exact .inl (.inr ⟨.t t,hx,rfl⟩))
     simp only [St.ev,List.getD_eq_getElem?_getD,this]
   have hgd:∀ g w,io.guard=some (g,w)→s.t[g]?=(S i).t[g]?:=by
    intro g w hg
    exact tsame g (by simp only [IOper.tmps,List.mem_append,hg]; exact .inr (by simp))
   have heap:1≤io.op.cls→isLoad io.op=false→s.h=(S i).h∧s.n=(S i).n:=by
    intro hc1 hnld
    obtain ⟨m,m1,m2,m3,m4⟩:=hO.h
    have writer:∀ (k:Nat) (x:IOper),iops[k]?=some x→x.op.cls=2→k≠i→(listed.getD k false=true ↔ k < i):=by
     intro k x hx hd hk
     refine before k x hx hk (.inl ?_)
     simp only [conflict,hd,Bool.or_eq_true,Bool.and_eq_true,beq_self_eq_true,decide_eq_true_eq,true_and]
     exact .inl (.inr ⟨hc1,by simp [hnld]⟩)
    rcases Nat.le_total m i with hmi | hmi
    ·have:=lex_h hS hcls m (i - m) (by omega) (fun k x hx h1 h2 hd=>by
      have hki:k≠i:=by omega
      have:=(m4 k x hx hd).1 ((writer k x hx hd hki).2 (by omega))
      omega)
     rw [show m+(i - m)=i by omega] at this
     exact ⟨m2.trans this.1.symm,m3.trans this.2.symm⟩
    ·have:=lex_h hS hcls i (m - i) (by omega) (fun k x hx h1 h2 hd=>by
      have hl:=(m4 k x hx hd).2 (by omega)
      by_cases hki:k=i
      ·subst hki; exact hnl hl
      ·have:=(writer k x hx hd hki).1 hl
       omega)
     rw [show i+(m - i)=m by omega] at this
     exact ⟨m2.trans this.1,m3.trans this.2⟩
   have peeks:isLoad io.op=true→peekOp s.ev s.h io.op=peekOp (S i).ev (S i).h io.op:=by
    intro hld
    rw [peek_congr hev]
    obtain ⟨m,m1,m2,m3,m4⟩:=hO.h
    have hc1:io.op.cls=1:=by
     have:∀ op:IOp,isLoad op=true→op.cls=1:=by intro op h; cases op<;>simp only [isLoad] at h<;>first | (cases h; done) | rfl
     exact this _ hld
    have one:∀ j,j < iops.length→(m≤j∧j < i∨i≤j∧j < m)→peekOp (S i).ev (S j).h io.op=peekOp (S i).ev (S (j+1)).h io.op:=by
     intro j hj hb
     have hx:=List.getElem?_eq_getElem hj
     have hc:=hcls _ (List.getElem_mem hj)
     by_cases hw:iops[j].op.cls=2
     ·have hji:j≠i:=by
       intro h
       subst h
       rw [hx] at hio
       cases hio
       omega
      have lst:=m4 j _ hx hw
      have hjo:j < ops.toList.length:=by rw [← hlen]; exact hj
      rcases unOf_spec (ops:=ops.toList) hio hx hld hw hji with h | h
      ·exact hkeep (i,j) h io hio
      ·exfalso
       split at h
       ·rename_i hlt
        have:=anc (fun i=>listed.getD i false=true) hcl i o ho' hpr j h
        have:=lst.1 this
        omega
       ·rename_i hge
        have hjl:=lst.2 (by omega)
        exact hnl (anc (fun i=>listed.getD i false=true) hcl j _ (List.getElem?_eq_getElem hjo) (hcl j _ (List.getElem?_eq_getElem hjo) hjl) i h)
     ·rw [(stp_h (hS j _ hx) (by omega)).1]
    have up:∀ d lo,lo+d≤iops.length→(∀ j,lo≤j→j < lo+d→(m≤j∧j < i∨i≤j∧j < m))→peekOp (S i).ev (S lo).h io.op=peekOp (S i).ev (S (lo+d)).h io.op:=by
     intro d
     induction d with
     | zero=>intro lo _ _; rfl
     | succ d ih =>
      intro lo hle hb
      rw [ih lo (by omega) (fun j h1 h2=>hb j h1 (by omega)),one (lo+d) (by omega) (hb _ (by omega) (by omega))]
      rfl
    rw [m2]
    have hil':i < iops.length:=(List.getElem?_eq_some_iff.1 hio).1
    rcases Nat.le_total m i with hmi | hmi
    ·have:=up (i - m) m (by omega) (fun j h1 h2=>.inl ⟨h1,by omega⟩)
     rw [show m+(i - m)=i by omega] at this
     exact this
    ·have:=up (m - i) i (by omega) (fun j h1 h2=>.inr ⟨h1,by omega⟩)
     rw [show i+(m - i)=m by omega] at this
     exact this.symm
   have next:∀ (s':St) (p:PV) (h':List Slot) (n':Nat),s'=St.put ⟨s.t,h',n'⟩ io.dst p→((S (i+1)).t=((S i).put io.dst p).t)→(io.op.cls=2→h'=(S (i+1)).h∧n'=(S (i+1)).n)→(io.op.cls≠2→h'=s.h∧n'=s.n) →
     Ok iops S (fun j=>(listed.setIfInBounds i true).getD j false=true) s':=by
    intro s' p h' n' hs' hp h2 h1
    have hset:∀ j,((listed.setIfInBounds i true).getD j false=true) ↔ (j=i∨listed.getD j false=true):=by
     intro j
     simp only [Array.getD_eq_getD_getElem?,Array.getElem?_setIfInBounds]
     by_cases hij:i=j
     ·subst hij; simp [hil]
     ·simp [hij,Ne.symm hij]
    have lenS:∀ m,m≤iops.length→(S m).t.length=(S 0).t.length:=by
     intro m
     induction m with
     | zero=>intro _; rfl
     | succ m ihm =>
      intro hm
      have hml:m < iops.length:=by omega
      rw [stp_len (hS m _ (List.getElem?_eq_getElem hml)),ihm (by omega)]
    have hln:s'.t.length=s.t.length:=by subst hs'; rw [put_len]
    refine ⟨hln.trans hO.len,?_,?_⟩
    ·intro t
     by_cases hd:io.dst=some t
     ·refine ⟨i+1,by rw [size]; omega,?_,?_,?_,?_⟩
      ·rw [hp]; subst hs'
       simp only [St.put,hd]
       rw [List.getElem?_set,List.getElem?_set]
       simp only [if_true]
       rw [hO.len,lenS i (by rw [size]; omega)]
      ·intro k hk; exact (hset k).2 (.inl (by omega))
      ·intro k x hx hl hdx
       rcases (hset k).1 hl with rfl | hl
       ·omega
       ·by_cases hki:k=i
        ·omega
        ·have:=(before k x hx hki (.inl (by
          simp only [conflict,hdx,Bool.or_eq_true,List.contains_iff_mem]
          exact .inl (.inl (.inl (by simp [IOper.tmps,hd])))))).1 hl
         omega
      ·intro k hk
       obtain rfl:k=i:=by omega
       exact ⟨io,hio,hd⟩
     ·obtain ⟨m,m1,m2,m3,m4,m5⟩:=hO.t t
      refine ⟨m,m1,?_,fun k hk=>(hset k).2 (.inr (m3 k hk)),?_,m5⟩
      ·rw [← m2]; subst hs'
       exact put_t _ _ _ _ hd
      ·intro k x hx hl hdx
       rcases (hset k).1 hl with rfl | hl
       ·rw [hio] at hx; cases hx; exact absurd hdx hd
       ·exact m4 k x hx hl hdx
    ·have sh:s'.h=h'∧s'.n=n':=by subst hs'; cases io.dst<;>exact ⟨rfl,rfl⟩
     by_cases hc2:io.op.cls=2
     ·obtain ⟨e1,e2⟩:=h2 hc2
      refine ⟨i+1,by rw [size]; omega,sh.1.trans e1,sh.2.trans e2,?_⟩
      intro k x hx hcx
      rw [hset]
      by_cases hki:k=i
      ·subst hki; simp
      ·have:=before k x hx hki (.inl (by
        simp only [conflict,hcx,hc2,Bool.or_eq_true]
        exact .inl (.inr (by simp [cls2_noload hc2]))))
       rw [this]; omega
     ·obtain ⟨e1,e2⟩:=h1 hc2
      obtain ⟨m,m1,m2,m3,m4⟩:=hO.h
      refine ⟨m,m1,(sh.1.trans e1).trans m2,(sh.2.trans e2).trans m3,?_⟩
      intro k x hx hcx
      rw [hset,← m4 k x hx hcx]
      constructor
      ·rintro (rfl | h)
       ·rw [hio] at hx; cases hx; exact absurd hcx hc2
       ·exact h
      ·exact .inr
   have go:opsK P true (fun s'=>Ok iops S (fun j=>(listed.setIfInBounds i true).getD j false=true) s') [io] s:=by
    apply opsK_of_stp
    rcases stp with ⟨g1,p,h',n',e1,k2,k3,k4⟩ | ⟨g1,e1⟩
    ·refine .inl ⟨?_,?_⟩
     ·unfold guardYes at g1 ⊢
      split
      ·trivial
      ·rename_i g w hg
       rw [hg] at g1
       rw [hgd g w hg]; exact g1
     ·rw [rawK_congr hev]
      have ht:(S (i+1)).t=((S i).put io.dst p).t:=by rw [e1]; cases io.dst<;>rfl
      have hh:(S (i+1)).h=h'∧(S (i+1)).n=n':=by rw [e1]; cases io.dst<;>exact ⟨rfl,rfl⟩
      have hc:=hcls io (List.mem_of_getElem? hio)
      by_cases hc0:io.op.cls=0
      ·exact k4 hc0 s.h s.n _ (next _ p s.h s.n rfl ht (fun h=>by omega) (fun _=>⟨rfl,rfl⟩))
      ·by_cases hld:isLoad io.op=true
       ·obtain ⟨p',hp1,hp2⟩:=peek_of hld (k2 (fun q _ _=>q=p) rfl)
        subst hp2
        have hp3:=peeks hld
        rw [hp1] at hp3
        have hc1:io.op.cls≠2:=by
         have:∀ op:IOp,isLoad op=true→op.cls≠2:=by intro op h; cases op<;>simp only [isLoad] at h<;>first | (cases h; done) | simp [IOp.cls]
         exact this _ hld
        rw [peek_congr hev] at hp3
        exact of_peek hp3 (next _ p' s.h s.n rfl ht (fun h=>absurd h hc1) (fun _=>⟨rfl,rfl⟩))
       obtain ⟨q1,q2⟩:=heap (by omega) (by simpa using hld)
       rw [q1,q2]
       refine k2 _ (next _ p h' n' rfl ht (fun _=>⟨hh.1.symm,hh.2.symm⟩) (fun hne=>?_))
       obtain ⟨r1,r2⟩:=k3 (by omega)
       exact ⟨r1.trans q1.symm,r2.trans q2.symm⟩
    ·refine .inr ⟨?_,?_⟩
     ·unfold guardNo at g1 ⊢
      split
      ·rename_i hg; rw [hg] at g1; exact g1
      ·rename_i g w hg
       rw [hg] at g1
       rw [hgd g w hg]; exact g1
     ·have ht:(S (i+1)).t=((S i).put io.dst (.v undef)).t:=by rw [e1]
      have hh:(S (i+1)).h=(S i).h∧(S (i+1)).n=(S i).n:=by rw [e1]; cases io.dst<;>exact ⟨rfl,rfl⟩
      refine next _ (.v undef) s.h s.n (by cases io.dst<;>rfl) ht (fun h2=>?_) (fun _=>⟨rfl,rfl⟩)
      have hnl2:isLoad io.op=false:=by
       have:∀ op:IOp,op.cls=2→isLoad op=false:=by intro op h; cases op<;>first | rfl | simp [IOp.cls] at h
       exact this _ h2
      obtain ⟨q1,q2⟩:=heap (by omega) hnl2
      exact ⟨q1.trans hh.1.symm,q2.trans hh.2.symm⟩
   refine hstep (fun i=>listed.getD i false=true) i o io s a E _ _ ho' hio hnl hpr I go ?_
   intro st' a' E' I' hO'
   have hL:(fun j=>j=i∨listed.getD j false=true)=fun j=>(listed.setIfInBounds i true).getD j false=true:=by
    funext j
    apply propext
    simp only [Array.getD_eq_getD_getElem?,Array.getElem?_setIfInBounds]
    by_cases hij:i=j
    ·subst hij; simp [hil]
    ·simp [hij,Ne.symm hij]
   rw [hL] at I'
   refine ih (listed.setIfInBounds i true) st' a' E' (by simp [hsz]) ?_ ?_ hO' I'
   ·
    have hset:∀ j,(listed.setIfInBounds i true).getD j true=if j=i then true else listed.getD j true:=by
     intro j
     simp only [Array.getD_eq_getD_getElem?,Array.getElem?_setIfInBounds]
     by_cases hij:i=j
     ·subst hij; simp [hil]
     ·simp [hij,Ne.symm hij]
    have cnt:=count_set (fun j=>decide (listed.getD j true=false)) (fun j=>decide ((listed.setIfInBounds i true).getD j true=false)) i (by simp [hun]) (fun j=>by rw [hset j]; by_cases h:j=i<;>simp [h])
    have:=cnt (List.range ops.size) List.nodup_range (by simpa using hi')
    omega
   ·intro j o2 hj hlj e he
    have hset:∀ j,((listed.setIfInBounds i true).getD j false=true) ↔ (j=i∨listed.getD j false=true):=by
     intro j
     simp only [Array.getD_eq_getD_getElem?,Array.getElem?_setIfInBounds]
     by_cases hij:i=j
     ·subst hij; simp [hil]
     ·simp [hij,Ne.symm hij]
    rcases (hset j).1 hlj with rfl | hlj
    ·rw [ho'] at hj; cases hj
     exact (hset e).2 (.inr (hpr e he))
    ·exact (hset e).2 (.inr (hcl j o2 hj hlj e he))
 refine wp_region_any hm (main ops.size (Array.replicate ops.size false) st a ⟨E.w.drew,E.σ,E.S⟩ (by simp) ?_ ?_ ?_ ?_)
 ·have:((List.range ops.size).filter fun i=>(Array.replicate ops.size false).getD i true=false)=List.range ops.size:=by
   rw [List.filter_eq_self]
   intro j hj
   rw [List.mem_range] at hj
   simp [hj]
  rw [this]; simp
 ·intro j o hj hl e he
  by_cases hj':j < ops.size<;>simp [hj'] at hl
 ·subst s0
  refine ⟨rfl,fun t=>⟨0,Nat.zero_le _,rfl,fun k hk=>by omega,fun i io hi hl hd=>?_,fun k hk=>by omega⟩,⟨0,Nat.zero_le _,rfl,rfl,fun i io hi hc=>?_⟩⟩
  ·by_cases hj':i < ops.size<;>simp [hj'] at hl
  ·constructor
   ·intro hl
    by_cases hj':i < ops.size<;>simp [hj'] at hl
   ·intro h; omega
 ·have:(fun i=>(Array.replicate ops.size false).getD i false=true)=fun _=>False:=by
   funext i
   apply propext
   by_cases hj':i < ops.size<;>simp [hj']
  rw [this]; exact hJ0
theorem drawn_core {P:Program} {C:Ctx} {st:St} {a:Act} {E:Env} {id:Nat} {ops:Array Oper} {slot:Option Nat→Nat} {iops:List IOper} {Q:St→Prop} {Q':Exit→Act→World→Prop} (hm:P.follows .mixedOrders=true)
  (hlen:iops.length=ops.toList.length) (hget:∀ (i:Nat) (o:Oper) (io:IOper),ops.toList[i]?=some o→iops[i]?=some io→∃ io0,cOper P slot ops o=some io0∧(io=io0∨io=io0.g))
  (hok:drawOk ops.toList iops=true) (hQ:∀ st' a' E',InvE C st' a' E'→Q st'→Q' .normal a' E'.w) (I:InvE C st a E) {S:Nat→St} (s0:S 0=st) (sQ:Q (S iops.length)) (hS:∀ (i:Nat) (io:IOper),iops[i]?=some io→Stp P io (S i) (S (i+1))) (hkeep:Keeps iops (unOf ops.toList iops) S):(Code.region id ops true).wp P Q' a E.w:=by
 refine drawn_gen hm hlen hok (fun _ s a E=>InvE C s a E) I.drew (fun L s a E _ I q=>hQ s a E I q) ?_ s0 sQ hS hkeep
 intro L i o io s a E Q1 next ho hio _ _ I go hn
 obtain ⟨io0,h1,h2⟩:=hget i o io ho hio
 rcases h2 with rfl | rfl
 ·exact wpOp_sound (by simpa using ho) h1 I go fun s' a' E' _ I' q=>hn s' a' E' I' q
 ·exact wpOp_sound (d:=false) (by simpa using ho) h1 I (opsK_g go) fun s' a' E' _ I' q=>hn s' a' E' I' q
def ctxOf (E:Env) (h:List Slot):Ctx:=⟨E.w,E.σ,fun r=>∃ (b s:Nat) (k:Blk) (en:Ent),At E h b s k en∧en.tot≠0∧en.rb=r,E.S⟩
theorem InvE.here {C:Ctx} {st:St} {a:Act} {E:Env} (I:InvE C st a E):InvE (ctxOf E st.h) st a E :=
 { good:=I.good,since:=⟨rfl,rfl,rfl,Nat.le_refl _,fun _ _ _=>rfl,fun _ _ h=>h,fun _ h=>h,fun _ h=>.inl h,Nat.le_refl _⟩,touch:=fun b s k en A h0=>.inl ⟨b,s,k,en,A,h0,rfl⟩,defers:=I.defers,tsize:=I.tsize,tmps:=I.tmps }
theorem InvE.back {C:Ctx} {st st':St} {a a':Act} {E E':Env} (I:InvE C st a E) (I':InvE (ctxOf E st.h) st' a' E'):InvE C st' a' E' where
  good:=I'.good
  since:={
    os:=I'.since.os.trans I.since.os
    tape:=I'.since.tape.trans I.since.tape
    output:=I'.since.output.trans I.since.output
    drawn:=Nat.le_trans I.since.drawn I'.since.drawn
    size:=Nat.le_trans I.since.size I'.since.size
    kept:=fun r hr hT=>by
      rw [I'.since.kept r (Nat.lt_of_lt_of_le hr I.since.size) ?_]
      · exact I.since.kept r hr hT
      · rintro ⟨b,s,k,en,A,h0,rfl⟩
        rcases I.touch b s k en A h0 with h | h
        · exact hT h
        · omega
    σ:=fun b en hb=>I'.since.σ b en (I.since.σ b en hb)
    S1:=fun r hr=>I'.since.S1 r (I.since.S1 r hr)
    S2:=fun r hr=>by
      rcases I'.since.S2 r hr with h | ⟨b,s,k,en,A,h0,rfl⟩ | h
      · exact I.since.S2 r h
      · rcases I.touch b s k en A h0 with h | h
        · exact .inr (.inl h)
        · exact .inr (.inr h)
      · exact .inr (.inr (Nat.le_trans I.since.size h)) }
  touch:=fun b s k en A h0=>by
    rcases I'.touch b s k en A h0 with ⟨b0,s0,k0,en0,A0,h1,h2⟩ | h
    · rw [← h2]; exact I.touch b0 s0 k0 en0 A0 h1
    · exact .inr (Nat.le_trans I.since.size h)
  defers:=I'.defers
  tsize:=I'.tsize
  tmps:=I'.tmps
structure Fr (C:Ctx) (s:St) (a:Act) (E:Env) (d rb sz:Nat):Prop where
 tmp:a.tmps[d]?=some (.pointer (some ⟨rb,0,none⟩))
 heap:∃ arr t,E.w.heap[rb]?=some (.cells arr t (0,0))∧arr.size=sz
 old:C.w.heap.size≤rb
 stays:¬ E.S rb
 names:∀ (b st:Nat) (k:Blk) (en:Ent),At E s.h b st k en→en.tot≠0→en.rb≠rb
theorem Fr.keep {C:Ctx} {s s':St} {a a':Act} {E E':Env} {d rb sz:Nat} (F:Fr C s a E d rb sz) (I':InvE (ctxOf E s.h) s' a' E') (ha:a'.tmps[d]?=a.tmps[d]?):Fr C s' a' E' d rb sz:=by
 obtain ⟨arr,t,h1,h2⟩:=F.heap
 have hlt:rb < E.w.heap.size:=(Array.getElem?_eq_some_iff.1 h1).1
 have nT:¬ (ctxOf E s.h).T rb:=by
  rintro ⟨b,st,k,en,A,h0,h⟩
  exact F.names b st k en A h0 h
 refine ⟨ha.trans F.tmp,⟨arr,t,(I'.since.kept rb hlt nT).trans h1,h2⟩,F.old,fun hS=>?_,fun b st k en A h0 h=>?_⟩
 ·rcases I'.since.S2 rb hS with h | h | h
  ·exact F.stays h
  ·exact nT h
  ·exact absurd (show E.w.heap.size≤rb from h) (by omega)
 ·rcases I'.touch b st k en A h0 with h' | h'
  ·rw [h] at h'; exact nT h'
  ·have:E.w.heap.size≤en.rb:=h'
   omega
theorem InvE.grow {C:Ctx} {st:St} {a:Act} {E:Env} (I:InvE C st a E) (arr:Array Value) (t:TypeId):InvE C st a ⟨E.w.alloc (.cells arr t),E.σ,E.S⟩:=by
 have hle:E.le ⟨E.w.alloc (.cells arr t),E.σ,E.S⟩:=⟨fun _ h=>h,fun r hr=>heap_alloc_old _ _ _ (I.good.stay r hr),fun _ _ h=>h⟩
 have at_:∀ {b s:Nat} {k:Blk} {en:Ent},At ⟨E.w.alloc (.cells arr t),E.σ,E.S⟩ st.h b s k en→At E st.h b s k en:=fun A=>⟨A.slot,A.σ⟩
 refine I.step (E':=⟨E.w.alloc (.cells arr t),E.σ,E.S⟩) (h':=st.h) (n':=st.n) hle rfl rfl rfl (by simp) (fun r h=>.inl h) (fun r hr _=>heap_alloc_old _ _ _ hr) ⟨I.good.free,?_,?_,?_⟩ ?_
 ·intro b s k hb
  obtain ⟨en,A,hB,hS⟩:=I.good.blk b s k hb
  exact ⟨en,⟨A.slot,A.σ⟩,hB.mono hle (fun h0=>heap_alloc_old _ _ _ (A.lt I.good h0)),hS⟩
 ·intro b b' s s' k k' en en' A A' h0 h0' he
  exact I.good.inj _ _ _ _ _ _ _ _ (at_ A) (at_ A') h0 h0' he
 ·intro r hr
  have:=I.good.stay r hr
  simp; omega
 ·intro b s k en A h0
  exact .inl ⟨b,s,k,en,at_ A,h0,rfl⟩
theorem InvE.giveF {C:Ctx} {st:St} {a:Act} {E:Env} (I:InvE C st a E) {b:Nat} (hb:b < st.h.length) {k:Blk} {en:Ent} {w':World}
  (hos:w'.os=E.w.os) (htape:w'.tape=E.w.tape) (hout:w'.output=E.w.output) (hsize:w'.heap.size=E.w.heap.size)
  (hw:∀ r,r≠en.rb→w'.heap[r]?=E.w.heap[r]?) (hS0:¬ E.S en.rb) (hun:∀ (b' s':Nat) (k':Blk) (en':Ent),At E st.h b' s' k' en'→en'.tot≠0→en'.rb≠en.rb) (hC:C.w.heap.size≤en.rb)
  (hB:E.le ⟨w',giveAt E.σ st.n en,E.S⟩→BRep ⟨w',giveAt E.σ st.n en,E.S⟩ en k) (hdr:E.w.drawn≤w'.drawn:=by first | exact Nat.le_refl _ | exact Nat.le_succ _ | (simp; done)) :
  InvE C ⟨st.t,st.h.set b (some (st.n,k)),st.n+1⟩ a ⟨w',giveAt E.σ st.n en,E.S⟩:=by
 have hσ:E.σ st.n=none:=I.good.free st.n (Nat.le_refl _)
 have hle:=le_give E hσ en w' (fun r hr=>hw r fun h=>hS0 (h ▸ hr))
 have old:∀ (b' s':Nat) (k':Blk) (en':Ent),b≠b'→At ⟨w',giveAt E.σ st.n en,E.S⟩ (st.h.set b (some (st.n,k))) b' s' k' en'→At E st.h b' s' k' en':=by
  intro b' s' k' en' hne A
  have h1:=A.slot
  rw [List.getElem?_set_ne hne] at h1
  obtain ⟨en0,h2,_⟩:=I.good.blk b' s' k' h1
  have h3:=hle.σ _ _ h2.σ
  have h4:=A.σ
  rw [h3] at h4; cases h4
  exact h2
 have new:∀ (s':Nat) (k':Blk) (en':Ent),At ⟨w',giveAt E.σ st.n en,E.S⟩ (st.h.set b (some (st.n,k))) b s' k' en'→en'=en:=by
  intro s' k' en' A
  have h1:=A.slot
  simp [hb] at h1
  obtain ⟨rfl,rfl⟩:=h1
  have:=A.σ
  simp [giveAt] at this
  exact this.symm
 refine { good:=⟨?_,?_,?_,fun r hr=>by rw [hsize]; exact I.good.stay r hr⟩,since:=⟨hos.trans I.since.os,htape.trans I.since.tape,hout.trans I.since.output,by rw [hsize]; exact I.since.size,?_,fun b en hb=>hle.σ _ _ (I.since.σ b en hb),I.since.S1,I.since.S2,Nat.le_trans I.since.drawn hdr⟩,touch:=?_,defers:=I.defers,tsize:=I.tsize,tmps:=fun i p u hp hu=>(I.tmps i p u hp hu).mono hle }
 ·intro s hs
  have hs:st.n+1≤s:=hs
  have:s≠st.n:=by omega
  simp [giveAt,this,I.good.free s (by omega)]
 ·intro b' s' k' hb'
  by_cases hbb:b=b'
  ·subst hbb
   simp [hb] at hb'
   obtain ⟨rfl,rfl⟩:=hb'
   exact ⟨en,⟨by simp [hb],by simp [giveAt]⟩,hB hle,fun _=>hS0⟩
  ·have h1:=hb'
   simp only at h1
   rw [List.getElem?_set_ne hbb] at h1
   obtain ⟨en',A,h2,h3⟩:=I.good.blk b' s' k' h1
   exact ⟨en',⟨hb',hle.σ _ _ A.σ⟩,h2.mono hle (fun h0=>hw _ (hun _ _ _ _ A h0)),h3⟩
 ·intro b1 b2 s1 s2 k1 k2 en1 en2 A1 A2 h1 h2 he
  by_cases e1:b=b1<;>by_cases e2:b=b2
  ·exact e1.symm.trans e2
  ·subst e1
   rw [new _ _ _ A1] at he
   exact absurd he.symm (hun _ _ _ _ (old _ _ _ _ e2 A2) h2)
  ·subst e2
   rw [new _ _ _ A2] at he
   exact absurd he (hun _ _ _ _ (old _ _ _ _ e1 A1) h1)
  ·exact I.good.inj b1 b2 s1 s2 k1 k2 en1 en2 (old _ _ _ _ e1 A1) (old _ _ _ _ e2 A2) h1 h2 he
 ·intro r hr hT
  have hr':r < C.w.heap.size:=hr
  show w'.heap[r]?=_
  rw [hw r (by omega)]
  exact I.since.kept r hr hT
 ·intro b' s' k' en' A h0
  by_cases hbb:b=b'
  ·subst hbb
   rw [new _ _ _ A]; exact .inr hC
  ·exact I.touch _ _ _ _ (old _ _ _ _ hbb A) h0
theorem drawn_float {P:Program} {C:Ctx} {st:St} {a:Act} {E:Env} {id:Nat} {ops:Array Oper} {slot:Option Nat→Nat} {iops:List IOper} {Q:St→Prop} {Q':Exit→Act→World→Prop} (hm:P.follows .mixedOrders=true)
  {iA iW d s sz:Nat} {oA oW:Oper} {t t':TypeId} {x:Operand} {y:Opd} {i0 i1:TypeInfo} {z:Value} (hA:ops.toList[iA]?=some oA) (hoA:oA.op=.alloc t) (hdA:oA.dst=some d) (hgA:oA.guard=none)
  (hW:ops.toList[iW]?=some oW) (hoW:oW.op=.store t' (.tmp d) x) (hdW:oW.dst=none) (hgW:oW.guard=none) (hAW:iA ∈ preds oW) (hne:iA≠iW)
  (hx:cOpd x=some y) (hi:P.info? t=some i0) (hz:i0.zero=some z) (hzs:z.cells.size=sz) (hi':P.info? t'=some i1) (hsz:i1.size=sz)
  (hlen:iops.length=ops.toList.length) (hioA:iops[iA]?=some ⟨some d,.mov (.c .dead),none⟩) (hioW:iops[iW]?=some ⟨some d,.box s sz y,none⟩)
  (hrest:∀ (i:Nat) (o:Oper) (io:IOper),ops.toList[i]?=some o→iops[i]?=some io→i≠iA→i≠iW→(∃ io0,cOper P slot ops o=some io0∧(io=io0∨io=io0.g))∧o.dst≠some d)
  (hok:drawOk ops.toList iops=true) (hQ:∀ st' a' E',InvE C st' a' E'→Q st'→Q' .normal a' E'.w) (I:InvE C st a E) (hd:d < st.t.length)
  {S:Nat→St} (s0:S 0=st) (sQ:Q (S iops.length)) (hS:∀ (i:Nat) (io:IOper),iops[i]?=some io→Stp P io (S i) (S (i+1))) (hkeep:Keeps iops (unOf ops.toList iops) S):(Code.region id ops true).wp P Q' a E.w:=by
 refine drawn_gen hm hlen hok (fun L s a E=>InvE C s a E∧d < s.t.length∧(L iA→¬ L iW→∃ rb,Fr C s a E d rb sz)) ⟨I.drew,hd,fun h=>h.elim⟩ (fun L s a E _ I q=>hQ s a E I.1 q) ?_ s0 sQ hS hkeep
 rintro L i o io s1 a1 E1 Q1 next ho hio hnl hpr ⟨I1,hd1,hF⟩ go hn
 by_cases eA:i=iA
 ·
  subst eA
  rw [hA] at ho; cases ho
  rw [hioA] at hio; cases hio
  have go:Q1 (St.put ⟨s1.t,s1.h,s1.n⟩ (some d) .dead):=go
  have run:(execOp a1.eval oA).run P E1.w=.ok (.value (.pointer (some ⟨E1.w.heap.size,0,none⟩))) (E1.w.alloc (.cells z.cells t)):=by
   simp [execOp,hoA,Instr.alloc,zeroValue,typeInfo,hi,hz,newVar,newRow]
  have hlt:d < a1.tmps.size:=by rw [I1.tsize]; exact hd1
  unfold wpOp
  rw [show ops[i]?=some oA by simpa using hA]
  simp only
  rw [if_pos (by simp [Region.wanted,hgA])]
  left
  unfold Oper.wp
  rw [run,Oper.upon_value,hdA]
  refine hn _ _ ⟨E1.w.alloc (.cells z.cells t),E1.σ,E1.S⟩ ⟨InvE.putO (I1.grow z.cells t) (.dead _) (some d),by rw [put_len]; exact hd1,fun _ _=>⟨E1.w.heap.size,?_,⟨z.cells,t,heap_alloc_new _ _,hzs⟩,I1.since.size,fun h=>?_,fun b st k en A h0 he=>?_⟩⟩ go
  ·simp [Act.put,hlt]
  ·have:=I1.good.stay _ h; omega
  ·have A':At E1 s1.h b st k en:=⟨A.slot,A.σ⟩
   have:=A'.lt I1.good h0; omega
 by_cases eW:i=iW
 ·
  subst eW
  rw [hW] at ho; cases ho
  rw [hioW] at hio; cases hio
  obtain ⟨g1,g2,g3,g4,g5⟩:s < s1.h.length∧(s1.ev y).stor=true∧0 < sz∧(s1.ev y).cells.length=sz∧Q1 (St.put ⟨s1.t,s1.h.set s (some (s1.n,.cells [s1.ev y])),s1.n+1⟩ (some d) (.optr s s1.n 0 0)):=go
  obtain ⟨rb,F⟩:=hF (hpr iA hAW) hnl
  obtain ⟨arr,ty,f1,f2⟩:=F.heap
  have hev:a1.eval (.tmp d)=.pointer (some ⟨rb,0,none⟩):=by simp [Act.eval,F.tmp]
  have hrx:=ev_rep I1 hx
  obtain ⟨c1,c2,c3⟩:=rep_cells hrx g2
  have hcs:(a1.eval x).cells.size=i1.size:=by rw [hsz,c1,g4]
  have run:(execOp a1.eval oW).run P E1.w=.ok .skip (E1.w.setRow rb (a1.eval x).cells):=by
   simp only [execOp,hoW,Instr.storeAt,hev,Instr.sureAddr,Sem.run_bind,Sem.run_pure,Result.andThen_ok]
   rw [run_storeVar hi' hcs f1 (by rw [f2,hsz]; omega) c2]
   have:arr.toList.take 0++(a1.eval x).cells.toList++arr.toList.drop (0+(a1.eval x).cells.toList.length)=(a1.eval x).cells.toList:=by
    rw [List.take_zero,List.nil_append,List.drop_eq_nil_of_le (by simp; omega),List.append_nil]
   rw [this]
   simp
  have hsz1:(E1.w.setRow rb (a1.eval x).cells).heap.size=E1.w.heap.size:=by simp [World.setRow]
  have I2:=I1.giveF (b:=s) g1 (k:=.cells [s1.ev y]) (en:=⟨rb,0,sz,1⟩) (w':=E1.w.setRow rb (a1.eval x).cells) rfl rfl rfl hsz1 (fun r hr=>heap_setRow_ne _ _ _ _ hr) F.stays F.names F.old (fun hle=>by
   refine ⟨by simp,g3,fun i e he=>?_,fun _=>⟨(a1.eval x).cells,ty,heap_setRow_same _ _ _ f1,by simp [c1,g4],fun i e j c he hj=>?_,c2⟩⟩
   ·cases i with
    | zero=>simp at he; subst he; exact g4
    | succ i=>simp at he
   ·cases i with
    | zero =>
     simp at he; subst he
     have hj':j < (a1.eval x).cells.size:=by have:=(List.getElem?_eq_some_iff.1 hj).1; omega
     exact ⟨(a1.eval x).cells[j],by simp [hj'],(c3 j c _ hj (by simp [hj'])).mono hle⟩
    | succ i=>simp at he)
  have I3:=I2.put (p:=.optr s s1.n 0 0) (u:=.pointer (some ⟨rb,0,none⟩)) (by
   have:=Rep.optr (E:=⟨E1.w.setRow rb (a1.eval x).cells,giveAt E1.σ s1.n ⟨rb,0,sz,1⟩,E1.S⟩) s s1.n 0 0 ⟨rb,0,sz,1⟩ (by simp [giveAt])
   simpa using this) d
  have same:a1.put (some d) (.pointer (some ⟨rb,0,none⟩))=a1:=by
   have:a1.tmps.setIfInBounds d (.pointer (some ⟨rb,0,none⟩))=a1.tmps:=by
    apply Array.ext_getElem?
    intro j
    rw [Array.getElem?_setIfInBounds]
    split
    ·rename_i h
     subst h
     have hlt:=(Array.getElem?_eq_some_iff.1 F.tmp).1
     rw [if_pos hlt,F.tmp]
    ·rfl
   cases a1
   simp only [Act.put] at this ⊢
   rw [this]
  rw [same] at I3
  unfold wpOp
  rw [show ops[i]?=some oW by simpa using hW]
  simp only
  rw [if_pos (by simp [Region.wanted,hgW])]
  left
  unfold Oper.wp
  rw [run,Oper.upon_skip,hdW]
  exact hn _ a1 ⟨E1.w.setRow rb (a1.eval x).cells,giveAt E1.σ s1.n ⟨rb,0,sz,1⟩,E1.S⟩ ⟨I3,by simpa using hd1,fun _ h=>absurd (.inl rfl) h⟩ g5
 ·
  obtain ⟨⟨io0,hco,hio0⟩,hdo⟩:=hrest i o io ho hio eA eW
  have fin:∀ (s':St) (a':Act) (E':Env),(∃ u,a'=a1.put o.dst u)→InvE (ctxOf E1 s1.h) s' a' E'→Q1 s'→next a' E'.w:=by
   rintro s' a' E' ⟨u,rfl⟩ I' q
   have hte:(a1.put o.dst u).tmps[d]?=a1.tmps[d]?:=by
    cases hd':o.dst with
    | none=>rfl
    | some d' =>
     have:d'≠d:=fun h=>hdo (by rw [hd',h])
     simp only [Act.put,Array.getElem?_setIfInBounds]
     rw [if_neg this]
   have hl:s'.t.length=s1.t.length:=by
    rw [← I'.tsize,← I1.tsize]
    cases o.dst<;>simp [Act.put]
   refine hn s' _ E' ⟨I1.back I',by rw [hl]; exact hd1,fun h1 h2=>?_⟩ q
   have hA':L iA:=by
    rcases h1 with h | h
    ·exact absurd h.symm eA
    ·exact h
   obtain ⟨rb,F⟩:=hF hA' (fun h=>h2 (.inr h))
   exact ⟨rb,F.keep I' hte⟩
  rcases hio0 with rfl | rfl
  ·exact wpOp_sound (by simpa using ho) hco I1.here go fin
  ·exact wpOp_sound (d:=false) (by simpa using ho) hco I1.here (opsK_g go) fin
theorem plain_get {P:Program} {slot:Option Nat→Nat} {ops:Array Oper} {iops:List IOper} (hmap:ops.toList.mapM (cOper P slot ops)=some iops):iops.length=ops.toList.length∧∀ (i:Nat) (o:Oper) (io:IOper),ops.toList[i]?=some o→iops[i]?=some io→∃ io0,cOper P slot ops o=some io0∧(io=io0∨io=io0.g):=by
 obtain ⟨hlen,hget⟩:=mapM_get hmap
 refine ⟨hlen,fun i o io ho hio=>?_⟩
 obtain ⟨io',h1,h2⟩:=hget i o ho
 rw [hio] at h1; cases h1
 exact ⟨io,h2,.inl rfl⟩
theorem general_get {P:Program} {slot:Option Nat→Nat} {ops:Array Oper} {iops:List IOper} (hmap:ops.toList.mapM (cOper P slot ops)=some iops):(iops.map IOper.g).length=ops.toList.length∧∀ (i:Nat) (o:Oper) (io:IOper),ops.toList[i]?=some o→(iops.map IOper.g)[i]?=some io→∃ io0,cOper P slot ops o=some io0∧(io=io0∨io=io0.g):=by
 obtain ⟨hlen,hget⟩:=mapM_get hmap
 refine ⟨by simpa using hlen,fun i o io ho hio=>?_⟩
 obtain ⟨io',h1,h2⟩:=hget i o ho
 rw [List.getElem?_map,h1] at hio
 cases hio
 exact ⟨io',h2,.inr rfl⟩
theorem drawn_sound {P:Program} {C:Ctx} {st:St} {a:Act} {E:Env} {id:Nat} {ops:Array Oper} {slot:Option Nat→Nat} {iops:List IOper} {Q:St→Prop} {Q':Exit→Act→World→Prop} (hm:P.follows .mixedOrders=true)
  (hmap:ops.toList.mapM (cOper P slot ops)=some iops) (hok:drawOk ops.toList iops=true) (hun:unOf ops.toList iops=[]) (hQ:∀ st' a' E',InvE C st' a' E'→Q st'→Q' .normal a' E'.w) (I:InvE C st a E) (hK:opsK P true Q iops st):(Code.region id ops true).wp P Q' a E.w:=by
 have hcls:∀ io ∈ iops,io.op.cls≤2:=by
  intro io hio
  simp only [drawOk,Bool.and_eq_true] at hok
  have:=List.all_eq_true.1 hok.1.2 io hio
  simpa using this
 obtain ⟨S,s0,sQ,hS⟩:=lex_of iops st hcls hK
 obtain ⟨hlen,hget⟩:=plain_get hmap
 exact drawn_core hm hlen hget hok hQ I s0 sQ hS (by rw [hun]; intro x hx; cases hx)
end Go.Proofs.Yticljphbbdnomaa.VL
