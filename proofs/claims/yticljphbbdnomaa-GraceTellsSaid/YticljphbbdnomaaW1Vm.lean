import Derived.Test.YticljphbbdnomaaW1Vl
section
namespace Go.Proofs.Yticljphbbdnomaa.VL
open Go
set_option linter.unusedVariables false
set_option linter.unusedSimpArgs false
set_option linter.unusedSectionVars false
variable [Val]
mutual
def ren (q:Nat→Nat→Option (Nat×Nat)):PV→PV
 | .v x=>.v x
 | .agg cs=>.agg (renL q cs)
 | .tup cs=>.tup (renL q cs)
 | .sl c es=>.sl c (renL q es)
 | .own b s sz off len cap=>match q b s with | some (b',s')=>.own b' s' sz off len cap | none=>.dead
 | .optr b s i off=>match q b s with | some (b',s')=>.optr b' s' i off | none=>.dead
 | .sptr cs=>.sptr (renL q cs)
 | .clo f fs cs=>.clo f (renL q fs) (renL q cs)
 | .mp b s=>match q b s with | some (b',s')=>.mp b' s' | none=>.dead
 | .sy x=>.sy x
 | .dead=>.dead
def renL (q:Nat→Nat→Option (Nat×Nat)):List PV→List PV
 | []=>[]
 | p::r=>ren q p::renL q r
end
mutual
def closed:PV→Bool
 | .v _=>true
 | .agg cs=>closedL cs
 | .tup cs=>closedL cs
 | .sl _ es=>closedL es
 | .own ..=>false
 | .optr ..=>false
 | .sptr cs=>closedL cs
 | .clo _ fs cs=>closedL fs&&closedL cs
 | .mp ..=>false
 | .sy _=>true
 | .dead=>false
def closedL:List PV→Bool
 | []=>true
 | p::r=>closed p&&closedL r
end
theorem closedL_all (l:List PV):closedL l=true ↔ ∀ p ∈ l,closed p=true:=by
 induction l with
 | nil=>simp [closedL]
 | cons p r ih=>simp [closedL,ih]
theorem renL_map (q:Nat→Nat→Option (Nat×Nat)) (l:List PV):renL q l=l.map (ren q):=by
 induction l with
 | nil=>simp [renL]
 | cons p r ih=>simp [renL,ih]
mutual
theorem ren_closed (q:Nat→Nat→Option (Nat×Nat)):∀ p:PV,closed p=true→ren q p=p
 | .v x,_=>by simp [ren]
 | .agg cs,h=>by simp only [closed] at h; simp [ren,renL_closed q cs h]
 | .tup cs,h=>by simp only [closed] at h; simp [ren,renL_closed q cs h]
 | .sl c es,h=>by simp only [closed] at h; simp [ren,renL_closed q es h]
 | .own ..,h=>by simp [closed] at h
 | .optr ..,h=>by simp [closed] at h
 | .sptr cs,h=>by simp only [closed] at h; simp [ren,renL_closed q cs h]
 | .clo f fs cs,h=>by simp only [closed,Bool.and_eq_true] at h; simp [ren,renL_closed q fs h.1,renL_closed q cs h.2]
 | .mp ..,h=>by simp [closed] at h
 | .sy x,_=>by simp [ren]
 | .dead,h=>by simp [closed] at h
theorem renL_closed (q:Nat→Nat→Option (Nat×Nat)):∀ l:List PV,closedL l=true→renL q l=l
 | [],_=>by simp [renL]
 | p::r,h=>by simp only [closedL,Bool.and_eq_true] at h; simp [renL,ren_closed q p h.1,renL_closed q r h.2]
end
theorem ren_cells (q:Nat→Nat→Option (Nat×Nat)) (p:PV):(ren q p).cells=p.cells.map (ren q):=by
 cases p with
 | own b s sz off len cap=>simp only [ren,PV.cells,List.map_cons,List.map_nil]; cases q b s<;>rfl
 | optr b s i off=>simp only [ren,PV.cells,List.map_cons,List.map_nil]; cases q b s<;>rfl
 | mp b s=>simp only [ren,PV.cells,List.map_cons,List.map_nil]; cases q b s<;>rfl
 | _=>simp only [ren,PV.cells,renL_map,List.map_cons,List.map_nil]
theorem Rep.ren {E E':Env} {q:Nat→Nat→Option (Nat×Nat)} (hS:∀ r,E.S r→E'.S r) (hm:∀ r,E.S r→E'.w.heap[r]?=E.w.heap[r]?)
  (hq:∀ (b s b' s':Nat) (en:Ent),q b s=some (b',s')→E.σ s=some en→E'.σ s'=some en) {p:PV} {u:Value} (h:Rep E p u):Rep E' (ren q p) u:=by
 have hcell:∀ {r o:Nat},E.S r→E'.w.cell? ⟨r,o,none⟩=E.w.cell? ⟨r,o,none⟩:=by
  intro r o hr; simp [World.cell?,hm r hr]
 induction h with
 | v x=>simp only [VL.ren]; exact .v x
 | agg cs vs hl ho _ ih =>
  simp only [VL.ren,renL_map]
  refine .agg _ vs (by simpa using hl) ho ?_
  intro i c u hc hu
  simp only [List.getElem?_map,Option.map_eq_some_iff] at hc
  obtain ⟨c',h1,rfl⟩:=hc
  exact ih i c' u h1 hu
 | tup cs vs hl _ ih =>
  simp only [VL.ren,renL_map]
  refine .tup _ vs (by simpa using hl) ?_
  intro i c u hc hu
  simp only [List.getElem?_map,Option.map_eq_some_iff] at hc
  obtain ⟨c',h1,rfl⟩:=hc
  exact ih i c' u h1 hu
 | emp c a cap hc hn=>simp only [VL.ren,renL]; exact .emp c a cap hc hn
 | sl c es rb off cap sz U hne hS' hc hcap hsz0 hsz hmm ho _ ih =>
  simp only [VL.ren,renL_map]
  have:=Rep.sl (E:=E') c (es.map (VL.ren q)) rb off cap sz U (by simpa using hne) (hS _ hS') (by simpa using hc) (by simpa using hcap) hsz0 ?_ ?_ ho ?_
  ·simpa using this
  ·intro i e he
   simp only [List.getElem?_map,Option.map_eq_some_iff] at he
   obtain ⟨e',h1,rfl⟩:=he
   rw [ren_cells,List.length_map]; exact hsz i e' h1
  ·intro i e j c he hj
   simp only [List.getElem?_map,Option.map_eq_some_iff] at he
   obtain ⟨e',h1,rfl⟩:=he
   rw [ren_cells] at hj
   simp only [List.getElem?_map,Option.map_eq_some_iff] at hj
   obtain ⟨c',h2,rfl⟩:=hj
   rw [hcell hS']; exact hmm i e' j c' h1 h2
  ·intro i e j c he hj
   simp only [List.getElem?_map,Option.map_eq_some_iff] at he
   obtain ⟨e',h1,rfl⟩:=he
   rw [ren_cells] at hj
   simp only [List.getElem?_map,Option.map_eq_some_iff] at hj
   obtain ⟨c',h2,rfl⟩:=hj
   exact ih i e' j c' h1 h2
 | own b s off len cap en c a hb ha hn hlen hc htot hcap =>
  simp only [VL.ren]
  split
  ·rename_i b' s' hqb
   exact .own b' s' off len cap en c a (hq _ _ _ _ _ hqb hb) ha hn hlen hc htot hcap
  ·exact .dead _
 | optr b s i off en hb =>
  simp only [VL.ren]
  split
  ·rename_i b' s' hqb
   exact .optr b' s' i off en (hq _ _ _ _ _ hqb hb)
  ·exact .dead _
 | sptr cs rb off U hS' hmm ho _ ih =>
  simp only [VL.ren,renL_map]
  refine .sptr _ rb off U (hS _ hS') ?_ ho ?_
  ·intro j c hc
   simp only [List.getElem?_map,Option.map_eq_some_iff] at hc
   obtain ⟨c',h1,rfl⟩:=hc
   rw [hcell hS']; exact hmm j c' h1
  ·intro j c hc
   simp only [List.getElem?_map,Option.map_eq_some_iff] at hc
   obtain ⟨c',h1,rfl⟩:=hc
   exact ih j c' h1
 | clo f fs cs us vs hk _ hl _ ih1 ih2 =>
  simp only [VL.ren,renL_map]
  refine .clo f _ _ us vs (by simpa using hk) ?_ (by simpa using hl) ?_
  ·intro i c u hc hu
   simp only [List.getElem?_map,Option.map_eq_some_iff] at hc
   obtain ⟨c',h1,rfl⟩:=hc
   exact ih1 i c' u h1 hu
  ·intro i c u hc hu
   simp only [List.getElem?_map,Option.map_eq_some_iff] at hc
   obtain ⟨c',h1,rfl⟩:=hc
   exact ih2 i c' u h1 hu
 | mp b s en hb =>
  simp only [VL.ren]
  split
  ·rename_i b' s' hqb
   exact .mp b' s' en (hq _ _ _ _ _ hqb hb)
  ·exact .dead _
 | sy x=>simp only [VL.ren]; exact .sy x
 | dead u=>simp only [VL.ren]; exact .dead u
theorem Rep.any_names {E:Env} {σ:Nat→Option Ent} {p:PV} {u:Value} (h:Rep E p u) (hc:closed p=true):Rep ⟨E.w,σ,E.S⟩ p u:=by
 have:=Rep.ren (E:=E) (E':=⟨E.w,σ,E.S⟩) (q:=fun _ _=>none) (fun _ h=>h) (fun _ _=>rfl) (fun b s b' s' en h=>by cases h) h
 rwa [ren_closed _ p hc] at this
def renB (q:Nat→Nat→Option (Nat×Nat)):Blk→Blk
 | .cells es=>.cells (es.map (ren q))
 | .map ps=>.map (ps.map fun p=>(ren q p.1,ren q p.2))
 | .iter s pos=>.iter s pos
theorem BRep.ren {E E':Env} {q:Nat→Nat→Option (Nat×Nat)} (hS:∀ r,E.S r→E'.S r) (hm:∀ r,E.S r→E'.w.heap[r]?=E.w.heap[r]?)
  (hq:∀ (b s b' s':Nat) (en:Ent),q b s=some (b',s')→E.σ s=some en→E'.σ s'=some en) {en:Ent} {k:Blk} (hb:en.tot≠0→E'.w.heap[en.rb]?=E.w.heap[en.rb]?) (h:BRep E en k):BRep E' en (renB q k):=by
 cases k with
 | cells es =>
  obtain ⟨h1,h2,h3,h4⟩:=h
  refine ⟨by simpa [renB] using h1,h2,?_,fun h0=>?_⟩
  ·intro i e he
   simp only [List.getElem?_map,Option.map_eq_some_iff] at he
   obtain ⟨e',g1,rfl⟩:=he
   rw [ren_cells,List.length_map]; exact h3 i e' g1
  ·obtain ⟨arr,t,h5,h6,h7,h8⟩:=h4 h0
   refine ⟨arr,t,(hb h0).trans h5,h6,?_,h8⟩
   intro i e j c he hj
   simp only [List.getElem?_map,Option.map_eq_some_iff] at he
   obtain ⟨e',g1,rfl⟩:=he
   rw [ren_cells] at hj
   simp only [List.getElem?_map,Option.map_eq_some_iff] at hj
   obtain ⟨c',g2,rfl⟩:=hj
   obtain ⟨u,hu,hr⟩:=h7 i e' j c' g1 g2
   exact ⟨u,hu,hr.ren hS hm hq⟩
 | map ps =>
  obtain ⟨h0,es,clock,h1,h2,h3,h4⟩:=h
  refine ⟨h0,es,clock,(hb h0).trans h1,by simpa [renB] using h2,?_,h4⟩
  intro i p e hp he
  simp only [List.getElem?_map,Option.map_eq_some_iff] at hp
  obtain ⟨p',g1,rfl⟩:=hp
  obtain ⟨a,b,c⟩:=h3 i p' e g1 he
  exact ⟨a.ren hS hm hq,b.ren hS hm hq,c⟩
 | iter s pos =>
  obtain ⟨h0,h1,h2⟩:=h
  exact ⟨h0,h1,(hb h0).trans h2⟩
def emptyAct:Act:={ tmps:=#[],defers:=[] }
def slots (L:List (Option Blk)) (N:Option Blk):List Slot:=(L.zipIdx.map fun x=>x.1.map fun k=>(x.2,k))++[N.map fun k=>(L.length,k)]
def handed (ents:List Ent) (r:Nat):Prop:=∃ (i:Nat) (en:Ent),ents[i]?=some en∧en.tot≠0∧en.rb=r
def callable (P:Program) (f:FuncId):Bool:=match P.funcs[f]? with | some fn=>fn.name != "runtime.NumGoroutine" && fn.body.isSome | none=>false
def VCall (P:Program) (f:FuncId) (L:List Blk) (args:List PV) (R:PV→List (Option Blk)→Option Blk→Prop):Prop :=
 callable P f=true∧∀ (W:World) (S:Nat→Prop) (ents:List Ent) (vals:Array Value),ents.length=L.length →
  InvE ⟨W,(ents[·]?),handed ents,S⟩ ⟨[],slots (L.map some) none,L.length⟩ emptyAct ⟨W,(ents[·]?),S⟩ →
  vals.size=args.length→(∀ (i:Nat) (p:PV) (u:Value),args[i]?=some p→vals[i]?=some u→Rep ⟨W,(ents[·]?),S⟩ p u) →
  Calls P f vals W fun e W'=>∃ v r L' N σ' S',e=.returned v∧R r L' N∧L'.length=L.length ∧
   InvE ⟨W,(ents[·]?),handed ents,S⟩ ⟨[],slots L' N,L.length+1⟩ emptyAct ⟨W',σ',S'⟩∧Rep ⟨W',σ',S'⟩ r v
theorem VCall.mono {P:Program} {f:FuncId} {L:List Blk} {args:List PV} {R R':PV→List (Option Blk)→Option Blk→Prop} (h:VCall P f L args R) (hR:∀ r L' N,R r L' N→R' r L' N):VCall P f L args R' :=
 ⟨h.1,fun W S ents vals h1 h2 h3 h4=>(h.2 W S ents vals h1 h2 h3 h4).mono fun e W' ⟨v,r,L',N,σ',S',a,b,c⟩=>⟨v,r,L',N,σ',S',a,hR _ _ _ b,c⟩⟩
def VPure (P:Program) (f:FuncId) (args:List PV) (r:PV):Prop:=closedL args=true∧closed r=true∧VCall P f [] args fun r' _ _=>r'=r
end Go.Proofs.Yticljphbbdnomaa.VL
end
section
namespace Go.Proofs.Yticljphbbdnomaa.VL
open Go
set_option linter.unusedVariables false
set_option linter.unusedSimpArgs false
set_option linter.unusedSectionVars false
variable [Val]
def qin (ms:List (Nat×Nat)) (b s:Nat):Option (Nat×Nat):=(ms.idxOf? (b,s)).map fun i=>(i,i)
def qout (ms:List (Nat×Nat)) (site n:Nat) (new:Bool) (b s:Nat):Option (Nat×Nat):=if s < ms.length then ms[s]? else if s=ms.length∧new=true then some (site,n) else none
def putL (h:List Slot):List ((Nat×Nat)×Option Blk)→List Slot
 | []=>h
 | x::r=>putL (h.set x.1.1 (x.2.map fun k=>(x.1.2,k))) r
def callH (h:List Slot) (n:Nat) (ms:List (Nat×Nat)) (site:Nat) (L':List (Option Blk)):Option Blk→List Slot
 | none=>putL h (ms.zip (L'.map fun o=>o.map (renB (qout ms site n false))))
 | some k=>(putL h (ms.zip (L'.map fun o=>o.map (renB (qout ms site n true))))).set site (some (n,renB (qout ms site n true) k))
theorem putL_length:∀ (l:List ((Nat×Nat)×Option Blk)) (h:List Slot),(putL h l).length=h.length
 | [],h=>rfl
 | x::r,h=>by rw [putL,putL_length r]; simp
theorem putL_other:∀ (l:List ((Nat×Nat)×Option Blk)) (h:List Slot) (b:Nat),(∀ x ∈ l,x.1.1≠b)→(putL h l)[b]?=h[b]?
 | [],h,b,_=>rfl
 | x::r,h,b,hb=>by
  rw [putL,putL_other r _ b fun y hy=>hb y (by simp [hy])]
  exact List.getElem?_set_ne (hb x (by simp))
theorem putL_at:∀ (l:List ((Nat×Nat)×Option Blk)) (h:List Slot) (i:Nat) (x:(Nat×Nat)×Option Blk),(l.map (·.1.1)).Nodup→l[i]?=some x→x.1.1 < h.length→(putL h l)[x.1.1]?=some (x.2.map fun k=>(x.1.2,k))
 | [],h,i,x,_,hx,_=>by simp at hx
 | y::r,h,i,x,hnd,hx,hlt=>by
  simp only [List.map_cons,List.nodup_cons] at hnd
  cases i with
  | zero =>
   simp at hx; subst hx
   rw [putL,putL_other r _ _ fun z hz=>?_]
   ·simp [hlt]
   ·intro he
    exact hnd.1 (by rw [← he]; exact List.mem_map_of_mem hz)
  | succ i =>
   rw [putL]
   exact putL_at r _ i x hnd.2 (by simpa using hx) (by simpa using hlt)
theorem slots_get (L:List (Option Blk)) (N:Option Blk) (b:Nat):(slots L N)[b]?=if b < L.length then (L[b]?).map (fun o=>o.map fun k=>(b,k)) else if b=L.length then some (N.map fun k=>(L.length,k)) else none:=by
 unfold slots
 rw [List.getElem?_append]
 simp only [List.length_map,List.length_zipIdx,List.getElem?_map,List.getElem?_zipIdx]
 split
 ·rename_i hb
  simp [List.getElem?_eq_getElem hb]
 ·rename_i hb
  split
  ·rename_i he; subst he; simp
  ·rename_i he
   rw [List.getElem?_eq_none (by simp; omega)]
variable {P:Program} {C:Ctx} {st:St} {a:Act} {E:Env}
theorem callee_start (I:InvE C st a E) {ms:List (Nat×Nat)} {ks:List Blk} (hlen:ks.length=ms.length) (hnd:(ms.map (·.1)).Nodup)
  (hms:∀ (i:Nat) (b s:Nat) (k:Blk),ms[i]?=some (b,s)→ks[i]?=some k→st.h[b]?=some (some (s,k))) :
  ∃ ents:List Ent,ents.length=ms.length∧(∀ (i b s:Nat) (k:Blk) (en:Ent),ms[i]?=some (b,s)→ks[i]?=some k→ents[i]?=some en→At E st.h b s k en) ∧
   InvE ⟨E.w,(ents[·]?),handed ents,E.S⟩ ⟨[],slots ((ks.map (renB (qin ms))).map some) none,ks.length⟩ emptyAct ⟨E.w,(ents[·]?),E.S⟩ ∧
   ∀ (b s b' s':Nat) (en:Ent),qin ms b s=some (b',s')→E.σ s=some en→ents[s']?=some en:=by
 have hat:∀ (i:Nat) (x:Nat×Nat),ms[i]?=some x→∃ k en,ks[i]?=some k∧At E st.h x.1 x.2 k en:=by
  intro i x hx
  have hi:i < ks.length:=by rw [hlen]; exact (List.getElem?_eq_some_iff.1 hx).1
  have hk:=List.getElem?_eq_getElem hi
  obtain ⟨en,A,_⟩:=I.good.blk x.1 x.2 _ (hms i x.1 x.2 _ hx hk)
  exact ⟨_,en,hk,A⟩
 let ents:List Ent:=ms.map fun x=>(E.σ x.2).getD default
 have hent:∀ (i:Nat) (x:Nat×Nat),ms[i]?=some x→∃ k en,ks[i]?=some k∧At E st.h x.1 x.2 k en∧ents[i]?=some en:=by
  intro i x hx
  obtain ⟨k,en,hk,A⟩:=hat i x hx
  exact ⟨k,en,hk,A,by simp [ents,hx,A.σ]⟩
 have hmsOf:∀ (i:Nat) (en:Ent),ents[i]?=some en→∃ x k,ms[i]?=some x∧ks[i]?=some k∧At E st.h x.1 x.2 k en:=by
  intro i en he
  have hi:i < ms.length:=by have:=(List.getElem?_eq_some_iff.1 he).1; simpa [ents] using this
  obtain ⟨k,en',hk,A,h1⟩:=hent i _ (List.getElem?_eq_getElem hi)
  rw [he] at h1; cases h1
  exact ⟨_,k,List.getElem?_eq_getElem hi,hk,A⟩
 have hqin:∀ (b s b' s':Nat) (en:Ent),qin ms b s=some (b',s')→E.σ s=some en→ents[s']?=some en:=by
  intro b s b' s' en hq hσ
  simp only [qin,Option.map_eq_some_iff] at hq
  obtain ⟨i,hi,he⟩:=hq
  have hx:ms[i]?=some (b,s):=by
   obtain ⟨h1,h2,_⟩:=List.findIdx?_eq_some_iff_getElem.1 hi
   rw [List.getElem?_eq_getElem h1]
   simpa using h2
  cases he
  simp [ents,hx,hσ]
 refine ⟨ents,by simp [ents],?_,?_,hqin⟩
 ·intro i b s k en hx hk he
  obtain ⟨k',en',hk',A,h1⟩:=hent i _ hx
  rw [hk] at hk'; cases hk'
  rw [he] at h1; cases h1
  exact A
 ·have slotAt:∀ (b s:Nat) (k:Blk),(slots ((ks.map (renB (qin ms))).map some) none)[b]?=some (some (s,k))→s=b∧∃ k0,ks[b]?=some k0∧k=renB (qin ms) k0:=by
   intro b s k hb
   rw [slots_get] at hb
   simp only [List.length_map] at hb
   split at hb
   ·rename_i hlt
    simp [List.getElem?_eq_getElem hlt] at hb
    exact ⟨hb.1.symm,_,List.getElem?_eq_getElem hlt,hb.2.symm⟩
   ·split at hb<;>simp at hb
  have atOf:∀ (b s:Nat) (k:Blk) (en:Ent),At ⟨E.w,(ents[·]?),E.S⟩ (slots ((ks.map (renB (qin ms))).map some) none) b s k en→∃ x k0,ms[b]?=some x∧k=renB (qin ms) k0∧At E st.h x.1 x.2 k0 en:=by
   intro b s k en A
   obtain ⟨rfl,k0,h1,h2⟩:=slotAt _ _ _ A.slot
   obtain ⟨x,k1,h3,h4,h5⟩:=hmsOf _ _ A.σ
   rw [h1] at h4; cases h4
   exact ⟨x,k0,h3,h2,h5⟩
  refine { good:=⟨?_,?_,?_,I.good.stay⟩,since:=⟨rfl,rfl,rfl,Nat.le_refl _,fun _ _ _=>rfl,fun _ _ h=>h,fun _ h=>h,fun _ h=>.inl h,Nat.le_refl _⟩,touch:=?_,defers:=rfl,tsize:=rfl,tmps:=?_ }
  ·intro s hs
   exact List.getElem?_eq_none (by simp [ents]; rw [← hlen]; exact hs)
  ·intro b s k hb
   obtain ⟨rfl,k0,h1,rfl⟩:=slotAt _ _ _ hb
   have hi:s < ms.length:=by rw [← hlen]; exact (List.getElem?_eq_some_iff.1 h1).1
   obtain ⟨k',en,hk',A,h2⟩:=hent s _ (List.getElem?_eq_getElem hi)
   rw [h1] at hk'; cases hk'
   obtain ⟨hB,hS⟩:=A.brep I.good
   exact ⟨en,⟨hb,h2⟩,BRep.ren (E:=E) (E':=⟨E.w,(ents[·]?),E.S⟩) (fun _ h=>h) (fun _ _=>rfl) hqin (fun _=>rfl) hB,hS⟩
  ·intro b1 b2 s1 s2 k1 k2 en1 en2 A1 A2 h1 h2 he
   obtain ⟨x1,k1',g1,_,B1⟩:=atOf _ _ _ _ A1
   obtain ⟨x2,k2',g2,_,B2⟩:=atOf _ _ _ _ A2
   have hb:=I.good.inj _ _ _ _ _ _ _ _ B1 B2 h1 h2 he
   have l1:=(List.getElem?_eq_some_iff.1 g1).1
   have l2:=(List.getElem?_eq_some_iff.1 g2).1
   have e1:(ms.map (·.1))[b1]?=some x1.1:=by simp [g1]
   have e2:(ms.map (·.1))[b2]?=some x1.1:=by simp [g2,hb]
   exact (List.getElem?_inj (by simpa using l1) hnd).1 (e1.trans e2.symm)
  ·intro b s k en A h0
   exact .inl ⟨s,en,A.σ,h0,rfl⟩
  ·intro i p u hp; simp at hp
theorem callee_end (I:InvE C st a E) {ms:List (Nat×Nat)} {ks:List Blk} {ents:List Ent} (hlen:ks.length=ms.length) (hnd:(ms.map (·.1)).Nodup) (hel:ents.length=ms.length) {site:Nat} (hsite:site < st.h.length) (hsm:∀ x ∈ ms,x.1≠site)
  (hat:∀ (i b s:Nat) (k:Blk) (en:Ent),ms[i]?=some (b,s)→ks[i]?=some k→ents[i]?=some en→At E st.h b s k en) {W':World} {σ':Nat→Option Ent} {S':Nat→Prop} {L':List (Option Blk)} {N:Option Blk} (hL:L'.length=ms.length)
  (J:InvE ⟨E.w,(ents[·]?),handed ents,E.S⟩ ⟨[],slots L' N,ms.length+1⟩ emptyAct ⟨W',σ',S'⟩) :
  ∃ σ2,InvE C ⟨st.t,callH st.h st.n ms site L' N,st.n+(if N.isSome then 1 else 0)⟩ a ⟨W',σ2,S'⟩ ∧
   ∀ (p:PV) (u:Value),Rep ⟨W',σ',S'⟩ p u→Rep ⟨W',σ2,S'⟩ (ren (qout ms site st.n N.isSome) p) u:=by
 let σ2:Nat→Option Ent:=fun s=>if s < st.n then E.σ s else if s=st.n∧N.isSome=true then σ' ms.length else none
 have hσlt:∀ (s:Nat) (en:Ent),E.σ s=some en→s < st.n:=by
  intro s en h
  rcases Nat.lt_or_ge s st.n with h1 | h1
  ·exact h1
  ·rw [I.good.free s h1] at h; cases h
 have hσ2:∀ (s:Nat) (en:Ent),E.σ s=some en→σ2 s=some en:=by
  intro s en h; simp only [σ2,hσlt s en h,if_true]; exact h
 have hit:∀ (i:Nat) (en:Ent),ents[i]?=some en→∃ x k,ms[i]?=some x∧At E st.h x.1 x.2 k en:=by
  intro i en he
  have hi:i < ms.length:=by rw [← hel]; exact (List.getElem?_eq_some_iff.1 he).1
  have hk:i < ks.length:=by omega
  exact ⟨_,_,List.getElem?_eq_getElem hi,hat i _ _ _ en (List.getElem?_eq_getElem hi) (List.getElem?_eq_getElem hk) he⟩
 have hhand:∀ r,handed ents r→∃ (b s:Nat) (k:Blk) (en:Ent),At E st.h b s k en∧en.tot≠0∧en.rb=r∧∃ (i:Nat),(ms.map (·.1))[i]?=some b:=by
  rintro r ⟨i,en,he,h0,hr⟩
  obtain ⟨x,k,h1,A⟩:=hit i en he
  exact ⟨x.1,x.2,k,en,A,h0,hr,i,by simp [h1]⟩
 have hkept:∀ r,r < E.w.heap.size→¬ handed ents r→W'.heap[r]?=E.w.heap[r]?:=fun r hr hn=>J.since.kept r hr hn
 have hSnot:∀ r,E.S r→¬ handed ents r:=by
  intro r hr hh
  obtain ⟨b,s,k,en,A,h0,he,_⟩:=hhand r hh
  exact (A.brep I.good).2 h0 (he ▸ hr)
 have hle:E.le ⟨W',σ2,S'⟩:=⟨fun r hr=>J.since.S1 r hr,fun r hr=>hkept r (I.good.stay r hr) (hSnot r hr),hσ2⟩
 have hq:∀ (b s b' s':Nat) (en:Ent),qout ms site st.n N.isSome b s=some (b',s')→σ' s=some en→σ2 s'=some en:=by
  intro b s b' s' en hq hσ
  unfold qout at hq
  split at hq
  ·rename_i hs
   have hes:s < ents.length:=by omega
   have h1:σ' s=some ents[s]:=J.since.σ s _ (List.getElem?_eq_getElem hes)
   rw [hσ] at h1; cases h1
   obtain ⟨x,k,h2,A⟩:=hit s _ (List.getElem?_eq_getElem hes)
   rw [hq] at h2; cases h2
   exact hσ2 _ _ A.σ
  ·split at hq
   ·rename_i hs
    cases hq
    obtain ⟨rfl,hn⟩:=hs
    simp only [σ2,Nat.lt_irrefl,if_false,hn,and_self,if_true]
    exact hσ
   ·cases hq
 have hren:∀ (p:PV) (u:Value),Rep ⟨W',σ',S'⟩ p u→Rep ⟨W',σ2,S'⟩ (ren (qout ms site st.n N.isSome) p) u:=fun p u h=>Rep.ren (E:=⟨W',σ',S'⟩) (E':=⟨W',σ2,S'⟩) (fun _ h=>h) (fun _ _=>rfl) hq h
 have hrenB:∀ (en:Ent) (k:Blk),BRep ⟨W',σ',S'⟩ en k→BRep ⟨W',σ2,S'⟩ en (renB (qout ms site st.n N.isSome) k):=fun en k h=>BRep.ren (E:=⟨W',σ',S'⟩) (E':=⟨W',σ2,S'⟩) (fun _ h=>h) (fun _ _=>rfl) hq (fun _=>rfl) h
 refine ⟨σ2,?_,hren⟩
 have hzip:∀ (i:Nat) (x:Nat×Nat),ms[i]?=some x→(ms.zip (L'.map fun o=>o.map (renB (qout ms site st.n N.isSome))))[i]?=some (x,(L'.getD i none).map (renB (qout ms site st.n N.isSome))):=by
  intro i x hx
  have hi:i < L'.length:=by rw [hL]; exact (List.getElem?_eq_some_iff.1 hx).1
  rw [List.getElem?_zip_eq_some]
  refine ⟨hx,?_⟩
  simp [List.getElem?_eq_getElem hi]
 have hznd:((ms.zip (L'.map fun o=>o.map (renB (qout ms site st.n N.isSome)))).map (·.1.1)).Nodup:=by
  have:(ms.zip (L'.map fun o=>o.map (renB (qout ms site st.n N.isSome)))).map (·.1.1)=ms.map (·.1):=by
   have e:(fun x:(Nat×Nat)×Option Blk=>x.1.1)=(fun x:Nat×Nat=>x.1) ∘ Prod.fst:=rfl
   rw [e,← List.map_map,List.map_fst_zip (by simp [hL])]
  rw [this]; exact hnd
 have hcall:∀ b:Nat,(callH st.h st.n ms site L' N)[b]?=if b=site∧N.isSome=true then some (N.map fun k=>(st.n,renB (qout ms site st.n N.isSome) k)) else (putL st.h (ms.zip (L'.map fun o=>o.map (renB (qout ms site st.n N.isSome)))))[b]?:=by
  intro b
  cases N with
  | none=>simp [callH]
  | some k =>
   simp only [callH,Option.isSome_some]
   by_cases hb:b=site
   ·subst hb
    rw [if_pos ⟨rfl,trivial⟩,List.getElem?_set_self (by rw [putL_length]; exact hsite)]
    rfl
   ·rw [if_neg (fun h=>hb h.1),List.getElem?_set_ne (Ne.symm hb)]
 have live:∀ (b s:Nat) (k:Blk),(callH st.h st.n ms site L' N)[b]?=some (some (s,k)) →
   (st.h[b]?=some (some (s,k))∧(∀ x ∈ ms,x.1≠b))∨∃ (b1:Nat) (k1:Blk),(slots L' N)[b1]?=some (some (b1,k1))∧k=renB (qout ms site st.n N.isSome) k1 ∧
    ((b1 < ms.length∧ms[b1]?=some (b,s))∨(b1=ms.length∧b=site∧s=st.n∧N.isSome=true)):=by
  intro b s k hb
  rw [hcall] at hb
  split at hb
  ·rename_i hc
   obtain ⟨rfl,hn⟩:=hc
   cases N with
   | none=>cases hn
   | some kN =>
    simp at hb
    obtain ⟨rfl,rfl⟩:=hb
    exact .inr ⟨ms.length,kN,by rw [slots_get,if_neg (by omega),if_pos hL.symm,hL]; rfl,rfl,.inr ⟨rfl,rfl,rfl,rfl⟩⟩
  ·by_cases hm:∀ x ∈ ms,x.1≠b
   ·rw [putL_other _ _ _ (fun x hx=>hm x.1 (List.of_mem_zip hx).1)] at hb
    exact .inl ⟨hb,hm⟩
   ·have hm':∃ x,x ∈ ms∧x.1=b:=by
     apply Classical.byContradiction
     intro h
     exact hm fun x hx he=>h ⟨x,hx,he⟩
    obtain ⟨x,hx,rfl⟩:=hm'
    obtain ⟨i,hi,rfl⟩:=List.getElem_of_mem hx
    have hxi:=List.getElem?_eq_getElem hi
    have hbl:ms[i].1 < st.h.length:=by
     have hk:i < ks.length:=by omega
     have he:i < ents.length:=by omega
     exact (List.getElem?_eq_some_iff.1 (hat i _ _ _ _ hxi (List.getElem?_eq_getElem hk) (List.getElem?_eq_getElem he)).slot).1
    have:=putL_at _ st.h i _ hznd (hzip i _ hxi) hbl
    simp only at this
    rw [this] at hb
    have hiL:i < L'.length:=by omega
    cases hLi:L'[i] with
    | none=>simp [List.getElem?_eq_getElem hiL,hLi] at hb
    | some k1 =>
     simp [List.getElem?_eq_getElem hiL,hLi] at hb
     obtain ⟨rfl,rfl⟩:=hb
     refine .inr ⟨i,k1,?_,rfl,.inl ⟨hi,hxi⟩⟩
     rw [slots_get,if_pos hiL]
     simp [List.getElem?_eq_getElem hiL,hLi]
 have tag:∀ (b s:Nat) (k:Blk) (en:Ent),At ⟨W',σ2,S'⟩ (callH st.h st.n ms site L' N) b s k en →
   (At E st.h b s k en∧(∀ x ∈ ms,x.1≠b))∨∃ (b1:Nat) (k1:Blk),At ⟨W',σ',S'⟩ (slots L' N) b1 b1 k1 en∧k=renB (qout ms site st.n N.isSome) k1 ∧
    ((b1 < ms.length∧ms[b1]?=some (b,s))∨(b1=ms.length∧b=site∧s=st.n∧N.isSome=true)):=by
  intro b s k en A
  rcases live b s k A.slot with ⟨h1,h2⟩ | ⟨b1,k1,h1,h2,h3⟩
  ·obtain ⟨en',A',_⟩:=I.good.blk b s k h1
   have:=hσ2 _ _ A'.σ
   have h4:=A.σ
   simp only at h4
   rw [this] at h4; cases h4
   exact .inl ⟨A',h2⟩
  ·refine .inr ⟨b1,k1,⟨h1,?_⟩,h2,h3⟩
   obtain ⟨en',A',_⟩:=J.good.blk b1 b1 k1 h1
   have hq':qout ms site st.n N.isSome b1 b1=some (b,s):=by
    unfold qout
    rcases h3 with ⟨h4,h5⟩ | ⟨h4,h5,h6,h7⟩
    ·rw [if_pos h4]; exact h5
    ·rw [if_neg (by omega),if_pos ⟨h4,h7⟩,h5,h6]
   have:=hq _ _ _ _ _ hq' A'.σ
   have h4:=A.σ
   simp only at h4
   rw [this] at h4; cases h4
   exact A'.σ
 have oldNot:∀ (b s:Nat) (k:Blk) (en:Ent),At E st.h b s k en→(∀ x ∈ ms,x.1≠b)→en.tot≠0→¬ handed ents en.rb:=by
  intro b s k en A hm h0 hh
  obtain ⟨b',s',k',en',A',h0',he,i,hi⟩:=hhand _ hh
  have hbb:=I.good.inj _ _ _ _ _ _ _ _ A' A h0' h0 he
  simp only [List.getElem?_map,Option.map_eq_some_iff] at hi
  obtain ⟨x,hx,rfl⟩:=hi
  exact hm x (List.mem_of_getElem? hx) hbb
 refine I.step hle J.since.os J.since.tape J.since.output J.since.size ?_ ?_ ⟨?_,?_,?_,J.good.stay⟩ ?_ J.since.drawn
 ·intro r hr
  rcases J.since.S2 r hr with h | h | h
  ·exact .inl h
  ·obtain ⟨b,s,k,en,A,h0,he,_⟩:=hhand r h
   exact .inr (.inl ⟨b,s,k,en,A,h0,he⟩)
  ·exact .inr (.inr h)
 ·intro r hr hn
  refine hkept r hr fun hh=>?_
  obtain ⟨b,s,k,en,A,h0,he,_⟩:=hhand r hh
  exact hn b s k en A h0 he
 ·intro s hs
  cases hN:N.isSome with
  | false =>
   rw [hN] at hs
   simp only [Bool.false_eq_true,if_false] at hs
   simp only [σ2,hN]
   rw [if_neg (by omega),if_neg (by simp)]
  | true =>
   rw [hN] at hs
   simp only [if_true] at hs
   simp only [σ2,hN]
   rw [if_neg (by omega),if_neg (by omega)]
 ·intro b s k hb
  rcases live b s k hb with ⟨h1,h2⟩ | ⟨b1,k1,h1,rfl,h3⟩
  ·obtain ⟨en,A,hB,hS⟩:=I.good.blk b s k h1
   refine ⟨en,⟨hb,hσ2 _ _ A.σ⟩,hB.mono hle (fun h0=>hkept _ (A.lt I.good h0) (oldNot _ _ _ _ A h2 h0)),fun h0 hS'=>?_⟩
   rcases J.since.S2 _ hS' with h | h | h
   ·exact hS h0 h
   ·exact oldNot _ _ _ _ A h2 h0 h
   ·exact absurd (A.lt I.good h0) (Nat.not_lt.2 h)
  ·obtain ⟨en,A,hB,hS⟩:=J.good.blk b1 b1 k1 h1
   have hq':qout ms site st.n N.isSome b1 b1=some (b,s):=by
    unfold qout
    rcases h3 with ⟨h4,h5⟩ | ⟨h4,h5,h6,h7⟩
    ·rw [if_pos h4]; exact h5
    ·rw [if_neg (by omega),if_pos ⟨h4,h7⟩,h5,h6]
   exact ⟨en,⟨hb,hq _ _ _ _ _ hq' A.σ⟩,hrenB _ _ hB,hS⟩
 ·intro b1 b2 s1 s2 k1 k2 en1 en2 A1 A2 h1 h2 he
  have mixed:∀ (b1 b2 s1:Nat) (k1 k2:Blk) (en1 en2:Ent),At E st.h b1 s1 k1 en1→(∀ x ∈ ms,x.1≠b1)→At ⟨W',σ',S'⟩ (slots L' N) b2 b2 k2 en2→en1.tot≠0→en2.tot≠0→en1.rb≠en2.rb:=by
   intro b1 b2 s1 k1 k2 en1 en2 B1 hm B2 h1 h2 he
   rcases J.touch _ _ _ _ B2 h2 with h | h
   ·exact oldNot _ _ _ _ B1 hm h1 (he ▸ h)
   ·have:=B1.lt I.good h1
    simp only at h; omega
  rcases tag _ _ _ _ A1 with ⟨B1,m1⟩ | ⟨c1,k1',B1,_,t1⟩<;>rcases tag _ _ _ _ A2 with ⟨B2,m2⟩ | ⟨c2,k2',B2,_,t2⟩
  ·exact I.good.inj _ _ _ _ _ _ _ _ B1 B2 h1 h2 he
  ·exact absurd he (mixed _ _ _ _ _ _ _ B1 m1 B2 h1 h2)
  ·exact absurd he.symm (mixed _ _ _ _ _ _ _ B2 m2 B1 h2 h1)
  ·have:=J.good.inj _ _ _ _ _ _ _ _ B1 B2 h1 h2 he
   subst this
   rcases t1 with ⟨u1,u2⟩ | ⟨u1,u2,_⟩<;>rcases t2 with ⟨v1,v2⟩ | ⟨v1,v2,_⟩
   ·rw [u2] at v2; cases v2; rfl
   ·omega
   ·omega
   ·rw [u2,v2]
 ·intro b s k en A h0
  rcases tag _ _ _ _ A with ⟨B,m⟩ | ⟨c,k',B,_,t⟩
  ·exact .inl ⟨b,s,k,en,B,h0,rfl⟩
  ·rcases J.touch _ _ _ _ B h0 with h | h
   ·obtain ⟨b',s',k',en',A',h0',he,_⟩:=hhand _ h
    exact .inl ⟨b',s',k',en',A',h0',he⟩
   ·exact .inr h
end Go.Proofs.Yticljphbbdnomaa.VL
end
