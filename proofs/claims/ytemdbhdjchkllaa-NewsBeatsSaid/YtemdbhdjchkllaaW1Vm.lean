import Derived.Test.YtemdbhdjchkllaaW1Vl
namespace Go.Proofs.Ytemdbhdjchkllaa.VL
open Go
set_option linter.unusedVariables false
set_option linter.unusedSimpArgs false
set_option linter.unusedSectionVars false
variable [Val]
mutual
def ren (q:Nat→Nat→Option (Nat×Nat)):PV→PV
 | .v x=>.v x
 | .agg cs=>.agg (renL q cs)
 | .tup cs=>.tup (renL q cs)
 | .sl c es=>.sl c (renL q es)
 | .own b s sz off len cap=>match q b s with | some (b',s')=>.own b' s' sz off len cap | none=>.dead
 | .optr b s i off=>match q b s with | some (b',s')=>.optr b' s' i off | none=>.dead
 | .sptr cs=>.sptr (renL q cs)
 | .clo f fs cs=>.clo f (renL q fs) (renL q cs)
 | .mp b s=>match q b s with | some (b',s')=>.mp b' s' | none=>.dead
 | .sy x=>.sy x
 | .dead=>.dead
def renL (q:Nat→Nat→Option (Nat×Nat)):List PV→List PV
 | []=>[]
 | p::r=>ren q p::renL q r
end
mutual
def closed:PV→Bool
 | .v _=>true
 | .agg cs=>closedL cs
 | .tup cs=>closedL cs
 | .sl _ es=>closedL es
 | .own ..=>false
 | .optr ..=>false
 | .sptr cs=>closedL cs
 | .clo _ fs cs=>closedL fs&&closedL cs
 | .mp ..=>false
 | .sy _=>true
 | .dead=>false
def closedL:List PV→Bool
 | []=>true
 | p::r=>closed p&&closedL r
end
theorem closedL_all (l:List PV):closedL l=true ↔ ∀ p ∈ l,closed p=true:=by
 induction l with
 | nil=>simp [closedL]
 | cons p r ih=>simp [closedL,ih]
theorem renL_map (q:Nat→Nat→Option (Nat×Nat)) (l:List PV):renL q l=l.map (ren q):=by
 induction l with
 | nil=>simp [renL]
 | cons p r ih=>simp [renL,ih]
mutual
theorem ren_closed (q:Nat→Nat→Option (Nat×Nat)):∀ p:PV,closed p=true→ren q p=p
 | .v x,_=>by simp [ren]
 | .agg cs,h=>by simp only [closed] at h; simp [ren,renL_closed q cs h]
 | .tup cs,h=>by simp only [closed] at h; simp [ren,renL_closed q cs h]
 | .sl c es,h=>by simp only [closed] at h; simp [ren,renL_closed q es h]
 | .own ..,h=>by simp [closed] at h
 | .optr ..,h=>by simp [closed] at h
 | .sptr cs,h=>by simp only [closed] at h; simp [ren,renL_closed q cs h]
 | .clo f fs cs,h=>by simp only [closed,Bool.and_eq_true] at h; simp [ren,renL_closed q fs h.1,renL_closed q cs h.2]
 | .mp ..,h=>by simp [closed] at h
 | .sy x,_=>by simp [ren]
 | .dead,h=>by simp [closed] at h
theorem renL_closed (q:Nat→Nat→Option (Nat×Nat)):∀ l:List PV,closedL l=true→renL q l=l
 | [],_=>by simp [renL]
 | p::r,h=>by simp only [closedL,Bool.and_eq_true] at h; simp [renL,ren_closed q p h.1,renL_closed q r h.2]
end
theorem ren_cells (q:Nat→Nat→Option (Nat×Nat)) (p:PV):(ren q p).cells=p.cells.map (ren q):=by
 cases p with
 | own b s sz off len cap=>simp only [ren,PV.cells,List.map_cons,List.map_nil]; cases q b s<;>rfl
 | optr b s i off=>simp only [ren,PV.cells,List.map_cons,List.map_nil]; cases q b s<;>rfl
 | mp b s=>simp only [ren,PV.cells,List.map_cons,List.map_nil]; cases q b s<;>rfl
 | _=>simp only [ren,PV.cells,renL_map,List.map_cons,List.map_nil]
theorem Rep.ren {E E':Env} {q:Nat→Nat→Option (Nat×Nat)} (hS:∀ r,E.S r→E'.S r) (hm:∀ r,E.S r→E'.w.heap[r]?=E.w.heap[r]?)
  (hq:∀ (b s b' s':Nat) (en:Ent),q b s=some (b',s')→E.σ s=some en→E'.σ s'=some en) {p:PV} {u:Value} (h:Rep E p u):Rep E' (ren q p) u:=by
 have hcell:∀ {r o:Nat},E.S r→E'.w.cell? ⟨r,o,none⟩=E.w.cell? ⟨r,o,none⟩:=by
  intro r o hr; simp [World.cell?,hm r hr]
 induction h with
 | v x=>simp only [VL.ren]; exact .v x
 | agg cs vs hl ho _ ih =>
  simp only [VL.ren,renL_map]
  refine .agg _ vs (by simpa using hl) ho ?_
  intro i c u hc hu
  simp only [List.getElem?_map,Option.map_eq_some_iff] at hc
  obtain ⟨c',h1,rfl⟩:=hc
  exact ih i c' u h1 hu
 | tup cs vs hl _ ih =>
  simp only [VL.ren,renL_map]
  refine .tup _ vs (by simpa using hl) ?_
  intro i c u hc hu
  simp only [List.getElem?_map,Option.map_eq_some_iff] at hc
  obtain ⟨c',h1,rfl⟩:=hc
  exact ih i c' u h1 hu
 | emp c a cap hc hn=>simp only [VL.ren,renL]; exact .emp c a cap hc hn
 | sl c es rb off cap sz U hne hS' hc hcap hsz0 hsz hmm ho _ ih =>
  simp only [VL.ren,renL_map]
  have:=Rep.sl (E:=E') c (es.map (VL.ren q)) rb off cap sz U (by simpa using hne) (hS _ hS') (by simpa using hc) (by simpa using hcap) hsz0 ?_ ?_ ho ?_
  ·simpa using this
  ·intro i e he
   simp only [List.getElem?_map,Option.map_eq_some_iff] at he
   obtain ⟨e',h1,rfl⟩:=he
   rw [ren_cells,List.length_map]; exact hsz i e' h1
  ·intro i e j c he hj
   simp only [List.getElem?_map,Option.map_eq_some_iff] at he
   obtain ⟨e',h1,rfl⟩:=he
   rw [ren_cells] at hj
   simp only [List.getElem?_map,Option.map_eq_some_iff] at hj
   obtain ⟨c',h2,rfl⟩:=hj
   rw [hcell hS']; exact hmm i e' j c' h1 h2
  ·intro i e j c he hj
   simp only [List.getElem?_map,Option.map_eq_some_iff] at he
   obtain ⟨e',h1,rfl⟩:=he
   rw [ren_cells] at hj
   simp only [List.getElem?_map,Option.map_eq_some_iff] at hj
   obtain ⟨c',h2,rfl⟩:=hj
   exact ih i e' j c' h1 h2
 | own b s off len cap en c a hb ha hn hlen hc htot hcap =>
  simp only [VL.ren]
  split
  ·rename_i b' s' hqb
   exact .own b' s' off len cap en c a (hq _ _ _ _ _ hqb hb) ha hn hlen hc htot hcap
  ·exact .dead _
 | optr b s i off en hb =>
  simp only [VL.ren]
  split
  ·rename_i b' s' hqb
   exact .optr b' s' i off en (hq _ _ _ _ _ hqb hb)
  ·exact .dead _
 | sptr cs rb off U hS' hmm ho _ ih =>
  simp only [VL.ren,renL_map]
  refine .sptr _ rb off U (hS _ hS') ?_ ho ?_
  ·intro j c hc
   simp only [List.getElem?_map,Option.map_eq_some_iff] at hc
   obtain ⟨c',h1,rfl⟩:=hc
   rw [hcell hS']; exact hmm j c' h1
  ·intro j c hc
   simp only [List.getElem?_map,Option.map_eq_some_iff] at hc
   obtain ⟨c',h1,rfl⟩:=hc
   exact ih j c' h1
 | clo f fs cs us vs hk _ hl _ ih1 ih2 =>
  simp only [VL.ren,renL_map]
  refine .clo f _ _ us vs (by simpa using hk) ?_ (by simpa using hl) ?_
  ·intro i c u hc hu
   simp only [List.getElem?_map,Option.map_eq_some_iff] at hc
   obtain ⟨c',h1,rfl⟩:=hc
   exact ih1 i c' u h1 hu
  ·intro i c u hc hu
   simp only [List.getElem?_map,Option.map_eq_some_iff] at hc
   obtain ⟨c',h1,rfl⟩:=hc
   exact ih2 i c' u h1 hu
 | mp b s en hb =>
  simp only [VL.ren]
  split
  ·rename_i b' s' hqb
   exact .mp b' s' en (hq _ _ _ _ _ hqb hb)
  ·exact .dead _
 | sy x=>simp only [VL.ren]; exact .sy x
 | dead u=>simp only [VL.ren]; exact .dead u
theorem Rep.any_names {E:Env} {σ:Nat→Option Ent} {p:PV} {u:Value} (h:Rep E p u) (hc:closed p=true):Rep ⟨E.w,σ,E.S⟩ p u:=by
 have:=Rep.ren (E:=E) (E':=⟨E.w,σ,E.S⟩) (q:=fun _ _=>none) (fun _ h=>h) (fun _ _=>rfl) (fun b s b' s' en h=>by cases h) h
 rwa [ren_closed _ p hc] at this
def renB (q:Nat→Nat→Option (Nat×Nat)):Blk→Blk
 | .cells es=>.cells (es.map (ren q))
 | .map ps=>.map (ps.map fun p=>(ren q p.1,ren q p.2))
 | .iter s pos=>.iter s pos
theorem BRep.ren {E E':Env} {q:Nat→Nat→Option (Nat×Nat)} (hS:∀ r,E.S r→E'.S r) (hm:∀ r,E.S r→E'.w.heap[r]?=E.w.heap[r]?)
  (hq:∀ (b s b' s':Nat) (en:Ent),q b s=some (b',s')→E.σ s=some en→E'.σ s'=some en) {en:Ent} {k:Blk} (hb:en.tot≠0→E'.w.heap[en.rb]?=E.w.heap[en.rb]?) (h:BRep E en k):BRep E' en (renB q k):=by
 cases k with
 | cells es =>
  obtain ⟨h1,h2,h3,h4⟩:=h
  refine ⟨by simpa [renB] using h1,h2,?_,fun h0=>?_⟩
  ·intro i e he
   simp only [List.getElem?_map,Option.map_eq_some_iff] at he
   obtain ⟨e',g1,rfl⟩:=he
   rw [ren_cells,List.length_map]; exact h3 i e' g1
  ·obtain ⟨arr,t,h5,h6,h7,h8⟩:=h4 h0
   refine ⟨arr,t,(hb h0).trans h5,h6,?_,h8⟩
   intro i e j c he hj
   simp only [List.getElem?_map,Option.map_eq_some_iff] at he
   obtain ⟨e',g1,rfl⟩:=he
   rw [ren_cells] at hj
   simp only [List.getElem?_map,Option.map_eq_some_iff] at hj
   obtain ⟨c',g2,rfl⟩:=hj
   obtain ⟨u,hu,hr⟩:=h7 i e' j c' g1 g2
   exact ⟨u,hu,hr.ren hS hm hq⟩
 | map ps =>
  obtain ⟨h0,es,clock,h1,h2,h3,h4⟩:=h
  refine ⟨h0,es,clock,(hb h0).trans h1,by simpa [renB] using h2,?_,h4⟩
  intro i p e hp he
  simp only [List.getElem?_map,Option.map_eq_some_iff] at hp
  obtain ⟨p',g1,rfl⟩:=hp
  obtain ⟨a,b,c⟩:=h3 i p' e g1 he
  exact ⟨a.ren hS hm hq,b.ren hS hm hq,c⟩
 | iter s pos =>
  obtain ⟨h0,h1,h2⟩:=h
  exact ⟨h0,h1,(hb h0).trans h2⟩
def emptyAct:Act:={ tmps:=#[],defers:=[] }
def slots (L:List (Option Blk)) (N:Option Blk):List Slot:=(L.zipIdx.map fun x=>x.1.map fun k=>(x.2,k))++[N.map fun k=>(L.length,k)]
def handed (ents:List Ent) (r:Nat):Prop:=∃ (i:Nat) (en:Ent),ents[i]?=some en∧en.tot≠0∧en.rb=r
def callable (P:Program) (f:FuncId):Bool:=match P.funcs[f]? with | some fn=>fn.name != "runtime.NumGoroutine" && fn.body.isSome | none=>false
def VCall (P:Program) (f:FuncId) (L:List Blk) (args:List PV) (R:PV→List (Option Blk)→Option Blk→Prop):Prop :=
 callable P f=true∧∀ (W:World) (S:Nat→Prop) (ents:List Ent) (vals:Array Value),ents.length=L.length →
  InvE ⟨W,(ents[·]?),handed ents,S⟩ ⟨[],slots (L.map some) none,L.length⟩ emptyAct ⟨W,(ents[·]?),S⟩ →
  vals.size=args.length→(∀ (i:Nat) (p:PV) (u:Value),args[i]?=some p→vals[i]?=some u→Rep ⟨W,(ents[·]?),S⟩ p u) →
  Calls P f vals W fun e W'=>∃ v r L' N σ' S',e=.returned v∧R r L' N∧L'.length=L.length ∧
   InvE ⟨W,(ents[·]?),handed ents,S⟩ ⟨[],slots L' N,L.length+1⟩ emptyAct ⟨W',σ',S'⟩∧Rep ⟨W',σ',S'⟩ r v
theorem VCall.mono {P:Program} {f:FuncId} {L:List Blk} {args:List PV} {R R':PV→List (Option Blk)→Option Blk→Prop} (h:VCall P f L args R) (hR:∀ r L' N,R r L' N→R' r L' N):VCall P f L args R' :=
 ⟨h.1,fun W S ents vals h1 h2 h3 h4=>(h.2 W S ents vals h1 h2 h3 h4).mono fun e W' ⟨v,r,L',N,σ',S',a,b,c⟩=>⟨v,r,L',N,σ',S',a,hR _ _ _ b,c⟩⟩
def VPure (P:Program) (f:FuncId) (args:List PV) (r:PV):Prop:=closedL args=true∧closed r=true∧VCall P f [] args fun r' _ _=>r'=r
end Go.Proofs.Ytemdbhdjchkllaa.VL
