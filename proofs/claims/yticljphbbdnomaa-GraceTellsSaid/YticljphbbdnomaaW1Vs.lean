import Derived.Test.YticljphbbdnomaaW1Vr
namespace Go.Proofs.Yticljphbbdnomaa.VL
open Go
set_option linter.unusedVariables false
set_option linter.unusedSimpArgs false
set_option linter.unusedSectionVars false
variable [Val]
def keepT (lt:List Nat) (i:Nat):List PV→List PV
 | []=>[]
 | p::r=>(if lt.contains i then p else .dead)::keepT lt (i+1) r
def keepS (ls:List Nat) (i:Nat):List Slot→List Slot
 | []=>[]
 | p::r=>(if ls.contains i then p else none)::keepS ls (i+1) r
def St.keep (st:St) (lt ls:List Nat):St:=⟨keepT lt 0 st.t,keepS ls 0 st.h,st.n⟩
theorem keepT_get (lt:List Nat):∀ (l:List PV) (i j:Nat) (p:PV),(keepT lt i l)[j]?=some p→p=.dead∨l[j]?=some p
 | [],i,j,p,h=>by simp [keepT] at h
 | q::r,i,j,p,h=>by
  cases j with
  | zero =>
   simp only [keepT,List.getElem?_cons_zero,Option.some.injEq] at h
   split at h
   ·right; simp [h]
   ·left; exact h.symm
  | succ j=>simp only [keepT,List.getElem?_cons_succ] at h ⊢; exact keepT_get lt r (i+1) j p h
theorem keepT_length (lt:List Nat):∀ (l:List PV) (i:Nat),(keepT lt i l).length=l.length
 | [],_=>rfl
 | _::r,i=>by simp [keepT,keepT_length lt r (i+1)]
theorem keepS_get (ls:List Nat):∀ (l:List Slot) (i j:Nat) (x:Nat×Blk),(keepS ls i l)[j]?=some (some x)→l[j]?=some (some x)
 | [],i,j,x,h=>by simp [keepS] at h
 | q::r,i,j,x,h=>by
  cases j with
  | zero =>
   simp only [keepS,List.getElem?_cons_zero,Option.some.injEq] at h
   split at h
   ·simp [h]
   ·cases h
  | succ j=>simp only [keepS,List.getElem?_cons_succ] at h ⊢; exact keepS_get ls r (i+1) j x h
theorem Weak.keep (st:St) (lt ls:List Nat):Weak st (st.keep lt ls):=by
 intro C a E I
 have at_:∀ (b s:Nat) (k:Blk) (en:Ent),At E (keepS ls 0 st.h) b s k en→At E st.h b s k en:=fun b s k en A=>⟨keepS_get ls _ _ _ _ A.slot,A.σ⟩
 refine ⟨E,rfl,{ good:=⟨I.good.free,?_,fun b1 b2 s1 s2 k1 k2 en1 en2 A1 A2=>I.good.inj _ _ _ _ _ _ _ _ (at_ _ _ _ _ A1) (at_ _ _ _ _ A2),I.good.stay⟩,since:=I.since,touch:=fun b s k en A=>I.touch b s k en (at_ _ _ _ _ A),defers:=I.defers,tsize:=?_,tmps:=?_ }⟩
 ·intro b s k hb
  obtain ⟨en,A,h⟩:=I.good.blk b s k (keepS_get ls _ _ _ _ hb)
  exact ⟨en,⟨hb,A.σ⟩,h⟩
 ·rw [I.tsize]; simp [St.keep,keepT_length]
 ·intro i p u hp hu
  rcases keepT_get lt _ _ _ _ hp with rfl | h
  ·exact .dead u
  ·exact I.tmps i p u h hu
theorem Weak.tmp (st:St) (t:Nat) (p:PV) (h:∀ (E:Env) (u:Value) (q:PV),st.t[t]?=some q→Rep E q u→Rep E p u):Weak st ⟨st.t.set t p,st.h,st.n⟩:=by
 intro C a E I
 refine ⟨E,rfl,{ good:=I.good,since:=I.since,touch:=I.touch,defers:=I.defers,tsize:=by rw [I.tsize]; simp,tmps:=?_ }⟩
 intro i p' u hp hu
 rw [List.getElem?_set] at hp
 split at hp
 ·rename_i hti
  subst hti
  split at hp
  ·rename_i hlt
   cases hp
   exact h E u _ (List.getElem?_eq_getElem hlt) (I.tmps _ _ u (List.getElem?_eq_getElem hlt) hu)
  ·cases hp
 ·exact I.tmps i p' u hp hu
theorem rep_unclip {E:Env} {c:Bool} {es:List PV} {u:Value} (h:Rep E (.sl c es) u):Rep E (.sl false es) u:=by
 cases h with
 | emp _ a cap hc hn=>exact .emp false a cap (by simp) hn
 | sl _ _ rb off cap sz U hne hS hc hcap hsz0 hsz hm ho h=>exact .sl false es rb off cap sz U hne hS (by simp) hcap hsz0 hsz hm ho h
mutual
def frz (s:Nat) (es:List PV):PV→PV
 | .v x=>.v x
 | .agg cs=>.agg (frzL s es cs)
 | .tup cs=>.tup (frzL s es cs)
 | .sl c xs=>.sl c (frzL s es xs)
 | .own b s' sz off len cap=>if s'=s then (if off+len≤es.length then .sl (decide (cap=some len)) ((es.drop off).take len) else .dead) else .own b s' sz off len cap
 | .optr b s' i off=>if s'=s then (match es[i]? with | some e=>.sptr (e.cells.drop off) | none=>.dead) else .optr b s' i off
 | .sptr cs=>.sptr (frzL s es cs)
 | .clo f fs cs=>.clo f (frzL s es fs) (frzL s es cs)
 | .mp b s'=>if s'=s then .dead else .mp b s'
 | .sy x=>.sy x
 | .dead=>.dead
def frzL (s:Nat) (es:List PV):List PV→List PV
 | []=>[]
 | p::r=>frz s es p::frzL s es r
end
theorem frzL_map (s:Nat) (es:List PV) (l:List PV):frzL s es l=l.map (frz s es):=by
 induction l with
 | nil=>simp [frzL]
 | cons p r ih=>simp [frzL,ih]
mutual
theorem frz_closed (s:Nat) (es:List PV):∀ p:PV,closed p=true→frz s es p=p
 | .v x,_=>by simp [frz]
 | .agg cs,h=>by simp only [closed] at h; simp [frz,frzL_closed s es cs h]
 | .tup cs,h=>by simp only [closed] at h; simp [frz,frzL_closed s es cs h]
 | .sl c xs,h=>by simp only [closed] at h; simp [frz,frzL_closed s es xs h]
 | .own ..,h=>by simp [closed] at h
 | .optr ..,h=>by simp [closed] at h
 | .sptr cs,h=>by simp only [closed] at h; simp [frz,frzL_closed s es cs h]
 | .clo f fs cs,h=>by simp only [closed,Bool.and_eq_true] at h; simp [frz,frzL_closed s es fs h.1,frzL_closed s es cs h.2]
 | .mp ..,h=>by simp [closed] at h
 | .sy x,_=>by simp [frz]
 | .dead,h=>by simp [closed] at h
theorem frzL_closed (s:Nat) (es:List PV):∀ l:List PV,closedL l=true→frzL s es l=l
 | [],_=>by simp [frzL]
 | p::r,h=>by simp only [closedL,Bool.and_eq_true] at h; simp [frzL,frz_closed s es p h.1,frzL_closed s es r h.2]
end
def frzB (s:Nat) (es:List PV):Blk→Blk
 | .cells xs=>.cells (xs.map (frz s es))
 | .map ps=>.map (ps.map fun p=>(frz s es p.1,frz s es p.2))
 | .iter t pos=>.iter t pos
theorem frz_cells (s:Nat) (es:List PV) (p:PV):(frz s es p).cells=p.cells.map (frz s es):=by
 have one:∀ p:PV,(∀ cs,frz s es p≠.agg cs)→p.cells=[p]→(frz s es p).cells=p.cells.map (frz s es):=by
  intro p h1 h2
  rw [h2,List.map_cons,List.map_nil]
  cases h:frz s es p<;>first | rfl | exact absurd h (h1 _)
 cases p with
 | own b s' sz off len cap =>
  refine one _ (fun cs=>?_) rfl
  simp only [frz]
  split
  ·split<;>simp
  ·simp
 | optr b s' i off =>
  refine one _ (fun cs=>?_) rfl
  simp only [frz]
  split
  ·split<;>simp
  ·simp
 | mp b s' =>
  refine one _ (fun cs=>?_) rfl
  simp only [frz]
  split<;>simp
 | _=>simp only [frz,PV.cells,frzL_map,List.map_cons,List.map_nil]
theorem rep_frz {E E':Env} (hE:E.le E') {s:Nat} {en:Ent} {es:List PV} (hσ:E.σ s=some en) (hB:BRep E en (.cells es)) (hS:en.tot≠0→E'.S en.rb) (hm:en.tot≠0→E'.w.heap[en.rb]?=E.w.heap[en.rb]?) {p:PV} {u:Value} (h:Rep E p u):Rep E' (frz s es p) u:=by
 obtain ⟨b1,b2,b3,b4⟩:=hB
 have list:∀ {l:List PV} {vs:Array Value},(∀ (i:Nat) (c:PV) (u:Value),l[i]?=some c→vs[i]?=some u→Rep E' (frz s es c) u)→∀ (i:Nat) (c:PV) (u:Value),(l.map (frz s es))[i]?=some c→vs[i]?=some u→Rep E' c u:=by
  intro l vs h i c u hc hu
  simp only [List.getElem?_map,Option.map_eq_some_iff] at hc
  obtain ⟨c',h1,rfl⟩:=hc
  exact h i c' u h1 hu
 have row:∀ (i:Nat) (e:PV) (j:Nat) (c:PV),es[i]?=some e→e.cells[j]?=some c→en.tot≠0→∃ x,E'.w.cell? ⟨en.rb,en.base+i * en.sz+j,none⟩=some x∧Rep E' c x∧x.oneCell'=true:=by
  intro i e j c he hc h0
  obtain ⟨arr,t,g1,g2,g3,g4⟩:=b4 h0
  obtain ⟨x,hx,hr⟩:=g3 i e j c he hc
  exact ⟨x,by simp [World.cell?,hm h0,g1,hx],hr.mono hE,g4 _ x hx⟩
 induction h with
 | v x=>simp only [VL.frz]; exact .v x
 | agg cs vs hl ho _ ih=>simp only [VL.frz,frzL_map]; exact .agg _ vs (by simpa using hl) ho (list ih)
 | tup cs vs hl _ ih=>simp only [VL.frz,frzL_map]; exact .tup _ vs (by simpa using hl) (list ih)
 | emp c a cap hc hn=>simp only [VL.frz,frzL]; exact .emp c a cap hc hn
 | sl c xs rb off cap sz U hne hS' hc hcap hsz0 hsz hmm ho _ ih =>
  simp only [VL.frz,frzL_map]
  have:=Rep.sl (E:=E') c (xs.map (VL.frz s es)) rb off cap sz U (by simpa using hne) (hE.S _ hS') (by simpa using hc) (by simpa using hcap) hsz0 ?_ ?_ ho ?_
  ·simpa using this
  ·intro i e he
   simp only [List.getElem?_map,Option.map_eq_some_iff] at he
   obtain ⟨e',h1,rfl⟩:=he
   rw [frz_cells,List.length_map]; exact hsz i e' h1
  ·intro i e j c he hj
   simp only [List.getElem?_map,Option.map_eq_some_iff] at he
   obtain ⟨e',h1,rfl⟩:=he
   rw [frz_cells] at hj
   simp only [List.getElem?_map,Option.map_eq_some_iff] at hj
   obtain ⟨c',h2,rfl⟩:=hj
   rw [hE.cell hS']; exact hmm i e' j c' h1 h2
  ·intro i e j c he hj
   simp only [List.getElem?_map,Option.map_eq_some_iff] at he
   obtain ⟨e',h1,rfl⟩:=he
   rw [frz_cells] at hj
   simp only [List.getElem?_map,Option.map_eq_some_iff] at hj
   obtain ⟨c',h2,rfl⟩:=hj
   exact ih i e' j c' h1 h2
 | own b s' off len cap en' c a hb ha hn hlen hc htot hcap =>
  simp only [VL.frz]
  split
  ·rename_i hss
   subst hss
   rw [hσ] at hb; cases hb
   split
   ·rename_i hle
    by_cases hl0:len=0
    ·subst hl0
     simp only [List.take_zero]
     exact .emp (decide (cap=some 0)) a c (fun h=>hc _ (of_decide_eq_true h)) hn
    ·have h0:en.tot≠0:=by omega
     have hc0:c≠0:=by omega
     rw [ha hc0]
     have hlen':((es.drop off).take len).length=len:=by simp; omega
     obtain ⟨arr,t,g1,g2,g3,g4⟩:=b4 h0
     have:=Rep.sl (E:=E') (decide (cap=some len)) ((es.drop off).take len) en.rb (en.base+off * en.sz) c en.sz (fun i j=>if off+i < es.length∧j < en.sz then arr.getD (en.base+(off+i) * en.sz+j) (.int .i64 0) else .int .i64 0) (by intro h; rw [h] at hlen'; simp at hlen'; omega) (hS h0) (fun h=>by rw [hlen']; exact hc _ (of_decide_eq_true h)) (by omega) b2
      (fun i e he=>b3 _ e (take_drop_get he).2) ?_ ?_ ?_
     ·rw [hlen'] at this; exact this
     ·intro i e j x he hj
      have he':=(take_drop_get he).2
      obtain ⟨v,hv,_⟩:=g3 _ e j x he' hj
      have hjl:j < en.sz:=by have:=(List.getElem?_eq_some_iff.1 hj).1; have:=b3 _ e he'; omega
      have hil:=(List.getElem?_eq_some_iff.1 he').1
      obtain ⟨x',hx',_⟩:=row _ e j x he' hj h0
      rw [if_pos ⟨hil,hjl⟩,show en.base+off * en.sz+i * en.sz+j=en.base+(off+i) * en.sz+j by rw [Nat.add_mul]; omega,hx']
      have:E.w.cell? ⟨en.rb,en.base+(off+i) * en.sz+j,none⟩=some v:=by simp [World.cell?,g1,hv]
      have e2:E'.w.cell? ⟨en.rb,en.base+(off+i) * en.sz+j,none⟩=some v:=by rw [← this]; simp [World.cell?,hm h0]
      rw [hx'] at e2
      rw [e2]
      simp [Array.getD_eq_getD_getElem?,hv]
     ·intro i j
      split
      ·simp only [Array.getD_eq_getD_getElem?]
       cases hx:arr[en.base+(off+i) * en.sz+j]? with
       | none=>rfl
       | some v=>exact g4 _ v hx
      ·rfl
     ·intro i e j x he hj
      have he':=(take_drop_get he).2
      obtain ⟨v,hv,hr⟩:=g3 _ e j x he' hj
      have hjl:j < en.sz:=by have:=(List.getElem?_eq_some_iff.1 hj).1; have:=b3 _ e he'; omega
      have hil:=(List.getElem?_eq_some_iff.1 he').1
      rw [if_pos ⟨hil,hjl⟩]
      simp only [Array.getD_eq_getD_getElem?,hv,Option.getD_some]
      exact hr.mono hE
   ·exact .dead _
  ·exact .own b s' off len cap en' c a (hE.σ _ _ hb) ha hn hlen hc htot hcap
 | optr b s' i off en' hb =>
  simp only [VL.frz]
  split
  ·rename_i hss
   subst hss
   rw [hσ] at hb; cases hb
   split
   ·rename_i e he
    have h0:en.tot≠0:=by have:=(List.getElem?_eq_some_iff.1 he).1; omega
    obtain ⟨arr,t,g1,g2,g3,g4⟩:=b4 h0
    refine .sptr _ en.rb _ (fun j=>if off+j < en.sz then arr.getD (en.base+i * en.sz+(off+j)) (.int .i64 0) else .int .i64 0) (hS h0) ?_ ?_ ?_
    ·intro j c hc
     rw [List.getElem?_drop] at hc
     obtain ⟨v,hv,_⟩:=g3 i e (off+j) c he hc
     have hjl:off+j < en.sz:=by have:=(List.getElem?_eq_some_iff.1 hc).1; have:=b3 _ e he; omega
     rw [if_pos hjl]
     simp only [World.cell?,hm h0,g1,Array.getD_eq_getD_getElem?,hv,Option.getD_some]
     rw [show en.base+i * en.sz+off+j=en.base+i * en.sz+(off+j) by omega]
     exact hv
    ·intro j
     split
     ·simp only [Array.getD_eq_getD_getElem?]
      cases hx:arr[en.base+i * en.sz+(off+j)]? with
      | none=>rfl
      | some v=>exact g4 _ v hx
     ·rfl
    ·intro j c hc
     rw [List.getElem?_drop] at hc
     obtain ⟨v,hv,hr⟩:=g3 i e (off+j) c he hc
     have hjl:off+j < en.sz:=by have:=(List.getElem?_eq_some_iff.1 hc).1; have:=b3 _ e he; omega
     rw [if_pos hjl]
     simp only [Array.getD_eq_getD_getElem?,hv,Option.getD_some]
     exact hr.mono hE
   ·exact .dead _
  ·exact .optr b s' i off en' (hE.σ _ _ hb)
 | sptr cs rb off U hS' hmm ho _ ih =>
  simp only [VL.frz,frzL_map]
  refine .sptr _ rb off U (hE.S _ hS') ?_ ho ?_
  ·intro j c hc
   simp only [List.getElem?_map,Option.map_eq_some_iff] at hc
   obtain ⟨c',h1,rfl⟩:=hc
   rw [hE.cell hS']; exact hmm j c' h1
  ·intro j c hc
   simp only [List.getElem?_map,Option.map_eq_some_iff] at hc
   obtain ⟨c',h1,rfl⟩:=hc
   exact ih j c' h1
 | clo f fs cs us vs hk _ hl _ ih1 ih2 =>
  simp only [VL.frz,frzL_map]
  exact .clo f _ _ us vs (by simpa using hk) (list ih1) (by simpa using hl) (list ih2)
 | mp b s' en' hb =>
  simp only [VL.frz]
  split
  ·exact .dead _
  ·exact .mp b s' en' (hE.σ _ _ hb)
 | sy x=>simp only [VL.frz]; exact .sy x
 | dead u=>simp only [VL.frz]; exact .dead u
def St.freeze (st:St) (b:Nat):St:=match st.h[b]? with
 | some (some (s,.cells es))=>⟨st.t.map (frz s es),(st.h.set b none).map (fun o=>o.map fun x=>(x.1,frzB s es x.2)),st.n⟩
 | _=>st
theorem Weak.freeze (st:St) (b:Nat):Weak st (st.freeze b):=by
 unfold St.freeze
 split
 case h_2=>exact Weak.refl st
 rename_i s es hb
 intro C a E I
 obtain ⟨en,A,hB,hnS⟩:=I.good.blk b s _ hb
 let E':Env:=⟨E.w,E.σ,fun r=>E.S r∨(en.tot≠0∧r=en.rb)⟩
 have hE:E.le E':=⟨fun _ h=>.inl h,fun _ _=>rfl,fun _ _ h=>h⟩
 have hfr:∀ (p:PV) (u:Value),Rep E p u→Rep E' (frz s es p) u:=fun p u h=>rep_frz hE A.σ hB (fun h0=>.inr ⟨h0,rfl⟩) (fun _=>rfl) h
 have hfrB:∀ (en':Ent) (k:Blk),BRep E en' k→BRep E' en' (frzB s es k):=by
  intro en' k h
  cases k with
  | cells xs =>
   obtain ⟨h1,h2,h3,h4⟩:=h
   refine ⟨by simpa [frzB] using h1,h2,?_,fun h0=>?_⟩
   ·intro i e he
    simp only [List.getElem?_map,Option.map_eq_some_iff] at he
    obtain ⟨e',g1,rfl⟩:=he
    rw [frz_cells,List.length_map]; exact h3 i e' g1
   ·obtain ⟨arr,t,h5,h6,h7,h8⟩:=h4 h0
    refine ⟨arr,t,h5,h6,?_,h8⟩
    intro i e j c he hj
    simp only [List.getElem?_map,Option.map_eq_some_iff] at he
    obtain ⟨e',g1,rfl⟩:=he
    rw [frz_cells] at hj
    simp only [List.getElem?_map,Option.map_eq_some_iff] at hj
    obtain ⟨c',g2,rfl⟩:=hj
    obtain ⟨u,hu,hr⟩:=h7 i e' j c' g1 g2
    exact ⟨u,hu,hfr _ _ hr⟩
  | map ps =>
   obtain ⟨h0,ents,clock,h1,h2,h3,h4⟩:=h
   refine ⟨h0,ents,clock,h1,by simpa [frzB] using h2,?_,h4⟩
   intro i p e hp he
   simp only [List.getElem?_map,Option.map_eq_some_iff] at hp
   obtain ⟨p',g1,rfl⟩:=hp
   obtain ⟨a,b,c⟩:=h3 i p' e g1 he
   exact ⟨hfr _ _ a,hfr _ _ b,c⟩
  | iter t pos=>exact h
 have old:∀ (b' s':Nat) (k':Blk),((st.h.set b none).map (fun o=>o.map fun x=>(x.1,frzB s es x.2)))[b']?=some (some (s',k'))→b'≠b∧∃ k0,st.h[b']?=some (some (s',k0))∧k'=frzB s es k0:=by
  intro b' s' k' h
  rw [List.getElem?_map] at h
  simp only [Option.map_eq_some_iff] at h
  obtain ⟨o,h1,h2⟩:=h
  obtain ⟨x,rfl,h3⟩:=h2
  rw [List.getElem?_set] at h1
  split at h1
  ·split at h1<;>cases h1
  ·rename_i hne
   obtain ⟨xs,xk⟩:=x
   simp only [Prod.mk.injEq] at h3
   obtain ⟨rfl,rfl⟩:=h3
   exact ⟨Ne.symm hne,xk,h1,rfl⟩
 have I1:InvE C ⟨st.t,(st.h.set b none).map (fun o=>o.map fun x=>(x.1,frzB s es x.2)),st.n⟩ a E':=by
  refine I.step hE rfl rfl rfl (Nat.le_refl _) ?_ (fun _ _ _=>rfl) ⟨I.good.free,?_,?_,?_⟩ ?_
  ·intro r hr
   rcases hr with h | ⟨h0,rfl⟩
   ·exact .inl h
   ·exact .inr (.inl ⟨b,s,_,en,A,h0,rfl⟩)
  ·intro b' s' k' hb'
   obtain ⟨hne,k0,h1,rfl⟩:=old _ _ _ hb'
   obtain ⟨en',A',hB',hS'⟩:=I.good.blk b' s' k0 h1
   refine ⟨en',⟨hb',A'.σ⟩,hfrB _ _ hB',fun h0 hS=>?_⟩
   rcases hS with h | ⟨h1,h2⟩
   ·exact hS' h0 h
   ·exact hne (I.good.inj _ _ _ _ _ _ _ _ A' A h0 h1 h2)
  ·intro b1 b2 s1 s2 k1 k2 en1 en2 A1 A2 h1 h2 he
   obtain ⟨_,k1',g1,_⟩:=old _ _ _ A1.slot
   obtain ⟨_,k2',g2,_⟩:=old _ _ _ A2.slot
   exact I.good.inj _ _ _ _ _ _ _ _ ⟨g1,A1.σ⟩ ⟨g2,A2.σ⟩ h1 h2 he
  ·intro r hr
   rcases hr with h | ⟨h0,rfl⟩
   ·exact I.good.stay r h
   ·exact A.lt I.good h0
  ·intro b' s' k' en' A' h0
   obtain ⟨_,k1',g1,_⟩:=old _ _ _ A'.slot
   exact .inl ⟨b',s',k1',en',⟨g1,A'.σ⟩,h0,rfl⟩
 refine ⟨E',rfl,{ good:=I1.good,since:=I1.since,touch:=I1.touch,defers:=I.defers,tsize:=by rw [I.tsize]; simp,tmps:=?_ }⟩
 intro i p u hp hu
 simp only [List.getElem?_map,Option.map_eq_some_iff] at hp
 obtain ⟨p',h1,rfl⟩:=hp
 exact hfr _ _ (I.tmps i p' u h1 hu)
def St.own0 (st:St) (t b sz:Nat):St:=⟨st.t.set t (.own b st.n sz 0 0 none),st.h.set b (some (st.n,.cells [])),st.n+1⟩
theorem Weak.own0 (st:St) (t b sz:Nat) (ht:st.t[t]?=some (.sl true [])) (hb:b < st.h.length) (hsz:0 < sz):Weak st (st.own0 t b sz):=by
 intro C a E I
 have I1:=I.give (b:=b) hb (k:=.cells []) (en:=⟨0,0,sz,0⟩) (w':=E.w) rfl rfl rfl (Nat.le_refl _) (fun r _=>.inr rfl) (fun h=>absurd rfl h) (fun _=>⟨Nat.le_refl _,hsz,fun i e he=>by simp at he,fun h=>absurd rfl h⟩)
 have hlt:t < a.tmps.size:=by rw [I.tsize]; exact (List.getElem?_eq_some_iff.1 ht).1
 have hr:=I.tmps t _ _ ht (Array.getElem?_eq_getElem hlt)
 have hr2:Rep ⟨E.w,giveAt E.σ st.n ⟨0,0,sz,0⟩,E.S⟩ (.own b st.n sz 0 0 none) a.tmps[t]:=by
  generalize a.tmps[t]=u at hr
  cases hr with
  | emp _ ad cap hc hn =>
   have:=hc rfl
   subst this
   exact .own b st.n 0 0 none ⟨0,0,sz,0⟩ 0 ad (by simp [giveAt]) (fun h=>absurd rfl h) (fun _=>rfl) (Nat.le_refl _) (by simp) (by simp) (by simp)
  | sl _ _ rb off cap sz' U hne=>exact absurd rfl hne
 refine ⟨⟨E.w,giveAt E.σ st.n ⟨0,0,sz,0⟩,E.S⟩,rfl,{ good:=I1.good,since:=I1.since,touch:=I1.touch,defers:=I.defers,tsize:=by rw [I.tsize]; simp [St.own0],tmps:=?_ }⟩
 intro i p u hp hu
 simp only [St.own0,List.getElem?_set] at hp
 split at hp
 ·rename_i hti
  subst hti
  split at hp
  ·cases hp
   rw [Array.getElem?_eq_getElem hlt] at hu
   cases hu
   exact hr2
  ·cases hp
 ·exact I1.tmps i p u hp hu
end Go.Proofs.Yticljphbbdnomaa.VL
