import Derived.Test.YtemdbhdjchkllaaW1Va
namespace Go.Proofs.Ytemdbhdjchkllaa.VL
open Go
set_option linter.unusedVariables false
set_option linter.unusedSimpArgs false
set_option linter.unusedSectionVars false
variable [Val]
variable {C:Ctx} {st:St} {a:Act} {E:Env}
theorem InvE.put (I:InvE C st a E) {p:PV} {u:Value} (h:Rep E p u) (d:Nat):InvE C ⟨st.t.set d p,st.h,st.n⟩ (a.put (some d) u) E where
 good:=I.good
 since:=I.since
 touch:=I.touch
 defers:=I.defers
 tsize:=by simp [Act.put,I.tsize]
 tmps:=by
  intro i p' u' hp hu
  simp only [Act.put,Array.getElem?_setIfInBounds] at hu
  simp only [List.getElem?_set] at hp
  by_cases hd:d=i
  ·subst hd
   simp only [if_true] at hp hu
   split at hp
   ·split at hu
    ·cases hp; cases hu; exact h
    ·cases hu
   ·cases hp
  ·simp only [hd,if_false] at hp hu
   exact I.tmps i p' u' hp hu
theorem At.lt (G:Good E st.h st.n) {b s:Nat} {k:Blk} {en:Ent} (A:At E st.h b s k en) (h0:en.tot≠0):en.rb < E.w.heap.size:=by
 obtain ⟨en',h1,h2,h3⟩:=G.blk b s k A.slot
 have:en'=en:=by have:=h1.σ; rw [A.σ] at this; cases this; rfl
 subst this
 cases k with
 | cells es=>obtain ⟨_,_,_,h⟩:=h2; obtain ⟨arr,t,h,_⟩:=h h0; exact (Array.getElem?_eq_some_iff.1 h).1
 | map ps=>obtain ⟨_,arr,t,h,_⟩:=h2; exact (Array.getElem?_eq_some_iff.1 h).1
 | iter t pos=>obtain ⟨_,_,h⟩:=h2; exact (Array.getElem?_eq_some_iff.1 h).1
theorem At.brep (G:Good E st.h st.n) {b s:Nat} {k:Blk} {en:Ent} (A:At E st.h b s k en):BRep E en k∧(en.tot≠0→¬ E.S en.rb):=by
 obtain ⟨en',h1,h2,h3⟩:=G.blk b s k A.slot
 have:en'=en:=by have:=h1.σ; rw [A.σ] at this; cases this; rfl
 subst this
 exact ⟨h2,h3⟩
theorem InvE.step (I:InvE C st a E) {E':Env} {h':List Slot} {n':Nat} (hle:E.le E') (hos:E'.w.os=E.w.os) (htape:E'.w.tape=E.w.tape) (hout:E'.w.output=E.w.output)
    (hsize:E.w.heap.size≤E'.w.heap.size)
    (hS:∀ r,E'.S r→E.S r∨(∃ (b s:Nat) (k:Blk) (en:Ent),At E st.h b s k en∧en.tot≠0∧en.rb=r)∨E.w.heap.size≤r)
    (hkept:∀ r,r < E.w.heap.size→(∀ (b s:Nat) (k:Blk) (en:Ent),At E st.h b s k en→en.tot≠0→en.rb≠r)→E'.w.heap[r]?=E.w.heap[r]?)
    (good:Good E' h' n')
    (touch:∀ (b s:Nat) (k:Blk) (en:Ent),At E' h' b s k en→en.tot≠0→(∃ (b0 s0:Nat) (k0:Blk) (en0:Ent),At E st.h b0 s0 k0 en0∧en0.tot≠0∧en0.rb=en.rb)∨E.w.heap.size≤en.rb) :
    InvE C ⟨st.t,h',n'⟩ a E' where
  good:=good
  since:={
    os:=hos.trans I.since.os
    tape:=htape.trans I.since.tape
    output:=hout.trans I.since.output
    size:=Nat.le_trans I.since.size hsize
    kept:=by
      intro r hr hT
      rw [hkept r (Nat.lt_of_lt_of_le hr I.since.size) ?_]
      · exact I.since.kept r hr hT
      · intro b s k en hb h0 he
        rcases I.touch b s k en hb h0 with h | h
        · exact hT (he ▸ h)
        · omega
    σ:=fun b en hb=>hle.σ b en (I.since.σ b en hb)
    S1:=fun r hr=>hle.S r (I.since.S1 r hr)
    S2:=by
      intro r hr
      rcases hS r hr with h | ⟨b,s,k,en,hb,h0,rfl⟩ | h
      · exact I.since.S2 r h
      · rcases I.touch b s k en hb h0 with h | h
        · exact .inr (.inl h)
        · exact .inr (.inr h)
      · exact .inr (.inr (Nat.le_trans I.since.size h)) }
  touch:=by
    intro b s k en hb h0
    rcases touch b s k en hb h0 with ⟨b0,s0,k0,en0,h0',h1,h2⟩ | h
    · rw [← h2]; exact I.touch b0 s0 k0 en0 h0' h1
    · exact .inr (Nat.le_trans I.since.size h)
  defers:=I.defers
  tsize:=I.tsize
  tmps:=fun i p u hp hu=>(I.tmps i p u hp hu).mono hle
theorem le_drew (E:Env):E.le ⟨E.w.drew,E.σ,E.S⟩:=⟨fun _ h=>h,fun _ _=>rfl,fun _ _ h=>h⟩
theorem InvE.drew (I:InvE C st a E):InvE C st a ⟨E.w.drew,E.σ,E.S⟩:=by
 refine I.step (E':=⟨E.w.drew,E.σ,E.S⟩) (h':=st.h) (n':=st.n) (le_drew E) rfl rfl rfl (Nat.le_refl _) (fun r h=>.inl h) (fun _ _ _=>rfl) ⟨I.good.free,?_,?_,I.good.stay⟩ ?_
 ·intro b s k hb
  obtain ⟨en,h1,h2,h3⟩:=I.good.blk b s k hb
  exact ⟨en,⟨h1.slot,h1.σ⟩,h2.mono (le_drew E) (fun _=>rfl),h3⟩
 ·intro b b' s s' k k' en en' A A' h0 h0' he
  exact I.good.inj b b' s s' k k' en en' ⟨A.slot,A.σ⟩ ⟨A'.slot,A'.σ⟩ h0 h0' he
 ·intro b s k en A h0
  exact .inl ⟨b,s,k,en,⟨A.slot,A.σ⟩,h0,rfl⟩
def giveAt (σ:Nat→Option Ent) (n:Nat) (en:Ent):Nat→Option Ent:=fun b=>if b=n then some en else σ b
theorem le_give (E:Env) {n:Nat} (hn:E.σ n=none) (en:Ent) (w':World) (hw:∀ r,E.S r→w'.heap[r]?=E.w.heap[r]?):E.le ⟨w',giveAt E.σ n en,E.S⟩ :=
 ⟨fun _ h=>h,hw,fun b e hb=>by
  have:b≠n:=fun h=>by rw [h,hn] at hb; cases hb
  simp [giveAt,this,hb]⟩
theorem InvE.give (I:InvE C st a E) {b:Nat} (hb:b < st.h.length) {k:Blk} {en:Ent} {w':World}
  (hos:w'.os=E.w.os) (htape:w'.tape=E.w.tape) (hout:w'.output=E.w.output) (hsize:E.w.heap.size≤w'.heap.size)
  (hw:∀ r,r < E.w.heap.size→(∃ (s:Nat) (k0:Blk) (en0:Ent),At E st.h b s k0 en0∧en0.tot≠0∧en0.rb=r)∨w'.heap[r]?=E.w.heap[r]?)
  (hen:en.tot≠0→(E.w.heap.size≤en.rb∧en.rb < w'.heap.size)∨∃ (s:Nat) (k0:Blk) (en0:Ent),At E st.h b s k0 en0∧en0.tot≠0∧en0.rb=en.rb)
  (hB:E.le ⟨w',giveAt E.σ st.n en,E.S⟩→BRep ⟨w',giveAt E.σ st.n en,E.S⟩ en k) :
  InvE C ⟨st.t,st.h.set b (some (st.n,k)),st.n+1⟩ a ⟨w',giveAt E.σ st.n en,E.S⟩:=by
 have hσ:E.σ st.n=none:=I.good.free st.n (Nat.le_refl _)
 have keep:∀ r,r < E.w.heap.size→(∀ (s:Nat) (k0:Blk) (en0:Ent),At E st.h b s k0 en0→en0.tot≠0→en0.rb≠r)→w'.heap[r]?=E.w.heap[r]?:=by
  intro r hr hne
  rcases hw r hr with ⟨s,k0,en0,A,h0,he⟩ | h
  ·exact absurd he (hne s k0 en0 A h0)
  ·exact h
 have hle:=le_give E hσ en w' (fun r hr=>keep r (I.good.stay r hr) fun s k0 en0 A h0 he=>(A.brep I.good).2 h0 (he ▸ hr))
 have old:∀ (b' s':Nat) (k':Blk) (en':Ent),b≠b'→At ⟨w',giveAt E.σ st.n en,E.S⟩ (st.h.set b (some (st.n,k))) b' s' k' en'→At E st.h b' s' k' en':=by
  intro b' s' k' en' hne A
  have h1:=A.slot
  rw [List.getElem?_set_ne hne] at h1
  obtain ⟨en0,h2,_⟩:=I.good.blk b' s' k' h1
  have h3:=hle.σ _ _ h2.σ
  have h4:=A.σ
  rw [h3] at h4; cases h4
  exact h2
 have new:∀ (s':Nat) (k':Blk) (en':Ent),At ⟨w',giveAt E.σ st.n en,E.S⟩ (st.h.set b (some (st.n,k))) b s' k' en'→s'=st.n∧k'=k∧en'=en:=by
  intro s' k' en' A
  have h1:=A.slot
  simp [hb] at h1
  obtain ⟨rfl,rfl⟩:=h1
  have:=A.σ
  simp [giveAt] at this
  exact ⟨rfl,rfl,this.symm⟩
 have hne:∀ (b' s':Nat) (k':Blk) (en':Ent),b≠b'→At E st.h b' s' k' en'→en'.tot≠0→en.tot≠0→en.rb≠en'.rb:=by
  intro b' s' k' en' hbb A h0 h1 he
  rcases hen h1 with h | ⟨s,k0,en0,A0,h2,h3⟩
  ·have:=A.lt I.good h0; omega
  ·exact hbb (I.good.inj b b' s s' k0 k' en0 en' A0 A h2 h0 (h3.trans he))
 refine I.step hle hos htape hout hsize (fun r h=>.inl h) (fun r hr hn=>keep r hr fun s k0 en0 A h0=>hn b s k0 en0 A h0) ⟨?_,?_,?_,?_⟩ ?_
 ·intro s hs
  have:s≠st.n:=by omega
  simp [giveAt,this,I.good.free s (by omega)]
 ·intro b' s' k' hb'
  by_cases hbb:b=b'
  ·subst hbb
   simp [hb] at hb'
   obtain ⟨rfl,rfl⟩:=hb'
   refine ⟨en,⟨by simp [hb],by simp [giveAt]⟩,hB hle,?_⟩
   intro h0 hS
   rcases hen h0 with h | ⟨s,k0,en0,A0,h2,h3⟩
   ·have:=I.good.stay _ hS; omega
   ·exact (A0.brep I.good).2 h2 (h3 ▸ hS)
  ·have h1:=hb'
   rw [List.getElem?_set_ne hbb] at h1
   obtain ⟨en',A,h2,h3⟩:=I.good.blk b' s' k' h1
   refine ⟨en',⟨hb',hle.σ _ _ A.σ⟩,h2.mono hle (fun h0=>keep _ (A.lt I.good h0) fun s k0 en0 A0 h1 he=>hbb (I.good.inj b b' s s' k0 k' en0 en' A0 A h1 h0 he)),h3⟩
 ·intro b1 b2 s1 s2 k1 k2 en1 en2 A1 A2 h1 h2 he
  by_cases e1:b=b1<;>by_cases e2:b=b2
  ·exact e1.symm.trans e2
  ·subst e1
   obtain ⟨rfl,rfl,rfl⟩:=new _ _ _ A1
   exact absurd he (hne b2 s2 k2 en2 e2 (old _ _ _ _ e2 A2) h2 h1)
  ·subst e2
   obtain ⟨rfl,rfl,rfl⟩:=new _ _ _ A2
   exact absurd he.symm (hne b1 s1 k1 en1 e1 (old _ _ _ _ e1 A1) h1 h2)
  ·exact I.good.inj b1 b2 s1 s2 k1 k2 en1 en2 (old _ _ _ _ e1 A1) (old _ _ _ _ e2 A2) h1 h2 he
 ·intro r hr
  exact Nat.lt_of_lt_of_le (I.good.stay r hr) hsize
 ·intro b' s' k' en' A h0
  by_cases hbb:b=b'
  ·subst hbb
   obtain ⟨rfl,rfl,rfl⟩:=new _ _ _ A
   rcases hen h0 with h | ⟨s,k0,en0,A0,h2,h3⟩
   ·exact .inr h.1
   ·exact .inl ⟨b,s,k0,en0,A0,h2,h3⟩
  ·exact .inl ⟨b',s',k',en',old _ _ _ _ hbb A,h0,rfl⟩
theorem InvE.newBlk (I:InvE C st a E) {b:Nat} (hb:b < st.h.length) {arr:Array Value} {t:TypeId} {es:List PV} {sz tot:Nat} (hsz0:0 < sz)
  (ha:arr.size=tot * sz) (hes:es.length≤tot) (hsz:∀ (i:Nat) (e:PV),es[i]?=some e→e.cells.length=sz)
  (hr:∀ (i:Nat) (e:PV) (j:Nat) (c:PV),es[i]?=some e→e.cells[j]?=some c→∃ u,arr[i * sz+j]?=some u∧Rep E c u)
  (ho:∀ (i:Nat) (u:Value),arr[i]?=some u→u.oneCell'=true) :
  InvE C ⟨st.t,st.h.set b (some (st.n,.cells es)),st.n+1⟩ a ⟨E.w.alloc (.cells arr t),giveAt E.σ st.n ⟨E.w.heap.size,0,sz,tot⟩,E.S⟩:=by
 refine I.give hb rfl rfl rfl (by simp) (fun r hr=>.inr (heap_alloc_old _ _ _ hr)) (fun _=>.inl ⟨Nat.le_refl _,by simp⟩) ?_
 intro hle
 refine ⟨hes,hsz0,hsz,fun _=>⟨arr,t,heap_alloc_new _ _,by simpa using ha,?_,ho⟩⟩
 intro i e j c he hj
 obtain ⟨u,h1,h2⟩:=hr i e j c he hj
 exact ⟨u,by simpa using h1,h2.mono hle⟩
theorem heap_setRow_same (w:World) (g:Nat) (cs:Array Value) {arr:Array Value} {t:TypeId} {f:Nat×Nat} (h:w.heap[g]?=some (.cells arr t f)):(w.setRow g cs).heap[g]?=some (.cells cs t f):=by
 simp [World.setRow,Array.getElem?_modify,h]
theorem heap_setRow_ne (w:World) (g r:Nat) (cs:Array Value) (h:r≠g):(w.setRow g cs).heap[r]?=w.heap[r]?:=by
 simp only [World.setRow,Array.getElem?_modify]
 rw [if_neg (by omega)]
theorem InvE.upd (I:InvE C st a E) {b s:Nat} {k k':Blk} {en:Ent} (A:At E st.h b s k en) {w':World}
  (hos:w'.os=E.w.os) (htape:w'.tape=E.w.tape) (hout:w'.output=E.w.output) (hsize:w'.heap.size=E.w.heap.size)
  (hw:∀ r,(en.tot≠0∧r=en.rb)∨w'.heap[r]?=E.w.heap[r]?)
  (hB:E.le ⟨w',E.σ,E.S⟩→BRep ⟨w',E.σ,E.S⟩ en k') :
  InvE C ⟨st.t,st.h.set b (some (s,k')),st.n⟩ a ⟨w',E.σ,E.S⟩:=by
 have hlt:b < st.h.length:=(List.getElem?_eq_some_iff.1 A.slot).1
 have keep:∀ r,(en.tot≠0→r≠en.rb)→w'.heap[r]?=E.w.heap[r]?:=fun r h=>(hw r).resolve_left fun ⟨h0,he⟩=>h h0 he
 have hle:E.le ⟨w',E.σ,E.S⟩:=⟨fun _ h=>h,fun r hr=>keep r fun h0 he=>(A.brep I.good).2 h0 (he ▸ hr),fun _ _ h=>h⟩
 have back:∀ (b' s':Nat) (k2:Blk) (en':Ent),At ⟨w',E.σ,E.S⟩ (st.h.set b (some (s,k'))) b' s' k2 en'→∃ k0,At E st.h b' s' k0 en':=by
  intro b' s' k2 en' A'
  by_cases hbb:b=b'
  ·subst hbb
   have h1:=A'.slot
   simp [hlt] at h1
   obtain ⟨rfl,rfl⟩:=h1
   exact ⟨k,A.slot,A'.σ⟩
  ·have h1:=A'.slot
   rw [List.getElem?_set_ne hbb] at h1
   exact ⟨k2,h1,A'.σ⟩
 refine I.step hle hos htape hout (Nat.le_of_eq hsize.symm) (fun r h=>.inl h) (fun r hr hne=>keep r fun h0 he=>hne b s k en A h0 he.symm) ⟨I.good.free,?_,?_,?_⟩ ?_
 ·intro b' s' k2 hb'
  by_cases hbb:b=b'
  ·subst hbb
   simp [hlt] at hb'
   obtain ⟨rfl,rfl⟩:=hb'
   exact ⟨en,⟨by simp [hlt],A.σ⟩,hB hle,(A.brep I.good).2⟩
  ·have h1:=hb'
   rw [List.getElem?_set_ne hbb] at h1
   obtain ⟨en',A',h2,h3⟩:=I.good.blk b' s' k2 h1
   refine ⟨en',⟨hb',A'.σ⟩,h2.mono hle (fun h0=>keep _ fun h1 he=>hbb (I.good.inj b b' s s' k k2 en en' A A' h1 h0 he.symm)),h3⟩
 ·intro b1 b2 s1 s2 k1 k2 en1 en2 A1 A2 h1 h2 he
  obtain ⟨k1',A1⟩:=back _ _ _ _ A1
  obtain ⟨k2',A2⟩:=back _ _ _ _ A2
  exact I.good.inj b1 b2 s1 s2 k1' k2' en1 en2 A1 A2 h1 h2 he
 ·intro r hr
  rw [hsize]; exact I.good.stay r hr
 ·intro b' s' k2 en' A' h0
  obtain ⟨k0,A0⟩:=back _ _ _ _ A'
  exact .inl ⟨b',s',k0,en',A0,h0,rfl⟩
theorem InvE.kill (I:InvE C st a E) (b:Nat):InvE C ⟨st.t,st.h.set b none,st.n⟩ a E:=by
 have back:∀ (b' s':Nat) (k2:Blk),(st.h.set b none)[b']?=some (some (s',k2))→st.h[b']?=some (some (s',k2)):=by
  intro b' s' k2 h
  by_cases hbb:b=b'
  ·subst hbb
   rw [List.getElem?_set] at h
   simp only [if_true] at h
   split at h<;>simp at h
  ·rwa [List.getElem?_set_ne hbb] at h
 have backA:∀ (b' s':Nat) (k2:Blk) (en:Ent),At E (st.h.set b none) b' s' k2 en→At E st.h b' s' k2 en:=fun b' s' k2 en A=>⟨back _ _ _ A.slot,A.σ⟩
 refine I.step (Env.le.refl E) rfl rfl rfl (Nat.le_refl _) (fun r h=>.inl h) (fun r _ _=>rfl) ⟨I.good.free,?_,?_,I.good.stay⟩ ?_
 ·intro b' s' k' hb'
  obtain ⟨en,A,h⟩:=I.good.blk b' s' k' (back _ _ _ hb')
  exact ⟨en,⟨hb',A.σ⟩,h⟩
 ·intro b1 b2 s1 s2 k1 k2 en1 en2 A1 A2 h1 h2 he
  exact I.good.inj b1 b2 s1 s2 k1 k2 en1 en2 (backA _ _ _ _ A1) (backA _ _ _ _ A2) h1 h2 he
 ·intro b' s' k' en' A h0
  exact .inl ⟨b',s',k',en',backA _ _ _ _ A,h0,rfl⟩
end Go.Proofs.Ytemdbhdjchkllaa.VL
