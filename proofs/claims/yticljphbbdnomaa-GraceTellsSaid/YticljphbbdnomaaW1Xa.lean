import Derived.Test.YticljphbbdnomaaW1Vs
section
namespace Go.Proofs.Yticljphbbdnomaa.VL
open Go
set_option linter.unusedVariables false
set_option linter.unusedSimpArgs false
set_option linter.unusedSectionVars false
variable [Val]
inductive TT where
 | i (k:IntKind)
 | b
 | s
 | sl (t:TT)
 | p (x y:TT)
 | ar (t:TT)
 deriving Inhabited
@[reducible] def TT.den:TT→Type
 | .i _=>Int
 | .b=>Bool
 | .s=>ByteArray
 | .sl t=>List t.den
 | .p x y=>x.den×y.den
 | .ar t=>List t.den
def enc:(t:TT)→t.den→PV
 | .i k,n=>.v (.int k n)
 | .b,x=>.v (.bool x)
 | .s,x=>.v (.string x)
 | .sl t,l=>.sl false (l.map (enc t))
 | .p x y,v=>.agg ((enc x v.1).cells++(enc y v.2).cells)
 | .ar t,l=>.agg (l.map (enc t))
inductive XV where
 | i (k:IntKind) (n:Int)
 | b (x:Bool)
 | s (x:ByteArray)
 | k (p:PV)
 | agg (cs:List XV)
 | arr (t:TT) (l:List t.den)
 | tup (cs:List XV)
 | tl (t:TT) (l:List t.den)
 | xl (c:Bool) (es:List XV)
 | own (b s sz off len:Nat) (cap:Option Nat)
 | optr (b s i off:Nat)
 | sptr (cs:List XV)
 | clo (f:Nat) (fs cs:List XV)
 | mp (b s:Nat)
 | dead
 deriving Inhabited
mutual
def XV.toPV:XV→PV
 | .i k n=>.v (.int k n)
 | .b x=>.v (.bool x)
 | .s x=>.v (.string x)
 | .k p=>match p with | .agg _=>.dead | p=>p
 | .agg cs=>.agg (toPVL cs)
 | .arr t l=>.agg (l.map (enc t))
 | .tup cs=>.tup (toPVL cs)
 | .tl t l=>.sl false (l.map (enc t))
 | .xl c es=>.sl c (toPVL es)
 | .own b s sz off len cap=>.own b s sz off len cap
 | .optr b s i off=>.optr b s i off
 | .sptr cs=>.sptr (toPVL cs)
 | .clo f fs cs=>.clo f (toPVL fs) (toPVL cs)
 | .mp b s=>.mp b s
 | .dead=>.dead
def toPVL:List XV→List PV
 | []=>[]
 | x::r=>x.toPV::toPVL r
end
theorem toPVL_map:∀ l:List XV,toPVL l=l.map XV.toPV
 | []=>by simp [toPVL]
 | x::r=>by simp [toPVL,toPVL_map r]
def expand1:(t:TT)→t.den→XV
 | .i k,n=>.i k n
 | .b,x=>.b x
 | .s,x=>.s x
 | .sl t,l=>.tl t l
 | .p x y,v=>.dead
 | .ar t,l=>.arr t l
def encOne:TT→Bool
 | .i _ | .b | .s=>true
 | _=>false
def XV.cells:XV→List XV
 | .agg cs=>cs
 | .arr t l=>match encOne t with | true=>l.map (expand1 t) | false=>l.map (fun v=>.k (enc t v))
 | x=>[x]
def expand:(t:TT)→t.den→XV
 | .i k,n=>.i k n
 | .b,x=>.b x
 | .s,x=>.s x
 | .sl t,l=>.tl t l
 | .p x y,v=>.agg ((expand x v.1).cells++(expand y v.2).cells)
 | .ar t,l=>.arr t l
def TT.fine:TT→Bool
 | .i _ | .b | .s=>true
 | .sl t=>t.fine
 | .p x y=>x.fine&&y.fine
 | .ar t=>encOne t
theorem toPV_expand1 {t:TT} (h:encOne t=true) (v:t.den):(expand1 t v).toPV=enc t v:=by
 cases t<;>first | (cases h; done) | (simp [expand1,XV.toPV,enc])
theorem cells_toPV (x:XV) (hx:∀ t l,x=.arr t l→encOne t=true):x.toPV.cells=toPVL x.cells:=by
 cases x with
 | k p=>simp only [XV.toPV,XV.cells,toPVL]; cases p<;>rfl
 | agg cs=>simp [XV.toPV,PV.cells,XV.cells]
 | arr t l =>
  have h:=hx t l rfl
  simp only [XV.toPV,PV.cells,XV.cells,h,toPVL_map,List.map_map]
  congr 1
  funext v
  exact (toPV_expand1 h v).symm
 | _=>simp [XV.toPV,PV.cells,XV.cells,toPVL]
theorem toPVL_append (l m:List XV):toPVL (l++m)=toPVL l++toPVL m:=by simp [toPVL_map]
theorem fine_arr {t t':TT} {v:t.den} {l:List t'.den} (h:t.fine=true) (he:expand t v=.arr t' l):encOne t'=true:=by
 cases t<;>simp only [expand,XV.arr.injEq,reduceCtorEq] at he
 obtain ⟨rfl,_⟩:=he
 exact h
theorem toPV_expand:∀ {t:TT} (v:t.den),t.fine=true→(expand t v).toPV=enc t v
 | .i k,n,_=>by simp [expand,XV.toPV,enc]
 | .b,x,_=>by simp [expand,XV.toPV,enc]
 | .s,x,_=>by simp [expand,XV.toPV,enc]
 | .sl t,l,_=>by simp [expand,XV.toPV,enc]
 | .p x y,v,h=>by
  simp only [TT.fine,Bool.and_eq_true] at h
  have h1:=cells_toPV (expand x v.1) (fun t l he=>fine_arr h.1 he)
  have h2:=cells_toPV (expand y v.2) (fun t l he=>fine_arr h.2 he)
  simp only [expand,XV.toPV,enc,toPVL_append,← h1,← h2,toPV_expand v.1 h.1,toPV_expand v.2 h.2]
 | .ar t,l,_=>by simp [expand,XV.toPV,enc]
def ofPV:PV→XV
 | .v (.int k n)=>.i k n
 | .v (.bool b)=>.b b
 | .v (.string s)=>.s s
 | .agg cs=>.agg (ofPVL cs)
 | .tup cs=>.tup (ofPVL cs)
 | .sl c es=>.xl c (ofPVL es)
 | .clo f fs cs=>.clo f (ofPVL fs) (ofPVL cs)
 | .sptr cs=>.sptr (ofPVL cs)
 | .dead=>.dead
 | p=>.k p
where ofPVL:List PV→List XV
 | []=>[]
 | p::r=>ofPV p::ofPVL r
mutual
theorem toPV_ofPV:∀ p:PV,(ofPV p).toPV=p
 | .v x=>by cases x<;>simp [ofPV,XV.toPV]
 | .agg cs=>by simp [ofPV,XV.toPV,toPVL_ofPVL cs]
 | .tup cs=>by simp [ofPV,XV.toPV,toPVL_ofPVL cs]
 | .sl c es=>by simp [ofPV,XV.toPV,toPVL_ofPVL es]
 | .clo f fs cs=>by simp [ofPV,XV.toPV,toPVL_ofPVL fs,toPVL_ofPVL cs]
 | .sptr cs=>by simp [ofPV,XV.toPV,toPVL_ofPVL cs]
 | .own ..=>by simp [ofPV,XV.toPV]
 | .optr ..=>by simp [ofPV,XV.toPV]
 | .mp ..=>by simp [ofPV,XV.toPV]
 | .sy _=>by simp [ofPV,XV.toPV]
 | .dead=>by simp [ofPV,XV.toPV]
theorem toPVL_ofPVL:∀ l:List PV,toPVL (ofPV.ofPVL l)=l
 | []=>by simp [ofPV.ofPVL,toPVL]
 | p::r=>by simp [ofPV.ofPVL,toPVL,toPV_ofPV p,toPVL_ofPVL r]
end
def ikB:IntKind→IntKind→Bool
 | .i8,.i8 | .i16,.i16 | .i32,.i32 | .i64,.i64 | .u8,.u8 | .u16,.u16 | .u32,.u32 | .u64,.u64=>true
 | _,_=>false
theorem ikB_eq {k k':IntKind} (h:ikB k k'=true):k=k':=by cases k<;>cases k'<;>first | rfl | cases h
def ttB:TT→TT→Bool
 | .i k,.i k'=>ikB k k'
 | .b,.b=>true
 | .s,.s=>true
 | .sl t,.sl t'=>ttB t t'
 | .p x y,.p x' y'=>ttB x x'&&ttB y y'
 | .ar t,.ar t'=>ttB t t'
 | _,_=>false
theorem ttB_eq:∀ {t t':TT},ttB t t'=true→t=t'
 | .i k,.i k',h=>by rw [ikB_eq h]
 | .b,.b,_=>rfl
 | .s,.s,_=>rfl
 | .sl t,.sl t',h=>by rw [ttB_eq (t:=t) (t':=t') h]
 | .p x y,.p x' y',h=>by
  simp only [ttB,Bool.and_eq_true] at h
  rw [ttB_eq h.1,ttB_eq h.2]
 | .ar t,.ar t',h=>by rw [ttB_eq (t:=t) (t':=t') h]
def castL (t t':TT) (l:List t.den):Option (List t'.den):=match h:ttB t t' with
 | true=>some ((ttB_eq h) ▸ l)
 | false=>none
theorem castL_spec {t t':TT} {l:List t.den} {l':List t'.den} (h:castL t t' l=some l'):∃ e:t=t',l'=e ▸ l:=by
 unfold castL at h
 split at h
 ·rename_i he
  cases h
  exact ⟨ttB_eq he,rfl⟩
 ·cases h
end Go.Proofs.Yticljphbbdnomaa.VL
end
section
namespace Go.Proofs.Yticljphbbdnomaa.VL
open Go
set_option linter.unusedVariables false
set_option linter.unusedSimpArgs false
set_option linter.unusedSectionVars false
variable [Val]
def Lp (p q:PV):Prop:=∀ (E:Env) (u:Value),Rep E p u→Rep E q u
theorem Lp.refl (p:PV):Lp p p:=fun _ _ h=>h
theorem Lp.trans {p q r:PV} (h:Lp p q) (k:Lp q r):Lp p r:=fun E u x=>k E u (h E u x)
theorem Lp.dead (p:PV):Lp p .dead:=fun E u _=>.dead u
inductive L2:List PV→List PV→Prop
 | nil:L2 [] []
 | cons {p q:PV} {r l:List PV} (h:Lp p q) (t:L2 r l):L2 (p::r) (q::l)
theorem L2.refl:∀ l:List PV,L2 l l
 | []=>.nil
 | p::r=>.cons (Lp.refl p) (L2.refl r)
theorem L2.len {a b:List PV} (h:L2 a b):a.length=b.length:=by induction h<;>simp [*]
theorem L2.get {a b:List PV} (h:L2 a b):∀ (i:Nat) (q:PV),b[i]?=some q→∃ p,a[i]?=some p∧Lp p q:=by
 induction h with
 | nil=>intro i q h; simp at h
 | cons h t ih =>
  intro i q hq
  cases i with
  | zero=>simp at hq; subst hq; exact ⟨_,rfl,h⟩
  | succ i=>simp at hq; exact ih i q hq
theorem L2.append {a b c d:List PV} (h:L2 a b) (k:L2 c d):L2 (a++c) (b++d):=by
 induction h with
 | nil=>exact k
 | cons h t ih=>exact .cons h ih
theorem L2.mk:∀ {a b:List PV},a.length=b.length→(∀ (i:Nat) (p q:PV),a[i]?=some p→b[i]?=some q→Lp p q)→L2 a b
 | [],[],_,_=>.nil
 | p::r,q::l,hl,h=>.cons (h 0 p q rfl rfl) (L2.mk (by simpa using hl) fun i p q hp hq=>h (i+1) p q (by simpa using hp) (by simpa using hq))
theorem L2.trans {a b c:List PV} (h:L2 a b) (k:L2 b c):L2 a c:=by
 induction h generalizing c with
 | nil=>exact k
 | cons h t ih=>cases k with | cons h' t'=>exact .cons (h.trans h') (ih t')
theorem L2.set {a b:List PV} (h:L2 a b) (i:Nat) {p q:PV} (hp:Lp p q):L2 (a.set i p) (b.set i q):=by
 induction h generalizing i with
 | nil=>exact .nil
 | cons h t ih =>
  cases i with
  | zero=>exact .cons hp t
  | succ i=>exact .cons h (ih i)
theorem L2.map {α:Type} {f g:α→PV} (h:∀ a,Lp (f a) (g a)):∀ l:List α,L2 (l.map f) (l.map g)
 | []=>.nil
 | a::r=>.cons (h a) (L2.map h r)
inductive R2:List PV→List PV→Prop
 | nil:R2 [] []
 | cons {p q:PV} {r l:List PV} (h:L2 p.cells q.cells) (t:R2 r l):R2 (p::r) (q::l)
theorem R2.refl:∀ l:List PV,R2 l l
 | []=>.nil
 | p::r=>.cons (L2.refl _) (R2.refl r)
theorem R2.len {a b:List PV} (h:R2 a b):a.length=b.length:=by induction h<;>simp [*]
theorem R2.get {a b:List PV} (h:R2 a b):∀ (i:Nat) (q:PV),b[i]?=some q→∃ p,a[i]?=some p∧L2 p.cells q.cells:=by
 induction h with
 | nil=>intro i q h; simp at h
 | cons h t ih =>
  intro i q hq
  cases i with
  | zero=>simp at hq; subst hq; exact ⟨_,rfl,h⟩
  | succ i=>simp at hq; exact ih i q hq
theorem R2.set {a b:List PV} (h:R2 a b) (i:Nat) {p q:PV} (hp:L2 p.cells q.cells):R2 (a.set i p) (b.set i q):=by
 induction h generalizing i with
 | nil=>exact .nil
 | cons h t ih =>
  cases i with
  | zero=>exact .cons hp t
  | succ i=>exact .cons h (ih i)
theorem R2.append {a b c d:List PV} (h:R2 a b) (k:R2 c d):R2 (a++c) (b++d):=by
 induction h with
 | nil=>exact k
 | cons h t ih=>exact .cons h ih
theorem R2.take {a b:List PV} (h:R2 a b) (n:Nat):R2 (a.take n) (b.take n):=by
 induction h generalizing n with
 | nil=>simp; exact .nil
 | cons h t ih=>cases n with | zero=>exact .nil | succ n=>exact .cons h (ih n)
theorem R2.drop {a b:List PV} (h:R2 a b) (n:Nat):R2 (a.drop n) (b.drop n):=by
 induction h generalizing n with
 | nil=>simp; exact .nil
 | cons h t ih=>cases n with | zero=>exact .cons h t | succ n=>exact ih n
theorem R2.rep {p q:PV} (h:L2 p.cells q.cells):∀ n,R2 (List.replicate n p) (List.replicate n q)
 | 0=>.nil
 | n+1=>.cons h (R2.rep h n)
theorem lp_agg {cs ds:List PV} (h:L2 cs ds):Lp (.agg cs) (.agg ds):=by
 intro E u r
 cases r with
 | agg _ vs hl ho hr =>
  refine .agg ds vs (by rw [hl,h.len]) ho fun i c u hc hu=>?_
  obtain ⟨p,hp,hl⟩:=h.get i c hc
  exact hl E u (hr i p u hp hu)
theorem lp_tup {cs ds:List PV} (h:L2 cs ds):Lp (.tup cs) (.tup ds):=by
 intro E u r
 cases r with
 | tup _ vs hl hr =>
  refine .tup ds vs (by rw [hl,h.len]) fun i c u hc hu=>?_
  obtain ⟨p,hp,hl⟩:=h.get i c hc
  exact hl E u (hr i p u hp hu)
theorem lp_sl {c c':Bool} {es fs:List PV} (h:R2 es fs) (hc:c'=true→c=true):Lp (.sl c es) (.sl c' fs):=by
 intro E u r
 cases r with
 | emp _ a cap hcap hn=>cases h; exact .emp c' a cap (fun h=>hcap (hc h)) hn
 | sl _ _ rb off cap sz U hne hS hcl hcap hsz0 hsz hm ho hr =>
  rw [h.len]
  refine .sl c' fs rb off cap sz U ?_ hS (fun h'=>by rw [← h.len]; exact hcl (hc h')) (by rw [← h.len]; exact hcap) hsz0 ?_ ?_ ho ?_
  ·intro he; subst he; cases h; exact hne rfl
  ·intro i e he
   obtain ⟨p,hp,hl⟩:=h.get i e he
   rw [← hl.len]; exact hsz i p hp
  ·intro i e j c he hj
   obtain ⟨p,hp,hl⟩:=h.get i e he
   obtain ⟨q,hq,_⟩:=hl.get j c hj
   exact hm i p j q hp hq
  ·intro i e j c he hj
   obtain ⟨p,hp,hl⟩:=h.get i e he
   obtain ⟨q,hq,hlp⟩:=hl.get j c hj
   exact hlp E _ (hr i p j q hp hq)
inductive BL:Blk→Blk→Prop
 | cells {es fs:List PV} (h:R2 es fs):BL (.cells es) (.cells fs)
 | same (k:Blk):BL k k
theorem BRep.le {E:Env} {en:Ent} {k k':Blk} (h:BL k k') (hb:BRep E en k):BRep E en k':=by
 cases h with
 | same=>exact hb
 | cells h =>
  obtain ⟨h1,h2,h3,h4⟩:=hb
  refine ⟨by rw [← h.len]; exact h1,h2,fun i e he=>?_,fun h0=>?_⟩
  ·obtain ⟨p,hp,hl⟩:=h.get i e he
   rw [← hl.len]; exact h3 i p hp
  ·obtain ⟨arr,t,g1,g2,g3,g4⟩:=h4 h0
   refine ⟨arr,t,g1,g2,fun i e j c he hj=>?_,g4⟩
   obtain ⟨p,hp,hl⟩:=h.get i e he
   obtain ⟨q,hq,hlp⟩:=hl.get j c hj
   obtain ⟨u,hu,hr⟩:=g3 i p j q hp hq
   exact ⟨u,hu,hlp E u hr⟩
def HL (h h':List Slot):Prop:=∀ (b s:Nat) (k':Blk),h'[b]?=some (some (s,k'))→∃ k,h[b]?=some (some (s,k))∧BL k k'
theorem HL.refl (h:List Slot):HL h h:=fun b s k hb=>⟨k,hb,.same k⟩
theorem HL.set {h h':List Slot} (hh:HL h h') (hl:h.length=h'.length) (b:Nat) {s:Nat} {k k':Blk} (hk:BL k k'):HL (h.set b (some (s,k))) (h'.set b (some (s,k'))):=by
 intro b1 s1 k1 h1
 by_cases hb:b=b1
 ·subst hb
  rw [List.getElem?_set] at h1 ⊢
  simp only [if_true] at h1 ⊢
  split at h1
  ·rename_i hlt
   cases h1
   rw [if_pos (by omega)]
   exact ⟨k,rfl,hk⟩
  ·cases h1
 ·rw [List.getElem?_set_ne hb] at h1 ⊢
  exact hh b1 s1 k1 h1
theorem InvE.less {C:Ctx} {st st':St} {a:Act} {E:Env} (I:InvE C st a E) (ht:L2 st.t st'.t) (hh:HL st.h st'.h) (hn:st.n≤st'.n):InvE C st' a E:=by
 have back:∀ (b s:Nat) (k:Blk) (en:Ent),At E st'.h b s k en→∃ k0,At E st.h b s k0 en:=by
  intro b s k en A
  obtain ⟨k0,h0,_⟩:=hh b s k A.slot
  exact ⟨k0,h0,A.σ⟩
 refine { good:=⟨fun s hs=>I.good.free s (Nat.le_trans hn hs),?_,?_,I.good.stay⟩,since:=I.since,touch:=?_,defers:=I.defers,tsize:=I.tsize.trans ht.len,tmps:=?_ }
 ·intro b s k hb
  obtain ⟨k0,h0,hk⟩:=hh b s k hb
  obtain ⟨en,A,B,S⟩:=I.good.blk b s k0 h0
  exact ⟨en,⟨hb,A.σ⟩,B.le hk,S⟩
 ·intro b b' s s' k k' en en' A A' h0 h0' he
  obtain ⟨k0,A0⟩:=back _ _ _ _ A
  obtain ⟨k0',A0'⟩:=back _ _ _ _ A'
  exact I.good.inj b b' s s' k0 k0' en en' A0 A0' h0 h0' he
 ·intro b s k en A h0
  obtain ⟨k0,A0⟩:=back _ _ _ _ A
  exact I.touch b s k0 en A0 h0
 ·intro i p u hp hu
  obtain ⟨q,hq,hl⟩:=ht.get i p hp
  exact hl E u (I.tmps i q u hq hu)
theorem Weak.less {st st':St} (ht:L2 st.t st'.t) (hh:HL st.h st'.h) (hn:st.n≤st'.n):Weak st st':=fun C a E I=>⟨E,rfl,I.less ht hh hn⟩
def PLe (p:PV) (h:List Slot) (n:Nat) (p':PV) (h':List Slot) (n':Nat):Prop:=∀ (t:List PV) (d:Option Nat),Weak (St.put ⟨t,h,n⟩ d p) (St.put ⟨t,h',n'⟩ d p')
theorem PLe.refl (p:PV) (h:List Slot) (n:Nat):PLe p h n p h n:=fun t d=>Weak.refl _
theorem PLe.trans {p p' p'':PV} {h h' h'':List Slot} {n n' n'':Nat} (x:PLe p h n p' h' n') (y:PLe p' h' n' p'' h'' n''):PLe p h n p'' h'' n'':=fun t d=>(x t d).trans (y t d)
theorem PLe.less {p p':PV} {h h':List Slot} {n n':Nat} (hp:Lp p p') (hh:HL h h') (hn:n≤n'):PLe p h n p' h' n':=by
 intro t d
 cases d with
 | none=>exact Weak.less (L2.refl _) hh hn
 | some d=>exact Weak.less ((L2.refl _).set d hp) hh hn
theorem PLe.restamp {h:List Slot} {b s n:Nat} {k:Blk} (hb:h[b]?=some (some (s,k))) (sz off len:Nat) (cap:Option Nat):PLe (.own b s sz off len cap) h n (.own b n sz off len cap) (h.set b (some (n,k))) (n+1):=by
 have hlt:=(List.getElem?_eq_some_iff.1 hb).1
 intro t d C a E I
 have hbb:(St.put ⟨t,h,n⟩ d (.own b s sz off len cap)).h=h:=by cases d<;>rfl
 have hnn:(St.put ⟨t,h,n⟩ d (.own b s sz off len cap)).n=n:=by cases d<;>rfl
 obtain ⟨en,A,B,S⟩:=I.good.blk b s k (by rw [hbb]; exact hb)
 have G:=I.give (b:=b) (k:=k) (en:=en) (w':=E.w) (by rw [hbb]; exact hlt) rfl rfl rfl (Nat.le_refl _) (fun r _=>.inr rfl) (fun h0=>.inr ⟨s,k,en,A,h0,rfl⟩) (fun hle=>B.mono hle (fun _=>rfl))
 rw [hbb,hnn] at G
 refine ⟨⟨E.w,giveAt E.σ n en,E.S⟩,rfl,?_⟩
 cases d with
 | none=>exact G
 | some d =>
  refine { good:=G.good,since:=G.since,touch:=G.touch,defers:=G.defers,tsize:=by have:=G.tsize; simpa [St.put] using this,tmps:=?_ }
  intro i p u hp hu
  simp only [St.put,List.getElem?_set] at hp
  have old:∀ (p:PV),(t.set d (.own b s sz off len cap))[i]?=some p→Rep ⟨E.w,giveAt E.σ n en,E.S⟩ p u:=fun p hp=>G.tmps i p u (by simpa [St.put] using hp) hu
  by_cases hd:d=i
  ·subst hd
   simp only [if_true] at hp
   split at hp
   ·rename_i hlt'
    cases hp
    have h1:=I.tmps d (.own b s sz off len cap) u (by simp [St.put,hlt']) hu
    cases h1 with
    | own _ _ _ _ _ en' c ad hσ ha hn' hlen hc htot hcap =>
     have:en'=en:=by have h2:=A.σ; rw [hσ] at h2; cases h2; rfl
     subst this
     exact .own b n off len cap en' c ad (by simp [giveAt]) ha hn' hlen hc htot hcap
   ·cases hp
  ·rw [if_neg hd] at hp
   exact old p (by rw [List.getElem?_set_ne hd]; exact hp)
theorem Weak.own0N {t:List PV} {h:List Slot} {b n sz:Nat} (hb:b < h.length) (hsz:0 < sz):Weak ⟨t,h,n⟩ ⟨t,h.set b (some (n,.cells [])),n+1⟩:=by
  intro C a E I
  have I0:InvE C ⟨t++[.sl true []],h,n⟩ { tmps:=a.tmps.push (.slice none 0 0),defers:=a.defers } E :=
    { good:=I.good,since:=I.since,touch:=I.touch,defers:=I.defers,tsize:=by have:=I.tsize; simp at this; simp [this],tmps:=by
        intro i p u hp hu
        have hs:=I.tsize
        simp only at hs
        rw [List.getElem?_append] at hp
        split at hp
        · rename_i hlt
          refine I.tmps i p u hp ?_
          rw [Array.getElem?_push] at hu
          rw [if_neg (by omega)] at hu
          exact hu
        · rename_i hge
          have:i=t.length:=by
            have:=(List.getElem?_eq_some_iff.1 hp).1
            simp at this; omega
          subst this
          simp at hp
          subst hp
          rw [Array.getElem?_push,if_pos hs.symm] at hu
          cases hu
          exact .emp true none 0 (fun _=>rfl) (fun _=>rfl) }
  obtain ⟨E',e',I'⟩:=Weak.own0 ⟨t++[.sl true []],h,n⟩ t.length b sz (by simp) hb hsz _ _ _ I0
  refine ⟨E',e',{ good:=I'.good,since:=I'.since,touch:=I'.touch,defers:=I.defers,tsize:=I.tsize,tmps:=?_ }⟩
  intro i p u hp hu
  have hlt:i < t.length:=(List.getElem?_eq_some_iff.1 hp).1
  have hs:=I.tsize
  simp only at hs
  refine I'.tmps i p u ?_ ?_
  · show ((t++[PV.sl true []]).set t.length _)[i]?=some p
    rw [List.getElem?_set_ne (by omega),List.getElem?_append_left hlt]
    exact hp
  · rw [Array.getElem?_push,if_neg (by omega)]; exact hu
theorem PLe.own0 {h:List Slot} {b n sz:Nat} (hb:b < h.length) (hsz:0 < sz):PLe (.sl true []) h n (.own b n sz 0 0 none) (h.set b (some (n,.cells []))) (n+1):=by
 intro t d
 cases d with
 | none=>exact Weak.own0N hb hsz
 | some d =>
  by_cases hd:d < t.length
  ·have:=Weak.own0 ⟨t.set d (.sl true []),h,n⟩ d b sz (by simp [hd]) hb hsz
   simpa [St.own0,St.put] using this
  ·have e:∀ p:PV,t.set d p=t:=fun p=>List.set_eq_of_length_le (by omega)
   simp only [St.put,e]
   exact Weak.own0N hb hsz
end Go.Proofs.Yticljphbbdnomaa.VL
end
