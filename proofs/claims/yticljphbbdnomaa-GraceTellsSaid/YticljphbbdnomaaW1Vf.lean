import Derived.Test.YticljphbbdnomaaW1Ve
import Derived.Laws.StructEq
namespace Go.Proofs.Yticljphbbdnomaa.VL
open Go
set_option linter.unusedVariables false
set_option linter.unusedSimpArgs false
set_option linter.unusedSectionVars false
variable [Val]
variable {P:Program} {C:Ctx} {st:St} {a:Act} {E:Env} {K:PV→List Slot→Nat→Prop} {o:Oper}
theorem out_mov (I:InvE C st a E) {x:Operand} {y:Opd} (ho:o.op=.move x∨o.op=.assign x) (hx:cOpd x=some y) (hK:opK st.ev st.h st.n K (.mov y)):Out P o C st a E K:=by
 refine Out.same I hK ?_ (ev_rep I hx)
 rcases ho with ho | ho<;>simp [execOp,ho]
theorem out_pick (I:InvE C st a E) {c x y:Operand} {c' x' y':Opd} (ho:o.op=.pick c x y) (hc:cOpd c=some c') (hx:cOpd x=some x') (hy:cOpd y=some y') (hK:opK st.ev st.h st.n K (.pick c' x' y')):Out P o C st a E K:=by
 have hr:=ev_rep I hc
 simp only [opK] at hK
 split at hK
 ·rename_i t hev
  rw [hev] at hr
  have hr:=rep_v hr
  cases t with
  | true=>exact Out.same I (hK.1 rfl) (by simp [execOp,ho,hr,asBool]) (ev_rep I hx)
  | false=>exact Out.same I (hK.2 rfl) (by simp [execOp,ho,hr,asBool]) (ev_rep I hy)
 ·rename_i z hev
  rw [hev] at hr
  have hr:=rep_sy hr
  obtain ⟨hz,h1,h2⟩:=hK
  obtain ⟨t,ht⟩:=sx_bool hz
  rw [ht] at hr
  cases t with
  | true=>exact Out.same I (h1 ht) (by simp [execOp,ho,hr,asBool]) (ev_rep I hx)
  | false=>exact Out.same I (h2 ht) (by simp [execOp,ho,hr,asBool]) (ev_rep I hy)
 ·exact hK.elim
theorem out_nilc (I:InvE C st a E) {x:Operand} {y:Opd} (ho:o.op=.nilCheck x) (hx:cOpd x=some y) (hK:opK st.ev st.h st.n K (.nilc y)):Out P o C st a E K:=by
 have hr:=ev_rep I hx
 simp only [opK] at hK
 split at hK
 ·rename_i hev
  rw [hev] at hr hK
  obtain ⟨en,hσ,hu⟩:=rep_optr hr
  exact Out.same I hK (by simp only [execOp,ho,hu]; rfl) (by rw [← hu]; exact hr)
 ·rename_i hev
  rw [hev] at hr hK
  obtain ⟨rb,off,U,hu,_⟩:=rep_sptr hr
  exact Out.same I hK (by simp only [execOp,ho,hu]; rfl) (by rw [← hu]; exact hr)
 ·rename_i hev
  rw [hev] at hr hK
  have:∃ f us vs,a.eval x=.func (.func f) us vs:=by
   generalize a.eval x=u at hr
   cases hr with | clo f fs cs us vs hk g hl h=>exact ⟨_,_,_,rfl⟩
  obtain ⟨f,us,vs,hu⟩:=this
  exact Out.same I hK (by simp only [execOp,ho,hu]; rfl) (by rw [← hu]; exact hr)
 ·exact hK.elim
theorem run_eqGuard_int (op:BinOp) (t:TypeId) (x y:Operand) (k k':IntKind) (m n:Int) (w:World):(eqGuard op t x y (.int k m) (.int k' n)).run P w=.ok () w:=by
 cases op<;>rfl
theorem run_eqGuard_str (op:BinOp) (t:TypeId) (x y:Operand) (m n:ByteArray) (w:World):(eqGuard op t x y (.string m) (.string n)).run P w=.ok () w:=by
 cases op<;>rfl
theorem run_eqGuard_bool (op:BinOp) (t:TypeId) (x y:Operand) (m n:Bool) (w:World):(eqGuard op t x y (.bool m) (.bool n)).run P w=.ok () w:=by
 cases op<;>rfl
theorem run_eqGuard_slice (op:BinOp) (t:TypeId) (x y:Operand) (a b:Option Addr) (l m l' m':Nat) (w:World):(eqGuard op t x y (.slice a l m) (.slice b l' m')).run P w=.ok () w:=by
 cases op<;>rfl
theorem run_shift {op:BinOp} {k k':IntKind} {m n:Int} {u:Value} (h:shifts op k m n=some u) (w:World):(Op.shift op k m k' n).run P w=.ok u w:=by
 unfold shifts at h
 split at h
 ·cases h
 ·rename_i hn
  unfold Op.shift
  rw [if_neg hn]
  cases op<;>simp at h<;>subst h<;>rfl
theorem run_arith {op:BinOp} {k:IntKind} {m n:Int} {u:Value} (hs:op≠.shl∧op≠.shr) (h:arith op k m n=some u) (t:TypeId) (w:World):(binOp op t (.int k m) (.int k n)).run P w=.ok u w:=by
  cases op<;>simp only [arith] at h<;>first
    | (simp at hs; done)
    | (simp at h; subst h; simp [binOp,Op.intArith]; done)
    | (simp at h; subst h; simp [binOp,Op.intBits]; done)
    | (simp at h; subst h; simp [binOp,Op.intCmp]; done)
    | (split at h
       · cases h
       · rename_i h0; cases h; simp [binOp,Op.intDiv,h0])
theorem run_strOp {op:BinOp} {m n:ByteArray} {u:Value} (h:strOp op m n=some u) (t:TypeId) (w:World):(binOp op t (.string m) (.string n)).run P w=.ok u w:=by
  cases op<;>simp only [strOp] at h<;>first
    | (cases h; done)
    | (split at h
       · rename_i hle
         cases h
         simp only [binOp,Op.stringOp]
         rw [if_neg (by simp only [IntKind.max,IntKind.signed,IntKind.bits]; simp; omega)]
         rfl
       · cases h)
    | (cases h; simp only [binOp,Op.stringOp]; first | rfl | simp)
theorem run_binW {op:BinOp} {t t':TypeId} {x y:Operand} {m n u:Value} (ho:o.op=.binOp op t x y t') (hx:a.eval x=m) (hy:a.eval y=n) (h:binW op m n=some u) (w:World):(execOp a.eval o).run P w=.ok (.value u) w:=by
 unfold binW at h
 split at h
 ·rename_i k m k' n
  simp only [execOp,ho,hx,hy,Sem.run_bind,run_eqGuard_int,Result.andThen_ok]
  have:(binOp op t (.int k m) (.int k' n)).run P w=.ok u w:=by
   split at h
   ·exact run_shift (k':=k') h w
   ·exact run_shift (k':=k') h w
   ·rename_i hn1 hn2
    split at h
    ·rename_i hk
     subst hk
     exact run_arith ⟨hn1,hn2⟩ h t w
    ·cases h
  rw [this]; rfl
 ·simp only [execOp,ho,hx,hy,Sem.run_bind,run_eqGuard_str,Result.andThen_ok]
  rw [run_strOp h]; rfl
 ·cases h
theorem binV_W {op:BinOp} {p q:PV} {u m n:Value} (h:binV op p q=some u) (hp:Rep E p m) (hq:Rep E q n):binW op m n=some u:=by
 unfold binV at h
 split at h
 ·rw [rep_v hp,rep_v hq]; exact h
 ·rw [rep_v hp,rep_v hq]; exact h
 ·cases h
theorem out_bin (I:InvE C st a E) {op:BinOp} {t t':TypeId} {x y:Operand} {x' y':Opd} (ho:o.op=.binOp op t x y t') (hx:cOpd x=some x') (hy:cOpd y=some y') (hK:opK st.ev st.h st.n K (.bin op x' y')):Out P o C st a E K:=by
 have hrx:=ev_rep I hx
 have hry:=ev_rep I hy
 simp only [opK] at hK
 split at hK
 ·rename_i u hu
  exact Out.same I hK (run_binW ho rfl rfl (binV_W hu hrx hry) _) (.v u)
 ·split at hK
  ·rename_i z hz
   exact Out.same I hK (run_binW ho rfl rfl (binS_spec hz hrx hry).1 _) (.sy z)
  ·exact hK.elim
theorem run_equalIn_bool {t:TypeId} (ht:P.underlying t=some .bool) (m n:Bool) (w:World) (d:Nat):(Op.equalIn (d+1) t (.bool m) (.bool n)).run P w=.ok (m==n) w:=by
 simp only [Op.equalIn,Sem.run_bind,run_underlying ht,Result.andThen_ok,Sem.run_pure]
theorem run_equal_bool {t:TypeId} (ht:P.underlying t=some .bool) (m n:Bool) (w:World):(Op.equal t (.bool m) (.bool n)).run P w=.ok (m==n) w:=run_equalIn_bool ht m n w 9999
theorem run_equalIn_nil {t e:TypeId} (ht:P.underlying t=some (.slice e)) (ad:Option Addr) (l m:Nat) (w:World) (d:Nat):(Op.equalIn (d+1) t (.slice ad l m) (.slice none 0 0)).run P w=.ok ad.isNone w:=by
 cases ad<;>simp only [Op.equalIn,Sem.run_bind,run_underlying ht,Result.andThen_ok,Sem.run_pure]<;>rfl
theorem run_equal_nil {t e:TypeId} (ht:P.underlying t=some (.slice e)) (ad:Option Addr) (l m:Nat) (w:World):(Op.equal t (.slice ad l m) (.slice none 0 0)).run P w=.ok ad.isNone w:=run_equalIn_nil ht ad l m w 9999
theorem out_binB (I:InvE C st a E) {op:BinOp} {neg:Bool} {t t':TypeId} {x y:Operand} {x' y':Opd} (ho:o.op=.binOp op t x y t') (hop:(op=.eql∧neg=false)∨(op=.neq∧neg=true)) (ht:P.underlying t=some .bool)
  (hx:cOpd x=some x') (hy:cOpd y=some y') (hK:opK st.ev st.h st.n K (.binB neg x' y')):Out P o C st a E K:=by
 have hrx:=ev_rep I hx
 have hry:=ev_rep I hy
 have e1:∀ m n:Bool,binOp .eql t (.bool m) (.bool n)=(do pure (.bool (← Op.equal t (.bool m) (.bool n)))):=fun _ _=>rfl
 have e2:∀ m n:Bool,binOp .neq t (.bool m) (.bool n)=(do pure (.bool (!(← Op.equal t (.bool m) (.bool n))))):=fun _ _=>rfl
 have run:∀ m n:Bool,a.eval x=.bool m→a.eval y=.bool n→(execOp a.eval o).run P E.w=.ok (.value (.bool (if neg then !(m==n) else m==n))) E.w:=by
  intro m n hrx hry
  rcases hop with ⟨rfl,rfl⟩ | ⟨rfl,rfl⟩ <;>
   simp only [execOp,ho,hrx,hry,Sem.run_bind,run_eqGuard_bool,e1,e2,run_equal_bool ht,Result.andThen_ok,Sem.run_pure]<;>rfl
 simp only [opK] at hK
 split at hK
 ·rename_i m n h1 h2
  rw [h1] at hrx; rw [h2] at hry
  exact Out.same I hK (run _ _ (rep_v hrx) (rep_v hry)) (.v _)
 ·split at hK
  ·rename_i z hz
   obtain ⟨m,n,h1,h2,h3,_⟩:=beqS_spec hz hrx hry
   exact Out.same I hK (by rw [run m n h1 h2,← h3]) (.sy z)
  ·exact hK.elim
theorem rep_slice {p:PV} {u:Value} (h:Rep E p u) (hp:∀ x,p≠.v x) (hd:p≠.dead):(∀ c es,p=.sl c es→∃ ad l m,u=.slice ad l m∧l=es.length∧l≤m∧(ad=none→m=0)∧(c=true→m=l)):=by
 intro c es hp
 subst hp
 cases h with
 | emp _ ad cap hc hn=>exact ⟨ad,0,cap,rfl,rfl,Nat.zero_le _,hn,hc⟩
 | sl _ _ rb off cap sz U hne hS hc hcap hsz0 hsz hm ho h=>exact ⟨_,_,_,rfl,rfl,hcap,by simp,hc⟩
theorem rep_sl {c:Bool} {es:List PV} {u:Value} (h:Rep E (.sl c es) u):∃ ad m,u=.slice ad es.length m∧es.length≤m∧(ad=none→m=0)∧(c=true→m=es.length) :=
 let ⟨ad,l,m,h1,h2,h3,h4,h5⟩:=rep_slice h (by simp) (by simp) c es rfl
 ⟨ad,m,h2 ▸ h1,h2 ▸ h3,h4,fun hc=>(h5 hc).trans h2⟩
theorem rep_own {b s sz off len:Nat} {cap:Option Nat} {u:Value} (h:Rep E (.own b s sz off len cap) u) :
  ∃ en c ad,u=.slice ad len c∧E.σ s=some en∧en.sz=sz∧(c≠0→ad=some ⟨en.rb,en.base+off * en.sz,none⟩)∧(ad=none→c=0)∧len≤c∧(∀ k,cap=some k→c=k)∧off+c≤en.tot∧(cap=none→off+c=en.tot):=by
 cases h with | own _ _ _ _ _ en c ad hb ha hn hlen hc htot hcap=>exact ⟨en,c,ad,rfl,hb,rfl,ha,hn,hlen,hc,htot,hcap⟩
theorem out_nilq (I:InvE C st a E) {op:BinOp} {neg:Bool} {t t' e:TypeId} {x:Operand} {x':Opd} (ho:o.op=.binOp op t x (.const (.slice none 0 0)) t') (hop:(op=.eql∧neg=false)∨(op=.neq∧neg=true)) (ht:P.underlying t=some (.slice e))
  (hx:cOpd x=some x') (hK:opK st.ev st.h st.n K (.nilq neg x')):Out P o C st a E K:=by
 have hrx:=ev_rep I hx
 have run:∀ {ad:Option Addr} {l m:Nat},a.eval x=.slice ad l m→(execOp a.eval o).run P E.w=.ok (.value (.bool (if neg then !ad.isNone else ad.isNone))) E.w:=by
  intro ad l m hu
  have hu2:a.eval (.const (.slice none 0 0))=.slice none 0 0:=rfl
  have e1:binOp .eql t (.slice ad l m) (.slice none 0 0)=(do pure (.bool (← Op.equal t (.slice ad l m) (.slice none 0 0)))):=rfl
  have e2:binOp .neq t (.slice ad l m) (.slice none 0 0)=(do pure (.bool (!(← Op.equal t (.slice ad l m) (.slice none 0 0))))):=rfl
  rcases hop with ⟨rfl,rfl⟩ | ⟨rfl,rfl⟩ <;>
   simp only [execOp,ho,hu,hu2,Sem.run_bind,run_eqGuard_slice,e1,e2,run_equal_nil ht,Result.andThen_ok,Sem.run_pure]<;>rfl
 simp only [opK] at hK
 split at hK
 ·rename_i c es hev
  rw [hev] at hrx
  obtain ⟨ad,m,hu,h1,h2,h3⟩:=rep_sl hrx
  cases had:ad with
  | none =>
   have hes:es=[]:=by have:=h2 had; apply List.eq_nil_of_length_eq_zero; omega
   refine Out.same I (hK.1 hes) (run hu) ?_
   subst had; cases neg<;>exact .v _
  | some x =>
   refine Out.same I hK.2 (run hu) ?_
   subst had; cases neg<;>exact .v _
 ·rename_i hev
  rw [hev] at hrx
  obtain ⟨en,c,ad,hu,_,_,_,hn,hlen,_⟩:=rep_own hrx
  cases had:ad with
  | none =>
   refine Out.same I (hK.1 ?_) (run hu) ?_
   ·have h1:=hn had
    omega
   subst had; cases neg<;>exact .v _
  | some x =>
   refine Out.same I hK.2 (run hu) ?_
   subst had; cases neg<;>exact .v _
 ·exact hK.elim
theorem run_unW {op:UnOp} {t:TypeId} {x:Operand} {m u:Value} (ho:o.op=.unOp op t x) (hx:a.eval x=m) (h:unW op m=some u) (w:World):(execOp a.eval o).run P w=.ok (.value u) w:=by
 unfold unW at h
 split at h
 ·split at h
  ·cases h; simp [execOp,ho,hx,Op.unary]
  ·cases h
 ·split at h
  ·cases h; simp [execOp,ho,hx,Op.unary,Op.intArith]
  ·cases h; simp [execOp,ho,hx,Op.unary,Op.intBits]
  ·cases h
 ·cases h
theorem out_un (I:InvE C st a E) {op:UnOp} {t:TypeId} {x:Operand} {x':Opd} (ho:o.op=.unOp op t x) (hx:cOpd x=some x') (hK:opK st.ev st.h st.n K (.un op x')):Out P o C st a E K:=by
 have hrx:=ev_rep I hx
 simp only [opK] at hK
 split at hK
 ·rename_i u hu
  refine Out.same I hK (run_unW ho rfl ?_ _) (.v u)
  unfold unV at hu
  split at hu
  ·rename_i h1; rw [h1] at hrx; rw [rep_v hrx]; exact hu
  ·rename_i h1; rw [h1] at hrx; rw [rep_v hrx]; exact hu
  ·cases hu
 ·split at hK
  ·rename_i y hy
   obtain ⟨h1,h2⟩:=hK
   have:=un_eval h1
   rw [← rep_toSX hrx hy] at this
   exact Out.same I h2 (run_unW ho rfl this _) (.sy _)
  ·exact hK.elim
theorem out_conv (I:InvE C st a E) {s t:TypeId} {d:TypeDesc} {k:IntKind} {x:Operand} {x':Opd} (ho:o.op=.convert s t x) (hs:P.underlying s=some d) (ht:P.underlying t=some (.int k)) (hx:cOpd x=some x') (hK:opK st.ev st.h st.n K (.conv k x')):Out P o C st a E K:=by
 have hrx:=ev_rep I hx
 simp only [opK] at hK
 have run:∀ k' m,a.eval x=.int k' m→(execOp a.eval o).run P E.w=.ok (.value (.int k (k.wrap m))) E.w:=by
  intro k' m hrx
  simp [execOp,ho,hrx,convert,run_underlying hs,run_underlying ht,Conv.intToInt]
 split at hK
 ·rename_i k' m h1
  rw [h1] at hrx
  exact Out.same I hK (run _ _ (rep_v hrx)) (.v _)
 ·rename_i y h1
  rw [h1] at hrx
  obtain ⟨h2,h3⟩:=hK
  have hy:∃ k',y.ty=some (.i k'):=by
   simp only [SX.ty] at h2
   split at h2
   ·exact ⟨_,by assumption⟩
   ·cases h2
  obtain ⟨k',hy⟩:=hy
  obtain ⟨m,hm⟩:=SX.has hy
  refine Out.same I h3 (u:=(SX.conv k y).eval) ?_ (.sy _)
  rw [run k' m ((rep_sy hrx).trans hm)]
  simp only [SX.eval,hm]
 ·exact hK.elim
theorem out_convS (I:InvE C st a E) {s t:TypeId} {d:TypeDesc} {x:Operand} {x':Opd} (ho:o.op=.convert s t x) (hs:P.underlying s=some d) (ht:P.underlying t=some .string) (hx:cOpd x=some x') (hK:opK st.ev st.h st.n K (.convS x')):Out P o C st a E K:=by
 have hrx:=ev_rep I hx
 simp only [opK] at hK
 have run:∀ m,a.eval x=.string m→(execOp a.eval o).run P E.w=.ok (.value (.string m)) E.w:=by
  intro m hrx
  simp [execOp,ho,hrx,convert,run_underlying hs,run_underlying ht]
 split at hK
 ·rename_i m h1
  rw [h1] at hrx
  exact Out.same I hK (run _ (rep_v hrx)) (.v _)
 ·rename_i y h1
  rw [h1] at hrx
  obtain ⟨h2,h3⟩:=hK
  obtain ⟨m,hm⟩:=SX.has h2
  refine Out.same I h3 (u:=y.eval) ?_ (.sy _)
  rw [run m ((rep_sy hrx).trans hm),hm]
 ·exact hK.elim
theorem out_fn (I:InvE C st a E) {f:FuncId} {fs cs:Array Operand} {fs' cs':List Opd} (ho:o.op=.makeFunc (.func f) fs cs) (hf:cOpds fs=some fs') (hc:cOpds cs=some cs') (hK:opK st.ev st.h st.n K (.fn f fs' cs')):Out P o C st a E K:=by
 obtain ⟨h1,h2⟩:=evs_rep I hf
 obtain ⟨h3,h4⟩:=evs_rep I hc
 refine Out.same I hK (u:=.func (.func f) (fs.map a.eval) (cs.map a.eval)) (by simp [execOp,ho,Instr.makeFunc]) ?_
 refine .clo f _ _ _ _ (by simpa using h1) (fun i c u hc hu=>h2 i c u hc (by simpa using hu)) (by simpa using h3) (fun i c u hc hu=>h4 i c u hc (by simpa using hu))
theorem out_fad (I:InvE C st a E) {t:TypeId} {x:Operand} {x':Opd} {k off:Nat} {fs:Array Field} {f:Field} {i:TypeInfo} (ho:o.op=.fieldAddr t x k) (ht:P.underlying t=some (.struct fs)) (hf:fs[k]?=some f) (hi:P.info? f.type=some i) (h0:i.size≠0) (hoff:f.offset=off)
  (hx:cOpd x=some x') (hK:opK st.ev st.h st.n K (.fad off x')):Out P o C st a E K:=by
 have hrx:=ev_rep I hx
 have run:∀ {rb q:Nat},a.eval x=.pointer (some ⟨rb,q,none⟩)→(execOp a.eval o).run P E.w=.ok (.value (.pointer (some ⟨rb,q+off,none⟩))) E.w:=by
  intro rb q hu
  simp [execOp,ho,hu,Instr.fieldAt,run_underlying ht,hf,Instr.sureAddr,fieldPlace,run_sizeOf hi,h0,add_addr,hoff]
 simp only [opK] at hK
 split at hK
 ·rename_i b s r q hev
  rw [hev] at hrx
  obtain ⟨en,hσ,hu⟩:=rep_optr hrx
  refine Out.same I hK (run hu) ?_
  rw [Nat.add_assoc]
  exact .optr b s r (q+off) en hσ
 ·rename_i cs hev
  rw [hev] at hrx
  obtain ⟨rb,q,U,hu,hS,hm,ho',h⟩:=rep_sptr hrx
  refine Out.same I hK (run hu) ?_
  refine .sptr _ rb (q+off) (fun j=>U (off+j)) hS (fun j c hc=>?_) (fun j=>ho' _) (fun j c hc=>?_)
  ·rw [List.getElem?_drop] at hc
   have:=hm _ c hc
   rw [← this]; congr 2; omega
  ·rw [List.getElem?_drop] at hc; exact h _ c hc
 ·exact hK.elim
theorem run_part {t:TypeId} {g:Bool} {i:TypeInfo} {vs:Array Value} {off:Nat} {w:World} (hg:isAggT P t=some g) (hi:P.info? t=some i) (hle:off+i.size≤vs.size) (h1:g=false→i.size=1) :
  (part t vs off).run P w=.ok (if g then .agg ((List.range i.size).map fun j=>vs.getD (off+j) undef).toArray else vs.getD off undef) w:=by
 unfold part
 simp only [Sem.run_bind,run_isAgg hg,Result.andThen_ok]
 cases g with
 | true =>
  simp only [if_true,Sem.run_bind,run_sizeOf hi,Result.andThen_ok,Sem.run_pure,Result.ok.injEq,and_true,Value.agg.injEq]
  apply Array.ext
  ·simp; omega
  ·intro j hj1 hj2
   simp only [List.size_toArray,List.length_map,List.length_range] at hj2
   simp [Array.getElem_extract]
   rw [Array.getElem?_eq_getElem (by omega)]; rfl
 | false =>
  have:=h1 rfl
  have hlt:off < vs.size:=by omega
  simp [hlt]
def cEq (P:Program):Nat→TypeId→Nat→Option (List (Nat×EK))
 | 0,_,_=>none
 | d+1,t,base=>match P.underlying t with
  | some (.int _)=>some [(base,.i)]
  | some .bool=>some [(base,.b)]
  | some .string=>some [(base,.s)]
  | some (.struct fs)=>if P.stoodInHeld t then none else (fs.toList.mapM fun (f:Field)=>match P.info? f.type,P.info? t,isAggT P f.type with
    | some i,some j,some g=>if f.name = "_" ∨ j.size < f.offset+i.size∨(g=false∧i.size≠1) then none else cEq P d f.type (base+f.offset)
    | _,_,_=>none).map List.flatten
  | _=>none
def valAt (g:Bool) (size:Nat) (vs:Array Value) (o:Nat):Value:=if g then .agg ((List.range size).map fun j=>vs.getD (o+j) undef).toArray else vs.getD o undef
theorem eqV_append (cs ds:List PV):∀ (a b:List (Nat×EK)) (r:Bool),eqV cs ds (a++b)=some r→∃ x y,eqV cs ds a=some x∧eqV cs ds b=some y∧r=(x&&y)
 | [],b,r,h=>⟨true,r,rfl,h,rfl⟩
 | (o,k)::a,b,r,h=>by
  simp only [List.cons_append,eqV] at h
  split at h
  ·rename_i u v h1 h2
   cases h
   obtain ⟨x,y,h3,h4,rfl⟩:=eqV_append cs ds a b v h2
   exact ⟨u&&x,y,by simp only [eqV,h1,h3],h4,by rw [Bool.and_assoc]⟩
  ·cases h
theorem eq_leaf {k:EK} {p q:PV} {u v:Value} {r:Bool} (hp:Rep E p u) (hq:Rep E q v) (h:eqKind k p q=some r) :
  (k=.i∧∃ kk a b,u=.int kk a∧v=.int kk b∧r=(a==b))∨(k=.b∧∃ a b,u=.bool a∧v=.bool b∧r=(a==b))∨(k=.s∧∃ a b:ByteArray,u=.string a∧v=.string b∧r=(a.toList==b.toList)):=by
 unfold eqKind at h
 split at h
 ·split at h
  ·rename_i kk a kk' b hk
   cases h
   subst hk
   exact .inl ⟨rfl,kk,a,b,rep_v hp,rep_v hq,rfl⟩
  ·cases h
 ·cases h; exact .inr (.inl ⟨rfl,_,_,rep_v hp,rep_v hq,rfl⟩)
 ·cases h; exact .inr (.inr ⟨rfl,_,_,rep_v hp,rep_v hq,rfl⟩)
 ·cases h
theorem run_eq_plan {cs ds:List PV} {xs ys:Array Value} (hx:∀ o,Rep E (cs.getD o .dead) (xs.getD o undef)) (hy:∀ o,Rep E (ds.getD o .dead) (ys.getD o undef)) (w:World) (e:Nat) :
  ∀ (d:Nat) (t:TypeId) (base:Nat) (plan:List (Nat×EK)) (r g:Bool) (i:TypeInfo),cEq P d t base=some plan→isAggT P t=some g→P.info? t=some i→eqV cs ds plan=some r →
   (Op.equalIn (d+e) t (valAt g i.size xs base) (valAt g i.size ys base)).run P w=.ok r w
 | 0,t,base,plan,r,g,i,hc,_,_,_=>by cases hc
 | d+1,t,base,plan,r,g,i,hc,hg,hi,hr=>by
  have e1:d+1+e=(d+e)+1:=by omega
  have leaf:∀ k,plan=[(base,k)]→g=false→(∀ u v r,((k=.i∧∃ kk a b,u=.int kk a∧v=.int kk b∧r=(a==b))∨(k=.b∧∃ a b,u=.bool a∧v=.bool b∧r=(a==b))∨(k=.s∧∃ a b:ByteArray,u=.string a∧v=.string b∧r=(a.toList==b.toList)))→(Op.equalIn (d+1+e) t u v).run P w=.ok r w) →
    (Op.equalIn (d+1+e) t (valAt g i.size xs base) (valAt g i.size ys base)).run P w=.ok r w:=by
   intro k hp hgf hrun
   subst hp hgf
   simp only [eqV] at hr
   split at hr
   ·rename_i x y h1 h2
    cases h2; cases hr
    simp only [valAt,Bool.and_true,Bool.false_eq_true,if_false]
    exact hrun _ _ _ (eq_leaf (hx base) (hy base) h1)
   ·cases hr
  unfold cEq at hc
  unfold isAggT at hg
  split at hc
  ·rename_i k hu
   cases hc
   rw [hu] at hg
   refine leaf .i rfl (by simpa using hg.symm) ?_
   rintro u v r (⟨_,kk,a,b,rfl,rfl,rfl⟩ | ⟨h,_⟩ | ⟨h,_⟩)
   ·rw [e1]; exact run_equalIn_int w _ t _ k a b hu
   ·cases h
   ·cases h
  ·rename_i hu
   cases hc
   rw [hu] at hg
   refine leaf .b rfl (by simpa using hg.symm) ?_
   rintro u v r (⟨h,_⟩ | ⟨_,a,b,rfl,rfl,rfl⟩ | ⟨h,_⟩)
   ·cases h
   ·rw [e1]; exact run_equalIn_bool' w _ t a b hu
   ·cases h
  ·rename_i hu
   cases hc
   rw [hu] at hg
   refine leaf .s rfl (by simpa using hg.symm) ?_
   rintro u v r (⟨h,_⟩ | ⟨h,_⟩ | ⟨_,a,b,rfl,rfl,rfl⟩)
   ·cases h
   ·cases h
   ·rw [e1]; exact run_equalIn_string w _ t a b hu
  ·rename_i fs hu
   rw [hu] at hg
   have hg:g=true:=by simpa using hg.symm
   subst hg
   split at hc
   ·cases hc
   ·rename_i hst
    simp only [Option.map_eq_some_iff] at hc
    obtain ⟨plans,hm,rfl⟩:=hc
    have hfo:P.fieldsOf t=fs:=by simp [Program.fieldsOf,hu]
    rw [e1]
    simp only [valAt,if_true]
    rw [run_equalIn_agg w (d+e) t _ _ (by rw [hfo]; exact hu) (by simpa using hst),hfo]
    clear hfo hu hst leaf
    generalize fs.toList=l at hm
    induction l generalizing plans r with
    | nil =>
     simp at hm; subst hm
     simp only [List.flatten_nil,eqV] at hr
     cases hr
     rfl
    | cons f l ih =>
     rw [List.mapM_cons] at hm
     simp only [Option.bind_eq_bind,Option.bind_eq_some_iff,Option.pure_def,Option.some.injEq] at hm
     obtain ⟨p1,h1,rest,h2,rfl⟩:=hm
     rw [List.flatten_cons] at hr
     obtain ⟨x,y,hx1,hy1,rfl⟩:=eqV_append cs ds _ _ _ hr
     split at h1
     ·rename_i fi ti fg q1 q2 q3
      rw [hi] at q2; cases q2
      split at h1
      ·cases h1
      ·rename_i hn
       simp only [not_or,not_and,Nat.not_lt] at hn
       obtain ⟨n1,n2,n3⟩:=hn
       have one:fg=false→fi.size=1:=fun h=>by simpa using n3 h
       have pt:∀ zs:Array Value,(part f.type ((List.range i.size).map fun j=>zs.getD (base+j) undef).toArray f.offset).run P w=.ok (valAt fg fi.size zs (base+f.offset)) w:=by
        intro zs
        rw [run_part q3 q1 (by simp; omega) one]
        congr 1
        unfold valAt
        have get:∀ o,o < i.size→((List.range i.size).map fun j=>zs.getD (base+j) undef).toArray.getD o undef=zs.getD (base+o) undef:=by
         intro o ho
         simp [Array.getD,ho]
        cases fg with
        | true =>
         simp only [if_true,Value.agg.injEq]
         congr 1
         apply List.map_congr_left
         intro j hj
         rw [List.mem_range] at hj
         rw [get _ (by omega),Nat.add_assoc]
        | false =>
         have:=one rfl
         simp only [Bool.false_eq_true,if_false]
         exact get _ (by omega)
       simp only [Op.eqFields,if_pos n1,Sem.run_bind,pt,Result.andThen_ok]
       rw [run_eq_plan hx hy w e d f.type _ p1 x fg fi h1 q3 q1 hx1]
       simp only [Result.andThen_ok]
       cases x with
       | true =>
        simp only [Bool.not_true,Bool.false_eq_true,if_false,Bool.true_and]
        exact ih _ _ hy1 h2
       | false=>simp
     ·cases h1
  ·cases hc
theorem de_agg {cs:List PV} {xs:Array Value} (hk:∀ (i:Nat) (c:PV) (u:Value),cs[i]?=some c→xs[i]?=some u→Rep E c u):∀ (i:Nat) (c:PV) (u:Value),(cs.map de)[i]?=some c→xs[i]?=some u→Rep E c u:=by
 intro i c u hc hu
 simp only [List.getElem?_map,Option.map_eq_some_iff] at hc
 obtain ⟨c',h1,rfl⟩:=hc
 exact de_rep (hk i c' u h1 hu)
theorem eqKind_de {k:EK} {p q:PV} {r:Bool} (h:eqKind k p q=some r):eqKind k (de p) (de q)=some r:=by
 unfold eqKind at h
 split at h<;>first | exact h | cases h
theorem de_toSX {p:PV} {x:SX} (h:toSX p=some x):de p=.v x.eval:=by
 unfold toSX at h
 split at h<;>first | (cases h; rfl) | cases h
theorem eqKindS_spec {k:EK} {p q:PV} {x:SX} (h:eqKindS k p q=some x):∃ r,eqKind k (de p) (de q)=some r∧x.eval=.bool r∧x.ty=some .b:=by
 unfold eqKindS at h
 split at h
 ·rename_i a b ha hb
  rw [de_toSX ha,de_toSX hb]
  unfold eqKindX at h
  split at h
  ·rename_i k1 k2 h1 h2
   split at h
   ·rename_i hk
    subst hk
    cases h
    obtain ⟨m,hm⟩:=SX.has h1
    obtain ⟨n,hn⟩:=SX.has h2
    refine ⟨m==n,by rw [hm,hn]; simp [eqKind],by simp [SX.eval,hm,hn,binW,arith],by simp [SX.ty,h1,h2,tyBin]⟩
   ·cases h
  ·rename_i h1 h2
   cases h
   obtain ⟨m,hm⟩:=SX.has h1
   obtain ⟨n,hn⟩:=SX.has h2
   refine ⟨m.toList==n.toList,by rw [hm,hn]; simp [eqKind],by simp [SX.eval,hm,hn,binW,strOp],by simp [SX.ty,h1,h2,tyBin]⟩
  ·rename_i h1 h2
   cases h
   obtain ⟨m,hm⟩:=SX.has h1
   obtain ⟨n,hn⟩:=SX.has h2
   refine ⟨m==n,by rw [hm,hn]; simp [eqKind],by simp [SX.eval,hm,hn],by simp [SX.ty,h1,h2]⟩
  ·cases h
 ·cases h
theorem getD_de (cs:List PV) (o:Nat):(cs.map de).getD o .dead=de (cs.getD o .dead):=by
 simp only [List.getD_eq_getElem?_getD,List.getElem?_map]
 cases cs[o]?<;>rfl
theorem eqS_spec {cs ds:List PV}:∀ {plan:List (Nat×EK)} {x:SX},eqS cs ds plan=some x→∃ r,eqV (cs.map de) (ds.map de) plan=some r∧x.eval=.bool r∧x.ty=some .b
 | [],x,h=>by cases h; exact ⟨true,rfl,rfl,rfl⟩
 | (o,k)::plan,x,h=>by
  simp only [eqS] at h
  simp only [eqV,getD_de]
  split at h
  ·rename_i h1
   obtain ⟨r,h2,h3,h4⟩:=eqS_spec h
   exact ⟨r,by rw [eqKind_de h1,h2]; simp,h3,h4⟩
  ·rename_i h1
   simp only [Option.map_eq_some_iff] at h
   obtain ⟨y,h2,rfl⟩:=h
   obtain ⟨r,h2,h3,h4⟩:=eqS_spec h2
   exact ⟨false,by rw [eqKind_de h1,h2]; simp,rfl,rfl⟩
  ·split at h
   ·rename_i z h1 h2
    cases h
    obtain ⟨r,g1,g2,g3⟩:=eqKindS_spec h1
    obtain ⟨r2,g4,g5,g6⟩:=eqS_spec h2
    simp only [SX.eval,Value.bool.injEq] at g5
    subst g5
    exact ⟨r,by rw [g1,g4]; simp,g2,g3⟩
   ·rename_i z h1 h2
    cases h
    obtain ⟨r,g1,g2,g3⟩:=eqKindS_spec h1
    obtain ⟨r2,g4,g5,g6⟩:=eqS_spec h2
    simp only [SX.eval,Value.bool.injEq] at g5
    subst g5
    exact ⟨false,by rw [g1,g4]; simp,rfl,rfl⟩
   ·rename_i z y _ _ h1 h2
    obtain ⟨rfl,h3⟩:=guardSX_spec h
    obtain ⟨r,g1,g2,g3⟩:=eqKindS_spec h1
    obtain ⟨r2,g4,g5,g6⟩:=eqS_spec h2
    exact ⟨r&&r2,by rw [g1,g4],by simp [SX.eval,g2,g5],by simp [SX.ty,g3,g6]⟩
   ·cases h
theorem eqSs_spec {sz:Nat} {neg:Bool} {plan:List (Nat×EK)} {cs ds:List PV} {x:SX} (h:eqSs sz neg plan cs ds=some x):(cs.length=sz∧ds.length=sz)∧∃ r,eqV (cs.map de) (ds.map de) plan=some r∧x.eval=.bool (if neg then !r else r):=by
 unfold eqSs at h
 split at h
 ·rename_i hl
  refine ⟨hl,?_⟩
  split at h
  ·rename_i y hy
   obtain ⟨r,h1,h2,h3⟩:=eqS_spec hy
   refine ⟨r,h1,?_⟩
   split at h
   ·rename_i hn
    obtain ⟨rfl,_⟩:=guardSX_spec h
    subst hn
    simp [SX.eval,h2,unW]
   ·rename_i hn
    obtain ⟨rfl,_⟩:=guardSX_spec h
    rw [if_neg hn]; exact h2
  ·cases h
 ·cases h
theorem out_eqA (I:InvE C st a E) {op:BinOp} {neg:Bool} {t t':TypeId} {x y:Operand} {x' y':Opd} {fs:Array Field} {plan:List (Nat×EK)} {i:TypeInfo} (ho:o.op=.binOp op t x y t') (hop:(op=.eql∧neg=false)∨(op=.neq∧neg=true)) (ht:P.underlying t=some (.struct fs))
  (hi:P.info? t=some i) (hp:cEq P 20 t 0=some plan) (hgu:P.eqGuardType P.depth t=false)
  (hx:cOpd x=some x') (hy:cOpd y=some y') (hK:opK st.ev st.h st.n K (.eqA neg i.size plan x' y')):Out P o C st a E K:=by
 have hrx:=ev_rep I hx
 have hry:=ev_rep I hy
 simp only [opK] at hK
 split at hK
 ·rename_i cs ds hcs hds
  rw [hcs] at hrx
  rw [hds] at hry
  obtain ⟨xs,hu,hsx,_,kx⟩:=rep_agg hrx
  obtain ⟨ys,hv,hsy,_,ky⟩:=rep_agg hry
  have all:∀ {cs:List PV} {xs:Array Value},xs.size=cs.length→(∀ (i:Nat) (c:PV) (u:Value),cs[i]?=some c→xs[i]?=some u→Rep E c u)→∀ o,Rep E (cs.getD o .dead) (xs.getD o undef):=by
   intro cs xs hs hk o
   by_cases ho:o < cs.length
   ·have h1:cs[o]?=some (cs.getD o .dead):=by simp [ho]
    have h2:xs[o]?=some (xs.getD o undef):=by
     have:o < xs.size:=by omega
     simp [this]
    exact hk o _ _ h1 h2
   ·have:cs.getD o .dead=.dead:=by simp [ho]
    rw [this]; exact .dead _
  have whole:∀ {cs:List PV} {xs:Array Value},xs.size=cs.length→cs.length=i.size→valAt true i.size xs 0=.agg xs:=by
   intro cs xs h1 h2
   simp only [valAt,if_true,Value.agg.injEq]
   apply Array.ext
   ·simp; omega
   ·intro j h3 h4
    simp [h4]
  have hg:isAggT P t=some true:=by simp [isAggT,ht]
  have fin:∀ (cs' ds':List PV) (r:Bool),xs.size=cs'.length→ys.size=ds'.length→(∀ (i:Nat) (c:PV) (u:Value),cs'[i]?=some c→xs[i]?=some u→Rep E c u)→(∀ (i:Nat) (c:PV) (u:Value),ds'[i]?=some c→ys[i]?=some u→Rep E c u)→cs'.length=i.size→ds'.length=i.size→eqV cs' ds' plan=some r →
    (execOp a.eval o).run P E.w=.ok (.value (.bool (if neg then !r else r))) E.w:=by
   intro cs' ds' r hs1 hs2 hk1 hk2 hl1 hl2 hr
   have run:=run_eq_plan (P:=P) (all hs1 hk1) (all hs2 hk2) E.w 9980 20 t 0 plan r true i hp hg hi hr
   rw [whole hs1 hl1,whole hs2 hl2] at run
   rcases hop with ⟨rfl,rfl⟩ | ⟨rfl,rfl⟩
   ·simp only [execOp,ho,hu,hv,Sem.run_bind,run_eqGuard_agg E.w .eql t x y xs ys hgu,Result.andThen_ok,run_eql_struct,run,Sem.run_pure]
    rfl
   ·simp only [execOp,ho,hu,hv,Sem.run_bind,run_eqGuard_agg E.w .neq t x y xs ys hgu,Result.andThen_ok,run_neq_struct,run,Sem.run_pure]
    rfl
  split at hK
  ·rename_i r hr
   unfold eqVs at hr
   split at hr
   ·rename_i hlen
    exact Out.same I hK (fin cs ds r hsx hsy kx ky hlen.1 hlen.2 hr) (.v _)
   ·cases hr
  ·split at hK
   ·rename_i z hz
    obtain ⟨hlen,r,hr,he⟩:=eqSs_spec hz
    refine Out.same I hK (u:=z.eval) ?_ (.sy z)
    rw [fin (cs.map de) (ds.map de) r (by simpa using hsx) (by simpa using hsy) (de_agg kx) (de_agg ky) (by simpa using hlen.1) (by simpa using hlen.2) hr,he]
   ·exact hK.elim
 ·exact hK.elim
theorem ldv_agg {g:Bool} {m off:Nat} {cs:List PV} {p:PV} {vs:Array Value} (hl:ldv g m (.agg cs) off=some p) (hsz:vs.size=cs.length) (ho:∀ (i:Nat) (u:Value),vs[i]?=some u→u.oneCell'=true)
  (h:∀ (i:Nat) (c:PV) (u:Value),cs[i]?=some c→vs[i]?=some u→Rep E c u):off+m≤vs.size∧(g=false→m=1)∧Rep E p (if g then .agg ((List.range m).map fun j=>vs.getD (off+j) undef).toArray else vs.getD off undef):=by
 have key:=ldv_rep (E:=E) (X:=fun j=>if j < vs.size then vs.getD j undef else .int .i64 0) hl (fun j c hc=>by
  have hj:j < vs.size:=by have:=(List.getElem?_eq_some_iff.1 hc).1; simp only [PV.cells] at this; omega
  simp only [hj,if_true]
  exact h j c _ hc (by simp [hj])) (fun j=>by
  split
  ·rename_i hj
   exact ho j _ (by simp [hj])
  ·rfl)
 obtain ⟨k1,k2,k3⟩:=key
 simp only [PV.cells] at k1
 refine ⟨by omega,k2,?_⟩
 cases g with
 | true =>
  simp only [if_true] at k3 ⊢
  have:(List.map (fun j=>if off+j < vs.size then vs.getD (off+j) undef else .int .i64 0) (List.range m))=List.map (fun j=>vs.getD (off+j) undef) (List.range m):=by
   apply List.map_congr_left
   intro j hj
   rw [List.mem_range] at hj
   rw [if_pos (by omega)]
  rw [this] at k3; exact k3
 | false =>
  have:=k2 rfl
  simp only [Bool.false_eq_true,if_false] at k3 ⊢
  rwa [if_pos (by omega)] at k3
theorem out_fld (I:InvE C st a E) {t:TypeId} {x:Operand} {x':Opd} {k off:Nat} {g:Bool} {fs:Array Field} {f:Field} {i:TypeInfo} (ho:o.op=.field t x k) (ht:P.underlying t=some (.struct fs)) (hf:fs[k]?=some f) (hi:P.info? f.type=some i) (hg:isAggT P f.type=some g) (hoff:f.offset=off)
  (hx:cOpd x=some x') (hK:opK st.ev st.h st.n K (.fld g off i.size x')):Out P o C st a E K:=by
 have hrx:=ev_rep I hx
 simp only [opK] at hK
 split at hK
 ·rename_i cs hev
  rw [hev] at hrx
  obtain ⟨vs,hu,hsz,ho',h⟩:=rep_agg hrx
  obtain ⟨_,p,h1,h2⟩:=hK
  obtain ⟨l1,l2,l3⟩:=ldv_agg (E:=E) h1 hsz ho' h
  refine Out.same I h2 ?_ l3
  simp only [execOp,ho,hu,Instr.field,asAgg,Sem.run_bind,run_underlying ht,Result.andThen_ok,hf,Sem.run_pure,hoff]
  rw [run_part hg hi l1 l2]; rfl
 ·exact hK.elim
theorem out_ext (I:InvE C st a E) {x:Operand} {x':Opd} {k:Nat} (ho:o.op=.extract x k) (hx:cOpd x=some x') (hK:opK st.ev st.h st.n K (.ext x' k)):Out P o C st a E K:=by
 have hrx:=ev_rep I hx
 simp only [opK] at hK
 split at hK
 ·rename_i cs hev
  rw [hev] at hrx
  obtain ⟨c,hc,hk⟩:=hK
  generalize hu:a.eval x=u at hrx
  cases hrx with
  | tup _ vs hl h =>
   have hlt:k < vs.size:=by have:=(List.getElem?_eq_some_iff.1 hc).1; omega
   refine Out.same I hk (u:=vs[k]) ?_ (h k c _ hc (by simp [hlt]))
   simp [execOp,ho,hu,Instr.extract,hlt]
 ·exact hK.elim
theorem out_len (I:InvE C st a E) {t e ty:TypeId} {x:Operand} {x':Opd} {cl:Call} (ho:o.op=.call cl) (hc:cl.callee=.builtin .len) (ha:cl.args=#[x]) (hat:cl.argTypes=#[t]) (ht:P.underlying t=some (.slice e)) (hx:cOpd x=some x') (hK:opK st.ev st.h st.n K (.len x')):Out P o C st a E K:=by
 have hrx:=ev_rep I hx
 have run:∀ {ad:Option Addr} {l m:Nat},a.eval x=.slice ad l m→(execOp a.eval o).run P E.w=.ok (.value (.int .i64 l)) E.w:=by
  intro ad l m hu
  simp [execOp,ho,resolve,hc,ha,hat,hu,invoke,builtin,Builtin.len_,run_underlying ht,goInt]
 simp only [opK] at hK
 split at hK
 ·rename_i c es hev
  rw [hev] at hrx
  obtain ⟨ad,m,hu,_⟩:=rep_sl hrx
  exact Out.same I hK (run hu) (.v _)
 ·rename_i hev
  rw [hev] at hrx
  obtain ⟨en,c,ad,hu,_⟩:=rep_own hrx
  exact Out.same I hK (run hu) (.v _)
 ·exact hK.elim
theorem out_cap (I:InvE C st a E) {t e ty:TypeId} {x:Operand} {x':Opd} {cl:Call} (ho:o.op=.call cl) (hc:cl.callee=.builtin .cap) (ha:cl.args=#[x]) (hat:cl.argTypes=#[t]) (ht:P.underlying t=some (.slice e)) (hx:cOpd x=some x') (hK:opK st.ev st.h st.n K (.cap x')):Out P o C st a E K:=by
 have hrx:=ev_rep I hx
 have run:∀ {ad:Option Addr} {l m:Nat},a.eval x=.slice ad l m→(execOp a.eval o).run P E.w=.ok (.value (.int .i64 m)) E.w:=by
  intro ad l m hu
  simp [execOp,ho,resolve,hc,ha,hat,hu,invoke,builtin,Builtin.cap_,run_underlying ht,goInt]
 simp only [opK] at hK
 split at hK
 ·rename_i es hev
  rw [hev] at hrx
  obtain ⟨ad,m,hu,h1,h2,h3⟩:=rep_sl hrx
  have:=h3 rfl; subst this
  exact Out.same I hK (run hu) (.v _)
 ·rename_i es hev
  rw [hev] at hrx
  obtain ⟨ad,m,hu,h1,h2,h3⟩:=rep_sl hrx
  exact Out.same I (hK m h1) (run hu) (.v _)
 ·rename_i hev
  rw [hev] at hrx
  obtain ⟨en,c,ad,hu,_,_,_,_,_,h,_⟩:=rep_own hrx
  have:=h _ rfl; subst this
  exact Out.same I hK (run hu) (.v _)
 ·rename_i hev
  rw [hev] at hrx
  obtain ⟨en,c,ad,hu,_,_,_,_,h,_⟩:=rep_own hrx
  exact Out.same I (hK c h) (run hu) (.v _)
 ·exact hK.elim
theorem out_lenS (I:InvE C st a E) {t ty:TypeId} {x:Operand} {x':Opd} {cl:Call} (ho:o.op=.call cl) (hc:cl.callee=.builtin .len) (ha:cl.args=#[x]) (hat:cl.argTypes=#[t]) (ht:P.underlying t=some .string) (hx:cOpd x=some x') (hK:opK st.ev st.h st.n K (.lenS x')):Out P o C st a E K:=by
 have hrx:=ev_rep I hx
 simp only [opK] at hK
 have run:∀ s,a.eval x=.string s→(execOp a.eval o).run P E.w=.ok (.value (.int .i64 s.size)) E.w:=by
  intro s hu
  simp [execOp,ho,resolve,hc,ha,hat,hu,invoke,builtin,Builtin.len_,run_underlying ht,goInt]
 split at hK
 ·rename_i s hev
  rw [hev] at hrx
  exact Out.same I hK (run _ (rep_v hrx)) (.v _)
 ·rename_i y hev
  rw [hev] at hrx
  obtain ⟨h2,h3⟩:=hK
  have hy:y.ty=some .s:=by
   simp only [SX.ty] at h2
   split at h2
   ·assumption
   ·cases h2
  obtain ⟨m,hm⟩:=SX.has hy
  refine Out.same I h3 (u:=(SX.len y).eval) ?_ (.sy _)
  rw [run m ((rep_sy hrx).trans hm)]
  simp only [SX.eval,hm]
 ·exact hK.elim
end Go.Proofs.Yticljphbbdnomaa.VL
