import Derived.Test.YticljphbbdnomaaW1Vq
import Derived.Scope
namespace Go.Proofs.Yticljphbbdnomaa.VL
open Go
set_option linter.unusedVariables false
set_option linter.unusedSimpArgs false
set_option linter.unusedSectionVars false
variable [Val]
inductive ICode where
 | skip
 | reg (draw:Bool) (ops:List IOper)
 | dr (un:List (Nat×Nat)) (ops:List IOper)
 | seq (a b:ICode)
 | cond (c:Opd) (a b:ICode)
 | blk (id:Nat) (b:ICode)
 | loop (b:ICode)
 | exit (id:Nat)
 | ret
 | bad
 deriving Inhabited
def findFl (ops:List Oper):Option (Nat×Nat×Nat) :=
 ops.zipIdx.findSome? fun a=>match a.1.op,a.1.dst with
  | .alloc _,some d=>ops.zipIdx.findSome? fun w=>match w.1.op with
   | .store _ (.tmp d') _=>if d'=d then some (a.2,w.2,d) else none
   | _=>none
  | _,_=>none
def dstNot (d iA iW:Nat) (ops:List Oper):Bool:=ops.zipIdx.all fun x=>x.2==iA || x.2==iW || (match x.1.dst with | some e=>e != d | none=>true)
def isNoneB {α:Type}:Option α→Bool
 | none=>true
 | some _=>false
def cFloat (P:Program) (slot:Option Nat→Nat) (ops:Array Oper) (iops:List IOper):Option (List IOper) :=
 (findFl ops.toList).bind fun f=>ops.toList[f.1]?.bind fun oA=>ops.toList[f.2.1]?.bind fun oW=>match oA.op,oW.op with
  | .alloc t,.store t' (.tmp d') x=>(cOpd x).bind fun y=>(P.info? t).bind fun i0=>i0.zero.bind fun z=>(P.info? t').bind fun i1 =>
   if decide (d'=f.2.2)&&decide (oA.dst=some f.2.2)&&isNoneB oA.guard&&isNoneB oW.dst&&isNoneB oW.guard&&(preds oW).contains f.1&&f.1 != f.2.1&&decide (z.cells.size=i1.size)&&dstNot f.2.2 f.1 f.2.1 ops.toList &&
    drawOk ops.toList ((iops.set f.1 ⟨some f.2.2,.mov (.c .dead),none⟩).set f.2.1 ⟨some f.2.2,.box (slot (some f.2.2)) i1.size y,none⟩) then
    some ((iops.set f.1 ⟨some f.2.2,.mov (.c .dead),none⟩).set f.2.1 ⟨some f.2.2,.box (slot (some f.2.2)) i1.size y,none⟩) else none
  | _,_=>none
def cDraw (P:Program) (slot:Option Nat→Nat) (ops:Array Oper) (iops:List IOper):ICode :=
 if drawOk ops.toList iops&&(unOf ops.toList iops).isEmpty&&iops.all (fun x=>!x.op.isCall) then .reg true iops
 else if drawOk ops.toList (iops.map IOper.g) then .dr (unOf ops.toList (iops.map IOper.g)) (iops.map IOper.g)
 else match cFloat P slot ops (iops.map IOper.g) with
  | some iops'=>.dr (unOf ops.toList iops') iops'
  | none=>if drawOk ops.toList iops then .dr (unOf ops.toList iops) iops
   else match cFloat P slot ops iops with
    | some iops'=>.dr (unOf ops.toList iops') iops'
    | none=>.bad
def cCode (P:Program) (slot:Option Nat→Nat):Code→Option ICode
 | .skip=>some .skip
 | .region _ ops draw=>(ops.toList.mapM (cOper P slot ops)).bind fun iops=>if draw=true then some (cDraw P slot ops iops) else some (.reg false iops)
 | .seq a b=>(cCode P slot a).bind fun a=>(cCode P slot b).map fun b=>.seq a b
 | .cond c a b=>(cOpd c).bind fun c=>(cCode P slot a).bind fun a=>(cCode P slot b).map fun b=>.cond c a b
 | .block id b=>(cCode P slot b).map fun b=>.blk id b
 | .loop b=>(cCode P slot b).map fun b=>.loop b
 | .exit id=>some (.exit id)
 | .ret=>some .ret
 | .scope b=>cCode P slot b
 | .label _=>some .skip
 | _=>some .bad
inductive IExit where
 | normal
 | exit (id:Nat)
 | ret
def Weak (st st':St):Prop:=∀ (C:Ctx) (a:Act) (E:Env),InvE C st a E→∃ E',E'.w=E.w∧InvE C st' a E'
theorem Weak.refl (st:St):Weak st st:=fun C a E I=>⟨E,rfl,I⟩
theorem Weak.trans {x y z:St} (h:Weak x y) (k:Weak y z):Weak x z:=fun C a E I =>
 let ⟨E1,h1,I1⟩:=h C a E I
 let ⟨E2,h2,I2⟩:=k C a E1 I1
 ⟨E2,h2.trans h1,I2⟩
def thenQ (K:St→Prop) (Q:IExit→St→Prop):IExit→St→Prop
 | .normal,st=>K st
 | e,st=>Q e st
def blkQ (id:Nat) (Q:IExit→St→Prop):IExit→St→Prop
 | .exit i,st=>if i=id then Q .normal st else Q (.exit i) st
 | e,st=>Q e st
def icWp (P:Program):ICode→(IExit→St→Prop)→St→Prop
 | .skip,Q,st=>Q .normal st
 | .reg d ops,Q,st=>opsK P d (Q .normal) ops st
 | .dr un ops,Q,st=>∃ S:Nat→St,S 0=st∧Q .normal (S ops.length)∧(∀ (i:Nat) (io:IOper),ops[i]?=some io→Stp P io (S i) (S (i+1)))∧Keeps ops un S∧∀ io ∈ ops,∀ d,io.dst=some d→d < st.t.length
 | .seq a b,Q,st=>icWp P a (thenQ (icWp P b Q) Q) st
 | .cond c a b,Q,st=>match st.ev c with | .v (.bool t)=>(t=true→icWp P a Q st)∧(t=false→icWp P b Q st) | .sy x=>x.ty=some .b∧(x.eval=.bool true→icWp P a Q st)∧(x.eval=.bool false→icWp P b Q st) | _=>False
 | .blk id b,Q,st=>icWp P b (blkQ id Q) st
 | .loop b,Q,st=>∃ (I:Nat→St→Prop) (n:Nat),(∃ st0,Weak st st0∧I n st0)∧∀ n st,I n st→icWp P b (thenQ (fun st'=>∃ m,m < n∧∃ st0,Weak st' st0∧I m st0) Q) st
 | .exit id,Q,st=>Q (.exit id) st
 | .ret,Q,st=>Q .ret st
 | .bad,Q,st=>False
def IExit.to:IExit→Exit
 | .normal=>.normal
 | .exit id=>.exit id
 | .ret=>.ret
def Back (C:Ctx) (Q:IExit→St→Prop):Exit→Act→World→Prop:=fun e a w=>∃ (i:IExit) (st:St) (E:Env),i.to=e∧E.w=w∧InvE C st a E∧Q i st
theorem float_sound {P:Program} {C:Ctx} {st:St} {a:Act} {E:Env} {id:Nat} {ops:Array Oper} {slot:Option Nat→Nat} {iops iops':List IOper} {Q:IExit→St→Prop} {Q':Exit→Act→World→Prop} (hm:P.follows .mixedOrders=true)
  (hlen:iops.length=ops.toList.length) (hget:∀ (i:Nat) (o:Oper) (io:IOper),ops.toList[i]?=some o→iops[i]?=some io→∃ io0,cOper P slot ops o=some io0∧(io=io0∨io=io0.g)) (hf:cFloat P slot ops iops=some iops')
  (hQ:∀ st' a' E',InvE C st' a' E'→Q .normal st'→Q' .normal a' E'.w) (I:InvE C st a E) (hK:icWp P (.dr (unOf ops.toList iops') iops') Q st):(Code.region id ops true).wp P Q' a E.w:=by
 obtain ⟨S,s0,sQ,hS,hk,hd⟩:=hK
 unfold cFloat at hf
 simp only [Option.bind_eq_some_iff] at hf
 obtain ⟨⟨iA,iW,d⟩,_,oA,hA,oW,hW,hf⟩:=hf
 split at hf
 ·rename_i t t' d' x hoA hoW
  simp only [Option.bind_eq_some_iff] at hf
  obtain ⟨y,hx,i0,hi,z,hz,i1,hi',hf⟩:=hf
  split at hf
  ·rename_i hcond
   simp only [Bool.and_eq_true,decide_eq_true_eq,bne_iff_ne,ne_eq,List.contains_iff_mem] at hcond
   obtain ⟨⟨⟨⟨⟨⟨⟨⟨⟨q1,q2⟩,q3⟩,q4⟩,q5⟩,q6⟩,q7⟩,q8⟩,q9⟩,q10⟩:=hcond
   simp only [Option.some.injEq] at hf
   subst hf q1
   have none_of:∀ {α:Type} {o:Option α},isNoneB o=true→o=none:=by intro α o h; cases o<;>first | rfl | cases h
   have lA:iA < iops.length:=by rw [hlen]; exact (List.getElem?_eq_some_iff.1 hA).1
   have lW:iW < iops.length:=by rw [hlen]; exact (List.getElem?_eq_some_iff.1 hW).1
   refine drawn_float hm (iA:=iA) (iW:=iW) (slot:=slot) (s:=slot (some d')) hA hoA q2 (none_of q3) hW hoW (none_of q4) (none_of q5) q6 q7 hx hi hz q8 hi' rfl (by simpa using hlen) ?_ ?_ ?_ q10 hQ I ?_ s0 sQ hS hk
   ·rw [List.getElem?_set_ne (Ne.symm q7),List.getElem?_set_self lA]
   ·rw [List.getElem?_set_self (by simpa using lW)]
   ·intro i o io ho hio hne1 hne2
    rw [List.getElem?_set_ne (Ne.symm hne2),List.getElem?_set_ne (Ne.symm hne1)] at hio
    refine ⟨hget i o io ho hio,fun hdd=>?_⟩
    have:=List.all_eq_true.1 q9 (o,i) (by rw [List.mem_zipIdx_iff_getElem?]; exact ho)
    simp [hdd] at this
    rcases this with h | h
    ·exact hne1 h
    ·exact hne2 h
   ·refine hd ⟨some d',.mov (.c .dead),none⟩ ?_ d' rfl
    refine List.mem_of_getElem? (i:=iA) ?_
    rw [List.getElem?_set_ne (Ne.symm q7),List.getElem?_set_self lA]
  ·cases hf
 ·cases hf
theorem icWp_sound {P:Program} (hm:P.follows .mixedOrders=true) {slot:Option Nat→Nat} {C:Ctx}:∀ (c:Code) (ic:ICode) (Q:IExit→St→Prop) (st:St) (a:Act) (E:Env),cCode P slot c=some ic→InvE C st a E→icWp P ic Q st→c.wp P (Back C Q) a E.w
 | .skip,ic,Q,st,a,E,hc,I,hK=>by
  cases hc
  exact wp_skip ⟨.normal,st,E,rfl,rfl,I,hK⟩
 | .region id ops draw,ic,Q,st,a,E,hc,I,hK=>by
  simp only [cCode,Option.bind_eq_some_iff] at hc
  obtain ⟨iops,h1,hc⟩:=hc
  have hQ:∀ (st':St) (a':Act) (E':Env),InvE C st' a' E'→Q .normal st'→Back C Q .normal a' E'.w:=fun st' a' E' I' q=>⟨.normal,st',E',rfl,rfl,I',q⟩
  split at hc
  ·rename_i hd
   subst hd
   simp only [Option.some.injEq] at hc
   subst hc
   unfold cDraw at hK
   split at hK
   ·rename_i hok
    rw [Bool.and_eq_true] at hok
    rw [Bool.and_eq_true] at hok
    exact drawn_sound hm h1 hok.1.1 (by simpa using hok.1.2) hQ I hK
   ·split at hK
    ·rename_i hok
     obtain ⟨S,s0,sQ,hS,hk,_⟩:=hK
     obtain ⟨hlen,hget⟩:=general_get h1
     exact drawn_core hm hlen hget hok hQ I s0 sQ hS hk
    ·split at hK
     ·rename_i iops' hf
      obtain ⟨hlen,hget⟩:=general_get h1
      exact float_sound hm hlen hget hf hQ I hK
     ·split at hK
      ·rename_i hok
       obtain ⟨S,s0,sQ,hS,hk,_⟩:=hK
       obtain ⟨hlen,hget⟩:=plain_get h1
       exact drawn_core hm hlen hget hok hQ I s0 sQ hS hk
      ·split at hK
       ·rename_i iops' hf
        obtain ⟨hlen,hget⟩:=plain_get h1
        exact float_sound hm hlen hget hf hQ I hK
       ·exact hK.elim
  ·rename_i hd
   have:draw=false:=by simpa using hd
   subst this
   cases hc
   refine wp_region ?_
   have:=region_sound hQ ops.toList 0 iops st a E (fun j=>by simp) h1 I hK
   rwa [Array.length_toList,← List.range_eq_range'] at this
 | .seq x y,ic,Q,st,a,E,hc,I,hK=>by
  simp only [cCode,Option.bind_eq_some_iff,Option.map_eq_some_iff] at hc
  obtain ⟨ix,h1,iy,h2,rfl⟩:=hc
  refine wp_seq (wp_mono (icWp_sound hm x ix _ st a E h1 I hK) ?_)
  rintro e a' w' ⟨i,st',E',rfl,rfl,I',q⟩
  cases i with
  | normal=>exact icWp_sound hm y iy Q st' a' E' h2 I' q
  | exit id=>exact ⟨.exit id,st',E',rfl,rfl,I',q⟩
  | ret=>exact ⟨.ret,st',E',rfl,rfl,I',q⟩
 | .cond c x y,ic,Q,st,a,E,hc,I,hK=>by
  simp only [cCode,Option.bind_eq_some_iff,Option.map_eq_some_iff] at hc
  obtain ⟨c',h0,ix,h1,iy,h2,rfl⟩:=hc
  have hr:=ev_rep I h0
  simp only [icWp] at hK
  split at hK
  ·rename_i t hev
   rw [hev] at hr
   refine wp_cond_split (rep_v hr) (fun ht=>icWp_sound hm x ix Q st a E h1 I (hK.1 ht)) (fun ht=>icWp_sound hm y iy Q st a E h2 I (hK.2 ht))
  ·rename_i z hev
   rw [hev] at hr
   obtain ⟨k1,k2,k3⟩:=hK
   obtain ⟨t,ht⟩:=sx_bool k1
   refine wp_cond_split ((rep_sy hr).trans ht) (fun h=>icWp_sound hm x ix Q st a E h1 I (k2 (by rw [ht,h]))) (fun h=>icWp_sound hm y iy Q st a E h2 I (k3 (by rw [ht,h])))
  ·exact hK.elim
 | .block id b,ic,Q,st,a,E,hc,I,hK=>by
  simp only [cCode,Option.map_eq_some_iff] at hc
  obtain ⟨ib,h1,rfl⟩:=hc
  refine wp_block (wp_mono (icWp_sound hm b ib _ st a E h1 I hK) ?_)
  rintro e a' w' ⟨i,st',E',rfl,rfl,I',q⟩
  cases i with
  | normal=>exact ⟨.normal,st',E',rfl,rfl,I',q⟩
  | exit id' =>
   simp only [blkQ] at q
   show Exit.inBlock id (Back C Q) (.exit id') a' E'.w
   simp only [Exit.inBlock]
   split
   ·rename_i h; rw [if_pos h] at q; exact ⟨.normal,st',E',rfl,rfl,I',q⟩
   ·rename_i h; rw [if_neg h] at q; exact ⟨.exit id',st',E',rfl,rfl,I',q⟩
  | ret=>exact ⟨.ret,st',E',rfl,rfl,I',q⟩
 | .loop b,ic,Q,st,a,E,hc,I,hK=>by
  simp only [cCode,Option.map_eq_some_iff] at hc
  obtain ⟨ib,h1,rfl⟩:=hc
  obtain ⟨J,n,⟨st0,hw,h0⟩,hround⟩:=hK
  obtain ⟨E0,e0,I0⟩:=hw C a E I
  refine wp_loop_ghost (fun n a w=>∃ st' E',E'.w=w∧InvE C st' a E'∧J n st') n ⟨st0,E0,e0,I0,h0⟩ ?_
  rintro n a w ⟨st',E',rfl,I',hJ⟩
  refine wp_mono (icWp_sound hm b ib _ st' a E' h1 I' (hround n st' hJ)) ?_
  rintro e a' w' ⟨i,st2,E2,rfl,rfl,I2,q⟩
  cases i with
  | normal =>
   obtain ⟨m,hm',st3,hw3,hJ3⟩:=q
   obtain ⟨E3,e3,I3⟩:=hw3 C a' E2 I2
   exact ⟨m,hm',st3,E3,e3,I3,hJ3⟩
  | exit id=>exact ⟨.exit id,st2,E2,rfl,rfl,I2,q⟩
  | ret=>exact ⟨.ret,st2,E2,rfl,rfl,I2,q⟩
 | .exit id,ic,Q,st,a,E,hc,I,hK=>by
  cases hc
  exact wp_exit ⟨.exit id,st,E,rfl,rfl,I,hK⟩
 | .ret,ic,Q,st,a,E,hc,I,hK=>by
  cases hc
  exact wp_ret ⟨.ret,st,E,rfl,rfl,I,hK⟩
 | .rangeFunc ..,ic,Q,st,a,E,hc,I,hK=>by cases hc; exact hK.elim
 | .scope b,ic,Q,st,a,E,hc,I,hK=>by
  simp only [cCode] at hc
  refine wp_scope_straight (wp_mono (icWp_sound hm b ic Q st a E hc I hK) ?_)
  rintro e a' w' ⟨i,st',E',rfl,rfl,I',q⟩
  cases i with
  | normal=>exact ⟨.normal,st',E',rfl,rfl,I',q⟩
  | exit id=>exact ⟨.exit id,st',E',rfl,rfl,I',q⟩
  | ret=>exact ⟨.ret,st',E',rfl,rfl,I',q⟩
 | .label _,ic,Q,st,a,E,hc,I,hK=>by
  cases hc
  exact wp_label ⟨.normal,st,E,rfl,rfl,I,hK⟩
 | .goto _,ic,Q,st,a,E,hc,I,hK=>by cases hc; exact hK.elim
 | .refuse _,ic,Q,st,a,E,hc,I,hK=>by cases hc; exact hK.elim
def qf (k:Nat) (nb:Option (Nat×Nat)) (b s:Nat):Option (Nat×Nat):=if s < k then some (s,s) else match nb with | some (_,s0)=>if s=s0 then some (k,k) else none | none=>none
def finL (h:List Slot) (k:Nat) (nb:Option (Nat×Nat)):List (Option Blk):=(List.range k).map fun i=>match h[i]? with
 | some (some (s,blk))=>if s=i then some (renB (qf k nb) blk) else none
 | _=>none
def finN (h:List Slot) (k:Nat) (nb:Option (Nat×Nat)):Option Blk:=match nb with
 | some (b,s0)=>match h[b]? with
  | some (some (s,blk))=>if s=s0∧k≤s then some (renB (qf k nb) blk) else none
  | _=>none
 | none=>none
def nbσ (σ:Nat→Option Ent):Option (Nat×Nat)→Option Ent
 | some (_,s0)=>σ s0
 | none=>none
theorem fin_sound {W:World} {ents:List Ent} {S0:Nat→Prop} {st:St} {a:Act} {E:Env} (I:InvE ⟨W,(ents[·]?),handed ents,S0⟩ st a E) (nb:Option (Nat×Nat)) (hnb:nb=none∨(finN st.h ents.length nb).isSome=true) :
  ∃ σ',InvE ⟨W,(ents[·]?),handed ents,S0⟩ ⟨[],slots (finL st.h ents.length nb) (finN st.h ents.length nb),ents.length+1⟩ emptyAct ⟨E.w,σ',E.S⟩∧∀ (p:PV) (u:Value),Rep E p u→Rep ⟨E.w,σ',E.S⟩ (ren (qf ents.length nb) p) u:=by
 let k:=ents.length
 let σ':Nat→Option Ent:=fun s=>if s < k then E.σ s else if s=k then nbσ E.σ nb else none
 have hq:∀ (b s b' s':Nat) (en:Ent),qf k nb b s=some (b',s')→E.σ s=some en→σ' s'=some en:=by
  intro b s b' s' en hq hσ
  unfold qf at hq
  split at hq
  ·rename_i hs
   cases hq
   simp only [σ',hs,if_true]; exact hσ
  ·split at hq
   ·rename_i b0 s0
    split at hq
    ·rename_i hs; subst hs; cases hq; simp only [σ',Nat.lt_irrefl,if_false,if_true,nbσ]; exact hσ
    ·cases hq
   ·cases hq
 have hren:∀ (p:PV) (u:Value),Rep E p u→Rep ⟨E.w,σ',E.S⟩ (ren (qf k nb) p) u:=fun p u h=>Rep.ren (E:=E) (E':=⟨E.w,σ',E.S⟩) (fun _ h=>h) (fun _ _=>rfl) hq h
 have hrenB:∀ (en:Ent) (b:Blk),BRep E en b→BRep ⟨E.w,σ',E.S⟩ en (renB (qf k nb) b):=fun en b h=>BRep.ren (E:=E) (E':=⟨E.w,σ',E.S⟩) (fun _ h=>h) (fun _ _=>rfl) hq (fun _=>rfl) h
 have hlen:(finL st.h k nb).length=k:=by simp [finL]
 have live:∀ (b s:Nat) (x:Blk),(slots (finL st.h k nb) (finN st.h k nb))[b]?=some (some (s,x))→s=b∧∃ b0 s0 y,st.h[b0]?=some (some (s0,y))∧x=renB (qf k nb) y∧((b < k∧b0=b∧s0=b)∨(b=k∧k≤s0∧nb=some (b0,s0))):=by
  intro b s x hb
  rw [slots_get,hlen] at hb
  split at hb
  ·rename_i hlt
   simp only [finL,List.getElem?_map,List.getElem?_range hlt,Option.map_some,Option.some.injEq] at hb
   split at hb
   ·rename_i s0 blk hs
    split at hb
    ·rename_i he
     simp at hb
     exact ⟨hb.1.symm,b,b,blk,he ▸ hs,hb.2.symm,.inl ⟨hlt,rfl,rfl⟩⟩
    ·simp at hb
   ·simp at hb
  ·split at hb
   ·rename_i he
    simp only [finN] at hb
    split at hb
    ·rename_i b0 s0
     split at hb
     ·rename_i s1 blk hs
      split at hb
      ·rename_i hc
       simp at hb
       obtain ⟨rfl,hc⟩:=hc
       exact ⟨by rw [he]; exact hb.1.symm,b0,s1,blk,hs,hb.2.symm,.inr ⟨he,hc,rfl⟩⟩
      ·simp at hb
     ·simp at hb
    ·simp at hb
   ·cases hb
 have at_:∀ (b s:Nat) (x:Blk) (en:Ent),At ⟨E.w,σ',E.S⟩ (slots (finL st.h k nb) (finN st.h k nb)) b s x en→∃ b0 s0 y,At E st.h b0 s0 y en∧x=renB (qf k nb) y∧((b < k∧b0=b∧s0=b)∨(b=k∧k≤s0∧nb=some (b0,s0))):=by
  intro b s x en A
  obtain ⟨rfl,b0,s0,y,h1,h2,h3⟩:=live _ _ _ A.slot
  refine ⟨b0,s0,y,⟨h1,?_⟩,h2,h3⟩
  obtain ⟨en',A',_⟩:=I.good.blk b0 s0 y h1
  have h4:σ' s=some en:=A.σ
  rcases h3 with ⟨q1,rfl,rfl⟩ | ⟨q1,q2,q3⟩
  ·simp only [σ',q1,if_true] at h4; exact h4
  ·simp only [σ',q1,Nat.lt_irrefl,if_false,if_true,q3,nbσ] at h4; exact h4
 refine ⟨σ',?_,hren⟩
 refine { good:=⟨?_,?_,?_,I.good.stay⟩,since:=⟨I.since.os,I.since.tape,I.since.output,I.since.size,I.since.kept,?_,I.since.S1,I.since.S2,I.since.drawn⟩,touch:=?_,defers:=rfl,tsize:=rfl,tmps:=?_ }
 ·intro s hs
  have hs':k+1≤s:=hs
  have h1:¬ s < k:=by omega
  have h2:¬ s=k:=by omega
  simp only [σ',h1,h2,if_false]
 ·intro b s x hb
  obtain ⟨rfl,b0,s0,y,h1,rfl,h3⟩:=live _ _ _ hb
  obtain ⟨en,A,hB,hS⟩:=I.good.blk b0 s0 y h1
  refine ⟨en,⟨hb,?_⟩,hrenB _ _ hB,hS⟩
  have:=A.σ
  rcases h3 with ⟨q1,rfl,rfl⟩ | ⟨q1,q2,q3⟩
  ·simp only [σ',q1,if_true]; exact this
  ·simp only [σ',q1,Nat.lt_irrefl,if_false,if_true,q3,nbσ]; exact this
 ·intro b1 b2 s1 s2 x1 x2 en1 en2 A1 A2 h1 h2 he
  obtain ⟨c1,d1,y1,B1,_,t1⟩:=at_ _ _ _ _ A1
  obtain ⟨c2,d2,y2,B2,_,t2⟩:=at_ _ _ _ _ A2
  have hb:=I.good.inj _ _ _ _ _ _ _ _ B1 B2 h1 h2 he
  subst hb
  have hs:d1=d2:=by
   have e1:=B1.slot
   rw [B2.slot] at e1
   cases e1; rfl
  subst hs
  rcases t1 with ⟨u1,u2,u3⟩ | ⟨u1,u2,u3⟩<;>rcases t2 with ⟨v1,v2,v3⟩ | ⟨v1,v2,v3⟩<;>omega
 ·intro b en hb
  have hlt:b < k:=(List.getElem?_eq_some_iff.1 hb).1
  show σ' b=some en
  simp only [σ',hlt,if_true]
  exact I.since.σ b en hb
 ·intro b s x en A h0
  obtain ⟨b0,s0,y,B,_⟩:=at_ _ _ _ _ A
  exact I.touch _ _ _ _ B h0
 ·intro i p u hp; simp at hp
def resV (st:St):List Nat→PV
 | [t]=>st.ev (.t t)
 | ts=>.tup (ts.map fun t=>st.ev (.t t))
def resU (f:Nat→Value):List Nat→Value
 | [t]=>f t
 | ts=>.tuple (ts.map f).toArray
theorem run_results {fn:Func} {ts:List Nat} (hr:fn.results=(ts.map ResultVar.tmp).toArray) (tmps:Array Value) (P:Program) (w:World) :
  (results fn tmps).run P w=.ok (resU (fun t=>tmps.getD t undef) ts) w:=by
 unfold results
 rw [hr]
 have:∀ (ts:List Nat),Sem.run P ((ts.map ResultVar.tmp).mapM (m:=Sem) (fun x:ResultVar=>match x with | ResultVar.tmp t=>(pure (tmps.getD t undef):Sem Value) | ResultVar.cell a t=>do loadVar t (← asAddr (tmps.getD a undef)))) w=Result.ok (ts.map fun t=>tmps.getD t undef) w:=by
  intro ts
  induction ts with
  | nil=>simp
  | cons t r ih =>
   rw [List.map_cons,List.mapM_cons]
   simp only [Sem.run_bind,Sem.run_pure,Result.andThen_ok,ih,List.map_cons]
 rw [List.mapM_toArray,Sem.run_bind,Sem.run_map]
 erw [this ts]
 simp only [Result.andThen_ok,Sem.run_pure]
 clear this
 match ts with
 | []=>simp [resU]
 | [t]=>simp [resU]
 | t::t'::r=>simp [resU]
def slotF (al:List Nat) (k:Nat) (d:Option Nat):Nat:=k+al.idxOf (d.getD 0)
def startSt (args:List PV) (ntmps:Nat) (L:List Blk) (m:Nat):St:=⟨args++List.replicate (ntmps - args.length) (.v undef),(L.zipIdx.map fun x=>some (x.2,x.1))++List.replicate m none,L.length⟩
theorem vcall_of {P:Program} (hm:P.follows .mixedOrders=true) {f:Nat} {fn:Func} {c:Code} {ic:ICode} {ts:List Nat} {L:List Blk} {args:List PV} {R:PV→List (Option Blk)→Option Blk→Prop} {al:List Nat}
  (hf:P.funcs[f]?=some fn) (hb:fn.body=some c) (hcl:callable P f=true) (hr:fn.results=(ts.map ResultVar.tmp).toArray) (hic:cCode P (slotF al L.length) c=some ic)
  (hK:icWp P ic (fun e st=>(e=.normal∨e=.ret)∧∃ st',Weak st st'∧∃ nb,(nb=none∨(finN st'.h L.length nb).isSome=true)∧R (ren (qf L.length nb) (resV st' ts)) (finL st'.h L.length nb) (finN st'.h L.length nb)) (startSt args fn.ntmps L (al.length+1))) :
  VCall P f L args R:=by
 refine ⟨hcl,fun W S ents vals hel J hv hargs=>?_⟩
 refine calls_of_wp hf hb ?_
 let a0:Act:={ tmps:=vals++Array.replicate (fn.ntmps - vals.size) undef,defers:=[] }
 have hslots:∀ (b s:Nat) (k:Blk),(startSt args fn.ntmps L (al.length+1)).h[b]?=some (some (s,k))→(slots (L.map some) none)[b]?=some (some (s,k)):=by
  intro b s k hb
  simp only [startSt,List.getElem?_append,List.length_map,List.length_zipIdx,List.getElem?_map,List.getElem?_zipIdx] at hb
  rw [slots_get]
  simp only [List.length_map,List.getElem?_map]
  split at hb
  ·rename_i hlt
   rw [if_pos hlt]
   simp [List.getElem?_eq_getElem hlt] at hb ⊢
   exact hb
  ·rename_i hge
   have:=List.mem_of_getElem? hb
   simp at this
 have atS:∀ (b s:Nat) (k:Blk) (en:Ent),At ⟨W,(ents[·]?),S⟩ (startSt args fn.ntmps L (al.length+1)).h b s k en→At ⟨W,(ents[·]?),S⟩ (slots (L.map some) none) b s k en:=fun b s k en A=>⟨hslots b s k A.slot,A.σ⟩
 have I0:InvE ⟨W,(ents[·]?),handed ents,S⟩ (startSt args fn.ntmps L (al.length+1)) a0 ⟨W,(ents[·]?),S⟩:=by
  refine { good:=⟨J.good.free,?_,?_,J.good.stay⟩,since:=J.since,touch:=fun b s k en A=>J.touch b s k en (atS _ _ _ _ A),defers:=rfl,tsize:=?_,tmps:=?_ }
  ·intro b s k hb
   obtain ⟨en,A,h⟩:=J.good.blk b s k (hslots b s k hb)
   exact ⟨en,⟨hb,A.σ⟩,h⟩
  ·intro b1 b2 s1 s2 k1 k2 en1 en2 A1 A2
   exact J.good.inj b1 b2 s1 s2 k1 k2 en1 en2 (atS _ _ _ _ A1) (atS _ _ _ _ A2)
  ·simp [a0,startSt,hv]
  ·intro i p u hp hu
   simp only [startSt,List.getElem?_append] at hp
   simp only [a0,Array.getElem?_append,hv] at hu
   split at hp
   ·rename_i hlt
    rw [if_pos hlt] at hu
    exact hargs i p u hp hu
   ·rename_i hge
    rw [if_neg hge] at hu
    have hp':=List.mem_of_getElem? hp
    have hu':=Array.mem_of_getElem? hu
    simp at hp' hu'
    rw [hp'.2,hu'.2]
    exact .v _
 refine wp_mono (icWp_sound hm c ic _ _ a0 ⟨W,(ents[·]?),S⟩ hic I0 hK) ?_
 rintro e a w ⟨i,st,E,rfl,rfl,I,hi,st',hw,nb,hnb,hR⟩
 obtain ⟨E',e',I'⟩:=hw _ a E I
 rw [← hel] at hnb hR
 obtain ⟨σ',F,hren⟩:=fin_sound I' nb hnb
 have hd:=I'.defers
 have getV:∀ t:Nat,Rep E' (st'.ev (.t t)) (a.tmps.getD t undef):=fun t=>ev_rep (x:=.tmp t) I' rfl
 have hrep:Rep E' (resV st' ts) (resU (fun t=>a.tmps.getD t undef) ts):=by
  have tup:∀ ts:List Nat,Rep E' (.tup (ts.map fun t=>st'.ev (.t t))) (.tuple (ts.map fun t=>a.tmps.getD t undef).toArray):=by
   intro ts
   refine .tup _ _ (by simp) ?_
   intro i c u hc hu
   simp only [List.getElem?_map,Option.map_eq_some_iff,List.getElem?_toArray] at hc hu
   obtain ⟨t,h1,rfl⟩:=hc
   obtain ⟨t',h2,rfl⟩:=hu
   rw [h1] at h2; cases h2
   exact getV t
  match ts with
  | []=>exact tup []
  | [t]=>exact getV t
  | t::t'::r=>exact tup _
 have post:a.defers=[]∧∃ v,(results fn a.tmps).run P E.w=.ok v E.w∧∃ v' r L' N σ' S',Ending.returned v=.returned v'∧R r L' N∧L'.length=L.length ∧
   InvE ⟨W,(ents[·]?),handed ents,S⟩ ⟨[],slots L' N,L.length+1⟩ emptyAct ⟨E.w,σ',S'⟩∧Rep ⟨E.w,σ',S'⟩ r v':=by
  refine ⟨hd,_,run_results hr a.tmps P E.w,_,_,_,_,σ',E'.S,rfl,hR,by simp [finL,hel],?_,?_⟩
  ·rw [← hel,← e']; exact F
  ·rw [← e']; exact hren _ _ hrep
 rcases hi with rfl | rfl
 ·exact post
 ·exact post
end Go.Proofs.Yticljphbbdnomaa.VL
