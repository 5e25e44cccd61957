import Derived.Test.YtemdbhdjchkllaaW1Vg
namespace Go.Proofs.Ytemdbhdjchkllaa.VL
open Go
set_option linter.unusedVariables false
set_option linter.unusedSimpArgs false
set_option linter.unusedSectionVars false
variable [Val]
variable {P:Program} {C:Ctx} {st:St} {a:Act} {E:Env} {K:PV→List Slot→Nat→Prop} {o:Oper}
theorem wrap_small {i:Int} (h0:0≤i) (h:i≤70368744177664):IntKind.i64.wrap i=i:=by
 simp only [IntKind.wrap,IntKind.bits,IntKind.signed]
 have:i % (2 ^ 64:Int)=i:=Int.emod_eq_of_lt h0 (by omega)
 simp only [this,Bool.true_and]
 rw [if_neg]
 simp only [decide_eq_true_eq]
 omega
theorem run_mksl {t e:TypeId} {ie:TypeInfo} {z:Value} {k k':IntKind} {l c:Int} (ht:P.underlying t=some (.slice e)) (hi:P.info? e=some ie) (hz:ie.zero=some z) (h1:0≤l) (h2:l≤c) (h3:c * ie.bytes≤70368744177664) (h4:c≤70368744177664) (h0:0 < ie.size) (w:World) :
  ∃ arr,(Instr.makeSlice t (.int k l) (.int k' c)).run P w=.ok (.slice (some ⟨w.heap.size,0,none⟩) l.toNat c.toNat) (w.alloc (.cells arr e))∧arr=(Array.range (c.toNat * ie.size)).map (z.cells[· % z.cells.size]!):=by
 have hl:=wrap_small h1 (by omega)
 have hc:=wrap_small (i:=c) (by omega) h4
 have hb:¬ ((ie.bytes:Int) * c > 2 ^ 48):=by rw [Int.mul_comm]; omega
 have hb':¬ ((281474976710656:Int) < (ie.bytes:Int) * c):=by rw [Int.mul_comm]; omega
 by_cases hc0:c=0
 ·subst hc0
  obtain rfl:l=0:=by omega
  refine ⟨#[],?_,by simp⟩
  simp [Instr.makeSlice,run_underlying ht,asInt,asIntOf,typeInfo,hi,hl,newRow,sizeOf]
  congr 2
  apply Array.ext
  ·simp
  ·intro i h1 h2; simp at h2
 ·refine ⟨_,?_,rfl⟩
  have hn0:¬ (c.toNat * ie.size=0):=Nat.ne_of_gt (Nat.mul_pos (by omega) h0)
  have hct:¬ (c.toNat=0):=by omega
  have hs0:¬ (ie.size=0):=by omega
  simp [Instr.makeSlice,run_underlying ht,asInt,asIntOf,typeInfo,hi,hl,hc,newRow,sizeOf,zeroValue,hz,hb',show ¬ c < 0 by omega,show ¬ l < 0 by omega,show ¬ c < l by omega,hn0,hct,hs0]
theorem rows_blk {F:Nat→PV} {len sz:Nat} {us:Array Value} (h:RW E F len sz us) {es:List PV} (hes:es.length≤len) (hF:∀ (i:Nat) (e:PV),es[i]?=some e→e=F i) :
  (∀ (i:Nat) (e:PV),es[i]?=some e→e.cells.length=sz)∧∀ (i:Nat) (e:PV) (j:Nat) (c:PV),es[i]?=some e→e.cells[j]?=some c→∃ u,us[i * sz+j]?=some u∧Rep E c u:=by
 obtain ⟨h1,h2,h3⟩:=h
 refine ⟨fun i e he=>?_,fun i e j c he hc=>?_⟩
 ·have hlt:i < es.length:=(List.getElem?_eq_some_iff.1 he).1
  rw [hF i e he]; exact (h3 i (by omega)).1
 ·have hlt:i < es.length:=(List.getElem?_eq_some_iff.1 he).1
  rw [hF i e he] at hc
  have q:=(h3 i (by omega)).1
  have hj:j < sz:=by have:=(List.getElem?_eq_some_iff.1 hc).1; omega
  have hlt2:i * sz+j < us.size:=by have:=row_fits (i:=i) (n:=len) (j:=j+1) (sz:=sz) (by omega) (by omega); omega
  exact ⟨us[i * sz+j],by simp [hlt2],(h3 i (by omega)).2 j c _ hc (by simp [hlt2])⟩
theorem out_mksl (I:InvE C st a E) {t e:TypeId} {ie:TypeInfo} {z:Value} {s:Nat} {l c:Operand} {l' c':Opd} (ho:o.op=.makeSlice t l c) (ht:P.underlying t=some (.slice e)) (hi:P.info? e=some ie) (hz:ie.zero=some z) (hl:cOpd l=some l') (hc:cOpd c=some c')
  (hK:opK st.ev st.h st.n K (.mksl s ie.size ie.bytes (cVal z) l' c')):Out P o C st a E K:=by
 have hrl:=ev_rep I hl
 have hrc:=ev_rep I hc
 simp only [opK] at hK
 split at hK
 case h_2=>exact hK.elim
 rename_i k1 l k2 c h1 h2
 rw [h1] at hrl; rw [h2] at hrc
 have hrl:=rep_v hrl
 have hrc:=rep_v hrc
 obtain ⟨g1,g2,g3,g4,g5,g6,g7,g8,g9⟩:=hK
 obtain ⟨arr,hrun,harr⟩:=run_mksl (k:=k1) (k':=k2) ht hi hz g5 g6 g7 g8 g2 E.w
 have hrw:=zeros_rows (E:=E) g4 c.toNat g3 g2
 rw [← harr] at hrw
 obtain ⟨r1,r2⟩:=rows_blk hrw (es:=List.replicate c.toNat (cVal z)) (by simp) (fun i e he=>by
  have:=List.mem_of_getElem? he
  exact (List.mem_replicate.1 this).2)
 have I':=I.newBlk g1 (arr:=arr) (t:=e) (es:=List.replicate c.toNat (cVal z)) (sz:=ie.size) (tot:=c.toNat) g2 hrw.1 (by simp) r1 r2 hrw.2.1
 refine ⟨_,_,_,g9,.slice (some ⟨E.w.heap.size,0,none⟩) l.toNat c.toNat,_,_,?_,.inl rfl,I',?_⟩
 ·simp only [execOp,ho,hrl,hrc,Sem.run_bind,hrun,Result.andThen_ok,Sem.run_pure]
 ·exact .own s st.n 0 l.toNat (some c.toNat) ⟨E.w.heap.size,0,ie.size,c.toNat⟩ c.toNat _ (by simp [giveAt]) (fun _=>by simp) (by simp) (by omega) (fun k hk=>by cases hk; rfl) (by simp) (by simp)
def BndV (d i:Int) (x:Option Value):Prop:=(x=none∧i=d)∨∃ k,x=some (.int k i)
theorem bnd_rep (I:InvE C st a E) {d i:Int} {x:Option Operand} {y:Option Opd} (hx:cOpt x=some y) (h:bnd st.ev d y=some i):BndV d i (x.map a.eval):=by
 cases x with
 | none=>cases hx; simp [bnd] at h; exact .inl ⟨rfl,h.symm⟩
 | some x =>
  simp only [cOpt,Option.map_eq_some_iff] at hx
  obtain ⟨y',hy,rfl⟩:=hx
  have hr:=ev_rep I hy
  simp only [bnd] at h
  split at h
  ·rename_i k m hev
   rw [hev] at hr
   cases h
   exact .inr ⟨k,by simp [rep_v hr]⟩
  ·cases h
theorem run_sliceAt {t e:TypeId} {ie:TypeInfo} (ht:P.underlying t=some (.slice e)) (hi:P.info? e=some ie) {ad:Option Addr} {len cap:Nat} {lo hi' mx:Option Value} {l u m:Int} (hlo:BndV 0 l lo) (hhi:BndV len u hi') (hmx:BndV cap m mx) (hh:mx.isSome=true→hi'.isSome=true)
    (h0:0≤l) (h1:l≤u) (h2:u≤m) (h3:m≤cap) (w:World):(Instr.sliceAt t (.slice ad len cap) lo hi' mx).run P w=.ok (.slice (if m.toNat=l.toNat then ad else ad.map (·.add (l.toNat * ie.size))) (u.toNat - l.toNat) (m.toNat - l.toNat)) w:=by
  have sb:∀ (k:IntKind) (i:Int) (y:Nat) (code:BoundsCode),0≤i→i≤y→(Instr.sliceBound (.int k i) y code).run P w=.ok i.toNat w:=fun k i y code a b=>run_sliceBound w k i y code a b
  have hm:m.toNat≤cap:=by omega
  rcases hlo with ⟨rfl,rfl⟩ | ⟨k1,rfl⟩<;>rcases hhi with ⟨rfl,rfl⟩ | ⟨k2,rfl⟩<;>rcases hmx with ⟨rfl,rfl⟩ | ⟨k3,rfl⟩<;>first
    | (simp at hh; done)
    | (simp [Instr.sliceAt,Instr.slice,run_underlying ht,Instr.sliceBounds,run_sizeOf hi]; done)
    | (simp only [Instr.sliceAt,Instr.slice,Sem.run_bind,run_underlying ht,Instr.sliceBounds,Result.andThen_ok,Sem.run_pure,run_sizeOf hi,sb _ _ _ _ h0 (show l≤(len:Int) by omega)]
       simp; done)
    | (have q1:=sb k2 u cap .sliceAcap (by omega) (by omega)
       simp [Instr.sliceAt,Instr.slice,run_underlying ht,Instr.sliceBounds,run_sizeOf hi,q1]; done)
    | (have q1:=sb k3 m cap .slice3Acap (by omega) (by omega)
       have q2:=sb k2 u m.toNat .slice3B (by omega) (by omega)
       simp [Instr.sliceAt,Instr.slice,run_underlying ht,Instr.sliceBounds,run_sizeOf hi,q1,q2]; done)
    | (have q1:=sb k2 u cap .sliceAcap (by omega) (by omega)
       have q3:=sb k1 l u.toNat .sliceB (by omega) (by omega)
       simp [Instr.sliceAt,Instr.slice,run_underlying ht,Instr.sliceBounds,run_sizeOf hi,q1,q3]; done)
    | (have q1:=sb k3 m cap .slice3Acap (by omega) (by omega)
       have q2:=sb k2 u m.toNat .slice3B (by omega) (by omega)
       have q3:=sb k1 l u.toNat .slice3C (by omega) (by omega)
       simp [Instr.sliceAt,Instr.slice,run_underlying ht,Instr.sliceBounds,run_sizeOf hi,q1,q2,q3]; done)
theorem take_drop_get {α:Type} {l:List α} {p q i:Nat} {x:α} (h:((l.drop p).take q)[i]?=some x):i < q∧l[p+i]?=some x:=by
 rw [List.getElem?_take] at h
 split at h
 ·rw [List.getElem?_drop] at h; exact ⟨by assumption,h⟩
 ·cases h
theorem rep_sub {c c':Bool} {es:List PV} {u:Value} (h:Rep E (.sl c es) u) {sz p q k m:Nat} {ad:Option Addr} (hsz:∀ e ∈ es,e.cells.length=sz) (hu:∃ cap,u=.slice ad es.length cap∧m≤cap) (hpq:p+q≤es.length) (hqm:p+q≤m) (hc:c'=true→m=p+q) :
  Rep E (.sl c' ((es.drop p).take q)) (.slice (if m=p then ad else ad.map (·.add (p * sz))) q (m - p)):=by
 have hlen:((es.drop p).take q).length=q:=by simp; omega
 obtain ⟨cap,hu,hm⟩:=hu
 by_cases hq:q=0
 ·subst hq
  simp only [List.take_zero]
  refine .emp c' _ _ (fun h=>by have:=hc h; omega) ?_
  intro hn
  split at hn
  ·omega
  ·have had:ad=none:=by cases ad<;>simp at hn ⊢
   subst had
   generalize u=u' at h hu
   subst hu
   have hcap:cap=0:=by
    generalize hs:Value.slice none es.length cap=v at h
    cases h with
    | emp _ a' cap' _ hn'=>cases hs; exact hn' rfl
    | sl _ _ rb off cap' _ U hne=>cases hs
   omega
 ·rw [if_neg (by omega)]
  subst hu
  generalize hs:Value.slice ad es.length cap=v at h
  cases h with
  | emp _ a' cap' _ hn'=>simp at hpq; omega
  | sl _ _ rb off cap' sz' U hne hS hcl hcap hsz0 hsz' hmm ho hr =>
   cases hs
   have hss:sz'=sz:=by
    cases es with
    | nil=>exact absurd rfl hne
    | cons e r=>rw [← hsz' 0 e rfl]; exact hsz e (by simp)
   subst hss
   have hadd:(some (⟨rb,off,none⟩:Addr)).map (·.add (p * sz'))=some ⟨rb,off+p * sz',none⟩:=by simp [add_addr]
   rw [hadd]
   have:=Rep.sl (E:=E) c' ((es.drop p).take q) rb (off+p * sz') (m - p) sz' (fun i j=>U (p+i) j) (by intro he; rw [he] at hlen; simp at hlen; omega) hS (fun h=>by have:=hc h; omega) (by omega) hsz0
    (fun i e he=>hsz' _ e (take_drop_get he).2)
    (fun i e j x he hj=>by
     have:=hmm (p+i) e j x (take_drop_get he).2 hj
     rw [← this]; congr 2; rw [Nat.add_mul]; omega)
    (fun i j=>ho _ _) (fun i e j x he hj=>hr _ e j x (take_drop_get he).2 hj)
   rw [hlen] at this
   exact this
theorem out_slc (I:InvE C st a E) {t e:TypeId} {ie:TypeInfo} {x:Operand} {x':Opd} {lo hi mx:Option Operand} {lo' hi' mx':Option Opd} (ho:o.op=.slice t x lo hi mx) (ht:P.underlying t=some (.slice e)) (hie:P.info? e=some ie) (hx:cOpd x=some x')
  (hlo:cOpt lo=some lo') (hhi:cOpt hi=some hi') (hmx:cOpt mx=some mx') (hh:mx.isSome=true→hi.isSome=true) (hK:opK st.ev st.h st.n K (.slc ie.size x' lo' hi' mx')):Out P o C st a E K:=by
 have hr:=ev_rep I hx
 have hh':(mx.map a.eval).isSome=true→(hi.map a.eval).isSome=true:=by simpa using hh
 have isome:mx'.isSome=mx.isSome:=by
  cases mx with
  | none=>cases hmx; rfl
  | some m=>simp only [cOpt,Option.map_eq_some_iff] at hmx; obtain ⟨y,_,rfl⟩:=hmx; rfl
 simp only [opK] at hK
 split at hK
 ·rename_i c es hev
  rw [hev] at hr
  obtain ⟨ad,cap,hu,h1,h2,h3⟩:=rep_sl hr
  split at hK
  case h_2=>exact hK.elim
  rename_i l u m hl hu' hm
  obtain ⟨g1,g2,g3,g4,g5,g6⟩:=hK
  have bl:=bnd_rep I hlo hl
  have bu:=bnd_rep I hhi hu'
  have bm:∃ M:Int,BndV cap M (mx.map a.eval)∧u≤M∧M≤cap∧(mx'.isSome=true→M=m)∧(mx'.isSome=false→M=cap):=by
   rcases bnd_rep I hmx hm with ⟨hn,rfl⟩ | ⟨k,hk⟩
   ·refine ⟨cap,.inl ⟨hn,rfl⟩,by omega,Int.le_refl _,?_,fun _=>rfl⟩
    intro h; rw [isome] at h; simp at hn; rw [hn] at h; cases h
   ·refine ⟨m,.inr ⟨k,hk⟩,g4,by omega,fun _=>rfl,?_⟩
    intro h; rw [isome] at h
    cases mx<;>simp at h hk
  obtain ⟨M,b1,b2,b3,b4,b5⟩:=bm
  refine Out.same I g6 ?_ (rep_sub (sz:=ie.size) (p:=l.toNat) (q:=u.toNat - l.toNat) (m:=M.toNat) (k:=0) (ad:=ad) hr g1 ⟨cap,hu,by omega⟩ (by omega) (by omega) ?_)
  ·simp only [execOp,ho,hu,Sem.run_bind]
   rw [run_sliceAt ht hie bl bu b1 hh' g2 g3 b2 b3]
   rfl
  ·intro hc'
   simp only [Bool.or_eq_true,Bool.and_eq_true,decide_eq_true_eq] at hc'
   rcases hc' with ⟨q1,q2⟩ | ⟨q1,q2⟩
   ·have:=b4 q1; omega
   ·have:=h3 q1
    cases hms:mx'.isSome with
    | true=>have:=b4 hms; omega
    | false=>have:=b5 hms; omega
 ·rename_i b s sz' off len cap hev
  rw [hev] at hr
  obtain ⟨en,c,ad,hu,hσ,hsz,had,hn,hlen,hc,htot,hcap⟩:=rep_own hr
  obtain ⟨rfl,hK⟩:=hK
  have hle:(cap.getD len:Nat)≤c:=by
   cases cap with
   | none=>simpa using hlen
   | some k=>have:=hc k rfl; simp; omega
  have hcp:(capOf st.h b s off len cap:Nat)≤(c:Int):=by
   cases hcap0:cap with
   | some k=>have:=hc k hcap0; simp [capOf]; omega
   | none =>
    have h1:=hcap hcap0
    have h2:rowsIn st.h b s - off≤c:=by
     unfold rowsIn
     split
     ·rename_i s' es hs
      split
      ·rename_i he
       subst he
       have A:At E st.h b s' (.cells es) en:=⟨hs,hσ⟩
       have:=(A.brep I.good).1.1
       omega
      ·omega
     ·omega
    simp only [capOf]
    have:max len (rowsIn st.h b s - off)≤c:=Nat.max_le.2 ⟨hlen,h2⟩
    omega
  have mk:∀ {l u M:Int} {cap':Option Nat},0≤l→l≤u→u≤M→M≤c→(∀ k,cap'=some k→M.toNat - l.toNat=k)→(cap'=none→cap=none∧M=c) →
    Rep E (.own b s ie.size (off+l.toNat) (u.toNat - l.toNat) cap') (.slice (if M.toNat=l.toNat then ad else ad.map (·.add (l.toNat * ie.size))) (u.toNat - l.toNat) (M.toNat - l.toNat)):=by
   intro l u M cap' q1 q2 q3 q4 q5 q6
   rw [← hsz]
   refine .own b s (off+l.toNat) (u.toNat - l.toNat) cap' en (M.toNat - l.toNat) _ hσ ?_ ?_ (by omega) q5 (by omega) ?_
   ·intro h0
    rw [if_neg (by omega),had (by omega)]
    simp [add_addr,Nat.add_mul,Nat.add_assoc]
   ·intro hn'
    split at hn'
    ·omega
    ·have:ad=none:=by cases ad<;>simp at hn' ⊢
     have:=hn this
     omega
   ·intro hcn
    obtain ⟨r1,r2⟩:=q6 hcn
    have:=hcap r1
    omega
  split at hK
  ·rename_i l u hl hu'
   obtain ⟨g1,g2,g3,g4⟩:=hK
   have bl:=bnd_rep I hlo hl
   have bu:=bnd_rep I hhi hu'
   have hmxn:mx=none:=by cases mx with | none=>rfl | some m=>simp [cOpt] at hmx
   have bm:BndV c c (mx.map a.eval):=.inl ⟨by simp [hmxn],rfl⟩
   refine Out.same I g4 ?_ (mk (M:=c) g1 g2 (by omega) (Int.le_refl _) ?_ ?_)
   ·simp only [execOp,ho,hu,Sem.run_bind]
    rw [run_sliceAt ht hie bl bu bm hh' g1 g2 (by omega) (Int.le_refl _)]
    rfl
   ·intro k hk
    cases cap with
    | none=>cases hk
    | some k'=>have:=hc k' rfl; simp at hk; omega
   ·intro hk
    cases cap with
    | none=>exact ⟨rfl,rfl⟩
    | some k'=>cases hk
  ·rename_i l u my hl hu'
   split at hK
   case h_2=>exact hK.elim
   rename_i k m hev2
   obtain ⟨g1,g2,g3,g4,g5⟩:=hK
   have bl:=bnd_rep I hlo hl
   have bu:=bnd_rep I hhi hu'
   have bm:BndV c m (mx.map a.eval):=bnd_rep I hmx (by simp [bnd,hev2])
   refine Out.same I g5 ?_ (mk (M:=m) g1 g2 g3 (by omega) (fun k hk=>by cases hk; rfl) (by simp))
   simp only [execOp,ho,hu,Sem.run_bind]
   rw [run_sliceAt ht hie bl bu bm hh' g1 g2 g3 (by omega)]
   rfl
  ·exact hK.elim
 ·exact hK.elim
theorem out_slS (I:InvE C st a E) {t:TypeId} {x:Operand} {x':Opd} {lo hi:Option Operand} {lo' hi':Option Opd} (ho:o.op=.slice t x lo hi none) (ht:P.underlying t=some .string) (hx:cOpd x=some x')
  (hlo:cOpt lo=some lo') (hhi:cOpt hi=some hi') (hK:opK st.ev st.h st.n K (.slS x' lo' hi')):Out P o C st a E K:=by
 have hr:=ev_rep I hx
 simp only [opK] at hK
 split at hK
 case h_2=>exact hK.elim
 rename_i s hev
 rw [hev] at hr
 have hu:=rep_v hr
 split at hK
 case h_2=>exact hK.elim
 rename_i l u hl hu'
 obtain ⟨g1,g2,g3,g4⟩:=hK
 refine Out.same I g4 ?_ (.v _)
 have sb:∀ (k:IntKind) (i:Int) (y:Nat) (code:BoundsCode),0≤i→i≤y→(Instr.sliceBound (.int k i) y code).run P E.w=.ok i.toNat E.w:=fun k i y code a b=>run_sliceBound E.w k i y code a b
 have hul:(u.toNat:Int)=u:=by omega
 simp only [execOp,ho,hu,Sem.run_bind]
 rcases bnd_rep I hlo hl with ⟨h1,rfl⟩ | ⟨k1,h1⟩<;>rcases bnd_rep I hhi hu' with ⟨h2,rfl⟩ | ⟨k2,h2⟩<;>rw [h1,h2]
 ·simp [Instr.sliceAt,Instr.slice,run_underlying ht,Instr.sliceBounds]
 ·have q1:=sb k2 u s.size .sliceAlen (by omega) (by omega)
  simp [Instr.sliceAt,Instr.slice,run_underlying ht,Instr.sliceBounds,q1]
 ·have q1:=sb k1 l s.size .sliceB (by omega) (by omega)
  simp [Instr.sliceAt,Instr.slice,run_underlying ht,Instr.sliceBounds,q1]
 ·have q1:=sb k2 u s.size .sliceAlen (by omega) (by omega)
  have q2:=sb k1 l u.toNat .sliceB (by omega) (by omega)
  simp [Instr.sliceAt,Instr.slice,run_underlying ht,Instr.sliceBounds,q1,q2]
end Go.Proofs.Ytemdbhdjchkllaa.VL
