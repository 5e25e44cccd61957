import Derived.Test.YtianfmdemgfgaaaDoorW1Xp
import Derived.Test.YtianfmdemgfgaaaDoorW1Wi
import Derived.Test.YtianfmdemgfgaaaDoorW1Ws
namespace Go.Proofs.YtianfmdemgfgaaaDoor.VL
open Go
set_option linter.unusedVariables false
set_option linter.unusedSimpArgs false
set_option linter.unusedSectionVars false
variable [Val]
variable {P:Program}
theorem PLe.move {h:List Slot} {b b' s n:Nat} {k:Blk} (hb:h[b']?=some (some (s,k))) (hne:b≠b') (hlt:b < h.length) (sz off len:Nat) (cap:Option Nat):PLe (.own b' s sz off len cap) h n (.own b n sz off len cap) ((h.set b' none).set b (some (n,k))) (n+1):=by
 intro t d C a E I
 have hbb:(St.put ⟨t,h,n⟩ d (.own b' s sz off len cap)).h=h:=by cases d<;>rfl
 have hnn:(St.put ⟨t,h,n⟩ d (.own b' s sz off len cap)).n=n:=by cases d<;>rfl
 obtain ⟨en,A,B,S⟩:=I.good.blk b' s k (by rw [hbb]; exact hb)
 have hσ:E.σ n=none:=by have:=I.good.free n (by rw [hnn]; exact Nat.le_refl _); exact this
 have hle:E.le ⟨E.w,giveAt E.σ n en,E.S⟩:=le_give E hσ en E.w (fun _ _=>rfl)
 have old:∀ (c s':Nat) (k':Blk),((h.set b' none).set b (some (n,k)))[c]?=some (some (s',k'))→(c=b∧s'=n∧k'=k)∨(c≠b∧c≠b'∧h[c]?=some (some (s',k'))):=by
  intro c s' k' hc
  rw [List.getElem?_set] at hc
  split at hc
  ·rename_i hcb
   split at hc
   ·simp only [Option.some.injEq,Prod.mk.injEq] at hc
    exact .inl ⟨hcb.symm,hc.1.symm,hc.2.symm⟩
   ·cases hc
  ·rename_i hcb
   rw [List.getElem?_set] at hc
   split at hc
   ·split at hc
    ·simp at hc
    ·cases hc
   ·rename_i hcb'
    exact .inr ⟨fun e=>hcb e.symm,fun e=>hcb' e.symm,hc⟩
 have at_:∀ (c s':Nat) (k':Blk) (en':Ent),At ⟨E.w,giveAt E.σ n en,E.S⟩ ((h.set b' none).set b (some (n,k))) c s' k' en'→(c=b∧en'=en)∨(c≠b∧c≠b'∧At E (St.put ⟨t,h,n⟩ d (.own b' s sz off len cap)).h c s' k' en'):=by
  intro c s' k' en' A'
  rcases old _ _ _ A'.slot with ⟨rfl,rfl,rfl⟩ | ⟨h1,h2,h3⟩
  ·have:=A'.σ
   simp [giveAt] at this
   exact .inl ⟨rfl,this.symm⟩
  ·refine .inr ⟨h1,h2,⟨by rw [hbb]; exact h3,?_⟩⟩
   obtain ⟨e2,A2,_⟩:=I.good.blk c s' k' (by rw [hbb]; exact h3)
   have h4:=hle.σ _ _ A2.σ
   have h5:=A'.σ
   rw [h4] at h5
   cases h5
   exact A2.σ
 have J:=I.step (E':=⟨E.w,giveAt E.σ n en,E.S⟩) (h':=(h.set b' none).set b (some (n,k))) (n':=n+1) hle rfl rfl rfl (Nat.le_refl _) (fun r h=>.inl h) (fun r _ _=>rfl) ⟨?_,?_,?_,I.good.stay⟩ ?_
 ·have ht:(St.put ⟨t,h,n⟩ d (.own b' s sz off len cap)).t=(match d with | some d=>t.set d (.own b' s sz off len cap) | none=>t):=by cases d<;>rfl
  refine ⟨⟨E.w,giveAt E.σ n en,E.S⟩,rfl,?_⟩
  cases d with
  | none=>exact J
  | some d =>
   refine { good:=J.good,since:=J.since,touch:=J.touch,defers:=J.defers,tsize:=by have:=J.tsize; simpa [St.put] using this,tmps:=?_ }
   intro i p u hp hu
   simp only [St.put,List.getElem?_set] at hp
   have old:∀ (p:PV),(t.set d (.own b' s sz off len cap))[i]?=some p→Rep ⟨E.w,giveAt E.σ n en,E.S⟩ p u:=fun p hp=>J.tmps i p u (by simpa [St.put] using hp) hu
   by_cases hd:d=i
   ·subst hd
    simp only [if_true] at hp
    split at hp
    ·rename_i hlt'
     cases hp
     have h1:=I.tmps d (.own b' s sz off len cap) u (by simp [St.put,hlt']) hu
     cases h1 with
     | own _ _ _ _ _ en' c ad hσ' ha hn' hlen hc htot hcap =>
      have:en'=en:=by have h2:=A.σ; rw [hσ'] at h2; cases h2; rfl
      subst this
      exact .own b n off len cap en' c ad (by simp [giveAt]) ha hn' hlen hc htot hcap
    ·cases hp
   ·rw [if_neg hd] at hp
    exact old p (by rw [List.getElem?_set_ne hd]; exact hp)
 ·intro s' hs
  have hs:n+1≤s':=hs
  have h1:s'≠n:=by omega
  simp only [giveAt,h1,if_false]
  exact I.good.free s' (by rw [hnn]; omega)
 ·intro c s' k' hc
  rcases old _ _ _ hc with ⟨rfl,rfl,rfl⟩ | ⟨h1,h2,h3⟩
  ·exact ⟨en,⟨hc,by simp [giveAt]⟩,B.mono hle (fun _=>rfl),S⟩
  ·obtain ⟨e2,A2,B2,S2⟩:=I.good.blk c s' k' (by rw [hbb]; exact h3)
   exact ⟨e2,⟨hc,hle.σ _ _ A2.σ⟩,B2.mono hle (fun _=>rfl),S2⟩
 ·intro b1 b2 s1 s2 k1 k2 en1 en2 A1 A2 z1 z2 he
  rcases at_ _ _ _ _ A1 with ⟨rfl,rfl⟩ | ⟨x1,y1,B1⟩<;>rcases at_ _ _ _ _ A2 with ⟨rfl,rfl⟩ | ⟨x2,y2,B2⟩
  ·rfl
  ·exact absurd (I.good.inj _ _ _ _ _ _ _ _ A B2 z1 z2 he).symm y2
  ·exact absurd (I.good.inj _ _ _ _ _ _ _ _ B1 A z1 z2 he) y1
  ·exact I.good.inj _ _ _ _ _ _ _ _ B1 B2 z1 z2 he
 ·intro c s' k' en' A' h0
  rcases at_ _ _ _ _ A' with ⟨rfl,rfl⟩ | ⟨x1,y1,B1⟩
  ·exact .inl ⟨b',s,k,en',A,h0,rfl⟩
  ·exact .inl ⟨c,s',k',en',B1,h0,rfl⟩
mutual
def closedX:XV→Bool
 | .i _ _=>true
 | .b _=>true
 | .s _=>true
 | .k p=>(match p with | .v _=>true | _=>false)
 | .agg cs=>closedXL cs
 | .arr _ _=>true
 | .tup cs=>closedXL cs
 | .tl _ _=>true
 | .xl _ es=>closedXL es
 | _=>false
def closedXL:List XV→Bool
 | []=>true
 | x::r=>closedX x&&closedXL r
end
mutual
theorem closedX_ok:∀ {x:XV},closedX x=true→closed x.toPV=true
 | .i _ _,_=>by simp [XV.toPV,closed]
 | .b _,_=>by simp [XV.toPV,closed]
 | .s _,_=>by simp [XV.toPV,closed]
 | .k p,h=>by cases p<;>simp [closedX] at h<;>simp [XV.toPV,closed]
 | .agg cs,h=>by simp only [closedX] at h; simp [XV.toPV,closed,closedXL_ok h]
 | .arr t l,_=>by simp only [XV.toPV]; exact closed_enc (t:=.ar t) l
 | .tup cs,h=>by simp only [closedX] at h; simp [XV.toPV,closed,closedXL_ok h]
 | .tl t l,_=>by simp only [XV.toPV]; exact closed_enc (t:=.sl t) l
 | .xl c es,h=>by simp only [closedX] at h; simp [XV.toPV,closed,closedXL_ok h]
 | .own ..,h=>by simp [closedX] at h
 | .optr ..,h=>by simp [closedX] at h
 | .sptr _,h=>by simp [closedX] at h
 | .clo ..,h=>by simp [closedX] at h
 | .mp ..,h=>by simp [closedX] at h
 | .dead,h=>by simp [closedX] at h
theorem closedXL_ok:∀ {l:List XV},closedXL l=true→closedL (toPVL l)=true
 | [],_=>rfl
 | x::r,h=>by
  simp only [closedXL,Bool.and_eq_true] at h
  simp [toPVL,closedL,closedX_ok h.1,closedXL_ok h.2]
end
theorem gcall_of_csem {f:Nat} {args:List PV} {h:List Slot} {n:Nat} {r0:PV} {h0:List Slot} {n0:Nat} (hc:CSem P f args h n (fun p h' n'=>PLe p h' n' r0 h0 n0)):GCall P f args h n r0 h0 n0:=by
 refine ⟨hc.1,fun C t a E vals I hv hr=>(hc.2 C t a E vals I hv hr).mono ?_⟩
 rintro e W' ⟨v,r,h',n',E',rfl,rfl,hle,I',hR⟩
 have I1:InvE C ⟨t++[r],h',n'⟩ { a with tmps:=a.tmps.push v } E':=by
  refine ⟨I'.good,I'.since,I'.touch,I'.defers,by simp [I'.tsize],fun i p u hp hu=>?_⟩
  have hts:a.tmps.size=t.length:=I'.tsize
  simp only [List.getElem?_append] at hp
  simp only [Array.getElem?_push] at hu
  split at hp
  ·rename_i hi
   rw [if_neg (by omega)] at hu
   exact I'.tmps i p u hp hu
  ·rename_i hi
   have:i=t.length:=by
    have:=(List.getElem?_eq_some_iff.1 hp).1
    simp at this
    omega
   subst this
   simp at hp
   rw [if_pos (by omega)] at hu
   cases hu
   subst hp
   exact hR
 obtain ⟨E2,e2,I2⟩:=hle (t++[r]) (some t.length) C _ E' (by simpa [St.put] using I1)
 have I2:InvE C ⟨t++[r0],h0,n0⟩ { a with tmps:=a.tmps.push v } E2:=by simpa [St.put] using I2
 have hts:a.tmps.size=t.length:=I'.tsize
 refine ⟨v,E2,rfl,e2,⟨I2.good,I2.since,I2.touch,I2.defers,hts,fun i p u hp hu=>?_⟩,?_⟩
 ·have hi:=(List.getElem?_eq_some_iff.1 hp).1
  have hi:i < t.length:=hi
  refine I2.tmps i p u (by simp only [List.getElem?_append,if_pos hi]; exact hp) ?_
  simp only [Array.getElem?_push]
  rw [if_neg (by omega)]
  exact hu
 ·refine I2.tmps t.length r0 v (by simp) ?_
  simp only [Array.getElem?_push]
  rw [if_pos (by omega)]
structure EI where
 f:Nat
 sz:Nat
 bytes:Nat
 z:PV
 t:TT
def EI.ok (P:Program) (x:EI):Prop:=InsF P x.f x.sz x.bytes x.z∧widB x.t x.sz=true
def capE:Option Nat→Nat→Bool
 | none,_=>true
 | some c,n=>decide (c=n)
theorem capE_ok {cap:Option Nat} {n:Nat} (h:capE cap n=true):cap=none∨cap=some n:=by
 cases cap with
 | none=>exact .inl rfl
 | some c=>exact .inr (by rw [of_decide_eq_true h])
def insL {α:Type} (l ys:List α) (i:Int):List α:=l.take i.toNat++ys++l.drop i.toNat
def calI (x:EI) (args:List XV) (M:Nat) (wp:List Nat) (h:Heap) (n s:Nat) {R:Type} (K:KX R):Option R:=match args with
 | [.own b st sz off len cap,.i k i,.xl true (e::es)]=>(match rd M h b st,collEs (coll true x.t) (e::es) with
  | some (.rows t' l),some ys=>(match castL t' x.t l,Nat.beq sz x.sz&&(Nat.beq off 0&&(ikB k .i64&&(Nat.blt s M&&(!Nat.beq b s&&(closedXL (e::es)&&(inB' wp b&&inB' wp s)))))) with
   | some l,true=>cond (decide (len=l.length)&&(decide (0≤i)&&(decide (i≤l.length)&&(fits ((l.length+ys.length:Nat):Int) x.bytes&&capE cap l.length))))
     (K (.own b (n+1) x.sz 0 (l.length+ys.length) none) ((b,some (n+1,.rows x.t (insL l ys i)))::(s,none)::h) (n+2)) none
   | _,_=>none)
  | _,_=>none)
 | _=>none
theorem calI_fr {x:EI} {args:List XV} {M:Nat} {wp:List Nat} {h:Heap} {n s:Nat} {R:Type} {K K':KX R} (hK:∀ v h' n',StayX M wp h h'→K v h' n'=K' v h' n'):calI x args M wp h n s K=calI x args M wp h n s K':=by
 unfold calI
 split
 ·split
  ·split
   ·rename_i hb
    simp only [Bool.and_eq_true] at hb
    obtain ⟨_,_,_,_,_,_,b7,b8⟩:=hb
    rw [hK]
    exact (StayX.cons (inB'_true b8) _ _).trans (StayX.cons (inB'_true b7) _ _)
   ·rfl
  ·rfl
 ·rfl
theorem calI_csem (hm:P.follows .mixedOrders=true) {x:EI} (hx:x.ok P) {args:List XV} {M:Nat} {wp:List Nat} {h:Heap} {n s:Nat} {R:Type} {K:KX R} {r:R} (hk:calI x args M wp h n s K=some r) :
  ∃ (v:XV) (h':Heap) (n':Nat),K v h' n'=some r∧CSem P x.f (toPVL args) (toH M h) n (fun p h1 n1=>PLe p h1 n1 v.toPV (toH M h') n')∧StayX M wp h h':=by
 unfold calI at hk
 split at hk
 case h_2=>cases hk
 rename_i b st sz off len cap k i e es
 split at hk
 case h_2=>cases hk
 rename_i t' l0 ys hr hys
 split at hk
 case h_2=>cases hk
 rename_i l hl hb
 obtain ⟨e1,e2⟩:=castL_spec hl
 subst e1 e2
 simp only [Bool.and_eq_true,Bool.not_eq_true'] at hb
 obtain ⟨b1,b2,b3,b4,b5,b6,b7,b8⟩:=hb
 obtain rfl:=Nat.eq_of_beq_eq_true b1
 obtain rfl:=Nat.eq_of_beq_eq_true b2
 obtain rfl:=ikB_eq b3
 have hsM:=blt_spec b4
 have hbs:b≠s:=fun h=>by rw [h,Nat.beq_refl] at b5; cases b5
 obtain ⟨hg,hkk⟩:=guard_some hk
 simp only [Bool.and_eq_true,decide_eq_true_eq] at hg
 obtain ⟨rfl,g2,g3,g4,g5⟩:=hg
 have hf:=fits_spec g4
 obtain ⟨hins,hwid⟩:=hx
 obtain ⟨hbM,hr⟩:=rd_spec hr
 obtain ⟨hR,_⟩:=collEs_spec (g:=enc x.t) (w:=true) (fun x a hx=>by obtain ⟨a,b,c⟩:=coll_spec hx; exact ⟨a,c⟩) hys
 obtain ⟨m,rfl⟩:∃ m:Nat,i=m:=⟨i.toNat,by omega⟩
 have hyl:(toPVL (e::es)).length=ys.length:=by rw [hR.len,List.length_map]
 refine ⟨_,_,_,hkk,?_,(StayX.cons (inB'_true b8) _ _).trans (StayX.cons (inB'_true b7) _ _)⟩
 have hclosed:∀ (q:Nat→Nat→Option (Nat×Nat)),∀ p,p ∈ l.map (enc x.t)∨p ∈ toPVL (e::es)→ren q p=p:=by
  intro q p hp
  rcases hp with hp | hp
  ·rw [List.mem_map] at hp
   obtain ⟨v,_,rfl⟩:=hp
   exact ren_closed q _ (closed_enc v)
  ·exact ren_closed q _ ((closedL_all _).1 (closedXL_ok b6) p hp)
 have hv:=ins_vcall hm hins (i:=m) (es:=l.map (enc x.t)) (ys:=toPVL (e::es)) (cap:=cap) (by rw [List.length_map]; exact capE_ok g5) (by simp; omega) (fun p hp=>by
  rw [List.mem_map] at hp
  obtain ⟨v,_,rfl⟩:=hp
  exact widB_cells hwid v) (by simp [toPVL]) (hR.cells hwid) (by rw [List.length_map,hyl]; exact hf.1) (by rw [List.length_map,hyl]; exact hf.2) hclosed
 simp only [List.length_map] at hv
 have hlen:(toH M h).length=M:=toH_len M h
 refine csem_of_callK (s:=s) (.inr (.inl ⟨rfl,[(b,st)],[.cells (l.map (enc x.t))],fun r L' N=>r=.own 1 1 x.sz 0 (l.length+(toPVL (e::es)).length) none∧L'=[none]∧N=some (.cells ((l.map (enc x.t)).take m++toPVL (e::es)++(l.map (enc x.t)).drop m)),rfl,by simp,?_,?_,by rw [hlen]; exact hsM,?_,?_⟩))
 ·intro j b' s' k' hj hk'
  cases j with
  | zero=>simp at hj hk'; obtain ⟨rfl,rfl⟩:=hj; subst hk'; exact hr
  | succ j=>simp at hj
 ·intro y hy
  simp at hy
  subst hy
  exact hbs
 ·have ea:(toPVL [.own b st x.sz 0 l.length cap,.i .i64 (m:Int),.xl true (e::es)]).map (ren (qin [(b,st)]))=[.own 0 0 x.sz 0 l.length cap,vi m,.sl true (toPVL (e::es))]:=by
   have hq:qin [(b,st)] b st=some (0,0):=by simp [qin]
   have hsl:ren (qin [(b,st)]) (.sl true (toPVL (e::es)))=.sl true (toPVL (e::es)):=by
    simp only [ren,renL_map]
    congr 1
    exact (List.map_congr_left fun p hp=>hclosed _ p (.inr hp)).trans (List.map_id _)
   simp only [toPVL,XV.toPV,List.map_cons,List.map_nil] at hsl ⊢
   rw [hsl]
   simp only [ren,hq]
  rw [ea]
  have eb:([.cells (l.map (enc x.t))]:List Blk).map (renB (qin [(b,st)]))=[.cells (l.map (enc x.t))]:=by
   simp only [List.map_cons,List.map_nil]
   rw [renB_id (fun p hp=>hclosed _ p (.inl hp))]
  rw [eb]
  exact hv
 ·rintro r' L' N ⟨rfl,rfl,rfl⟩ hL
  have hq:qout [(b,st)] s n true 1 1=some (s,n):=by simp [qout]
  have eb:renB (qout [(b,st)] s n true) (.cells ((l.map (enc x.t)).take m++toPVL (e::es)++(l.map (enc x.t)).drop m))=.cells ((l.map (enc x.t)).take m++toPVL (e::es)++(l.map (enc x.t)).drop m):=by
   refine renB_id fun p hp=>hclosed _ p ?_
   simp only [List.mem_append] at hp
   rcases hp with (hp | hp) | hp
   ·exact .inl (List.mem_of_mem_take hp)
   ·exact .inr hp
   ·exact .inl (List.mem_of_mem_drop hp)
  simp only [Option.isSome_some,if_true,ren,hq,callH,eb,List.map_cons,List.map_nil,Option.map_none,List.zip_cons_cons,List.zip_nil_right,putL,hyl]
  have hmv:=PLe.move (h:=((toH M h).set b none).set s (some (n,.cells ((l.map (enc x.t)).take m++toPVL (e::es)++(l.map (enc x.t)).drop m)))) (b:=b) (b':=s) (s:=n) (n:=n+1) (k:=.cells ((l.map (enc x.t)).take m++toPVL (e::es)++(l.map (enc x.t)).drop m)) (by simp [hlen,hsM]) hbs (by simp [hlen,hbM]) x.sz 0 (l.length+ys.length) none
  refine hmv.trans ?_
  simp only [XV.toPV]
  refine PLe.less (Lp.refl _) ?_ (Nat.le_refl _)
  rw [toH_set,toH_set]
  have e3:((((toH M h).set b none).set s (some (n,.cells ((l.map (enc x.t)).take m++toPVL (e::es)++(l.map (enc x.t)).drop m)))).set s none).set b (some (n+1,.cells ((l.map (enc x.t)).take m++toPVL (e::es)++(l.map (enc x.t)).drop m)))=((toH M h).set s none).set b (some (n+1,.cells ((l.map (enc x.t)).take m++toPVL (e::es)++(l.map (enc x.t)).drop m))):=by
   rw [List.set_set,List.set_comm _ _ hbs,List.set_set]
  rw [e3]
  simp only [Option.map_none,Option.map_some,XBlk.toB,insL,Int.toNat_natCast,List.map_append,List.map_take,List.map_drop]
  exact HL.set (HL.refl _) rfl b (.cells (((R2.refl _).append hR).append (R2.refl _)))
inductive EX where
 | ins (x:EI)
 | srt (f k g:Nat) (x y:TT) (cf:(TT.p x y).den→(TT.p x y).den→Int)
def EX.f:EX→Nat
 | .ins x=>x.f
 | .srt f _ _ _ _ _=>f
def EX.ok (P:Program):EX→Prop
 | .ins x=>x.ok P
 | .srt f k g x y cf=>SortF P f k g x y cf
def isClo:XV→Option Nat
 | .clo f [] []=>some f
 | .k (.clo f [] [])=>some f
 | _=>none
theorem isClo_spec {c:XV} {g:Nat} (h:isClo c=some g):c.toPV=.clo g [] []:=by
 unfold isClo at h
 split at h
 ·cases h; rfl
 ·cases h; rfl
 ·cases h
def calR (k g:Nat) (x y:TT) (cf:(TT.p x y).den→(TT.p x y).den→Int) (args:List XV) (M:Nat) (wp:List Nat) (h:Heap) (n s:Nat) {R:Type} (K:KX R):Option R:=match args with
 | [.own b st sz off len cap,c]=>(match rd M h b st,isClo c with
  | some (.rows t' l),some g'=>(match castL t' (.p x y) l,Nat.beq sz k&&(Nat.beq off 0&&(Nat.beq g' g&&inB' wp b)) with
   | some l,true=>cond (decide (len=l.length)&&decide ((l.length:Int) < 4611686018427387904)) (K (.tup []) ((b,some (st,.rows (.p x y) (sortL cf l)))::h) n) none
   | _,_=>none)
  | _,_=>none)
 | _=>none
theorem calR_fr {k g:Nat} {x y:TT} {cf:(TT.p x y).den→(TT.p x y).den→Int} {args:List XV} {M:Nat} {wp:List Nat} {h:Heap} {n s:Nat} {R:Type} {K K':KX R} (hK:∀ v h' n',StayX M wp h h'→K v h' n'=K' v h' n'):calR k g x y cf args M wp h n s K=calR k g x y cf args M wp h n s K':=by
 unfold calR
 split
 ·split
  ·split
   ·rename_i hb
    simp only [Bool.and_eq_true] at hb
    obtain ⟨_,_,_,b4⟩:=hb
    rw [hK]
    exact StayX.cons (inB'_true b4) _ _
   ·rfl
  ·rfl
 ·rfl
theorem calR_csem {f k g:Nat} {x y:TT} {cf:(TT.p x y).den→(TT.p x y).den→Int} (hx:SortF P f k g x y cf) {args:List XV} {M:Nat} {wp:List Nat} {h:Heap} {n s:Nat} {R:Type} {K:KX R} {r:R} (hk:calR k g x y cf args M wp h n s K=some r) :
  ∃ (v:XV) (h':Heap) (n':Nat),K v h' n'=some r∧CSem P f (toPVL args) (toH M h) n (fun p h1 n1=>PLe p h1 n1 v.toPV (toH M h') n')∧StayX M wp h h':=by
 unfold calR at hk
 split at hk
 case h_2=>cases hk
 rename_i b st sz off len cap c
 split at hk
 case h_2=>cases hk
 rename_i t' l0 g' hr hc
 split at hk
 case h_2=>cases hk
 rename_i l hl hb
 obtain ⟨e1,e2⟩:=castL_spec hl
 subst e1 e2
 simp only [Bool.and_eq_true] at hb
 obtain ⟨b1,b2,b3,b4⟩:=hb
 obtain rfl:=Nat.eq_of_beq_eq_true b1
 obtain rfl:=Nat.eq_of_beq_eq_true b2
 obtain rfl:=Nat.eq_of_beq_eq_true b3
 obtain ⟨hg,hkk⟩:=guard_some hk
 simp only [Bool.and_eq_true,decide_eq_true_eq] at hg
 obtain ⟨rfl,g2⟩:=hg
 obtain ⟨hbM,hr⟩:=rd_spec hr
 refine ⟨_,_,_,hkk,?_,StayX.cons (inB'_true b4) _ _⟩
 have hs:=sort_gcall hx (h:=toH M h) (b:=b) (st:=st) (n:=n) (cap:=cap) (l:=l) hr (by omega)
 have ea:toPVL [.own b st sz 0 l.length cap,c]=[.own b st sz 0 l.length cap,.clo g' [] []]:=by
  simp only [toPVL,isClo_spec hc,XV.toPV]
 rw [ea]
 refine ⟨hs.1,fun C t a E vals I hv hr=>(hs.2 C t a E vals I hv hr).mono ?_⟩
 rintro e W' ⟨v,E',rfl,rfl,I',hR⟩
 refine ⟨v,_,_,_,E',rfl,rfl,?_,I',hR⟩
 rw [toH_set]
 exact PLe.refl _ _ _
def calE (x:EX) (args:List XV) (M:Nat) (wp:List Nat) (h:Heap) (n s:Nat) {R:Type} (K:KX R):Option R:=match x with
 | .ins x=>calI x args M wp h n s K
 | .srt _ k g x y cf=>calR k g x y cf args M wp h n s K
theorem calE_fr {x:EX} {args:List XV} {M:Nat} {wp:List Nat} {h:Heap} {n s:Nat} {R:Type} {K K':KX R} (hK:∀ v h' n',StayX M wp h h'→K v h' n'=K' v h' n'):calE x args M wp h n s K=calE x args M wp h n s K':=by
 cases x with
 | ins x=>exact calI_fr hK
 | srt f k g x y cf=>exact calR_fr (s:=s) hK
theorem calE_csem (hm:P.follows .mixedOrders=true) {x:EX} (hx:x.ok P) {args:List XV} {M:Nat} {wp:List Nat} {h:Heap} {n s:Nat} {R:Type} {K:KX R} {r:R} (hk:calE x args M wp h n s K=some r) :
  ∃ (v:XV) (h':Heap) (n':Nat),K v h' n'=some r∧CSem P x.f (toPVL args) (toH M h) n (fun p h1 n1=>PLe p h1 n1 v.toPV (toH M h') n')∧StayX M wp h h':=by
 cases x with
 | ins x=>exact calI_csem hm hx hk
 | srt f k g x y cf=>exact calR_csem (s:=s) hx hk
def findEX:List EX→Nat→Option EX
 | [],_=>none
 | x::r,f=>match Nat.beq x.f f with | true=>some x | false=>findEX r f
def EXsOk (P:Program):List EX→Prop
 | []=>True
 | x::r=>x.ok P∧EXsOk P r
theorem findEX_ok:∀ {l:List EX} {f:Nat} {x:EX},EXsOk P l→findEX l f=some x→x.ok P∧x.f=f
 | [],f,x,_,h=>by cases h
 | y::r,f,x,hl,h=>by
  simp only [findEX] at h
  split at h
  ·rename_i hb; cases h; exact ⟨hl.1,Nat.eq_of_beq_eq_true hb⟩
  ·exact findEX_ok hl.2 h
theorem calE_ok (hm:P.follows .mixedOrders=true) {x:EX} (hx:x.ok P) {args:List XV} {M:Nat} {wp:List Nat} {h:Heap} {n s:Nat} {R:Type} {K:KX R} {r:R} {Q:QP} (hk:calE x args M wp h n s K=some r) (O:OkK true M K r Q):CSem P x.f (toPVL args) (toH M h) n Q:=by
 obtain ⟨v,h',n',h1,h2,h3⟩:=calE_csem hm hx hk
 refine ⟨h2.1,fun C t a E vals I hv hr=>(h2.2 C t a E vals I hv hr).mono ?_⟩
 rintro e W' ⟨v',r',h1',n1',E',rfl,rfl,hle,I',hR⟩
 exact ⟨v',r',h1',n1',E',rfl,rfl,O.le rfl hle (O.ok h1),I',hR⟩
theorem galE1_ok (hm:P.follows .mixedOrders=true) {x:EX} (hx:x.ok P) {args:List XV} {M:Nat} {wp:List Nat} {h:Heap} {n s:Nat} {R:Type} {K:KX R} {r:R} (hk:calE x args M wp h n s K=some r) :
  ∃ (v:XV) (h':Heap) (n':Nat),K v h' n'=some r∧GCall P x.f (toPVL args) (toH M h) n v.toPV (toH M h') n'∧StayX M wp h h':=by
 obtain ⟨v,h',n',h1,h2,h3⟩:=calE_csem hm hx hk
 exact ⟨v,h',n',h1,gcall_of_csem h2,h3⟩
def galE (ext:List EX) (f:Nat) (args:List XV) (M:Nat) (ws:List Nat) (h:Heap) (n s:Nat) (R:Type) (K:KX R):Option R:=match findEX ext f with
 | some x=>calE x args M ws h n s K
 | none=>none
theorem galE_fr {ext:List EX} (f:Nat) (args:List XV) (M:Nat) (ws:List Nat) (h:Heap) (n s:Nat) (R:Type) (K K':KX R) (hK:∀ v h' n',StayX M ws h h'→K v h' n'=K' v h' n'):galE ext f args M ws h n s R K=galE ext f args M ws h n s R K':=by
 unfold galE
 split
 ·exact calE_fr hK
 ·rfl
theorem galE_ok (hm:P.follows .mixedOrders=true) {ext:List EX} (he:EXsOk P ext) {f:Nat} {args:List XV} {M:Nat} {ws:List Nat} {h:Heap} {n s:Nat} {R:Type} {K:KX R} {r:R} (hk:galE ext f args M ws h n s R K=some r) :
  ∃ (v:XV) (h':Heap) (n':Nat),K v h' n'=some r∧GCall P f (toPVL args) (toH M h) n v.toPV (toH M h') n'∧StayX M ws h h':=by
 unfold galE at hk
 split at hk
 ·rename_i x hx
  obtain ⟨hok,rfl⟩:=findEX_ok he hx
  exact galE1_ok hm hok hk
 ·cases hk
end Go.Proofs.YtianfmdemgfgaaaDoor.VL
