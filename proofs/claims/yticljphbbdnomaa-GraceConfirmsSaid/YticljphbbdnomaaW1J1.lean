import Derived.Test.YticljphbbdnomaaW1Xq
import Derived.Test.YticljphbbdnomaaW1Wc
import Derived.Test.YticljphbbdnomaaW1Wi
import Derived.Test.YticljphbbdnomaaW1Vx
import Derived.Test.YticljphbbdnomaaW1Ta
import Derived.Test.YticljphbbdnomaaW1Ya
import Derived.Test.YticljphbbdnomaaW1Yw
import Derived.Test.YticljphbbdnomaaW1Za
section
namespace Go.Proofs.Yticljphbbdnomaa.VL
open Go
set_option linter.unusedVariables false
set_option linter.unusedSimpArgs false
set_option linter.unusedSectionVars false
variable [Val]
variable {P:Program}
theorem gcall_borrow {f:Nat} {args:List PV} {r:PV} {h:List Slot} {n b s:Nat} {es:List PV} (hb:h[b]?=some (some (s,.cells es))) (hp:VPure P f (args.map (frz s es)) r) (hr:plainP r=true):GCall P f args h n r h n:=by
 refine ⟨hp.2.2.1,fun C t a E vals I hv hrep=>?_⟩
 obtain ⟨en,A,hB,hnS⟩:=I.good.blk b s _ hb
 let S1:Nat→Prop:=fun x=>E.S x∨(en.tot≠0∧x=en.rb)
 let E2:Env:=⟨E.w,E.σ,S1⟩
 let E1:Env:=⟨E.w,fun x=>([]:List Ent)[x]?,S1⟩
 have hE:E.le E2:=⟨fun _ h=>.inl h,fun _ _=>rfl,fun _ _ h=>h⟩
 have noAt:∀ {b s:Nat} {k:Blk} {en:Ent},¬ At E1 (slots (([]:List Blk).map some) none) b s k en:=by
  intro b s k en A
  have:=A.σ
  simp [E1] at this
 have hst:∀ x,S1 x→x < E.w.heap.size:=by
  intro x hx
  rcases hx with hx | ⟨h0,rfl⟩
  ·exact I.good.stay x hx
  ·exact A.lt I.good h0
 refine (hp.2.2.2 E.w S1 [] vals rfl ?_ (by rw [hv,List.length_map]) ?_).mono ?_
 ·refine { good:=⟨fun s _=>by simp,fun b s k hb=>?_,fun b b' s s' k k' en en' A=>absurd A noAt,hst⟩,since:=⟨rfl,rfl,rfl,Nat.le_refl _,fun _ _ _=>rfl,fun _ _ h=>h,fun _ h=>h,fun _ h=>.inl h,Nat.le_refl _⟩,touch:=fun b s k en A=>absurd A noAt,defers:=rfl,tsize:=rfl,tmps:=fun i p u hp=>by simp at hp }
  simp only [slots,List.map_nil,List.zipIdx_nil,List.nil_append,Option.map_none,List.length_nil] at hb
  cases b<;>simp at hb
 ·intro i p u hp' hu
  rw [List.getElem?_map,Option.map_eq_some_iff] at hp'
  obtain ⟨q,hq,rfl⟩:=hp'
  have h2:Rep E2 (frz s es q) u:=rep_frz hE A.σ hB (fun h0=>.inr ⟨h0,rfl⟩) (fun _=>rfl) (hrep i q u hq hu)
  exact h2.any_names ((closedL_all _).1 hp.1 _ (List.mem_map.2 ⟨q,List.mem_of_getElem? hq,rfl⟩))
 ·rintro e W' ⟨v,r',L',N',σ',S',rfl,rfl,hLl,J,hR⟩
  have kept:∀ x,x < E.w.heap.size→W'.heap[x]?=E.w.heap[x]?:=fun x hx=>J.since.kept x hx fun ⟨i,en,hi,_⟩=>by simp at hi
  let E':Env:=⟨W',E.σ,E.S⟩
  have hle:E.le E':=⟨fun _ h=>h,fun x hx=>kept x (I.good.stay x hx),fun _ _ h=>h⟩
  refine ⟨v,E',rfl,rfl,?_,rep_plain hR hr⟩
  refine I.step hle J.since.os J.since.tape J.since.output J.since.size (fun x hx=>.inl hx) (fun x hx _=>kept x hx) ⟨I.good.free,?_,?_,?_⟩ ?_ J.since.drawn
  ·intro b s k hb
   obtain ⟨en,A,B,S⟩:=I.good.blk b s k hb
   exact ⟨en,⟨hb,A.σ⟩,B.mono hle (fun h0=>kept _ (A.lt I.good h0)),S⟩
  ·intro b1 b2 s1 s2 k1 k2 en1 en2 A1 A2 q1 q2 he
   exact I.good.inj _ _ _ _ _ _ _ _ ⟨A1.slot,A1.σ⟩ ⟨A2.slot,A2.σ⟩ q1 q2 he
  ·intro x hx
   exact Nat.lt_of_lt_of_le (I.good.stay x hx) J.since.size
  ·intro b s k en A h0
   exact .inl ⟨b,s,k,en,⟨A.slot,A.σ⟩,h0,rfl⟩
end Go.Proofs.Yticljphbbdnomaa.VL
end
section
namespace Go.Proofs.Yticljphbbdnomaa.VL
open Go
set_option linter.unusedVariables false
set_option linter.unusedSimpArgs false
set_option linter.unusedSectionVars false
set_option maxRecDepth 100000
variable [Val]
def ic30v:ICode:=(.seq (.reg false [⟨(some 2),(.mov (.c (.sl true []))),none⟩]) (.seq (.reg false [⟨(some 6),(.mov (.t 0)),none⟩,⟨(some 7),(.call 0 46 [(.t 6)]),none⟩,⟨(some 3),(.mov (.t 7)),none⟩]) (.seq (.seq (.reg false [⟨(some 8),(.mov (.t 3)),none⟩,⟨(some 9),(.len (.t 8)),none⟩,⟨(some 10),(.mov (.c (.v (.int .i64 0)))),none⟩]) (.blk 0 (.loop (.seq (.reg false [⟨(some 11),(.bin .lss (.t 10) (.t 9)),none⟩]) (.seq (.cond (.t 11) .skip (.exit 0)) (.seq (.blk 1 (.seq (.reg false [⟨(some 12),(.mov (.t 10)),none⟩,⟨(some 13),(.iad 4 (.t 8) (.t 10)),none⟩,⟨(some 14),(.load true 4 (.t 13)),none⟩,⟨(some 5),(.alloc 1 (.agg [(.v (.int .i64 0)),(.v (.int .u64 0)),(.v (.int .i64 0)),(.sl true [])])),none⟩,⟨(some 4),(.mov (.t 12)),none⟩,⟨none,(.store 4 (.t 5) (.t 14)),none⟩]) (.reg false [⟨(some 15),(.mov (.t 3)),none⟩,⟨(some 16),(.mov (.t 4)),none⟩,⟨(some 17),(.fad 3 (.t 5)),none⟩,⟨(some 18),(.load false 1 (.t 17)),none⟩,⟨(some 19),(.call 2 47 [(.t 18)]),none⟩,⟨(some 20),(.iad 4 (.t 15) (.t 16)),none⟩,⟨(some 21),(.fad 3 (.t 20)),none⟩,⟨none,(.store 1 (.t 21) (.t 19)),none⟩]))) (.reg false [⟨(some 22),(.bin .add (.t 10) (.c (.v (.int .i64 1)))),none⟩,⟨(some 10),(.mov (.t 22)),none⟩]))))))) (.seq (.reg false [⟨(some 23),(.mov (.t 3)),none⟩,⟨(some 2),(.mov (.t 23)),none⟩]) .ret))))
theorem at30v:(fun o=>cCode Try.prog (slotF [7,5,19] o) (Try.f30.body.getD .skip))=fun o=>some (ic30v.at o):=by kernel_rfl
def ic13v:ICode:=(.seq (.reg false [⟨(some 10),(.mov (.c (.sl true []))),none⟩,⟨(some 11),(.mov (.c (.v (.int .i64 0)))),none⟩]) (.seq (.seq (.reg false [⟨(some 18),(.mov (.t 0)),none⟩,⟨(some 19),(.call 0 14 [(.t 18)]),none⟩,⟨(some 20),(.bin .neq (.t 19) (.c (.v (.int .i64 0)))),none⟩,⟨(some 21),(.mov (.t 20)),none⟩,⟨(some 22),(.mov (.t 1)),(some (21,false))⟩,⟨(some 23),(.call 1 32 [(.t 22)]),(some (21,false))⟩,⟨(some 24),(.un .not (.t 23)),(some (21,false))⟩,⟨(some 25),(.pick (.t 21) (.c (.v (.bool true))) (.t 24)),none⟩,⟨(some 26),(.mov (.t 25)),none⟩,⟨(some 27),(.mov (.t 3)),(some (26,false))⟩,⟨(some 28),(.call 2 32 [(.t 27)]),(some (26,false))⟩,⟨(some 29),(.un .not (.t 28)),(some (26,false))⟩,⟨(some 30),(.pick (.t 26) (.c (.v (.bool true))) (.t 29)),none⟩,⟨(some 31),(.mov (.t 30)),none⟩,⟨(some 32),(.mov (.t 4)),(some (31,false))⟩,⟨(some 33),(.call 3 33 [(.t 32)]),(some (31,false))⟩,⟨(some 34),(.un .not (.t 33)),(some (31,false))⟩,⟨(some 35),(.pick (.t 31) (.c (.v (.bool true))) (.t 34)),none⟩]) (.cond (.t 35) (.seq (.reg false [⟨(some 36),(.mov (.t 0)),none⟩,⟨(some 10),(.mov (.t 36)),none⟩,⟨(some 11),(.mov (.c (.v (.int .i64 1)))),none⟩]) .ret) .skip)) (.seq (.reg false [⟨(some 38),(.mov (.t 0)),none⟩,⟨(some 39),(.mov (.t 1)),none⟩,⟨(some 40),(.call 4 34 [(.t 38),(.t 39)]),none⟩,⟨(some 37),(.mov (.t 40)),none⟩,⟨(some 41),(.ext (.t 37) 0),none⟩,⟨(some 42),(.ext (.t 37) 1),none⟩,⟨(some 12),(.mov (.t 41)),none⟩,⟨(some 13),(.mov (.t 42)),none⟩]) (.seq (.reg false [⟨(some 43),(.mov (.t 1)),none⟩,⟨(some 44),(.mov (.t 2)),none⟩,⟨(some 45),(.mov (.t 4)),none⟩,⟨(some 46),(.mov (.t 3)),none⟩,⟨(some 47),(.bsl 1 (.v (.int .i64 0)) 1 [(0,(.t 46))]),none⟩,⟨(some 48),(.bld [(.v (.int .i64 0)),(.v (.int .u64 0)),(.v (.int .i64 0)),(.sl true [])] [(0,1,(.t 43)),(1,1,(.t 44)),(2,1,(.t 45)),(3,1,(.t 47))]),none⟩,⟨(some 14),(.alloc 5 (.agg [(.v (.int .i64 0)),(.v (.int .u64 0)),(.v (.int .i64 0)),(.sl true [])])),none⟩,⟨none,(.store 4 (.t 14) (.t 48)),none⟩]) (.seq (.reg false [⟨(some 49),(.mov (.t 0)),none⟩,⟨(some 50),(.call 6 30 [(.t 49)]),none⟩,⟨(some 15),(.mov (.t 50)),none⟩]) (.seq (.blk 0 (.seq (.reg false [⟨(some 52),(.mov (.t 13)),none⟩,⟨(some 53),(.un .not (.t 52)),none⟩,⟨(some 51),(.mov (.t 53)),none⟩]) (.cond (.t 51) (.reg true [⟨(some 54),(.mov (.t 15)),none⟩,⟨(some 55),(.mov (.t 12)),none⟩,⟨(some 56),(.mov (.t 12)),none⟩,⟨(some 57),(.slc 4 (.t 54) none (some (.t 55)) (some (.t 56))),none⟩,⟨(some 58),(.load true 4 (.t 14)),none⟩,⟨(some 59),(.bsl 4 (.agg [(.v (.int .i64 0)),(.v (.int .u64 0)),(.v (.int .i64 0)),(.sl true [])]) 1 [(0,(.t 58))]),none⟩,⟨(some 60),(.app 7 4 48 (.agg [(.v (.int .i64 0)),(.v (.int .u64 0)),(.v (.int .i64 0)),(.sl true [])]) (.t 57) (.t 59)),none⟩,⟨(some 61),(.mov (.t 15)),none⟩,⟨(some 62),(.mov (.t 12)),none⟩,⟨(some 63),(.slc 4 (.t 61) (some (.t 62)) none none),none⟩,⟨(some 64),(.app 8 4 48 (.agg [(.v (.int .i64 0)),(.v (.int .u64 0)),(.v (.int .i64 0)),(.sl true [])]) (.t 60) (.t 63)),none⟩,⟨(some 15),(.mov (.t 64)),none⟩]) (.seq (.reg false [⟨(some 66),(.mov (.t 15)),none⟩,⟨(some 67),(.mov (.t 12)),none⟩,⟨(some 68),(.iad 4 (.t 66) (.t 67)),none⟩,⟨(some 69),(.fad 1 (.t 68)),none⟩,⟨(some 70),(.load false 1 (.t 69)),none⟩,⟨(some 71),(.mov (.t 2)),none⟩,⟨(some 72),(.bin .lss (.t 70) (.t 71)),none⟩,⟨(some 65),(.mov (.t 72)),none⟩]) (.cond (.t 65) (.reg false [⟨(some 73),(.mov (.t 15)),none⟩,⟨(some 74),(.mov (.t 12)),none⟩,⟨(some 75),(.load true 4 (.t 14)),none⟩,⟨(some 76),(.iad 4 (.t 73) (.t 74)),none⟩,⟨none,(.store 4 (.t 76) (.t 75)),none⟩]) (.seq (.reg false [⟨(some 78),(.mov (.t 15)),none⟩,⟨(some 79),(.mov (.t 12)),none⟩,⟨(some 80),(.iad 4 (.t 78) (.t 79)),none⟩,⟨(some 81),(.fad 1 (.t 80)),none⟩,⟨(some 82),(.load false 1 (.t 81)),none⟩,⟨(some 83),(.mov (.t 2)),none⟩,⟨(some 84),(.bin .eql (.t 82) (.t 83)),none⟩,⟨(some 77),(.mov (.t 84)),none⟩]) (.cond (.t 77) (.seq (.reg false [⟨(some 86),(.mov (.t 15)),none⟩,⟨(some 87),(.mov (.t 12)),none⟩,⟨(some 88),(.iad 4 (.t 86) (.t 87)),none⟩,⟨(some 89),(.fad 3 (.t 88)),none⟩,⟨(some 90),(.load false 1 (.t 89)),none⟩,⟨(some 91),(.mov (.t 3)),none⟩,⟨(some 92),(.call 9 35 [(.t 90),(.t 91)]),none⟩,⟨(some 85),(.mov (.t 92)),none⟩,⟨(some 93),(.ext (.t 85) 0),none⟩,⟨(some 94),(.ext (.t 85) 1),none⟩,⟨(some 16),(.mov (.t 93)),none⟩,⟨(some 17),(.mov (.t 94)),none⟩]) (.seq (.reg false [⟨(some 95),(.mov (.t 17)),none⟩,⟨(some 96),(.un .not (.t 95)),none⟩]) (.cond (.t 96) (.reg false [⟨(some 97),(.mov (.t 15)),none⟩,⟨(some 98),(.mov (.t 12)),none⟩,⟨(some 99),(.mov (.t 15)),none⟩,⟨(some 100),(.mov (.t 12)),none⟩,⟨(some 101),(.iad 4 (.t 99) (.t 100)),none⟩,⟨(some 102),(.fad 3 (.t 101)),none⟩,⟨(some 103),(.load false 1 (.t 102)),none⟩,⟨(some 104),(.mov (.t 16)),none⟩,⟨(some 105),(.mov (.t 3)),none⟩,⟨(some 106),(.bsl 1 (.v (.int .i64 0)) 1 [(0,(.t 105))]),none⟩,⟨(some 107),(.call 10 36 [(.t 103),(.t 104),(.t 106)]),none⟩,⟨(some 108),(.iad 4 (.t 97) (.t 98)),none⟩,⟨(some 109),(.fad 3 (.t 108)),none⟩,⟨none,(.store 1 (.t 109) (.t 107)),none⟩]) .skip))) .skip))))))) (.seq (.reg false [⟨(some 110),(.mov (.t 15)),none⟩,⟨(some 10),(.mov (.t 110)),none⟩,⟨(some 11),(.mov (.c (.v (.int .i64 0)))),none⟩]) .ret)))))))
theorem at13v:(fun o=>cCode Try.prog (slotF [19,23,28,33,40,14,50,60,64,92,107] o) (Try.f13.body.getD .skip))=fun o=>some (ic13v.at o):=by kernel_rfl
theorem resR_t' (st:St) (ts:List Nat):resR st (ts.map RV.t)=some (resV st ts):=by
 have:∀ ts:List Nat,valsR st (ts.map RV.t)=some (ts.map fun t=>st.ev (.t t)):=by
  intro ts
  induction ts with
  | nil=>rfl
  | cons t r ih=>simp only [List.map_cons,valsR,valR,ih]
 unfold resR
 rw [this]
 match ts with
 | []=>rfl
 | [t]=>rfl
 | t::t'::r=>rfl
def EndG2 (ts:List Nat) (r:PV) (kk:Nat) (h':List Slot) (n':Nat) (e:IExit) (st:St):Prop:=(e=.normal∨e=.ret)∧∃ st',Weak st st'∧resV st' ts=r∧st'.h.take kk=h'∧st'.n=n'
theorem gcall_go2 {f:Nat} {fn:Func} {c:Code} {ic:ICode} {ts:List Nat} {args:List PV} {r:PV} {h h':List Slot} {n n' kk:Nat} {slot:Option Nat→Nat} (nt m fuel:Nat)
  (hf:Try.prog.funcs[f]?=some fn) (hb:fn.body=some c) (hcl:callable Try.prog f=true) (hr:fn.results=(ts.map ResultVar.tmp).toArray) (hnt:fn.ntmps=nt) (hic:cCode Try.prog slot c=some ic)
  (hK:go Try.prog (EndG2 ts r kk h' n') fuel [.code ic] ⟨args++List.replicate (nt - args.length) (.v undef),h++List.replicate m none,n⟩):GCall Try.prog f args h n r h' n':=by
 subst hnt
 refine gcall_of (ts:=ts.map RV.t) hm hf hb hcl (by rw [hr,List.map_map]; rfl) (by simp [RV.okB]) hic m ?_
 refine icWp_mono ?_ (go_sound fuel _ _ hK)
 rintro e st ⟨he,st',hw,h1,h2,h3⟩
 exact ⟨he,st',kk,hw,by rw [resR_t',h1],h2,h3⟩
theorem called_g {s f:Nat} {args:List PV} {dst:Option Nat} {G:Cont} {k:List Itm} {st:St} {r:PV} {h':List Slot} {n':Nat} (h:GCall Try.prog f args st.h st.n r h' n') (hG:G k (St.put ⟨st.t,h',n'⟩ dst r)):called Try.prog false s f args dst G k st:=.inr (.inr ⟨rfl,r,h',n',h,hG⟩)
theorem wrapJ {x:Int} (h0:-9223372036854775808≤x) (h1:x≤9223372036854775807):IntKind.i64.wrap x=x:=wrap_in h0 h1
abbrev DV:=Int×(Int×(Int×List Int))
def byP (d:DV):List PV:=d.2.2.2.map vi
def rowP (d:DV):PV:=.agg [vi d.1,vu d.2.1,vi d.2.2.1,.sl false (byP d)]
def rowO (s n:Nat) (d:DV):PV:=.agg [vi d.1,vu d.2.1,vi d.2.2.1,.own 18 s 1 0 n none]
theorem clone47 {es:List PV} (hne:es≠[]) (hc:∀ e ∈ es,e.cells.length=1) (hcl:closedL es=true) (hl:es.length≤1000):VPure Try.prog 47 [.sl false es] (.sl false es):=by
 have h:=clone_g hm (f:=47) (sz:=1) (b:=8) (z:=vi 0) fi47 (h:=[none]) (n:=0) (x:=.sl false es) (es:=es) rfl hc (by decide) rfl rfl (by omega) (by omega)
 unfold cloneR at h
 rw [if_neg hne] at h
 refine vpure_of_g h (by show (closedL es&&true)=true; rw [hcl]; rfl) ?_
 unfold shut VL.frzAll
 simp [St.freeze,List.range_succ,List.range_zero,frz,frzB,List.take_length]
 simpa only [closed] using hcl
theorem set_same {α:Type} {l:List α} {k:Nat} {e:α} (h:l[k]?=some e):l.set k e=l:=by
 apply List.ext_getElem?
 intro j
 rw [List.getElem?_set]
 split
 ·rename_i e'; subst e'
  rw [if_pos (List.getElem?_eq_some_iff.1 h).1,h]
 ·rfl
theorem byP_cells {l:List Int}:∀ e ∈ l.map vi,e.cells.length=1:=by
 intro e he; obtain ⟨x,_,rfl⟩:=List.mem_map.1 he; rfl
theorem byP_closed (l:List Int):closedL (l.map vi)=true:=by
 rw [closedL_all]; intro e he; obtain ⟨x,_,rfl⟩:=List.mem_map.1 he; rfl
def hO1 (rows:List PV):List Slot:=[none,none,none,none,none,none,none,none,none,none,none,none,none,none,none,none]++[some (1,.cells rows),none]
def hO2 (rows:List PV) (s:Nat) (es:List PV):List Slot:=[none,none,none,none,none,none,none,none,none,none,none,none,none,none,none,none]++[some (1,.cells rows),none,some (s,.cells es),none]
def ownI (l:List DV) (i:Nat) (di:DV) (m:Nat) (st:St):Prop:=∃ k:Nat,k≤l.length∧m=l.length - k ∧
 st=⟨[.dead,.dead,.dead,.own 16 1 4 0 l.length none,.dead,.dead,.dead,.dead,.own 16 1 4 0 l.length none,vi l.length,vi k,.dead,.dead,.dead,.dead,.dead,.dead,.dead,.dead,.dead,.dead,.dead,.dead,.dead],if k≤i then hO1 (l.map rowP) else hO2 ((l.map rowP).set i (rowO (3+i) di.2.2.2.length di)) (3+i) (byP di),if k≤i then 2+k else 3+k⟩
theorem own_ok {x5:Slot} {l:List DV} {i:Nat} {di:DV} (hi:l[i]?=some di) (hl:l.length≤1000) (hb:∀ d ∈ l,d.2.2.2≠[]∧d.2.2.2.length≤1000) :
  GCall Try.prog 30 [.sl false (l.map rowP)] [none,none,none,none,none,x5,none,none,none,none,none,none] 1 (.own 16 1 4 0 l.length none) (hO2 ((l.map rowP).set i (rowO (3+i) di.2.2.2.length di)) (3+i) (byP di)) (3+l.length):=by
 have hil:i < l.length:=(List.getElem?_eq_some_iff.1 hi).1
 refine gcall_go2 24 4 1000 Try.func30 rfl (by kernel_rfl) (ts:=[2]) rfl rfl (kk:=20) (slot:=slotF [7,5,19] 12) (ic:=ic30v.at 12) (congrFun at30v 12) ?_
 simp only [ic30v,ICode.at,atOps,IOper.at,IOp.at,List.cons_append,List.nil_append,List.length_cons,List.length_nil,Nat.reduceAdd,Nat.reduceSub,List.replicate,List.append_nil]
 simp only [go,go1,opOk,opRes,owed_true,branch_true,branch_false,popTo,St.ev,St.put,binV,arith,shifts,unV,bndV,bndOk,isInt,isStr,intOf',strOf,rowAt,blkEs,slotIs,ldv,stv,fillV,partsV,mmV,mmGo,elems,PV.cells,PV.isAgg,PV.stor,Value.oneCell',Option.isSome_some,Option.getD_some,Option.map_some,Option.map_none,if_true,if_false,ite_true,ite_false,and_self,and_true,true_and,reduceCtorEq,true_or,or_true,List.set_cons_zero,List.set_cons_succ,List.getD_cons_zero,List.getD_cons_succ,List.getElem?_cons_zero,List.getElem?_cons_succ,List.map_cons,List.map_nil,List.length_map,List.length_cons,List.length_nil,List.length_set,List.cons_append,List.nil_append,List.drop_zero,List.drop_succ_cons,List.drop_nil,List.take_zero,List.take_succ_cons,List.take_nil,List.range_succ,List.range_zero,Nat.reduceAdd,Nat.reduceSub,Nat.reduceMul,Nat.reduceLT,Nat.reduceLeDiff,Nat.reduceEqDiff,Nat.zero_add,Nat.add_zero,Nat.lt_add_one,Int.reduceToNat,Int.toNat_natCast,Int.natCast_nonneg,Bool.not_true,Bool.not_false,decide_true,decide_false,Bool.true_eq_false,Bool.false_eq_true]
 have h46:=clone_g hm (f:=46) (sz:=4) (b:=48) (z:=.agg [vi 0,vu 0,vi 0,.sl true []]) fi46 (h:=[none,none,none,none,none,x5,none,none,none,none,none,none,none,none,none,none]) (n:=1) (x:=.sl false (l.map rowP)) (es:=l.map rowP) rfl (by intro e he; obtain ⟨d,_,rfl⟩:=List.mem_map.1 he; rfl) (by decide) rfl rfl (by rw [List.length_map]; omega) (by rw [List.length_map]; omega)
 unfold cloneR at h46
 rw [if_neg (by intro h; rw [List.map_eq_nil_iff] at h; subst h; simp at hil)] at h46
 refine called_g h46 ?_
 simp only [go,go1,opOk,opRes,owed_true,branch_true,branch_false,popTo,St.ev,St.put,binV,arith,shifts,unV,bndV,bndOk,isInt,isStr,intOf',strOf,rowAt,blkEs,slotIs,ldv,stv,fillV,partsV,mmV,mmGo,elems,PV.cells,PV.isAgg,PV.stor,Value.oneCell',Option.isSome_some,Option.getD_some,Option.map_some,Option.map_none,if_true,if_false,ite_true,ite_false,and_self,and_true,true_and,reduceCtorEq,true_or,or_true,List.set_cons_zero,List.set_cons_succ,List.getD_cons_zero,List.getD_cons_succ,List.getElem?_cons_zero,List.getElem?_cons_succ,List.map_cons,List.map_nil,List.length_map,List.length_cons,List.length_nil,List.length_set,List.cons_append,List.nil_append,List.drop_zero,List.drop_succ_cons,List.drop_nil,List.take_zero,List.take_succ_cons,List.take_nil,List.range_succ,List.range_zero,Nat.reduceAdd,Nat.reduceSub,Nat.reduceMul,Nat.reduceLT,Nat.reduceLeDiff,Nat.reduceEqDiff,Nat.zero_add,Nat.add_zero,Nat.lt_add_one,Int.reduceToNat,Int.toNat_natCast,Int.natCast_nonneg,Bool.not_true,Bool.not_false,decide_true,decide_false,Bool.true_eq_false,Bool.false_eq_true]
 refine looped_of (ownI l i di) l.length (Weak.keep _ [3,8,9,10] [16]) ⟨0,Nat.zero_le _,rfl,by simp [St.keep,keepT,keepS,hO1]⟩ 1000 ?_
 rintro m st ⟨k,hk,hm',rfl⟩
 simp only [go,go1,opOk,opRes,owed_true,branch_true,branch_false,popTo,St.ev,St.put,binV,arith,shifts,unV,bndV,bndOk,isInt,isStr,intOf',strOf,rowAt,blkEs,slotIs,ldv,stv,fillV,partsV,mmV,mmGo,elems,PV.cells,PV.isAgg,PV.stor,Value.oneCell',Option.isSome_some,Option.getD_some,Option.map_some,Option.map_none,if_true,if_false,ite_true,ite_false,and_self,and_true,true_and,reduceCtorEq,true_or,or_true,List.set_cons_zero,List.set_cons_succ,List.getD_cons_zero,List.getD_cons_succ,List.getElem?_cons_zero,List.getElem?_cons_succ,List.map_cons,List.map_nil,List.length_map,List.length_cons,List.length_nil,List.length_set,List.cons_append,List.nil_append,List.drop_zero,List.drop_succ_cons,List.drop_nil,List.take_zero,List.take_succ_cons,List.take_nil,List.range_succ,List.range_zero,Nat.reduceAdd,Nat.reduceSub,Nat.reduceMul,Nat.reduceLT,Nat.reduceLeDiff,Nat.reduceEqDiff,Nat.zero_add,Nat.add_zero,Nat.lt_add_one,Int.reduceToNat,Int.toNat_natCast,Int.natCast_nonneg,Bool.not_true,Bool.not_false,decide_true,decide_false,Bool.true_eq_false,Bool.false_eq_true]
 by_cases hlt:k < l.length
 ·have hlt':(k:Int) < (l.length:Int):=by omega
  have h0k:(0:Int)≤(k:Int):=by omega
  have gk:=List.getElem?_eq_getElem hlt
  obtain ⟨hbn,hbl⟩:=hb _ (List.getElem_mem hlt)
  generalize hdk:l[k]=dk at *
  have w1:IntKind.i64.wrap ((k:Int)+1)=((k+1:Nat):Int):=by rw [wrapJ (by omega) (by omega)]; omega
  have gm:(l.map rowP).getD k .dead=.agg [vi dk.1,vu dk.2.1,vi dk.2.2.1,.sl false (byP dk)]:=by rw [List.getD_eq_getElem?_getD,List.getElem?_map,gk]; rfl
  rcases Nat.lt_trichotomy k i with hki | hki | hki
  ·rw [if_pos (by omega),if_pos (by omega)]
   simp only [hO1,hlt',h0k,gm,hlt,go,go1,opOk,opRes,owed_true,branch_true,branch_false,popTo,St.ev,St.put,binV,arith,shifts,unV,bndV,bndOk,isInt,isStr,intOf',strOf,rowAt,blkEs,slotIs,ldv,stv,fillV,partsV,mmV,mmGo,elems,PV.cells,PV.isAgg,PV.stor,Value.oneCell',Option.isSome_some,Option.getD_some,Option.map_some,Option.map_none,if_true,if_false,ite_true,ite_false,and_self,and_true,true_and,reduceCtorEq,true_or,or_true,List.set_cons_zero,List.set_cons_succ,List.getD_cons_zero,List.getD_cons_succ,List.getElem?_cons_zero,List.getElem?_cons_succ,List.map_cons,List.map_nil,List.length_map,List.length_cons,List.length_nil,List.length_set,List.cons_append,List.nil_append,List.drop_zero,List.drop_succ_cons,List.drop_nil,List.take_zero,List.take_succ_cons,List.take_nil,List.range_succ,List.range_zero,Nat.reduceAdd,Nat.reduceSub,Nat.reduceMul,Nat.reduceLT,Nat.reduceLeDiff,Nat.reduceEqDiff,Nat.zero_add,Nat.add_zero,Nat.lt_add_one,Int.reduceToNat,Int.toNat_natCast,Int.natCast_nonneg,Bool.not_true,Bool.not_false,decide_true,decide_false,Bool.true_eq_false,Bool.false_eq_true]
   refine called_pure (clone47 (es:=byP dk) (by unfold byP; rw [ne_eq,List.map_eq_nil_iff]; exact hbn) byP_cells (byP_closed _) (by unfold byP; rw [List.length_map]; exact hbl)) ?_
   simp only [hlt',h0k,gm,hlt,w1,go,go1,opOk,opRes,owed_true,branch_true,branch_false,popTo,St.ev,St.put,binV,arith,shifts,unV,bndV,bndOk,isInt,isStr,intOf',strOf,rowAt,blkEs,slotIs,ldv,stv,fillV,partsV,mmV,mmGo,elems,PV.cells,PV.isAgg,PV.stor,Value.oneCell',Option.isSome_some,Option.getD_some,Option.map_some,Option.map_none,if_true,if_false,ite_true,ite_false,and_self,and_true,true_and,reduceCtorEq,true_or,or_true,List.set_cons_zero,List.set_cons_succ,List.getD_cons_zero,List.getD_cons_succ,List.getElem?_cons_zero,List.getElem?_cons_succ,List.map_cons,List.map_nil,List.length_map,List.length_cons,List.length_nil,List.length_set,List.cons_append,List.nil_append,List.drop_zero,List.drop_succ_cons,List.drop_nil,List.take_zero,List.take_succ_cons,List.take_nil,List.range_succ,List.range_zero,Nat.reduceAdd,Nat.reduceSub,Nat.reduceMul,Nat.reduceLT,Nat.reduceLeDiff,Nat.reduceEqDiff,Nat.zero_add,Nat.add_zero,Nat.lt_add_one,Int.reduceToNat,Int.toNat_natCast,Int.natCast_nonneg,Bool.not_true,Bool.not_false,decide_true,decide_false,Bool.true_eq_false,Bool.false_eq_true]
   rw [set_same (l:=l.map rowP) (k:=k) (e:=.agg [vi dk.1,vu dk.2.1,vi dk.2.2.1,.sl false (byP dk)]) (by rw [List.getElem?_map,gk]; rfl)]
   exact again_of (l.length - (k+1)) (by omega) (Weak.keep _ [3,8,9,10] [16]) ⟨k+1,by omega,rfl,by rw [if_pos (by omega),if_pos (by omega)]; simp [St.keep,keepT,keepS,hO1,Nat.add_assoc]⟩
  ·subst hki
   rw [if_pos (by omega),if_pos (by omega)]
   have hdi:dk=di:=by rw [gk] at hi; exact Option.some.inj hi
   subst hdi
   simp only [hO1,hlt',h0k,gm,hlt,go,go1,opOk,opRes,owed_true,branch_true,branch_false,popTo,St.ev,St.put,binV,arith,shifts,unV,bndV,bndOk,isInt,isStr,intOf',strOf,rowAt,blkEs,slotIs,ldv,stv,fillV,partsV,mmV,mmGo,elems,PV.cells,PV.isAgg,PV.stor,Value.oneCell',Option.isSome_some,Option.getD_some,Option.map_some,Option.map_none,if_true,if_false,ite_true,ite_false,and_self,and_true,true_and,reduceCtorEq,true_or,or_true,List.set_cons_zero,List.set_cons_succ,List.getD_cons_zero,List.getD_cons_succ,List.getElem?_cons_zero,List.getElem?_cons_succ,List.map_cons,List.map_nil,List.length_map,List.length_cons,List.length_nil,List.length_set,List.cons_append,List.nil_append,List.drop_zero,List.drop_succ_cons,List.drop_nil,List.take_zero,List.take_succ_cons,List.take_nil,List.range_succ,List.range_zero,Nat.reduceAdd,Nat.reduceSub,Nat.reduceMul,Nat.reduceLT,Nat.reduceLeDiff,Nat.reduceEqDiff,Nat.zero_add,Nat.add_zero,Nat.lt_add_one,Int.reduceToNat,Int.toNat_natCast,Int.natCast_nonneg,Bool.not_true,Bool.not_false,decide_true,decide_false,Bool.true_eq_false,Bool.false_eq_true]
   have h47:=clone_g hm (f:=47) (sz:=1) (b:=8) (z:=vi 0) fi47 (h:=[none,none,none,none,none,none,none,none,none,none,none,none,none,
     some (2+k,Blk.cells [PV.agg [vi dk.fst,vu dk.snd.fst,vi dk.snd.snd.fst,PV.sl false (byP dk)]]),none,
     none,some (1,Blk.cells (List.map rowP l)),none]) (n:=2+k+1) (x:=.sl false (byP dk)) (es:=byP dk) rfl byP_cells (by decide) rfl rfl (by unfold byP; rw [List.length_map]; omega) (by unfold byP; rw [List.length_map]; omega)
   unfold cloneR at h47
   rw [if_neg (by unfold byP; rw [List.map_eq_nil_iff]; exact hbn)] at h47
   refine called_g h47 ?_
   simp only [hlt',h0k,gm,hlt,w1,go,go1,opOk,opRes,owed_true,branch_true,branch_false,popTo,St.ev,St.put,binV,arith,shifts,unV,bndV,bndOk,isInt,isStr,intOf',strOf,rowAt,blkEs,slotIs,ldv,stv,fillV,partsV,mmV,mmGo,elems,PV.cells,PV.isAgg,PV.stor,Value.oneCell',Option.isSome_some,Option.getD_some,Option.map_some,Option.map_none,if_true,if_false,ite_true,ite_false,and_self,and_true,true_and,reduceCtorEq,true_or,or_true,List.set_cons_zero,List.set_cons_succ,List.getD_cons_zero,List.getD_cons_succ,List.getElem?_cons_zero,List.getElem?_cons_succ,List.map_cons,List.map_nil,List.length_map,List.length_cons,List.length_nil,List.length_set,List.cons_append,List.nil_append,List.drop_zero,List.drop_succ_cons,List.drop_nil,List.take_zero,List.take_succ_cons,List.take_nil,List.range_succ,List.range_zero,Nat.reduceAdd,Nat.reduceSub,Nat.reduceMul,Nat.reduceLT,Nat.reduceLeDiff,Nat.reduceEqDiff,Nat.zero_add,Nat.add_zero,Nat.lt_add_one,Int.reduceToNat,Int.toNat_natCast,Int.natCast_nonneg,Bool.not_true,Bool.not_false,decide_true,decide_false,Bool.true_eq_false,Bool.false_eq_true]
   have e1:2+k+1=3+k:=by omega
   have e2:(byP dk).length=dk.2.2.2.length:=by unfold byP; rw [List.length_map]
   rw [e1,e2]
   exact again_of (l.length - (k+1)) (by omega) (Weak.keep _ [3,8,9,10] [16,18]) ⟨k+1,by omega,rfl,by rw [if_neg (by omega),if_neg (by omega)]; simp [St.keep,keepT,keepS,hO2,rowO,Nat.add_assoc]⟩
  ·rw [if_neg (by omega),if_neg (by omega)]
   have gm2:((l.map rowP).set i (rowO (3+i) di.2.2.2.length di)).getD k .dead=.agg [vi dk.1,vu dk.2.1,vi dk.2.2.1,.sl false (byP dk)]:=by
    rw [List.getD_eq_getElem?_getD,List.getElem?_set_ne (by omega),List.getElem?_map,gk]; rfl
   simp only [hO2,hlt',h0k,gm2,hlt,go,go1,opOk,opRes,owed_true,branch_true,branch_false,popTo,St.ev,St.put,binV,arith,shifts,unV,bndV,bndOk,isInt,isStr,intOf',strOf,rowAt,blkEs,slotIs,ldv,stv,fillV,partsV,mmV,mmGo,elems,PV.cells,PV.isAgg,PV.stor,Value.oneCell',Option.isSome_some,Option.getD_some,Option.map_some,Option.map_none,if_true,if_false,ite_true,ite_false,and_self,and_true,true_and,reduceCtorEq,true_or,or_true,List.set_cons_zero,List.set_cons_succ,List.getD_cons_zero,List.getD_cons_succ,List.getElem?_cons_zero,List.getElem?_cons_succ,List.map_cons,List.map_nil,List.length_map,List.length_cons,List.length_nil,List.length_set,List.cons_append,List.nil_append,List.drop_zero,List.drop_succ_cons,List.drop_nil,List.take_zero,List.take_succ_cons,List.take_nil,List.range_succ,List.range_zero,Nat.reduceAdd,Nat.reduceSub,Nat.reduceMul,Nat.reduceLT,Nat.reduceLeDiff,Nat.reduceEqDiff,Nat.zero_add,Nat.add_zero,Nat.lt_add_one,Int.reduceToNat,Int.toNat_natCast,Int.natCast_nonneg,Bool.not_true,Bool.not_false,decide_true,decide_false,Bool.true_eq_false,Bool.false_eq_true]
   refine called_pure (clone47 (es:=byP dk) (by unfold byP; rw [ne_eq,List.map_eq_nil_iff]; exact hbn) byP_cells (byP_closed _) (by unfold byP; rw [List.length_map]; exact hbl)) ?_
   simp only [hlt',h0k,gm2,hlt,w1,go,go1,opOk,opRes,owed_true,branch_true,branch_false,popTo,St.ev,St.put,binV,arith,shifts,unV,bndV,bndOk,isInt,isStr,intOf',strOf,rowAt,blkEs,slotIs,ldv,stv,fillV,partsV,mmV,mmGo,elems,PV.cells,PV.isAgg,PV.stor,Value.oneCell',Option.isSome_some,Option.getD_some,Option.map_some,Option.map_none,if_true,if_false,ite_true,ite_false,and_self,and_true,true_and,reduceCtorEq,true_or,or_true,List.set_cons_zero,List.set_cons_succ,List.getD_cons_zero,List.getD_cons_succ,List.getElem?_cons_zero,List.getElem?_cons_succ,List.map_cons,List.map_nil,List.length_map,List.length_cons,List.length_nil,List.length_set,List.cons_append,List.nil_append,List.drop_zero,List.drop_succ_cons,List.drop_nil,List.take_zero,List.take_succ_cons,List.take_nil,List.range_succ,List.range_zero,Nat.reduceAdd,Nat.reduceSub,Nat.reduceMul,Nat.reduceLT,Nat.reduceLeDiff,Nat.reduceEqDiff,Nat.zero_add,Nat.add_zero,Nat.lt_add_one,Int.reduceToNat,Int.toNat_natCast,Int.natCast_nonneg,Bool.not_true,Bool.not_false,decide_true,decide_false,Bool.true_eq_false,Bool.false_eq_true]
   rw [set_same (l:=(l.map rowP).set i (rowO (3+i) di.2.2.2.length di)) (k:=k) (e:=.agg [vi dk.1,vu dk.2.1,vi dk.2.2.1,.sl false (byP dk)]) (by rw [List.getElem?_set_ne (by omega),List.getElem?_map,gk]; rfl)]
   exact again_of (l.length - (k+1)) (by omega) (Weak.keep _ [3,8,9,10] [16,18]) ⟨k+1,by omega,rfl,by rw [if_neg (by omega),if_neg (by omega)]; simp [St.keep,keepT,keepS,hO2,Nat.add_assoc]⟩
 ·have hkl:k=l.length:=by omega
  subst hkl
  have hge:¬ (l.length:Int) < (l.length:Int):=by omega
  rw [if_neg (by omega),if_neg (by omega)]
  simp only [hO2,hge,go,go1,opOk,opRes,owed_true,branch_true,branch_false,popTo,St.ev,St.put,binV,arith,shifts,unV,bndV,bndOk,isInt,isStr,intOf',strOf,rowAt,blkEs,slotIs,ldv,stv,fillV,partsV,mmV,mmGo,elems,PV.cells,PV.isAgg,PV.stor,Value.oneCell',Option.isSome_some,Option.getD_some,Option.map_some,Option.map_none,if_true,if_false,ite_true,ite_false,and_self,and_true,true_and,reduceCtorEq,true_or,or_true,List.set_cons_zero,List.set_cons_succ,List.getD_cons_zero,List.getD_cons_succ,List.getElem?_cons_zero,List.getElem?_cons_succ,List.map_cons,List.map_nil,List.length_map,List.length_cons,List.length_nil,List.length_set,List.cons_append,List.nil_append,List.drop_zero,List.drop_succ_cons,List.drop_nil,List.take_zero,List.take_succ_cons,List.take_nil,List.range_succ,List.range_zero,Nat.reduceAdd,Nat.reduceSub,Nat.reduceMul,Nat.reduceLT,Nat.reduceLeDiff,Nat.reduceEqDiff,Nat.zero_add,Nat.add_zero,Nat.lt_add_one,Int.reduceToNat,Int.toNat_natCast,Int.natCast_nonneg,Bool.not_true,Bool.not_false,decide_true,decide_false,Bool.true_eq_false,Bool.false_eq_true]
  exact ⟨.inr rfl,_,Weak.refl _,by simp [resV,St.ev],rfl,rfl⟩
end Go.Proofs.Yticljphbbdnomaa.VL
end
section
namespace Go.Proofs.Yticljphbbdnomaa.VL
open Go
set_option linter.unusedVariables false
set_option linter.unusedSimpArgs false
set_option linter.unusedSectionVars false
set_option maxRecDepth 100000
variable [Val]
theorem insF36:InsF Try.prog 36 1 8 (vi 0):=⟨⟨_,_,54,Try.func36,rfl,by kernel_rfl,rfl,by kernel_rfl,by kernel_rfl⟩,by decide,rfl,rfl⟩
theorem called_ins {f s b st0 i:Nat} {es ys:List PV} {dst:Option Nat} {G:Cont} {k:List Itm} {st:St} (hF:InsF Try.prog f 1 8 (vi 0)) (hb:st.h[b]?=some (some (st0,.cells es))) (hs:s < st.h.length) (hbs:b≠s) (hi:i≤es.length)
  (hce:∀ e ∈ es,e.cells.length=1) (hcl:closedL es=true) (hy:ys≠[]) (hye:∀ e ∈ ys,e.cells.length=1) (hycl:closedL ys=true) (hl:es.length+ys.length≤2000)
  (hG:G k (St.put ⟨st.t,(st.h.set b none).set s (some (st.n,.cells (es.take i++ys++es.drop i))),st.n+1⟩ dst (.own s st.n 1 0 (es.length+ys.length) none))) :
  called Try.prog false s f [.own b st0 1 0 es.length none,vi i,.sl true ys] dst G k st:=by
 have hclosed:∀ (q:Nat→Nat→Option (Nat×Nat)),∀ p,p ∈ es∨p ∈ ys→ren q p=p:=by
  intro q p hp
  rcases hp with hp | hp
  ·exact ren_closed q _ ((closedL_all _).1 hcl p hp)
  ·exact ren_closed q _ ((closedL_all _).1 hycl p hp)
 have hv:=ins_vcall hm hF (i:=i) (es:=es) (ys:=ys) (cap:=none) (.inl rfl) hi hce hy hye (by omega) (by omega) hclosed
 refine .inr (.inl ⟨rfl,[(b,st0)],[.cells es],(fun r L' N=>r=.own 1 1 1 0 (es.length+ys.length) none∧L'=[none]∧N=some (.cells (es.take i++ys++es.drop i))),rfl,by simp,?_,?_,hs,?_,?_⟩)
 ·intro j b' s' k' hj hk'
  cases j with
  | zero=>simp at hj hk'; obtain ⟨rfl,rfl⟩:=hj; subst hk'; exact hb
  | succ j=>simp at hj
 ·intro y hy
  simp at hy
  subst hy
  exact hbs
 ·have ea:([.own b st0 1 0 es.length none,vi i,.sl true ys]:List PV).map (ren (qin [(b,st0)]))=[.own 0 0 1 0 es.length none,vi i,.sl true ys]:=by
   have hq:qin [(b,st0)] b st0=some (0,0):=by simp [qin]
   have hsl:ren (qin [(b,st0)]) (.sl true ys)=.sl true ys:=by
    simp only [ren,renL_map]
    congr 1
    exact (List.map_congr_left fun p hp=>hclosed _ p (.inr hp)).trans (List.map_id _)
   simp only [List.map_cons,List.map_nil] at hsl ⊢
   rw [hsl]
   simp only [ren,hq]
  rw [ea]
  have eb:([.cells es]:List Blk).map (renB (qin [(b,st0)]))=[.cells es]:=by
   simp only [List.map_cons,List.map_nil]
   rw [renB_id (fun p hp=>hclosed _ p (.inl hp))]
  rw [eb]
  exact hv
 ·rintro r' L' N ⟨rfl,rfl,rfl⟩ hL
  have hq:qout [(b,st0)] s st.n true 1 1=some (s,st.n):=by simp [qout]
  have eb:renB (qout [(b,st0)] s st.n true) (.cells (es.take i++ys++es.drop i))=.cells (es.take i++ys++es.drop i):=by
   refine renB_id fun p hp=>hclosed _ p ?_
   simp only [List.mem_append] at hp
   rcases hp with (hp | hp) | hp
   ·exact .inl (List.mem_of_mem_take hp)
   ·exact .inr hp
   ·exact .inl (List.mem_of_mem_drop hp)
  simp only [Option.isSome_some,if_true,ren,hq,callH,eb,List.map_cons,List.map_nil,Option.map_none,List.zip_cons_cons,List.zip_nil_right,putL]
  exact hG
theorem rowP_closed (d:DV):closed (rowP d)=true:=by
 have:=byP_closed d.2.2.2
 show closedL [vi d.1,vu d.2.1,vi d.2.2.1,.sl false (byP d)]=true
 simpa [closedL,closed,byP] using this
theorem frz_rows {l:List DV} {i s:Nat} {di:DV} {es:List PV}:((l.map rowP).set i (.agg [vi di.1,vu di.2.1,vi di.2.2.1,.own 10 s 1 0 es.length none])).map (frz s es)=(l.map rowP).set i (.agg [vi di.1,vu di.2.1,vi di.2.2.1,.sl false es]):=by
 rw [List.map_set]
 have e1:(l.map rowP).map (frz s es)=l.map rowP:=by
  rw [List.map_map]
  exact List.map_congr_left fun d _=>frz_closed s es _ (rowP_closed d)
 have e2:frz s es (.agg [vi di.1,vu di.2.1,vi di.2.2.1,.own 10 s 1 0 es.length none])=.agg [vi di.1,vu di.2.1,vi di.2.2.1,.sl false es]:=by
  simp only [frz,frzL,if_true,Nat.zero_add,Nat.le_refl,List.drop_zero,List.take_length]
  rfl
 rw [e1,e2]
theorem raise_end {t:List PV} {l:List DV} {i:Nat} {di:DV} {es:List PV} {L:Nat} (hL:l.length=L) :
  resV (((⟨[.dead,.dead,.dead,.dead,.dead,.dead,.dead,.dead,.dead,.dead,.own 16 1 4 0 L none,vi 0,.dead,.dead,.dead,.dead,.dead,.dead,.dead,.dead,.dead,.dead,.dead,.dead,.dead,.dead,.dead,.dead,.dead,.dead,.dead,.dead,.dead,.dead,.dead,.dead,.dead,.dead,.dead,.dead,.dead,.dead,.dead,.dead,.dead,.dead,.dead,.dead,.dead,.dead,.dead,.dead,.dead,.dead,.dead,.dead,.dead,.dead,.dead,.dead,.dead,.dead,.dead,.dead,.dead,.dead,.dead,.dead,.dead,.dead,.dead,.dead,.dead,.dead,.dead,.dead,.dead,.dead,.dead,.dead,.dead,.dead,.dead,.dead,.dead,.dead,.dead,.dead,.dead,.dead,.dead,.dead,.dead,.dead,.dead,.dead,.dead,.dead,.dead,.dead,.dead,.dead,.dead,.dead,.dead,.dead,.dead,.dead,.dead,.dead,.dead],[none,none,none,none,none,none,none,none,none,none,some (3+L,.cells es),none,none,none,none,none,some (1,.cells ((l.map rowP).set i (.agg [vi di.1,vu di.2.1,vi di.2.2.1,.own 10 (3+L) 1 0 es.length none]))),none,none,none],3+L+1⟩:St).freeze 10).freeze 16) [10,11]=.tup [.sl false ((l.map rowP).set i (.agg [vi di.1,vu di.2.1,vi di.2.2.1,.sl false es])),vi 0]:=by
 have h1:¬ (1:Nat)=3+L:=by omega
 have e:(⟨[.dead,.dead,.dead,.dead,.dead,.dead,.dead,.dead,.dead,.dead,.own 16 1 4 0 L none,vi 0,.dead,.dead,.dead,.dead,.dead,.dead,.dead,.dead,.dead,.dead,.dead,.dead,.dead,.dead,.dead,.dead,.dead,.dead,.dead,.dead,.dead,.dead,.dead,.dead,.dead,.dead,.dead,.dead,.dead,.dead,.dead,.dead,.dead,.dead,.dead,.dead,.dead,.dead,.dead,.dead,.dead,.dead,.dead,.dead,.dead,.dead,.dead,.dead,.dead,.dead,.dead,.dead,.dead,.dead,.dead,.dead,.dead,.dead,.dead,.dead,.dead,.dead,.dead,.dead,.dead,.dead,.dead,.dead,.dead,.dead,.dead,.dead,.dead,.dead,.dead,.dead,.dead,.dead,.dead,.dead,.dead,.dead,.dead,.dead,.dead,.dead,.dead,.dead,.dead,.dead,.dead,.dead,.dead,.dead,.dead,.dead,.dead,.dead,.dead],[none,none,none,none,none,none,none,none,none,none,some (3+L,.cells es),none,none,none,none,none,some (1,.cells ((l.map rowP).set i (.agg [vi di.1,vu di.2.1,vi di.2.2.1,.own 10 (3+L) 1 0 es.length none]))),none,none,none],3+L+1⟩:St).freeze 10=⟨[.dead,.dead,.dead,.dead,.dead,.dead,.dead,.dead,.dead,.dead,.own 16 1 4 0 L none,vi 0,.dead,.dead,.dead,.dead,.dead,.dead,.dead,.dead,.dead,.dead,.dead,.dead,.dead,.dead,.dead,.dead,.dead,.dead,.dead,.dead,.dead,.dead,.dead,.dead,.dead,.dead,.dead,.dead,.dead,.dead,.dead,.dead,.dead,.dead,.dead,.dead,.dead,.dead,.dead,.dead,.dead,.dead,.dead,.dead,.dead,.dead,.dead,.dead,.dead,.dead,.dead,.dead,.dead,.dead,.dead,.dead,.dead,.dead,.dead,.dead,.dead,.dead,.dead,.dead,.dead,.dead,.dead,.dead,.dead,.dead,.dead,.dead,.dead,.dead,.dead,.dead,.dead,.dead,.dead,.dead,.dead,.dead,.dead,.dead,.dead,.dead,.dead,.dead,.dead,.dead,.dead,.dead,.dead,.dead,.dead,.dead,.dead,.dead,.dead],[none,none,none,none,none,none,none,none,none,none,none,none,none,none,none,none,some (1,.cells ((l.map rowP).set i (.agg [vi di.1,vu di.2.1,vi di.2.2.1,.sl false es]))),none,none,none],3+L+1⟩:=by
  simp only [St.freeze,List.getElem?_cons_succ,List.getElem?_cons_zero,List.map_cons,List.map_nil,frz,if_neg h1,List.set_cons_succ,List.set_cons_zero,Option.map_none,Option.map_some,frzB,frz_rows]
 rw [e]
 have hl2:0+L≤((l.map rowP).set i (.agg [vi di.1,vu di.2.1,vi di.2.2.1,.sl false es])).length:=by rw [List.length_set,List.length_map]; omega
 have e3:((l.map rowP).set i (.agg [vi di.1,vu di.2.1,vi di.2.2.1,.sl false es])).take L=(l.map rowP).set i (.agg [vi di.1,vu di.2.1,vi di.2.2.1,.sl false es]):=List.take_of_length_le (by rw [List.length_set,List.length_map]; omega)
 simp only [St.freeze,List.getElem?_cons_succ,List.getElem?_cons_zero,List.map_cons,List.map_nil,frz,if_pos hl2,if_true,resV,St.ev,List.getD_cons_succ,List.getD_cons_zero,List.drop_zero,e3]
 rfl
theorem raise_in {l:List DV} {who inc by' now:Int} {i k:Nat} {di:DV} (hl:l.length≤1000) (hb:∀ d ∈ l,d.2.2.2≠[]∧d.2.2.2.length≤1000)
  (h14:VPure Try.prog 14 [.sl false (l.map rowP)] (vi 0)) (h32w:VPure Try.prog 32 [vi who] (vb true)) (h32b:VPure Try.prog 32 [vi by'] (vb true)) (h33:VPure Try.prog 33 [vi now] (vb true))
  (h34:VPure Try.prog 34 [.sl false (l.map rowP),vi who] (.tup [vi i,vb true])) (hi:l[i]?=some di) (hinc:di.2.1=inc)
  (h35:VPure Try.prog 35 [.sl false (byP di),vi by'] (.tup [vi k,vb false])) (hk:k≤di.2.2.2.length) :
  VPure Try.prog 13 [.sl false (l.map rowP),vi who,vu inc,vi by',vi now] (.tup [.sl false ((l.map rowP).set i (.agg [vi di.1,vu di.2.1,vi di.2.2.1,.sl false ((byP di).take k++[vi by']++(byP di).drop k)])),vi 0]):=by
 have hil:i < l.length:=(List.getElem?_eq_some_iff.1 hi).1
 refine vpure_go hm 111 1000 Try.func13 rfl (by kernel_rfl) (ts:=[10,11]) rfl rfl (congrFun at13v 0) h14.1 ?_ ?_
 ·have hx:closedL ((byP di).take k++[vi by']++(byP di).drop k)=true:=by
   rw [closedL_all]
   intro p hp
   have hc:=(closedL_all _).1 (byP_closed di.2.2.2)
   simp only [List.mem_append,List.mem_singleton] at hp
   rcases hp with (hp | hp) | hp
   ·exact hc p (List.mem_of_mem_take hp)
   ·subst hp; rfl
   ·exact hc p (List.mem_of_mem_drop hp)
  have hs:closedL ((l.map rowP).set i (.agg [vi di.1,vu di.2.1,vi di.2.2.1,.sl false ((byP di).take k++[vi by']++(byP di).drop k)]))=true:=by
   rw [closedL_all]
   intro p hp
   rcases List.mem_or_eq_of_mem_set hp with hp | rfl
   ·obtain ⟨d,_,rfl⟩:=List.mem_map.1 hp; exact rowP_closed d
   ·show closedL [vi di.1,vu di.2.1,vi di.2.2.1,.sl false ((byP di).take k++[vi by']++(byP di).drop k)]=true
    simp only [closedL,closed,hx,Bool.and_true]
  simp only [closedL,closed,hs,Bool.and_true]
 simp only [startSt,List.replicate,List.cons_append,List.nil_append,List.append_nil,List.length_cons,List.length_nil,List.zipIdx_nil,List.map_nil,Nat.reduceAdd,Nat.reduceSub,ic13v,ICode.at,atOps,IOper.at,IOp.at]
 simp only [go,go1,opOk,opRes,owed_true,branch_true,branch_false,popTo,St.ev,St.put,binV,arith,shifts,unV,bndV,bndOk,isInt,isStr,intOf',strOf,rowAt,blkEs,slotIs,ldv,stv,fillV,partsV,mmV,mmGo,elems,PV.cells,PV.isAgg,PV.stor,Value.oneCell',Option.isSome_some,Option.getD_some,Option.map_some,Option.map_none,if_true,if_false,ite_true,ite_false,and_self,and_true,true_and,reduceCtorEq,true_or,or_true,List.set_cons_zero,List.set_cons_succ,List.getD_cons_zero,List.getD_cons_succ,List.getElem?_cons_zero,List.getElem?_cons_succ,List.map_cons,List.map_nil,List.length_map,List.length_cons,List.length_nil,List.length_set,List.cons_append,List.nil_append,List.drop_zero,List.drop_succ_cons,List.drop_nil,List.take_zero,List.take_succ_cons,List.take_nil,List.range_succ,List.range_zero,Nat.reduceAdd,Nat.reduceSub,Nat.reduceMul,Nat.reduceLT,Nat.reduceLeDiff,Nat.reduceEqDiff,Nat.zero_add,Nat.add_zero,Nat.lt_add_one,Int.reduceToNat,Int.toNat_natCast,Int.natCast_nonneg,Bool.not_true,Bool.not_false,decide_true,decide_false,Bool.true_eq_false,Bool.false_eq_true]
 refine called_pure h14 ?_
 simp only [show ((0:Int) != 0)=false from rfl,go,go1,opOk,opRes,owed_true,branch_true,branch_false,popTo,St.ev,St.put,binV,arith,shifts,unV,bndV,bndOk,isInt,isStr,intOf',strOf,rowAt,blkEs,slotIs,ldv,stv,fillV,partsV,mmV,mmGo,elems,PV.cells,PV.isAgg,PV.stor,Value.oneCell',Option.isSome_some,Option.getD_some,Option.map_some,Option.map_none,if_true,if_false,ite_true,ite_false,and_self,and_true,true_and,reduceCtorEq,true_or,or_true,List.set_cons_zero,List.set_cons_succ,List.getD_cons_zero,List.getD_cons_succ,List.getElem?_cons_zero,List.getElem?_cons_succ,List.map_cons,List.map_nil,List.length_map,List.length_cons,List.length_nil,List.length_set,List.cons_append,List.nil_append,List.drop_zero,List.drop_succ_cons,List.drop_nil,List.take_zero,List.take_succ_cons,List.take_nil,List.range_succ,List.range_zero,Nat.reduceAdd,Nat.reduceSub,Nat.reduceMul,Nat.reduceLT,Nat.reduceLeDiff,Nat.reduceEqDiff,Nat.zero_add,Nat.add_zero,Nat.lt_add_one,Int.reduceToNat,Int.toNat_natCast,Int.natCast_nonneg,Bool.not_true,Bool.not_false,decide_true,decide_false,Bool.true_eq_false,Bool.false_eq_true]
 refine called_pure h32w ?_
 simp only [go,go1,opOk,opRes,owed_true,branch_true,branch_false,popTo,St.ev,St.put,binV,arith,shifts,unV,bndV,bndOk,isInt,isStr,intOf',strOf,rowAt,blkEs,slotIs,ldv,stv,fillV,partsV,mmV,mmGo,elems,PV.cells,PV.isAgg,PV.stor,Value.oneCell',Option.isSome_some,Option.getD_some,Option.map_some,Option.map_none,if_true,if_false,ite_true,ite_false,and_self,and_true,true_and,reduceCtorEq,true_or,or_true,List.set_cons_zero,List.set_cons_succ,List.getD_cons_zero,List.getD_cons_succ,List.getElem?_cons_zero,List.getElem?_cons_succ,List.map_cons,List.map_nil,List.length_map,List.length_cons,List.length_nil,List.length_set,List.cons_append,List.nil_append,List.drop_zero,List.drop_succ_cons,List.drop_nil,List.take_zero,List.take_succ_cons,List.take_nil,List.range_succ,List.range_zero,Nat.reduceAdd,Nat.reduceSub,Nat.reduceMul,Nat.reduceLT,Nat.reduceLeDiff,Nat.reduceEqDiff,Nat.zero_add,Nat.add_zero,Nat.lt_add_one,Int.reduceToNat,Int.toNat_natCast,Int.natCast_nonneg,Bool.not_true,Bool.not_false,decide_true,decide_false,Bool.true_eq_false,Bool.false_eq_true]
 refine called_pure h32b ?_
 simp only [go,go1,opOk,opRes,owed_true,branch_true,branch_false,popTo,St.ev,St.put,binV,arith,shifts,unV,bndV,bndOk,isInt,isStr,intOf',strOf,rowAt,blkEs,slotIs,ldv,stv,fillV,partsV,mmV,mmGo,elems,PV.cells,PV.isAgg,PV.stor,Value.oneCell',Option.isSome_some,Option.getD_some,Option.map_some,Option.map_none,if_true,if_false,ite_true,ite_false,and_self,and_true,true_and,reduceCtorEq,true_or,or_true,List.set_cons_zero,List.set_cons_succ,List.getD_cons_zero,List.getD_cons_succ,List.getElem?_cons_zero,List.getElem?_cons_succ,List.map_cons,List.map_nil,List.length_map,List.length_cons,List.length_nil,List.length_set,List.cons_append,List.nil_append,List.drop_zero,List.drop_succ_cons,List.drop_nil,List.take_zero,List.take_succ_cons,List.take_nil,List.range_succ,List.range_zero,Nat.reduceAdd,Nat.reduceSub,Nat.reduceMul,Nat.reduceLT,Nat.reduceLeDiff,Nat.reduceEqDiff,Nat.zero_add,Nat.add_zero,Nat.lt_add_one,Int.reduceToNat,Int.toNat_natCast,Int.natCast_nonneg,Bool.not_true,Bool.not_false,decide_true,decide_false,Bool.true_eq_false,Bool.false_eq_true]
 refine called_pure h33 ?_
 simp only [go,go1,opOk,opRes,owed_true,branch_true,branch_false,popTo,St.ev,St.put,binV,arith,shifts,unV,bndV,bndOk,isInt,isStr,intOf',strOf,rowAt,blkEs,slotIs,ldv,stv,fillV,partsV,mmV,mmGo,elems,PV.cells,PV.isAgg,PV.stor,Value.oneCell',Option.isSome_some,Option.getD_some,Option.map_some,Option.map_none,if_true,if_false,ite_true,ite_false,and_self,and_true,true_and,reduceCtorEq,true_or,or_true,List.set_cons_zero,List.set_cons_succ,List.getD_cons_zero,List.getD_cons_succ,List.getElem?_cons_zero,List.getElem?_cons_succ,List.map_cons,List.map_nil,List.length_map,List.length_cons,List.length_nil,List.length_set,List.cons_append,List.nil_append,List.drop_zero,List.drop_succ_cons,List.drop_nil,List.take_zero,List.take_succ_cons,List.take_nil,List.range_succ,List.range_zero,Nat.reduceAdd,Nat.reduceSub,Nat.reduceMul,Nat.reduceLT,Nat.reduceLeDiff,Nat.reduceEqDiff,Nat.zero_add,Nat.add_zero,Nat.lt_add_one,Int.reduceToNat,Int.toNat_natCast,Int.natCast_nonneg,Bool.not_true,Bool.not_false,decide_true,decide_false,Bool.true_eq_false,Bool.false_eq_true]
 refine called_pure h34 ?_
 simp only [go,go1,opOk,opRes,owed_true,branch_true,branch_false,popTo,St.ev,St.put,binV,arith,shifts,unV,bndV,bndOk,isInt,isStr,intOf',strOf,rowAt,blkEs,slotIs,ldv,stv,fillV,partsV,mmV,mmGo,elems,PV.cells,PV.isAgg,PV.stor,Value.oneCell',Option.isSome_some,Option.getD_some,Option.map_some,Option.map_none,if_true,if_false,ite_true,ite_false,and_self,and_true,true_and,reduceCtorEq,true_or,or_true,List.set_cons_zero,List.set_cons_succ,List.getD_cons_zero,List.getD_cons_succ,List.getElem?_cons_zero,List.getElem?_cons_succ,List.map_cons,List.map_nil,List.length_map,List.length_cons,List.length_nil,List.length_set,List.cons_append,List.nil_append,List.drop_zero,List.drop_succ_cons,List.drop_nil,List.take_zero,List.take_succ_cons,List.take_nil,List.range_succ,List.range_zero,Nat.reduceAdd,Nat.reduceSub,Nat.reduceMul,Nat.reduceLT,Nat.reduceLeDiff,Nat.reduceEqDiff,Nat.zero_add,Nat.add_zero,Nat.lt_add_one,Int.reduceToNat,Int.toNat_natCast,Int.natCast_nonneg,Bool.not_true,Bool.not_false,decide_true,decide_false,Bool.true_eq_false,Bool.false_eq_true]
 simp only [List.mem_singleton,forall_eq,List.mem_cons,List.not_mem_nil,or_false,List.foldl_cons,List.foldl_nil,go,go1,opOk,opRes,owed_true,branch_true,branch_false,popTo,St.ev,St.put,binV,arith,shifts,unV,bndV,bndOk,isInt,isStr,intOf',strOf,rowAt,blkEs,slotIs,ldv,stv,fillV,partsV,mmV,mmGo,elems,PV.cells,PV.isAgg,PV.stor,Value.oneCell',Option.isSome_some,Option.getD_some,Option.map_some,Option.map_none,if_true,if_false,ite_true,ite_false,and_self,and_true,true_and,reduceCtorEq,true_or,or_true,List.set_cons_zero,List.set_cons_succ,List.getD_cons_zero,List.getD_cons_succ,List.getElem?_cons_zero,List.getElem?_cons_succ,List.map_cons,List.map_nil,List.length_map,List.length_cons,List.length_nil,List.length_set,List.cons_append,List.nil_append,List.drop_zero,List.drop_succ_cons,List.drop_nil,List.take_zero,List.take_succ_cons,List.take_nil,List.range_succ,List.range_zero,Nat.reduceAdd,Nat.reduceSub,Nat.reduceMul,Nat.reduceLT,Nat.reduceLeDiff,Nat.reduceEqDiff,Nat.zero_add,Nat.add_zero,Nat.lt_add_one,Int.reduceToNat,Int.toNat_natCast,Int.natCast_nonneg,Bool.not_true,Bool.not_false,decide_true,decide_false,Bool.true_eq_false,Bool.false_eq_true]
 have ow:=own_ok (x5:=some (0,.cells [.agg [vi who,vu inc,vi now,.sl true [vi by']]])) hi hl hb
 subst hinc
 refine called_g ow ?_
 have hilI:(i:Int) < (l.length:Int):=by omega
 have hi0:(0:Int)≤(i:Int):=by omega
 have irr:¬ di.2.1 < di.2.1:=by omega
 generalize hR:(l.map rowP).set i (rowO (3+i) di.2.2.2.length di)=R at *
 have hRl:R.length=l.length:=by rw [← hR,List.length_set,List.length_map]
 have hRi:R[i]?=some (rowO (3+i) di.2.2.2.length di):=by rw [← hR,List.getElem?_set_self (by rw [List.length_map]; exact hil)]
 have gm:R.getD i .dead=.agg [vi di.1,vu di.2.1,vi di.2.2.1,.own 18 (3+i) 1 0 di.2.2.2.length none]:=by
  rw [List.getD_eq_getElem?_getD,hRi]; rfl
 simp only [hO2,hilI,hi0,hil,hRl,gm,irr,beq_self_eq_true,go,go1,opOk,opRes,owed_true,branch_true,branch_false,popTo,St.ev,St.put,binV,arith,shifts,unV,bndV,bndOk,isInt,isStr,intOf',strOf,rowAt,blkEs,slotIs,ldv,stv,fillV,partsV,mmV,mmGo,elems,PV.cells,PV.isAgg,PV.stor,Value.oneCell',Option.isSome_some,Option.getD_some,Option.map_some,Option.map_none,if_true,if_false,ite_true,ite_false,and_self,and_true,true_and,reduceCtorEq,true_or,or_true,List.set_cons_zero,List.set_cons_succ,List.getD_cons_zero,List.getD_cons_succ,List.getElem?_cons_zero,List.getElem?_cons_succ,List.map_cons,List.map_nil,List.length_map,List.length_cons,List.length_nil,List.length_set,List.cons_append,List.nil_append,List.drop_zero,List.drop_succ_cons,List.drop_nil,List.take_zero,List.take_succ_cons,List.take_nil,List.range_succ,List.range_zero,Nat.reduceAdd,Nat.reduceSub,Nat.reduceMul,Nat.reduceLT,Nat.reduceLeDiff,Nat.reduceEqDiff,Nat.zero_add,Nat.add_zero,Nat.lt_add_one,Int.reduceToNat,Int.toNat_natCast,Int.natCast_nonneg,Bool.not_true,Bool.not_false,decide_true,decide_false,Bool.true_eq_false,Bool.false_eq_true]
 have hbl:di.2.2.2.length≤1000:=(hb di (List.mem_of_getElem? hi)).2
 have hlen:(byP di).length=di.2.2.2.length:=by unfold byP; rw [List.length_map]
 refine called_g (gcall_borrow (b:=18) (s:=3+i) (es:=byP di) rfl (r:=.tup [vi k,vb false]) ?_ rfl) ?_
 ·have e:([.own 18 (3+i) 1 0 di.2.2.2.length none,vi by']:List PV).map (frz (3+i) (byP di))=[.sl false (byP di),vi by']:=by
   simp only [List.map_cons,List.map_nil,frz,if_true,Nat.zero_add,hlen,Nat.le_refl,List.drop_zero]
   rw [← hlen,List.take_length]
   rfl
  rw [e]; exact h35
 simp only [hO2,hilI,hi0,hil,hRl,gm,irr,beq_self_eq_true,List.mem_singleton,forall_eq,List.mem_cons,List.not_mem_nil,or_false,List.foldl_cons,List.foldl_nil,go,go1,opOk,opRes,owed_true,branch_true,branch_false,popTo,St.ev,St.put,binV,arith,shifts,unV,bndV,bndOk,isInt,isStr,intOf',strOf,rowAt,blkEs,slotIs,ldv,stv,fillV,partsV,mmV,mmGo,elems,PV.cells,PV.isAgg,PV.stor,Value.oneCell',Option.isSome_some,Option.getD_some,Option.map_some,Option.map_none,if_true,if_false,ite_true,ite_false,and_self,and_true,true_and,reduceCtorEq,true_or,or_true,List.set_cons_zero,List.set_cons_succ,List.getD_cons_zero,List.getD_cons_succ,List.getElem?_cons_zero,List.getElem?_cons_succ,List.map_cons,List.map_nil,List.length_map,List.length_cons,List.length_nil,List.length_set,List.cons_append,List.nil_append,List.drop_zero,List.drop_succ_cons,List.drop_nil,List.take_zero,List.take_succ_cons,List.take_nil,List.range_succ,List.range_zero,Nat.reduceAdd,Nat.reduceSub,Nat.reduceMul,Nat.reduceLT,Nat.reduceLeDiff,Nat.reduceEqDiff,Nat.zero_add,Nat.add_zero,Nat.lt_add_one,Int.reduceToNat,Int.toNat_natCast,Int.natCast_nonneg,Bool.not_true,Bool.not_false,decide_true,decide_false,Bool.true_eq_false,Bool.false_eq_true]
 rw [← hlen]
 refine called_ins (ys:=[vi by']) (i:=k) insF36 rfl (by show 10 < 20; decide) (by decide) (by rw [hlen]; exact hk) byP_cells (byP_closed _) (by simp) (fun e he=>by rw [List.mem_singleton] at he; subst he; rfl) rfl (by simp [hlen]; omega) ?_
 generalize hes:(byP di).take k++[vi by']++(byP di).drop k=es
 simp only [hO2,hilI,hi0,hil,hRl,gm,irr,go,go1,opOk,opRes,owed_true,branch_true,branch_false,popTo,St.ev,St.put,binV,arith,shifts,unV,bndV,bndOk,isInt,isStr,intOf',strOf,rowAt,blkEs,slotIs,ldv,stv,fillV,partsV,mmV,mmGo,elems,PV.cells,PV.isAgg,PV.stor,Value.oneCell',Option.isSome_some,Option.getD_some,Option.map_some,Option.map_none,if_true,if_false,ite_true,ite_false,and_self,and_true,true_and,reduceCtorEq,true_or,or_true,List.set_cons_zero,List.set_cons_succ,List.getD_cons_zero,List.getD_cons_succ,List.getElem?_cons_zero,List.getElem?_cons_succ,List.map_cons,List.map_nil,List.length_map,List.length_cons,List.length_nil,List.length_set,List.cons_append,List.nil_append,List.drop_zero,List.drop_succ_cons,List.drop_nil,List.take_zero,List.take_succ_cons,List.take_nil,List.range_succ,List.range_zero,Nat.reduceAdd,Nat.reduceSub,Nat.reduceMul,Nat.reduceLT,Nat.reduceLeDiff,Nat.reduceEqDiff,Nat.zero_add,Nat.add_zero,Nat.lt_add_one,Int.reduceToNat,Int.toNat_natCast,Int.natCast_nonneg,Bool.not_true,Bool.not_false,decide_true,decide_false,Bool.true_eq_false,Bool.false_eq_true]
 have hR2:∀ X,R.set i X=(l.map rowP).set i X:=by intro X; rw [← hR,List.set_set]
 have hel:(byP di).length+1=es.length:=by
  rw [← hes]
  simp only [List.length_append,List.length_take,List.length_drop,List.length_cons,List.length_nil]
  omega
 rw [hR2,hel]
 refine ended_weak (((Weak.keep _ [10,11] [10,16]).trans (Weak.freeze _ 10)).trans (Weak.freeze _ 16)) ?_
 refine (congrArg (fun st:St=>resV ((st.freeze 10).freeze 16) [10,11]) ?_).trans (raise_end (t:=[]) (l:=l) (i:=i) (di:=di) (es:=es) (L:=l.length) rfl)
 simp [St.keep,keepT,keepS]
end Go.Proofs.Yticljphbbdnomaa.VL
end
section
namespace Go.Proofs.Yticljphbbdnomaa.VL
open Go
set_option linter.unusedSectionVars false
variable [Val]
def F36:DT ((.co (.v (.sl (.i .i64))) (.co (.v (.i .i64)) (.co (.v (.sl (.i .i64))) .no))):Fm).den→Option (DT (.v (.sl (.i .i64)):Fm).den):=fun _=>none
def pe36:PE:=⟨36,(.co (.v (.sl (.i .i64))) (.co (.v (.i .i64)) (.co (.v (.sl (.i .i64))) .no))),.v (.sl (.i .i64)),F36⟩
theorem pe36_ok:pe36.ok Try.prog:=⟨rfl,rfl,rfl,rfl,rfl,fun v y h=>by cases h⟩
end Go.Proofs.Yticljphbbdnomaa.VL
end
section
namespace Go.Proofs.Yticljphbbdnomaa.VL
open Go
set_option maxRecDepth 100000
set_option linter.unusedVariables false
set_option linter.unusedSectionVars false
variable [Val]
noncomputable section


def xf13x:FX:=⟨(.seq (.reg [(xi 10 (.mov (.c (.sl true [])))),(xi 11 (.mov (.c (.v (.int .i64 0)))))]) (.seq (.cut ⟨[10,11,18,19,20,21,22,23,24,25,26,27,28,29,30,31,32,33,34,35,36],[],⟨[],[],[]⟩⟩ (.seq (.cutN ⟨[18,19,20,21,22,23,24,25,26,27,28,29,30,31,32,33,34,35],[],⟨[],[(35,.v .b)],[]⟩⟩ (.reg [(xm 18 0),(xi 19 (.call 0 14 [(.t 18)])),(xi 20 (.bin .neq (.t 19) (.c (.v (.int .i64 0))))),(xm 21 20),(xg 22 (.mov (.t 1)) 21 false),(xg 23 (.call 1 32 [(.t 22)]) 21 false),(xg 24 (.un .not (.t 23)) 21 false),(xi 25 (.pick (.t 21) (.c (.v (.bool true))) (.t 24))),(xm 26 25),(xg 27 (.mov (.t 3)) 26 false),(xg 28 (.call 2 32 [(.t 27)]) 26 false),(xg 29 (.un .not (.t 28)) 26 false),(xi 30 (.pick (.t 26) (.c (.v (.bool true))) (.t 29))),(xm 31 30),(xg 32 (.mov (.t 4)) 31 false),(xg 33 (.call 3 33 [(.t 32)]) 31 false),(xg 34 (.un .not (.t 33)) 31 false),(xi 35 (.pick (.t 31) (.c (.v (.bool true))) (.t 34)))])) (.cond (.t 35) (.seq (.reg [(xm 36 0),(xm 10 36),(xi 11 (.mov (.c (.v (.int .i64 1)))))]) .ret) .skip))) (.seq (.reg [(xm 38 0),(xm 39 1),(xi 40 (.call 4 34 [(.t 38),(.t 39)])),(xm 37 40),(xi 41 (.ext (.t 37) 0)),(xi 42 (.ext (.t 37) 1)),(xm 12 41),(xm 13 42)]) (.seq (.cutN ⟨[14,43,44,45,46,47,48],[5],⟨[],[(14,.ptr 5 0)],[⟨5,.row (.v (.p (.i .i64) (.p (.i .u64) (.p (.i .i64) (.sl (.i .i64)))))),false⟩]⟩⟩ (.reg [(xm 43 1),(xm 44 2),(xm 45 4),(xm 46 3),(xi 47 (.bsl 1 (.v (.int .i64 0)) 1 [(0,(.t 46))])),(xi 48 (.bld [(.v (.int .i64 0)),(.v (.int .u64 0)),(.v (.int .i64 0)),(.sl true [])] [(0,1,(.t 43)),(1,1,(.t 44)),(2,1,(.t 45)),(3,1,(.t 47))])),(xi 14 (.alloc 5 (.agg [(.v (.int .i64 0)),(.v (.int .u64 0)),(.v (.int .i64 0)),(.sl true [])]))),(xz (.store 4 (.t 14) (.t 48)))])) (.seq (.reg [(xm 49 0),(xi 50 (.call 6 30 [(.t 49)])),(xm 15 50)]) (.seq (.blk 0 (.seq (.reg [(xm 52 13),(xi 53 (.un .not (.t 52))),(xm 51 53)]) (.cond (.t 51) (.rdr [(xm 54 15),(xm 55 12),(xm 56 12),(xi 57 (.slc 4 (.t 54) none (some (.t 55)) (some (.t 56)))),(xi 58 (.load true 4 (.t 14))),(xi 59 (.bsl 4 (.agg [(.v (.int .i64 0)),(.v (.int .u64 0)),(.v (.int .i64 0)),(.sl true [])]) 1 [(0,(.t 58))])),⟨⟨(some 60),(.app 7 4 48 (.agg [(.v (.int .i64 0)),(.v (.int .u64 0)),(.v (.int .i64 0)),(.sl true [])]) (.t 57) (.t 59)),none⟩,(.p (.i .i64) (.p (.i .u64) (.p (.i .i64) (.sl (.i .i64))))),[],[]⟩,(xm 61 15),(xm 62 12),(xi 63 (.slc 4 (.t 61) (some (.t 62)) none none)),⟨⟨(some 64),(.app 8 4 48 (.agg [(.v (.int .i64 0)),(.v (.int .u64 0)),(.v (.int .i64 0)),(.sl true [])]) (.t 60) (.t 63)),none⟩,(.p (.i .i64) (.p (.i .u64) (.p (.i .i64) (.sl (.i .i64))))),[],[]⟩,(xm 15 64)]) (.seq (.reg [(xm 66 15),(xm 67 12),(xi 68 (.iad 4 (.t 66) (.t 67))),(xi 69 (.fad 1 (.t 68))),(xi 70 (.load false 1 (.t 69))),(xm 71 2),(xi 72 (.bin .lss (.t 70) (.t 71))),(xm 65 72)]) (.cond (.t 65) (.reg [(xm 73 15),(xm 74 12),(xi 75 (.load true 4 (.t 14))),(xi 76 (.iad 4 (.t 73) (.t 74))),(xz (.store 4 (.t 76) (.t 75)))]) (.seq (.reg [(xm 78 15),(xm 79 12),(xi 80 (.iad 4 (.t 78) (.t 79))),(xi 81 (.fad 1 (.t 80))),(xi 82 (.load false 1 (.t 81))),(xm 83 2),(xi 84 (.bin .eql (.t 82) (.t 83))),(xm 77 84)]) (.cond (.t 77) (.seq (.reg [(xm 86 15),(xm 87 12),(xi 88 (.iad 4 (.t 86) (.t 87))),(xi 89 (.fad 3 (.t 88))),(xi 90 (.load false 1 (.t 89))),(xm 91 3),(xi 92 (.call 9 35 [(.t 90),(.t 91)])),(xm 85 92),(xi 93 (.ext (.t 85) 0)),(xi 94 (.ext (.t 85) 1)),(xm 16 93),(xm 17 94)]) (.seq (.reg [(xm 95 17),(xi 96 (.un .not (.t 95)))]) (.cond (.t 96) (.reg [(xm 97 15),(xm 98 12),(xm 99 15),(xm 100 12),(xi 101 (.iad 4 (.t 99) (.t 100))),(xi 102 (.fad 3 (.t 101))),(xi 103 (.load false 1 (.t 102))),(xm 104 16),(xm 105 3),(xi 106 (.bsl 1 (.v (.int .i64 0)) 1 [(0,(.t 105))])),(xi 107 (.call 10 36 [(.t 103),(.t 104),(.t 106)])),(xi 108 (.iad 4 (.t 97) (.t 98))),(xi 109 (.fad 3 (.t 108))),(xz (.store 1 (.t 109) (.t 107)))]) .skip))) .skip))))))) (.seq (.reg [(xm 110 15),(xm 10 110),(xi 11 (.mov (.c (.v (.int .i64 0)))))]) .ret))))))),[19,23,28,33,40,14,50,60,64,92,107],111,[.t 10,.t 11],20⟩
theorem xf13x_ok:xf13x.ok Try.prog 13:=⟨_,_,Try.func13,rfl,by kernel_rfl,rfl,by kernel_rfl,rfl,by kernel_rfl,by kernel_rfl⟩
def ff30x:FX:=⟨(.seq (.reg [(xi 2 (.mov (.c (.sl true []))))]) (.seq (.reg [(xm 6 0),(xi 7 (.call 0 46 [(.t 6)])),(xm 3 7)]) (.seq (.seq (.reg [(xm 8 3),(xi 9 (.len (.t 8))),(xi 10 (.mov (.c (.v (.int .i64 0)))))]) (.blk 0 (.loop ⟨[4,5,10,11,12,13,14,15,16,17,18,19,20,21,22],[13,16,18,19],⟨[],[(10,.v (.i .i64))],[⟨16,.rows (.p (.i .i64) (.p (.i .u64) (.p (.i .i64) (.sl (.i .i64))))) 4,true⟩]⟩⟩ (.seq (.reg [(xi 11 (.bin .lss (.t 10) (.t 9)))]) (.seq (.cond (.t 11) .skip (.exit 0)) (.seq (.blk 1 (.seq (.reg [(xm 12 10),(xi 13 (.iad 4 (.t 8) (.t 10))),(xi 14 (.load true 4 (.t 13))),(xi 5 (.alloc 1 (.agg [(.v (.int .i64 0)),(.v (.int .u64 0)),(.v (.int .i64 0)),(.sl true [])]))),(xm 4 12),(xz (.store 4 (.t 5) (.t 14)))]) (.reg [(xm 15 3),(xm 16 4),(xi 17 (.fad 3 (.t 5))),(xi 18 (.load false 1 (.t 17))),(xi 19 (.call 2 47 [(.t 18)])),(xi 20 (.iad 4 (.t 15) (.t 16))),(xi 21 (.fad 3 (.t 20))),⟨⟨none,(.store 1 (.t 21) (.t 19)),none⟩,.b,[19],[]⟩]))) (.reg [(xi 22 (.bin .add (.t 10) (.c (.v (.int .i64 1))))),(xm 10 22)]))))))) (.seq (.reg [(xm 23 3),(xm 2 23)]) .ret)))),[7,5,19],24,[.t 2],4⟩
theorem ff30x_ok:ff30x.ok Try.prog 30:=⟨_,_,Try.func30,rfl,by kernel_rfl,rfl,by kernel_rfl,rfl,by kernel_rfl,by kernel_rfl⟩
def ff46x:FX:=⟨(.seq (.reg [(xi 2 (.mov (.c (.sl true []))))]) (.seq (.seq (.reg [(xm 3 0),(xi 4 (.nilq false (.t 3)))]) (.cond (.t 4) (.seq (.reg [(xi 2 (.mov (.c (.sl true []))))]) .ret) .skip)) (.seq (.reg [(xi 5 (.bsl 4 (.agg [(.v (.int .i64 0)),(.v (.int .u64 0)),(.v (.int .i64 0)),(.sl true [])]) 0 [])),(xm 6 0),⟨⟨(some 7),(.app 0 4 48 (.agg [(.v (.int .i64 0)),(.v (.int .u64 0)),(.v (.int .i64 0)),(.sl true [])]) (.t 5) (.t 6)),none⟩,(.p (.i .i64) (.p (.i .u64) (.p (.i .i64) (.sl (.i .i64))))),[],[]⟩,(xm 2 7)]) .ret))),[7],8,[.t 2],2⟩
theorem ff46x_ok:ff46x.ok Try.prog 46:=⟨_,_,Try.func46,rfl,by kernel_rfl,rfl,by kernel_rfl,rfl,by kernel_rfl,by kernel_rfl⟩
def ff47x:FX:=⟨(.seq (.reg [(xi 2 (.mov (.c (.sl true []))))]) (.seq (.seq (.reg [(xm 3 0),(xi 4 (.nilq false (.t 3)))]) (.cond (.t 4) (.seq (.reg [(xi 2 (.mov (.c (.sl true []))))]) .ret) .skip)) (.seq (.reg [(xi 5 (.bsl 1 (.v (.int .i64 0)) 0 [])),(xm 6 0),⟨⟨(some 7),(.app 0 1 8 (.v (.int .i64 0)) (.t 5) (.t 6)),none⟩,(.i .i64),[],[]⟩,(xm 2 7)]) .ret))),[7],8,[.t 2],2⟩
theorem ff47x_ok:ff47x.ok Try.prog 47:=⟨_,_,Try.func47,rfl,by kernel_rfl,rfl,by kernel_rfl,rfl,by kernel_rfl,by kernel_rfl⟩
def tb13x:List PE:=[pe14,pe32,pe33,pe34,pe35,pe36]
theorem tb13x_ok:PEsOk Try.prog tb13x:=⟨pe14_ok,pe32_ok,pe33_ok,pe34_ok,pe35_ok,pe36_ok,trivial⟩
def ex13x:List EX:=[]
theorem ex13x_ok:EXsOk Try.prog ex13x:=trivial
def in13x:List IN:=[⟨6,30,12,ff30x,some ⟨[0,1,2,3,4,5,6,7,8,9,10,11,12,13,14,15,16,17,18,19,20,21,22,23],[12,13,14,15,16,17,18,19],⟨[],[(2,.ow 16 4)],[⟨16,.rows (.p (.i .i64) (.p (.i .u64) (.p (.i .i64) (.sl (.i .i64))))) 4,false⟩]⟩⟩⟩,⟨12,46,16,ff46x,some ⟨[0,1,2,3,4,5,6,7],[16,17],⟨[],[(2,.ow 16 4)],[⟨16,.rows (.p (.i .i64) (.p (.i .u64) (.p (.i .i64) (.sl (.i .i64))))) 4,false⟩]⟩⟩⟩,⟨14,47,18,ff47x,some ⟨[0,1,2,3,4,5,6,7],[18,19],⟨[],[(2,.ow 18 1)],[⟨18,.rows (.i .i64) 1,false⟩]⟩⟩⟩]
theorem in13x_ok:INsOk Try.prog in13x:=⟨ff30x_ok,ff46x_ok,ff47x_ok,trivial⟩
def F13x:DT ((.co (.v (.sl (.p (.i .i64) (.p (.i .u64) (.p (.i .i64) (.sl (.i .i64))))))) (.co (.v (.i .i64)) (.co (.v (.i .u64)) (.co (.v (.i .i64)) (.co (.v (.i .i64)) .no))))):Fm).den→Option (DT (.tup (.co (.v (.sl (.p (.i .i64) (.p (.i .u64) (.p (.i .i64) (.sl (.i .i64))))))) (.co (.v (.i .i64)) .no)):Fm).den):=pureT tb13x ex13x in13x 9 xf13x _ _ [7,16]
def pe13x:PE:=⟨13,(.co (.v (.sl (.p (.i .i64) (.p (.i .u64) (.p (.i .i64) (.sl (.i .i64))))))) (.co (.v (.i .i64)) (.co (.v (.i .u64)) (.co (.v (.i .i64)) (.co (.v (.i .i64)) .no))))),.tup (.co (.v (.sl (.p (.i .i64) (.p (.i .u64) (.p (.i .i64) (.sl (.i .i64))))))) (.co (.v (.i .i64)) .no)),F13x⟩
theorem pe13x_ok:pe13x.ok Try.prog:=pe_of hm tb13x_ok ex13x_ok in13x_ok xf13x_ok (by kernel_rfl) (fun _=>rfl)
end
end Go.Proofs.Yticljphbbdnomaa.VL
end
section
namespace Go.Proofs.Yticljphbbdnomaa.VL
open Go
set_option maxRecDepth 100000
set_option linter.unusedVariables false
set_option linter.unusedSectionVars false
variable [Val]
theorem F13x_eq (v:((List (Int×(Int×(Int×(List Int)))))×(Int×(Int×(Int×Int))))):F13x v=(joinX (Option.bind (Option.bind (F14 v.1) (fun (v0:Int)=>(cond (v0 != (0:Int)) (some true) (Option.bind (F32 v.2.1) (fun (v1:Bool)=>(cond (!v1) (some true) (Option.bind (F32 v.2.2.2.1) (fun (v2:Bool)=>(cond (!v2) (some true) (Option.bind (F33 v.2.2.2.2) (fun (v3:Bool)=>(some (!v3))))))))))))) (fun (v4:Bool)=>(cond v4 (some (.inr (v.1,(1:Int)))) (some (.inl ()))))) (fun (v5:Unit)=>(Option.bind (F34 (v.1,v.2.1)) (fun (v6:(Int×Bool))=>(Option.bind (Option.bind (bothX (List.isEmpty v.1) (some []) (cond ((decide ((((v.1.length:Nat):Int) * (48:Int))≤(70368744177664:Int)))&&(decide (((v.1.length:Nat):Int)≤(70368744177664:Int)))) (cond (decide (v.1.length=v.1.length)) (some v.1) none) none)) (fun (v7:(List (Int×(Int×(Int×(List Int))))))=>(loopX (fun (v8:(Int×(List (Int×(Int×(Int×(List Int)))))))=>(cond (decide (v8.1 < ((v7.length:Nat):Int))) (cond ((decide ((0:Int)≤v8.1))&&(decide (v8.1 < ((v7.length:Nat):Int)))) (Option.bind v8.2[(0+(Int.toNat v8.1))]? (fun (v9:(Int×(Int×(Int×(List Int)))))=>(Option.bind (bothX (List.isEmpty v9.2.2.2) (some []) (cond ((decide ((((v9.2.2.2.length:Nat):Int) * (8:Int))≤(70368744177664:Int)))&&(decide (((v9.2.2.2.length:Nat):Int)≤(70368744177664:Int)))) (cond (decide (v9.2.2.2.length=v9.2.2.2.length)) (some v9.2.2.2) none) none)) (fun (v10:(List Int))=>(cond ((decide ((0:Int)≤v8.1))&&(decide (v8.1 < ((v7.length:Nat):Int)))) (cond (decide ((0+v10.length)≤v10.length)) (Option.bind v8.2[(0+(Int.toNat v8.1))]? (fun (v11:(Int×(Int×(Int×(List Int)))))=>(some (.inl ((IntKind.wrap IntKind.i64 (v8.1+(1:Int))),(List.set v8.2 (0+(Int.toNat v8.1)) (v11.1,v11.2.1,v11.2.2.1,(List.take v10.length v10)))))))) none) none))))) none) (Option.map (Sum.inr) (cond (decide (v7.length=v8.2.length)) (some v8.2) none)))) ((0:Int),v7)))) (fun (v12:(List (Int×(Int×(Int×(List Int))))))=>(cond (!v6.2) (cond (((decide ((0:Int)≤v6.1))&&(decide (v6.1≤((v12.length:Nat):Int))))&&((decide (v6.1≤v6.1))&&(decide (v6.1≤((v12.length:Nat):Int))))) (cond ((decide ((0+(Int.toNat v6.1))≤v12.length))&&((decide ((((((Int.toNat v6.1)+1):Nat):Int) * (48:Int))≤(70368744177664:Int)))&&(decide (((((Int.toNat v6.1)+1):Nat):Int)≤(70368744177664:Int))))) (cond (decide (((Int.toNat v6.1)+1)≤(Int.toNat v6.1))) (cond (decide (((0+(Int.toNat v6.1))+1)≤v12.length)) (cond (((decide ((0:Int)≤v6.1))&&(decide (v6.1≤((v12.length:Nat):Int))))&&true) (cond (decide (((0+(Int.toNat v6.1))+(v12.length - (Int.toNat v6.1)))≤(Append.append (Append.append (List.take (0+(Int.toNat v6.1)) v12) ((v.2.1,v.2.2.1,v.2.2.2.2,(v.2.2.2.1::[]))::[])) (List.drop ((0+(Int.toNat v6.1))+1) v12)).length)) (cond ((decide ((0+((Int.toNat v6.1)+1))≤(Append.append (Append.append (List.take (0+(Int.toNat v6.1)) v12) ((v.2.1,v.2.2.1,v.2.2.2.2,(v.2.2.2.1::[]))::[])) (List.drop ((0+(Int.toNat v6.1))+1) v12)).length))&&((decide (((((((Int.toNat v6.1)+1)+(List.take (v12.length - (Int.toNat v6.1)) (List.drop (0+(Int.toNat v6.1)) (Append.append (Append.append (List.take (0+(Int.toNat v6.1)) v12) ((v.2.1,v.2.2.1,v.2.2.2.2,(v.2.2.2.1::[]))::[])) (List.drop ((0+(Int.toNat v6.1))+1) v12)))).length):Nat):Int) * (48:Int))≤(70368744177664:Int)))&&(decide ((((((Int.toNat v6.1)+1)+(List.take (v12.length - (Int.toNat v6.1)) (List.drop (0+(Int.toNat v6.1)) (Append.append (Append.append (List.take (0+(Int.toNat v6.1)) v12) ((v.2.1,v.2.2.1,v.2.2.2.2,(v.2.2.2.1::[]))::[])) (List.drop ((0+(Int.toNat v6.1))+1) v12)))).length):Nat):Int)≤(70368744177664:Int))))) (cond (decide ((((Int.toNat v6.1)+1)+(List.take (v12.length - (Int.toNat v6.1)) (List.drop (0+(Int.toNat v6.1)) (Append.append (Append.append (List.take (0+(Int.toNat v6.1)) v12) ((v.2.1,v.2.2.1,v.2.2.2.2,(v.2.2.2.1::[]))::[])) (List.drop ((0+(Int.toNat v6.1))+1) v12)))).length)≤(Int.toNat v6.1))) (cond (decide (((0+((Int.toNat v6.1)+1))+(List.take (v12.length - (Int.toNat v6.1)) (List.drop (0+(Int.toNat v6.1)) (Append.append (Append.append (List.take (0+(Int.toNat v6.1)) v12) ((v.2.1,v.2.2.1,v.2.2.2.2,(v.2.2.2.1::[]))::[])) (List.drop ((0+(Int.toNat v6.1))+1) v12)))).length)≤(Append.append (Append.append (List.take (0+(Int.toNat v6.1)) v12) ((v.2.1,v.2.2.1,v.2.2.2.2,(v.2.2.2.1::[]))::[])) (List.drop ((0+(Int.toNat v6.1))+1) v12)).length)) (cond (decide ((0+(((Int.toNat v6.1)+1)+(List.take (v12.length - (Int.toNat v6.1)) (List.drop (0+(Int.toNat v6.1)) (Append.append (Append.append (List.take (0+(Int.toNat v6.1)) v12) ((v.2.1,v.2.2.1,v.2.2.2.2,(v.2.2.2.1::[]))::[])) (List.drop ((0+(Int.toNat v6.1))+1) v12)))).length))≤(Append.append (Append.append (List.take (0+((Int.toNat v6.1)+1)) (Append.append (Append.append (List.take (0+(Int.toNat v6.1)) v12) ((v.2.1,v.2.2.1,v.2.2.2.2,(v.2.2.2.1::[]))::[])) (List.drop ((0+(Int.toNat v6.1))+1) v12))) (List.take (v12.length - (Int.toNat v6.1)) (List.drop (0+(Int.toNat v6.1)) (Append.append (Append.append (List.take (0+(Int.toNat v6.1)) v12) ((v.2.1,v.2.2.1,v.2.2.2.2,(v.2.2.2.1::[]))::[])) (List.drop ((0+(Int.toNat v6.1))+1) v12))))) (List.drop ((0+((Int.toNat v6.1)+1))+(List.take (v12.length - (Int.toNat v6.1)) (List.drop (0+(Int.toNat v6.1)) (Append.append (Append.append (List.take (0+(Int.toNat v6.1)) v12) ((v.2.1,v.2.2.1,v.2.2.2.2,(v.2.2.2.1::[]))::[])) (List.drop ((0+(Int.toNat v6.1))+1) v12)))).length) (Append.append (Append.append (List.take (0+(Int.toNat v6.1)) v12) ((v.2.1,v.2.2.1,v.2.2.2.2,(v.2.2.2.1::[]))::[])) (List.drop ((0+(Int.toNat v6.1))+1) v12)))).length)) (some ((List.take (((Int.toNat v6.1)+1)+(List.take (v12.length - (Int.toNat v6.1)) (List.drop (0+(Int.toNat v6.1)) (Append.append (Append.append (List.take (0+(Int.toNat v6.1)) v12) ((v.2.1,v.2.2.1,v.2.2.2.2,(v.2.2.2.1::[]))::[])) (List.drop ((0+(Int.toNat v6.1))+1) v12)))).length) (Append.append (Append.append (List.take (0+((Int.toNat v6.1)+1)) (Append.append (Append.append (List.take (0+(Int.toNat v6.1)) v12) ((v.2.1,v.2.2.1,v.2.2.2.2,(v.2.2.2.1::[]))::[])) (List.drop ((0+(Int.toNat v6.1))+1) v12))) (List.take (v12.length - (Int.toNat v6.1)) (List.drop (0+(Int.toNat v6.1)) (Append.append (Append.append (List.take (0+(Int.toNat v6.1)) v12) ((v.2.1,v.2.2.1,v.2.2.2.2,(v.2.2.2.1::[]))::[])) (List.drop ((0+(Int.toNat v6.1))+1) v12))))) (List.drop ((0+((Int.toNat v6.1)+1))+(List.take (v12.length - (Int.toNat v6.1)) (List.drop (0+(Int.toNat v6.1)) (Append.append (Append.append (List.take (0+(Int.toNat v6.1)) v12) ((v.2.1,v.2.2.1,v.2.2.2.2,(v.2.2.2.1::[]))::[])) (List.drop ((0+(Int.toNat v6.1))+1) v12)))).length) (Append.append (Append.append (List.take (0+(Int.toNat v6.1)) v12) ((v.2.1,v.2.2.1,v.2.2.2.2,(v.2.2.2.1::[]))::[])) (List.drop ((0+(Int.toNat v6.1))+1) v12))))),(0:Int))) none) none) none) none) none) none) none) (cond (((decide ((0:Int)≤v6.1))&&(decide (v6.1≤((v12.length:Nat):Int))))&&true) (cond (decide (((0+(Int.toNat v6.1))+(v12.length - (Int.toNat v6.1)))≤v12.length)) (cond ((decide ((0+((Int.toNat v6.1)+1))≤(Append.append (List.take (Int.toNat v6.1) v12) ((v.2.1,v.2.2.1,v.2.2.2.2,(v.2.2.2.1::[]))::[])).length))&&((decide (((((((Int.toNat v6.1)+1)+(List.take (v12.length - (Int.toNat v6.1)) (List.drop (0+(Int.toNat v6.1)) v12)).length):Nat):Int) * (48:Int))≤(70368744177664:Int)))&&(decide ((((((Int.toNat v6.1)+1)+(List.take (v12.length - (Int.toNat v6.1)) (List.drop (0+(Int.toNat v6.1)) v12)).length):Nat):Int)≤(70368744177664:Int))))) (cond (decide (((0+((Int.toNat v6.1)+1))+(List.take (v12.length - (Int.toNat v6.1)) (List.drop (0+(Int.toNat v6.1)) v12)).length)≤(Append.append (List.take (Int.toNat v6.1) v12) ((v.2.1,v.2.2.1,v.2.2.2.2,(v.2.2.2.1::[]))::[])).length)) (cond (decide ((0+(((Int.toNat v6.1)+1)+(List.take (v12.length - (Int.toNat v6.1)) (List.drop (0+(Int.toNat v6.1)) v12)).length))≤(Append.append (Append.append (List.take (0+((Int.toNat v6.1)+1)) (Append.append (List.take (Int.toNat v6.1) v12) ((v.2.1,v.2.2.1,v.2.2.2.2,(v.2.2.2.1::[]))::[]))) (List.take (v12.length - (Int.toNat v6.1)) (List.drop (0+(Int.toNat v6.1)) v12))) (List.drop ((0+((Int.toNat v6.1)+1))+(List.take (v12.length - (Int.toNat v6.1)) (List.drop (0+(Int.toNat v6.1)) v12)).length) (Append.append (List.take (Int.toNat v6.1) v12) ((v.2.1,v.2.2.1,v.2.2.2.2,(v.2.2.2.1::[]))::[])))).length)) (some ((List.take (((Int.toNat v6.1)+1)+(List.take (v12.length - (Int.toNat v6.1)) (List.drop (0+(Int.toNat v6.1)) v12)).length) (Append.append (Append.append (List.take (0+((Int.toNat v6.1)+1)) (Append.append (List.take (Int.toNat v6.1) v12) ((v.2.1,v.2.2.1,v.2.2.2.2,(v.2.2.2.1::[]))::[]))) (List.take (v12.length - (Int.toNat v6.1)) (List.drop (0+(Int.toNat v6.1)) v12))) (List.drop ((0+((Int.toNat v6.1)+1))+(List.take (v12.length - (Int.toNat v6.1)) (List.drop (0+(Int.toNat v6.1)) v12)).length) (Append.append (List.take (Int.toNat v6.1) v12) ((v.2.1,v.2.2.1,v.2.2.2.2,(v.2.2.2.1::[]))::[]))))),(0:Int))) none) (cond (decide ((0+(((Int.toNat v6.1)+1)+(List.take (v12.length - (Int.toNat v6.1)) (List.drop (0+(Int.toNat v6.1)) v12)).length))≤(Append.append (List.take ((Int.toNat v6.1)+1) (Append.append (List.take (Int.toNat v6.1) v12) ((v.2.1,v.2.2.1,v.2.2.2.2,(v.2.2.2.1::[]))::[]))) (List.take (v12.length - (Int.toNat v6.1)) (List.drop (0+(Int.toNat v6.1)) v12))).length)) (some ((List.take (((Int.toNat v6.1)+1)+(List.take (v12.length - (Int.toNat v6.1)) (List.drop (0+(Int.toNat v6.1)) v12)).length) (Append.append (List.take ((Int.toNat v6.1)+1) (Append.append (List.take (Int.toNat v6.1) v12) ((v.2.1,v.2.2.1,v.2.2.2.2,(v.2.2.2.1::[]))::[]))) (List.take (v12.length - (Int.toNat v6.1)) (List.drop (0+(Int.toNat v6.1)) v12)))),(0:Int))) none)) none) none) none)) none) none) (cond ((decide ((0:Int)≤v6.1))&&(decide (v6.1 < ((v12.length:Nat):Int)))) (Option.bind v12[(0+(Int.toNat v6.1))]? (fun (v13:(Int×(Int×(Int×(List Int)))))=>(cond (decide (v13.2.1 < v.2.2.1)) (cond ((decide ((0:Int)≤v6.1))&&(decide (v6.1 < ((v12.length:Nat):Int)))) (Option.bind v12[(0+(Int.toNat v6.1))]? (fun (v14:(Int×(Int×(Int×(List Int)))))=>(cond (decide ((0+v12.length)≤(List.set v12 (0+(Int.toNat v6.1)) (v.2.1,v.2.2.1,v.2.2.2.2,(v.2.2.2.1::[]))).length)) (some ((List.take v12.length (List.set v12 (0+(Int.toNat v6.1)) (v.2.1,v.2.2.1,v.2.2.2.2,(v.2.2.2.1::[])))),(0:Int))) none))) none) (cond ((decide ((0:Int)≤v6.1))&&(decide (v6.1 < ((v12.length:Nat):Int)))) (Option.bind v12[(0+(Int.toNat v6.1))]? (fun (v15:(Int×(Int×(Int×(List Int)))))=>(cond (v15.2.1==v.2.2.1) (cond ((decide ((0:Int)≤v6.1))&&(decide (v6.1 < ((v12.length:Nat):Int)))) (Option.bind v12[(0+(Int.toNat v6.1))]? (fun (v16:(Int×(Int×(Int×(List Int)))))=>(Option.bind (F35 (v16.2.2.2,v.2.2.2.1)) (fun (v17:(Int×Bool))=>(cond (!v17.2) (cond ((decide ((0:Int)≤v6.1))&&(decide (v6.1 < ((v12.length:Nat):Int)))) (Option.bind v12[(0+(Int.toNat v6.1))]? (fun (v18:(Int×(Int×(Int×(List Int)))))=>(Option.bind (F36 (v18.2.2.2,v17.1,(v.2.2.2.1::[]))) (fun (v19:(List Int))=>(cond ((decide ((0:Int)≤v6.1))&&(decide (v6.1 < ((v12.length:Nat):Int)))) (Option.bind v12[(0+(Int.toNat v6.1))]? (fun (v20:(Int×(Int×(Int×(List Int)))))=>(cond (decide ((0+v12.length)≤(List.set v12 (0+(Int.toNat v6.1)) (v20.1,v20.2.1,v20.2.2.1,v19)).length)) (some ((List.take v12.length (List.set v12 (0+(Int.toNat v6.1)) (v20.1,v20.2.1,v20.2.2.1,v19))),(0:Int))) none))) none))))) none) (cond (decide ((0+v12.length)≤v12.length)) (some ((List.take v12.length v12),(0:Int))) none)))))) none) (cond (decide ((0+v12.length)≤v12.length)) (some ((List.take v12.length v12),(0:Int))) none)))) none)))) none)))))))):=by kernel_rfl
end Go.Proofs.Yticljphbbdnomaa.VL
end
section
namespace Go.Proofs.Yticljphbbdnomaa.VL
open Go
set_option linter.unusedVariables false
set_option linter.unusedSimpArgs false
set_option linter.unusedSectionVars false
set_option maxRecDepth 100000
variable [Val]
theorem PE.ok.of {f:Nat} {ins outs:Fm} {F:DT ins.den→Option (DT outs.den)} (h:(⟨f,ins,outs,F⟩:PE).ok Try.prog) (v:DT ins.den) (y:DT outs.den) (hF:F v=some y):VPure Try.prog f (toPVL (expF e0 ins v)) (hdX (expF e0 outs y)).toPV:=h.h v y hF
theorem t32 {who:Int} (h32:F32 who=some true):VPure Try.prog 32 [vi who] (vb true):=PE.ok.of (F:=F32) pe32_ok who true h32
theorem t33 {who:Int} (h32:F33 who=some true):VPure Try.prog 33 [vi who] (vb true):=PE.ok.of (F:=F33) pe33_ok who true h32
theorem t14 {l:List DV} (h14:F14 l=some 0):VPure Try.prog 14 [.sl false (l.map rowP)] (vi 0):=PE.ok.of (F:=F14) pe14_ok l 0 h14
theorem t34 {l:List DV} {who i:Int} (h:F34 (l,who)=some (i,true)):VPure Try.prog 34 [.sl false (l.map rowP),vi who] (.tup [vi i,vb true]):=PE.ok.of (F:=F34) pe34_ok (l,who) (i,true) h
theorem t35 {l:List Int} {who i:Int} (h:F35 (l,who)=some (i,false)):VPure Try.prog 35 [.sl false (l.map vi),vi who] (.tup [vi i,vb false]):=PE.ok.of (F:=F35) pe35_ok (l,who) (i,false) h
theorem t13 (v:List DV×(Int×(Int×(Int×Int)))) (y:List DV×Int) (h:F13x v=some y):VPure Try.prog 13 [.sl false (v.1.map rowP),vi v.2.1,vu v.2.2.1,vi v.2.2.2.1,vi v.2.2.2.2] (.tup [.sl false (y.1.map rowP),vi y.2]):=PE.ok.of (F:=F13x) pe13x_ok v y h
theorem rowE (a b c:Int) (X:List Int):rowP (a,b,c,X)=.agg [vi a,vu b,vi c,.sl false (X.map vi)]:=rfl
theorem rowIns (l:List DV) (i:Nat) (d:DV) (k:Nat) (b:Int):(l.map rowP).set i (.agg [vi d.1,vu d.2.1,vi d.2.2.1,.sl false ((byP d).take k++[vi b]++(byP d).drop k)])=(l.set i (d.1,d.2.1,d.2.2.1,d.2.2.2.take k++[b]++d.2.2.2.drop k)).map rowP:=by
 rw [List.map_set,rowE,List.map_append,List.map_append,List.map_take,List.map_drop,List.map_cons,List.map_nil]
 rfl
noncomputable section
def orF {α:Type}:Option α→Option α→Option α
 | some a,_=>some a
 | none,b=>b
theorem orF_some {α:Type} {a b:Option α} {y:α} (h:orF a b=some y):a=some y∨b=some y:=by
 cases a with
 | some x=>exact .inl h
 | none=>exact .inr h
def F13i (l:List DV) (who inc by' now:Int):Option (List DV×Int) :=
 match F14 l,F32 who,F32 by',F33 now,F34 (l,who) with
 | some c,some a1,some a2,some a3,some (i,a4) =>
  if c=0∧a1=true∧a2=true∧a3=true∧a4=true∧0≤i∧l.length≤1000∧(∀ d ∈ l,d.2.2.2≠[]∧d.2.2.2.length≤1000) then
   match l[i.toNat]? with
   | some d=>(match F35 (d.2.2.2,by') with
    | some (k,a5)=>if a5=false∧d.2.1=inc∧0≤k∧k.toNat≤d.2.2.2.length then some (l.set i.toNat (d.1,(d.2.1,(d.2.2.1,d.2.2.2.take k.toNat++[by']++d.2.2.2.drop k.toNat))),0) else none
    | none=>none)
   | none=>none
  else none
 | _,_,_,_,_=>none
def F13:DT ((.co (.v (.sl (.p (.i .i64) (.p (.i .u64) (.p (.i .i64) (.sl (.i .i64))))))) (.co (.v (.i .i64)) (.co (.v (.i .u64)) (.co (.v (.i .i64)) (.co (.v (.i .i64)) .no))))):Fm).den→Option (DT (.tup (.co (.v (.sl (.p (.i .i64) (.p (.i .u64) (.p (.i .i64) (.sl (.i .i64))))))) (.co (.v (.i .i64)) .no)):Fm).den) :=
 fun (v:List DV×(Int×(Int×(Int×Int))))=>orF (F13x v) (F13i v.1 v.2.1 v.2.2.1 v.2.2.2.1 v.2.2.2.2)
def pe13:PE:=⟨13,(.co (.v (.sl (.p (.i .i64) (.p (.i .u64) (.p (.i .i64) (.sl (.i .i64))))))) (.co (.v (.i .i64)) (.co (.v (.i .u64)) (.co (.v (.i .i64)) (.co (.v (.i .i64)) .no))))),(.tup (.co (.v (.sl (.p (.i .i64) (.p (.i .u64) (.p (.i .i64) (.sl (.i .i64))))))) (.co (.v (.i .i64)) .no))),F13⟩
theorem F13i_ok {l:List DV} {who inc by' now:Int} {y:List DV×Int} (h:F13i l who inc by' now=some y):VPure Try.prog 13 [.sl false (l.map rowP),vi who,vu inc,vi by',vi now] (.tup [.sl false (y.1.map rowP),vi y.2]):=by
 unfold F13i at h
 split at h
 case h_2=>cases h
 rename_i c a1 a2 a3 i a4 h14 h32 h32b h33 h34
 split at h
 case isFalse=>cases h
 rename_i hc
 obtain ⟨rfl,rfl,rfl,rfl,rfl,hi0,hl,hb⟩:=hc
 split at h
 case h_2=>cases h
 rename_i d hd
 split at h
 case h_2=>cases h
 rename_i k a5 h35
 split at h
 case isFalse=>cases h
 rename_i hc
 obtain ⟨rfl,rfl,hk0,hk⟩:=hc
 have h:=Option.some.inj h
 subst h
 have ei:((i.toNat:Nat):Int)=i:=Int.toNat_of_nonneg hi0
 have ek:((k.toNat:Nat):Int)=k:=Int.toNat_of_nonneg hk0
 have q14:VPure Try.prog 14 [.sl false (l.map rowP)] (vi 0):=t14 h14
 have q32:VPure Try.prog 32 [vi who] (vb true):=t32 h32
 have q32b:VPure Try.prog 32 [vi by'] (vb true):=t32 h32b
 have q33:VPure Try.prog 33 [vi now] (vb true):=t33 h33
 have q34:VPure Try.prog 34 [.sl false (l.map rowP),vi who] (.tup [vi (i.toNat:Nat),vb true]):=by rw [ei]; exact t34 h34
 have q35:VPure Try.prog 35 [.sl false (byP d),vi by'] (.tup [vi (k.toNat:Nat),vb false]):=by rw [ek]; exact t35 h35
 have q:=raise_in (now:=now) hl hb q14 q32 q32b q33 q34 hd rfl q35 hk
 have e:=rowIns l i.toNat d k.toNat by'
 rw [e] at q
 exact q
theorem F13_h (v:List DV×(Int×(Int×(Int×Int)))) (y:List DV×Int) (h:orF (F13x v) (F13i v.1 v.2.1 v.2.2.1 v.2.2.2.1 v.2.2.2.2)=some y):VPure Try.prog 13 [.sl false (v.1.map rowP),vi v.2.1,vu v.2.2.1,vi v.2.2.2.1,vi v.2.2.2.2] (.tup [.sl false (y.1.map rowP),vi y.2]):=by
 rcases orF_some h with h | h
 ·exact t13 v y h
 ·exact F13i_ok h
theorem pe13_ok:pe13.ok Try.prog:=⟨rfl,rfl,rfl,rfl,rfl,fun v y h=>F13_h v y h⟩
end
end Go.Proofs.Yticljphbbdnomaa.VL
end
section
namespace Go.Proofs.Yticljphbbdnomaa.VL
open Go
set_option maxRecDepth 100000
set_option linter.unusedVariables false
set_option linter.unusedSectionVars false
variable [Val]
noncomputable section


def xf5:FX:=⟨(.seq (.reg [(xi 4 (.mov (.c (.v (.bool false)))))]) (.seq (.seq (.reg [(xm 15 1),(xi 16 (.len (.t 15))),(xi 17 (.bin .eql (.t 16) (.c (.v (.int .i64 0)))))]) (.cond (.t 17) (.seq (.reg [(xi 18 (.call 0 11 [])),(xm 4 18)]) .ret) .skip)) (.seq (.cutN ⟨[1,19,20,21,22,23],[],⟨[],[(1,.v (.sl (.i .u8)))],[]⟩⟩ (.seq (.reg [(xm 19 1),(xi 20 (.len (.t 19))),(xi 21 (.bin .gtr (.t 20) (.c (.v (.int .i64 20)))))]) (.cond (.t 21) (.reg [(xm 22 1),(xi 23 (.slc 1 (.t 22) none (some (.c (.v (.int .i64 20)))) none)),(xm 1 23)]) .skip))) (.seq (.reg [(xi 5 (.mov (.c (.sl true [])))),(xi 6 (.mov (.c (.sl true []))))]) (.seq (.reg [⟨⟨(some 24),(.mkm 1),none⟩,(.p (.i .i64) .b),[],[]⟩,(xm 7 24)]) (.seq (.cut ⟨[4,5,6,8,9,10,11,12,25,26,27,28,29,30,31,32,33,34,35,36,37,38,39,40,41,42,43,44,45,46,47,48,49,50,51,52,53,54,55,56,57,58,59,60,61,62,63,64,65,66,67,68,69,70,71,72,73,74,75],[1],⟨[],[(5,.v (.sl (.p (.i .i64) (.p (.i .u64) (.p (.i .i64) (.sl (.i .i64))))))),(6,.v (.sl (.p (.i .i64) (.p (.i .u64) (.p (.i .i64) (.sl (.i .i64)))))))],[⟨1,.map (.i .i64) .b,true⟩]⟩⟩ (.seq (.reg [(xi 8 (.mov (.c (.v (.int .i64 0)))))]) (.blk 0 (.loop ⟨[4,5,6,8,9,10,11,12,25,26,27,28,29,30,31,32,33,34,35,36,37,38,39,40,41,42,43,44,45,46,47,48,49,50,51,52,53,54,55,56,57,58,59,60,61,62,63,64,65,66,67,68,69,70,71,72,73,74,75],[1],⟨[],[(5,.v (.sl (.p (.i .i64) (.p (.i .u64) (.p (.i .i64) (.sl (.i .i64))))))),(6,.v (.sl (.p (.i .i64) (.p (.i .u64) (.p (.i .i64) (.sl (.i .i64))))))),(8,.v (.i .i64))],[⟨1,.map (.i .i64) .b,true⟩]⟩⟩ (.seq (.seq (.reg [(xm 25 8),(xm 26 1),(xi 27 (.len (.t 26))),(xi 28 (.bin .lss (.t 25) (.t 27)))]) (.cond (.t 28) .skip (.exit 0))) (.seq (.cut ⟨[4,5,6,9,10,11,12,31,32,33,34,35,36,37,38,39,40,41,42,43,44,45,46,47,48,49,50,51,52,53,54,55,56,57,58,59,60,61,62,63,64,65,66,67,68,69,70,71,72,73,74,75],[1],⟨[],[(5,.v (.sl (.p (.i .i64) (.p (.i .u64) (.p (.i .i64) (.sl (.i .i64))))))),(6,.v (.sl (.p (.i .i64) (.p (.i .u64) (.p (.i .i64) (.sl (.i .i64)))))))],[⟨1,.map (.i .i64) .b,true⟩]⟩⟩ (.blk 1 (.seq (.reg [(xm 32 5),(xm 33 0),(xm 34 1),(xm 35 8),(xi 36 (.iad 1 (.t 34) (.t 35))),(xi 37 (.load false 1 (.t 36))),(xi 38 (.bin .rem (.t 37) (.c (.v (.int .u8 16))))),(xi 39 (.conv .i64 (.t 38))),(xm 40 8),(xi 41 (.call 2 13 [(.t 32),(.c (.v (.int .i64 3))),(.t 33),(.t 39),(.t 40)])),(xm 31 41),(xi 42 (.ext (.t 31) 0)),(xi 43 (.ext (.t 31) 1)),(xm 9 42),(xm 10 43)]) (.seq (.reg [(xm 45 6),(xm 46 0),(xm 47 1),(xm 48 1),(xi 49 (.len (.t 48))),(xi 50 (.bin .sub (.t 49) (.c (.v (.int .i64 1))))),(xm 51 8),(xi 52 (.bin .sub (.t 50) (.t 51))),(xi 53 (.iad 1 (.t 47) (.t 52))),(xi 54 (.load false 1 (.t 53))),(xi 55 (.bin .rem (.t 54) (.c (.v (.int .u8 16))))),(xi 56 (.conv .i64 (.t 55))),(xm 57 8),(xi 58 (.call 3 13 [(.t 45),(.c (.v (.int .i64 3))),(.t 46),(.t 56),(.t 57)])),(xm 44 58),(xi 59 (.ext (.t 44) 0)),(xi 60 (.ext (.t 44) 1)),(xm 11 59),(xm 12 60)]) (.seq (.cut ⟨[4,61,62,63,64,65,66],[],⟨[],[],[]⟩⟩ (.seq (.cutN ⟨[61,62,63,64,65,66],[],⟨[],[(66,.v .b)],[]⟩⟩ (.reg [(xm 61 10),(xi 62 (.bin .neq (.t 61) (.c (.v (.int .i64 0))))),(xm 63 62),(xg 64 (.mov (.t 12)) 63 false),(xg 65 (.bin .neq (.t 64) (.c (.v (.int .i64 0)))) 63 false),(xi 66 (.pick (.t 63) (.c (.v (.bool true))) (.t 65)))])) (.cond (.t 66) (.seq (.reg [(xi 4 (.mov (.c (.v (.bool false)))))]) .ret) .skip))) (.seq (.reg [(xm 67 9),(xm 68 11),(xm 5 67),(xm 6 68)]) (.reg [(xm 69 7),(xm 70 1),(xm 71 8),(xi 72 (.iad 1 (.t 70) (.t 71))),(xi 73 (.load false 1 (.t 72))),(xi 74 (.bin .rem (.t 73) (.c (.v (.int .u8 16))))),(xi 75 (.conv .i64 (.t 74))),(xz (.mup .i (.t 69) (.t 75) (.c (.v (.bool true)))))]))))))) (.reg [(xm 29 8),(xi 30 (.bin .add (.t 29) (.c (.v (.int .i64 1))))),(xm 8 30)]))))))) (.seq (.reg [(xm 77 5),(xm 78 0),(xm 79 1),(xi 80 (.iad 1 (.t 79) (.c (.v (.int .i64 0))))),(xi 81 (.load false 1 (.t 80))),(xi 82 (.bin .rem (.t 81) (.c (.v (.int .u8 16))))),(xi 83 (.conv .i64 (.t 82))),(xi 84 (.call 4 13 [(.t 77),(.c (.v (.int .i64 3))),(.t 78),(.t 83),(.c (.v (.int .i64 99)))])),(xm 76 84),(xi 85 (.ext (.t 76) 0)),(xi 86 (.ext (.t 76) 1)),(xm 13 85),(xm 14 86)]) (.seq (.cut ⟨[4,87,88,89,90,91,92,93,94,95,96,97,98,99,100,101,102,103,104],[],⟨[],[],[]⟩⟩ (.seq (.cutN ⟨[87,88,89,90,91,92,93,94,95,96,97,98,99,100,101,102,103,104],[],⟨[],[(104,.v .b)],[]⟩⟩ (.reg [(xm 87 14),(xi 88 (.bin .neq (.t 87) (.c (.v (.int .i64 0))))),(xm 89 88),(xg 90 (.mov (.t 5)) 89 false),(xg 91 (.len (.t 90)) 89 false),(xg 92 (.bin .neq (.t 91) (.c (.v (.int .i64 1)))) 89 false),(xi 93 (.pick (.t 89) (.c (.v (.bool true))) (.t 92))),(xm 94 93),(xg 95 (.mov (.t 6)) 94 false),(xg 96 (.len (.t 95)) 94 false),(xg 97 (.bin .neq (.t 96) (.c (.v (.int .i64 1)))) 94 false),(xi 98 (.pick (.t 94) (.c (.v (.bool true))) (.t 97))),(xm 99 98),(xg 100 (.mov (.t 13)) 99 false),(xg 101 (.mov (.t 5)) 99 false),(xg 102 (.call 5 15 [(.t 100),(.t 101)]) 99 false),(xg 103 (.un .not (.t 102)) 99 false),(xi 104 (.pick (.t 99) (.c (.v (.bool true))) (.t 103)))])) (.cond (.t 104) (.seq (.reg [(xi 4 (.mov (.c (.v (.bool false)))))]) .ret) .skip))) (.seq (.dr [] [(xm 105 5),(xi 106 (.iad 4 (.t 105) (.c (.v (.int .i64 0))))),(xi 107 (.fad 2 (.t 106))),(xi 108 (.load false 1 (.t 107))),(xi 109 (.bin .eql (.t 108) (.c (.v (.int .i64 0))))),(xm 110 109),(xg 111 (.mov (.t 5)) 110 true),(xg 112 (.iad 4 (.t 111) (.c (.v (.int .i64 0)))) 110 true),(xg 113 (.fad 1 (.t 112)) 110 true),(xg 114 (.load false 1 (.t 113)) 110 true),(xg 115 (.mov (.t 0)) 110 true),(xg 116 (.bin .eql (.t 114) (.t 115)) 110 true),(xi 117 (.pick (.t 110) (.t 116) (.c (.v (.bool false))))),(xm 118 117),(xg 119 (.mov (.t 5)) 118 true),(xg 120 (.iad 4 (.t 119) (.c (.v (.int .i64 0)))) 118 true),(xg 121 (.fad 3 (.t 120)) 118 true),(xg 122 (.load false 1 (.t 121)) 118 true),(xg 123 (.len (.t 122)) 118 true),(xg 124 (.mov (.t 7)) 118 true),(xg 125 (.lenM (.t 124)) 118 true),(xg 126 (.bin .eql (.t 123) (.t 125)) 118 true),(xi 127 (.pick (.t 118) (.t 126) (.c (.v (.bool false))))),(xm 128 127),(xg 129 (.mov (.t 5)) 128 true),(xg 130 (.iad 4 (.t 129) (.c (.v (.int .i64 0)))) 128 true),(xg 131 (.fad 3 (.t 130)) 128 true),(xg 132 (.load false 1 (.t 131)) 128 true),(xg 133 (.mov (.t 6)) 128 true),(xg 134 (.iad 4 (.t 133) (.c (.v (.int .i64 0)))) 128 true),(xg 135 (.fad 3 (.t 134)) 128 true),(xg 136 (.load false 1 (.t 135)) 128 true),(xg 137 (.callG 6 16 [(.t 132),(.t 136)]) 128 true),(xi 138 (.pick (.t 128) (.t 137) (.c (.v (.bool false))))),(xm 139 138),(xg 140 (.callG 7 11 []) 139 true),(xi 141 (.pick (.t 139) (.t 140) (.c (.v (.bool false))))),(xm 4 141)]) .ret))))))))),[18,24,41,58,84,102,137,140],142,[.t 4],9⟩
theorem xf5_ok:xf5.ok Try.prog 5:=⟨_,_,Try.func5,rfl,by kernel_rfl,rfl,by kernel_rfl,rfl,by kernel_rfl,by kernel_rfl⟩
def tb5:List PE:=[pe11,pe13,pe15,pe16]
theorem tb5_ok:PEsOk Try.prog tb5:=⟨pe11_ok,pe13_ok,pe15_ok,pe16_ok,trivial⟩
def ex5:List EX:=[]
theorem ex5_ok:EXsOk Try.prog ex5:=trivial
def in5:List IN:=[]
theorem in5_ok:INsOk Try.prog in5:=trivial
def F5:DT ((.co (.v (.i .u64)) (.co (.v (.sl (.i .u8))) .no)):Fm).den→Option (DT (.v .b:Fm).den):=pureT tb5 ex5 in5 0 xf5 _ _ []
def pe5:PE:=⟨5,(.co (.v (.i .u64)) (.co (.v (.sl (.i .u8))) .no)),.v .b,F5⟩
theorem pe5_ok:pe5.ok Try.prog:=pe_of hm tb5_ok ex5_ok in5_ok xf5_ok (by kernel_rfl) (fun _=>rfl)
end
end Go.Proofs.Yticljphbbdnomaa.VL
end
section
namespace Go.Proofs.Yticljphbbdnomaa.VL
open Go
set_option maxRecDepth 100000
set_option linter.unusedVariables false
set_option linter.unusedSectionVars false
variable [Val]
theorem F5_eq (v:(Int×(List Int))):F5 v=(cond (((v.2.length:Nat):Int)==(0:Int)) (Option.bind (F11 ()) (fun (v0:Bool)=>(some v0))) (Option.bind (cond (decide (((v.2.length:Nat):Int) > (20:Int))) (cond (decide ((20:Int)≤((v.2.length:Nat):Int))) (some (List.take 20 v.2)) none) (some v.2)) (fun (v1:(List Int))=>(joinX (loopX (fun (v2:(((List (Int×(Int×(Int×(List Int)))))×((List (Int×(Int×(Int×(List Int)))))×Int))×(List (Int×Bool))))=>(cond (decide (v2.1.2.2 < ((v1.length:Nat):Int))) (joinX (cond (decide ((0:Int)≤v2.1.2.2)) (Option.bind v1[(Int.toNat v2.1.2.2)]? (fun (v3:Int)=>(Option.bind (F13 (v2.1.1,(3:Int),v.1,(IntKind.wrap IntKind.i64 (Int.tmod v3 (16:Int))),v2.1.2.2)) (fun (v4:((List (Int×(Int×(Int×(List Int)))))×Int))=>(cond (decide ((0:Int)≤(IntKind.wrap IntKind.i64 ((IntKind.wrap IntKind.i64 (((v1.length:Nat):Int) - (1:Int))) - v2.1.2.2)))) (Option.bind v1[(Int.toNat (IntKind.wrap IntKind.i64 ((IntKind.wrap IntKind.i64 (((v1.length:Nat):Int) - (1:Int))) - v2.1.2.2)))]? (fun (v5:Int)=>(Option.bind (F13 (v2.1.2.1,(3:Int),v.1,(IntKind.wrap IntKind.i64 (Int.tmod v5 (16:Int))),v2.1.2.2)) (fun (v6:((List (Int×(Int×(Int×(List Int)))))×Int))=>(joinX (Option.bind (cond (v4.2 != (0:Int)) (some true) (some (v6.2 != (0:Int)))) (fun (v7:Bool)=>(cond v7 (some (.inr (.inr (.inr (.inr false))))) (some (.inl ()))))) (fun (v8:Unit)=>(cond (decide ((0:Int)≤v2.1.2.2)) (Option.bind v1[(Int.toNat v2.1.2.2)]? (fun (v9:Int)=>(some (.inl ((v4.1,v6.1),(mput (kt:=(TT.i IntKind.i64)) (vt:=TT.b) (IntKind.wrap IntKind.i64 (Int.tmod v9 (16:Int))) true v2.2)))))) none))))))) none))))) none) (fun (v10:(((List (Int×(Int×(Int×(List Int)))))×(List (Int×(Int×(Int×(List Int))))))×(List (Int×Bool))))=>(some (.inl ((v10.1.1,v10.1.2,(IntKind.wrap IntKind.i64 (v2.1.2.2+(1:Int)))),v10.2))))) (some (.inr (.inl ((v2.1.1,v2.1.2.1),v2.2)))))) (([],[],(0:Int)),[])) (fun (v11:(((List (Int×(Int×(Int×(List Int)))))×(List (Int×(Int×(Int×(List Int))))))×(List (Int×Bool))))=>(Option.bind v1[0]? (fun (v12:Int)=>(Option.bind (F13 (v11.1.1,(3:Int),v.1,(IntKind.wrap IntKind.i64 (Int.tmod v12 (16:Int))),(99:Int))) (fun (v13:((List (Int×(Int×(Int×(List Int)))))×Int))=>(joinX (Option.bind (cond (v13.2 != (0:Int)) (some true) (cond (((v11.1.1.length:Nat):Int) != (1:Int)) (some true) (cond (((v11.1.2.length:Nat):Int) != (1:Int)) (some true) (Option.bind (F15 (v13.1,v11.1.1)) (fun (v14:Bool)=>(some (!v14))))))) (fun (v15:Bool)=>(cond v15 (some (.inr false)) (some (.inl ()))))) (fun (v16:Unit)=>(Option.bind v11.1.1[0]? (fun (v17:(Int×(Int×(Int×(List Int)))))=>(cond (v17.2.2.1==(0:Int)) (Option.bind v11.1.1[0]? (fun (v18:(Int×(Int×(Int×(List Int)))))=>(cond (v18.2.1==v.1) (Option.bind v11.1.1[0]? (fun (v19:(Int×(Int×(Int×(List Int)))))=>(cond (((v19.2.2.2.length:Nat):Int)==((v11.2.length:Nat):Int)) (Option.bind v11.1.1[0]? (fun (v20:(Int×(Int×(Int×(List Int)))))=>(Option.bind v11.1.2[0]? (fun (v21:(Int×(Int×(Int×(List Int)))))=>(Option.bind (F16 (v20.2.2.2,v21.2.2.2)) (fun (v22:Bool)=>(cond v22 (Option.bind (F11 ()) (fun (v23:Bool)=>(some v23))) (some false)))))))) (some false)))) (some false)))) (some false))))))))))))))):=by kernel_rfl
end Go.Proofs.Yticljphbbdnomaa.VL
end
section
namespace Go.Proofs.Yticljphbbdnomaa.VL
open Go
set_option linter.unusedVariables false
set_option linter.unusedSectionVars false
set_option linter.unusedSimpArgs false
set_option maxRecDepth 100000
variable [Val]
theorem la_fst (l:List DB) (j:Nat):la (l.map Prod.fst) j=(da l j).1:=by
 unfold la da
 rw [List.getD_eq_getElem?_getD,List.getD_eq_getElem?_getD,List.getElem?_map]
 cases l[j]?<;>rfl
theorem fst_up {l:List DB} (h:mayD l=true):upB (l.map Prod.fst)=true:=by
 unfold upB
 rw [List.all_eq_true]
 intro i hi
 rw [List.mem_range,List.length_map] at hi
 have ho:=okD_of h hi
 unfold okD at ho
 rw [Bool.and_eq_true,Bool.and_eq_true] at ho
 unfold upAt
 rw [la_fst,la_fst,ho.1,ho.2.1]; rfl
theorem up_srt {l:List Int} (h:upB l=true):inO.Srt id l:=by
 rw [upB_eq,Bool.and_eq_true] at h
 unfold KOrd.Srt
 rw [List.pairwise_iff_getElem]
 intro i j hi hj hij
 have:=ris_lt h.2 i j hij hj
 rw [← la_eq hi,← la_eq hj] at this
 exact decide_eq_true this
theorem may_srt {l:List DB} (h:mayD l=true):inO.Srt Prod.fst l:=by
 have:=up_srt (fst_up h)
 unfold KOrd.Srt at this ⊢
 rw [List.pairwise_map] at this
 exact this
theorem may_len {l:List DB} (h:mayD l=true):l.length≤64:=by
 have:=up_len (fst_up h)
 rw [List.length_map] at this; exact this
theorem may_by {l:List DB} (h:mayD l=true) {d:DB} (hd:d ∈ l):upB d.2.2.2=true∧0 < d.2.2.2.length∧d.2.2.2.length≤64∧nodeB d.1=true∧momB d.2.2.1=true:=by
 obtain ⟨i,hi,rfl⟩:=List.mem_iff_getElem.1 hd
 have ho:=okD_of h hi
 rw [da_eq hi]
 unfold okD risesB at ho
 simp only [Bool.and_eq_true,decide_eq_true_eq] at ho
 exact ⟨ho.2.2.2.1,ho.2.2.2.2,up_len ho.2.2.2.1,ho.1,ho.2.2.1⟩
theorem may_sz {l:List DB} (h:mayD l=true):szD l:=by
 refine ⟨Nat.le_trans (may_len h) (by decide),fun i hi=>Nat.le_trans (may_by h (d:=da l i) ?_).2.2.1 (by decide)⟩
 rw [← da_eq hi]; exact List.getElem_mem hi
theorem F56_ok (a:Int):F56 a=some false:=by
 show some (a != a)=some false
 rw [bne_self_eq_false]
theorem F50_ok (a b:Int):F50 (a,b)=some (if a < b then -1 else if a > b then 1 else 0):=by
 rw [F50_eq]
 simp -implicitDefEqProofs only [F56_ok,eq_self,xs]
 by_cases h:a < b
 ·simp -implicitDefEqProofs only [h,eq_self,xs]
 ·by_cases h2:a > b
  ·simp -implicitDefEqProofs only [h,h2,eq_self,xs]
  ·simp -implicitDefEqProofs only [h,h2,eq_self,xs]
theorem F49_ok (d:DB) (b:Int):F49 (d,b)=some (if d.1 < b then -1 else if d.1 > b then 1 else 0):=by
 rw [F49_eq]
 show Option.bind (F50 (d.1,b)) _=_
 rw [F50_ok]; rfl
theorem F51_ok (a b:Int):F51 (a,b)=some (decide (a < b)):=by
 rw [F51_eq]
 simp -implicitDefEqProofs only [F56_ok,eq_self,xs]
theorem F52_ok (a:Int):F52 a=some false:=by
 show some (a != a)=some false
 rw [bne_self_eq_false]
theorem F34_ok {l:List DB} (h:mayD l=true) (who:Int):F34 (l,who)=some (((inO.plc Prod.fst l who:Nat):Int),(KOrd.look Prod.fst l who).isSome):=by
 have hs:=may_srt h
 have hl:=may_len h
 rw [F34_eq]
 rw [loop_find hs who rfl]
 rotate_left
 ·intro i hi
  have q:¬ (i:Int) < (i:Int):=by omega
  simp -implicitDefEqProofs only [q,eq_self,xs]
 ·intro i j m x hij hj hm hml hx
  have q1:(i:Int) < (j:Int):=by omega
  have hmid:=mid (i:=i) (j:=j) (by omega)
  rw [← hm] at hmid
  have q3:(0:Int)≤(m:Int):=by omega
  have e:F49 ((x.1,x.2.1,x.2.2.1,x.2.2.2),who)=some (if x.1 < who then -1 else if x.1 > who then 1 else 0):=F49_ok x who
  simp -implicitDefEqProofs only [q1,hmid,q3,hx,e,w1 (show m≤9223372036854775806 by omega),eq_self,xs]
  show cond (decide ((if x.1 < who then (-1:Int) else if x.1 > who then 1 else 0) < 0)) _ _=cond (decide (x.1 < who)) _ _
  by_cases h1:x.1 < who
  ·rw [if_pos h1,decide_eq_true h1]; rfl
  ·rw [if_neg h1,decide_eq_false h1]
   by_cases h2:x.1 > who
   ·rw [if_pos h2]; rfl
   ·rw [if_neg h2]; rfl
 ·have hp:=KOrd.plc_le (O:=inO) (key:=Prod.fst) l who
  have ha:=KOrd.look_at hs who
  rw [ha]
  by_cases hq:inO.plc Prod.fst l who < l.length
  ·have q1:((inO.plc Prod.fst l who:Nat):Int) < ((l.length:Nat):Int):=by omega
   have q2:(0:Int)≤((inO.plc Prod.fst l who:Nat):Int):=by omega
   have g:=List.getElem?_eq_getElem hq
   have hnl:inO.lt (l[inO.plc Prod.fst l who]).1 who=false:=by
    have:=(KOrd.split hs who).2
    have hm:l[inO.plc Prod.fst l who] ∈ l.drop (inO.plc Prod.fst l who):=by rw [List.mem_iff_getElem?]; exact ⟨0,by rw [List.getElem?_drop]; exact g⟩
    rw [this,List.mem_filter] at hm
    simpa using hm.2
   rw [g]
   generalize l[inO.plc Prod.fst l who]=x at *
   have e:F49 ((x.1,x.2.1,x.2.2.1,x.2.2.2),who)=some (if x.1 < who then -1 else if x.1 > who then 1 else 0):=F49_ok x who
   simp -implicitDefEqProofs only [q1,q2,g,e,eq_self,xs]
   have h1:¬ x.1 < who:=of_decide_eq_false hnl
   show some (_,_)=some (_,_)
   congr 2
   rw [if_neg h1]
   by_cases h2:x.1 > who
   ·rw [if_pos h2,if_pos (show inO.lt who x.1=true from decide_eq_true h2)]; rfl
   ·rw [if_neg h2,if_neg (show ¬ inO.lt who x.1=true by intro q; exact h2 (of_decide_eq_true q))]; rfl
  ·have q1:¬ ((inO.plc Prod.fst l who:Nat):Int) < ((l.length:Nat):Int):=by omega
   simp -implicitDefEqProofs only [q1,eq_self,xs]
   rw [List.getElem?_eq_none (by omega)]
   rfl
theorem F35_ok {l:List Int} (hs:inO.Srt id l) (hl:l.length≤1000) (b:Int):F35 (l,b)=some (((inO.plc id l b:Nat):Int),decide (b ∈ l)):=by
 rw [F35_eq]
 rw [loop_find hs b rfl]
 rotate_left
 ·intro i hi
  have q:¬ (i:Int) < (i:Int):=by omega
  simp -implicitDefEqProofs only [q,eq_self,xs]
 ·intro i j m x hij hj hm hml hx
  have q1:(i:Int) < (j:Int):=by omega
  have hmid:=mid (i:=i) (j:=j) (by omega)
  rw [← hm] at hmid
  have q3:(0:Int)≤(m:Int):=by omega
  simp -implicitDefEqProofs only [q1,hmid,q3,hx,F51_ok x b,w1 (show m≤9223372036854775806 by omega),eq_self,xs]
  rfl
 ·have hp:=KOrd.plc_le (O:=inO) (key:=id) l b
  have ha:=KOrd.look_at hs b
  have hm1:(KOrd.look id l b).isSome=decide (b ∈ l):=by
   rw [Bool.eq_iff_iff,decide_eq_true_iff]
   constructor
   ·intro h
    obtain ⟨x,hx⟩:=Option.isSome_iff_exists.1 h
    obtain ⟨p1,p2⟩:=KOrd.look_some hx
    rw [← p2]; exact p1
   ·intro h
    have:=KOrd.look_mem hs h
    rw [show id b=b from rfl] at this
    rw [this]; rfl
  rw [← hm1,ha]
  by_cases hq:inO.plc id l b < l.length
  ·have q1:((inO.plc id l b:Nat):Int) < ((l.length:Nat):Int):=by omega
   have q2:(0:Int)≤((inO.plc id l b:Nat):Int):=by omega
   have g:=List.getElem?_eq_getElem hq
   have hnl:inO.lt (id l[inO.plc id l b]) b=false:=by
    have:=(KOrd.split hs b).2
    have hm:l[inO.plc id l b] ∈ l.drop (inO.plc id l b):=by rw [List.mem_iff_getElem?]; exact ⟨0,by rw [List.getElem?_drop]; exact g⟩
    rw [this,List.mem_filter] at hm
    simpa using hm.2
   rw [g]
   generalize l[inO.plc id l b]=x at *
   have h1:¬ x < b:=of_decide_eq_false hnl
   by_cases h2:x > b
   ·have e:(x==b)=false:=by rw [beq_eq_false_iff_ne]; omega
    simp -implicitDefEqProofs only [q1,q2,g,e,F52_ok,eq_self,xs]
    rw [if_pos (show inO.lt b (id x)=true from decide_eq_true h2)]; rfl
   ·have e:(x==b)=true:=by rw [beq_iff_eq]; omega
    simp -implicitDefEqProofs only [q1,q2,g,e,eq_self,xs]
    rw [if_neg (show ¬ inO.lt b (id x)=true by intro q; exact h2 (of_decide_eq_true q))]; rfl
  ·have q1:¬ ((inO.plc id l b:Nat):Int) < ((l.length:Nat):Int):=by omega
   simp -implicitDefEqProofs only [q1,eq_self,xs]
   rw [List.getElem?_eq_none (by omega)]
   rfl
end Go.Proofs.Yticljphbbdnomaa.VL
end
section
namespace Go.Proofs.Yticljphbbdnomaa.VL
open Go
set_option linter.unusedVariables false
set_option linter.unusedSectionVars false
set_option linter.unusedSimpArgs false
set_option maxRecDepth 100000
variable [Val]
theorem F13_l {v:List DB×(Int×(Int×(Int×Int)))} {z:List DB×Int} (h:F13x v=some z):F13 v=some z:=by
 have e:F13 v=orF (F13x v) (F13i v.1 v.2.1 v.2.2.1 v.2.2.2.1 v.2.2.2.2):=rfl
 rw [e,h]; rfl
theorem F13_r {v:List DB×(Int×(Int×(Int×Int)))} (h:F13x v=none):F13 v=F13i v.1 v.2.1 v.2.2.1 v.2.2.2.1 v.2.2.2.2:=by
 have e:F13 v=orF (F13x v) (F13i v.1 v.2.1 v.2.2.1 v.2.2.2.1 v.2.2.2.2):=rfl
 rw [e,h]; rfl
theorem copy_loop {l:List DB} (hm:mayD l=true) {f:Int×List DB→Option ((Int×List DB) ⊕ List DB)}
  (hend:f ((l.length:Int),l)=some (.inr l))
  (hstep:∀ i:Nat,(hi:i < l.length)→(da l i).2.2.2.length≤1000→f ((i:Int),l)=some (.inl (((i+1:Nat):Int),l))):loopX f (0,l)=some l:=by
 refine loop_detE (s0:=((0:Int),l)) l.length (fun i=>((i:Int),l)) l rfl hend fun i hi=>hstep i hi ?_
 have:=(may_by hm (d:=da l i) (by rw [← da_eq hi]; exact List.getElem_mem hi)).2.2.1
 omega
theorem F13x_new {l:List DB} {who inc by' now:Int} (hm:mayD l=true) (hw:nodeB who=true) (hb:nodeB by'=true) (hn:momB now=true) (hno:KOrd.look Prod.fst l who=none) :
  F13x (l,(who,(inc,(by',now))))=some (inO.put Prod.fst l (who,(inc,(now,[by']))),0):=by
 have hz:=may_sz hm
 have hs:=may_srt hm
 have hl:=may_len hm
 have h34:=F34_ok hm who
 rw [hno,Option.isSome_none] at h34
 have hput:=KOrd.put_ins hs (x:=((who,(inc,(now,[by']))):DB)) hno
 have hp:=KOrd.plc_le (O:=inO) (key:=Prod.fst) l who
 simp only at hput
 generalize inO.plc Prod.fst l who=p at *
 rw [← hput]
 have hA:(List.take p l).length=p:=by rw [List.length_take]; omega
 have hB:(List.drop p l).length=l.length - p:=List.length_drop
 have tB:List.take (l.length - p) (List.drop p l)=List.drop p l:=List.take_of_length_le (by omega)
 rw [F13x_eq]
 simp -implicitDefEqProofs only [F14_ok hz,hm,nz0,F32_ok who,hw,F32_ok by',hb,F33_ok now,hn,h34,copyD (show l.length≤1000 by omega),eq_self,xs]
 rw [copy_loop hm]
 rotate_left
 ·simp -implicitDefEqProofs only [not_lt_self,eq_self,xs]
 ·intro i hi hbl
  have q1:((i:Nat):Int) < ((l.length:Nat):Int):=by omega
  have q2:(0:Int)≤(i:Int):=by omega
  simp -implicitDefEqProofs only [q1,q2,at_da hi,copyI hbl,w1 (show i≤9223372036854775806 by omega),eq_self,xs]
  have e:l.set i ((da l i).1,(da l i).2.1,(da l i).2.2.1,(da l i).2.2.2)=l:=set_self hi
  rw [e]
 have q0:(0:Int)≤(p:Int):=by omega
 have q1:(p:Int)≤((l.length:Nat):Int):=by omega
 have q2:¬ p+1≤p:=by omega
 have q3:((p+1:Nat):Int) * 48≤70368744177664:=by omega
 have q4:((p+1:Nat):Int)≤70368744177664:=by omega
 simp -implicitDefEqProofs only [q0,q1,q2,hp,q3,q4,tB,hA,hB,eq_self,xs]
 have hA1:(List.take p l++[((who,(inc,(now,[by']))):DB)]).length=p+1:=by rw [List.length_append,hA]; rfl
 have f1:List.take (p+1) (List.take p l++[((who,(inc,(now,[by']))):DB)])=List.take p l++[((who,(inc,(now,[by']))):DB)]:=List.take_of_length_le (by omega)
 have f2:List.drop (p+1+(l.length - p)) (List.take p l++[((who,(inc,(now,[by']))):DB)])=[]:=List.drop_eq_nil_of_le (by omega)
 have f3:List.take (p+1+(l.length - p)) (List.take p l++[((who,(inc,(now,[by']))):DB)]++List.drop p l)=List.take p l++[((who,(inc,(now,[by']))):DB)]++List.drop p l:=List.take_of_length_le (by rw [List.length_append]; omega)
 have f4:List.take p l++((who,(inc,(now,[by']))):DB)::List.drop p l=List.take p l++[((who,(inc,(now,[by']))):DB)]++List.drop p l:=by simp
 rw [f1,f2,f4,List.append_nil,f3,hA1]
 have r1:p+(l.length - p)≤l.length:=by omega
 have r2:((p+1+(l.length - p):Nat):Int) * 48≤70368744177664:=by omega
 have r3:((p+1+(l.length - p):Nat):Int)≤70368744177664:=by omega
 rw [decide_eq_true r1,decide_eq_true r2,decide_eq_true r3,List.length_nil]
 simp only [Nat.add_zero,Nat.le_refl,decide_true]
 cases decide (p+1+(l.length - p)≤p+1)<;>rfl
theorem nodup_rule {l:List DB} {who:Int} {d:DB} (hm:mayD l=true) (hd:KOrd.look Prod.fst l who=some d):inO.plc Prod.fst l who < l.length∧l[inO.plc Prod.fst l who]?=some d∧d.1=who∧d ∈ l:=by
 have ha:=KOrd.look_at (may_srt hm) who
 rw [hd] at ha
 have h2:=KOrd.look_some hd
 cases hg:l[inO.plc Prod.fst l who]? with
 | none=>rw [hg] at ha; cases ha
 | some x =>
  rw [hg] at ha
  simp only at ha
  split at ha
  ·cases ha
  ·cases ha
   exact ⟨(List.getElem?_eq_some_iff.1 hg).1,rfl,h2.2,h2.1⟩
theorem F13x_there {l:List DB} {who inc by' now:Int} {d:DB} (hm:mayD l=true) (hw:nodeB who=true) (hb:nodeB by'=true) (hn:momB now=true) (hd:KOrd.look Prod.fst l who=some d) :
  F13x (l,(who,(inc,(by',now))))=if d.2.1 < inc then some (inO.put Prod.fst l (who,(inc,(now,[by']))),0) else if d.2.1=inc then (if by' ∈ d.2.2.2 then some (l,0) else none) else some (l,0):=by
 have hz:=may_sz hm
 have hs:=may_srt hm
 have hl:=may_len hm
 have h34:=F34_ok hm who
 rw [hd,Option.isSome_some] at h34
 obtain ⟨hlt,hat,hk,hmem⟩:=nodup_rule hm hd
 have hput:=KOrd.put_set hs (x:=((who,(inc,(now,[by']))):DB)) hat hk
 have hby:=may_by hm hmem
 have h35:=F35_ok (up_srt hby.1) (by omega) by'
 simp only at hput
 generalize inO.plc Prod.fst l who=p at *
 rw [← hput]
 rw [F13x_eq]
 simp -implicitDefEqProofs only [F14_ok hz,hm,nz0,F32_ok who,hw,F32_ok by',hb,F33_ok now,hn,h34,copyD (show l.length≤1000 by omega),eq_self,xs]
 rw [copy_loop hm]
 rotate_left
 ·simp -implicitDefEqProofs only [not_lt_self,eq_self,xs]
 ·intro i hi hbl
  have q1:((i:Nat):Int) < ((l.length:Nat):Int):=by omega
  have q2:(0:Int)≤(i:Int):=by omega
  simp -implicitDefEqProofs only [q1,q2,at_da hi,copyI hbl,w1 (show i≤9223372036854775806 by omega),eq_self,xs]
  have e:l.set i ((da l i).1,(da l i).2.1,(da l i).2.2.1,(da l i).2.2.2)=l:=set_self hi
  rw [e]
 have q0:(0:Int)≤(p:Int):=by omega
 have q1:(p:Int) < ((l.length:Nat):Int):=by omega
 have t1:∀ x:DB,(l.set p x).length=l.length:=fun x=>List.length_set
 have t2:∀ x:DB,List.take l.length (l.set p x)=l.set p x:=fun x=>List.take_of_length_le (by rw [List.length_set]; omega)
 have irr:¬ inc < inc:=by omega
 by_cases c1:d.2.1 < inc
 ·simp -implicitDefEqProofs only [q0,q1,hat,c1,t1,t2,eq_self,xs]
 ·by_cases c2:d.2.1=inc
  ·have e:(d.2.1==inc)=true:=by rw [beq_iff_eq]; exact c2
   by_cases c3:by' ∈ d.2.2.2
   ·rw [decide_eq_true c3] at h35
    simp -implicitDefEqProofs only [q0,q1,hat,c1,c2,c3,e,t1,t2,h35,irr,beq_self_eq_true,eq_self,xs]
   ·rw [decide_eq_false c3] at h35
    have h36:∀ x,F36 x=none:=fun x=>rfl
    simp -implicitDefEqProofs only [q0,q1,hat,c1,c2,c3,e,t1,t2,h35,h36,irr,beq_self_eq_true,Option.bind_none,eq_self,xs]
  ·have e:(d.2.1==inc)=false:=by rw [beq_eq_false_iff_ne]; exact c2
   simp -implicitDefEqProofs only [q0,q1,hat,c1,c2,e,t1,t2,eq_self,xs]
def more (d:DB) (b:Int):DB:=(d.1,d.2.1,d.2.2.1,inO.put id d.2.2.2 b)
noncomputable def raiseL (l:List DB) (who inc by' now:Int):List DB:=match KOrd.look Prod.fst l who with
 | none=>inO.put Prod.fst l (who,(inc,(now,[by'])))
 | some d=>if d.2.1 < inc then inO.put Prod.fst l (who,(inc,(now,[by']))) else if d.2.1=inc then (if by' ∈ d.2.2.2 then l else inO.put Prod.fst l (more d by')) else l
theorem F13_ok {l:List DB} {who inc by' now:Int} (hm:mayD l=true) (hw:nodeB who=true) (hb:nodeB by'=true) (hn:momB now=true):F13 (l,(who,(inc,(by',now))))=some (raiseL l who inc by' now,0):=by
 unfold raiseL
 cases hd:KOrd.look Prod.fst l who with
 | none=>exact F13_l (F13x_new hm hw hb hn hd)
 | some d =>
  have h:=F13x_there (inc:=inc) (now:=now) hm hw hb hn hd
  simp only
  by_cases c1:d.2.1 < inc
  ·rw [if_pos c1] at h ⊢; exact F13_l h
  rw [if_neg c1] at h ⊢
  by_cases c2:d.2.1=inc
  ·rw [if_pos c2] at h ⊢
   by_cases c3:by' ∈ d.2.2.2
   ·rw [if_pos c3] at h ⊢; exact F13_l h
   rw [if_neg c3] at h ⊢
   rw [F13_r h]
   obtain ⟨hlt,hat,hk,hmem⟩:=nodup_rule hm hd
   have hby:=may_by hm hmem
   have h34:=F34_ok hm who
   rw [hd,Option.isSome_some] at h34
   have h35:=F35_ok (up_srt hby.1) (by omega) by'
   rw [decide_eq_false c3] at h35
   have hs:=may_srt hm
   have hl:=may_len hm
   have ek:(more d by').1=who:=hk
   have hput:=KOrd.put_set hs (x:=more d by') (y:=d) (by rw [ek]; exact hat) rfl
   rw [ek] at hput
   have hins:=KOrd.put_ins (up_srt hby.1) (x:=by') (KOrd.look_none' (key:=id) fun x hx e=>c3 (by rw [← (show x=by' from e)]; exact hx))
   have hpl:=KOrd.plc_le (O:=inO) (key:=id) d.2.2.2 by'
   unfold F13i
   rw [F14_ok (may_sz hm),if_pos hm,F32_ok,F32_ok,F33_ok,h34,hw,hb,hn]
   simp only
   have hall:∀ x ∈ l,x.2.2.2≠[]∧x.2.2.2.length≤1000:=fun x hx=>by
    have q:=may_by hm hx
    exact ⟨fun e=>by rw [e] at q; exact absurd q.2.1 (by decide),by omega⟩
   rw [if_pos ⟨trivial,trivial,trivial,trivial,trivial,Int.natCast_nonneg _,by omega,hall⟩]
   rw [Int.toNat_natCast,hat]
   simp only [h35]
   rw [if_pos ⟨trivial,c2,Int.natCast_nonneg _,by rw [Int.toNat_natCast]; exact hpl⟩,Int.toNat_natCast]
   have e:d.2.2.2.take (inO.plc id d.2.2.2 by')++[by']++d.2.2.2.drop (inO.plc id d.2.2.2 by')=inO.put id d.2.2.2 by':=by
    rw [← hins]; simp
   rw [e]
   exact congrArg (fun z=>some (z,(0:Int))) hput
  ·rw [if_neg c2] at h ⊢; exact F13_l h
end Go.Proofs.Yticljphbbdnomaa.VL
end
section
namespace Go.Proofs.Yticljphbbdnomaa.VL
open Go
set_option linter.unusedVariables false
set_option linter.unusedSectionVars false
set_option linter.unusedSimpArgs false
set_option maxRecDepth 100000
variable [Val]
theorem up_iff {l:List Int}:upB l=true ↔ inO.Srt id l∧∀ x ∈ l,nodeB x=true:=by
 constructor
 ·intro h
  refine ⟨up_srt h,fun x hx=>?_⟩
  obtain ⟨i,hi,rfl⟩:=List.mem_iff_getElem.1 hx
  rw [upB_eq,Bool.and_eq_true,List.all_eq_true] at h
  have:=h.1 i (List.mem_range.2 hi)
  rw [la_eq hi]; exact this
 ·rintro ⟨hs,hn⟩
  unfold upB
  rw [List.all_eq_true]
  intro i hi
  rw [List.mem_range] at hi
  unfold upAt
  rw [← la_eq hi,hn _ (List.getElem_mem hi),Bool.true_and,Bool.or_eq_true,decide_eq_true_iff,decide_eq_true_iff]
  by_cases h0:i=0
  ·exact .inl h0
  ·right
   unfold KOrd.Srt at hs
   rw [List.pairwise_iff_getElem] at hs
   have:=hs (i - 1) i (by omega) hi (by omega)
   rw [← la_eq (show i - 1 < l.length by omega)]
   exact of_decide_eq_true this
def oneOk (d:DB):Prop:=nodeB d.1=true∧momB d.2.2.1=true∧risesB d.2.2.2=true
theorem may_iff {l:List DB}:mayD l=true ↔ inO.Srt Prod.fst l∧∀ d ∈ l,oneOk d:=by
 constructor
 ·intro h
  refine ⟨may_srt h,fun d hd=>?_⟩
  have q:=may_by h hd
  refine ⟨q.2.2.2.1,q.2.2.2.2,?_⟩
  unfold risesB
  rw [q.1,decide_eq_true q.2.1]; rfl
 ·rintro ⟨hs,hn⟩
  unfold mayD
  rw [List.all_eq_true]
  intro i hi
  rw [List.mem_range] at hi
  have q:=hn _ (List.getElem_mem hi)
  rw [da_eq hi] at q
  unfold okD
  rw [q.1,q.2.1,q.2.2,Bool.true_and,Bool.and_true,Bool.and_true,Bool.or_eq_true,decide_eq_true_iff,decide_eq_true_iff]
  by_cases h0:i=0
  ·exact .inl h0
  ·right
   unfold KOrd.Srt at hs
   rw [List.pairwise_iff_getElem] at hs
   have:=hs (i - 1) i (by omega) hi (by omega)
   rw [da_eq hi,da_eq (show i - 1 < l.length by omega)] at this
   exact of_decide_eq_true this
theorem rises_iff {l:List Int}:risesB l=true ↔ inO.Srt id l∧(∀ x ∈ l,nodeB x=true)∧l≠[]:=by
 unfold risesB
 rw [Bool.and_eq_true,up_iff,decide_eq_true_iff,and_assoc]
 constructor
 ·rintro ⟨a,b,c⟩; exact ⟨a,b,fun e=>by rw [e] at c; exact absurd c (by decide)⟩
 ·rintro ⟨a,b,c⟩; exact ⟨a,b,List.length_pos_iff.2 c⟩
theorem F16_ok {a b:List Int} (ha:a.length≤1000):F16 (a,b)=some (decide (a=b)):=by
 rw [F16_eq]
 by_cases hl:a.length=b.length
 ·have e:(((a.length:Nat):Int) != ((b.length:Nat):Int))=false:=by rw [hl]; exact bne_self_eq_false _
  simp -implicitDefEqProofs only [e,eq_self,xs]
  rw [loop_same a b hl rfl]
  ·simp -implicitDefEqProofs only [not_lt_self,eq_self,xs]
  ·intro i x y hi hx hy
   have q1:((i:Nat):Int) < ((a.length:Nat):Int):=by omega
   have q2:(0:Int)≤(i:Int):=by omega
   by_cases h:x=y
   ·have e:(x != y)=false:=by rw [h]; exact bne_self_eq_false _
    rw [if_pos h]
    simp -implicitDefEqProofs only [q1,q2,hx,hy,e,w1 (show i≤9223372036854775806 by omega),eq_self,xs]
   ·have e:(x != y)=true:=by rw [bne_iff_ne]; exact h
    rw [if_neg h]
    simp -implicitDefEqProofs only [q1,q2,hx,hy,e,eq_self,xs]
 ·have e:(((a.length:Nat):Int) != ((b.length:Nat):Int))=true:=by rw [bne_iff_ne]; omega
  have n:a≠b:=fun h=>hl (by rw [h])
  simp -implicitDefEqProofs only [e,eq_self,xs]
  rw [decide_eq_false n]
theorem F15_ok {a b:List DB} (ha:a.length≤1000) (hs:∀ d ∈ a,d.2.2.2.length≤1000):F15 (a,b)=some (decide (a=b)):=by
 rw [F15_eq]
 by_cases hl:a.length=b.length
 ·have e:(((a.length:Nat):Int) != ((b.length:Nat):Int))=false:=by rw [hl]; exact bne_self_eq_false _
  simp -implicitDefEqProofs only [e,eq_self,xs]
  rw [loop_same a b hl rfl]
  ·simp -implicitDefEqProofs only [not_lt_self,eq_self,xs]
  ·intro i x y hi hx hy
   have q1:((i:Nat):Int) < ((a.length:Nat):Int):=by omega
   have q2:(0:Int)≤(i:Int):=by omega
   have h16:=F16_ok (a:=x.2.2.2) (b:=y.2.2.2) (hs x (List.mem_of_getElem? hx))
   have ex:x=y ↔ x.1=y.1∧x.2.1=y.2.1∧x.2.2.1=y.2.2.1∧x.2.2.2=y.2.2.2:=by
    obtain ⟨x1,x2,x3,x4⟩:=x
    obtain ⟨y1,y2,y3,y4⟩:=y
    simp
   by_cases h1:x.1=y.1
   ·have e1:(x.1 != y.1)=false:=by rw [h1]; exact bne_self_eq_false _
    by_cases h2:x.2.1=y.2.1
    ·have e2:(x.2.1 != y.2.1)=false:=by rw [h2]; exact bne_self_eq_false _
     by_cases h3:x.2.2.1=y.2.2.1
     ·have e3:(x.2.2.1 != y.2.2.1)=false:=by rw [h3]; exact bne_self_eq_false _
      by_cases h4:x.2.2.2=y.2.2.2
      ·rw [decide_eq_true h4] at h16
       rw [if_pos (ex.2 ⟨h1,h2,h3,h4⟩)]
       simp -implicitDefEqProofs only [q1,q2,hx,hy,e1,e2,e3,h16,w1 (show i≤9223372036854775806 by omega),eq_self,xs]
      ·rw [decide_eq_false h4] at h16
       rw [if_neg (fun h=>h4 (ex.1 h).2.2.2)]
       simp -implicitDefEqProofs only [q1,q2,hx,hy,e1,e2,e3,h16,eq_self,xs]
     ·have e3:(x.2.2.1 != y.2.2.1)=true:=by rw [bne_iff_ne]; exact h3
      rw [if_neg (fun h=>h3 (ex.1 h).2.2.1)]
      simp -implicitDefEqProofs only [q1,q2,hx,hy,e1,e2,e3,eq_self,xs]
    ·have e2:(x.2.1 != y.2.1)=true:=by rw [bne_iff_ne]; exact h2
     rw [if_neg (fun h=>h2 (ex.1 h).2.1)]
     simp -implicitDefEqProofs only [q1,q2,hx,hy,e1,e2,eq_self,xs]
   ·have e1:(x.1 != y.1)=true:=by rw [bne_iff_ne]; exact h1
    rw [if_neg (fun h=>h1 (ex.1 h).1)]
    simp -implicitDefEqProofs only [q1,q2,hx,hy,e1,eq_self,xs]
 ·have e:(((a.length:Nat):Int) != ((b.length:Nat):Int))=true:=by rw [bne_iff_ne]; omega
  have n:a≠b:=fun h=>hl (by rw [h])
  simp -implicitDefEqProofs only [e,eq_self,xs]
  rw [decide_eq_false n]
end Go.Proofs.Yticljphbbdnomaa.VL
end
section
namespace Go.Proofs.Yticljphbbdnomaa.VL
open Go
set_option linter.unusedVariables false
set_option linter.unusedSectionVars false
set_option linter.unusedSimpArgs false
set_option maxRecDepth 100000
variable [Val]
open Classical in
noncomputable def addS (S:List Int) (x:Int):List Int:=if x ∈ S then S else inO.put id S x
noncomputable def gat (l:List Int):List Int:=l.foldl addS []
theorem gat_snoc (l:List Int) (x:Int):gat (l++[x])=addS (gat l) x:=by unfold gat; rw [List.foldl_append]; rfl
theorem addS_ok {S:List Int} (hs:inO.Srt id S) (x:Int):inO.Srt id (addS S x)∧∀ y,y ∈ addS S x ↔ y ∈ S∨y=x:=by
 unfold addS
 split
 ·rename_i h
  exact ⟨hs,fun y=>⟨.inl,fun h'=>by rcases h' with h' | rfl<;>assumption⟩⟩
 ·rename_i h
  refine ⟨KOrd.srt_put hs x,fun y=>?_⟩
  rw [KOrd.mem_put]
  constructor
  ·rintro (h1 | ⟨h1,_⟩)
   ·exact .inr h1
   ·exact .inl h1
  ·rintro (h1 | h1)
   ·exact .inr ⟨h1,fun e=>h (by rw [← (show y=x from e)]; exact h1)⟩
   ·exact .inl h1
theorem gat_ok (l:List Int):inO.Srt id (gat l)∧∀ y,y ∈ gat l ↔ y ∈ l:=by
 have key:∀ (n:Nat) (l:List Int),l.length=n→inO.Srt id (gat l)∧∀ y,y ∈ gat l ↔ y ∈ l:=by
  intro n
  induction n with
  | zero=>intro l h; rw [List.length_eq_zero_iff.1 h]; exact ⟨List.Pairwise.nil,fun y=>Iff.rfl⟩
  | succ n ih =>
   intro l h
   rcases List.eq_nil_or_concat l with rfl | ⟨l',x,rfl⟩
   ·simp at h
   rw [List.concat_eq_append] at h ⊢
   rw [List.length_append] at h
   obtain ⟨i1,i2⟩:=ih l' (by simpa using h)
   obtain ⟨a1,a2⟩:=addS_ok i1 x
   rw [gat_snoc]
   refine ⟨a1,fun y=>?_⟩
   rw [a2,i2,List.mem_append,List.mem_singleton]
 exact key l.length l rfl
theorem srt_nodup {l:List Int} (h:inO.Srt id l):l.Nodup:=List.Pairwise.imp (fun {a b} hab=>KOrd.ne (O:=inO) hab) h
def stA (inc:Int) (S:List Int):List DB:=match S with | []=>[] | x::r=>[(3,inc,(0,x::r))]
theorem stA_ne {inc:Int} {S:List Int} (h:S≠[]):stA inc S=[(3,inc,0,S)]:=by cases S with | nil=>exact absurd rfl h | cons x r=>rfl
theorem may_stA {inc:Int} {l:List Int} (h:∀ x ∈ l,nodeB x=true):mayD (stA inc (gat l))=true:=by
 obtain ⟨h1,h2⟩:=gat_ok l
 by_cases hn:gat l=[]
 ·rw [hn]; rfl
 ·rw [stA_ne hn]
  refine may_iff.2 ⟨List.pairwise_singleton _ _,fun d hd=>?_⟩
  rw [List.mem_singleton] at hd
  subst hd
  exact ⟨rfl,rfl,rises_iff.2 ⟨h1,fun x hx=>h x ((h2 x).1 hx),hn⟩⟩
theorem raise_stA {inc x now:Int} {l:List Int} (h0:l=[]→now=0):raiseL (stA inc (gat l)) 3 inc x now=stA inc (gat (l++[x])):=by
 classical
 obtain ⟨h1,h2⟩:=gat_ok l
 rw [gat_snoc]
 by_cases hn:gat l=[]
 ·have hl:l=[]:=by
   rcases l with _ | ⟨a,l⟩
   ·rfl
   ·have:=(h2 a).2 List.mem_cons_self
    rw [hn] at this; cases this
  rw [hn,h0 hl]
  have e:addS [] x=[x]:=by unfold addS; rw [if_neg (by simp)]; rfl
  rw [e]
  have e2:KOrd.look (Prod.fst:DB→Int) [] 3=none:=rfl
  show raiseL [] 3 inc x 0=[(3,inc,0,[x])]
  unfold raiseL
  rw [e2]
  rfl
 ·rw [stA_ne hn]
  have hs:inO.Srt Prod.fst [((3,inc,0,gat l):DB)]:=List.pairwise_singleton _ _
  have hk:=KOrd.look_mem hs (x:=((3,inc,0,gat l):DB)) (by simp)
  unfold raiseL
  rw [show KOrd.look (Prod.fst:DB→Int) [((3,inc,0,gat l):DB)] 3=some (3,inc,0,gat l) from hk]
  simp only
  rw [if_neg (by omega),if_pos trivial]
  unfold addS
  by_cases hx:x ∈ gat l
  ·rw [if_pos hx,if_pos hx,stA_ne hn]
  ·rw [if_neg hx,if_neg hx]
   have hp:inO.put id (gat l) x≠[]:=fun e=>by
    have:x ∈ inO.put id (gat l) x:=KOrd.mem_put.2 (.inl rfl)
    rw [e] at this; cases this
   rw [stA_ne hp]
   rfl
def metL (l:List Int):List (Int×Bool):=l.foldl (fun m x=>mput (kt:=.i .i64) (vt:=.b) x true m) []
theorem mput_keys (x:Int):∀ m:List (Int×Bool),(mput (kt:=.i .i64) (vt:=.b) x true m).map Prod.fst=if x ∈ m.map Prod.fst then m.map Prod.fst else m.map Prod.fst++[x]
 | []=>rfl
 | p::r=>by
  have e:mput (kt:=.i .i64) (vt:=.b) x true (p::r)=cond (x==p.1) ((x,true)::r) (p::mput (kt:=.i .i64) (vt:=.b) x true r):=rfl
  rw [e]
  by_cases h:x=p.1
  ·have:(x==p.1)=true:=by rw [beq_iff_eq]; exact h
   rw [this,cond_true,if_pos (by rw [h]; simp)]
   show x::r.map Prod.fst=p.1::r.map Prod.fst
   rw [h]
  ·have:(x==p.1)=false:=by rw [beq_eq_false_iff_ne]; exact h
   rw [this,cond_false]
   show p.1::(mput (kt:=.i .i64) (vt:=.b) x true r).map Prod.fst=_
   rw [mput_keys x r]
   by_cases h2:x ∈ r.map Prod.fst
   ·rw [if_pos h2,if_pos (by rw [List.map_cons]; exact List.mem_cons_of_mem _ h2)]; rfl
   ·rw [if_neg h2,if_neg (by rw [List.map_cons,List.mem_cons]; rintro (q | q); exact h q; exact h2 q)]; rfl
theorem met_ok (l:List Int):((metL l).map Prod.fst).Nodup∧∀ y,y ∈ (metL l).map Prod.fst ↔ y ∈ l:=by
 have key:∀ (n:Nat) (l:List Int),l.length=n→((metL l).map Prod.fst).Nodup∧∀ y,y ∈ (metL l).map Prod.fst ↔ y ∈ l:=by
  intro n
  induction n with
  | zero=>intro l h; rw [List.length_eq_zero_iff.1 h]; exact ⟨List.nodup_nil,fun y=>Iff.rfl⟩
  | succ n ih =>
   intro l h
   rcases List.eq_nil_or_concat l with rfl | ⟨l',x,rfl⟩
   ·simp at h
   rw [List.concat_eq_append] at h ⊢
   rw [List.length_append] at h
   obtain ⟨i1,i2⟩:=ih l' (by simpa using h)
   have e:metL (l'++[x])=mput (kt:=.i .i64) (vt:=.b) x true (metL l'):=by unfold metL; rw [List.foldl_append]; rfl
   rw [e,mput_keys]
   by_cases hx:x ∈ (metL l').map Prod.fst
   ·rw [if_pos hx]
    refine ⟨i1,fun y=>?_⟩
    rw [i2,List.mem_append,List.mem_singleton]
    exact ⟨.inl,fun h=>by rcases h with h | rfl; exact h; exact (i2 _).1 hx⟩
   ·rw [if_neg hx]
    refine ⟨List.nodup_append.2 ⟨i1,by simp,fun a ha b hb=>?_⟩,fun y=>?_⟩
    ·rw [List.mem_singleton] at hb; subst hb; intro e; subst e; exact hx ha
    ·rw [List.mem_append,i2,List.mem_append]
 exact key l.length l rfl
theorem met_len (l:List Int):(metL l).length=(gat l).length:=by
 obtain ⟨a1,a2⟩:=met_ok l
 obtain ⟨b1,b2⟩:=gat_ok l
 have hp:((metL l).map Prod.fst).Perm (gat l):=(List.perm_ext_iff_of_nodup a1 (srt_nodup b1)).2 fun y=>by rw [a2,b2]
 rw [← hp.length_eq,List.length_map]
end Go.Proofs.Yticljphbbdnomaa.VL
end
section
namespace Go.Proofs.Yticljphbbdnomaa.VL
open Go
set_option linter.unusedVariables false
set_option linter.unusedSectionVars false
set_option linter.unusedSimpArgs false
set_option maxRecDepth 100000
variable [Val]
theorem F5_ok {inc:Int} {by':List Int} (hl:by'.length≤maxLen) (hb:∀ x ∈ by',0≤x∧x≤255):F5 (inc,by')=some true:=by
 have f11:F11 ()=some true:=rfl
 rw [F5_eq]
 by_cases h0:by'.length=0
 ·have e:(((by'.length:Nat):Int)==0)=true:=by rw [h0]; rfl
  simp -implicitDefEqProofs only [e,f11,eq_self,xs]
 have e:(((by'.length:Nat):Int)==0)=false:=by rw [beq_eq_false_iff_ne]; omega
 obtain ⟨V,hV,hV1,hV2,hVb⟩:∃ V:List Int,cond (decide (((by'.length:Nat):Int) > 20)) (cond (decide ((20:Int)≤((by'.length:Nat):Int))) (some (List.take 20 by')) none) (some by')=some V∧1≤V.length∧V.length≤20∧∀ x ∈ V,0≤x∧x≤255:=by
  by_cases h:((by'.length:Nat):Int) > 20
  ·refine ⟨by'.take 20,by rw [decide_eq_true h,decide_eq_true (show (20:Int)≤((by'.length:Nat):Int) by omega)]; rfl,?_,?_,fun x hx=>hb x (List.mem_of_mem_take hx)⟩
   ·rw [List.length_take]; omega
   ·rw [List.length_take]; omega
  ·exact ⟨by',by rw [decide_eq_false h]; rfl,by omega,by omega,hb⟩
 rw [e,cond_false,hV,Option.bind_some]
 have hw:∀ x ∈ V,IntKind.wrap .i64 (Int.tmod x 16)=Int.tmod x 16∧nodeB (Int.tmod x 16)=true:=by
  intro x hx
  have q:=hVb x hx
  rw [Int.tmod_eq_emod_of_nonneg q.1]
  refine ⟨wi (by omega) (by omega),?_⟩
  unfold nodeB
  rw [decide_eq_true (show 0≤x % 16 by omega),decide_eq_true (show x % 16≤63 by omega)]; rfl
 generalize hX:V.map (fun x=>Int.tmod x 16)=X
 generalize hY:V.reverse.map (fun x=>Int.tmod x 16)=Y
 have hXl:X.length=V.length:=by rw [← hX,List.length_map]
 have hYl:Y.length=V.length:=by rw [← hY,List.length_map,List.length_reverse]
 have hXn:∀ x ∈ X,nodeB x=true:=by
  intro x hx
  rw [← hX] at hx
  obtain ⟨y,hy,rfl⟩:=List.mem_map.1 hx
  exact (hw y hy).2
 have hXY:∀ x,x ∈ X ↔ x ∈ Y:=by
  intro x
  rw [← hX,← hY]
  simp only [List.mem_map,List.mem_reverse]
 have hYn:∀ x ∈ Y,nodeB x=true:=fun x hx=>hXn x ((hXY x).2 hx)
 have hgXY:gat X=gat Y:=KOrd.srt_ext (gat_ok X).1 (gat_ok Y).1 fun x=>by rw [(gat_ok X).2,(gat_ok Y).2]; exact hXY x
 have n3:nodeB 3=true:=rfl
 rw [loop_detE (s0:=((([]:List DB),([]:List DB),(0:Int)),([]:List (Int×Bool)))) V.length (fun i=>((stA inc (gat (X.take i)),stA inc (gat (Y.take i)),((i:Nat):Int)),metL (X.take i))) (Sum.inl ((stA inc (gat X),stA inc (gat Y)),metL X)) rfl]
 rotate_left
 ·have tX:X.take V.length=X:=List.take_of_length_le (by omega)
  have tY:Y.take V.length=Y:=List.take_of_length_le (by omega)
  simp -implicitDefEqProofs only [not_lt_self,tX,tY,eq_self,xs]
 ·intro i hi
  have q1:((i:Nat):Int) < ((V.length:Nat):Int):=by omega
  have q2:(0:Int)≤(i:Int):=by omega
  have g:=List.getElem?_eq_getElem hi
  have hj:V.length - 1 - i < V.length:=by omega
  have g2:=List.getElem?_eq_getElem hj
  have m1:=List.getElem_mem hi
  have m2:=List.getElem_mem hj
  have gx:X[i]?=some (Int.tmod V[i] 16):=by rw [← hX,List.getElem?_map,g]; rfl
  have gy:Y[i]?=some (Int.tmod V[V.length - 1 - i] 16):=by rw [← hY,List.getElem?_map,List.getElem?_reverse hi,g2]; rfl
  have sX:X.take (i+1)=X.take i++[Int.tmod V[i] 16]:=by rw [List.take_add_one,gx]; rfl
  have sY:Y.take (i+1)=Y.take i++[Int.tmod V[V.length - 1 - i] 16]:=by rw [List.take_add_one,gy]; rfl
  have w2:IntKind.wrap .i64 (IntKind.wrap .i64 (((V.length:Nat):Int) - 1) - ((i:Nat):Int))=((V.length - 1 - i:Nat):Int):=by
   rw [wi (x:=((V.length:Nat):Int) - 1) (by omega) (by omega),wi (by omega) (by omega)]; omega
  have q3:(0:Int)≤((V.length - 1 - i:Nat):Int):=by omega
  have hn:momB ((i:Nat):Int)=true:=by
   unfold momB
   rw [decide_eq_true q2,decide_eq_true (show ((i:Nat):Int)≤1099511627776 by omega)]; rfl
  have a1:=F13_ok (l:=stA inc (gat (X.take i))) (who:=3) (inc:=inc) (by':=Int.tmod V[i] 16) (now:=((i:Nat):Int)) (may_stA fun x hx=>hXn x (List.mem_of_mem_take hx)) n3 (hw _ m1).2 hn
  have a2:=F13_ok (l:=stA inc (gat (Y.take i))) (who:=3) (inc:=inc) (by':=Int.tmod V[V.length - 1 - i] 16) (now:=((i:Nat):Int)) (may_stA fun x hx=>hYn x (List.mem_of_mem_take hx)) n3 (hw _ m2).2 hn
  rw [raise_stA (fun h=>by
   have:(X.take i).length=0:=by rw [h]; rfl
   rw [List.length_take] at this; omega),← sX] at a1
  rw [raise_stA (fun h=>by
   have:(Y.take i).length=0:=by rw [h]; rfl
   rw [List.length_take] at this; omega),← sY] at a2
  have a3:metL (X.take (i+1))=mput (kt:=.i .i64) (vt:=.b) (Int.tmod V[i] 16) true (metL (X.take i)):=by rw [sX]; unfold metL; rw [List.foldl_append]; rfl
  have e1:=(hw _ m1).1
  have e2:=(hw _ m2).1
  rw [a3]
  simp -implicitDefEqProofs only [q1,q2,g,e1,a1,w2,q3,g2,e2,a2,nz0,w1 (show i≤9223372036854775806 by omega),eq_self,xs]
 ·have g0:V[0]?=some V[0]:=List.getElem?_eq_getElem (by omega)
  have m0:=List.getElem_mem (show 0 < V.length by omega)
  have gX0:V[0].tmod 16 ∈ X:=by rw [← hX]; exact List.mem_map_of_mem m0
  have hne:gat X≠[]:=fun h=>by
   have:=((gat_ok X).2 _).2 gX0
   rw [h] at this; cases this
  have a1:=F13_ok (l:=stA inc (gat X)) (who:=3) (inc:=inc) (by':=Int.tmod V[0] 16) (now:=99) (may_stA hXn) n3 (hw _ m0).2 rfl
  rw [raise_stA (fun h=>by rw [h] at hXl; simp at hXl; omega),gat_snoc] at a1
  have e3:addS (gat X) (Int.tmod V[0] 16)=gat X:=by unfold addS; rw [if_pos (((gat_ok X).2 _).2 gX0)]
  rw [e3] at a1
  have hlen:=met_len X
  have hup:(gat X).length≤64:=up_len (up_iff.2 ⟨(gat_ok X).1,fun x hx=>hXn x (((gat_ok X).2 x).1 hx)⟩)
  rw [← hgXY]
  rw [stA_ne hne] at a1 ⊢
  have e1:=(hw _ m0).1
  have f15:=F15_ok (a:=[((3,inc,0,gat X):DB)]) (b:=[((3,inc,0,gat X):DB)]) (show 1≤1000 by decide) (fun d hd=>by rw [List.mem_singleton] at hd; subst hd; show (gat X).length≤1000; omega)
  rw [decide_eq_true rfl] at f15
  have f16:=F16_ok (a:=gat X) (b:=gat X) (by omega)
  rw [decide_eq_true rfl] at f16
  have c1:(((1:Nat):Int) != 1)=false:=rfl
  have c2:((0:Int)==0)=true:=rfl
  have c3:((((gat X).length:Nat):Int)==(((metL X).length:Nat):Int))=true:=by rw [hlen]; exact beq_self_eq_true _
  simp -implicitDefEqProofs only [g0,e1,a1,nz0,c1,c2,c3,f15,f16,f11,beq_self_eq_true,List.getElem?_cons_zero,eq_self,xs]
end Go.Proofs.Yticljphbbdnomaa.VL
end
