import Derived.Test.YticljphbbdnomaaW1Xq
import Derived.Test.YticljphbbdnomaaW1Wc
import Derived.Test.YticljphbbdnomaaW1Wi
import Derived.Test.YticljphbbdnomaaW1Vx
import Derived.Test.YticljphbbdnomaaW1Ta
import Derived.Test.YticljphbbdnomaaW1Ya
import Derived.Test.YticljphbbdnomaaW1Yw
import Derived.Test.YticljphbbdnomaaW1Za
section
namespace Go.Proofs.Yticljphbbdnomaa.VL
open Go
set_option linter.unusedVariables false
set_option linter.unusedSimpArgs false
set_option linter.unusedSectionVars false
variable [Val]
variable {P:Program}
theorem gcall_borrow {f:Nat} {args:List PV} {r:PV} {h:List Slot} {n b s:Nat} {es:List PV} (hb:h[b]?=some (some (s,.cells es))) (hp:VPure P f (args.map (frz s es)) r) (hr:plainP r=true):GCall P f args h n r h n:=by
 refine ⟨hp.2.2.1,fun C t a E vals I hv hrep=>?_⟩
 obtain ⟨en,A,hB,hnS⟩:=I.good.blk b s _ hb
 let S1:Nat→Prop:=fun x=>E.S x∨(en.tot≠0∧x=en.rb)
 let E2:Env:=⟨E.w,E.σ,S1⟩
 let E1:Env:=⟨E.w,fun x=>([]:List Ent)[x]?,S1⟩
 have hE:E.le E2:=⟨fun _ h=>.inl h,fun _ _=>rfl,fun _ _ h=>h⟩
 have noAt:∀ {b s:Nat} {k:Blk} {en:Ent},¬ At E1 (slots (([]:List Blk).map some) none) b s k en:=by
  intro b s k en A
  have:=A.σ
  simp [E1] at this
 have hst:∀ x,S1 x→x < E.w.heap.size:=by
  intro x hx
  rcases hx with hx | ⟨h0,rfl⟩
  ·exact I.good.stay x hx
  ·exact A.lt I.good h0
 refine (hp.2.2.2 E.w S1 [] vals rfl ?_ (by rw [hv,List.length_map]) ?_).mono ?_
 ·refine { good:=⟨fun s _=>by simp,fun b s k hb=>?_,fun b b' s s' k k' en en' A=>absurd A noAt,hst⟩,since:=⟨rfl,rfl,rfl,Nat.le_refl _,fun _ _ _=>rfl,fun _ _ h=>h,fun _ h=>h,fun _ h=>.inl h,Nat.le_refl _⟩,touch:=fun b s k en A=>absurd A noAt,defers:=rfl,tsize:=rfl,tmps:=fun i p u hp=>by simp at hp }
  simp only [slots,List.map_nil,List.zipIdx_nil,List.nil_append,Option.map_none,List.length_nil] at hb
  cases b<;>simp at hb
 ·intro i p u hp' hu
  rw [List.getElem?_map,Option.map_eq_some_iff] at hp'
  obtain ⟨q,hq,rfl⟩:=hp'
  have h2:Rep E2 (frz s es q) u:=rep_frz hE A.σ hB (fun h0=>.inr ⟨h0,rfl⟩) (fun _=>rfl) (hrep i q u hq hu)
  exact h2.any_names ((closedL_all _).1 hp.1 _ (List.mem_map.2 ⟨q,List.mem_of_getElem? hq,rfl⟩))
 ·rintro e W' ⟨v,r',L',N',σ',S',rfl,rfl,hLl,J,hR⟩
  have kept:∀ x,x < E.w.heap.size→W'.heap[x]?=E.w.heap[x]?:=fun x hx=>J.since.kept x hx fun ⟨i,en,hi,_⟩=>by simp at hi
  let E':Env:=⟨W',E.σ,E.S⟩
  have hle:E.le E':=⟨fun _ h=>h,fun x hx=>kept x (I.good.stay x hx),fun _ _ h=>h⟩
  refine ⟨v,E',rfl,rfl,?_,rep_plain hR hr⟩
  refine I.step hle J.since.os J.since.tape J.since.output J.since.size (fun x hx=>.inl hx) (fun x hx _=>kept x hx) ⟨I.good.free,?_,?_,?_⟩ ?_ J.since.drawn
  ·intro b s k hb
   obtain ⟨en,A,B,S⟩:=I.good.blk b s k hb
   exact ⟨en,⟨hb,A.σ⟩,B.mono hle (fun h0=>kept _ (A.lt I.good h0)),S⟩
  ·intro b1 b2 s1 s2 k1 k2 en1 en2 A1 A2 q1 q2 he
   exact I.good.inj _ _ _ _ _ _ _ _ ⟨A1.slot,A1.σ⟩ ⟨A2.slot,A2.σ⟩ q1 q2 he
  ·intro x hx
   exact Nat.lt_of_lt_of_le (I.good.stay x hx) J.since.size
  ·intro b s k en A h0
   exact .inl ⟨b,s,k,en,⟨A.slot,A.σ⟩,h0,rfl⟩
end Go.Proofs.Yticljphbbdnomaa.VL
end
section
namespace Go.Proofs.Yticljphbbdnomaa.VL
open Go
set_option linter.unusedVariables false
set_option linter.unusedSimpArgs false
set_option linter.unusedSectionVars false
set_option maxRecDepth 100000
variable [Val]
def ic30v:ICode:=(.seq (.reg false [⟨(some 2),(.mov (.c (.sl true []))),none⟩]) (.seq (.reg false [⟨(some 6),(.mov (.t 0)),none⟩,⟨(some 7),(.call 0 46 [(.t 6)]),none⟩,⟨(some 3),(.mov (.t 7)),none⟩]) (.seq (.seq (.reg false [⟨(some 8),(.mov (.t 3)),none⟩,⟨(some 9),(.len (.t 8)),none⟩,⟨(some 10),(.mov (.c (.v (.int .i64 0)))),none⟩]) (.blk 0 (.loop (.seq (.reg false [⟨(some 11),(.bin .lss (.t 10) (.t 9)),none⟩]) (.seq (.cond (.t 11) .skip (.exit 0)) (.seq (.blk 1 (.seq (.reg false [⟨(some 12),(.mov (.t 10)),none⟩,⟨(some 13),(.iad 4 (.t 8) (.t 10)),none⟩,⟨(some 14),(.load true 4 (.t 13)),none⟩,⟨(some 5),(.alloc 1 (.agg [(.v (.int .i64 0)),(.v (.int .u64 0)),(.v (.int .i64 0)),(.sl true [])])),none⟩,⟨(some 4),(.mov (.t 12)),none⟩,⟨none,(.store 4 (.t 5) (.t 14)),none⟩]) (.reg false [⟨(some 15),(.mov (.t 3)),none⟩,⟨(some 16),(.mov (.t 4)),none⟩,⟨(some 17),(.fad 3 (.t 5)),none⟩,⟨(some 18),(.load false 1 (.t 17)),none⟩,⟨(some 19),(.call 2 47 [(.t 18)]),none⟩,⟨(some 20),(.iad 4 (.t 15) (.t 16)),none⟩,⟨(some 21),(.fad 3 (.t 20)),none⟩,⟨none,(.store 1 (.t 21) (.t 19)),none⟩]))) (.reg false [⟨(some 22),(.bin .add (.t 10) (.c (.v (.int .i64 1)))),none⟩,⟨(some 10),(.mov (.t 22)),none⟩]))))))) (.seq (.reg false [⟨(some 23),(.mov (.t 3)),none⟩,⟨(some 2),(.mov (.t 23)),none⟩]) .ret))))
theorem at30v:(fun o=>cCode Try.prog (slotF [7,5,19] o) (Try.f30.body.getD .skip))=fun o=>some (ic30v.at o):=by kernel_rfl
def ic13v:ICode:=(.seq (.reg false [⟨(some 10),(.mov (.c (.sl true []))),none⟩,⟨(some 11),(.mov (.c (.v (.int .i64 0)))),none⟩]) (.seq (.seq (.reg false [⟨(some 18),(.mov (.t 0)),none⟩,⟨(some 19),(.call 0 14 [(.t 18)]),none⟩,⟨(some 20),(.bin .neq (.t 19) (.c (.v (.int .i64 0)))),none⟩,⟨(some 21),(.mov (.t 20)),none⟩,⟨(some 22),(.mov (.t 1)),(some (21,false))⟩,⟨(some 23),(.call 1 32 [(.t 22)]),(some (21,false))⟩,⟨(some 24),(.un .not (.t 23)),(some (21,false))⟩,⟨(some 25),(.pick (.t 21) (.c (.v (.bool true))) (.t 24)),none⟩,⟨(some 26),(.mov (.t 25)),none⟩,⟨(some 27),(.mov (.t 3)),(some (26,false))⟩,⟨(some 28),(.call 2 32 [(.t 27)]),(some (26,false))⟩,⟨(some 29),(.un .not (.t 28)),(some (26,false))⟩,⟨(some 30),(.pick (.t 26) (.c (.v (.bool true))) (.t 29)),none⟩,⟨(some 31),(.mov (.t 30)),none⟩,⟨(some 32),(.mov (.t 4)),(some (31,false))⟩,⟨(some 33),(.call 3 33 [(.t 32)]),(some (31,false))⟩,⟨(some 34),(.un .not (.t 33)),(some (31,false))⟩,⟨(some 35),(.pick (.t 31) (.c (.v (.bool true))) (.t 34)),none⟩]) (.cond (.t 35) (.seq (.reg false [⟨(some 36),(.mov (.t 0)),none⟩,⟨(some 10),(.mov (.t 36)),none⟩,⟨(some 11),(.mov (.c (.v (.int .i64 1)))),none⟩]) .ret) .skip)) (.seq (.reg false [⟨(some 38),(.mov (.t 0)),none⟩,⟨(some 39),(.mov (.t 1)),none⟩,⟨(some 40),(.call 4 34 [(.t 38),(.t 39)]),none⟩,⟨(some 37),(.mov (.t 40)),none⟩,⟨(some 41),(.ext (.t 37) 0),none⟩,⟨(some 42),(.ext (.t 37) 1),none⟩,⟨(some 12),(.mov (.t 41)),none⟩,⟨(some 13),(.mov (.t 42)),none⟩]) (.seq (.reg false [⟨(some 43),(.mov (.t 1)),none⟩,⟨(some 44),(.mov (.t 2)),none⟩,⟨(some 45),(.mov (.t 4)),none⟩,⟨(some 46),(.mov (.t 3)),none⟩,⟨(some 47),(.bsl 1 (.v (.int .i64 0)) 1 [(0,(.t 46))]),none⟩,⟨(some 48),(.bld [(.v (.int .i64 0)),(.v (.int .u64 0)),(.v (.int .i64 0)),(.sl true [])] [(0,1,(.t 43)),(1,1,(.t 44)),(2,1,(.t 45)),(3,1,(.t 47))]),none⟩,⟨(some 14),(.alloc 5 (.agg [(.v (.int .i64 0)),(.v (.int .u64 0)),(.v (.int .i64 0)),(.sl true [])])),none⟩,⟨none,(.store 4 (.t 14) (.t 48)),none⟩]) (.seq (.reg false [⟨(some 49),(.mov (.t 0)),none⟩,⟨(some 50),(.call 6 30 [(.t 49)]),none⟩,⟨(some 15),(.mov (.t 50)),none⟩]) (.seq (.blk 0 (.seq (.reg false [⟨(some 52),(.mov (.t 13)),none⟩,⟨(some 53),(.un .not (.t 52)),none⟩,⟨(some 51),(.mov (.t 53)),none⟩]) (.cond (.t 51) (.reg true [⟨(some 54),(.mov (.t 15)),none⟩,⟨(some 55),(.mov (.t 12)),none⟩,⟨(some 56),(.mov (.t 12)),none⟩,⟨(some 57),(.slc 4 (.t 54) none (some (.t 55)) (some (.t 56))),none⟩,⟨(some 58),(.load true 4 (.t 14)),none⟩,⟨(some 59),(.bsl 4 (.agg [(.v (.int .i64 0)),(.v (.int .u64 0)),(.v (.int .i64 0)),(.sl true [])]) 1 [(0,(.t 58))]),none⟩,⟨(some 60),(.app 7 4 48 (.agg [(.v (.int .i64 0)),(.v (.int .u64 0)),(.v (.int .i64 0)),(.sl true [])]) (.t 57) (.t 59)),none⟩,⟨(some 61),(.mov (.t 15)),none⟩,⟨(some 62),(.mov (.t 12)),none⟩,⟨(some 63),(.slc 4 (.t 61) (some (.t 62)) none none),none⟩,⟨(some 64),(.app 8 4 48 (.agg [(.v (.int .i64 0)),(.v (.int .u64 0)),(.v (.int .i64 0)),(.sl true [])]) (.t 60) (.t 63)),none⟩,⟨(some 15),(.mov (.t 64)),none⟩]) (.seq (.reg false [⟨(some 66),(.mov (.t 15)),none⟩,⟨(some 67),(.mov (.t 12)),none⟩,⟨(some 68),(.iad 4 (.t 66) (.t 67)),none⟩,⟨(some 69),(.fad 1 (.t 68)),none⟩,⟨(some 70),(.load false 1 (.t 69)),none⟩,⟨(some 71),(.mov (.t 2)),none⟩,⟨(some 72),(.bin .lss (.t 70) (.t 71)),none⟩,⟨(some 65),(.mov (.t 72)),none⟩]) (.cond (.t 65) (.reg false [⟨(some 73),(.mov (.t 15)),none⟩,⟨(some 74),(.mov (.t 12)),none⟩,⟨(some 75),(.load true 4 (.t 14)),none⟩,⟨(some 76),(.iad 4 (.t 73) (.t 74)),none⟩,⟨none,(.store 4 (.t 76) (.t 75)),none⟩]) (.seq (.reg false [⟨(some 78),(.mov (.t 15)),none⟩,⟨(some 79),(.mov (.t 12)),none⟩,⟨(some 80),(.iad 4 (.t 78) (.t 79)),none⟩,⟨(some 81),(.fad 1 (.t 80)),none⟩,⟨(some 82),(.load false 1 (.t 81)),none⟩,⟨(some 83),(.mov (.t 2)),none⟩,⟨(some 84),(.bin .eql (.t 82) (.t 83)),none⟩,⟨(some 77),(.mov (.t 84)),none⟩]) (.cond (.t 77) (.seq (.reg false [⟨(some 86),(.mov (.t 15)),none⟩,⟨(some 87),(.mov (.t 12)),none⟩,⟨(some 88),(.iad 4 (.t 86) (.t 87)),none⟩,⟨(some 89),(.fad 3 (.t 88)),none⟩,⟨(some 90),(.load false 1 (.t 89)),none⟩,⟨(some 91),(.mov (.t 3)),none⟩,⟨(some 92),(.call 9 35 [(.t 90),(.t 91)]),none⟩,⟨(some 85),(.mov (.t 92)),none⟩,⟨(some 93),(.ext (.t 85) 0),none⟩,⟨(some 94),(.ext (.t 85) 1),none⟩,⟨(some 16),(.mov (.t 93)),none⟩,⟨(some 17),(.mov (.t 94)),none⟩]) (.seq (.reg false [⟨(some 95),(.mov (.t 17)),none⟩,⟨(some 96),(.un .not (.t 95)),none⟩]) (.cond (.t 96) (.reg false [⟨(some 97),(.mov (.t 15)),none⟩,⟨(some 98),(.mov (.t 12)),none⟩,⟨(some 99),(.mov (.t 15)),none⟩,⟨(some 100),(.mov (.t 12)),none⟩,⟨(some 101),(.iad 4 (.t 99) (.t 100)),none⟩,⟨(some 102),(.fad 3 (.t 101)),none⟩,⟨(some 103),(.load false 1 (.t 102)),none⟩,⟨(some 104),(.mov (.t 16)),none⟩,⟨(some 105),(.mov (.t 3)),none⟩,⟨(some 106),(.bsl 1 (.v (.int .i64 0)) 1 [(0,(.t 105))]),none⟩,⟨(some 107),(.call 10 36 [(.t 103),(.t 104),(.t 106)]),none⟩,⟨(some 108),(.iad 4 (.t 97) (.t 98)),none⟩,⟨(some 109),(.fad 3 (.t 108)),none⟩,⟨none,(.store 1 (.t 109) (.t 107)),none⟩]) .skip))) .skip))))))) (.seq (.reg false [⟨(some 110),(.mov (.t 15)),none⟩,⟨(some 10),(.mov (.t 110)),none⟩,⟨(some 11),(.mov (.c (.v (.int .i64 0)))),none⟩]) .ret)))))))
theorem at13v:(fun o=>cCode Try.prog (slotF [19,23,28,33,40,14,50,60,64,92,107] o) (Try.f13.body.getD .skip))=fun o=>some (ic13v.at o):=by kernel_rfl
theorem resR_t' (st:St) (ts:List Nat):resR st (ts.map RV.t)=some (resV st ts):=by
 have:∀ ts:List Nat,valsR st (ts.map RV.t)=some (ts.map fun t=>st.ev (.t t)):=by
  intro ts
  induction ts with
  | nil=>rfl
  | cons t r ih=>simp only [List.map_cons,valsR,valR,ih]
 unfold resR
 rw [this]
 match ts with
 | []=>rfl
 | [t]=>rfl
 | t::t'::r=>rfl
def EndG2 (ts:List Nat) (r:PV) (kk:Nat) (h':List Slot) (n':Nat) (e:IExit) (st:St):Prop:=(e=.normal∨e=.ret)∧∃ st',Weak st st'∧resV st' ts=r∧st'.h.take kk=h'∧st'.n=n'
theorem gcall_go2 {f:Nat} {fn:Func} {c:Code} {ic:ICode} {ts:List Nat} {args:List PV} {r:PV} {h h':List Slot} {n n' kk:Nat} {slot:Option Nat→Nat} (nt m fuel:Nat)
  (hf:Try.prog.funcs[f]?=some fn) (hb:fn.body=some c) (hcl:callable Try.prog f=true) (hr:fn.results=(ts.map ResultVar.tmp).toArray) (hnt:fn.ntmps=nt) (hic:cCode Try.prog slot c=some ic)
  (hK:go Try.prog (EndG2 ts r kk h' n') fuel [.code ic] ⟨args++List.replicate (nt - args.length) (.v undef),h++List.replicate m none,n⟩):GCall Try.prog f args h n r h' n':=by
 subst hnt
 refine gcall_of (ts:=ts.map RV.t) hm hf hb hcl (by rw [hr,List.map_map]; rfl) (by simp [RV.okB]) hic m ?_
 refine icWp_mono ?_ (go_sound fuel _ _ hK)
 rintro e st ⟨he,st',hw,h1,h2,h3⟩
 exact ⟨he,st',kk,hw,by rw [resR_t',h1],h2,h3⟩
theorem called_g {s f:Nat} {args:List PV} {dst:Option Nat} {G:Cont} {k:List Itm} {st:St} {r:PV} {h':List Slot} {n':Nat} (h:GCall Try.prog f args st.h st.n r h' n') (hG:G k (St.put ⟨st.t,h',n'⟩ dst r)):called Try.prog false s f args dst G k st:=.inr (.inr ⟨rfl,r,h',n',h,hG⟩)
theorem wrapJ {x:Int} (h0:-9223372036854775808≤x) (h1:x≤9223372036854775807):IntKind.i64.wrap x=x:=wrap_in h0 h1
abbrev DV:=Int×(Int×(Int×List Int))
def byP (d:DV):List PV:=d.2.2.2.map vi
def rowP (d:DV):PV:=.agg [vi d.1,vu d.2.1,vi d.2.2.1,.sl false (byP d)]
def rowO (s n:Nat) (d:DV):PV:=.agg [vi d.1,vu d.2.1,vi d.2.2.1,.own 18 s 1 0 n none]
theorem clone47 {es:List PV} (hne:es≠[]) (hc:∀ e ∈ es,e.cells.length=1) (hcl:closedL es=true) (hl:es.length≤1000):VPure Try.prog 47 [.sl false es] (.sl false es):=by
 have h:=clone_g hm (f:=47) (sz:=1) (b:=8) (z:=vi 0) fi47 (h:=[none]) (n:=0) (x:=.sl false es) (es:=es) rfl hc (by decide) rfl rfl (by omega) (by omega)
 unfold cloneR at h
 rw [if_neg hne] at h
 refine vpure_of_g h (by show (closedL es&&true)=true; rw [hcl]; rfl) ?_
 unfold shut VL.frzAll
 simp [St.freeze,List.range_succ,List.range_zero,frz,frzB,List.take_length]
 simpa only [closed] using hcl
theorem set_same {α:Type} {l:List α} {k:Nat} {e:α} (h:l[k]?=some e):l.set k e=l:=by
 apply List.ext_getElem?
 intro j
 rw [List.getElem?_set]
 split
 ·rename_i e'; subst e'
  rw [if_pos (List.getElem?_eq_some_iff.1 h).1,h]
 ·rfl
theorem byP_cells {l:List Int}:∀ e ∈ l.map vi,e.cells.length=1:=by
 intro e he; obtain ⟨x,_,rfl⟩:=List.mem_map.1 he; rfl
theorem byP_closed (l:List Int):closedL (l.map vi)=true:=by
 rw [closedL_all]; intro e he; obtain ⟨x,_,rfl⟩:=List.mem_map.1 he; rfl
def hO1 (rows:List PV):List Slot:=[none,none,none,none,none,none,none,none,none,none,none,none,none,none,none,none]++[some (1,.cells rows),none]
def hO2 (rows:List PV) (s:Nat) (es:List PV):List Slot:=[none,none,none,none,none,none,none,none,none,none,none,none,none,none,none,none]++[some (1,.cells rows),none,some (s,.cells es),none]
def ownI (l:List DV) (i:Nat) (di:DV) (m:Nat) (st:St):Prop:=∃ k:Nat,k≤l.length∧m=l.length - k ∧
 st=⟨[.dead,.dead,.dead,.own 16 1 4 0 l.length none,.dead,.dead,.dead,.dead,.own 16 1 4 0 l.length none,vi l.length,vi k,.dead,.dead,.dead,.dead,.dead,.dead,.dead,.dead,.dead,.dead,.dead,.dead,.dead],if k≤i then hO1 (l.map rowP) else hO2 ((l.map rowP).set i (rowO (3+i) di.2.2.2.length di)) (3+i) (byP di),if k≤i then 2+k else 3+k⟩
theorem own_ok {x5:Slot} {l:List DV} {i:Nat} {di:DV} (hi:l[i]?=some di) (hl:l.length≤1000) (hb:∀ d ∈ l,d.2.2.2≠[]∧d.2.2.2.length≤1000) :
  GCall Try.prog 30 [.sl false (l.map rowP)] [none,none,none,none,none,x5,none,none,none,none,none,none] 1 (.own 16 1 4 0 l.length none) (hO2 ((l.map rowP).set i (rowO (3+i) di.2.2.2.length di)) (3+i) (byP di)) (3+l.length):=by
 have hil:i < l.length:=(List.getElem?_eq_some_iff.1 hi).1
 refine gcall_go2 24 4 1000 Try.func30 rfl (by kernel_rfl) (ts:=[2]) rfl rfl (kk:=20) (slot:=slotF [7,5,19] 12) (ic:=ic30v.at 12) (congrFun at30v 12) ?_
 simp only [ic30v,ICode.at,atOps,IOper.at,IOp.at,List.cons_append,List.nil_append,List.length_cons,List.length_nil,Nat.reduceAdd,Nat.reduceSub,List.replicate,List.append_nil]
 simp only [go,go1,opOk,opRes,owed_true,branch_true,branch_false,popTo,St.ev,St.put,binV,arith,shifts,unV,bndV,bndOk,isInt,isStr,intOf',strOf,rowAt,blkEs,slotIs,ldv,stv,fillV,partsV,mmV,mmGo,elems,PV.cells,PV.isAgg,PV.stor,Value.oneCell',Option.isSome_some,Option.getD_some,Option.map_some,Option.map_none,if_true,if_false,ite_true,ite_false,and_self,and_true,true_and,reduceCtorEq,true_or,or_true,List.set_cons_zero,List.set_cons_succ,List.getD_cons_zero,List.getD_cons_succ,List.getElem?_cons_zero,List.getElem?_cons_succ,List.map_cons,List.map_nil,List.length_map,List.length_cons,List.length_nil,List.length_set,List.cons_append,List.nil_append,List.drop_zero,List.drop_succ_cons,List.drop_nil,List.take_zero,List.take_succ_cons,List.take_nil,List.range_succ,List.range_zero,Nat.reduceAdd,Nat.reduceSub,Nat.reduceMul,Nat.reduceLT,Nat.reduceLeDiff,Nat.reduceEqDiff,Nat.zero_add,Nat.add_zero,Nat.lt_add_one,Int.reduceToNat,Int.toNat_natCast,Int.natCast_nonneg,Bool.not_true,Bool.not_false,decide_true,decide_false,Bool.true_eq_false,Bool.false_eq_true]
 have h46:=clone_g hm (f:=46) (sz:=4) (b:=48) (z:=.agg [vi 0,vu 0,vi 0,.sl true []]) fi46 (h:=[none,none,none,none,none,x5,none,none,none,none,none,none,none,none,none,none]) (n:=1) (x:=.sl false (l.map rowP)) (es:=l.map rowP) rfl (by intro e he; obtain ⟨d,_,rfl⟩:=List.mem_map.1 he; rfl) (by decide) rfl rfl (by rw [List.length_map]; omega) (by rw [List.length_map]; omega)
 unfold cloneR at h46
 rw [if_neg (by intro h; rw [List.map_eq_nil_iff] at h; subst h; simp at hil)] at h46
 refine called_g h46 ?_
 simp only [go,go1,opOk,opRes,owed_true,branch_true,branch_false,popTo,St.ev,St.put,binV,arith,shifts,unV,bndV,bndOk,isInt,isStr,intOf',strOf,rowAt,blkEs,slotIs,ldv,stv,fillV,partsV,mmV,mmGo,elems,PV.cells,PV.isAgg,PV.stor,Value.oneCell',Option.isSome_some,Option.getD_some,Option.map_some,Option.map_none,if_true,if_false,ite_true,ite_false,and_self,and_true,true_and,reduceCtorEq,true_or,or_true,List.set_cons_zero,List.set_cons_succ,List.getD_cons_zero,List.getD_cons_succ,List.getElem?_cons_zero,List.getElem?_cons_succ,List.map_cons,List.map_nil,List.length_map,List.length_cons,List.length_nil,List.length_set,List.cons_append,List.nil_append,List.drop_zero,List.drop_succ_cons,List.drop_nil,List.take_zero,List.take_succ_cons,List.take_nil,List.range_succ,List.range_zero,Nat.reduceAdd,Nat.reduceSub,Nat.reduceMul,Nat.reduceLT,Nat.reduceLeDiff,Nat.reduceEqDiff,Nat.zero_add,Nat.add_zero,Nat.lt_add_one,Int.reduceToNat,Int.toNat_natCast,Int.natCast_nonneg,Bool.not_true,Bool.not_false,decide_true,decide_false,Bool.true_eq_false,Bool.false_eq_true]
 refine looped_of (ownI l i di) l.length (Weak.keep _ [3,8,9,10] [16]) ⟨0,Nat.zero_le _,rfl,by simp [St.keep,keepT,keepS,hO1]⟩ 1000 ?_
 rintro m st ⟨k,hk,hm',rfl⟩
 simp only [go,go1,opOk,opRes,owed_true,branch_true,branch_false,popTo,St.ev,St.put,binV,arith,shifts,unV,bndV,bndOk,isInt,isStr,intOf',strOf,rowAt,blkEs,slotIs,ldv,stv,fillV,partsV,mmV,mmGo,elems,PV.cells,PV.isAgg,PV.stor,Value.oneCell',Option.isSome_some,Option.getD_some,Option.map_some,Option.map_none,if_true,if_false,ite_true,ite_false,and_self,and_true,true_and,reduceCtorEq,true_or,or_true,List.set_cons_zero,List.set_cons_succ,List.getD_cons_zero,List.getD_cons_succ,List.getElem?_cons_zero,List.getElem?_cons_succ,List.map_cons,List.map_nil,List.length_map,List.length_cons,List.length_nil,List.length_set,List.cons_append,List.nil_append,List.drop_zero,List.drop_succ_cons,List.drop_nil,List.take_zero,List.take_succ_cons,List.take_nil,List.range_succ,List.range_zero,Nat.reduceAdd,Nat.reduceSub,Nat.reduceMul,Nat.reduceLT,Nat.reduceLeDiff,Nat.reduceEqDiff,Nat.zero_add,Nat.add_zero,Nat.lt_add_one,Int.reduceToNat,Int.toNat_natCast,Int.natCast_nonneg,Bool.not_true,Bool.not_false,decide_true,decide_false,Bool.true_eq_false,Bool.false_eq_true]
 by_cases hlt:k < l.length
 ·have hlt':(k:Int) < (l.length:Int):=by omega
  have h0k:(0:Int)≤(k:Int):=by omega
  have gk:=List.getElem?_eq_getElem hlt
  obtain ⟨hbn,hbl⟩:=hb _ (List.getElem_mem hlt)
  generalize hdk:l[k]=dk at *
  have w1:IntKind.i64.wrap ((k:Int)+1)=((k+1:Nat):Int):=by rw [wrapJ (by omega) (by omega)]; omega
  have gm:(l.map rowP).getD k .dead=.agg [vi dk.1,vu dk.2.1,vi dk.2.2.1,.sl false (byP dk)]:=by rw [List.getD_eq_getElem?_getD,List.getElem?_map,gk]; rfl
  rcases Nat.lt_trichotomy k i with hki | hki | hki
  ·rw [if_pos (by omega),if_pos (by omega)]
   simp only [hO1,hlt',h0k,gm,hlt,go,go1,opOk,opRes,owed_true,branch_true,branch_false,popTo,St.ev,St.put,binV,arith,shifts,unV,bndV,bndOk,isInt,isStr,intOf',strOf,rowAt,blkEs,slotIs,ldv,stv,fillV,partsV,mmV,mmGo,elems,PV.cells,PV.isAgg,PV.stor,Value.oneCell',Option.isSome_some,Option.getD_some,Option.map_some,Option.map_none,if_true,if_false,ite_true,ite_false,and_self,and_true,true_and,reduceCtorEq,true_or,or_true,List.set_cons_zero,List.set_cons_succ,List.getD_cons_zero,List.getD_cons_succ,List.getElem?_cons_zero,List.getElem?_cons_succ,List.map_cons,List.map_nil,List.length_map,List.length_cons,List.length_nil,List.length_set,List.cons_append,List.nil_append,List.drop_zero,List.drop_succ_cons,List.drop_nil,List.take_zero,List.take_succ_cons,List.take_nil,List.range_succ,List.range_zero,Nat.reduceAdd,Nat.reduceSub,Nat.reduceMul,Nat.reduceLT,Nat.reduceLeDiff,Nat.reduceEqDiff,Nat.zero_add,Nat.add_zero,Nat.lt_add_one,Int.reduceToNat,Int.toNat_natCast,Int.natCast_nonneg,Bool.not_true,Bool.not_false,decide_true,decide_false,Bool.true_eq_false,Bool.false_eq_true]
   refine called_pure (clone47 (es:=byP dk) (by unfold byP; rw [ne_eq,List.map_eq_nil_iff]; exact hbn) byP_cells (byP_closed _) (by unfold byP; rw [List.length_map]; exact hbl)) ?_
   simp only [hlt',h0k,gm,hlt,w1,go,go1,opOk,opRes,owed_true,branch_true,branch_false,popTo,St.ev,St.put,binV,arith,shifts,unV,bndV,bndOk,isInt,isStr,intOf',strOf,rowAt,blkEs,slotIs,ldv,stv,fillV,partsV,mmV,mmGo,elems,PV.cells,PV.isAgg,PV.stor,Value.oneCell',Option.isSome_some,Option.getD_some,Option.map_some,Option.map_none,if_true,if_false,ite_true,ite_false,and_self,and_true,true_and,reduceCtorEq,true_or,or_true,List.set_cons_zero,List.set_cons_succ,List.getD_cons_zero,List.getD_cons_succ,List.getElem?_cons_zero,List.getElem?_cons_succ,List.map_cons,List.map_nil,List.length_map,List.length_cons,List.length_nil,List.length_set,List.cons_append,List.nil_append,List.drop_zero,List.drop_succ_cons,List.drop_nil,List.take_zero,List.take_succ_cons,List.take_nil,List.range_succ,List.range_zero,Nat.reduceAdd,Nat.reduceSub,Nat.reduceMul,Nat.reduceLT,Nat.reduceLeDiff,Nat.reduceEqDiff,Nat.zero_add,Nat.add_zero,Nat.lt_add_one,Int.reduceToNat,Int.toNat_natCast,Int.natCast_nonneg,Bool.not_true,Bool.not_false,decide_true,decide_false,Bool.true_eq_false,Bool.false_eq_true]
   rw [set_same (l:=l.map rowP) (k:=k) (e:=.agg [vi dk.1,vu dk.2.1,vi dk.2.2.1,.sl false (byP dk)]) (by rw [List.getElem?_map,gk]; rfl)]
   exact again_of (l.length - (k+1)) (by omega) (Weak.keep _ [3,8,9,10] [16]) ⟨k+1,by omega,rfl,by rw [if_pos (by omega),if_pos (by omega)]; simp [St.keep,keepT,keepS,hO1,Nat.add_assoc]⟩
  ·subst hki
   rw [if_pos (by omega),if_pos (by omega)]
   have hdi:dk=di:=by rw [gk] at hi; exact Option.some.inj hi
   subst hdi
   simp only [hO1,hlt',h0k,gm,hlt,go,go1,opOk,opRes,owed_true,branch_true,branch_false,popTo,St.ev,St.put,binV,arith,shifts,unV,bndV,bndOk,isInt,isStr,intOf',strOf,rowAt,blkEs,slotIs,ldv,stv,fillV,partsV,mmV,mmGo,elems,PV.cells,PV.isAgg,PV.stor,Value.oneCell',Option.isSome_some,Option.getD_some,Option.map_some,Option.map_none,if_true,if_false,ite_true,ite_false,and_self,and_true,true_and,reduceCtorEq,true_or,or_true,List.set_cons_zero,List.set_cons_succ,List.getD_cons_zero,List.getD_cons_succ,List.getElem?_cons_zero,List.getElem?_cons_succ,List.map_cons,List.map_nil,List.length_map,List.length_cons,List.length_nil,List.length_set,List.cons_append,List.nil_append,List.drop_zero,List.drop_succ_cons,List.drop_nil,List.take_zero,List.take_succ_cons,List.take_nil,List.range_succ,List.range_zero,Nat.reduceAdd,Nat.reduceSub,Nat.reduceMul,Nat.reduceLT,Nat.reduceLeDiff,Nat.reduceEqDiff,Nat.zero_add,Nat.add_zero,Nat.lt_add_one,Int.reduceToNat,Int.toNat_natCast,Int.natCast_nonneg,Bool.not_true,Bool.not_false,decide_true,decide_false,Bool.true_eq_false,Bool.false_eq_true]
   have h47:=clone_g hm (f:=47) (sz:=1) (b:=8) (z:=vi 0) fi47 (h:=[none,none,none,none,none,none,none,none,none,none,none,none,none,
     some (2+k,Blk.cells [PV.agg [vi dk.fst,vu dk.snd.fst,vi dk.snd.snd.fst,PV.sl false (byP dk)]]),none,
     none,some (1,Blk.cells (List.map rowP l)),none]) (n:=2+k+1) (x:=.sl false (byP dk)) (es:=byP dk) rfl byP_cells (by decide) rfl rfl (by unfold byP; rw [List.length_map]; omega) (by unfold byP; rw [List.length_map]; omega)
   unfold cloneR at h47
   rw [if_neg (by unfold byP; rw [List.map_eq_nil_iff]; exact hbn)] at h47
   refine called_g h47 ?_
   simp only [hlt',h0k,gm,hlt,w1,go,go1,opOk,opRes,owed_true,branch_true,branch_false,popTo,St.ev,St.put,binV,arith,shifts,unV,bndV,bndOk,isInt,isStr,intOf',strOf,rowAt,blkEs,slotIs,ldv,stv,fillV,partsV,mmV,mmGo,elems,PV.cells,PV.isAgg,PV.stor,Value.oneCell',Option.isSome_some,Option.getD_some,Option.map_some,Option.map_none,if_true,if_false,ite_true,ite_false,and_self,and_true,true_and,reduceCtorEq,true_or,or_true,List.set_cons_zero,List.set_cons_succ,List.getD_cons_zero,List.getD_cons_succ,List.getElem?_cons_zero,List.getElem?_cons_succ,List.map_cons,List.map_nil,List.length_map,List.length_cons,List.length_nil,List.length_set,List.cons_append,List.nil_append,List.drop_zero,List.drop_succ_cons,List.drop_nil,List.take_zero,List.take_succ_cons,List.take_nil,List.range_succ,List.range_zero,Nat.reduceAdd,Nat.reduceSub,Nat.reduceMul,Nat.reduceLT,Nat.reduceLeDiff,Nat.reduceEqDiff,Nat.zero_add,Nat.add_zero,Nat.lt_add_one,Int.reduceToNat,Int.toNat_natCast,Int.natCast_nonneg,Bool.not_true,Bool.not_false,decide_true,decide_false,Bool.true_eq_false,Bool.false_eq_true]
   have e1:2+k+1=3+k:=by omega
   have e2:(byP dk).length=dk.2.2.2.length:=by unfold byP; rw [List.length_map]
   rw [e1,e2]
   exact again_of (l.length - (k+1)) (by omega) (Weak.keep _ [3,8,9,10] [16,18]) ⟨k+1,by omega,rfl,by rw [if_neg (by omega),if_neg (by omega)]; simp [St.keep,keepT,keepS,hO2,rowO,Nat.add_assoc]⟩
  ·rw [if_neg (by omega),if_neg (by omega)]
   have gm2:((l.map rowP).set i (rowO (3+i) di.2.2.2.length di)).getD k .dead=.agg [vi dk.1,vu dk.2.1,vi dk.2.2.1,.sl false (byP dk)]:=by
    rw [List.getD_eq_getElem?_getD,List.getElem?_set_ne (by omega),List.getElem?_map,gk]; rfl
   simp only [hO2,hlt',h0k,gm2,hlt,go,go1,opOk,opRes,owed_true,branch_true,branch_false,popTo,St.ev,St.put,binV,arith,shifts,unV,bndV,bndOk,isInt,isStr,intOf',strOf,rowAt,blkEs,slotIs,ldv,stv,fillV,partsV,mmV,mmGo,elems,PV.cells,PV.isAgg,PV.stor,Value.oneCell',Option.isSome_some,Option.getD_some,Option.map_some,Option.map_none,if_true,if_false,ite_true,ite_false,and_self,and_true,true_and,reduceCtorEq,true_or,or_true,List.set_cons_zero,List.set_cons_succ,List.getD_cons_zero,List.getD_cons_succ,List.getElem?_cons_zero,List.getElem?_cons_succ,List.map_cons,List.map_nil,List.length_map,List.length_cons,List.length_nil,List.length_set,List.cons_append,List.nil_append,List.drop_zero,List.drop_succ_cons,List.drop_nil,List.take_zero,List.take_succ_cons,List.take_nil,List.range_succ,List.range_zero,Nat.reduceAdd,Nat.reduceSub,Nat.reduceMul,Nat.reduceLT,Nat.reduceLeDiff,Nat.reduceEqDiff,Nat.zero_add,Nat.add_zero,Nat.lt_add_one,Int.reduceToNat,Int.toNat_natCast,Int.natCast_nonneg,Bool.not_true,Bool.not_false,decide_true,decide_false,Bool.true_eq_false,Bool.false_eq_true]
   refine called_pure (clone47 (es:=byP dk) (by unfold byP; rw [ne_eq,List.map_eq_nil_iff]; exact hbn) byP_cells (byP_closed _) (by unfold byP; rw [List.length_map]; exact hbl)) ?_
   simp only [hlt',h0k,gm2,hlt,w1,go,go1,opOk,opRes,owed_true,branch_true,branch_false,popTo,St.ev,St.put,binV,arith,shifts,unV,bndV,bndOk,isInt,isStr,intOf',strOf,rowAt,blkEs,slotIs,ldv,stv,fillV,partsV,mmV,mmGo,elems,PV.cells,PV.isAgg,PV.stor,Value.oneCell',Option.isSome_some,Option.getD_some,Option.map_some,Option.map_none,if_true,if_false,ite_true,ite_false,and_self,and_true,true_and,reduceCtorEq,true_or,or_true,List.set_cons_zero,List.set_cons_succ,List.getD_cons_zero,List.getD_cons_succ,List.getElem?_cons_zero,List.getElem?_cons_succ,List.map_cons,List.map_nil,List.length_map,List.length_cons,List.length_nil,List.length_set,List.cons_append,List.nil_append,List.drop_zero,List.drop_succ_cons,List.drop_nil,List.take_zero,List.take_succ_cons,List.take_nil,List.range_succ,List.range_zero,Nat.reduceAdd,Nat.reduceSub,Nat.reduceMul,Nat.reduceLT,Nat.reduceLeDiff,Nat.reduceEqDiff,Nat.zero_add,Nat.add_zero,Nat.lt_add_one,Int.reduceToNat,Int.toNat_natCast,Int.natCast_nonneg,Bool.not_true,Bool.not_false,decide_true,decide_false,Bool.true_eq_false,Bool.false_eq_true]
   rw [set_same (l:=(l.map rowP).set i (rowO (3+i) di.2.2.2.length di)) (k:=k) (e:=.agg [vi dk.1,vu dk.2.1,vi dk.2.2.1,.sl false (byP dk)]) (by rw [List.getElem?_set_ne (by omega),List.getElem?_map,gk]; rfl)]
   exact again_of (l.length - (k+1)) (by omega) (Weak.keep _ [3,8,9,10] [16,18]) ⟨k+1,by omega,rfl,by rw [if_neg (by omega),if_neg (by omega)]; simp [St.keep,keepT,keepS,hO2,Nat.add_assoc]⟩
 ·have hkl:k=l.length:=by omega
  subst hkl
  have hge:¬ (l.length:Int) < (l.length:Int):=by omega
  rw [if_neg (by omega),if_neg (by omega)]
  simp only [hO2,hge,go,go1,opOk,opRes,owed_true,branch_true,branch_false,popTo,St.ev,St.put,binV,arith,shifts,unV,bndV,bndOk,isInt,isStr,intOf',strOf,rowAt,blkEs,slotIs,ldv,stv,fillV,partsV,mmV,mmGo,elems,PV.cells,PV.isAgg,PV.stor,Value.oneCell',Option.isSome_some,Option.getD_some,Option.map_some,Option.map_none,if_true,if_false,ite_true,ite_false,and_self,and_true,true_and,reduceCtorEq,true_or,or_true,List.set_cons_zero,List.set_cons_succ,List.getD_cons_zero,List.getD_cons_succ,List.getElem?_cons_zero,List.getElem?_cons_succ,List.map_cons,List.map_nil,List.length_map,List.length_cons,List.length_nil,List.length_set,List.cons_append,List.nil_append,List.drop_zero,List.drop_succ_cons,List.drop_nil,List.take_zero,List.take_succ_cons,List.take_nil,List.range_succ,List.range_zero,Nat.reduceAdd,Nat.reduceSub,Nat.reduceMul,Nat.reduceLT,Nat.reduceLeDiff,Nat.reduceEqDiff,Nat.zero_add,Nat.add_zero,Nat.lt_add_one,Int.reduceToNat,Int.toNat_natCast,Int.natCast_nonneg,Bool.not_true,Bool.not_false,decide_true,decide_false,Bool.true_eq_false,Bool.false_eq_true]
  exact ⟨.inr rfl,_,Weak.refl _,by simp [resV,St.ev],rfl,rfl⟩
end Go.Proofs.Yticljphbbdnomaa.VL
end
section
namespace Go.Proofs.Yticljphbbdnomaa.VL
open Go
set_option linter.unusedVariables false
set_option linter.unusedSimpArgs false
set_option linter.unusedSectionVars false
set_option maxRecDepth 100000
variable [Val]
theorem insF36:InsF Try.prog 36 1 8 (vi 0):=⟨⟨_,_,54,Try.func36,rfl,by kernel_rfl,rfl,by kernel_rfl,by kernel_rfl⟩,by decide,rfl,rfl⟩
theorem called_ins {f s b st0 i:Nat} {es ys:List PV} {dst:Option Nat} {G:Cont} {k:List Itm} {st:St} (hF:InsF Try.prog f 1 8 (vi 0)) (hb:st.h[b]?=some (some (st0,.cells es))) (hs:s < st.h.length) (hbs:b≠s) (hi:i≤es.length)
  (hce:∀ e ∈ es,e.cells.length=1) (hcl:closedL es=true) (hy:ys≠[]) (hye:∀ e ∈ ys,e.cells.length=1) (hycl:closedL ys=true) (hl:es.length+ys.length≤2000)
  (hG:G k (St.put ⟨st.t,(st.h.set b none).set s (some (st.n,.cells (es.take i++ys++es.drop i))),st.n+1⟩ dst (.own s st.n 1 0 (es.length+ys.length) none))) :
  called Try.prog false s f [.own b st0 1 0 es.length none,vi i,.sl true ys] dst G k st:=by
 have hclosed:∀ (q:Nat→Nat→Option (Nat×Nat)),∀ p,p ∈ es∨p ∈ ys→ren q p=p:=by
  intro q p hp
  rcases hp with hp | hp
  ·exact ren_closed q _ ((closedL_all _).1 hcl p hp)
  ·exact ren_closed q _ ((closedL_all _).1 hycl p hp)
 have hv:=ins_vcall hm hF (i:=i) (es:=es) (ys:=ys) (cap:=none) (.inl rfl) hi hce hy hye (by omega) (by omega) hclosed
 refine .inr (.inl ⟨rfl,[(b,st0)],[.cells es],(fun r L' N=>r=.own 1 1 1 0 (es.length+ys.length) none∧L'=[none]∧N=some (.cells (es.take i++ys++es.drop i))),rfl,by simp,?_,?_,hs,?_,?_⟩)
 ·intro j b' s' k' hj hk'
  cases j with
  | zero=>simp at hj hk'; obtain ⟨rfl,rfl⟩:=hj; subst hk'; exact hb
  | succ j=>simp at hj
 ·intro y hy
  simp at hy
  subst hy
  exact hbs
 ·have ea:([.own b st0 1 0 es.length none,vi i,.sl true ys]:List PV).map (ren (qin [(b,st0)]))=[.own 0 0 1 0 es.length none,vi i,.sl true ys]:=by
   have hq:qin [(b,st0)] b st0=some (0,0):=by simp [qin]
   have hsl:ren (qin [(b,st0)]) (.sl true ys)=.sl true ys:=by
    simp only [ren,renL_map]
    congr 1
    exact (List.map_congr_left fun p hp=>hclosed _ p (.inr hp)).trans (List.map_id _)
   simp only [List.map_cons,List.map_nil] at hsl ⊢
   rw [hsl]
   simp only [ren,hq]
  rw [ea]
  have eb:([.cells es]:List Blk).map (renB (qin [(b,st0)]))=[.cells es]:=by
   simp only [List.map_cons,List.map_nil]
   rw [renB_id (fun p hp=>hclosed _ p (.inl hp))]
  rw [eb]
  exact hv
 ·rintro r' L' N ⟨rfl,rfl,rfl⟩ hL
  have hq:qout [(b,st0)] s st.n true 1 1=some (s,st.n):=by simp [qout]
  have eb:renB (qout [(b,st0)] s st.n true) (.cells (es.take i++ys++es.drop i))=.cells (es.take i++ys++es.drop i):=by
   refine renB_id fun p hp=>hclosed _ p ?_
   simp only [List.mem_append] at hp
   rcases hp with (hp | hp) | hp
   ·exact .inl (List.mem_of_mem_take hp)
   ·exact .inr hp
   ·exact .inl (List.mem_of_mem_drop hp)
  simp only [Option.isSome_some,if_true,ren,hq,callH,eb,List.map_cons,List.map_nil,Option.map_none,List.zip_cons_cons,List.zip_nil_right,putL]
  exact hG
theorem rowP_closed (d:DV):closed (rowP d)=true:=by
 have:=byP_closed d.2.2.2
 show closedL [vi d.1,vu d.2.1,vi d.2.2.1,.sl false (byP d)]=true
 simpa [closedL,closed,byP] using this
theorem frz_rows {l:List DV} {i s:Nat} {di:DV} {es:List PV}:((l.map rowP).set i (.agg [vi di.1,vu di.2.1,vi di.2.2.1,.own 10 s 1 0 es.length none])).map (frz s es)=(l.map rowP).set i (.agg [vi di.1,vu di.2.1,vi di.2.2.1,.sl false es]):=by
 rw [List.map_set]
 have e1:(l.map rowP).map (frz s es)=l.map rowP:=by
  rw [List.map_map]
  exact List.map_congr_left fun d _=>frz_closed s es _ (rowP_closed d)
 have e2:frz s es (.agg [vi di.1,vu di.2.1,vi di.2.2.1,.own 10 s 1 0 es.length none])=.agg [vi di.1,vu di.2.1,vi di.2.2.1,.sl false es]:=by
  simp only [frz,frzL,if_true,Nat.zero_add,Nat.le_refl,List.drop_zero,List.take_length]
  rfl
 rw [e1,e2]
theorem raise_end {t:List PV} {l:List DV} {i:Nat} {di:DV} {es:List PV} {L:Nat} (hL:l.length=L) :
  resV (((⟨[.dead,.dead,.dead,.dead,.dead,.dead,.dead,.dead,.dead,.dead,.own 16 1 4 0 L none,vi 0,.dead,.dead,.dead,.dead,.dead,.dead,.dead,.dead,.dead,.dead,.dead,.dead,.dead,.dead,.dead,.dead,.dead,.dead,.dead,.dead,.dead,.dead,.dead,.dead,.dead,.dead,.dead,.dead,.dead,.dead,.dead,.dead,.dead,.dead,.dead,.dead,.dead,.dead,.dead,.dead,.dead,.dead,.dead,.dead,.dead,.dead,.dead,.dead,.dead,.dead,.dead,.dead,.dead,.dead,.dead,.dead,.dead,.dead,.dead,.dead,.dead,.dead,.dead,.dead,.dead,.dead,.dead,.dead,.dead,.dead,.dead,.dead,.dead,.dead,.dead,.dead,.dead,.dead,.dead,.dead,.dead,.dead,.dead,.dead,.dead,.dead,.dead,.dead,.dead,.dead,.dead,.dead,.dead,.dead,.dead,.dead,.dead,.dead,.dead],[none,none,none,none,none,none,none,none,none,none,some (3+L,.cells es),none,none,none,none,none,some (1,.cells ((l.map rowP).set i (.agg [vi di.1,vu di.2.1,vi di.2.2.1,.own 10 (3+L) 1 0 es.length none]))),none,none,none],3+L+1⟩:St).freeze 10).freeze 16) [10,11]=.tup [.sl false ((l.map rowP).set i (.agg [vi di.1,vu di.2.1,vi di.2.2.1,.sl false es])),vi 0]:=by
 have h1:¬ (1:Nat)=3+L:=by omega
 have e:(⟨[.dead,.dead,.dead,.dead,.dead,.dead,.dead,.dead,.dead,.dead,.own 16 1 4 0 L none,vi 0,.dead,.dead,.dead,.dead,.dead,.dead,.dead,.dead,.dead,.dead,.dead,.dead,.dead,.dead,.dead,.dead,.dead,.dead,.dead,.dead,.dead,.dead,.dead,.dead,.dead,.dead,.dead,.dead,.dead,.dead,.dead,.dead,.dead,.dead,.dead,.dead,.dead,.dead,.dead,.dead,.dead,.dead,.dead,.dead,.dead,.dead,.dead,.dead,.dead,.dead,.dead,.dead,.dead,.dead,.dead,.dead,.dead,.dead,.dead,.dead,.dead,.dead,.dead,.dead,.dead,.dead,.dead,.dead,.dead,.dead,.dead,.dead,.dead,.dead,.dead,.dead,.dead,.dead,.dead,.dead,.dead,.dead,.dead,.dead,.dead,.dead,.dead,.dead,.dead,.dead,.dead,.dead,.dead,.dead,.dead,.dead,.dead,.dead,.dead],[none,none,none,none,none,none,none,none,none,none,some (3+L,.cells es),none,none,none,none,none,some (1,.cells ((l.map rowP).set i (.agg [vi di.1,vu di.2.1,vi di.2.2.1,.own 10 (3+L) 1 0 es.length none]))),none,none,none],3+L+1⟩:St).freeze 10=⟨[.dead,.dead,.dead,.dead,.dead,.dead,.dead,.dead,.dead,.dead,.own 16 1 4 0 L none,vi 0,.dead,.dead,.dead,.dead,.dead,.dead,.dead,.dead,.dead,.dead,.dead,.dead,.dead,.dead,.dead,.dead,.dead,.dead,.dead,.dead,.dead,.dead,.dead,.dead,.dead,.dead,.dead,.dead,.dead,.dead,.dead,.dead,.dead,.dead,.dead,.dead,.dead,.dead,.dead,.dead,.dead,.dead,.dead,.dead,.dead,.dead,.dead,.dead,.dead,.dead,.dead,.dead,.dead,.dead,.dead,.dead,.dead,.dead,.dead,.dead,.dead,.dead,.dead,.dead,.dead,.dead,.dead,.dead,.dead,.dead,.dead,.dead,.dead,.dead,.dead,.dead,.dead,.dead,.dead,.dead,.dead,.dead,.dead,.dead,.dead,.dead,.dead,.dead,.dead,.dead,.dead,.dead,.dead,.dead,.dead,.dead,.dead,.dead,.dead],[none,none,none,none,none,none,none,none,none,none,none,none,none,none,none,none,some (1,.cells ((l.map rowP).set i (.agg [vi di.1,vu di.2.1,vi di.2.2.1,.sl false es]))),none,none,none],3+L+1⟩:=by
  simp only [St.freeze,List.getElem?_cons_succ,List.getElem?_cons_zero,List.map_cons,List.map_nil,frz,if_neg h1,List.set_cons_succ,List.set_cons_zero,Option.map_none,Option.map_some,frzB,frz_rows]
 rw [e]
 have hl2:0+L≤((l.map rowP).set i (.agg [vi di.1,vu di.2.1,vi di.2.2.1,.sl false es])).length:=by rw [List.length_set,List.length_map]; omega
 have e3:((l.map rowP).set i (.agg [vi di.1,vu di.2.1,vi di.2.2.1,.sl false es])).take L=(l.map rowP).set i (.agg [vi di.1,vu di.2.1,vi di.2.2.1,.sl false es]):=List.take_of_length_le (by rw [List.length_set,List.length_map]; omega)
 simp only [St.freeze,List.getElem?_cons_succ,List.getElem?_cons_zero,List.map_cons,List.map_nil,frz,if_pos hl2,if_true,resV,St.ev,List.getD_cons_succ,List.getD_cons_zero,List.drop_zero,e3]
 rfl
theorem raise_in {l:List DV} {who inc by' now:Int} {i k:Nat} {di:DV} (hl:l.length≤1000) (hb:∀ d ∈ l,d.2.2.2≠[]∧d.2.2.2.length≤1000)
  (h14:VPure Try.prog 14 [.sl false (l.map rowP)] (vi 0)) (h32w:VPure Try.prog 32 [vi who] (vb true)) (h32b:VPure Try.prog 32 [vi by'] (vb true)) (h33:VPure Try.prog 33 [vi now] (vb true))
  (h34:VPure Try.prog 34 [.sl false (l.map rowP),vi who] (.tup [vi i,vb true])) (hi:l[i]?=some di) (hinc:di.2.1=inc)
  (h35:VPure Try.prog 35 [.sl false (byP di),vi by'] (.tup [vi k,vb false])) (hk:k≤di.2.2.2.length) :
  VPure Try.prog 13 [.sl false (l.map rowP),vi who,vu inc,vi by',vi now] (.tup [.sl false ((l.map rowP).set i (.agg [vi di.1,vu di.2.1,vi di.2.2.1,.sl false ((byP di).take k++[vi by']++(byP di).drop k)])),vi 0]):=by
 have hil:i < l.length:=(List.getElem?_eq_some_iff.1 hi).1
 refine vpure_go hm 111 1000 Try.func13 rfl (by kernel_rfl) (ts:=[10,11]) rfl rfl (congrFun at13v 0) h14.1 ?_ ?_
 ·have hx:closedL ((byP di).take k++[vi by']++(byP di).drop k)=true:=by
   rw [closedL_all]
   intro p hp
   have hc:=(closedL_all _).1 (byP_closed di.2.2.2)
   simp only [List.mem_append,List.mem_singleton] at hp
   rcases hp with (hp | hp) | hp
   ·exact hc p (List.mem_of_mem_take hp)
   ·subst hp; rfl
   ·exact hc p (List.mem_of_mem_drop hp)
  have hs:closedL ((l.map rowP).set i (.agg [vi di.1,vu di.2.1,vi di.2.2.1,.sl false ((byP di).take k++[vi by']++(byP di).drop k)]))=true:=by
   rw [closedL_all]
   intro p hp
   rcases List.mem_or_eq_of_mem_set hp with hp | rfl
   ·obtain ⟨d,_,rfl⟩:=List.mem_map.1 hp; exact rowP_closed d
   ·show closedL [vi di.1,vu di.2.1,vi di.2.2.1,.sl false ((byP di).take k++[vi by']++(byP di).drop k)]=true
    simp only [closedL,closed,hx,Bool.and_true]
  simp only [closedL,closed,hs,Bool.and_true]
 simp only [startSt,List.replicate,List.cons_append,List.nil_append,List.append_nil,List.length_cons,List.length_nil,List.zipIdx_nil,List.map_nil,Nat.reduceAdd,Nat.reduceSub,ic13v,ICode.at,atOps,IOper.at,IOp.at]
 simp only [go,go1,opOk,opRes,owed_true,branch_true,branch_false,popTo,St.ev,St.put,binV,arith,shifts,unV,bndV,bndOk,isInt,isStr,intOf',strOf,rowAt,blkEs,slotIs,ldv,stv,fillV,partsV,mmV,mmGo,elems,PV.cells,PV.isAgg,PV.stor,Value.oneCell',Option.isSome_some,Option.getD_some,Option.map_some,Option.map_none,if_true,if_false,ite_true,ite_false,and_self,and_true,true_and,reduceCtorEq,true_or,or_true,List.set_cons_zero,List.set_cons_succ,List.getD_cons_zero,List.getD_cons_succ,List.getElem?_cons_zero,List.getElem?_cons_succ,List.map_cons,List.map_nil,List.length_map,List.length_cons,List.length_nil,List.length_set,List.cons_append,List.nil_append,List.drop_zero,List.drop_succ_cons,List.drop_nil,List.take_zero,List.take_succ_cons,List.take_nil,List.range_succ,List.range_zero,Nat.reduceAdd,Nat.reduceSub,Nat.reduceMul,Nat.reduceLT,Nat.reduceLeDiff,Nat.reduceEqDiff,Nat.zero_add,Nat.add_zero,Nat.lt_add_one,Int.reduceToNat,Int.toNat_natCast,Int.natCast_nonneg,Bool.not_true,Bool.not_false,decide_true,decide_false,Bool.true_eq_false,Bool.false_eq_true]
 refine called_pure h14 ?_
 simp only [show ((0:Int) != 0)=false from rfl,go,go1,opOk,opRes,owed_true,branch_true,branch_false,popTo,St.ev,St.put,binV,arith,shifts,unV,bndV,bndOk,isInt,isStr,intOf',strOf,rowAt,blkEs,slotIs,ldv,stv,fillV,partsV,mmV,mmGo,elems,PV.cells,PV.isAgg,PV.stor,Value.oneCell',Option.isSome_some,Option.getD_some,Option.map_some,Option.map_none,if_true,if_false,ite_true,ite_false,and_self,and_true,true_and,reduceCtorEq,true_or,or_true,List.set_cons_zero,List.set_cons_succ,List.getD_cons_zero,List.getD_cons_succ,List.getElem?_cons_zero,List.getElem?_cons_succ,List.map_cons,List.map_nil,List.length_map,List.length_cons,List.length_nil,List.length_set,List.cons_append,List.nil_append,List.drop_zero,List.drop_succ_cons,List.drop_nil,List.take_zero,List.take_succ_cons,List.take_nil,List.range_succ,List.range_zero,Nat.reduceAdd,Nat.reduceSub,Nat.reduceMul,Nat.reduceLT,Nat.reduceLeDiff,Nat.reduceEqDiff,Nat.zero_add,Nat.add_zero,Nat.lt_add_one,Int.reduceToNat,Int.toNat_natCast,Int.natCast_nonneg,Bool.not_true,Bool.not_false,decide_true,decide_false,Bool.true_eq_false,Bool.false_eq_true]
 refine called_pure h32w ?_
 simp only [go,go1,opOk,opRes,owed_true,branch_true,branch_false,popTo,St.ev,St.put,binV,arith,shifts,unV,bndV,bndOk,isInt,isStr,intOf',strOf,rowAt,blkEs,slotIs,ldv,stv,fillV,partsV,mmV,mmGo,elems,PV.cells,PV.isAgg,PV.stor,Value.oneCell',Option.isSome_some,Option.getD_some,Option.map_some,Option.map_none,if_true,if_false,ite_true,ite_false,and_self,and_true,true_and,reduceCtorEq,true_or,or_true,List.set_cons_zero,List.set_cons_succ,List.getD_cons_zero,List.getD_cons_succ,List.getElem?_cons_zero,List.getElem?_cons_succ,List.map_cons,List.map_nil,List.length_map,List.length_cons,List.length_nil,List.length_set,List.cons_append,List.nil_append,List.drop_zero,List.drop_succ_cons,List.drop_nil,List.take_zero,List.take_succ_cons,List.take_nil,List.range_succ,List.range_zero,Nat.reduceAdd,Nat.reduceSub,Nat.reduceMul,Nat.reduceLT,Nat.reduceLeDiff,Nat.reduceEqDiff,Nat.zero_add,Nat.add_zero,Nat.lt_add_one,Int.reduceToNat,Int.toNat_natCast,Int.natCast_nonneg,Bool.not_true,Bool.not_false,decide_true,decide_false,Bool.true_eq_false,Bool.false_eq_true]
 refine called_pure h32b ?_
 simp only [go,go1,opOk,opRes,owed_true,branch_true,branch_false,popTo,St.ev,St.put,binV,arith,shifts,unV,bndV,bndOk,isInt,isStr,intOf',strOf,rowAt,blkEs,slotIs,ldv,stv,fillV,partsV,mmV,mmGo,elems,PV.cells,PV.isAgg,PV.stor,Value.oneCell',Option.isSome_some,Option.getD_some,Option.map_some,Option.map_none,if_true,if_false,ite_true,ite_false,and_self,and_true,true_and,reduceCtorEq,true_or,or_true,List.set_cons_zero,List.set_cons_succ,List.getD_cons_zero,List.getD_cons_succ,List.getElem?_cons_zero,List.getElem?_cons_succ,List.map_cons,List.map_nil,List.length_map,List.length_cons,List.length_nil,List.length_set,List.cons_append,List.nil_append,List.drop_zero,List.drop_succ_cons,List.drop_nil,List.take_zero,List.take_succ_cons,List.take_nil,List.range_succ,List.range_zero,Nat.reduceAdd,Nat.reduceSub,Nat.reduceMul,Nat.reduceLT,Nat.reduceLeDiff,Nat.reduceEqDiff,Nat.zero_add,Nat.add_zero,Nat.lt_add_one,Int.reduceToNat,Int.toNat_natCast,Int.natCast_nonneg,Bool.not_true,Bool.not_false,decide_true,decide_false,Bool.true_eq_false,Bool.false_eq_true]
 refine called_pure h33 ?_
 simp only [go,go1,opOk,opRes,owed_true,branch_true,branch_false,popTo,St.ev,St.put,binV,arith,shifts,unV,bndV,bndOk,isInt,isStr,intOf',strOf,rowAt,blkEs,slotIs,ldv,stv,fillV,partsV,mmV,mmGo,elems,PV.cells,PV.isAgg,PV.stor,Value.oneCell',Option.isSome_some,Option.getD_some,Option.map_some,Option.map_none,if_true,if_false,ite_true,ite_false,and_self,and_true,true_and,reduceCtorEq,true_or,or_true,List.set_cons_zero,List.set_cons_succ,List.getD_cons_zero,List.getD_cons_succ,List.getElem?_cons_zero,List.getElem?_cons_succ,List.map_cons,List.map_nil,List.length_map,List.length_cons,List.length_nil,List.length_set,List.cons_append,List.nil_append,List.drop_zero,List.drop_succ_cons,List.drop_nil,List.take_zero,List.take_succ_cons,List.take_nil,List.range_succ,List.range_zero,Nat.reduceAdd,Nat.reduceSub,Nat.reduceMul,Nat.reduceLT,Nat.reduceLeDiff,Nat.reduceEqDiff,Nat.zero_add,Nat.add_zero,Nat.lt_add_one,Int.reduceToNat,Int.toNat_natCast,Int.natCast_nonneg,Bool.not_true,Bool.not_false,decide_true,decide_false,Bool.true_eq_false,Bool.false_eq_true]
 refine called_pure h34 ?_
 simp only [go,go1,opOk,opRes,owed_true,branch_true,branch_false,popTo,St.ev,St.put,binV,arith,shifts,unV,bndV,bndOk,isInt,isStr,intOf',strOf,rowAt,blkEs,slotIs,ldv,stv,fillV,partsV,mmV,mmGo,elems,PV.cells,PV.isAgg,PV.stor,Value.oneCell',Option.isSome_some,Option.getD_some,Option.map_some,Option.map_none,if_true,if_false,ite_true,ite_false,and_self,and_true,true_and,reduceCtorEq,true_or,or_true,List.set_cons_zero,List.set_cons_succ,List.getD_cons_zero,List.getD_cons_succ,List.getElem?_cons_zero,List.getElem?_cons_succ,List.map_cons,List.map_nil,List.length_map,List.length_cons,List.length_nil,List.length_set,List.cons_append,List.nil_append,List.drop_zero,List.drop_succ_cons,List.drop_nil,List.take_zero,List.take_succ_cons,List.take_nil,List.range_succ,List.range_zero,Nat.reduceAdd,Nat.reduceSub,Nat.reduceMul,Nat.reduceLT,Nat.reduceLeDiff,Nat.reduceEqDiff,Nat.zero_add,Nat.add_zero,Nat.lt_add_one,Int.reduceToNat,Int.toNat_natCast,Int.natCast_nonneg,Bool.not_true,Bool.not_false,decide_true,decide_false,Bool.true_eq_false,Bool.false_eq_true]
 simp only [List.mem_singleton,forall_eq,List.mem_cons,List.not_mem_nil,or_false,List.foldl_cons,List.foldl_nil,go,go1,opOk,opRes,owed_true,branch_true,branch_false,popTo,St.ev,St.put,binV,arith,shifts,unV,bndV,bndOk,isInt,isStr,intOf',strOf,rowAt,blkEs,slotIs,ldv,stv,fillV,partsV,mmV,mmGo,elems,PV.cells,PV.isAgg,PV.stor,Value.oneCell',Option.isSome_some,Option.getD_some,Option.map_some,Option.map_none,if_true,if_false,ite_true,ite_false,and_self,and_true,true_and,reduceCtorEq,true_or,or_true,List.set_cons_zero,List.set_cons_succ,List.getD_cons_zero,List.getD_cons_succ,List.getElem?_cons_zero,List.getElem?_cons_succ,List.map_cons,List.map_nil,List.length_map,List.length_cons,List.length_nil,List.length_set,List.cons_append,List.nil_append,List.drop_zero,List.drop_succ_cons,List.drop_nil,List.take_zero,List.take_succ_cons,List.take_nil,List.range_succ,List.range_zero,Nat.reduceAdd,Nat.reduceSub,Nat.reduceMul,Nat.reduceLT,Nat.reduceLeDiff,Nat.reduceEqDiff,Nat.zero_add,Nat.add_zero,Nat.lt_add_one,Int.reduceToNat,Int.toNat_natCast,Int.natCast_nonneg,Bool.not_true,Bool.not_false,decide_true,decide_false,Bool.true_eq_false,Bool.false_eq_true]
 have ow:=own_ok (x5:=some (0,.cells [.agg [vi who,vu inc,vi now,.sl true [vi by']]])) hi hl hb
 subst hinc
 refine called_g ow ?_
 have hilI:(i:Int) < (l.length:Int):=by omega
 have hi0:(0:Int)≤(i:Int):=by omega
 have irr:¬ di.2.1 < di.2.1:=by omega
 generalize hR:(l.map rowP).set i (rowO (3+i) di.2.2.2.length di)=R at *
 have hRl:R.length=l.length:=by rw [← hR,List.length_set,List.length_map]
 have hRi:R[i]?=some (rowO (3+i) di.2.2.2.length di):=by rw [← hR,List.getElem?_set_self (by rw [List.length_map]; exact hil)]
 have gm:R.getD i .dead=.agg [vi di.1,vu di.2.1,vi di.2.2.1,.own 18 (3+i) 1 0 di.2.2.2.length none]:=by
  rw [List.getD_eq_getElem?_getD,hRi]; rfl
 simp only [hO2,hilI,hi0,hil,hRl,gm,irr,beq_self_eq_true,go,go1,opOk,opRes,owed_true,branch_true,branch_false,popTo,St.ev,St.put,binV,arith,shifts,unV,bndV,bndOk,isInt,isStr,intOf',strOf,rowAt,blkEs,slotIs,ldv,stv,fillV,partsV,mmV,mmGo,elems,PV.cells,PV.isAgg,PV.stor,Value.oneCell',Option.isSome_some,Option.getD_some,Option.map_some,Option.map_none,if_true,if_false,ite_true,ite_false,and_self,and_true,true_and,reduceCtorEq,true_or,or_true,List.set_cons_zero,List.set_cons_succ,List.getD_cons_zero,List.getD_cons_succ,List.getElem?_cons_zero,List.getElem?_cons_succ,List.map_cons,List.map_nil,List.length_map,List.length_cons,List.length_nil,List.length_set,List.cons_append,List.nil_append,List.drop_zero,List.drop_succ_cons,List.drop_nil,List.take_zero,List.take_succ_cons,List.take_nil,List.range_succ,List.range_zero,Nat.reduceAdd,Nat.reduceSub,Nat.reduceMul,Nat.reduceLT,Nat.reduceLeDiff,Nat.reduceEqDiff,Nat.zero_add,Nat.add_zero,Nat.lt_add_one,Int.reduceToNat,Int.toNat_natCast,Int.natCast_nonneg,Bool.not_true,Bool.not_false,decide_true,decide_false,Bool.true_eq_false,Bool.false_eq_true]
 have hbl:di.2.2.2.length≤1000:=(hb di (List.mem_of_getElem? hi)).2
 have hlen:(byP di).length=di.2.2.2.length:=by unfold byP; rw [List.length_map]
 refine called_g (gcall_borrow (b:=18) (s:=3+i) (es:=byP di) rfl (r:=.tup [vi k,vb false]) ?_ rfl) ?_
 ·have e:([.own 18 (3+i) 1 0 di.2.2.2.length none,vi by']:List PV).map (frz (3+i) (byP di))=[.sl false (byP di),vi by']:=by
   simp only [List.map_cons,List.map_nil,frz,if_true,Nat.zero_add,hlen,Nat.le_refl,List.drop_zero]
   rw [← hlen,List.take_length]
   rfl
  rw [e]; exact h35
 simp only [hO2,hilI,hi0,hil,hRl,gm,irr,beq_self_eq_true,List.mem_singleton,forall_eq,List.mem_cons,List.not_mem_nil,or_false,List.foldl_cons,List.foldl_nil,go,go1,opOk,opRes,owed_true,branch_true,branch_false,popTo,St.ev,St.put,binV,arith,shifts,unV,bndV,bndOk,isInt,isStr,intOf',strOf,rowAt,blkEs,slotIs,ldv,stv,fillV,partsV,mmV,mmGo,elems,PV.cells,PV.isAgg,PV.stor,Value.oneCell',Option.isSome_some,Option.getD_some,Option.map_some,Option.map_none,if_true,if_false,ite_true,ite_false,and_self,and_true,true_and,reduceCtorEq,true_or,or_true,List.set_cons_zero,List.set_cons_succ,List.getD_cons_zero,List.getD_cons_succ,List.getElem?_cons_zero,List.getElem?_cons_succ,List.map_cons,List.map_nil,List.length_map,List.length_cons,List.length_nil,List.length_set,List.cons_append,List.nil_append,List.drop_zero,List.drop_succ_cons,List.drop_nil,List.take_zero,List.take_succ_cons,List.take_nil,List.range_succ,List.range_zero,Nat.reduceAdd,Nat.reduceSub,Nat.reduceMul,Nat.reduceLT,Nat.reduceLeDiff,Nat.reduceEqDiff,Nat.zero_add,Nat.add_zero,Nat.lt_add_one,Int.reduceToNat,Int.toNat_natCast,Int.natCast_nonneg,Bool.not_true,Bool.not_false,decide_true,decide_false,Bool.true_eq_false,Bool.false_eq_true]
 rw [← hlen]
 refine called_ins (ys:=[vi by']) (i:=k) insF36 rfl (by show 10 < 20; decide) (by decide) (by rw [hlen]; exact hk) byP_cells (byP_closed _) (by simp) (fun e he=>by rw [List.mem_singleton] at he; subst he; rfl) rfl (by simp [hlen]; omega) ?_
 generalize hes:(byP di).take k++[vi by']++(byP di).drop k=es
 simp only [hO2,hilI,hi0,hil,hRl,gm,irr,go,go1,opOk,opRes,owed_true,branch_true,branch_false,popTo,St.ev,St.put,binV,arith,shifts,unV,bndV,bndOk,isInt,isStr,intOf',strOf,rowAt,blkEs,slotIs,ldv,stv,fillV,partsV,mmV,mmGo,elems,PV.cells,PV.isAgg,PV.stor,Value.oneCell',Option.isSome_some,Option.getD_some,Option.map_some,Option.map_none,if_true,if_false,ite_true,ite_false,and_self,and_true,true_and,reduceCtorEq,true_or,or_true,List.set_cons_zero,List.set_cons_succ,List.getD_cons_zero,List.getD_cons_succ,List.getElem?_cons_zero,List.getElem?_cons_succ,List.map_cons,List.map_nil,List.length_map,List.length_cons,List.length_nil,List.length_set,List.cons_append,List.nil_append,List.drop_zero,List.drop_succ_cons,List.drop_nil,List.take_zero,List.take_succ_cons,List.take_nil,List.range_succ,List.range_zero,Nat.reduceAdd,Nat.reduceSub,Nat.reduceMul,Nat.reduceLT,Nat.reduceLeDiff,Nat.reduceEqDiff,Nat.zero_add,Nat.add_zero,Nat.lt_add_one,Int.reduceToNat,Int.toNat_natCast,Int.natCast_nonneg,Bool.not_true,Bool.not_false,decide_true,decide_false,Bool.true_eq_false,Bool.false_eq_true]
 have hR2:∀ X,R.set i X=(l.map rowP).set i X:=by intro X; rw [← hR,List.set_set]
 have hel:(byP di).length+1=es.length:=by
  rw [← hes]
  simp only [List.length_append,List.length_take,List.length_drop,List.length_cons,List.length_nil]
  omega
 rw [hR2,hel]
 refine ended_weak (((Weak.keep _ [10,11] [10,16]).trans (Weak.freeze _ 10)).trans (Weak.freeze _ 16)) ?_
 refine (congrArg (fun st:St=>resV ((st.freeze 10).freeze 16) [10,11]) ?_).trans (raise_end (t:=[]) (l:=l) (i:=i) (di:=di) (es:=es) (L:=l.length) rfl)
 simp [St.keep,keepT,keepS]
end Go.Proofs.Yticljphbbdnomaa.VL
end
section
namespace Go.Proofs.Yticljphbbdnomaa.VL
open Go
set_option linter.unusedSectionVars false
variable [Val]
def F36:DT ((.co (.v (.sl (.i .i64))) (.co (.v (.i .i64)) (.co (.v (.sl (.i .i64))) .no))):Fm).den→Option (DT (.v (.sl (.i .i64)):Fm).den):=fun _=>none
def pe36:PE:=⟨36,(.co (.v (.sl (.i .i64))) (.co (.v (.i .i64)) (.co (.v (.sl (.i .i64))) .no))),.v (.sl (.i .i64)),F36⟩
theorem pe36_ok:pe36.ok Try.prog:=⟨rfl,rfl,rfl,rfl,rfl,fun v y h=>by cases h⟩
end Go.Proofs.Yticljphbbdnomaa.VL
end
section
namespace Go.Proofs.Yticljphbbdnomaa.VL
open Go
set_option maxRecDepth 100000
set_option linter.unusedVariables false
set_option linter.unusedSectionVars false
variable [Val]
noncomputable section


def xf13x:FX:=⟨(.seq (.reg [(xi 10 (.mov (.c (.sl true [])))),(xi 11 (.mov (.c (.v (.int .i64 0)))))]) (.seq (.cut ⟨[10,11,18,19,20,21,22,23,24,25,26,27,28,29,30,31,32,33,34,35,36],[],⟨[],[],[]⟩⟩ (.seq (.cutN ⟨[18,19,20,21,22,23,24,25,26,27,28,29,30,31,32,33,34,35],[],⟨[],[(35,.v .b)],[]⟩⟩ (.reg [(xm 18 0),(xi 19 (.call 0 14 [(.t 18)])),(xi 20 (.bin .neq (.t 19) (.c (.v (.int .i64 0))))),(xm 21 20),(xg 22 (.mov (.t 1)) 21 false),(xg 23 (.call 1 32 [(.t 22)]) 21 false),(xg 24 (.un .not (.t 23)) 21 false),(xi 25 (.pick (.t 21) (.c (.v (.bool true))) (.t 24))),(xm 26 25),(xg 27 (.mov (.t 3)) 26 false),(xg 28 (.call 2 32 [(.t 27)]) 26 false),(xg 29 (.un .not (.t 28)) 26 false),(xi 30 (.pick (.t 26) (.c (.v (.bool true))) (.t 29))),(xm 31 30),(xg 32 (.mov (.t 4)) 31 false),(xg 33 (.call 3 33 [(.t 32)]) 31 false),(xg 34 (.un .not (.t 33)) 31 false),(xi 35 (.pick (.t 31) (.c (.v (.bool true))) (.t 34)))])) (.cond (.t 35) (.seq (.reg [(xm 36 0),(xm 10 36),(xi 11 (.mov (.c (.v (.int .i64 1)))))]) .ret) .skip))) (.seq (.reg [(xm 38 0),(xm 39 1),(xi 40 (.call 4 34 [(.t 38),(.t 39)])),(xm 37 40),(xi 41 (.ext (.t 37) 0)),(xi 42 (.ext (.t 37) 1)),(xm 12 41),(xm 13 42)]) (.seq (.cutN ⟨[14,43,44,45,46,47,48],[5],⟨[],[(14,.ptr 5 0)],[⟨5,.row (.v (.p (.i .i64) (.p (.i .u64) (.p (.i .i64) (.sl (.i .i64)))))),false⟩]⟩⟩ (.reg [(xm 43 1),(xm 44 2),(xm 45 4),(xm 46 3),(xi 47 (.bsl 1 (.v (.int .i64 0)) 1 [(0,(.t 46))])),(xi 48 (.bld [(.v (.int .i64 0)),(.v (.int .u64 0)),(.v (.int .i64 0)),(.sl true [])] [(0,1,(.t 43)),(1,1,(.t 44)),(2,1,(.t 45)),(3,1,(.t 47))])),(xi 14 (.alloc 5 (.agg [(.v (.int .i64 0)),(.v (.int .u64 0)),(.v (.int .i64 0)),(.sl true [])]))),(xz (.store 4 (.t 14) (.t 48)))])) (.seq (.reg [(xm 49 0),(xi 50 (.call 6 30 [(.t 49)])),(xm 15 50)]) (.seq (.blk 0 (.seq (.reg [(xm 52 13),(xi 53 (.un .not (.t 52))),(xm 51 53)]) (.cond (.t 51) (.rdr [(xm 54 15),(xm 55 12),(xm 56 12),(xi 57 (.slc 4 (.t 54) none (some (.t 55)) (some (.t 56)))),(xi 58 (.load true 4 (.t 14))),(xi 59 (.bsl 4 (.agg [(.v (.int .i64 0)),(.v (.int .u64 0)),(.v (.int .i64 0)),(.sl true [])]) 1 [(0,(.t 58))])),⟨⟨(some 60),(.app 7 4 48 (.agg [(.v (.int .i64 0)),(.v (.int .u64 0)),(.v (.int .i64 0)),(.sl true [])]) (.t 57) (.t 59)),none⟩,(.p (.i .i64) (.p (.i .u64) (.p (.i .i64) (.sl (.i .i64))))),[],[]⟩,(xm 61 15),(xm 62 12),(xi 63 (.slc 4 (.t 61) (some (.t 62)) none none)),⟨⟨(some 64),(.app 8 4 48 (.agg [(.v (.int .i64 0)),(.v (.int .u64 0)),(.v (.int .i64 0)),(.sl true [])]) (.t 60) (.t 63)),none⟩,(.p (.i .i64) (.p (.i .u64) (.p (.i .i64) (.sl (.i .i64))))),[],[]⟩,(xm 15 64)]) (.seq (.reg [(xm 66 15),(xm 67 12),(xi 68 (.iad 4 (.t 66) (.t 67))),(xi 69 (.fad 1 (.t 68))),(xi 70 (.load false 1 (.t 69))),(xm 71 2),(xi 72 (.bin .lss (.t 70) (.t 71))),(xm 65 72)]) (.cond (.t 65) (.reg [(xm 73 15),(xm 74 12),(xi 75 (.load true 4 (.t 14))),(xi 76 (.iad 4 (.t 73) (.t 74))),(xz (.store 4 (.t 76) (.t 75)))]) (.seq (.reg [(xm 78 15),(xm 79 12),(xi 80 (.iad 4 (.t 78) (.t 79))),(xi 81 (.fad 1 (.t 80))),(xi 82 (.load false 1 (.t 81))),(xm 83 2),(xi 84 (.bin .eql (.t 82) (.t 83))),(xm 77 84)]) (.cond (.t 77) (.seq (.reg [(xm 86 15),(xm 87 12),(xi 88 (.iad 4 (.t 86) (.t 87))),(xi 89 (.fad 3 (.t 88))),(xi 90 (.load false 1 (.t 89))),(xm 91 3),(xi 92 (.call 9 35 [(.t 90),(.t 91)])),(xm 85 92),(xi 93 (.ext (.t 85) 0)),(xi 94 (.ext (.t 85) 1)),(xm 16 93),(xm 17 94)]) (.seq (.reg [(xm 95 17),(xi 96 (.un .not (.t 95)))]) (.cond (.t 96) (.reg [(xm 97 15),(xm 98 12),(xm 99 15),(xm 100 12),(xi 101 (.iad 4 (.t 99) (.t 100))),(xi 102 (.fad 3 (.t 101))),(xi 103 (.load false 1 (.t 102))),(xm 104 16),(xm 105 3),(xi 106 (.bsl 1 (.v (.int .i64 0)) 1 [(0,(.t 105))])),(xi 107 (.call 10 36 [(.t 103),(.t 104),(.t 106)])),(xi 108 (.iad 4 (.t 97) (.t 98))),(xi 109 (.fad 3 (.t 108))),(xz (.store 1 (.t 109) (.t 107)))]) .skip))) .skip))))))) (.seq (.reg [(xm 110 15),(xm 10 110),(xi 11 (.mov (.c (.v (.int .i64 0)))))]) .ret))))))),[19,23,28,33,40,14,50,60,64,92,107],111,[.t 10,.t 11],20⟩
theorem xf13x_ok:xf13x.ok Try.prog 13:=⟨_,_,Try.func13,rfl,by kernel_rfl,rfl,by kernel_rfl,rfl,by kernel_rfl,by kernel_rfl⟩
def ff30x:FX:=⟨(.seq (.reg [(xi 2 (.mov (.c (.sl true []))))]) (.seq (.reg [(xm 6 0),(xi 7 (.call 0 46 [(.t 6)])),(xm 3 7)]) (.seq (.seq (.reg [(xm 8 3),(xi 9 (.len (.t 8))),(xi 10 (.mov (.c (.v (.int .i64 0)))))]) (.blk 0 (.loop ⟨[4,5,10,11,12,13,14,15,16,17,18,19,20,21,22],[13,16,18,19],⟨[],[(10,.v (.i .i64))],[⟨16,.rows (.p (.i .i64) (.p (.i .u64) (.p (.i .i64) (.sl (.i .i64))))) 4,true⟩]⟩⟩ (.seq (.reg [(xi 11 (.bin .lss (.t 10) (.t 9)))]) (.seq (.cond (.t 11) .skip (.exit 0)) (.seq (.blk 1 (.seq (.reg [(xm 12 10),(xi 13 (.iad 4 (.t 8) (.t 10))),(xi 14 (.load true 4 (.t 13))),(xi 5 (.alloc 1 (.agg [(.v (.int .i64 0)),(.v (.int .u64 0)),(.v (.int .i64 0)),(.sl true [])]))),(xm 4 12),(xz (.store 4 (.t 5) (.t 14)))]) (.reg [(xm 15 3),(xm 16 4),(xi 17 (.fad 3 (.t 5))),(xi 18 (.load false 1 (.t 17))),(xi 19 (.call 2 47 [(.t 18)])),(xi 20 (.iad 4 (.t 15) (.t 16))),(xi 21 (.fad 3 (.t 20))),⟨⟨none,(.store 1 (.t 21) (.t 19)),none⟩,.b,[19],[]⟩]))) (.reg [(xi 22 (.bin .add (.t 10) (.c (.v (.int .i64 1))))),(xm 10 22)]))))))) (.seq (.reg [(xm 23 3),(xm 2 23)]) .ret)))),[7,5,19],24,[.t 2],4⟩
theorem ff30x_ok:ff30x.ok Try.prog 30:=⟨_,_,Try.func30,rfl,by kernel_rfl,rfl,by kernel_rfl,rfl,by kernel_rfl,by kernel_rfl⟩
def ff46x:FX:=⟨(.seq (.reg [(xi 2 (.mov (.c (.sl true []))))]) (.seq (.seq (.reg [(xm 3 0),(xi 4 (.nilq false (.t 3)))]) (.cond (.t 4) (.seq (.reg [(xi 2 (.mov (.c (.sl true []))))]) .ret) .skip)) (.seq (.reg [(xi 5 (.bsl 4 (.agg [(.v (.int .i64 0)),(.v (.int .u64 0)),(.v (.int .i64 0)),(.sl true [])]) 0 [])),(xm 6 0),⟨⟨(some 7),(.app 0 4 48 (.agg [(.v (.int .i64 0)),(.v (.int .u64 0)),(.v (.int .i64 0)),(.sl true [])]) (.t 5) (.t 6)),none⟩,(.p (.i .i64) (.p (.i .u64) (.p (.i .i64) (.sl (.i .i64))))),[],[]⟩,(xm 2 7)]) .ret))),[7],8,[.t 2],2⟩
theorem ff46x_ok:ff46x.ok Try.prog 46:=⟨_,_,Try.func46,rfl,by kernel_rfl,rfl,by kernel_rfl,rfl,by kernel_rfl,by kernel_rfl⟩
def ff47x:FX:=⟨(.seq (.reg [(xi 2 (.mov (.c (.sl true []))))]) (.seq (.seq (.reg [(xm 3 0),(xi 4 (.nilq false (.t 3)))]) (.cond (.t 4) (.seq (.reg [(xi 2 (.mov (.c (.sl true []))))]) .ret) .skip)) (.seq (.reg [(xi 5 (.bsl 1 (.v (.int .i64 0)) 0 [])),(xm 6 0),⟨⟨(some 7),(.app 0 1 8 (.v (.int .i64 0)) (.t 5) (.t 6)),none⟩,(.i .i64),[],[]⟩,(xm 2 7)]) .ret))),[7],8,[.t 2],2⟩
theorem ff47x_ok:ff47x.ok Try.prog 47:=⟨_,_,Try.func47,rfl,by kernel_rfl,rfl,by kernel_rfl,rfl,by kernel_rfl,by kernel_rfl⟩
def tb13x:List PE:=[pe14,pe32,pe33,pe34,pe35,pe36]
theorem tb13x_ok:PEsOk Try.prog tb13x:=⟨pe14_ok,pe32_ok,pe33_ok,pe34_ok,pe35_ok,pe36_ok,trivial⟩
def ex13x:List EX:=[]
theorem ex13x_ok:EXsOk Try.prog ex13x:=trivial
def in13x:List IN:=[⟨6,30,12,ff30x,some ⟨[0,1,2,3,4,5,6,7,8,9,10,11,12,13,14,15,16,17,18,19,20,21,22,23],[12,13,14,15,16,17,18,19],⟨[],[(2,.ow 16 4)],[⟨16,.rows (.p (.i .i64) (.p (.i .u64) (.p (.i .i64) (.sl (.i .i64))))) 4,false⟩]⟩⟩⟩,⟨12,46,16,ff46x,some ⟨[0,1,2,3,4,5,6,7],[16,17],⟨[],[(2,.ow 16 4)],[⟨16,.rows (.p (.i .i64) (.p (.i .u64) (.p (.i .i64) (.sl (.i .i64))))) 4,false⟩]⟩⟩⟩,⟨14,47,18,ff47x,some ⟨[0,1,2,3,4,5,6,7],[18,19],⟨[],[(2,.ow 18 1)],[⟨18,.rows (.i .i64) 1,false⟩]⟩⟩⟩]
theorem in13x_ok:INsOk Try.prog in13x:=⟨ff30x_ok,ff46x_ok,ff47x_ok,trivial⟩
def F13x:DT ((.co (.v (.sl (.p (.i .i64) (.p (.i .u64) (.p (.i .i64) (.sl (.i .i64))))))) (.co (.v (.i .i64)) (.co (.v (.i .u64)) (.co (.v (.i .i64)) (.co (.v (.i .i64)) .no))))):Fm).den→Option (DT (.tup (.co (.v (.sl (.p (.i .i64) (.p (.i .u64) (.p (.i .i64) (.sl (.i .i64))))))) (.co (.v (.i .i64)) .no)):Fm).den):=pureT tb13x ex13x in13x 9 xf13x _ _ [7,16]
def pe13x:PE:=⟨13,(.co (.v (.sl (.p (.i .i64) (.p (.i .u64) (.p (.i .i64) (.sl (.i .i64))))))) (.co (.v (.i .i64)) (.co (.v (.i .u64)) (.co (.v (.i .i64)) (.co (.v (.i .i64)) .no))))),.tup (.co (.v (.sl (.p (.i .i64) (.p (.i .u64) (.p (.i .i64) (.sl (.i .i64))))))) (.co (.v (.i .i64)) .no)),F13x⟩
theorem pe13x_ok:pe13x.ok Try.prog:=pe_of hm tb13x_ok ex13x_ok in13x_ok xf13x_ok (by kernel_rfl) (fun _=>rfl)
end
end Go.Proofs.Yticljphbbdnomaa.VL
end
section
namespace Go.Proofs.Yticljphbbdnomaa.VL
open Go
set_option maxRecDepth 100000
set_option linter.unusedVariables false
set_option linter.unusedSectionVars false
variable [Val]
theorem F13x_eq (v:((List (Int×(Int×(Int×(List Int)))))×(Int×(Int×(Int×Int))))):F13x v=(joinX (Option.bind (Option.bind (F14 v.1) (fun (v0:Int)=>(cond (v0 != (0:Int)) (some true) (Option.bind (F32 v.2.1) (fun (v1:Bool)=>(cond (!v1) (some true) (Option.bind (F32 v.2.2.2.1) (fun (v2:Bool)=>(cond (!v2) (some true) (Option.bind (F33 v.2.2.2.2) (fun (v3:Bool)=>(some (!v3))))))))))))) (fun (v4:Bool)=>(cond v4 (some (.inr (v.1,(1:Int)))) (some (.inl ()))))) (fun (v5:Unit)=>(Option.bind (F34 (v.1,v.2.1)) (fun (v6:(Int×Bool))=>(Option.bind (Option.bind (bothX (List.isEmpty v.1) (some []) (cond ((decide ((((v.1.length:Nat):Int) * (48:Int))≤(70368744177664:Int)))&&(decide (((v.1.length:Nat):Int)≤(70368744177664:Int)))) (cond (decide (v.1.length=v.1.length)) (some v.1) none) none)) (fun (v7:(List (Int×(Int×(Int×(List Int))))))=>(loopX (fun (v8:(Int×(List (Int×(Int×(Int×(List Int)))))))=>(cond (decide (v8.1 < ((v7.length:Nat):Int))) (cond ((decide ((0:Int)≤v8.1))&&(decide (v8.1 < ((v7.length:Nat):Int)))) (Option.bind v8.2[(0+(Int.toNat v8.1))]? (fun (v9:(Int×(Int×(Int×(List Int)))))=>(Option.bind (bothX (List.isEmpty v9.2.2.2) (some []) (cond ((decide ((((v9.2.2.2.length:Nat):Int) * (8:Int))≤(70368744177664:Int)))&&(decide (((v9.2.2.2.length:Nat):Int)≤(70368744177664:Int)))) (cond (decide (v9.2.2.2.length=v9.2.2.2.length)) (some v9.2.2.2) none) none)) (fun (v10:(List Int))=>(cond ((decide ((0:Int)≤v8.1))&&(decide (v8.1 < ((v7.length:Nat):Int)))) (cond (decide ((0+v10.length)≤v10.length)) (Option.bind v8.2[(0+(Int.toNat v8.1))]? (fun (v11:(Int×(Int×(Int×(List Int)))))=>(some (.inl ((IntKind.wrap IntKind.i64 (v8.1+(1:Int))),(List.set v8.2 (0+(Int.toNat v8.1)) (v11.1,v11.2.1,v11.2.2.1,(List.take v10.length v10)))))))) none) none))))) none) (Option.map (Sum.inr) (cond (decide (v7.length=v8.2.length)) (some v8.2) none)))) ((0:Int),v7)))) (fun (v12:(List (Int×(Int×(Int×(List Int))))))=>(cond (!v6.2) (cond (((decide ((0:Int)≤v6.1))&&(decide (v6.1≤((v12.length:Nat):Int))))&&((decide (v6.1≤v6.1))&&(decide (v6.1≤((v12.length:Nat):Int))))) (cond ((decide ((0+(Int.toNat v6.1))≤v12.length))&&((decide ((((((Int.toNat v6.1)+1):Nat):Int) * (48:Int))≤(70368744177664:Int)))&&(decide (((((Int.toNat v6.1)+1):Nat):Int)≤(70368744177664:Int))))) (cond (decide (((Int.toNat v6.1)+1)≤(Int.toNat v6.1))) (cond (decide (((0+(Int.toNat v6.1))+1)≤v12.length)) (cond (((decide ((0:Int)≤v6.1))&&(decide (v6.1≤((v12.length:Nat):Int))))&&true) (cond (decide (((0+(Int.toNat v6.1))+(v12.length - (Int.toNat v6.1)))≤(Append.append (Append.append (List.take (0+(Int.toNat v6.1)) v12) ((v.2.1,v.2.2.1,v.2.2.2.2,(v.2.2.2.1::[]))::[])) (List.drop ((0+(Int.toNat v6.1))+1) v12)).length)) (cond ((decide ((0+((Int.toNat v6.1)+1))≤(Append.append (Append.append (List.take (0+(Int.toNat v6.1)) v12) ((v.2.1,v.2.2.1,v.2.2.2.2,(v.2.2.2.1::[]))::[])) (List.drop ((0+(Int.toNat v6.1))+1) v12)).length))&&((decide (((((((Int.toNat v6.1)+1)+(List.take (v12.length - (Int.toNat v6.1)) (List.drop (0+(Int.toNat v6.1)) (Append.append (Append.append (List.take (0+(Int.toNat v6.1)) v12) ((v.2.1,v.2.2.1,v.2.2.2.2,(v.2.2.2.1::[]))::[])) (List.drop ((0+(Int.toNat v6.1))+1) v12)))).length):Nat):Int) * (48:Int))≤(70368744177664:Int)))&&(decide ((((((Int.toNat v6.1)+1)+(List.take (v12.length - (Int.toNat v6.1)) (List.drop (0+(Int.toNat v6.1)) (Append.append (Append.append (List.take (0+(Int.toNat v6.1)) v12) ((v.2.1,v.2.2.1,v.2.2.2.2,(v.2.2.2.1::[]))::[])) (List.drop ((0+(Int.toNat v6.1))+1) v12)))).length):Nat):Int)≤(70368744177664:Int))))) (cond (decide ((((Int.toNat v6.1)+1)+(List.take (v12.length - (Int.toNat v6.1)) (List.drop (0+(Int.toNat v6.1)) (Append.append (Append.append (List.take (0+(Int.toNat v6.1)) v12) ((v.2.1,v.2.2.1,v.2.2.2.2,(v.2.2.2.1::[]))::[])) (List.drop ((0+(Int.toNat v6.1))+1) v12)))).length)≤(Int.toNat v6.1))) (cond (decide (((0+((Int.toNat v6.1)+1))+(List.take (v12.length - (Int.toNat v6.1)) (List.drop (0+(Int.toNat v6.1)) (Append.append (Append.append (List.take (0+(Int.toNat v6.1)) v12) ((v.2.1,v.2.2.1,v.2.2.2.2,(v.2.2.2.1::[]))::[])) (List.drop ((0+(Int.toNat v6.1))+1) v12)))).length)≤(Append.append (Append.append (List.take (0+(Int.toNat v6.1)) v12) ((v.2.1,v.2.2.1,v.2.2.2.2,(v.2.2.2.1::[]))::[])) (List.drop ((0+(Int.toNat v6.1))+1) v12)).length)) (cond (decide ((0+(((Int.toNat v6.1)+1)+(List.take (v12.length - (Int.toNat v6.1)) (List.drop (0+(Int.toNat v6.1)) (Append.append (Append.append (List.take (0+(Int.toNat v6.1)) v12) ((v.2.1,v.2.2.1,v.2.2.2.2,(v.2.2.2.1::[]))::[])) (List.drop ((0+(Int.toNat v6.1))+1) v12)))).length))≤(Append.append (Append.append (List.take (0+((Int.toNat v6.1)+1)) (Append.append (Append.append (List.take (0+(Int.toNat v6.1)) v12) ((v.2.1,v.2.2.1,v.2.2.2.2,(v.2.2.2.1::[]))::[])) (List.drop ((0+(Int.toNat v6.1))+1) v12))) (List.take (v12.length - (Int.toNat v6.1)) (List.drop (0+(Int.toNat v6.1)) (Append.append (Append.append (List.take (0+(Int.toNat v6.1)) v12) ((v.2.1,v.2.2.1,v.2.2.2.2,(v.2.2.2.1::[]))::[])) (List.drop ((0+(Int.toNat v6.1))+1) v12))))) (List.drop ((0+((Int.toNat v6.1)+1))+(List.take (v12.length - (Int.toNat v6.1)) (List.drop (0+(Int.toNat v6.1)) (Append.append (Append.append (List.take (0+(Int.toNat v6.1)) v12) ((v.2.1,v.2.2.1,v.2.2.2.2,(v.2.2.2.1::[]))::[])) (List.drop ((0+(Int.toNat v6.1))+1) v12)))).length) (Append.append (Append.append (List.take (0+(Int.toNat v6.1)) v12) ((v.2.1,v.2.2.1,v.2.2.2.2,(v.2.2.2.1::[]))::[])) (List.drop ((0+(Int.toNat v6.1))+1) v12)))).length)) (some ((List.take (((Int.toNat v6.1)+1)+(List.take (v12.length - (Int.toNat v6.1)) (List.drop (0+(Int.toNat v6.1)) (Append.append (Append.append (List.take (0+(Int.toNat v6.1)) v12) ((v.2.1,v.2.2.1,v.2.2.2.2,(v.2.2.2.1::[]))::[])) (List.drop ((0+(Int.toNat v6.1))+1) v12)))).length) (Append.append (Append.append (List.take (0+((Int.toNat v6.1)+1)) (Append.append (Append.append (List.take (0+(Int.toNat v6.1)) v12) ((v.2.1,v.2.2.1,v.2.2.2.2,(v.2.2.2.1::[]))::[])) (List.drop ((0+(Int.toNat v6.1))+1) v12))) (List.take (v12.length - (Int.toNat v6.1)) (List.drop (0+(Int.toNat v6.1)) (Append.append (Append.append (List.take (0+(Int.toNat v6.1)) v12) ((v.2.1,v.2.2.1,v.2.2.2.2,(v.2.2.2.1::[]))::[])) (List.drop ((0+(Int.toNat v6.1))+1) v12))))) (List.drop ((0+((Int.toNat v6.1)+1))+(List.take (v12.length - (Int.toNat v6.1)) (List.drop (0+(Int.toNat v6.1)) (Append.append (Append.append (List.take (0+(Int.toNat v6.1)) v12) ((v.2.1,v.2.2.1,v.2.2.2.2,(v.2.2.2.1::[]))::[])) (List.drop ((0+(Int.toNat v6.1))+1) v12)))).length) (Append.append (Append.append (List.take (0+(Int.toNat v6.1)) v12) ((v.2.1,v.2.2.1,v.2.2.2.2,(v.2.2.2.1::[]))::[])) (List.drop ((0+(Int.toNat v6.1))+1) v12))))),(0:Int))) none) none) none) none) none) none) none) (cond (((decide ((0:Int)≤v6.1))&&(decide (v6.1≤((v12.length:Nat):Int))))&&true) (cond (decide (((0+(Int.toNat v6.1))+(v12.length - (Int.toNat v6.1)))≤v12.length)) (cond ((decide ((0+((Int.toNat v6.1)+1))≤(Append.append (List.take (Int.toNat v6.1) v12) ((v.2.1,v.2.2.1,v.2.2.2.2,(v.2.2.2.1::[]))::[])).length))&&((decide (((((((Int.toNat v6.1)+1)+(List.take (v12.length - (Int.toNat v6.1)) (List.drop (0+(Int.toNat v6.1)) v12)).length):Nat):Int) * (48:Int))≤(70368744177664:Int)))&&(decide ((((((Int.toNat v6.1)+1)+(List.take (v12.length - (Int.toNat v6.1)) (List.drop (0+(Int.toNat v6.1)) v12)).length):Nat):Int)≤(70368744177664:Int))))) (cond (decide (((0+((Int.toNat v6.1)+1))+(List.take (v12.length - (Int.toNat v6.1)) (List.drop (0+(Int.toNat v6.1)) v12)).length)≤(Append.append (List.take (Int.toNat v6.1) v12) ((v.2.1,v.2.2.1,v.2.2.2.2,(v.2.2.2.1::[]))::[])).length)) (cond (decide ((0+(((Int.toNat v6.1)+1)+(List.take (v12.length - (Int.toNat v6.1)) (List.drop (0+(Int.toNat v6.1)) v12)).length))≤(Append.append (Append.append (List.take (0+((Int.toNat v6.1)+1)) (Append.append (List.take (Int.toNat v6.1) v12) ((v.2.1,v.2.2.1,v.2.2.2.2,(v.2.2.2.1::[]))::[]))) (List.take (v12.length - (Int.toNat v6.1)) (List.drop (0+(Int.toNat v6.1)) v12))) (List.drop ((0+((Int.toNat v6.1)+1))+(List.take (v12.length - (Int.toNat v6.1)) (List.drop (0+(Int.toNat v6.1)) v12)).length) (Append.append (List.take (Int.toNat v6.1) v12) ((v.2.1,v.2.2.1,v.2.2.2.2,(v.2.2.2.1::[]))::[])))).length)) (some ((List.take (((Int.toNat v6.1)+1)+(List.take (v12.length - (Int.toNat v6.1)) (List.drop (0+(Int.toNat v6.1)) v12)).length) (Append.append (Append.append (List.take (0+((Int.toNat v6.1)+1)) (Append.append (List.take (Int.toNat v6.1) v12) ((v.2.1,v.2.2.1,v.2.2.2.2,(v.2.2.2.1::[]))::[]))) (List.take (v12.length - (Int.toNat v6.1)) (List.drop (0+(Int.toNat v6.1)) v12))) (List.drop ((0+((Int.toNat v6.1)+1))+(List.take (v12.length - (Int.toNat v6.1)) (List.drop (0+(Int.toNat v6.1)) v12)).length) (Append.append (List.take (Int.toNat v6.1) v12) ((v.2.1,v.2.2.1,v.2.2.2.2,(v.2.2.2.1::[]))::[]))))),(0:Int))) none) (cond (decide ((0+(((Int.toNat v6.1)+1)+(List.take (v12.length - (Int.toNat v6.1)) (List.drop (0+(Int.toNat v6.1)) v12)).length))≤(Append.append (List.take ((Int.toNat v6.1)+1) (Append.append (List.take (Int.toNat v6.1) v12) ((v.2.1,v.2.2.1,v.2.2.2.2,(v.2.2.2.1::[]))::[]))) (List.take (v12.length - (Int.toNat v6.1)) (List.drop (0+(Int.toNat v6.1)) v12))).length)) (some ((List.take (((Int.toNat v6.1)+1)+(List.take (v12.length - (Int.toNat v6.1)) (List.drop (0+(Int.toNat v6.1)) v12)).length) (Append.append (List.take ((Int.toNat v6.1)+1) (Append.append (List.take (Int.toNat v6.1) v12) ((v.2.1,v.2.2.1,v.2.2.2.2,(v.2.2.2.1::[]))::[]))) (List.take (v12.length - (Int.toNat v6.1)) (List.drop (0+(Int.toNat v6.1)) v12)))),(0:Int))) none)) none) none) none)) none) none) (cond ((decide ((0:Int)≤v6.1))&&(decide (v6.1 < ((v12.length:Nat):Int)))) (Option.bind v12[(0+(Int.toNat v6.1))]? (fun (v13:(Int×(Int×(Int×(List Int)))))=>(cond (decide (v13.2.1 < v.2.2.1)) (cond ((decide ((0:Int)≤v6.1))&&(decide (v6.1 < ((v12.length:Nat):Int)))) (Option.bind v12[(0+(Int.toNat v6.1))]? (fun (v14:(Int×(Int×(Int×(List Int)))))=>(cond (decide ((0+v12.length)≤(List.set v12 (0+(Int.toNat v6.1)) (v.2.1,v.2.2.1,v.2.2.2.2,(v.2.2.2.1::[]))).length)) (some ((List.take v12.length (List.set v12 (0+(Int.toNat v6.1)) (v.2.1,v.2.2.1,v.2.2.2.2,(v.2.2.2.1::[])))),(0:Int))) none))) none) (cond ((decide ((0:Int)≤v6.1))&&(decide (v6.1 < ((v12.length:Nat):Int)))) (Option.bind v12[(0+(Int.toNat v6.1))]? (fun (v15:(Int×(Int×(Int×(List Int)))))=>(cond (v15.2.1==v.2.2.1) (cond ((decide ((0:Int)≤v6.1))&&(decide (v6.1 < ((v12.length:Nat):Int)))) (Option.bind v12[(0+(Int.toNat v6.1))]? (fun (v16:(Int×(Int×(Int×(List Int)))))=>(Option.bind (F35 (v16.2.2.2,v.2.2.2.1)) (fun (v17:(Int×Bool))=>(cond (!v17.2) (cond ((decide ((0:Int)≤v6.1))&&(decide (v6.1 < ((v12.length:Nat):Int)))) (Option.bind v12[(0+(Int.toNat v6.1))]? (fun (v18:(Int×(Int×(Int×(List Int)))))=>(Option.bind (F36 (v18.2.2.2,v17.1,(v.2.2.2.1::[]))) (fun (v19:(List Int))=>(cond ((decide ((0:Int)≤v6.1))&&(decide (v6.1 < ((v12.length:Nat):Int)))) (Option.bind v12[(0+(Int.toNat v6.1))]? (fun (v20:(Int×(Int×(Int×(List Int)))))=>(cond (decide ((0+v12.length)≤(List.set v12 (0+(Int.toNat v6.1)) (v20.1,v20.2.1,v20.2.2.1,v19)).length)) (some ((List.take v12.length (List.set v12 (0+(Int.toNat v6.1)) (v20.1,v20.2.1,v20.2.2.1,v19))),(0:Int))) none))) none))))) none) (cond (decide ((0+v12.length)≤v12.length)) (some ((List.take v12.length v12),(0:Int))) none)))))) none) (cond (decide ((0+v12.length)≤v12.length)) (some ((List.take v12.length v12),(0:Int))) none)))) none)))) none)))))))):=by kernel_rfl
end Go.Proofs.Yticljphbbdnomaa.VL
end
section
namespace Go.Proofs.Yticljphbbdnomaa.VL
open Go
set_option linter.unusedVariables false
set_option linter.unusedSimpArgs false
set_option linter.unusedSectionVars false
set_option maxRecDepth 100000
variable [Val]
theorem PE.ok.of {f:Nat} {ins outs:Fm} {F:DT ins.den→Option (DT outs.den)} (h:(⟨f,ins,outs,F⟩:PE).ok Try.prog) (v:DT ins.den) (y:DT outs.den) (hF:F v=some y):VPure Try.prog f (toPVL (expF e0 ins v)) (hdX (expF e0 outs y)).toPV:=h.h v y hF
theorem t32 {who:Int} (h32:F32 who=some true):VPure Try.prog 32 [vi who] (vb true):=PE.ok.of (F:=F32) pe32_ok who true h32
theorem t33 {who:Int} (h32:F33 who=some true):VPure Try.prog 33 [vi who] (vb true):=PE.ok.of (F:=F33) pe33_ok who true h32
theorem t14 {l:List DV} (h14:F14 l=some 0):VPure Try.prog 14 [.sl false (l.map rowP)] (vi 0):=PE.ok.of (F:=F14) pe14_ok l 0 h14
theorem t34 {l:List DV} {who i:Int} (h:F34 (l,who)=some (i,true)):VPure Try.prog 34 [.sl false (l.map rowP),vi who] (.tup [vi i,vb true]):=PE.ok.of (F:=F34) pe34_ok (l,who) (i,true) h
theorem t35 {l:List Int} {who i:Int} (h:F35 (l,who)=some (i,false)):VPure Try.prog 35 [.sl false (l.map vi),vi who] (.tup [vi i,vb false]):=PE.ok.of (F:=F35) pe35_ok (l,who) (i,false) h
theorem t13 (v:List DV×(Int×(Int×(Int×Int)))) (y:List DV×Int) (h:F13x v=some y):VPure Try.prog 13 [.sl false (v.1.map rowP),vi v.2.1,vu v.2.2.1,vi v.2.2.2.1,vi v.2.2.2.2] (.tup [.sl false (y.1.map rowP),vi y.2]):=PE.ok.of (F:=F13x) pe13x_ok v y h
theorem rowE (a b c:Int) (X:List Int):rowP (a,b,c,X)=.agg [vi a,vu b,vi c,.sl false (X.map vi)]:=rfl
theorem rowIns (l:List DV) (i:Nat) (d:DV) (k:Nat) (b:Int):(l.map rowP).set i (.agg [vi d.1,vu d.2.1,vi d.2.2.1,.sl false ((byP d).take k++[vi b]++(byP d).drop k)])=(l.set i (d.1,d.2.1,d.2.2.1,d.2.2.2.take k++[b]++d.2.2.2.drop k)).map rowP:=by
 rw [List.map_set,rowE,List.map_append,List.map_append,List.map_take,List.map_drop,List.map_cons,List.map_nil]
 rfl
noncomputable section
def orF {α:Type}:Option α→Option α→Option α
 | some a,_=>some a
 | none,b=>b
theorem orF_some {α:Type} {a b:Option α} {y:α} (h:orF a b=some y):a=some y∨b=some y:=by
 cases a with
 | some x=>exact .inl h
 | none=>exact .inr h
def F13i (l:List DV) (who inc by' now:Int):Option (List DV×Int) :=
 match F14 l,F32 who,F32 by',F33 now,F34 (l,who) with
 | some c,some a1,some a2,some a3,some (i,a4) =>
  if c=0∧a1=true∧a2=true∧a3=true∧a4=true∧0≤i∧l.length≤1000∧(∀ d ∈ l,d.2.2.2≠[]∧d.2.2.2.length≤1000) then
   match l[i.toNat]? with
   | some d=>(match F35 (d.2.2.2,by') with
    | some (k,a5)=>if a5=false∧d.2.1=inc∧0≤k∧k.toNat≤d.2.2.2.length then some (l.set i.toNat (d.1,(d.2.1,(d.2.2.1,d.2.2.2.take k.toNat++[by']++d.2.2.2.drop k.toNat))),0) else none
    | none=>none)
   | none=>none
  else none
 | _,_,_,_,_=>none
def F13:DT ((.co (.v (.sl (.p (.i .i64) (.p (.i .u64) (.p (.i .i64) (.sl (.i .i64))))))) (.co (.v (.i .i64)) (.co (.v (.i .u64)) (.co (.v (.i .i64)) (.co (.v (.i .i64)) .no))))):Fm).den→Option (DT (.tup (.co (.v (.sl (.p (.i .i64) (.p (.i .u64) (.p (.i .i64) (.sl (.i .i64))))))) (.co (.v (.i .i64)) .no)):Fm).den) :=
 fun (v:List DV×(Int×(Int×(Int×Int))))=>orF (F13x v) (F13i v.1 v.2.1 v.2.2.1 v.2.2.2.1 v.2.2.2.2)
def pe13:PE:=⟨13,(.co (.v (.sl (.p (.i .i64) (.p (.i .u64) (.p (.i .i64) (.sl (.i .i64))))))) (.co (.v (.i .i64)) (.co (.v (.i .u64)) (.co (.v (.i .i64)) (.co (.v (.i .i64)) .no))))),(.tup (.co (.v (.sl (.p (.i .i64) (.p (.i .u64) (.p (.i .i64) (.sl (.i .i64))))))) (.co (.v (.i .i64)) .no))),F13⟩
theorem F13i_ok {l:List DV} {who inc by' now:Int} {y:List DV×Int} (h:F13i l who inc by' now=some y):VPure Try.prog 13 [.sl false (l.map rowP),vi who,vu inc,vi by',vi now] (.tup [.sl false (y.1.map rowP),vi y.2]):=by
 unfold F13i at h
 split at h
 case h_2=>cases h
 rename_i c a1 a2 a3 i a4 h14 h32 h32b h33 h34
 split at h
 case isFalse=>cases h
 rename_i hc
 obtain ⟨rfl,rfl,rfl,rfl,rfl,hi0,hl,hb⟩:=hc
 split at h
 case h_2=>cases h
 rename_i d hd
 split at h
 case h_2=>cases h
 rename_i k a5 h35
 split at h
 case isFalse=>cases h
 rename_i hc
 obtain ⟨rfl,rfl,hk0,hk⟩:=hc
 have h:=Option.some.inj h
 subst h
 have ei:((i.toNat:Nat):Int)=i:=Int.toNat_of_nonneg hi0
 have ek:((k.toNat:Nat):Int)=k:=Int.toNat_of_nonneg hk0
 have q14:VPure Try.prog 14 [.sl false (l.map rowP)] (vi 0):=t14 h14
 have q32:VPure Try.prog 32 [vi who] (vb true):=t32 h32
 have q32b:VPure Try.prog 32 [vi by'] (vb true):=t32 h32b
 have q33:VPure Try.prog 33 [vi now] (vb true):=t33 h33
 have q34:VPure Try.prog 34 [.sl false (l.map rowP),vi who] (.tup [vi (i.toNat:Nat),vb true]):=by rw [ei]; exact t34 h34
 have q35:VPure Try.prog 35 [.sl false (byP d),vi by'] (.tup [vi (k.toNat:Nat),vb false]):=by rw [ek]; exact t35 h35
 have q:=raise_in (now:=now) hl hb q14 q32 q32b q33 q34 hd rfl q35 hk
 have e:=rowIns l i.toNat d k.toNat by'
 rw [e] at q
 exact q
theorem F13_h (v:List DV×(Int×(Int×(Int×Int)))) (y:List DV×Int) (h:orF (F13x v) (F13i v.1 v.2.1 v.2.2.1 v.2.2.2.1 v.2.2.2.2)=some y):VPure Try.prog 13 [.sl false (v.1.map rowP),vi v.2.1,vu v.2.2.1,vi v.2.2.2.1,vi v.2.2.2.2] (.tup [.sl false (y.1.map rowP),vi y.2]):=by
 rcases orF_some h with h | h
 ·exact t13 v y h
 ·exact F13i_ok h
theorem pe13_ok:pe13.ok Try.prog:=⟨rfl,rfl,rfl,rfl,rfl,fun v y h=>F13_h v y h⟩
end
end Go.Proofs.Yticljphbbdnomaa.VL
end
section
namespace Go.Proofs.Yticljphbbdnomaa.VL
open Go
set_option maxRecDepth 100000
set_option linter.unusedVariables false
set_option linter.unusedSectionVars false
variable [Val]
noncomputable section


def xf8:FX:=⟨(.seq (.reg [(xi 1 (.box 0 10 (.t 0))),(xi 2 (.mov (.c (.v (.bool false)))))]) (.seq (.reg [(xi 14 (.fad 0 (.t 1))),(xi 15 (.load false 1 (.t 14))),(xi 16 (.call 1 18 [(.t 15)])),(xm 3 16)]) (.seq (.reg [(xi 18 (.fad 1 (.t 1))),(xi 19 (.load true 3 (.t 18))),(xi 20 (.fad 4 (.t 1))),(xi 21 (.load false 1 (.t 20))),(xi 22 (.fad 5 (.t 1))),(xi 23 (.load false 1 (.t 22))),(xi 24 (.call 2 9 [(.t 19),(.t 21),(.t 23)])),(xm 17 24),(xi 25 (.ext (.t 17) 0)),(xi 26 (.ext (.t 17) 1)),(xm 4 25),(xm 5 26)]) (.seq (.cutN ⟨[6,27,28,29,30,31,32,33,34],[],⟨[],[(6,.v .b)],[]⟩⟩ (.reg [(xi 27 (.fad 4 (.t 1))),(xi 28 (.load false 1 (.t 27))),(xi 29 (.bin .leq (.c (.v (.int .i64 1))) (.t 28))),(xm 30 29),(xg 31 (.fad 4 (.t 1)) 30 true),(xg 32 (.load false 1 (.t 31)) 30 true),(xg 33 (.bin .leq (.t 32) (.c (.v (.int .i64 64)))) 30 true),(xi 34 (.pick (.t 30) (.t 33) (.c (.v (.bool false))))),(xm 6 34)])) (.seq (.cut ⟨[2,35,36,37,38,39,40,41,42,43,44,45,46,47,48,49,50,51,52,53,54,55,56,57,58,59,60,61,62,63,64,65,66],[],⟨[],[],[]⟩⟩ (.seq (.cutN ⟨[35,36,37,38,39,40,41,42,43,44,45,46,47],[],⟨[],[(47,.v .b)],[]⟩⟩ (.reg [(xi 35 (.fad 1 (.t 1))),(xi 36 (.load true 3 (.t 35))),(xi 37 (.call 3 10 [(.t 36)])),(xi 38 (.un .not (.t 37))),(xm 39 38),(xg 40 (.mov (.t 6)) 39 false),(xg 41 (.un .not (.t 40)) 39 false),(xi 42 (.pick (.t 39) (.c (.v (.bool true))) (.t 41))),(xm 43 42),(xg 44 (.fad 5 (.t 1)) 43 false),(xg 45 (.load false 1 (.t 44)) 43 false),(xg 46 (.bin .lss (.t 45) (.c (.v (.int .i64 0)))) 43 false),(xi 47 (.pick (.t 43) (.c (.v (.bool true))) (.t 46)))])) (.cond (.t 47) (.seq (.cutN ⟨[48,49,50,51,52,53],[],⟨[],[(53,.v .b)],[]⟩⟩ (.reg [(xm 48 4),(xi 49 (.bin .neq (.t 48) (.c (.v (.int .i64 0))))),(xm 50 49),(xg 51 (.mov (.t 5)) 50 false),(xg 52 (.bin .neq (.t 51) (.c (.v (.int .i64 1)))) 50 false),(xi 53 (.pick (.t 50) (.c (.v (.bool true))) (.t 52)))])) (.cond (.t 53) (.seq (.reg [(xi 2 (.mov (.c (.v (.bool false)))))]) .ret) .skip)) (.seq (.cutN ⟨[54,55,56,57,58,59,60,61,62,63,64,65,66],[],⟨[],[(66,.v .b)],[]⟩⟩ (.reg [(xm 54 4),(xi 55 (.fad 1 (.t 1))),(xi 56 (.load true 3 (.t 55))),(xi 57 (.fad 4 (.t 1))),(xi 58 (.load false 1 (.t 57))),(xi 59 (.fad 5 (.t 1))),(xi 60 (.load false 1 (.t 59))),(xi 61 (.call 4 21 [(.t 56),(.t 58),(.t 60)])),(xi 62 (.bin .neq (.t 54) (.t 61))),(xm 63 62),(xg 64 (.mov (.t 5)) 63 false),(xg 65 (.bin .neq (.t 64) (.c (.v (.int .i64 0)))) 63 false),(xi 66 (.pick (.t 63) (.c (.v (.bool true))) (.t 65)))])) (.cond (.t 66) (.seq (.reg [(xi 2 (.mov (.c (.v (.bool false)))))]) .ret) .skip))))) (.seq (.cut ⟨[2,67,68,69,70,71,72,73,74,75,76,77,78,79,80,81,82],[],⟨[],[],[]⟩⟩ (.seq (.cutN ⟨[67,68,69,70,71,72,73,74,75,76,77,78,79,80,81,82],[],⟨[],[(82,.v .b)],[]⟩⟩ (.dr [(5,2)] [(xi 67 (.fad 1 (.t 1))),(xi 68 (.load true 3 (.t 67))),(xi 69 (.callG 5 17 [(.t 68)])),(xi 70 (.bin .eql (.t 69) (.c (.v (.int .i64 0))))),(xi 71 (.fad 1 (.t 1))),(xi 72 (.load true 3 (.t 71))),(xi 73 (.callG 6 10 [(.t 72)])),(xi 74 (.binB true (.t 70) (.t 73))),(xm 75 74),(xg 76 (.mov (.t 3)) 75 false),(xg 77 (.callG 7 14 [(.t 76)]) 75 false),(xg 78 (.bin .eql (.t 77) (.c (.v (.int .i64 0)))) 75 false),(xg 79 (.mov (.t 3)) 75 false),(xg 80 (.callG 8 19 [(.t 79)]) 75 false),(xg 81 (.binB true (.t 78) (.t 80)) 75 false),(xi 82 (.pick (.t 75) (.c (.v (.bool true))) (.t 81)))])) (.cond (.t 82) (.seq (.reg [(xi 2 (.mov (.c (.v (.bool false)))))]) .ret) .skip))) (.seq (.reg [(xm 84 3),(xi 85 (.fad 6 (.t 1))),(xi 86 (.load false 1 (.t 85))),(xi 87 (.fad 8 (.t 1))),(xi 88 (.load false 1 (.t 87))),(xi 89 (.fad 7 (.t 1))),(xi 90 (.load false 1 (.t 89))),(xi 91 (.fad 9 (.t 1))),(xi 92 (.load false 1 (.t 91))),(xi 93 (.call 9 13 [(.t 84),(.t 86),(.t 88),(.t 90),(.t 92)])),(xm 83 93),(xi 94 (.ext (.t 83) 0)),(xi 95 (.ext (.t 83) 1)),(xm 7 94),(xm 8 95)]) (.seq (.reg [(xm 97 3),(xi 98 (.fad 6 (.t 1))),(xi 99 (.load false 1 (.t 98))),(xi 100 (.fad 8 (.t 1))),(xi 101 (.load false 1 (.t 100))),(xi 102 (.call 10 12 [(.t 97),(.t 99),(.t 101)])),(xm 96 102),(xi 103 (.ext (.t 96) 0)),(xi 104 (.ext (.t 96) 1)),(xm 9 103),(xm 10 104)]) (.seq (.reg [(xm 106 3),(xi 107 (.fad 1 (.t 1))),(xi 108 (.load true 3 (.t 107))),(xi 109 (.fad 4 (.t 1))),(xi 110 (.load false 1 (.t 109))),(xi 111 (.fad 9 (.t 1))),(xi 112 (.load false 1 (.t 111))),(xi 113 (.call 11 20 [(.t 106),(.t 108),(.t 110),(.t 112)])),(xm 105 113),(xi 114 (.ext (.t 105) 0)),(xi 115 (.ext (.t 105) 1)),(xi 116 (.ext (.t 105) 2)),(xm 11 114),(xm 12 115),(xm 13 116)]) (.seq (.cut ⟨[2,117,118,119,120,121,122,123,124,125,126,127,128,129,130,131,132],[],⟨[],[],[]⟩⟩ (.seq (.cutN ⟨[117,118,119,120,121,122,123,124,125,126,127,128,129,130,131,132],[],⟨[],[(132,.v .b)],[]⟩⟩ (.reg [(xm 117 3),(xm 118 7),(xi 119 (.call 12 22 [(.t 117),(.t 118)])),(xm 120 3),(xm 121 7),(xi 122 (.call 13 15 [(.t 120),(.t 121)])),(xi 123 (.binB true (.t 119) (.t 122))),(xm 124 123),(xg 125 (.mov (.t 3)) 124 false),(xg 126 (.mov (.t 9)) 124 false),(xg 127 (.call 14 22 [(.t 125),(.t 126)]) 124 false),(xg 128 (.mov (.t 3)) 124 false),(xg 129 (.mov (.t 9)) 124 false),(xg 130 (.call 15 15 [(.t 128),(.t 129)]) 124 false),(xg 131 (.binB true (.t 127) (.t 130)) 124 false),(xi 132 (.pick (.t 124) (.c (.v (.bool true))) (.t 131)))])) (.cond (.t 132) (.seq (.reg [(xi 2 (.mov (.c (.v (.bool false)))))]) .ret) .skip))) (.seq (.seq (.reg [(xm 133 3),(xi 134 (.call 16 19 [(.t 133)])),(xi 135 (.un .not (.t 134)))]) (.cond (.t 135) (.seq (.reg [(xm 136 7),(xm 137 3),(xi 138 (.call 17 15 [(.t 136),(.t 137)])),(xm 139 138),(xg 140 (.mov (.t 8)) 139 true),(xg 141 (.bin .eql (.t 140) (.c (.v (.int .i64 1)))) 139 true),(xi 142 (.pick (.t 139) (.t 141) (.c (.v (.bool false))))),(xm 143 142),(xg 144 (.mov (.t 9)) 143 true),(xg 145 (.mov (.t 3)) 143 true),(xg 146 (.call 18 15 [(.t 144),(.t 145)]) 143 true),(xi 147 (.pick (.t 143) (.t 146) (.c (.v (.bool false))))),(xm 148 147),(xg 149 (.mov (.t 10)) 148 true),(xg 150 (.bin .eql (.t 149) (.c (.v (.int .i64 1)))) 148 true),(xi 151 (.pick (.t 148) (.t 150) (.c (.v (.bool false))))),(xm 152 151),(xg 153 (.mov (.t 11)) 152 true),(xg 154 (.len (.t 153)) 152 true),(xg 155 (.bin .eql (.t 154) (.c (.v (.int .i64 0)))) 152 true),(xi 156 (.pick (.t 152) (.t 155) (.c (.v (.bool false))))),(xm 157 156),(xg 158 (.mov (.t 12)) 157 true),(xg 159 (.len (.t 158)) 157 true),(xg 160 (.bin .eql (.t 159) (.c (.v (.int .i64 0)))) 157 true),(xi 161 (.pick (.t 157) (.t 160) (.c (.v (.bool false))))),(xm 162 161),(xg 163 (.mov (.t 13)) 162 true),(xg 164 (.bin .eql (.t 163) (.c (.v (.int .i64 1)))) 162 true),(xi 165 (.pick (.t 162) (.t 164) (.c (.v (.bool false))))),(xm 166 165),(xg 167 (.call 19 11 []) 166 true),(xi 168 (.pick (.t 166) (.t 167) (.c (.v (.bool false))))),(xm 2 168)]) .ret) .skip)) (.seq (.cut ⟨[2,169,170,171,172,173,174,175,176,177,178,179,180,181],[],⟨[],[],[]⟩⟩ (.seq (.cutN ⟨[169,170,171,172,173,174,175,176,177,178,179,180,181],[],⟨[],[(181,.v .b)],[]⟩⟩ (.reg [(xm 169 9),(xm 170 3),(xi 171 (.fad 6 (.t 1))),(xi 172 (.load false 1 (.t 171))),(xi 173 (.fad 8 (.t 1))),(xi 174 (.load false 1 (.t 173))),(xi 175 (.call 20 23 [(.t 170),(.t 172),(.t 174)])),(xi 176 (.call 21 15 [(.t 169),(.t 175)])),(xi 177 (.un .not (.t 176))),(xm 178 177),(xg 179 (.mov (.t 10)) 178 false),(xg 180 (.bin .neq (.t 179) (.c (.v (.int .i64 0)))) 178 false),(xi 181 (.pick (.t 178) (.c (.v (.bool true))) (.t 180)))])) (.cond (.t 181) (.seq (.reg [(xi 2 (.mov (.c (.v (.bool false)))))]) .ret) .skip))) (.seq (.cut ⟨[2,182,183,184,185,186,187,188,189,190,191,192,193,194,195,196,197,198,199,200,201,202,203,204,205,206,207,208,209,210,211,212,213,214,215,216,217,218,219,220,221,222,223,224,225,226,227,228,229,230],[],⟨[],[],[]⟩⟩ (.seq (.cutN ⟨[182,183,184,185,186,187,188,189,190,191,192,193,194,195,196,197,198,199,200,201,202,203,204,205],[],⟨[],[(205,.v .b)],[]⟩⟩ (.reg [(xi 182 (.fad 6 (.t 1))),(xi 183 (.load false 1 (.t 182))),(xi 184 (.bin .lss (.t 183) (.c (.v (.int .i64 0))))),(xm 185 184),(xg 186 (.fad 6 (.t 1)) 185 false),(xg 187 (.load false 1 (.t 186)) 185 false),(xg 188 (.bin .gtr (.t 187) (.c (.v (.int .i64 63)))) 185 false),(xi 189 (.pick (.t 185) (.c (.v (.bool true))) (.t 188))),(xm 190 189),(xg 191 (.fad 7 (.t 1)) 190 false),(xg 192 (.load false 1 (.t 191)) 190 false),(xg 193 (.bin .lss (.t 192) (.c (.v (.int .i64 0)))) 190 false),(xi 194 (.pick (.t 190) (.c (.v (.bool true))) (.t 193))),(xm 195 194),(xg 196 (.fad 7 (.t 1)) 195 false),(xg 197 (.load false 1 (.t 196)) 195 false),(xg 198 (.bin .gtr (.t 197) (.c (.v (.int .i64 63)))) 195 false),(xi 199 (.pick (.t 195) (.c (.v (.bool true))) (.t 198))),(xm 200 199),(xg 201 (.fad 9 (.t 1)) 200 false),(xg 202 (.load false 1 (.t 201)) 200 false),(xg 203 (.call 22 24 [(.t 202)]) 200 false),(xg 204 (.un .not (.t 203)) 200 false),(xi 205 (.pick (.t 200) (.c (.v (.bool true))) (.t 204)))])) (.cond (.t 205) (.seq (.cutN ⟨[206,207,208,209,210,211,212,213],[],⟨[],[(213,.v .b)],[]⟩⟩ (.reg [(xm 206 7),(xm 207 3),(xi 208 (.call 23 15 [(.t 206),(.t 207)])),(xi 209 (.un .not (.t 208))),(xm 210 209),(xg 211 (.mov (.t 8)) 210 false),(xg 212 (.bin .neq (.t 211) (.c (.v (.int .i64 1)))) 210 false),(xi 213 (.pick (.t 210) (.c (.v (.bool true))) (.t 212)))])) (.cond (.t 213) (.seq (.reg [(xi 2 (.mov (.c (.v (.bool false)))))]) .ret) .skip)) (.seq (.cutN ⟨[214,215,216,217,218,219,220,221,222,223,224,225,226,227,228,229,230],[],⟨[],[(230,.v .b)],[]⟩⟩ (.reg [(xm 214 7),(xm 215 3),(xi 216 (.fad 6 (.t 1))),(xi 217 (.load false 1 (.t 216))),(xi 218 (.fad 8 (.t 1))),(xi 219 (.load false 1 (.t 218))),(xi 220 (.fad 7 (.t 1))),(xi 221 (.load false 1 (.t 220))),(xi 222 (.fad 9 (.t 1))),(xi 223 (.load false 1 (.t 222))),(xi 224 (.call 24 25 [(.t 215),(.t 217),(.t 219),(.t 221),(.t 223)])),(xi 225 (.call 25 15 [(.t 214),(.t 224)])),(xi 226 (.un .not (.t 225))),(xm 227 226),(xg 228 (.mov (.t 8)) 227 false),(xg 229 (.bin .neq (.t 228) (.c (.v (.int .i64 0)))) 227 false),(xi 230 (.pick (.t 227) (.c (.v (.bool true))) (.t 229)))])) (.cond (.t 230) (.seq (.reg [(xi 2 (.mov (.c (.v (.bool false)))))]) .ret) .skip))))) (.seq (.cut ⟨[2,231,232,233,234,235,236,237,238,239,240,241,242,243,244,245,246,247,248,249,250,251,252,253,254,255,256,257,258,259],[],⟨[],[],[]⟩⟩ (.seq (.cutN ⟨[231,232,233,234,235,236,237,238,239,240,241,242,243,244],[],⟨[],[(244,.v .b)],[]⟩⟩ (.reg [(xi 231 (.fad 1 (.t 1))),(xi 232 (.load true 3 (.t 231))),(xi 233 (.call 26 10 [(.t 232)])),(xi 234 (.un .not (.t 233))),(xm 235 234),(xg 236 (.mov (.t 6)) 235 false),(xg 237 (.un .not (.t 236)) 235 false),(xi 238 (.pick (.t 235) (.c (.v (.bool true))) (.t 237))),(xm 239 238),(xg 240 (.fad 9 (.t 1)) 239 false),(xg 241 (.load false 1 (.t 240)) 239 false),(xg 242 (.call 27 24 [(.t 241)]) 239 false),(xg 243 (.un .not (.t 242)) 239 false),(xi 244 (.pick (.t 239) (.c (.v (.bool true))) (.t 243)))])) (.cond (.t 244) (.seq (.reg [(xm 245 11),(xi 246 (.len (.t 245))),(xi 247 (.bin .eql (.t 246) (.c (.v (.int .i64 0))))),(xm 248 247),(xg 249 (.mov (.t 12)) 248 true),(xg 250 (.len (.t 249)) 248 true),(xg 251 (.bin .eql (.t 250) (.c (.v (.int .i64 0)))) 248 true),(xi 252 (.pick (.t 248) (.t 251) (.c (.v (.bool false))))),(xm 253 252),(xg 254 (.mov (.t 13)) 253 true),(xg 255 (.bin .eql (.t 254) (.c (.v (.int .i64 1)))) 253 true),(xi 256 (.pick (.t 253) (.t 255) (.c (.v (.bool false))))),(xm 257 256),(xg 258 (.call 28 11 []) 257 true),(xi 259 (.pick (.t 257) (.t 258) (.c (.v (.bool false))))),(xm 2 259)]) .ret) .skip))) (.seq (.reg [(xm 260 11),(xm 261 3),(xi 262 (.fad 1 (.t 1))),(xi 263 (.load true 3 (.t 262))),(xi 264 (.fad 4 (.t 1))),(xi 265 (.load false 1 (.t 264))),(xi 266 (.fad 9 (.t 1))),(xi 267 (.load false 1 (.t 266))),(xi 268 (.call 29 26 [(.t 261),(.t 263),(.t 265),(.t 267),(.c (.v (.bool true)))])),(xi 269 (.call 30 15 [(.t 260),(.t 268)])),(xm 270 269),(xg 271 (.mov (.t 12)) 270 true),(xg 272 (.mov (.t 3)) 270 true),(xg 273 (.fad 1 (.t 1)) 270 true),(xg 274 (.load true 3 (.t 273)) 270 true),(xg 275 (.fad 4 (.t 1)) 270 true),(xg 276 (.load false 1 (.t 275)) 270 true),(xg 277 (.fad 9 (.t 1)) 270 true),(xg 278 (.load false 1 (.t 277)) 270 true),(xg 279 (.call 31 26 [(.t 272),(.t 274),(.t 276),(.t 278),(.c (.v (.bool false)))]) 270 true),(xg 280 (.call 32 15 [(.t 271),(.t 279)]) 270 true),(xi 281 (.pick (.t 270) (.t 280) (.c (.v (.bool false))))),(xm 282 281),(xg 283 (.mov (.t 13)) 282 true),(xg 284 (.bin .eql (.t 283) (.c (.v (.int .i64 0)))) 282 true),(xi 285 (.pick (.t 282) (.t 284) (.c (.v (.bool false))))),(xm 286 285),(xg 287 (.call 33 11 []) 286 true),(xi 288 (.pick (.t 286) (.t 287) (.c (.v (.bool false))))),(xm 2 288)]) .ret))))))))))))))),[1,16,24,37,61,69,73,77,80,93,102,113,119,122,127,130,134,138,146,167,175,176,203,208,224,225,233,242,258,268,269,279,280,287],289,[.t 2],35⟩
theorem xf8_ok:xf8.ok Try.prog 8:=⟨_,_,Try.func8,rfl,by kernel_rfl,rfl,by kernel_rfl,rfl,by kernel_rfl,by kernel_rfl⟩
def tb8:List PE:=[pe9,pe10,pe11,pe12,pe13,pe14,pe15,pe17,pe18,pe19,pe20,pe21,pe22,pe23,pe24,pe25,pe26]
theorem tb8_ok:PEsOk Try.prog tb8:=⟨pe9_ok,pe10_ok,pe11_ok,pe12_ok,pe13_ok,pe14_ok,pe15_ok,pe17_ok,pe18_ok,pe19_ok,pe20_ok,pe21_ok,pe22_ok,pe23_ok,pe24_ok,pe25_ok,pe26_ok,trivial⟩
def ex8:List EX:=[]
theorem ex8_ok:EXsOk Try.prog ex8:=trivial
def in8:List IN:=[]
theorem in8_ok:INsOk Try.prog in8:=trivial
def F8:DT ((.co (.v (.p (.sl (.p (.i .i64) (.p (.i .u64) (.p (.i .i64) (.sl (.i .i64)))))) (.p (.i .i64) (.p (.i .i64) (.p (.i .i64) (.p (.i .i64) (.p (.i .i64) (.p (.i .i64) (.p (.i .i64) (.p (.i .u64) (.i .i64))))))))))) .no):Fm).den→Option (DT (.v .b:Fm).den):=pureT tb8 ex8 in8 0 xf8 _ _ []
def pe8:PE:=⟨8,(.co (.v (.p (.sl (.p (.i .i64) (.p (.i .u64) (.p (.i .i64) (.sl (.i .i64)))))) (.p (.i .i64) (.p (.i .i64) (.p (.i .i64) (.p (.i .i64) (.p (.i .i64) (.p (.i .i64) (.p (.i .i64) (.p (.i .u64) (.i .i64))))))))))) .no),.v .b,F8⟩
theorem pe8_ok:pe8.ok Try.prog:=pe_of hm tb8_ok ex8_ok in8_ok xf8_ok (by kernel_rfl) (fun _=>rfl)
end
end Go.Proofs.Yticljphbbdnomaa.VL
end
section
namespace Go.Proofs.Yticljphbbdnomaa.VL
open Go
set_option maxRecDepth 100000
set_option linter.unusedVariables false
set_option linter.unusedSectionVars false
variable [Val]
theorem F8_eq (v:((List (Int×(Int×(Int×(List Int)))))×(Int×(Int×(Int×(Int×(Int×(Int×(Int×(Int×Int)))))))))):F8 v=(Option.bind (F18 v.1) (fun (v0:(List (Int×(Int×(Int×(List Int))))))=>(Option.bind (F9 ((v.2.1,v.2.2.1,v.2.2.2.1),v.2.2.2.2.1,v.2.2.2.2.2.1)) (fun (v1:(Int×Int))=>(Option.bind (cond (decide ((1:Int)≤v.2.2.2.2.1)) (some (decide (v.2.2.2.2.1≤(64:Int)))) (some false)) (fun (v2:Bool)=>(joinX (Option.bind (Option.bind (F10 (v.2.1,v.2.2.1,v.2.2.2.1)) (fun (v3:Bool)=>(cond (!v3) (some true) (cond (!v2) (some true) (some (decide (v.2.2.2.2.2.1 < (0:Int)))))))) (fun (v4:Bool)=>(cond v4 (Option.bind (cond (v1.1 != (0:Int)) (some true) (some (v1.2 != (1:Int)))) (fun (v5:Bool)=>(cond v5 (some (.inr false)) (some (.inl ()))))) (Option.bind (Option.bind (F21 ((v.2.1,v.2.2.1,v.2.2.2.1),v.2.2.2.2.1,v.2.2.2.2.2.1)) (fun (v6:Int)=>(cond (v1.1 != v6) (some true) (some (v1.2 != (0:Int)))))) (fun (v7:Bool)=>(cond v7 (some (.inr false)) (some (.inl ())))))))) (fun (v8:Unit)=>(joinX (Option.bind (Option.bind (F17 (v.2.1,v.2.2.1,v.2.2.2.1)) (fun (v9:Int)=>(Option.bind (F10 (v.2.1,v.2.2.1,v.2.2.2.1)) (fun (v10:Bool)=>(cond (!((v9==(0:Int))==v10)) (some true) (Option.bind (F14 v0) (fun (v11:Int)=>(Option.bind (F19 v0) (fun (v12:Bool)=>(some (!((v11==(0:Int))==v12)))))))))))) (fun (v13:Bool)=>(cond v13 (some (.inr false)) (some (.inl ()))))) (fun (v14:Unit)=>(Option.bind (F13 (v0,v.2.2.2.2.2.2.1,v.2.2.2.2.2.2.2.2.1,v.2.2.2.2.2.2.2.1,v.2.2.2.2.2.2.2.2.2)) (fun (v15:((List (Int×(Int×(Int×(List Int)))))×Int))=>(Option.bind (F12 (v0,v.2.2.2.2.2.2.1,v.2.2.2.2.2.2.2.2.1)) (fun (v16:((List (Int×(Int×(Int×(List Int)))))×Int))=>(Option.bind (F20 (v0,(v.2.1,v.2.2.1,v.2.2.2.1),v.2.2.2.2.1,v.2.2.2.2.2.2.2.2.2)) (fun (v17:((List (Int×(Int×(Int×(List Int)))))×((List (Int×(Int×(Int×(List Int)))))×Int)))=>(joinX (Option.bind (Option.bind (F22 (v0,v15.1)) (fun (v18:Bool)=>(Option.bind (F15 (v0,v15.1)) (fun (v19:Bool)=>(cond (!(v18==v19)) (some true) (Option.bind (F22 (v0,v16.1)) (fun (v20:Bool)=>(Option.bind (F15 (v0,v16.1)) (fun (v21:Bool)=>(some (!(v20==v21)))))))))))) (fun (v22:Bool)=>(cond v22 (some (.inr false)) (some (.inl ()))))) (fun (v23:Unit)=>(Option.bind (F19 v0) (fun (v24:Bool)=>(cond (!v24) (Option.bind (F15 (v15.1,v0)) (fun (v25:Bool)=>(cond v25 (cond (v15.2==(1:Int)) (Option.bind (F15 (v16.1,v0)) (fun (v26:Bool)=>(cond v26 (cond (v16.2==(1:Int)) (cond (((v17.1.length:Nat):Int)==(0:Int)) (cond (((v17.2.1.length:Nat):Int)==(0:Int)) (cond (v17.2.2==(1:Int)) (Option.bind (F11 ()) (fun (v27:Bool)=>(some v27))) (some false)) (some false)) (some false)) (some false)) (some false)))) (some false)) (some false)))) (joinX (Option.bind (Option.bind (F23 (v0,v.2.2.2.2.2.2.1,v.2.2.2.2.2.2.2.2.1)) (fun (v28:(List (Int×(Int×(Int×(List Int))))))=>(Option.bind (F15 (v16.1,v28)) (fun (v29:Bool)=>(cond (!v29) (some true) (some (v16.2 != (0:Int)))))))) (fun (v30:Bool)=>(cond v30 (some (.inr false)) (some (.inl ()))))) (fun (v31:Unit)=>(joinX (Option.bind (cond (decide (v.2.2.2.2.2.2.1 < (0:Int))) (some true) (cond (decide (v.2.2.2.2.2.2.1 > (63:Int))) (some true) (cond (decide (v.2.2.2.2.2.2.2.1 < (0:Int))) (some true) (cond (decide (v.2.2.2.2.2.2.2.1 > (63:Int))) (some true) (Option.bind (F24 v.2.2.2.2.2.2.2.2.2) (fun (v32:Bool)=>(some (!v32)))))))) (fun (v33:Bool)=>(cond v33 (Option.bind (Option.bind (F15 (v15.1,v0)) (fun (v34:Bool)=>(cond (!v34) (some true) (some (v15.2 != (1:Int)))))) (fun (v35:Bool)=>(cond v35 (some (.inr false)) (some (.inl ()))))) (Option.bind (Option.bind (F25 (v0,v.2.2.2.2.2.2.1,v.2.2.2.2.2.2.2.2.1,v.2.2.2.2.2.2.2.1,v.2.2.2.2.2.2.2.2.2)) (fun (v36:(List (Int×(Int×(Int×(List Int))))))=>(Option.bind (F15 (v15.1,v36)) (fun (v37:Bool)=>(cond (!v37) (some true) (some (v15.2 != (0:Int)))))))) (fun (v38:Bool)=>(cond v38 (some (.inr false)) (some (.inl ())))))))) (fun (v39:Unit)=>(joinX (Option.bind (Option.bind (F10 (v.2.1,v.2.2.1,v.2.2.2.1)) (fun (v40:Bool)=>(cond (!v40) (some true) (cond (!v2) (some true) (Option.bind (F24 v.2.2.2.2.2.2.2.2.2) (fun (v41:Bool)=>(some (!v41)))))))) (fun (v42:Bool)=>(cond v42 (cond (((v17.1.length:Nat):Int)==(0:Int)) (cond (((v17.2.1.length:Nat):Int)==(0:Int)) (cond (v17.2.2==(1:Int)) (Option.bind (F11 ()) (fun (v43:Bool)=>(some (.inr v43)))) (some (.inr false))) (some (.inr false))) (some (.inr false))) (some (.inl ()))))) (fun (v44:Unit)=>(Option.bind (F26 (v0,(v.2.1,v.2.2.1,v.2.2.2.1),v.2.2.2.2.1,v.2.2.2.2.2.2.2.2.2,true)) (fun (v45:(List (Int×(Int×(Int×(List Int))))))=>(Option.bind (F15 (v17.1,v45)) (fun (v46:Bool)=>(cond v46 (Option.bind (F26 (v0,(v.2.1,v.2.2.1,v.2.2.2.1),v.2.2.2.2.1,v.2.2.2.2.2.2.2.2.2,false)) (fun (v47:(List (Int×(Int×(Int×(List Int))))))=>(Option.bind (F15 (v17.2.1,v47)) (fun (v48:Bool)=>(cond v48 (cond (v17.2.2==(0:Int)) (Option.bind (F11 ()) (fun (v49:Bool)=>(some v49))) (some false)) (some false)))))) (some false))))))))))))))))))))))))))))))))):=by kernel_rfl
end Go.Proofs.Yticljphbbdnomaa.VL
end
section
namespace Go.Proofs.Yticljphbbdnomaa.VL
open Go
set_option linter.unusedVariables false
set_option linter.unusedSectionVars false
set_option linter.unusedSimpArgs false
set_option maxRecDepth 100000
variable [Val]
theorem la_fst (l:List DB) (j:Nat):la (l.map Prod.fst) j=(da l j).1:=by
 unfold la da
 rw [List.getD_eq_getElem?_getD,List.getD_eq_getElem?_getD,List.getElem?_map]
 cases l[j]?<;>rfl
theorem fst_up {l:List DB} (h:mayD l=true):upB (l.map Prod.fst)=true:=by
 unfold upB
 rw [List.all_eq_true]
 intro i hi
 rw [List.mem_range,List.length_map] at hi
 have ho:=okD_of h hi
 unfold okD at ho
 rw [Bool.and_eq_true,Bool.and_eq_true] at ho
 unfold upAt
 rw [la_fst,la_fst,ho.1,ho.2.1]; rfl
theorem up_srt {l:List Int} (h:upB l=true):inO.Srt id l:=by
 rw [upB_eq,Bool.and_eq_true] at h
 unfold KOrd.Srt
 rw [List.pairwise_iff_getElem]
 intro i j hi hj hij
 have:=ris_lt h.2 i j hij hj
 rw [← la_eq hi,← la_eq hj] at this
 exact decide_eq_true this
theorem may_srt {l:List DB} (h:mayD l=true):inO.Srt Prod.fst l:=by
 have:=up_srt (fst_up h)
 unfold KOrd.Srt at this ⊢
 rw [List.pairwise_map] at this
 exact this
theorem may_len {l:List DB} (h:mayD l=true):l.length≤64:=by
 have:=up_len (fst_up h)
 rw [List.length_map] at this; exact this
theorem may_by {l:List DB} (h:mayD l=true) {d:DB} (hd:d ∈ l):upB d.2.2.2=true∧0 < d.2.2.2.length∧d.2.2.2.length≤64∧nodeB d.1=true∧momB d.2.2.1=true:=by
 obtain ⟨i,hi,rfl⟩:=List.mem_iff_getElem.1 hd
 have ho:=okD_of h hi
 rw [da_eq hi]
 unfold okD risesB at ho
 simp only [Bool.and_eq_true,decide_eq_true_eq] at ho
 exact ⟨ho.2.2.2.1,ho.2.2.2.2,up_len ho.2.2.2.1,ho.1,ho.2.2.1⟩
theorem may_sz {l:List DB} (h:mayD l=true):szD l:=by
 refine ⟨Nat.le_trans (may_len h) (by decide),fun i hi=>Nat.le_trans (may_by h (d:=da l i) ?_).2.2.1 (by decide)⟩
 rw [← da_eq hi]; exact List.getElem_mem hi
theorem F56_ok (a:Int):F56 a=some false:=by
 show some (a != a)=some false
 rw [bne_self_eq_false]
theorem F50_ok (a b:Int):F50 (a,b)=some (if a < b then -1 else if a > b then 1 else 0):=by
 rw [F50_eq]
 simp -implicitDefEqProofs only [F56_ok,eq_self,xs]
 by_cases h:a < b
 ·simp -implicitDefEqProofs only [h,eq_self,xs]
 ·by_cases h2:a > b
  ·simp -implicitDefEqProofs only [h,h2,eq_self,xs]
  ·simp -implicitDefEqProofs only [h,h2,eq_self,xs]
theorem F49_ok (d:DB) (b:Int):F49 (d,b)=some (if d.1 < b then -1 else if d.1 > b then 1 else 0):=by
 rw [F49_eq]
 show Option.bind (F50 (d.1,b)) _=_
 rw [F50_ok]; rfl
theorem F51_ok (a b:Int):F51 (a,b)=some (decide (a < b)):=by
 rw [F51_eq]
 simp -implicitDefEqProofs only [F56_ok,eq_self,xs]
theorem F52_ok (a:Int):F52 a=some false:=by
 show some (a != a)=some false
 rw [bne_self_eq_false]
theorem F34_ok {l:List DB} (h:mayD l=true) (who:Int):F34 (l,who)=some (((inO.plc Prod.fst l who:Nat):Int),(KOrd.look Prod.fst l who).isSome):=by
 have hs:=may_srt h
 have hl:=may_len h
 rw [F34_eq]
 rw [loop_find hs who rfl]
 rotate_left
 ·intro i hi
  have q:¬ (i:Int) < (i:Int):=by omega
  simp -implicitDefEqProofs only [q,eq_self,xs]
 ·intro i j m x hij hj hm hml hx
  have q1:(i:Int) < (j:Int):=by omega
  have hmid:=mid (i:=i) (j:=j) (by omega)
  rw [← hm] at hmid
  have q3:(0:Int)≤(m:Int):=by omega
  have e:F49 ((x.1,x.2.1,x.2.2.1,x.2.2.2),who)=some (if x.1 < who then -1 else if x.1 > who then 1 else 0):=F49_ok x who
  simp -implicitDefEqProofs only [q1,hmid,q3,hx,e,w1 (show m≤9223372036854775806 by omega),eq_self,xs]
  show cond (decide ((if x.1 < who then (-1:Int) else if x.1 > who then 1 else 0) < 0)) _ _=cond (decide (x.1 < who)) _ _
  by_cases h1:x.1 < who
  ·rw [if_pos h1,decide_eq_true h1]; rfl
  ·rw [if_neg h1,decide_eq_false h1]
   by_cases h2:x.1 > who
   ·rw [if_pos h2]; rfl
   ·rw [if_neg h2]; rfl
 ·have hp:=KOrd.plc_le (O:=inO) (key:=Prod.fst) l who
  have ha:=KOrd.look_at hs who
  rw [ha]
  by_cases hq:inO.plc Prod.fst l who < l.length
  ·have q1:((inO.plc Prod.fst l who:Nat):Int) < ((l.length:Nat):Int):=by omega
   have q2:(0:Int)≤((inO.plc Prod.fst l who:Nat):Int):=by omega
   have g:=List.getElem?_eq_getElem hq
   have hnl:inO.lt (l[inO.plc Prod.fst l who]).1 who=false:=by
    have:=(KOrd.split hs who).2
    have hm:l[inO.plc Prod.fst l who] ∈ l.drop (inO.plc Prod.fst l who):=by rw [List.mem_iff_getElem?]; exact ⟨0,by rw [List.getElem?_drop]; exact g⟩
    rw [this,List.mem_filter] at hm
    simpa using hm.2
   rw [g]
   generalize l[inO.plc Prod.fst l who]=x at *
   have e:F49 ((x.1,x.2.1,x.2.2.1,x.2.2.2),who)=some (if x.1 < who then -1 else if x.1 > who then 1 else 0):=F49_ok x who
   simp -implicitDefEqProofs only [q1,q2,g,e,eq_self,xs]
   have h1:¬ x.1 < who:=of_decide_eq_false hnl
   show some (_,_)=some (_,_)
   congr 2
   rw [if_neg h1]
   by_cases h2:x.1 > who
   ·rw [if_pos h2,if_pos (show inO.lt who x.1=true from decide_eq_true h2)]; rfl
   ·rw [if_neg h2,if_neg (show ¬ inO.lt who x.1=true by intro q; exact h2 (of_decide_eq_true q))]; rfl
  ·have q1:¬ ((inO.plc Prod.fst l who:Nat):Int) < ((l.length:Nat):Int):=by omega
   simp -implicitDefEqProofs only [q1,eq_self,xs]
   rw [List.getElem?_eq_none (by omega)]
   rfl
theorem F35_ok {l:List Int} (hs:inO.Srt id l) (hl:l.length≤1000) (b:Int):F35 (l,b)=some (((inO.plc id l b:Nat):Int),decide (b ∈ l)):=by
 rw [F35_eq]
 rw [loop_find hs b rfl]
 rotate_left
 ·intro i hi
  have q:¬ (i:Int) < (i:Int):=by omega
  simp -implicitDefEqProofs only [q,eq_self,xs]
 ·intro i j m x hij hj hm hml hx
  have q1:(i:Int) < (j:Int):=by omega
  have hmid:=mid (i:=i) (j:=j) (by omega)
  rw [← hm] at hmid
  have q3:(0:Int)≤(m:Int):=by omega
  simp -implicitDefEqProofs only [q1,hmid,q3,hx,F51_ok x b,w1 (show m≤9223372036854775806 by omega),eq_self,xs]
  rfl
 ·have hp:=KOrd.plc_le (O:=inO) (key:=id) l b
  have ha:=KOrd.look_at hs b
  have hm1:(KOrd.look id l b).isSome=decide (b ∈ l):=by
   rw [Bool.eq_iff_iff,decide_eq_true_iff]
   constructor
   ·intro h
    obtain ⟨x,hx⟩:=Option.isSome_iff_exists.1 h
    obtain ⟨p1,p2⟩:=KOrd.look_some hx
    rw [← p2]; exact p1
   ·intro h
    have:=KOrd.look_mem hs h
    rw [show id b=b from rfl] at this
    rw [this]; rfl
  rw [← hm1,ha]
  by_cases hq:inO.plc id l b < l.length
  ·have q1:((inO.plc id l b:Nat):Int) < ((l.length:Nat):Int):=by omega
   have q2:(0:Int)≤((inO.plc id l b:Nat):Int):=by omega
   have g:=List.getElem?_eq_getElem hq
   have hnl:inO.lt (id l[inO.plc id l b]) b=false:=by
    have:=(KOrd.split hs b).2
    have hm:l[inO.plc id l b] ∈ l.drop (inO.plc id l b):=by rw [List.mem_iff_getElem?]; exact ⟨0,by rw [List.getElem?_drop]; exact g⟩
    rw [this,List.mem_filter] at hm
    simpa using hm.2
   rw [g]
   generalize l[inO.plc id l b]=x at *
   have h1:¬ x < b:=of_decide_eq_false hnl
   by_cases h2:x > b
   ·have e:(x==b)=false:=by rw [beq_eq_false_iff_ne]; omega
    simp -implicitDefEqProofs only [q1,q2,g,e,F52_ok,eq_self,xs]
    rw [if_pos (show inO.lt b (id x)=true from decide_eq_true h2)]; rfl
   ·have e:(x==b)=true:=by rw [beq_iff_eq]; omega
    simp -implicitDefEqProofs only [q1,q2,g,e,eq_self,xs]
    rw [if_neg (show ¬ inO.lt b (id x)=true by intro q; exact h2 (of_decide_eq_true q))]; rfl
  ·have q1:¬ ((inO.plc id l b:Nat):Int) < ((l.length:Nat):Int):=by omega
   simp -implicitDefEqProofs only [q1,eq_self,xs]
   rw [List.getElem?_eq_none (by omega)]
   rfl
end Go.Proofs.Yticljphbbdnomaa.VL
end
section
namespace Go.Proofs.Yticljphbbdnomaa.VL
open Go
set_option linter.unusedVariables false
set_option linter.unusedSectionVars false
set_option linter.unusedSimpArgs false
set_option maxRecDepth 100000
variable [Val]
theorem F13_l {v:List DB×(Int×(Int×(Int×Int)))} {z:List DB×Int} (h:F13x v=some z):F13 v=some z:=by
 have e:F13 v=orF (F13x v) (F13i v.1 v.2.1 v.2.2.1 v.2.2.2.1 v.2.2.2.2):=rfl
 rw [e,h]; rfl
theorem F13_r {v:List DB×(Int×(Int×(Int×Int)))} (h:F13x v=none):F13 v=F13i v.1 v.2.1 v.2.2.1 v.2.2.2.1 v.2.2.2.2:=by
 have e:F13 v=orF (F13x v) (F13i v.1 v.2.1 v.2.2.1 v.2.2.2.1 v.2.2.2.2):=rfl
 rw [e,h]; rfl
theorem F13_bad {l:List DB} {who inc by' now:Int} (hz:szD l) (h:(mayD l&&(nodeB who&&(nodeB by'&&momB now)))=false):F13 (l,(who,(inc,(by',now))))=some (l,1):=by
 refine F13_l ?_
 rw [F13x_eq]
 cases hm:mayD l
 ·simp -implicitDefEqProofs only [F14_ok hz,hm,nz1,eq_self,xs]
 cases hw:nodeB who
 ·simp -implicitDefEqProofs only [F14_ok hz,hm,nz0,F32_ok who,hw,eq_self,xs]
 cases hb:nodeB by'
 ·simp -implicitDefEqProofs only [F14_ok hz,hm,nz0,F32_ok who,hw,F32_ok by',hb,eq_self,xs]
 cases hn:momB now
 ·simp -implicitDefEqProofs only [F14_ok hz,hm,nz0,F32_ok who,hw,F32_ok by',hb,F33_ok now,hn,eq_self,xs]
 rw [hm,hw,hb,hn] at h
 cases h
theorem copy_loop {l:List DB} (hm:mayD l=true) {f:Int×List DB→Option ((Int×List DB) ⊕ List DB)}
  (hend:f ((l.length:Int),l)=some (.inr l))
  (hstep:∀ i:Nat,(hi:i < l.length)→(da l i).2.2.2.length≤1000→f ((i:Int),l)=some (.inl (((i+1:Nat):Int),l))):loopX f (0,l)=some l:=by
 refine loop_detE (s0:=((0:Int),l)) l.length (fun i=>((i:Int),l)) l rfl hend fun i hi=>hstep i hi ?_
 have:=(may_by hm (d:=da l i) (by rw [← da_eq hi]; exact List.getElem_mem hi)).2.2.1
 omega
theorem F13x_new {l:List DB} {who inc by' now:Int} (hm:mayD l=true) (hw:nodeB who=true) (hb:nodeB by'=true) (hn:momB now=true) (hno:KOrd.look Prod.fst l who=none) :
  F13x (l,(who,(inc,(by',now))))=some (inO.put Prod.fst l (who,(inc,(now,[by']))),0):=by
 have hz:=may_sz hm
 have hs:=may_srt hm
 have hl:=may_len hm
 have h34:=F34_ok hm who
 rw [hno,Option.isSome_none] at h34
 have hput:=KOrd.put_ins hs (x:=((who,(inc,(now,[by']))):DB)) hno
 have hp:=KOrd.plc_le (O:=inO) (key:=Prod.fst) l who
 simp only at hput
 generalize inO.plc Prod.fst l who=p at *
 rw [← hput]
 have hA:(List.take p l).length=p:=by rw [List.length_take]; omega
 have hB:(List.drop p l).length=l.length - p:=List.length_drop
 have tB:List.take (l.length - p) (List.drop p l)=List.drop p l:=List.take_of_length_le (by omega)
 rw [F13x_eq]
 simp -implicitDefEqProofs only [F14_ok hz,hm,nz0,F32_ok who,hw,F32_ok by',hb,F33_ok now,hn,h34,copyD (show l.length≤1000 by omega),eq_self,xs]
 rw [copy_loop hm]
 rotate_left
 ·simp -implicitDefEqProofs only [not_lt_self,eq_self,xs]
 ·intro i hi hbl
  have q1:((i:Nat):Int) < ((l.length:Nat):Int):=by omega
  have q2:(0:Int)≤(i:Int):=by omega
  simp -implicitDefEqProofs only [q1,q2,at_da hi,copyI hbl,w1 (show i≤9223372036854775806 by omega),eq_self,xs]
  have e:l.set i ((da l i).1,(da l i).2.1,(da l i).2.2.1,(da l i).2.2.2)=l:=set_self hi
  rw [e]
 have q0:(0:Int)≤(p:Int):=by omega
 have q1:(p:Int)≤((l.length:Nat):Int):=by omega
 have q2:¬ p+1≤p:=by omega
 have q3:((p+1:Nat):Int) * 48≤70368744177664:=by omega
 have q4:((p+1:Nat):Int)≤70368744177664:=by omega
 simp -implicitDefEqProofs only [q0,q1,q2,hp,q3,q4,tB,hA,hB,eq_self,xs]
 have hA1:(List.take p l++[((who,(inc,(now,[by']))):DB)]).length=p+1:=by rw [List.length_append,hA]; rfl
 have f1:List.take (p+1) (List.take p l++[((who,(inc,(now,[by']))):DB)])=List.take p l++[((who,(inc,(now,[by']))):DB)]:=List.take_of_length_le (by omega)
 have f2:List.drop (p+1+(l.length - p)) (List.take p l++[((who,(inc,(now,[by']))):DB)])=[]:=List.drop_eq_nil_of_le (by omega)
 have f3:List.take (p+1+(l.length - p)) (List.take p l++[((who,(inc,(now,[by']))):DB)]++List.drop p l)=List.take p l++[((who,(inc,(now,[by']))):DB)]++List.drop p l:=List.take_of_length_le (by rw [List.length_append]; omega)
 have f4:List.take p l++((who,(inc,(now,[by']))):DB)::List.drop p l=List.take p l++[((who,(inc,(now,[by']))):DB)]++List.drop p l:=by simp
 rw [f1,f2,f4,List.append_nil,f3,hA1]
 have r1:p+(l.length - p)≤l.length:=by omega
 have r2:((p+1+(l.length - p):Nat):Int) * 48≤70368744177664:=by omega
 have r3:((p+1+(l.length - p):Nat):Int)≤70368744177664:=by omega
 rw [decide_eq_true r1,decide_eq_true r2,decide_eq_true r3,List.length_nil]
 simp only [Nat.add_zero,Nat.le_refl,decide_true]
 cases decide (p+1+(l.length - p)≤p+1)<;>rfl
theorem nodup_rule {l:List DB} {who:Int} {d:DB} (hm:mayD l=true) (hd:KOrd.look Prod.fst l who=some d):inO.plc Prod.fst l who < l.length∧l[inO.plc Prod.fst l who]?=some d∧d.1=who∧d ∈ l:=by
 have ha:=KOrd.look_at (may_srt hm) who
 rw [hd] at ha
 have h2:=KOrd.look_some hd
 cases hg:l[inO.plc Prod.fst l who]? with
 | none=>rw [hg] at ha; cases ha
 | some x =>
  rw [hg] at ha
  simp only at ha
  split at ha
  ·cases ha
  ·cases ha
   exact ⟨(List.getElem?_eq_some_iff.1 hg).1,rfl,h2.2,h2.1⟩
theorem F13x_there {l:List DB} {who inc by' now:Int} {d:DB} (hm:mayD l=true) (hw:nodeB who=true) (hb:nodeB by'=true) (hn:momB now=true) (hd:KOrd.look Prod.fst l who=some d) :
  F13x (l,(who,(inc,(by',now))))=if d.2.1 < inc then some (inO.put Prod.fst l (who,(inc,(now,[by']))),0) else if d.2.1=inc then (if by' ∈ d.2.2.2 then some (l,0) else none) else some (l,0):=by
 have hz:=may_sz hm
 have hs:=may_srt hm
 have hl:=may_len hm
 have h34:=F34_ok hm who
 rw [hd,Option.isSome_some] at h34
 obtain ⟨hlt,hat,hk,hmem⟩:=nodup_rule hm hd
 have hput:=KOrd.put_set hs (x:=((who,(inc,(now,[by']))):DB)) hat hk
 have hby:=may_by hm hmem
 have h35:=F35_ok (up_srt hby.1) (by omega) by'
 simp only at hput
 generalize inO.plc Prod.fst l who=p at *
 rw [← hput]
 rw [F13x_eq]
 simp -implicitDefEqProofs only [F14_ok hz,hm,nz0,F32_ok who,hw,F32_ok by',hb,F33_ok now,hn,h34,copyD (show l.length≤1000 by omega),eq_self,xs]
 rw [copy_loop hm]
 rotate_left
 ·simp -implicitDefEqProofs only [not_lt_self,eq_self,xs]
 ·intro i hi hbl
  have q1:((i:Nat):Int) < ((l.length:Nat):Int):=by omega
  have q2:(0:Int)≤(i:Int):=by omega
  simp -implicitDefEqProofs only [q1,q2,at_da hi,copyI hbl,w1 (show i≤9223372036854775806 by omega),eq_self,xs]
  have e:l.set i ((da l i).1,(da l i).2.1,(da l i).2.2.1,(da l i).2.2.2)=l:=set_self hi
  rw [e]
 have q0:(0:Int)≤(p:Int):=by omega
 have q1:(p:Int) < ((l.length:Nat):Int):=by omega
 have t1:∀ x:DB,(l.set p x).length=l.length:=fun x=>List.length_set
 have t2:∀ x:DB,List.take l.length (l.set p x)=l.set p x:=fun x=>List.take_of_length_le (by rw [List.length_set]; omega)
 have irr:¬ inc < inc:=by omega
 by_cases c1:d.2.1 < inc
 ·simp -implicitDefEqProofs only [q0,q1,hat,c1,t1,t2,eq_self,xs]
 ·by_cases c2:d.2.1=inc
  ·have e:(d.2.1==inc)=true:=by rw [beq_iff_eq]; exact c2
   by_cases c3:by' ∈ d.2.2.2
   ·rw [decide_eq_true c3] at h35
    simp -implicitDefEqProofs only [q0,q1,hat,c1,c2,c3,e,t1,t2,h35,irr,beq_self_eq_true,eq_self,xs]
   ·rw [decide_eq_false c3] at h35
    have h36:∀ x,F36 x=none:=fun x=>rfl
    simp -implicitDefEqProofs only [q0,q1,hat,c1,c2,c3,e,t1,t2,h35,h36,irr,beq_self_eq_true,Option.bind_none,eq_self,xs]
  ·have e:(d.2.1==inc)=false:=by rw [beq_eq_false_iff_ne]; exact c2
   simp -implicitDefEqProofs only [q0,q1,hat,c1,c2,e,t1,t2,eq_self,xs]
def more (d:DB) (b:Int):DB:=(d.1,d.2.1,d.2.2.1,inO.put id d.2.2.2 b)
noncomputable def raiseL (l:List DB) (who inc by' now:Int):List DB:=match KOrd.look Prod.fst l who with
 | none=>inO.put Prod.fst l (who,(inc,(now,[by'])))
 | some d=>if d.2.1 < inc then inO.put Prod.fst l (who,(inc,(now,[by']))) else if d.2.1=inc then (if by' ∈ d.2.2.2 then l else inO.put Prod.fst l (more d by')) else l
theorem F13_ok {l:List DB} {who inc by' now:Int} (hm:mayD l=true) (hw:nodeB who=true) (hb:nodeB by'=true) (hn:momB now=true):F13 (l,(who,(inc,(by',now))))=some (raiseL l who inc by' now,0):=by
 unfold raiseL
 cases hd:KOrd.look Prod.fst l who with
 | none=>exact F13_l (F13x_new hm hw hb hn hd)
 | some d =>
  have h:=F13x_there (inc:=inc) (now:=now) hm hw hb hn hd
  simp only
  by_cases c1:d.2.1 < inc
  ·rw [if_pos c1] at h ⊢; exact F13_l h
  rw [if_neg c1] at h ⊢
  by_cases c2:d.2.1=inc
  ·rw [if_pos c2] at h ⊢
   by_cases c3:by' ∈ d.2.2.2
   ·rw [if_pos c3] at h ⊢; exact F13_l h
   rw [if_neg c3] at h ⊢
   rw [F13_r h]
   obtain ⟨hlt,hat,hk,hmem⟩:=nodup_rule hm hd
   have hby:=may_by hm hmem
   have h34:=F34_ok hm who
   rw [hd,Option.isSome_some] at h34
   have h35:=F35_ok (up_srt hby.1) (by omega) by'
   rw [decide_eq_false c3] at h35
   have hs:=may_srt hm
   have hl:=may_len hm
   have ek:(more d by').1=who:=hk
   have hput:=KOrd.put_set hs (x:=more d by') (y:=d) (by rw [ek]; exact hat) rfl
   rw [ek] at hput
   have hins:=KOrd.put_ins (up_srt hby.1) (x:=by') (KOrd.look_none' (key:=id) fun x hx e=>c3 (by rw [← (show x=by' from e)]; exact hx))
   have hpl:=KOrd.plc_le (O:=inO) (key:=id) d.2.2.2 by'
   unfold F13i
   rw [F14_ok (may_sz hm),if_pos hm,F32_ok,F32_ok,F33_ok,h34,hw,hb,hn]
   simp only
   have hall:∀ x ∈ l,x.2.2.2≠[]∧x.2.2.2.length≤1000:=fun x hx=>by
    have q:=may_by hm hx
    exact ⟨fun e=>by rw [e] at q; exact absurd q.2.1 (by decide),by omega⟩
   rw [if_pos ⟨trivial,trivial,trivial,trivial,trivial,Int.natCast_nonneg _,by omega,hall⟩]
   rw [Int.toNat_natCast,hat]
   simp only [h35]
   rw [if_pos ⟨trivial,c2,Int.natCast_nonneg _,by rw [Int.toNat_natCast]; exact hpl⟩,Int.toNat_natCast]
   have e:d.2.2.2.take (inO.plc id d.2.2.2 by')++[by']++d.2.2.2.drop (inO.plc id d.2.2.2 by')=inO.put id d.2.2.2 by':=by
    rw [← hins]; simp
   rw [e]
   exact congrArg (fun z=>some (z,(0:Int))) hput
  ·rw [if_neg c2] at h ⊢; exact F13_l h
end Go.Proofs.Yticljphbbdnomaa.VL
end
section
namespace Go.Proofs.Yticljphbbdnomaa.VL
open Go
set_option linter.unusedVariables false
set_option linter.unusedSectionVars false
set_option linter.unusedSimpArgs false
set_option maxRecDepth 100000
variable [Val]
theorem up_iff {l:List Int}:upB l=true ↔ inO.Srt id l∧∀ x ∈ l,nodeB x=true:=by
 constructor
 ·intro h
  refine ⟨up_srt h,fun x hx=>?_⟩
  obtain ⟨i,hi,rfl⟩:=List.mem_iff_getElem.1 hx
  rw [upB_eq,Bool.and_eq_true,List.all_eq_true] at h
  have:=h.1 i (List.mem_range.2 hi)
  rw [la_eq hi]; exact this
 ·rintro ⟨hs,hn⟩
  unfold upB
  rw [List.all_eq_true]
  intro i hi
  rw [List.mem_range] at hi
  unfold upAt
  rw [← la_eq hi,hn _ (List.getElem_mem hi),Bool.true_and,Bool.or_eq_true,decide_eq_true_iff,decide_eq_true_iff]
  by_cases h0:i=0
  ·exact .inl h0
  ·right
   unfold KOrd.Srt at hs
   rw [List.pairwise_iff_getElem] at hs
   have:=hs (i - 1) i (by omega) hi (by omega)
   rw [← la_eq (show i - 1 < l.length by omega)]
   exact of_decide_eq_true this
def oneOk (d:DB):Prop:=nodeB d.1=true∧momB d.2.2.1=true∧risesB d.2.2.2=true
theorem may_iff {l:List DB}:mayD l=true ↔ inO.Srt Prod.fst l∧∀ d ∈ l,oneOk d:=by
 constructor
 ·intro h
  refine ⟨may_srt h,fun d hd=>?_⟩
  have q:=may_by h hd
  refine ⟨q.2.2.2.1,q.2.2.2.2,?_⟩
  unfold risesB
  rw [q.1,decide_eq_true q.2.1]; rfl
 ·rintro ⟨hs,hn⟩
  unfold mayD
  rw [List.all_eq_true]
  intro i hi
  rw [List.mem_range] at hi
  have q:=hn _ (List.getElem_mem hi)
  rw [da_eq hi] at q
  unfold okD
  rw [q.1,q.2.1,q.2.2,Bool.true_and,Bool.and_true,Bool.and_true,Bool.or_eq_true,decide_eq_true_iff,decide_eq_true_iff]
  by_cases h0:i=0
  ·exact .inl h0
  ·right
   unfold KOrd.Srt at hs
   rw [List.pairwise_iff_getElem] at hs
   have:=hs (i - 1) i (by omega) hi (by omega)
   rw [da_eq hi,da_eq (show i - 1 < l.length by omega)] at this
   exact of_decide_eq_true this
theorem rises_iff {l:List Int}:risesB l=true ↔ inO.Srt id l∧(∀ x ∈ l,nodeB x=true)∧l≠[]:=by
 unfold risesB
 rw [Bool.and_eq_true,up_iff,decide_eq_true_iff,and_assoc]
 constructor
 ·rintro ⟨a,b,c⟩; exact ⟨a,b,fun e=>by rw [e] at c; exact absurd c (by decide)⟩
 ·rintro ⟨a,b,c⟩; exact ⟨a,b,List.length_pos_iff.2 c⟩
theorem one_new {who inc by' now:Int} (hw:nodeB who=true) (hb:nodeB by'=true) (hn:momB now=true):oneOk (who,(inc,(now,[by']))):=by
 refine ⟨hw,hn,rises_iff.2 ⟨List.pairwise_singleton _ _,fun x hx=>?_,by simp⟩⟩
 rw [List.mem_singleton] at hx; rw [hx]; exact hb
theorem one_more {d:DB} {by':Int} (h:oneOk d) (hb:nodeB by'=true):oneOk (more d by'):=by
 obtain ⟨h1,h2,h3⟩:=h
 obtain ⟨h4,h5,h6⟩:=rises_iff.1 h3
 refine ⟨h1,h2,rises_iff.2 ⟨KOrd.srt_put h4 by',fun x hx=>?_,fun e=>?_⟩⟩
 ·rcases KOrd.mem_put.1 hx with rfl | ⟨hx,_⟩
  ·exact hb
  ·exact h5 x hx
 ·have:by' ∈ inO.put id d.2.2.2 by':=KOrd.mem_put.2 (.inl rfl)
  have e':inO.put id d.2.2.2 by'=[]:=e
  rw [e'] at this; cases this
theorem may_put {l:List DB} {x:DB} (hm:mayD l=true) (hx:oneOk x):mayD (inO.put Prod.fst l x)=true:=by
 obtain ⟨h1,h2⟩:=may_iff.1 hm
 refine may_iff.2 ⟨KOrd.srt_put h1 x,fun d hd=>?_⟩
 rcases KOrd.mem_put.1 hd with rfl | ⟨hd,_⟩
 ·exact hx
 ·exact h2 d hd
theorem may_raise {l:List DB} {who inc by' now:Int} (hm:mayD l=true) (hw:nodeB who=true) (hb:nodeB by'=true) (hn:momB now=true):mayD (raiseL l who inc by' now)=true:=by
 unfold raiseL
 split
 ·exact may_put hm (one_new hw hb hn)
 ·rename_i d hd
  split
  ·exact may_put hm (one_new hw hb hn)
  split
  ·split
   ·exact hm
   ·exact may_put hm (one_more ((may_iff.1 hm).2 d (KOrd.look_some hd).1) hb)
  ·exact hm
theorem F16_ok {a b:List Int} (ha:a.length≤1000):F16 (a,b)=some (decide (a=b)):=by
 rw [F16_eq]
 by_cases hl:a.length=b.length
 ·have e:(((a.length:Nat):Int) != ((b.length:Nat):Int))=false:=by rw [hl]; exact bne_self_eq_false _
  simp -implicitDefEqProofs only [e,eq_self,xs]
  rw [loop_same a b hl rfl]
  ·simp -implicitDefEqProofs only [not_lt_self,eq_self,xs]
  ·intro i x y hi hx hy
   have q1:((i:Nat):Int) < ((a.length:Nat):Int):=by omega
   have q2:(0:Int)≤(i:Int):=by omega
   by_cases h:x=y
   ·have e:(x != y)=false:=by rw [h]; exact bne_self_eq_false _
    rw [if_pos h]
    simp -implicitDefEqProofs only [q1,q2,hx,hy,e,w1 (show i≤9223372036854775806 by omega),eq_self,xs]
   ·have e:(x != y)=true:=by rw [bne_iff_ne]; exact h
    rw [if_neg h]
    simp -implicitDefEqProofs only [q1,q2,hx,hy,e,eq_self,xs]
 ·have e:(((a.length:Nat):Int) != ((b.length:Nat):Int))=true:=by rw [bne_iff_ne]; omega
  have n:a≠b:=fun h=>hl (by rw [h])
  simp -implicitDefEqProofs only [e,eq_self,xs]
  rw [decide_eq_false n]
theorem F15_ok {a b:List DB} (ha:a.length≤1000) (hs:∀ d ∈ a,d.2.2.2.length≤1000):F15 (a,b)=some (decide (a=b)):=by
 rw [F15_eq]
 by_cases hl:a.length=b.length
 ·have e:(((a.length:Nat):Int) != ((b.length:Nat):Int))=false:=by rw [hl]; exact bne_self_eq_false _
  simp -implicitDefEqProofs only [e,eq_self,xs]
  rw [loop_same a b hl rfl]
  ·simp -implicitDefEqProofs only [not_lt_self,eq_self,xs]
  ·intro i x y hi hx hy
   have q1:((i:Nat):Int) < ((a.length:Nat):Int):=by omega
   have q2:(0:Int)≤(i:Int):=by omega
   have h16:=F16_ok (a:=x.2.2.2) (b:=y.2.2.2) (hs x (List.mem_of_getElem? hx))
   have ex:x=y ↔ x.1=y.1∧x.2.1=y.2.1∧x.2.2.1=y.2.2.1∧x.2.2.2=y.2.2.2:=by
    obtain ⟨x1,x2,x3,x4⟩:=x
    obtain ⟨y1,y2,y3,y4⟩:=y
    simp
   by_cases h1:x.1=y.1
   ·have e1:(x.1 != y.1)=false:=by rw [h1]; exact bne_self_eq_false _
    by_cases h2:x.2.1=y.2.1
    ·have e2:(x.2.1 != y.2.1)=false:=by rw [h2]; exact bne_self_eq_false _
     by_cases h3:x.2.2.1=y.2.2.1
     ·have e3:(x.2.2.1 != y.2.2.1)=false:=by rw [h3]; exact bne_self_eq_false _
      by_cases h4:x.2.2.2=y.2.2.2
      ·rw [decide_eq_true h4] at h16
       rw [if_pos (ex.2 ⟨h1,h2,h3,h4⟩)]
       simp -implicitDefEqProofs only [q1,q2,hx,hy,e1,e2,e3,h16,w1 (show i≤9223372036854775806 by omega),eq_self,xs]
      ·rw [decide_eq_false h4] at h16
       rw [if_neg (fun h=>h4 (ex.1 h).2.2.2)]
       simp -implicitDefEqProofs only [q1,q2,hx,hy,e1,e2,e3,h16,eq_self,xs]
     ·have e3:(x.2.2.1 != y.2.2.1)=true:=by rw [bne_iff_ne]; exact h3
      rw [if_neg (fun h=>h3 (ex.1 h).2.2.1)]
      simp -implicitDefEqProofs only [q1,q2,hx,hy,e1,e2,e3,eq_self,xs]
    ·have e2:(x.2.1 != y.2.1)=true:=by rw [bne_iff_ne]; exact h2
     rw [if_neg (fun h=>h2 (ex.1 h).2.1)]
     simp -implicitDefEqProofs only [q1,q2,hx,hy,e1,e2,eq_self,xs]
   ·have e1:(x.1 != y.1)=true:=by rw [bne_iff_ne]; exact h1
    rw [if_neg (fun h=>h1 (ex.1 h).1)]
    simp -implicitDefEqProofs only [q1,q2,hx,hy,e1,eq_self,xs]
 ·have e:(((a.length:Nat):Int) != ((b.length:Nat):Int))=true:=by rw [bne_iff_ne]; omega
  have n:a≠b:=fun h=>hl (by rw [h])
  simp -implicitDefEqProofs only [e,eq_self,xs]
  rw [decide_eq_false n]
end Go.Proofs.Yticljphbbdnomaa.VL
end
section
namespace Go.Proofs.Yticljphbbdnomaa.VL
open Go
set_option linter.unusedVariables false
set_option linter.unusedSectionVars false
set_option linter.unusedSimpArgs false
set_option maxRecDepth 100000
variable [Val]
theorem ct {α:Type} {b:Bool} {x y:α} (h:b=true):(bif b then x else y)=x:=by rw [h]; rfl
theorem loop_del {α:Type} {l:List α} (keep:α→Bool) {f:(Int×Int)×List α→Option (((Int×Int)×List α) ⊕ (Int×List α))} (p:Nat) (hp:p < l.length)
  (hpre:(l.take (p+1)).filter keep=l.take p)
  (hend:∀ (i:Nat) (a:List α),a.length=l.length→f (((i:Int),(l.length:Int)),a)=some (.inr ((i:Int),a)))
  (hstep:∀ (i j:Nat) (a:List α) (x:α),i < j→j < l.length→a.length=l.length→a[j]?=some x→f (((i:Int),(j:Int)),a)=some (.inl (if keep x=true then ((((i+1:Nat):Int),((j+1:Nat):Int)),a.set i x) else (((i:Int),((j+1:Nat):Int)),a)))) :
  ∃ a,loopX f (((p:Int),((p+1:Nat):Int)),l)=some ((((l.filter keep).length:Nat):Int),a)∧(a.length=l.length∧a.take (l.filter keep).length=l.filter keep):=by
 have:=loop_ex (f:=f) (s:=(((p:Int),((p+1:Nat):Int)),l))
  (fun s=>∃ (i j:Nat) (a:List α),s=(((i:Int),(j:Int)),a)∧i < j∧j≤l.length∧a.length=l.length∧a.take i=(l.take j).filter keep∧((l.take j).filter keep).length=i∧a.drop j=l.drop j)
  (fun s=>(l.length - s.1.2).toNat) (fun r=>r.1=(((l.filter keep).length:Nat):Int)∧(r.2.length=l.length∧r.2.take (l.filter keep).length=l.filter keep)) ?_ ?_
 ·obtain ⟨r,h1,h2,h3⟩:=this
  exact ⟨r.2,by rw [h1]; exact congrArg some (Prod.ext h2 rfl),h3⟩
 ·rintro s ⟨i,j,a,rfl,hij,hj,hal,ht,hl,hd⟩
  rcases Nat.lt_or_ge j l.length with hlt | hge
  ·right
   have hx:a[j]?=l[j]?:=by
    have e:(a.drop j)[0]?=(l.drop j)[0]?:=by rw [hd]
    simpa using e
   have hlx:l[j]?=some l[j]:=List.getElem?_eq_getElem hlt
   rw [hlx] at hx
   have h:=hstep i j a l[j] hij hlt hal hx
   have tk:l.take (j+1)=l.take j++[l[j]]:=(List.take_append_getElem hlt).symm
   cases hk:keep l[j]
   ·rw [hk,if_neg (by decide)] at h
    refine ⟨_,h,⟨i,j+1,a,rfl,by omega,by omega,hal,?_,?_,?_⟩,?_⟩
    ·rw [tk,List.filter_append,ht,List.filter_cons_of_neg (by rw [hk]; decide)]; simp
    ·rw [tk,List.filter_append,List.filter_cons_of_neg (by rw [hk]; decide)]; simpa using hl
    ·rw [← List.drop_drop,hd,List.drop_drop]
    ·simp only; omega
   ·rw [hk,if_pos rfl] at h
    refine ⟨_,h,⟨i+1,j+1,a.set i l[j],rfl,by omega,by omega,by rw [List.length_set]; exact hal,?_,?_,?_⟩,?_⟩
    ·rw [tk,List.filter_append,List.filter_cons_of_pos hk,← ht]
     have hi:i < (a.set i l[j]).length:=by rw [List.length_set]; omega
     rw [← List.take_append_getElem hi,List.take_set_of_le (Nat.le_refl _)]
     simp
    ·rw [tk,List.filter_append,List.filter_cons_of_pos hk]; simp [hl]
    ·rw [List.drop_set_of_lt (by omega),← List.drop_drop,hd,List.drop_drop]
    ·simp only; omega
  ·left
   have e:j=l.length:=by omega
   subst e
   refine ⟨_,hend i a hal,?_⟩
   rw [List.take_length] at ht hl
   rw [hl]
   exact ⟨rfl,hal,ht⟩
 ·refine ⟨p,p+1,l,rfl,by omega,by omega,rfl,hpre.symm,?_,rfl⟩
  rw [hpre,List.length_take]; omega
theorem filter_pre {α:Type} (keep:α→Bool):∀ (l:List α) (h:l.any (fun x=>!keep x)=true),(l.take (l.findIdx (fun x=>!keep x)+1)).filter keep=l.take (l.findIdx (fun x=>!keep x))
 | [],h=>by cases h
 | x::l,h=>by
  rw [List.findIdx_cons]
  cases hk:keep x
  ·simp [hk]
  ·have h':l.any (fun x=>!keep x)=true:=by simpa [hk] using h
   have:=filter_pre keep l h'
   simp only [hk,Bool.not_true,cond_false,List.take_succ_cons,List.filter_cons_of_pos hk]
   rw [this]
def keepC (who inc:Int) (d:DB):Bool:=!(d.1==who&&decide (d.2.1≤inc))
theorem F12_ok {l:List DB} {who inc:Int} (hm:mayD l=true):F12 (l,who,inc)=some (l.filter (keepC who inc),0):=by
 have hz:=may_sz hm
 have hl:=may_len hm
 rw [F12_eq]
 simp -implicitDefEqProofs only [F14_ok hz,hm,nz0,copyD (show l.length≤1000 by omega),eq_self,xs]
 rw [copy_loop hm]
 rotate_left
 ·simp -implicitDefEqProofs only [not_lt_self,eq_self,xs]
 ·intro i hi hbl
  have q1:((i:Nat):Int) < ((l.length:Nat):Int):=by omega
  have q2:(0:Int)≤(i:Int):=by omega
  simp -implicitDefEqProofs only [q1,q2,at_da hi,copyI hbl,w1 (show i≤9223372036854775806 by omega),eq_self,xs]
  have e:l.set i ((da l i).1,(da l i).2.1,(da l i).2.2.1,(da l i).2.2.2)=l:=set_self hi
  rw [e]
 simp -implicitDefEqProofs only [eq_self,xs]
 rw [loop_first l (fun x=>!keepC who inc x) (fun i=>(i:Int)) (-1) rfl]
 rotate_left
 ·simp -implicitDefEqProofs only [not_lt_self,eq_self,xs]
 ·intro i x hi hx
  have q1:((i:Nat):Int) < ((l.length:Nat):Int):=by omega
  have q2:(0:Int)≤(i:Int):=by omega
  simp -implicitDefEqProofs only [q1,q2,hx,w1 (show i≤9223372036854775806 by omega),eq_self,xs]
  unfold keepC
  cases (x.1==who)<;>cases decide (x.2.1≤inc)<;>rfl
 cases hany:l.any (fun x=>!keepC who inc x)
 ·have hall:List.filter (keepC who inc) l=l:=by
   rw [List.filter_eq_self]
   intro x hx
   rw [Bool.eq_false_iff] at hany
   cases hr:keepC who inc x
   ·exact absurd (List.any_eq_true.2 ⟨x,hx,by rw [hr]; rfl⟩) hany
   ·rfl
  have z:((-1:Int)==-1)=true:=rfl
  have q:0+l.length≤l.length:=by omega
  rw [if_neg (by decide),hall]
  simp -implicitDefEqProofs only [z,q,eq_self,xs]
  rw [List.drop_zero,List.take_length]
 ·rw [if_pos rfl]
  have hp:List.findIdx (fun x=>!keepC who inc x) l < l.length:=by
   rw [List.findIdx_lt_length]
   exact List.any_eq_true.1 hany
  have hpre:=filter_pre (keepC who inc) l hany
  generalize List.findIdx (fun x=>!keepC who inc x) l=p at *
  have z:((p:Int)==-1)=false:=by rw [beq_eq_false_iff_ne]; omega
  have hw:=w1 (show p≤9223372036854775806 by omega)
  simp -implicitDefEqProofs only [z,hw,eq_self,xs]
  obtain ⟨a,h1,h2,h3⟩:=loop_del (l:=l) (keepC who inc) (f:=fun v11 =>
        bif decide (v11.fst.snd < ((l.length:Nat):Int)) then
         (bif decide (0≤v11.fst.snd)&&decide (v11.fst.snd < ((l.length:Nat):Int)) then
            v11.snd[v11.fst.snd.toNat]?.bind fun v12 =>
             (bif v12.fst==who then some (decide (v12.snd.fst≤inc)) else some false).bind fun v13 =>
              bif !v13 then
               bif decide (0≤v11.fst.fst)&&decide (v11.fst.fst < ((l.length:Nat):Int)) then
                v11.snd[v11.fst.fst.toNat]?.bind fun v14 =>
                 some
                  (IntKind.i64.wrap (v11.fst.fst+1),
                   v11.snd.set v11.fst.fst.toNat
                    (v12.fst,v12.snd.fst,v12.snd.snd.fst,v12.snd.snd.snd))
               else none
              else some (v11.fst.fst,v11.snd)
           else none).bind
          fun v15=>some (Sum.inl ((v15.fst,IntKind.i64.wrap (v11.fst.snd+1)),v15.snd))
        else some (Sum.inr (v11.fst.fst,v11.snd))) p hp hpre (by
    intro i a ha
    simp -implicitDefEqProofs only [not_lt_self,eq_self,xs]) (by
    intro i j a x hij hjl ha hx
    have q1:((j:Nat):Int) < ((l.length:Nat):Int):=by omega
    have q2:(0:Int)≤(j:Int):=by omega
    have q3:((i:Nat):Int) < ((l.length:Nat):Int):=by omega
    have q4:(0:Int)≤(i:Int):=by omega
    have hi:a[i]?=some a[i]:=List.getElem?_eq_getElem (by omega)
    have wj:=w1 (show j≤9223372036854775806 by omega)
    have wi':=w1 (show i≤9223372036854775806 by omega)
    unfold keepC
    cases hc:(x.1==who)
    ·simp -implicitDefEqProofs only [q1,q2,q3,q4,hx,hi,hc,wj,wi',eq_self,xs]
    ·cases hd:decide (x.2.1≤inc)
     ·simp -implicitDefEqProofs only [q1,q2,q3,q4,hx,hi,hc,hd,wj,wi',eq_self,xs]
     ·simp -implicitDefEqProofs only [q1,q2,q3,q4,hx,hi,hc,hd,wj,wi',eq_self,xs])
  have hk:(l.filter (keepC who inc)).length≤l.length:=List.length_filter_le _ _
  generalize hm':(l.filter (keepC who inc)).length=m at *
  have q1:(0:Int)≤((m:Nat):Int):=by omega
  have q2:((m:Nat):Int)≤((l.length:Nat):Int):=by omega
  have q3:m+(l.length - m)≤a.length:=by omega
  rw [h1]
  simp -implicitDefEqProofs only [q1,q2,q3,eq_self,xs]
  have hl:(List.take m a).length=m:=by rw [List.length_take]; omega
  have q4:m≤(List.take m a).length+(List.replicate (l.length - m) (((0:Int),(0:Int),(0:Int),([]:List Int)))).length+(List.drop (m+(l.length - m)) a).length:=by omega
  rw [ct (decide_eq_true q4),List.drop_zero,List.append_assoc,List.take_left' hl,h3]
theorem may_clear {l:List DB} (hm:mayD l=true) (p:DB→Bool):mayD (l.filter p)=true:=by
 obtain ⟨h1,h2⟩:=may_iff.1 hm
 exact may_iff.2 ⟨List.Pairwise.filter _ h1,fun d hd=>h2 d (List.mem_filter.1 hd).1⟩
end Go.Proofs.Yticljphbbdnomaa.VL
end
section
namespace Go.Proofs.Yticljphbbdnomaa.VL
open Go
set_option linter.unusedVariables false
set_option linter.unusedSectionVars false
set_option linter.unusedSimpArgs false
set_option maxRecDepth 100000
variable [Val]
theorem look_filter {κ α:Type} {O:KOrd κ} {key:α→κ} {l:List α} (hs:O.Srt key l) (p:α→Bool) (k:κ):KOrd.look key (l.filter p) k=(match KOrd.look key l k with | some x=>if p x=true then some x else none | none=>none):=by
 have hsf:O.Srt key (l.filter p):=List.Pairwise.filter _ hs
 cases h:KOrd.look key l k with
 | none =>
  simp only
  exact KOrd.look_none' fun x hx=>KOrd.look_none h x (List.mem_filter.1 hx).1
 | some x =>
  obtain ⟨h1,h2⟩:=KOrd.look_some h
  simp only
  by_cases hp:p x=true
  ·rw [if_pos hp,← h2]
   exact KOrd.look_mem hsf (List.mem_filter.2 ⟨h1,hp⟩)
  ·rw [if_neg hp]
   refine KOrd.look_none' fun y hy e=>?_
   have hy:=List.mem_filter.1 hy
   have q:=KOrd.look_mem hs hy.1
   rw [e,h] at q
   cases q
   exact hp hy.2
abbrev MB:=List (Int×Int)
abbrev mg (x:Int) (m:MB):Option Int:=mget (kt:=.i .i64) (vt:=.i .u64) x m
theorem mg_cons (x:Int) (p:Int×Int) (r:MB):mg x (p::r)=if x=p.1 then some p.2 else mg x r:=by
 show cond (x==p.1) (some p.2) (mg x r)=_
 by_cases h:x=p.1
 ·have:(x==p.1)=true:=by rw [beq_iff_eq]; exact h
  rw [this,if_pos h]; rfl
 ·have:(x==p.1)=false:=by rw [beq_eq_false_iff_ne]; exact h
  rw [this,if_neg h]; rfl
theorem mp_cons (x v:Int) (p:Int×Int) (r:MB):mput (kt:=.i .i64) (vt:=.i .u64) x v (p::r)=if x=p.1 then (x,v)::r else p::mput (kt:=.i .i64) (vt:=.i .u64) x v r:=by
 show cond (x==p.1) ((x,v)::r) (p::mput (kt:=.i .i64) (vt:=.i .u64) x v r)=_
 by_cases h:x=p.1
 ·have:(x==p.1)=true:=by rw [beq_iff_eq]; exact h
  rw [this,if_pos h]; rfl
 ·have:(x==p.1)=false:=by rw [beq_eq_false_iff_ne]; exact h
  rw [this,if_neg h]; rfl
theorem md_cons (x:Int) (p:Int×Int) (r:MB):mdel (kt:=.i .i64) (vt:=.i .u64) x (p::r)=if x=p.1 then r else p::mdel (kt:=.i .i64) (vt:=.i .u64) x r:=by
 show cond (x==p.1) r (p::mdel (kt:=.i .i64) (vt:=.i .u64) x r)=_
 by_cases h:x=p.1
 ·have:(x==p.1)=true:=by rw [beq_iff_eq]; exact h
  rw [this,if_pos h]; rfl
 ·have:(x==p.1)=false:=by rw [beq_eq_false_iff_ne]; exact h
  rw [this,if_neg h]; rfl
theorem mg_put (x y v:Int):∀ m:MB,mg x (mput (kt:=.i .i64) (vt:=.i .u64) y v m)=if x=y then some v else mg x m
 | []=>mg_cons x (y,v) []
 | p::r=>by
  rw [mp_cons]
  by_cases hy:y=p.1
  ·rw [if_pos hy,mg_cons,mg_cons]
   by_cases h:x=y
   ·rw [if_pos h,if_pos h]
   ·rw [if_neg h,if_neg h,if_neg (by rw [← hy]; exact h)]
  ·rw [if_neg hy,mg_cons,mg_cons,mg_put x y v r]
   by_cases h:x=y
   ·rw [if_pos h,if_pos h,if_neg (by rw [h]; exact hy)]
   ·rw [if_neg h,if_neg h]
theorem mg_mem (x:Int):∀ m:MB,(mg x m).isSome=true ↔ x ∈ m.map Prod.fst
 | []=>by
  show (false=true) ↔ x ∈ ([]:List Int)
  simp
 | p::r=>by
  rw [mg_cons,List.map_cons,List.mem_cons]
  by_cases h:x=p.1
  ·rw [if_pos h]; exact ⟨fun _=>.inl h,fun _=>rfl⟩
  ·rw [if_neg h,mg_mem x r]; exact ⟨.inr,fun q=>q.resolve_left h⟩
theorem md_keys (x:Int):∀ m:MB,((mdel (kt:=.i .i64) (vt:=.i .u64) x m).map Prod.fst).Sublist (m.map Prod.fst)
 | []=>List.Sublist.refl _
 | p::r=>by
  rw [md_cons]
  by_cases h:x=p.1
  ·rw [if_pos h,List.map_cons]; exact List.sublist_cons_self _ _
  ·rw [if_neg h,List.map_cons,List.map_cons]; exact (md_keys x r).cons_cons _
theorem mg_del (x y:Int):∀ m:MB,(m.map Prod.fst).Nodup→mg x (mdel (kt:=.i .i64) (vt:=.i .u64) y m)=if x=y then none else mg x m
 | [],_=>by
  show none=_
  by_cases h:x=y
  ·rw [if_pos h]
  ·rw [if_neg h]; rfl
 | p::r,hn=>by
  rw [List.map_cons,List.nodup_cons] at hn
  rw [md_cons]
  by_cases hy:y=p.1
  ·rw [if_pos hy,mg_cons]
   by_cases h:x=y
   ·rw [if_pos h]
    cases hg:mg x r with
    | none=>rfl
    | some v =>
     have:=(mg_mem x r).1 (by rw [hg]; rfl)
     rw [h,hy] at this
     exact absurd this hn.1
   ·rw [if_neg h,if_neg (by rw [← hy]; exact h)]
  ·rw [if_neg hy,mg_cons,mg_cons,mg_del x y r hn.2]
   by_cases h:x=y
   ·rw [if_pos h,if_pos h,if_neg (by rw [h]; exact hy)]
   ·rw [if_neg h,if_neg h]
theorem mp_keys (x v:Int):∀ m:MB,(m.map Prod.fst).Nodup→((mput (kt:=.i .i64) (vt:=.i .u64) x v m).map Prod.fst).Nodup
 | [],_=>by show ([x]:List Int).Nodup; simp
 | p::r,hn=>by
  rw [List.map_cons,List.nodup_cons] at hn
  rw [mp_cons]
  by_cases h:x=p.1
  ·rw [if_pos h,List.map_cons,List.nodup_cons]
   exact ⟨by rw [h]; exact hn.1,hn.2⟩
  ·rw [if_neg h,List.map_cons,List.nodup_cons]
   refine ⟨fun q=>hn.1 ?_,mp_keys x v r hn.2⟩
   rw [← mg_mem,mg_put,if_neg (fun e=>h e.symm)] at q
   exact (mg_mem _ _).1 q
structure RB (now:List DB) (best:MB):Prop where
 m:mayD now=true
 nd:(best.map Prod.fst).Nodup
 eq:∀ w,mg w best=(KOrd.look Prod.fst now w).map fun d=>d.2.1
theorem RB.len {now:List DB} {best:MB} (h:RB now best):now.length=best.length:=by
 have hn:(now.map Prod.fst).Nodup:=by
  have:=may_srt h.m
  unfold KOrd.Srt at this
  rw [List.nodup_iff_pairwise_ne,List.pairwise_map]
  exact List.Pairwise.imp (fun {a b} hab=>KOrd.ne (O:=inO) hab) this
 have hp:(now.map Prod.fst).Perm (best.map Prod.fst):=(List.perm_ext_iff_of_nodup hn h.nd).2 fun w=>by
  rw [← mg_mem,h.eq]
  rw [Option.isSome_map]
  constructor
  ·intro hw
   obtain ⟨d,hd,e⟩:=List.mem_map.1 hw
   have:=KOrd.look_mem (may_srt h.m) hd
   rw [e] at this
   rw [this]; rfl
  ·intro hw
   obtain ⟨d,hd⟩:=Option.isSome_iff_exists.1 hw
   obtain ⟨h1,h2⟩:=KOrd.look_some hd
   exact List.mem_map.2 ⟨d,h1,h2⟩
 have:=hp.length_eq
 rwa [List.length_map,List.length_map] at this
theorem RB.clear {now:List DB} {best:MB} (h:RB now best) (who inc:Int):RB (now.filter (keepC who inc)) (cond (cond (mg who best).isSome (decide ((mg who best).getD 0≤inc)) false) (mdel (kt:=.i .i64) (vt:=.i .u64) who best) best):=by
 have hs:=may_srt h.m
 have hw:=h.eq who
 have key:∀ w,(KOrd.look Prod.fst (now.filter (keepC who inc)) w).map (fun d=>d.2.1)=if w=who∧(∃ d,KOrd.look Prod.fst now who=some d∧d.2.1≤inc) then none else mg w best:=by
  intro w
  rw [look_filter hs,h.eq w]
  cases hk:KOrd.look Prod.fst now w with
  | none=>simp only [Option.map_none]; split<;>rfl
  | some d =>
   have hd:=(KOrd.look_some hk).2
   simp only
   by_cases e:w=who
   ·subst e
    by_cases c:d.2.1≤inc
    ·have hkc:keepC w inc d=false:=by
      unfold keepC
      rw [show (d.1==w)=true by rw [beq_iff_eq]; exact hd,decide_eq_true c]; rfl
     rw [hkc,if_neg (by decide),if_pos ⟨rfl,d,hk,c⟩]; rfl
    ·have hkc:keepC w inc d=true:=by
      unfold keepC
      rw [decide_eq_false c,Bool.and_false]; rfl
     rw [hkc,if_pos rfl,if_neg (by
      rintro ⟨_,d',hd',c'⟩
      rw [hk] at hd'; cases hd'; exact c c')]
   ·have hkc:keepC who inc d=true:=by
     unfold keepC
     rw [show (d.1==who)=false by rw [beq_eq_false_iff_ne,hd]; exact e]; rfl
    rw [hkc,if_pos rfl,if_neg (fun q=>e q.1)]
 cases hk:KOrd.look Prod.fst now who with
 | none =>
  rw [hk] at hw
  rw [hw]
  refine ⟨may_clear h.m _,h.nd,fun w=>?_⟩
  rw [key w,if_neg (by rintro ⟨_,d,hd,_⟩; rw [hk] at hd; cases hd)]
  rfl
 | some d =>
  rw [hk] at hw
  rw [hw]
  by_cases c:d.2.1≤inc
  ·have e:(cond (Option.isSome (Option.map (fun d:DB=>d.2.1) (some d))) (decide ((Option.map (fun d:DB=>d.2.1) (some d)).getD 0≤inc)) false)=true:=decide_eq_true c
   rw [e,cond_true]
   refine ⟨may_clear h.m _,(md_keys who best).nodup h.nd,fun w=>?_⟩
   rw [key w,mg_del w who best h.nd]
   by_cases e2:w=who
   ·rw [if_pos e2,if_pos ⟨e2,d,hk,c⟩]
   ·rw [if_neg e2,if_neg (fun q=>e2 q.1)]
  ·have e:(cond (Option.isSome (Option.map (fun d:DB=>d.2.1) (some d))) (decide ((Option.map (fun d:DB=>d.2.1) (some d)).getD 0≤inc)) false)=false:=decide_eq_false c
   rw [e,cond_false]
   refine ⟨may_clear h.m _,h.nd,fun w=>?_⟩
   rw [key w,if_neg (by rintro ⟨_,d',hd',c'⟩; rw [hk] at hd'; cases hd'; exact c c')]
theorem RB.raise {now:List DB} {best:MB} (h:RB now best) {who inc by' t:Int} (hw:nodeB who=true) (hb:nodeB by'=true) (hn:momB t=true) :
  RB (raiseL now who inc by' t) (cond (cond (!(mg who best).isSome) true (decide ((mg who best).getD 0 < inc))) (mput (kt:=.i .i64) (vt:=.i .u64) who inc best) best):=by
 have hs:=may_srt h.m
 have hmm:=may_raise (inc:=inc) h.m hw hb hn
 have hg:=h.eq who
 have put:∀ x:DB,x.1=who→∀ w,(KOrd.look Prod.fst (inO.put Prod.fst now x) w).map (fun d=>d.2.1)=if w=who then some x.2.1 else mg w best:=by
  intro x hx w
  rw [KOrd.look_put hs]
  by_cases e:w=who
  ·rw [if_pos (by rw [hx,e]),if_pos e]; rfl
  ·rw [if_neg (by rw [hx]; exact fun q=>e q.symm),if_neg e,h.eq w]
 cases hk:KOrd.look Prod.fst now who with
 | none =>
  rw [hk] at hg
  have hr:raiseL now who inc by' t=inO.put Prod.fst now (who,(inc,(t,[by']))):=by unfold raiseL; rw [hk]
  rw [hr] at hmm ⊢
  rw [hg]
  refine ⟨hmm,mp_keys who inc best h.nd,fun w=>?_⟩
  rw [put _ rfl w]
  exact mg_put w who inc best
 | some d =>
  rw [hk] at hg
  rw [hg]
  by_cases c:d.2.1 < inc
  ·have hr:raiseL now who inc by' t=inO.put Prod.fst now (who,(inc,(t,[by']))):=by unfold raiseL; rw [hk]; exact if_pos c
   rw [hr] at hmm ⊢
   have e:(cond (!Option.isSome (Option.map (fun d:DB=>d.2.1) (some d))) true (decide ((Option.map (fun d:DB=>d.2.1) (some d)).getD 0 < inc)))=true:=decide_eq_true c
   rw [e,cond_true]
   refine ⟨hmm,mp_keys who inc best h.nd,fun w=>?_⟩
   rw [put _ rfl w]
   exact mg_put w who inc best
  ·have e:(cond (!Option.isSome (Option.map (fun d:DB=>d.2.1) (some d))) true (decide ((Option.map (fun d:DB=>d.2.1) (some d)).getD 0 < inc)))=false:=decide_eq_false c
   rw [e,cond_false]
   refine ⟨hmm,h.nd,fun w=>?_⟩
   have hd1:=(KOrd.look_some hk).2
   have hr:raiseL now who inc by' t=now∨raiseL now who inc by' t=inO.put Prod.fst now (more d by'):=by
    unfold raiseL
    rw [hk]
    simp only
    rw [if_neg c]
    split
    ·split
     ·exact .inl rfl
     ·exact .inr rfl
    ·exact .inl rfl
   rcases hr with hr | hr
   ·rw [hr]; exact h.eq w
   ·rw [hr,put (more d by') hd1 w]
    by_cases e2:w=who
    ·rw [if_pos e2,e2,hg]; rfl
    ·rw [if_neg e2]
end Go.Proofs.Yticljphbbdnomaa.VL
end
section
namespace Go.Proofs.Yticljphbbdnomaa.VL
open Go
set_option linter.unusedVariables false
set_option linter.unusedSectionVars false
set_option linter.unusedSimpArgs false
set_option maxRecDepth 100000
variable [Val]
theorem RB.nil:RB [] []:=⟨rfl,List.nodup_nil,fun w=>rfl⟩
theorem RB.at {now:List DB} {best:MB} (h:RB now best) {k:Nat} (hk:k < now.length):mget (kt:=.i .i64) (vt:=.i .u64) (now[k]).1 best=some (now[k]).2.1:=by
 have:=KOrd.look_mem (may_srt h.m) (List.getElem_mem hk)
 have q:=h.eq (now[k]).1
 rw [this] at q
 exact q
end Go.Proofs.Yticljphbbdnomaa.VL
end
section
namespace Go.Proofs.Yticljphbbdnomaa.VL
open Go
set_option linter.unusedVariables false
set_option linter.unusedSectionVars false
set_option linter.unusedSimpArgs false
set_option maxRecDepth 100000
variable [Val]
theorem F23_ok {l:List DB} {who inc:Int} (hl:l.length≤1000):F23 (l,who,inc)=some (l.filter (keepC who inc)):=by
 rw [F23_eq]
 rw [loop_detE (s0:=((0:Int),([]:List DB))) l.length (fun i=>((i:Int),(l.take i).filter (keepC who inc))) (l.filter (keepC who inc)) (by simp)]
 ·simp -implicitDefEqProofs only [not_lt_self,eq_self,xs]
 ·intro i hi
  have q1:((i:Nat):Int) < ((l.length:Nat):Int):=by omega
  have q2:(0:Int)≤(i:Int):=by omega
  have hlen:((l.take i).filter (keepC who inc)).length≤i:=Nat.le_trans (List.length_filter_le _ _) (by rw [List.length_take]; omega)
  rw [take_succ' hi,List.filter_append]
  generalize (l.take i).filter (keepC who inc)=L at *
  have z1:((L.length+1:Nat):Int) * 48≤70368744177664:=by omega
  have z2:((L.length+1:Nat):Int)≤70368744177664:=by omega
  have g:=at_da hi
  generalize da l i=d at *
  have hk:List.filter (keepC who inc) [d]=if keepC who inc d=true then [d] else []:=by
   rw [List.filter_cons]; rfl
  rw [hk]
  unfold keepC
  cases h1:(d.1==who)
  ·have e1:(d.1 != who)=true:=by rw [bne,h1]; rfl
   simp -implicitDefEqProofs only [q1,q2,g,e1,z1,z2,w1 (show i≤9223372036854775806 by omega),eq_self,xs]
  ·have e1:(d.1 != who)=false:=by rw [bne,h1]; rfl
   by_cases h2:d.2.1≤inc
   ·have e2:¬ d.2.1 > inc:=by omega
    simp -implicitDefEqProofs only [q1,q2,g,e1,e2,h2,z1,z2,List.append_nil,w1 (show i≤9223372036854775806 by omega),eq_self,xs]
   ·have e2:d.2.1 > inc:=by omega
    simp -implicitDefEqProofs only [q1,q2,g,e1,e2,h2,z1,z2,w1 (show i≤9223372036854775806 by omega),eq_self,xs]
theorem F41_ok {a b:List Int} (ha:a.length≤1000):F41 (a,b)=some (decide (a=b)):=by
 rw [F41_eq]
 by_cases hl:a.length=b.length
 ·have e:(((a.length:Nat):Int) != ((b.length:Nat):Int))=false:=by rw [hl]; exact bne_self_eq_false _
  simp -implicitDefEqProofs only [e,eq_self,xs]
  rw [loop_same a b hl rfl]
  ·simp -implicitDefEqProofs only [not_lt_self,eq_self,xs]
  ·intro i x y hi hx hy
   have q1:((i:Nat):Int) < ((a.length:Nat):Int):=by omega
   have q2:(0:Int)≤(i:Int):=by omega
   by_cases h:x=y
   ·have e:(x != y)=false:=by rw [h]; exact bne_self_eq_false _
    rw [if_pos h]
    simp -implicitDefEqProofs only [q1,q2,hx,hy,e,w1 (show i≤9223372036854775806 by omega),eq_self,xs]
   ·have e:(x != y)=true:=by rw [bne_iff_ne]; exact h
    rw [if_neg h]
    simp -implicitDefEqProofs only [q1,q2,hx,hy,e,eq_self,xs]
 ·have e:(((a.length:Nat):Int) != ((b.length:Nat):Int))=true:=by rw [bne_iff_ne]; omega
  have n:a≠b:=fun h=>hl (by rw [h])
  simp -implicitDefEqProofs only [e,eq_self,xs]
  rw [decide_eq_false n]
theorem F22_ok {a b:List DB} (ha:a.length≤1000) (hs:∀ d ∈ a,d.2.2.2.length≤1000):F22 (a,b)=some (decide (a=b)):=by
 rw [F22_eq]
 by_cases hl:a.length=b.length
 ·have e:(((a.length:Nat):Int) != ((b.length:Nat):Int))=false:=by rw [hl]; exact bne_self_eq_false _
  simp -implicitDefEqProofs only [e,eq_self,xs]
  rw [loop_same a b hl rfl]
  ·simp -implicitDefEqProofs only [eq_self,xs]
  ·simp -implicitDefEqProofs only [not_lt_self,eq_self,xs]
  ·intro i x y hi hx hy
   have q1:((i:Nat):Int) < ((a.length:Nat):Int):=by omega
   have q2:(0:Int)≤(i:Int):=by omega
   have h16:=F41_ok (a:=x.2.2.2) (b:=y.2.2.2) (hs x (List.mem_of_getElem? hx))
   have ex:x=y ↔ x.1=y.1∧x.2.1=y.2.1∧x.2.2.1=y.2.2.1∧x.2.2.2=y.2.2.2:=by
    obtain ⟨x1,x2,x3,x4⟩:=x
    obtain ⟨y1,y2,y3,y4⟩:=y
    simp
   by_cases h1:x.1=y.1
   ·have e1:(x.1==y.1)=true:=by rw [beq_iff_eq]; exact h1
    by_cases h2:x.2.1=y.2.1
    ·have e2:(x.2.1==y.2.1)=true:=by rw [beq_iff_eq]; exact h2
     by_cases h3:x.2.2.1=y.2.2.1
     ·have e3:(x.2.2.1==y.2.2.1)=true:=by rw [beq_iff_eq]; exact h3
      by_cases h4:x.2.2.2=y.2.2.2
      ·rw [decide_eq_true h4] at h16
       rw [if_pos (ex.2 ⟨h1,h2,h3,h4⟩)]
       simp -implicitDefEqProofs only [q1,q2,hx,hy,e1,e2,e3,h16,w1 (show i≤9223372036854775806 by omega),eq_self,xs]
      ·rw [decide_eq_false h4] at h16
       rw [if_neg (fun h=>h4 (ex.1 h).2.2.2)]
       simp -implicitDefEqProofs only [q1,q2,hx,hy,e1,e2,e3,h16,eq_self,xs]
     ·have e3:(x.2.2.1==y.2.2.1)=false:=by rw [beq_eq_false_iff_ne]; exact h3
      rw [if_neg (fun h=>h3 (ex.1 h).2.2.1)]
      simp -implicitDefEqProofs only [q1,q2,hx,hy,e1,e2,e3,eq_self,xs]
    ·have e2:(x.2.1==y.2.1)=false:=by rw [beq_eq_false_iff_ne]; exact h2
     rw [if_neg (fun h=>h2 (ex.1 h).2.1)]
     simp -implicitDefEqProofs only [q1,q2,hx,hy,e1,e2,eq_self,xs]
   ·have e1:(x.1==y.1)=false:=by rw [beq_eq_false_iff_ne]; exact h1
    rw [if_neg (fun h=>h1 (ex.1 h).1)]
    simp -implicitDefEqProofs only [q1,q2,hx,hy,e1,eq_self,xs]
 ·have e:(((a.length:Nat):Int) != ((b.length:Nat):Int))=true:=by rw [bne_iff_ne]; omega
  have n:a≠b:=fun h=>hl (by rw [h])
  simp -implicitDefEqProofs only [e,eq_self,xs]
  rw [decide_eq_false n]
theorem F24_ok (n:Int):F24 n=some (momB n):=by
 rw [F24_eq]; unfold momB
 show cond (decide (0≤n)) _ _=_
 cases decide (0≤n)<;>rfl
theorem bl_half:∀ n,n≤64→1≤n→bl n=bl (n / 2)+1:=by decide
theorem bits_loop {f:Int×Int→Option ((Int×Int) ⊕ Int)} (hf:∀ x k:Int,f (x,k)=cond (decide (x > 0)) (some (.inl (IntKind.wrap .i64 (Int.tdiv x 2),IntKind.wrap .i64 (k+1)))) (some (.inr k))):∀ (m n k:Nat),n≤m→n≤64→k+bl n≤1000→loopX f ((n:Int),(k:Int))=some ((k+bl n:Nat):Int)
 | 0,n,k,h,h2,hk=>by
  have:n=0:=by omega
  subst this
  rw [loopX_eq,hf]
  rfl
 | m+1,n,k,h,h2,hk=>by
  by_cases h0:n=0
  ·subst h0
   rw [loopX_eq,hf]
   rfl
  ·have e1:IntKind.wrap .i64 (Int.tdiv ((n:Nat):Int) 2)=((n / 2:Nat):Int):=by
    rw [Int.tdiv_eq_ediv_of_nonneg (by omega),wi (by omega) (by omega)]; omega
   have e2:IntKind.wrap .i64 (((k:Nat):Int)+1)=((k+1:Nat):Int):=w1 (by omega)
   rw [loopX_eq,hf,decide_eq_true (show ((n:Nat):Int) > 0 by omega),cond_true,e1,e2]
   show loopX f _=_
   have hb:=bl_half n h2 (by omega)
   rw [bits_loop hf m (n / 2) (k+1) (by omega) (by omega) (by omega),hb]
   congr 2
   omega
theorem F21_ok {a b c k:Int} {n:Nat} (h:rulesB a b c=true) (h1:1≤n) (h2:n≤64) (hk:0≤k):F21 ((a,b,c),(n:Int),k)=some (graceV a b c n k):=by
 obtain ⟨r1,r2,r3,r4,r5,r6⟩:=rules_bounds h
 obtain ⟨g1,g2,g3,g4,g5,g6,g7,g8⟩:=grace_in (k:=k) h h1 h2 hk
 have hbl:=(bl_tab n h2 h1).2.1
 rw [F21_eq]
 have hb:=bits_loop (f:=fun (v0:Int×Int)=>cond (decide (v0.1 > 0)) (some (.inl (IntKind.wrap .i64 (Int.tdiv v0.1 2),IntKind.wrap .i64 (v0.2+1)))) (some (.inr v0.2))) (fun x k=>rfl) n n 0 (Nat.le_refl _) h2 (by omega)
 rw [Nat.zero_add] at hb
 have w1:IntKind.i64.wrap (a * (bl n:Nat))=a * (bl n:Nat):=wrapI (by omega) (by omega)
 have hb':loopX (fun (v0:Int×Int)=>cond (decide (v0.1 > 0)) (some (.inl (IntKind.wrap .i64 (Int.tdiv v0.1 2),IntKind.wrap .i64 (v0.2+1)))) (some (.inr v0.2))) ((n:Int),(0:Int))=some ((bl n:Nat):Int):=hb
 unfold graceV
 by_cases hc:c=0
 ·subst hc
  simp -implicitDefEqProofs only [hb',w1,beq_self_eq_true,eq_self,xs]
 ·have hc':(c==0)=false:=by rw [beq_eq_false_iff_ne]; exact hc
  have em:Option.bind (cond (decide (k > c)) (some c) (some k)) (fun v2=>(some v2:Option Int))=some (min k c):=by
   by_cases hkc:k > c
   ·rw [decide_eq_true hkc,Int.min_eq_right (by omega)]; rfl
   ·rw [decide_eq_false hkc,Int.min_eq_left (by omega)]; rfl
  have em2:cond (decide (k > c)) (some c) (some k)=some (min k c):=by
   by_cases hkc:k > c
   ·rw [decide_eq_true hkc,Int.min_eq_right (by omega)]; rfl
   ·rw [decide_eq_false hkc,Int.min_eq_left (by omega)]; rfl
  have w2:IntKind.i64.wrap (b * (a * (bl n:Nat)))=a * (bl n:Nat) * b:=by rw [Int.mul_comm b]; exact wrapI (by omega) (by omega)
  have w3:IntKind.i64.wrap (a * (bl n:Nat) * b - a * (bl n:Nat))=a * (bl n:Nat) * b - a * (bl n:Nat):=wrapI (by omega) (by omega)
  have w4:IntKind.i64.wrap ((a * (bl n:Nat) * b - a * (bl n:Nat)) * min k c)=(a * (bl n:Nat) * b - a * (bl n:Nat)) * min k c:=wrapI (by omega) (by omega)
  have q:=quo_bounds (c:=c) g7 g8 (by omega)
  have w5:IntKind.i64.wrap (((a * (bl n:Nat) * b - a * (bl n:Nat)) * min k c).tdiv c)=((a * (bl n:Nat) * b - a * (bl n:Nat)) * min k c).tdiv c:=wrapI (by omega) (by omega)
  have w6:IntKind.i64.wrap (a * (bl n:Nat) * b - ((a * (bl n:Nat) * b - a * (bl n:Nat)) * min k c).tdiv c)=a * (bl n:Nat) * b - ((a * (bl n:Nat) * b - a * (bl n:Nat)) * min k c).tdiv c:=wrapI (by omega) (by omega)
  rw [if_neg hc]
  simp -implicitDefEqProofs only [hb',em2,w1,hc',hc,w2,w3,w4,w5,w6,eq_self,xs]
theorem F26_ok {l:List DB} {a b c:Int} {n:Nat} {now:Int} {rp:Bool} (hm:mayD l=true) (hr:rulesB a b c=true) (h1:1≤n) (h2:n≤64) (hn:momB now=true) :
  F26 (l,(a,b,c),(n:Int),now,rp)=some (l.filter (fun d=>ripB a b c n now d==rp)):=by
 have hl:=may_len hm
 rw [F26_eq]
 rw [loop_detE (s0:=((0:Int),([]:List DB))) l.length (fun i=>((i:Int),(l.take i).filter (fun d=>ripB a b c n now d==rp))) (l.filter (fun d=>ripB a b c n now d==rp)) (by simp)]
 ·simp -implicitDefEqProofs only [not_lt_self,eq_self,xs]
 ·intro i hi
  have q1:((i:Nat):Int) < ((l.length:Nat):Int):=by omega
  have q2:(0:Int)≤(i:Int):=by omega
  have hlen:((l.take i).filter (fun d=>ripB a b c n now d==rp)).length≤i:=Nat.le_trans (List.length_filter_le _ _) (by rw [List.length_take]; omega)
  rw [take_succ' hi,List.filter_append]
  generalize (l.take i).filter (fun d=>ripB a b c n now d==rp)=L at *
  have z1:((L.length+1:Nat):Int) * 48≤70368744177664:=by omega
  have z2:((L.length+1:Nat):Int)≤70368744177664:=by omega
  have g:=at_da hi
  obtain ⟨g1,g2,g3,g4⟩:=gr_of hm hi
  generalize da l i=d at *
  have hk:IntKind.wrap .i64 (((d.2.2.2.length:Nat):Int) - 1)=((d.2.2.2.length:Nat):Int) - 1:=wi (by omega) (by omega)
  have f21:=F21_ok (k:=((d.2.2.2.length:Nat):Int) - 1) hr h1 h2 (by omega)
  have gb:=grace_range (k:=((d.2.2.2.length:Nat):Int) - 1) hr h1 h2 (by omega)
  have hw:IntKind.wrap .i64 (d.2.2.1+graceV a b c n (((d.2.2.2.length:Nat):Int) - 1))=d.2.2.1+graceV a b c n (((d.2.2.2.length:Nat):Int) - 1):=wi (by omega) (by omega)
  have hk2:List.filter (fun d=>ripB a b c n now d==rp) [d]=if (ripB a b c n now d==rp)=true then [d] else []:=by
   rw [List.filter_cons]; rfl
  rw [hk2]
  unfold ripB gr
  cases h3:(decide (d.2.2.1+graceV a b c n (((d.2.2.2.length:Nat):Int) - 1)≤now)==rp)
  ·simp -implicitDefEqProofs only [q1,q2,g,hk,f21,hw,h3,z1,z2,List.append_nil,w1 (show i≤9223372036854775806 by omega),eq_self,xs]
  ·simp -implicitDefEqProofs only [q1,q2,g,hk,f21,hw,h3,z1,z2,w1 (show i≤9223372036854775806 by omega),eq_self,xs]
end Go.Proofs.Yticljphbbdnomaa.VL
end
section
namespace Go.Proofs.Yticljphbbdnomaa.VL
open Go
set_option linter.unusedVariables false
set_option linter.unusedSectionVars false
set_option linter.unusedSimpArgs false
set_option maxRecDepth 100000
variable [Val]
theorem many_pos {l:List Int} {x:Int}:0 < manyN l x ↔ x ∈ l:=by
 unfold manyN
 have key:∀ n,0 < cntP (fun k=>la l k==x) n ↔ ∃ k,k < n∧la l k=x:=by
  intro n
  induction n with
  | zero=>exact ⟨fun h=>absurd h (Nat.lt_irrefl 0),fun ⟨k,hk,_⟩=>absurd hk (by omega)⟩
  | succ n ih =>
   have e0:cntP (fun k=>la l k==x) (n+1)=cntP (fun k=>la l k==x) n+(if (la l n==x)=true then 1 else 0):=rfl
   rw [e0]
   clear e0
   by_cases h:la l n=x
   ·rw [if_pos (by rw [beq_iff_eq]; exact h)]
    exact ⟨fun _=>⟨n,by omega,h⟩,fun _=>by omega⟩
   ·rw [if_neg (by rw [beq_iff_eq]; exact h),Nat.add_zero,ih]
    constructor
    ·rintro ⟨k,hk,e⟩; exact ⟨k,by omega,e⟩
    ·rintro ⟨k,hk,e⟩
     refine ⟨k,?_,e⟩
     rcases Nat.lt_or_ge k n with q | q
     ·exact q
     ·have:k=n:=by omega
      subst this; exact absurd e h
 rw [key]
 constructor
 ·rintro ⟨k,hk,e⟩
  rw [← e,← la_eq hk]; exact List.getElem_mem hk
 ·intro h
  obtain ⟨k,hk,e⟩:=List.mem_iff_getElem.1 h
  exact ⟨k,hk,by rw [← la_eq hk]; exact e⟩
def mrg (S:List Int) (b:Int) (n:Nat):List Int:=((List.range n).map fun (k:Nat)=>((k:Nat):Int)).filter fun x=>x==b || decide (x ∈ S)
theorem mrg_snoc (S:List Int) (b:Int) (n:Nat):mrg S b (n+1)=if (((n:Nat):Int)==b || decide (((n:Nat):Int) ∈ S))=true then mrg S b n++[((n:Nat):Int)] else mrg S b n:=by
 unfold mrg
 rw [List.range_succ,List.map_append,List.filter_append]
 show _++List.filter _ [((n:Nat):Int)]=_
 rw [List.filter_cons]
 by_cases h:(((n:Nat):Int)==b || decide (((n:Nat):Int) ∈ S))=true
 ·rw [if_pos h,if_pos h]; rfl
 ·rw [if_neg h,if_neg h]; simp
theorem mrg_put {S:List Int} {b:Int} (hs:inO.Srt id S) (hn:∀ x ∈ S,nodeB x=true) (hb:nodeB b=true):mrg S b 64=inO.put id S b:=by
 refine KOrd.srt_ext (O:=inO) (key:=id) ?_ (KOrd.srt_put hs b) fun x=>?_
 ·unfold mrg KOrd.Srt
  refine List.Pairwise.filter _ ?_
  rw [List.pairwise_map]
  refine List.Pairwise.imp (fun {a c} h=>?_) List.pairwise_lt_range
  exact decide_eq_true (show ((a:Nat):Int) < ((c:Nat):Int) by omega)
 ·rw [KOrd.mem_put]
  unfold mrg
  rw [List.mem_filter,List.mem_map,Bool.or_eq_true,beq_iff_eq,decide_eq_true_iff]
  have nb:∀ y:Int,nodeB y=true→∃ k:Nat,k < 64∧((k:Nat):Int)=y:=by
   intro y hy
   unfold nodeB at hy
   rw [Bool.and_eq_true,decide_eq_true_iff,decide_eq_true_iff] at hy
   exact ⟨y.toNat,by omega,by omega⟩
  constructor
  ·rintro ⟨_,h | h⟩
   ·exact .inl h
   ·by_cases e:x=b
    ·exact .inl e
    ·exact .inr ⟨h,e⟩
  ·rintro (rfl | ⟨h,_⟩)
   ·obtain ⟨k,hk,e⟩:=nb x hb
    exact ⟨⟨k,List.mem_range.2 hk,e⟩,.inl rfl⟩
   ·obtain ⟨k,hk,e⟩:=nb x (hn x h)
    exact ⟨⟨k,List.mem_range.2 hk,e⟩,.inr h⟩
end Go.Proofs.Yticljphbbdnomaa.VL
end
section
namespace Go.Proofs.Yticljphbbdnomaa.VL
open Go
set_option linter.unusedVariables false
set_option linter.unusedSectionVars false
set_option linter.unusedSimpArgs false
set_option maxRecDepth 100000
variable [Val]
theorem plc_iff {κ α:Type} {O:KOrd κ} {key:α→κ} {l:List α} (hs:O.Srt key l) (k:κ):∀ i:Nat,(hi:i < l.length)→(O.lt (key l[i]) k=true ↔ i < O.plc key l k):=by
 intro i hi
 obtain ⟨e1,e2⟩:=KOrd.split hs k
 constructor
 ·intro h
  refine Nat.not_le.1 fun hge=>?_
  have hm:l[i] ∈ l.drop (O.plc key l k):=by rw [List.mem_iff_getElem?]; exact ⟨i - O.plc key l k,by rw [List.getElem?_drop,show O.plc key l k+(i - O.plc key l k)=i by omega,List.getElem?_eq_getElem hi]⟩
  rw [e2,List.mem_filter] at hm
  rw [h] at hm; exact absurd hm.2 (by decide)
 ·intro h
  have hm:l[i] ∈ l.take (O.plc key l k):=by rw [List.mem_iff_getElem?]; exact ⟨i,by rw [List.getElem?_take,if_pos h,List.getElem?_eq_getElem hi]⟩
  rw [e1,List.mem_filter] at hm
  exact hm.2
theorem F25_new {l:List DB} {who inc by' now:Int} (hm:mayD l=true) (hno:KOrd.look Prod.fst l who=none):F25 (l,(who,(inc,(by',now))))=some (inO.put Prod.fst l (who,(inc,(now,[by'])))):=by
 have hs:=may_srt hm
 have hl:=may_len hm
 have hput:=KOrd.put_ins hs (x:=((who,(inc,(now,[by']))):DB)) hno
 have hp:=KOrd.plc_le (O:=inO) (key:=Prod.fst) l who
 have hlt:=plc_iff hs who
 simp only at hput
 generalize inO.plc Prod.fst l who=p at *
 rw [← hput]
 generalize hone:((who,(inc,(now,[by']))):DB)=one at *
 have hLl:(l.take p++one::l.drop p).length=l.length+1:=by simp; omega
 have hle:∀ L:List DB,L.length≤1000→((L.length+1:Nat):Int) * 48≤70368744177664∧((L.length+1:Nat):Int)≤70368744177664:=fun L h=>⟨by omega,by omega⟩
 rw [F25_eq]
 rw [loop_detE (s0:=((false,(0:Int)),([]:List DB))) l.length (fun i=>((decide (p < i),((i:Nat):Int)),if i≤p then l.take i else (l.take p++one::l.drop p).take (i+1))) (decide (p < l.length),if l.length≤p then l else l.take p++one::l.drop p) (by
  rw [if_pos (Nat.zero_le _),decide_eq_false (Nat.not_lt_zero p)]; rfl)]
 ·by_cases hq:p < l.length
  ·rw [if_neg (by omega),decide_eq_true hq]
   simp -implicitDefEqProofs only [eq_self,xs]
  ·have:p=l.length:=by omega
   rw [if_pos (by omega),decide_eq_false hq]
   obtain ⟨z1,z2⟩:=hle l (by omega)
   have e:l.take p++one::l.drop p=l++[one]:=by rw [this,List.take_length,List.drop_length]
   have t:List.take (l.length+1) (l++[one])=l++[one]:=List.take_of_length_le (by simp)
   rw [e]
   simp -implicitDefEqProofs only [hone,z1,z2,t,eq_self,xs]
 ·by_cases hq:p < l.length
  ·have t:List.take (l.length+1) (l.take p++one::l.drop p)=l.take p++one::l.drop p:=List.take_of_length_le (by omega)
   rw [if_neg (by omega),if_neg (by omega),t]
   simp -implicitDefEqProofs only [not_lt_self,eq_self,xs]
  ·rw [if_pos (by omega),if_pos (by omega),List.take_length]
   simp -implicitDefEqProofs only [not_lt_self,eq_self,xs]
 ·intro i hi
  have q1:((i:Nat):Int) < ((l.length:Nat):Int):=by omega
  have q2:(0:Int)≤(i:Int):=by omega
  have g:=List.getElem?_eq_getElem hi
  have hcmp:=hlt i hi
  have hne:=KOrd.look_none hno l[i] (List.getElem_mem hi)
  have tk:l.take (i+1)=l.take i++[l[i]]:=by rw [List.take_add_one,g]; rfl
  generalize l[i]=d at *
  have e1:(d.1 != who)=true:=by rw [bne_iff_ne]; exact hne
  have ww:=w1 (show i≤9223372036854775806 by omega)
  rcases Nat.lt_trichotomy i p with h | h | h
  ·have h2:d.1 < who:=of_decide_eq_true (hcmp.2 h)
   have h3:¬ d.1 > who:=by omega
   obtain ⟨z1,z2⟩:=hle (l.take i) (by rw [List.length_take]; omega)
   rw [if_pos (by omega),if_pos (by omega),decide_eq_false (show ¬ p < i by omega),decide_eq_false (show ¬ p < i+1 by omega),tk]
   simp -implicitDefEqProofs only [q1,q2,g,h3,e1,z1,z2,ww,eq_self,xs]
  ·subst h
   have h2:¬ d.1 < who:=fun q=>absurd (hcmp.1 (decide_eq_true q)) (Nat.lt_irrefl i)
   have h3:d.1 > who:=by omega
   obtain ⟨z1,z2⟩:=hle (l.take i) (by rw [List.length_take]; omega)
   have z3:(((l.take i).length+1+1:Nat):Int) * 48≤70368744177664:=by rw [List.length_take]; omega
   have z4:(((l.take i).length+1+1:Nat):Int)≤70368744177664:=by rw [List.length_take]; omega
   have ed:l.drop i=d::l.drop (i+1):=by rw [List.drop_eq_getElem_cons hi,(List.getElem?_eq_some_iff.1 g).2]
   have et:(l.take i++one::l.drop i).take (i+1+1)=l.take i++[one]++[d]:=by
    have hA:(l.take i).length=i:=by rw [List.length_take]; omega
    rw [ed,List.take_append,hA,List.take_of_length_le (by omega),show i+1+1 - i=2 by omega]
    simp
   rw [if_pos (Nat.le_refl _),if_neg (by omega),decide_eq_false (Nat.lt_irrefl _),decide_eq_true (Nat.lt_succ_self _),et]
   simp -implicitDefEqProofs only [q1,q2,g,h3,e1,z1,z2,z3,z4,ww,hone,eq_self,xs]
  ·have h2:¬ d.1 < who:=fun q=>absurd (hcmp.1 (decide_eq_true q)) (by omega)
   have h3:d.1 > who:=by omega
   have gi:(l.take p++one::l.drop p)[i+1]?=some d:=by
    rw [List.getElem?_append_right (by rw [List.length_take]; omega),List.length_take,show i+1 - min p l.length=(i - p)+1 by omega,List.getElem?_cons_succ,List.getElem?_drop,show p+(i - p)=i by omega,g]
   have et:(l.take p++one::l.drop p).take (i+1+1)=(l.take p++one::l.drop p).take (i+1)++[d]:=by rw [List.take_add_one,gi]; rfl
   rw [if_neg (by omega),if_neg (by omega),decide_eq_true h,decide_eq_true (show p < i+1 by omega),et]
   generalize hT:(l.take p++one::l.drop p).take (i+1)=T
   obtain ⟨z1,z2⟩:=hle T (by rw [← hT,List.length_take]; omega)
   simp -implicitDefEqProofs only [q1,q2,g,h3,e1,z1,z2,ww,eq_self,xs]
end Go.Proofs.Yticljphbbdnomaa.VL
end
section
namespace Go.Proofs.Yticljphbbdnomaa.VL
open Go
set_option linter.unusedVariables false
set_option linter.unusedSectionVars false
set_option linter.unusedSimpArgs false
set_option maxRecDepth 100000
variable [Val]
noncomputable def newD (d:DB) (who inc by' now:Int):DB:=if d.2.1 < inc then (who,(inc,(now,[by']))) else if d.2.1 > inc∨by' ∈ d.2.2.2 then d else more d by'
theorem raise_set {l:List DB} {who inc by' now:Int} {d:DB} (hm:mayD l=true) (hd:KOrd.look Prod.fst l who=some d):raiseL l who inc by' now=l.set (inO.plc Prod.fst l who) (newD d who inc by' now):=by
 obtain ⟨hlt,hat,hk,hmem⟩:=nodup_rule hm hd
 have hs:=may_srt hm
 have self:l.set (inO.plc Prod.fst l who) d=l:=by
  have:=(List.getElem?_eq_some_iff.1 hat).2
  rw [← this,List.set_getElem_self]
 unfold raiseL newD
 rw [hd]
 simp only
 by_cases c1:d.2.1 < inc
 ·rw [if_pos c1,if_pos c1]
  exact (KOrd.put_set hs (x:=((who,(inc,(now,[by']))):DB)) hat hk).symm
 rw [if_neg c1,if_neg c1]
 by_cases c2:d.2.1=inc
 ·rw [if_pos c2]
  by_cases c3:by' ∈ d.2.2.2
  ·rw [if_pos c3,if_pos (.inr c3),self]
  ·rw [if_neg c3,if_neg (by rintro (q | q); omega; exact c3 q)]
   have ek:(more d by').1=who:=hk
   have hput:=KOrd.put_set hs (x:=more d by') (y:=d) (by rw [ek]; exact hat) rfl
   rw [ek] at hput
   exact hput.symm
 ·rw [if_neg c2,if_pos (.inl (by omega)),self]
theorem F25_there {l:List DB} {who inc by' now:Int} {d:DB} (hm:mayD l=true) (hb:nodeB by'=true) (hd:KOrd.look Prod.fst l who=some d):F25 (l,(who,(inc,(by',now))))=some (raiseL l who inc by' now):=by
 have hs:=may_srt hm
 have hl:=may_len hm
 obtain ⟨hplt,hat,hk,hmem⟩:=nodup_rule hm hd
 have hby:=may_by hm hmem
 have hbs:=up_srt hby.1
 have hbn:=(up_iff.1 hby.1).2
 have hlt:=plc_iff hs who
 rw [raise_set hm hd]
 generalize inO.plc Prod.fst l who=p at *
 have hle:∀ L:List DB,L.length≤1000→((L.length+1:Nat):Int) * 48≤70368744177664∧((L.length+1:Nat):Int)≤70368744177664:=fun L h=>⟨by omega,by omega⟩
 have f42:∀ x,F42 (d.2.2.2,x)=some ((manyN d.2.2.2 x:Nat):Int):=fun x=>F42_ok (Nat.le_trans hby.2.2.1 (by decide))
 generalize hx:newD d who inc by' now=x
 rw [F25_eq]
 rw [loop_detE (s0:=((false,(0:Int)),([]:List DB))) l.length (fun i=>((decide (p < i),((i:Nat):Int)),(l.set p x).take i)) (true,l.set p x) (by
  rw [decide_eq_false (Nat.not_lt_zero p)]; rfl)]
 ·simp -implicitDefEqProofs only [eq_self,xs]
 ·have t:List.take l.length (l.set p x)=l.set p x:=List.take_of_length_le (by rw [List.length_set]; omega)
  rw [t,decide_eq_true hplt]
  simp -implicitDefEqProofs only [not_lt_self,eq_self,xs]
 ·intro i hi
  have q1:((i:Nat):Int) < ((l.length:Nat):Int):=by omega
  have q2:(0:Int)≤(i:Int):=by omega
  have g:=List.getElem?_eq_getElem hi
  have hcmp:=hlt i hi
  have gs:(l.set p x)[i]?=if p=i then some x else some l[i]:=by
   rw [List.getElem?_set]
   by_cases e:p=i
   ·rw [if_pos e,if_pos e,if_pos hplt]
   ·rw [if_neg e,if_neg e,g]
  have ww:=w1 (show i≤9223372036854775806 by omega)
  have hTl:((l.set p x).take i).length≤1000:=by rw [List.length_take,List.length_set]; omega
  obtain ⟨z1,z2⟩:=hle _ hTl
  by_cases hip:p=i
  ·subst hip
   rw [if_pos rfl] at gs
   have tk:(l.set p x).take (p+1)=(l.set p x).take p++[x]:=by rw [List.take_add_one,gs]; rfl
   rw [tk,decide_eq_false (Nat.lt_irrefl p),decide_eq_true (Nat.lt_succ_self p)]
   generalize (l.set p x).take p=T at *
   have h3:¬ d.1 > who:=by omega
   have e1:(d.1 != who)=false:=by rw [hk]; exact bne_self_eq_false _
   unfold newD at hx
   by_cases c1:d.2.1 < inc
   ·rw [if_pos c1] at hx
    simp -implicitDefEqProofs only [q1,q2,hat,h3,e1,c1,z1,z2,ww,hx,eq_self,xs]
   rw [if_neg c1] at hx
   by_cases c2:d.2.1 > inc
   ·rw [if_pos (.inl c2)] at hx
    subst hx
    simp -implicitDefEqProofs only [q1,q2,hat,h3,e1,c1,c2,z1,z2,ww,eq_self,xs]
   by_cases c3:by' ∈ d.2.2.2
   ·rw [if_pos (.inr c3)] at hx
    subst hx
    have c4:((manyN d.2.2.2 by':Nat):Int) > 0:=by have:=many_pos.2 c3; omega
    simp -implicitDefEqProofs only [q1,q2,hat,h3,e1,c1,c2,f42,c4,z1,z2,ww,eq_self,xs]
   ·rw [if_neg (by rintro (q | q); exact c2 q; exact c3 q)] at hx
    have c4:¬ ((manyN d.2.2.2 by':Nat):Int) > 0:=fun q=>c3 (many_pos.1 (by omega))
    simp -implicitDefEqProofs only [q1,q2,hat,h3,e1,c1,c2,f42,c4,eq_self,xs]
    rw [loop_detE (s0:=((0:Int),(who,inc,d.2.2.1),([]:List Int))) 64 (fun n=>(((n:Nat):Int),((who,inc,d.2.2.1),mrg d.2.2.2 by' n))) (who,(inc,(d.2.2.1,mrg d.2.2.2 by' 64))) rfl]
    ·have ex:(who,(inc,(d.2.2.1,mrg d.2.2.2 by' 64)))=x:=by
      rw [← hx,mrg_put hbs hbn hb]
      unfold more
      rw [hk,show d.2.1=inc by omega]
     simp -implicitDefEqProofs only [z1,z2,ww,ex,eq_self,xs]
    ·have q:¬ ((64:Nat):Int) < 64:=by omega
     simp -implicitDefEqProofs only [q,eq_self,xs]
    ·intro n hn
     have p1:((n:Nat):Int) < 64:=by omega
     have hml:(mrg d.2.2.2 by' n).length≤64:=by
      unfold mrg
      refine Nat.le_trans (List.length_filter_le _ _) ?_
      rw [List.length_map,List.length_range]; omega
     have hmp:decide (((manyN d.2.2.2 ((n:Nat):Int):Nat):Int) > 0)=decide (((n:Nat):Int) ∈ d.2.2.2):=by
      rw [Bool.eq_iff_iff,decide_eq_true_iff,decide_eq_true_iff,← many_pos]; omega
     rw [mrg_snoc]
     generalize mrg d.2.2.2 by' n=M at *
     have y1:((M.length+1:Nat):Int) * 8≤70368744177664:=by omega
     have y2:((M.length+1:Nat):Int)≤70368744177664:=by omega
     have wn:=w1 (show n≤9223372036854775806 by omega)
     cases hc5:(((n:Nat):Int)==by')
     ·by_cases hc6:((n:Nat):Int) ∈ d.2.2.2
      ·rw [decide_eq_true hc6] at hmp
       simp -implicitDefEqProofs only [p1,hc5,hc6,f42,hmp,q2,hat,y1,y2,wn,eq_self,xs]
      ·rw [decide_eq_false hc6] at hmp
       simp -implicitDefEqProofs only [p1,hc5,hc6,f42,hmp,q2,hat,y1,y2,wn,eq_self,xs]
     ·simp -implicitDefEqProofs only [p1,hc5,y1,y2,wn,eq_self,xs]
  ·rw [if_neg hip] at gs
   have tk:(l.set p x).take (i+1)=(l.set p x).take i++[l[i]]:=by rw [List.take_add_one,gs]; rfl
   rw [tk]
   generalize (l.set p x).take i=T at *
   have hmi:=List.getElem_mem hi
   have hne:l[i].1≠who:=by
    intro e
    have hpw:=hs
    unfold KOrd.Srt at hpw
    rw [List.pairwise_iff_getElem] at hpw
    have hp':l[p]=d:=(List.getElem?_eq_some_iff.1 hat).2
    rcases Nat.lt_or_gt_of_ne hip with h | h
    ·have:=hpw p i hplt hi h
     rw [hp',hk,e,inO.irr] at this
     cases this
    ·have:=hpw i p hi hplt h
     rw [hp',hk,e,inO.irr] at this
     cases this
   generalize l[i]=e at *
   have e1:(e.1 != who)=true:=by rw [bne_iff_ne]; exact hne
   rcases Nat.lt_or_ge i p with h | h
   ·have h2:e.1 < who:=of_decide_eq_true (hcmp.2 h)
    have h3:¬ e.1 > who:=by omega
    rw [decide_eq_false (show ¬ p < i by omega),decide_eq_false (show ¬ p < i+1 by omega)]
    simp -implicitDefEqProofs only [q1,q2,g,h3,e1,z1,z2,ww,eq_self,xs]
   ·have h2:¬ e.1 < who:=fun q=>absurd (hcmp.1 (decide_eq_true q)) (by omega)
    have h3:e.1 > who:=by omega
    rw [decide_eq_true (show p < i by omega),decide_eq_true (show p < i+1 by omega)]
    simp -implicitDefEqProofs only [q1,q2,g,h3,e1,z1,z2,ww,eq_self,xs]
theorem F25_ok {l:List DB} {who inc by' now:Int} (hm:mayD l=true) (hb:nodeB by'=true):F25 (l,(who,(inc,(by',now))))=some (raiseL l who inc by' now):=by
 cases hd:KOrd.look Prod.fst l who with
 | none =>
  rw [F25_new hm hd]
  unfold raiseL
  rw [hd]
 | some d=>exact F25_there hm hb hd
end Go.Proofs.Yticljphbbdnomaa.VL
end
section
namespace Go.Proofs.Yticljphbbdnomaa.VL
open Go
set_option linter.unusedVariables false
set_option linter.unusedSectionVars false
set_option linter.unusedSimpArgs false
set_option maxRecDepth 100000
variable [Val]
theorem F12_bad {l:List DB} {who inc:Int} (hz:szD l) (hm:mayD l=false):F12 (l,who,inc)=some (l,1):=by
 rw [F12_eq]
 simp -implicitDefEqProofs only [F14_ok hz,hm,nz1,eq_self,xs]
theorem F20_bad {l:List DB} {a b c N now:Int} (hz:szD l) (h:(mayD l&&(rulesB a b c&&((decide (1≤N)&&decide (N≤64))&&momB now)))=false):F20 (l,(a,b,c),N,now)=some ([],[],1):=by
 rw [F20_eq]
 cases hm:mayD l
 ·simp -implicitDefEqProofs only [F14_ok hz,hm,nz1,eq_self,xs]
 cases hr:rulesB a b c
 ·simp -implicitDefEqProofs only [F14_ok hz,hm,nz0,F17_ok a b c,hr,nz1,eq_self,xs]
 cases hN:(decide (1≤N)&&decide (N≤64))
 ·simp -implicitDefEqProofs only [F14_ok hz,hm,nz0,F17_ok a b c,hr,F27_ok N 1 64,hN,eq_self,xs]
 cases hn:momB now
 ·simp -implicitDefEqProofs only [F14_ok hz,hm,nz0,F17_ok a b c,hr,F27_ok N 1 64,hN,F33_ok now,hn,eq_self,xs]
 rw [hm,hr,hN,hn] at h
 cases h
theorem F8_ok {L:List DB} {a b c N C W B I now:Int} (hL:L.length≤maxLen):F8 (L,a,b,c,N,C,W,B,I,now)=some true:=by
 have f11:F11 ()=some true:=rfl
 obtain ⟨l,h18,hf⟩:=F18_ok hL
 have hz:=few_sz hf
 have s1:l.length≤1000:=by have:=hf.1; omega
 have s2:∀ d ∈ l,d.2.2.2.length≤1000:=fun d hd=>by have:=hf.2 d hd; omega
 have f22:∀ X,F22 (l,X)=some (decide (l=X)):=fun X=>F22_ok s1 s2
 have f15:∀ X,F15 (l,X)=some (decide (l=X)):=fun X=>F15_ok s1 s2
 have bb:∀ x:Bool,(x==x)=true:=fun x=>beq_self_eq_true x
 have eN:cond (decide (1≤N)) (some (decide (N≤64))) (some false)=some (decide (1≤N)&&decide (N≤64)):=by cases decide (1≤N)<;>rfl
 have f17:=F17_ok a b c
 have f10:=F10_ok a b c
 have f9:=F9_ok a b c N C
 have n11:((1:Int) != 1)=false:=rfl
 have n10:((1:Int)==0)=false:=rfl
 have n01:((0:Int)==1)=false:=rfl
 have i11:((1:Int)==1)=true:=rfl
 have i00:((0:Int)==0)=true:=rfl
 have z00:(((0:Nat):Int)==0)=true:=rfl
 have ff:(false==false)=true:=rfl
 have tt:(true==true)=true:=rfl
 have tf:(true==false)=false:=rfl
 rw [F8_eq]
 cases hm:mayD l
 ·have f13:=F13_bad (who:=W) (inc:=I) (by':=B) (now:=now) hz (by rw [hm]; rfl)
  have f12:=F12_bad (who:=W) (inc:=I) hz hm
  have f20:=F20_bad (a:=a) (b:=b) (c:=c) (N:=N) (now:=now) hz (by rw [hm]; rfl)
  cases hr:rulesB a b c
  ·rw [hr] at f9 f10 f17
   simp only [Bool.false_and,Bool.false_eq_true,if_false] at f9 f17
   simp -implicitDefEqProofs only [h18,eN,f10,f17,F14_ok hz,F19_ok hz,F24_ok now,hm,f12,f20,f22,f15,bb,f11,nz0,nz1,n11,n10,n01,i11,z00,ff,tt,tf,hr,f13,f9,beq_self_eq_true,eq_self,xs]
  ·rw [hr] at f9 f10 f17
   simp only [Bool.true_and,if_true] at f9 f17
   cases hN:(decide (1≤N)&&decide (N≤64))
   ·rw [hN] at f9 eN
    simp only [Bool.false_and,Bool.false_eq_true,if_false] at f9
    simp -implicitDefEqProofs only [h18,eN,f10,f17,F14_ok hz,F19_ok hz,F24_ok now,hm,f12,f20,f22,f15,bb,f11,nz0,nz1,n11,n10,n01,i11,z00,ff,tt,tf,hr,f13,f9,beq_self_eq_true,eq_self,xs]
   ·rw [hN] at f9 eN
    have hN':1≤N∧N≤64:=by simpa using hN
    obtain ⟨n,rfl⟩:∃ n:Nat,N=n:=⟨N.toNat,by omega⟩
    by_cases hC:C < 0
    ·simp only [decide_eq_false (show ¬ 0≤C by omega),Bool.and_false,Bool.false_eq_true,if_false] at f9
     simp -implicitDefEqProofs only [h18,eN,f10,f17,F14_ok hz,F19_ok hz,F24_ok now,hm,f12,f20,f22,f15,bb,f11,nz0,nz1,n11,n10,n01,i11,z00,ff,tt,tf,hr,f13,f9,hC,beq_self_eq_true,eq_self,xs]
    ·simp only [decide_eq_true (show 0≤C by omega),Bool.and_true,Bool.true_and,if_true,Int.toNat_natCast] at f9
     have f21:=F21_ok (k:=C) hr (show 1≤n by omega) (by omega) (by omega)
     simp -implicitDefEqProofs only [h18,eN,f10,f17,F14_ok hz,F19_ok hz,F24_ok now,hm,f12,f20,f22,f15,bb,f11,nz0,nz1,n11,n10,n01,i11,z00,ff,tt,tf,hr,f13,f9,hC,f21,bne_self_eq_false,beq_self_eq_true,eq_self,xs]
 ·have f12:=F12_ok (who:=W) (inc:=I) hm
  have f23:=F23_ok (who:=W) (inc:=I) s1
  have m1:=may_clear hm (keepC W I)
  have f15c:=F15_ok (a:=l.filter (keepC W I)) (b:=l.filter (keepC W I)) (by have:=may_len m1; omega) (fun d hd=>by have:=(may_by m1 hd).2.2.1; omega)
  rw [decide_eq_true rfl] at f15c
  have raise:(∃ A:List DB,F13 (l,W,I,B,now)=some (A,1)∧A=l∧(W < 0∨(¬ W < 0∧W > 63)∨(¬ W < 0∧¬ W > 63∧B < 0)∨(¬ W < 0∧¬ W > 63∧¬ B < 0∧B > 63)∨(¬ W < 0∧¬ W > 63∧¬ B < 0∧¬ B > 63∧momB now=false)))∨(∃ A:List DB,F13 (l,W,I,B,now)=some (A,0)∧F25 (l,W,I,B,now)=some A∧F15 (A,A)=some true∧¬ W < 0∧¬ W > 63∧¬ B < 0∧¬ B > 63∧momB now=true):=by
   have nb:∀ x:Int,nodeB x=(decide (0≤x)&&decide (x≤63)):=fun x=>rfl
   by_cases hall:¬ W < 0∧¬ W > 63∧¬ B < 0∧¬ B > 63∧momB now=true
   ·right
    obtain ⟨h1,h2,h3,h4,h5⟩:=hall
    have hw:nodeB W=true:=by rw [nb,decide_eq_true (by omega),decide_eq_true (by omega)]; rfl
    have hb:nodeB B=true:=by rw [nb,decide_eq_true (by omega),decide_eq_true (by omega)]; rfl
    have m2:=may_raise (inc:=I) hm hw hb h5
    have q:=F15_ok (a:=raiseL l W I B now) (b:=raiseL l W I B now) (by have:=may_len m2; omega) (fun d hd=>by have:=(may_by m2 hd).2.2.1; omega)
    rw [decide_eq_true rfl] at q
    exact ⟨_,F13_ok hm hw hb h5,F25_ok hm hb,q,h1,h2,h3,h4,h5⟩
   ·left
    refine ⟨l,F13_bad hz ?_,rfl,?_⟩
    ·rw [Bool.eq_false_iff]
     intro q
     rw [Bool.and_eq_true,Bool.and_eq_true,Bool.and_eq_true,nb,nb,Bool.and_eq_true,Bool.and_eq_true,decide_eq_true_iff,decide_eq_true_iff,decide_eq_true_iff,decide_eq_true_iff] at q
     exact hall ⟨by omega,by omega,by omega,by omega,q.2.2.2⟩
    ·by_cases h1:W < 0
     ·exact .inl h1
     by_cases h2:W > 63
     ·exact .inr (.inl ⟨h1,h2⟩)
     by_cases h3:B < 0
     ·exact .inr (.inr (.inl ⟨h1,h2,h3⟩))
     by_cases h4:B > 63
     ·exact .inr (.inr (.inr (.inl ⟨h1,h2,h3,h4⟩)))
     ·refine .inr (.inr (.inr (.inr ⟨h1,h2,h3,h4,?_⟩)))
      rw [Bool.eq_false_iff]
      exact fun h5=>hall ⟨h1,h2,h3,h4,h5⟩
  have ripe:(∀ N,(rulesB a b c&&((decide (1≤N)&&decide (N≤64))&&momB now))=false→F20 (l,(a,b,c),N,now)=some ([],[],1)):=fun N h=>F20_bad hz (by rw [h,Bool.and_false])
  have self:∀ p:DB→Bool,F15 (l.filter p,l.filter p)=some true:=fun p=>by
   have m3:=may_clear hm p
   have q:=F15_ok (a:=l.filter p) (b:=l.filter p) (by have:=may_len m3; omega) (fun d hd=>by have:=(may_by m3 hd).2.2.1; omega)
   rw [decide_eq_true rfl] at q
   exact q
  have tl:decide (l=l)=true:=decide_eq_true rfl
  cases hmo:momB now
  ·rcases raise with ⟨A,f13,eA,hbad⟩ | ⟨A,f13,f25,f15a,k1,k2,k3,k4,k5⟩
   ·subst eA
    rcases hbad with k1 | ⟨k1,k2⟩ | ⟨k1,k2,k3⟩ | ⟨k1,k2,k3,k4⟩ | ⟨k1,k2,k3,k4,k5⟩
    ·cases hr:rulesB a b c
     ·rw [hr] at f9 f10 f17
      simp only [Bool.false_and,Bool.false_eq_true,if_false] at f9 f17
      have f20:=ripe N (by rw [hr]; rfl)
      simp -implicitDefEqProofs only [h18,eN,f10,f17,F14_ok hz,F19_ok hz,F24_ok now,hmo,hm,f12,f23,f15c,f13,f20,f22,f15,bb,f11,nz0,nz1,n11,n10,n01,i11,i00,z00,ff,tt,tf,hr,beq_self_eq_true,f9,k1,tl,eq_self,xs]
     ·rw [hr] at f9 f10 f17
      simp only [Bool.true_and,if_true] at f9 f17
      cases hN:(decide (1≤N)&&decide (N≤64))
      ·rw [hN] at f9 eN
       simp only [Bool.false_and,Bool.false_eq_true,if_false] at f9
       have f20:=ripe N (by rw [hr,hN]; rfl)
       simp -implicitDefEqProofs only [h18,eN,f10,f17,F14_ok hz,F19_ok hz,F24_ok now,hmo,hm,f12,f23,f15c,f13,f20,f22,f15,bb,f11,nz0,nz1,n11,n10,n01,i11,i00,z00,ff,tt,tf,hr,beq_self_eq_true,f9,k1,tl,eq_self,xs]
      ·rw [hN] at f9 eN
       have hN':1≤N∧N≤64:=by simpa using hN
       obtain ⟨n,rfl⟩:∃ n:Nat,N=n:=⟨N.toNat,by omega⟩
       by_cases hC:C < 0
       ·simp only [decide_eq_false (show ¬ 0≤C by omega),Bool.and_false,Bool.false_eq_true,if_false] at f9
        have f20:=ripe ((n:Nat):Int) (by rw [hr,hN,hmo]; rfl)
        simp -implicitDefEqProofs only [h18,eN,f10,f17,F14_ok hz,F19_ok hz,F24_ok now,hmo,hm,f12,f23,f15c,f13,f20,f22,f15,bb,f11,nz0,nz1,n11,n10,n01,i11,i00,z00,ff,tt,tf,hr,beq_self_eq_true,f9,hC,k1,tl,eq_self,xs]
       ·simp only [decide_eq_true (show 0≤C by omega),Bool.and_true,Bool.true_and,if_true,Int.toNat_natCast] at f9
        have f21:=F21_ok (k:=C) hr (show 1≤n by omega) (by omega) (by omega)
        have f20:=ripe ((n:Nat):Int) (by rw [hr,hN,hmo]; rfl)
        simp -implicitDefEqProofs only [h18,eN,f10,f17,F14_ok hz,F19_ok hz,F24_ok now,hmo,hm,f12,f23,f15c,f13,f20,f22,f15,bb,f11,nz0,nz1,n11,n10,n01,i11,i00,z00,ff,tt,tf,hr,beq_self_eq_true,f9,hC,f21,bne_self_eq_false,k1,tl,eq_self,xs]
    ·cases hr:rulesB a b c
     ·rw [hr] at f9 f10 f17
      simp only [Bool.false_and,Bool.false_eq_true,if_false] at f9 f17
      have f20:=ripe N (by rw [hr]; rfl)
      simp -implicitDefEqProofs only [h18,eN,f10,f17,F14_ok hz,F19_ok hz,F24_ok now,hmo,hm,f12,f23,f15c,f13,f20,f22,f15,bb,f11,nz0,nz1,n11,n10,n01,i11,i00,z00,ff,tt,tf,hr,beq_self_eq_true,f9,k1,k2,tl,eq_self,xs]
     ·rw [hr] at f9 f10 f17
      simp only [Bool.true_and,if_true] at f9 f17
      cases hN:(decide (1≤N)&&decide (N≤64))
      ·rw [hN] at f9 eN
       simp only [Bool.false_and,Bool.false_eq_true,if_false] at f9
       have f20:=ripe N (by rw [hr,hN]; rfl)
       simp -implicitDefEqProofs only [h18,eN,f10,f17,F14_ok hz,F19_ok hz,F24_ok now,hmo,hm,f12,f23,f15c,f13,f20,f22,f15,bb,f11,nz0,nz1,n11,n10,n01,i11,i00,z00,ff,tt,tf,hr,beq_self_eq_true,f9,k1,k2,tl,eq_self,xs]
      ·rw [hN] at f9 eN
       have hN':1≤N∧N≤64:=by simpa using hN
       obtain ⟨n,rfl⟩:∃ n:Nat,N=n:=⟨N.toNat,by omega⟩
       by_cases hC:C < 0
       ·simp only [decide_eq_false (show ¬ 0≤C by omega),Bool.and_false,Bool.false_eq_true,if_false] at f9
        have f20:=ripe ((n:Nat):Int) (by rw [hr,hN,hmo]; rfl)
        simp -implicitDefEqProofs only [h18,eN,f10,f17,F14_ok hz,F19_ok hz,F24_ok now,hmo,hm,f12,f23,f15c,f13,f20,f22,f15,bb,f11,nz0,nz1,n11,n10,n01,i11,i00,z00,ff,tt,tf,hr,beq_self_eq_true,f9,hC,k1,k2,tl,eq_self,xs]
       ·simp only [decide_eq_true (show 0≤C by omega),Bool.and_true,Bool.true_and,if_true,Int.toNat_natCast] at f9
        have f21:=F21_ok (k:=C) hr (show 1≤n by omega) (by omega) (by omega)
        have f20:=ripe ((n:Nat):Int) (by rw [hr,hN,hmo]; rfl)
        simp -implicitDefEqProofs only [h18,eN,f10,f17,F14_ok hz,F19_ok hz,F24_ok now,hmo,hm,f12,f23,f15c,f13,f20,f22,f15,bb,f11,nz0,nz1,n11,n10,n01,i11,i00,z00,ff,tt,tf,hr,beq_self_eq_true,f9,hC,f21,bne_self_eq_false,k1,k2,tl,eq_self,xs]
    ·cases hr:rulesB a b c
     ·rw [hr] at f9 f10 f17
      simp only [Bool.false_and,Bool.false_eq_true,if_false] at f9 f17
      have f20:=ripe N (by rw [hr]; rfl)
      simp -implicitDefEqProofs only [h18,eN,f10,f17,F14_ok hz,F19_ok hz,F24_ok now,hmo,hm,f12,f23,f15c,f13,f20,f22,f15,bb,f11,nz0,nz1,n11,n10,n01,i11,i00,z00,ff,tt,tf,hr,beq_self_eq_true,f9,k1,k2,k3,tl,eq_self,xs]
     ·rw [hr] at f9 f10 f17
      simp only [Bool.true_and,if_true] at f9 f17
      cases hN:(decide (1≤N)&&decide (N≤64))
      ·rw [hN] at f9 eN
       simp only [Bool.false_and,Bool.false_eq_true,if_false] at f9
       have f20:=ripe N (by rw [hr,hN]; rfl)
       simp -implicitDefEqProofs only [h18,eN,f10,f17,F14_ok hz,F19_ok hz,F24_ok now,hmo,hm,f12,f23,f15c,f13,f20,f22,f15,bb,f11,nz0,nz1,n11,n10,n01,i11,i00,z00,ff,tt,tf,hr,beq_self_eq_true,f9,k1,k2,k3,tl,eq_self,xs]
      ·rw [hN] at f9 eN
       have hN':1≤N∧N≤64:=by simpa using hN
       obtain ⟨n,rfl⟩:∃ n:Nat,N=n:=⟨N.toNat,by omega⟩
       by_cases hC:C < 0
       ·simp only [decide_eq_false (show ¬ 0≤C by omega),Bool.and_false,Bool.false_eq_true,if_false] at f9
        have f20:=ripe ((n:Nat):Int) (by rw [hr,hN,hmo]; rfl)
        simp -implicitDefEqProofs only [h18,eN,f10,f17,F14_ok hz,F19_ok hz,F24_ok now,hmo,hm,f12,f23,f15c,f13,f20,f22,f15,bb,f11,nz0,nz1,n11,n10,n01,i11,i00,z00,ff,tt,tf,hr,beq_self_eq_true,f9,hC,k1,k2,k3,tl,eq_self,xs]
       ·simp only [decide_eq_true (show 0≤C by omega),Bool.and_true,Bool.true_and,if_true,Int.toNat_natCast] at f9
        have f21:=F21_ok (k:=C) hr (show 1≤n by omega) (by omega) (by omega)
        have f20:=ripe ((n:Nat):Int) (by rw [hr,hN,hmo]; rfl)
        simp -implicitDefEqProofs only [h18,eN,f10,f17,F14_ok hz,F19_ok hz,F24_ok now,hmo,hm,f12,f23,f15c,f13,f20,f22,f15,bb,f11,nz0,nz1,n11,n10,n01,i11,i00,z00,ff,tt,tf,hr,beq_self_eq_true,f9,hC,f21,bne_self_eq_false,k1,k2,k3,tl,eq_self,xs]
    ·cases hr:rulesB a b c
     ·rw [hr] at f9 f10 f17
      simp only [Bool.false_and,Bool.false_eq_true,if_false] at f9 f17
      have f20:=ripe N (by rw [hr]; rfl)
      simp -implicitDefEqProofs only [h18,eN,f10,f17,F14_ok hz,F19_ok hz,F24_ok now,hmo,hm,f12,f23,f15c,f13,f20,f22,f15,bb,f11,nz0,nz1,n11,n10,n01,i11,i00,z00,ff,tt,tf,hr,beq_self_eq_true,f9,k1,k2,k3,k4,tl,eq_self,xs]
     ·rw [hr] at f9 f10 f17
      simp only [Bool.true_and,if_true] at f9 f17
      cases hN:(decide (1≤N)&&decide (N≤64))
      ·rw [hN] at f9 eN
       simp only [Bool.false_and,Bool.false_eq_true,if_false] at f9
       have f20:=ripe N (by rw [hr,hN]; rfl)
       simp -implicitDefEqProofs only [h18,eN,f10,f17,F14_ok hz,F19_ok hz,F24_ok now,hmo,hm,f12,f23,f15c,f13,f20,f22,f15,bb,f11,nz0,nz1,n11,n10,n01,i11,i00,z00,ff,tt,tf,hr,beq_self_eq_true,f9,k1,k2,k3,k4,tl,eq_self,xs]
      ·rw [hN] at f9 eN
       have hN':1≤N∧N≤64:=by simpa using hN
       obtain ⟨n,rfl⟩:∃ n:Nat,N=n:=⟨N.toNat,by omega⟩
       by_cases hC:C < 0
       ·simp only [decide_eq_false (show ¬ 0≤C by omega),Bool.and_false,Bool.false_eq_true,if_false] at f9
        have f20:=ripe ((n:Nat):Int) (by rw [hr,hN,hmo]; rfl)
        simp -implicitDefEqProofs only [h18,eN,f10,f17,F14_ok hz,F19_ok hz,F24_ok now,hmo,hm,f12,f23,f15c,f13,f20,f22,f15,bb,f11,nz0,nz1,n11,n10,n01,i11,i00,z00,ff,tt,tf,hr,beq_self_eq_true,f9,hC,k1,k2,k3,k4,tl,eq_self,xs]
       ·simp only [decide_eq_true (show 0≤C by omega),Bool.and_true,Bool.true_and,if_true,Int.toNat_natCast] at f9
        have f21:=F21_ok (k:=C) hr (show 1≤n by omega) (by omega) (by omega)
        have f20:=ripe ((n:Nat):Int) (by rw [hr,hN,hmo]; rfl)
        simp -implicitDefEqProofs only [h18,eN,f10,f17,F14_ok hz,F19_ok hz,F24_ok now,hmo,hm,f12,f23,f15c,f13,f20,f22,f15,bb,f11,nz0,nz1,n11,n10,n01,i11,i00,z00,ff,tt,tf,hr,beq_self_eq_true,f9,hC,f21,bne_self_eq_false,k1,k2,k3,k4,tl,eq_self,xs]
    ·cases hr:rulesB a b c
     ·rw [hr] at f9 f10 f17
      simp only [Bool.false_and,Bool.false_eq_true,if_false] at f9 f17
      have f20:=ripe N (by rw [hr]; rfl)
      simp -implicitDefEqProofs only [h18,eN,f10,f17,F14_ok hz,F19_ok hz,F24_ok now,hmo,hm,f12,f23,f15c,f13,f20,f22,f15,bb,f11,nz0,nz1,n11,n10,n01,i11,i00,z00,ff,tt,tf,hr,beq_self_eq_true,f9,k1,k2,k3,k4,tl,eq_self,xs]
     ·rw [hr] at f9 f10 f17
      simp only [Bool.true_and,if_true] at f9 f17
      cases hN:(decide (1≤N)&&decide (N≤64))
      ·rw [hN] at f9 eN
       simp only [Bool.false_and,Bool.false_eq_true,if_false] at f9
       have f20:=ripe N (by rw [hr,hN]; rfl)
       simp -implicitDefEqProofs only [h18,eN,f10,f17,F14_ok hz,F19_ok hz,F24_ok now,hmo,hm,f12,f23,f15c,f13,f20,f22,f15,bb,f11,nz0,nz1,n11,n10,n01,i11,i00,z00,ff,tt,tf,hr,beq_self_eq_true,f9,k1,k2,k3,k4,tl,eq_self,xs]
      ·rw [hN] at f9 eN
       have hN':1≤N∧N≤64:=by simpa using hN
       obtain ⟨n,rfl⟩:∃ n:Nat,N=n:=⟨N.toNat,by omega⟩
       by_cases hC:C < 0
       ·simp only [decide_eq_false (show ¬ 0≤C by omega),Bool.and_false,Bool.false_eq_true,if_false] at f9
        have f20:=ripe ((n:Nat):Int) (by rw [hr,hN,hmo]; rfl)
        simp -implicitDefEqProofs only [h18,eN,f10,f17,F14_ok hz,F19_ok hz,F24_ok now,hmo,hm,f12,f23,f15c,f13,f20,f22,f15,bb,f11,nz0,nz1,n11,n10,n01,i11,i00,z00,ff,tt,tf,hr,beq_self_eq_true,f9,hC,k1,k2,k3,k4,tl,eq_self,xs]
       ·simp only [decide_eq_true (show 0≤C by omega),Bool.and_true,Bool.true_and,if_true,Int.toNat_natCast] at f9
        have f21:=F21_ok (k:=C) hr (show 1≤n by omega) (by omega) (by omega)
        have f20:=ripe ((n:Nat):Int) (by rw [hr,hN,hmo]; rfl)
        simp -implicitDefEqProofs only [h18,eN,f10,f17,F14_ok hz,F19_ok hz,F24_ok now,hmo,hm,f12,f23,f15c,f13,f20,f22,f15,bb,f11,nz0,nz1,n11,n10,n01,i11,i00,z00,ff,tt,tf,hr,beq_self_eq_true,f9,hC,f21,bne_self_eq_false,k1,k2,k3,k4,tl,eq_self,xs]
   ·rw [hmo] at k5; cases k5
  ·rcases raise with ⟨A,f13,eA,hbad⟩ | ⟨A,f13,f25,f15a,k1,k2,k3,k4,k5⟩
   ·subst eA
    rcases hbad with k1 | ⟨k1,k2⟩ | ⟨k1,k2,k3⟩ | ⟨k1,k2,k3,k4⟩ | ⟨k1,k2,k3,k4,k5⟩
    ·cases hr:rulesB a b c
     ·rw [hr] at f9 f10 f17
      simp only [Bool.false_and,Bool.false_eq_true,if_false] at f9 f17
      have f20:=ripe N (by rw [hr]; rfl)
      simp -implicitDefEqProofs only [h18,eN,f10,f17,F14_ok hz,F19_ok hz,F24_ok now,hmo,hm,f12,f23,f15c,f13,f20,f22,f15,bb,f11,nz0,nz1,n11,n10,n01,i11,i00,z00,ff,tt,tf,hr,beq_self_eq_true,f9,k1,tl,eq_self,xs]
     ·rw [hr] at f9 f10 f17
      simp only [Bool.true_and,if_true] at f9 f17
      cases hN:(decide (1≤N)&&decide (N≤64))
      ·rw [hN] at f9 eN
       simp only [Bool.false_and,Bool.false_eq_true,if_false] at f9
       have f20:=ripe N (by rw [hr,hN]; rfl)
       simp -implicitDefEqProofs only [h18,eN,f10,f17,F14_ok hz,F19_ok hz,F24_ok now,hmo,hm,f12,f23,f15c,f13,f20,f22,f15,bb,f11,nz0,nz1,n11,n10,n01,i11,i00,z00,ff,tt,tf,hr,beq_self_eq_true,f9,k1,tl,eq_self,xs]
      ·rw [hN] at f9 eN
       have hN':1≤N∧N≤64:=by simpa using hN
       obtain ⟨n,rfl⟩:∃ n:Nat,N=n:=⟨N.toNat,by omega⟩
       by_cases hC:C < 0
       ·simp only [decide_eq_false (show ¬ 0≤C by omega),Bool.and_false,Bool.false_eq_true,if_false] at f9
        have f20:=F20_ok (n:=n) hf hm hr (by omega) (by omega) hmo
        have f26t:=F26_ok (n:=n) (rp:=true) hm hr (by omega) (by omega) hmo
        have f26f:=F26_ok (n:=n) (rp:=false) hm hr (by omega) (by omega) hmo
        rw [show (fun d=>ripB a b c n now d==true)=ripB a b c n now from funext fun d=>by cases ripB a b c n now d<;>rfl] at f26t
        rw [show (fun d=>ripB a b c n now d==false)=(fun d=>!ripB a b c n now d) from funext fun d=>by cases ripB a b c n now d<;>rfl] at f26f
        have f15p:=self (ripB a b c n now)
        have f15q:=self (fun d=>!ripB a b c n now d)
        simp -implicitDefEqProofs only [h18,eN,f10,f17,F14_ok hz,F19_ok hz,F24_ok now,hmo,hm,f12,f23,f15c,f13,f20,f22,f15,bb,f11,nz0,nz1,n11,n10,n01,i11,i00,z00,ff,tt,tf,hr,beq_self_eq_true,f9,hC,k1,tl,f26t,f26f,f15p,f15q,eq_self,xs]
       ·simp only [decide_eq_true (show 0≤C by omega),Bool.and_true,Bool.true_and,if_true,Int.toNat_natCast] at f9
        have f21:=F21_ok (k:=C) hr (show 1≤n by omega) (by omega) (by omega)
        have f20:=F20_ok (n:=n) hf hm hr (by omega) (by omega) hmo
        have f26t:=F26_ok (n:=n) (rp:=true) hm hr (by omega) (by omega) hmo
        have f26f:=F26_ok (n:=n) (rp:=false) hm hr (by omega) (by omega) hmo
        rw [show (fun d=>ripB a b c n now d==true)=ripB a b c n now from funext fun d=>by cases ripB a b c n now d<;>rfl] at f26t
        rw [show (fun d=>ripB a b c n now d==false)=(fun d=>!ripB a b c n now d) from funext fun d=>by cases ripB a b c n now d<;>rfl] at f26f
        have f15p:=self (ripB a b c n now)
        have f15q:=self (fun d=>!ripB a b c n now d)
        simp -implicitDefEqProofs only [h18,eN,f10,f17,F14_ok hz,F19_ok hz,F24_ok now,hmo,hm,f12,f23,f15c,f13,f20,f22,f15,bb,f11,nz0,nz1,n11,n10,n01,i11,i00,z00,ff,tt,tf,hr,beq_self_eq_true,f9,hC,f21,bne_self_eq_false,k1,tl,f26t,f26f,f15p,f15q,eq_self,xs]
    ·cases hr:rulesB a b c
     ·rw [hr] at f9 f10 f17
      simp only [Bool.false_and,Bool.false_eq_true,if_false] at f9 f17
      have f20:=ripe N (by rw [hr]; rfl)
      simp -implicitDefEqProofs only [h18,eN,f10,f17,F14_ok hz,F19_ok hz,F24_ok now,hmo,hm,f12,f23,f15c,f13,f20,f22,f15,bb,f11,nz0,nz1,n11,n10,n01,i11,i00,z00,ff,tt,tf,hr,beq_self_eq_true,f9,k1,k2,tl,eq_self,xs]
     ·rw [hr] at f9 f10 f17
      simp only [Bool.true_and,if_true] at f9 f17
      cases hN:(decide (1≤N)&&decide (N≤64))
      ·rw [hN] at f9 eN
       simp only [Bool.false_and,Bool.false_eq_true,if_false] at f9
       have f20:=ripe N (by rw [hr,hN]; rfl)
       simp -implicitDefEqProofs only [h18,eN,f10,f17,F14_ok hz,F19_ok hz,F24_ok now,hmo,hm,f12,f23,f15c,f13,f20,f22,f15,bb,f11,nz0,nz1,n11,n10,n01,i11,i00,z00,ff,tt,tf,hr,beq_self_eq_true,f9,k1,k2,tl,eq_self,xs]
      ·rw [hN] at f9 eN
       have hN':1≤N∧N≤64:=by simpa using hN
       obtain ⟨n,rfl⟩:∃ n:Nat,N=n:=⟨N.toNat,by omega⟩
       by_cases hC:C < 0
       ·simp only [decide_eq_false (show ¬ 0≤C by omega),Bool.and_false,Bool.false_eq_true,if_false] at f9
        have f20:=F20_ok (n:=n) hf hm hr (by omega) (by omega) hmo
        have f26t:=F26_ok (n:=n) (rp:=true) hm hr (by omega) (by omega) hmo
        have f26f:=F26_ok (n:=n) (rp:=false) hm hr (by omega) (by omega) hmo
        rw [show (fun d=>ripB a b c n now d==true)=ripB a b c n now from funext fun d=>by cases ripB a b c n now d<;>rfl] at f26t
        rw [show (fun d=>ripB a b c n now d==false)=(fun d=>!ripB a b c n now d) from funext fun d=>by cases ripB a b c n now d<;>rfl] at f26f
        have f15p:=self (ripB a b c n now)
        have f15q:=self (fun d=>!ripB a b c n now d)
        simp -implicitDefEqProofs only [h18,eN,f10,f17,F14_ok hz,F19_ok hz,F24_ok now,hmo,hm,f12,f23,f15c,f13,f20,f22,f15,bb,f11,nz0,nz1,n11,n10,n01,i11,i00,z00,ff,tt,tf,hr,beq_self_eq_true,f9,hC,k1,k2,tl,f26t,f26f,f15p,f15q,eq_self,xs]
       ·simp only [decide_eq_true (show 0≤C by omega),Bool.and_true,Bool.true_and,if_true,Int.toNat_natCast] at f9
        have f21:=F21_ok (k:=C) hr (show 1≤n by omega) (by omega) (by omega)
        have f20:=F20_ok (n:=n) hf hm hr (by omega) (by omega) hmo
        have f26t:=F26_ok (n:=n) (rp:=true) hm hr (by omega) (by omega) hmo
        have f26f:=F26_ok (n:=n) (rp:=false) hm hr (by omega) (by omega) hmo
        rw [show (fun d=>ripB a b c n now d==true)=ripB a b c n now from funext fun d=>by cases ripB a b c n now d<;>rfl] at f26t
        rw [show (fun d=>ripB a b c n now d==false)=(fun d=>!ripB a b c n now d) from funext fun d=>by cases ripB a b c n now d<;>rfl] at f26f
        have f15p:=self (ripB a b c n now)
        have f15q:=self (fun d=>!ripB a b c n now d)
        simp -implicitDefEqProofs only [h18,eN,f10,f17,F14_ok hz,F19_ok hz,F24_ok now,hmo,hm,f12,f23,f15c,f13,f20,f22,f15,bb,f11,nz0,nz1,n11,n10,n01,i11,i00,z00,ff,tt,tf,hr,beq_self_eq_true,f9,hC,f21,bne_self_eq_false,k1,k2,tl,f26t,f26f,f15p,f15q,eq_self,xs]
    ·cases hr:rulesB a b c
     ·rw [hr] at f9 f10 f17
      simp only [Bool.false_and,Bool.false_eq_true,if_false] at f9 f17
      have f20:=ripe N (by rw [hr]; rfl)
      simp -implicitDefEqProofs only [h18,eN,f10,f17,F14_ok hz,F19_ok hz,F24_ok now,hmo,hm,f12,f23,f15c,f13,f20,f22,f15,bb,f11,nz0,nz1,n11,n10,n01,i11,i00,z00,ff,tt,tf,hr,beq_self_eq_true,f9,k1,k2,k3,tl,eq_self,xs]
     ·rw [hr] at f9 f10 f17
      simp only [Bool.true_and,if_true] at f9 f17
      cases hN:(decide (1≤N)&&decide (N≤64))
      ·rw [hN] at f9 eN
       simp only [Bool.false_and,Bool.false_eq_true,if_false] at f9
       have f20:=ripe N (by rw [hr,hN]; rfl)
       simp -implicitDefEqProofs only [h18,eN,f10,f17,F14_ok hz,F19_ok hz,F24_ok now,hmo,hm,f12,f23,f15c,f13,f20,f22,f15,bb,f11,nz0,nz1,n11,n10,n01,i11,i00,z00,ff,tt,tf,hr,beq_self_eq_true,f9,k1,k2,k3,tl,eq_self,xs]
      ·rw [hN] at f9 eN
       have hN':1≤N∧N≤64:=by simpa using hN
       obtain ⟨n,rfl⟩:∃ n:Nat,N=n:=⟨N.toNat,by omega⟩
       by_cases hC:C < 0
       ·simp only [decide_eq_false (show ¬ 0≤C by omega),Bool.and_false,Bool.false_eq_true,if_false] at f9
        have f20:=F20_ok (n:=n) hf hm hr (by omega) (by omega) hmo
        have f26t:=F26_ok (n:=n) (rp:=true) hm hr (by omega) (by omega) hmo
        have f26f:=F26_ok (n:=n) (rp:=false) hm hr (by omega) (by omega) hmo
        rw [show (fun d=>ripB a b c n now d==true)=ripB a b c n now from funext fun d=>by cases ripB a b c n now d<;>rfl] at f26t
        rw [show (fun d=>ripB a b c n now d==false)=(fun d=>!ripB a b c n now d) from funext fun d=>by cases ripB a b c n now d<;>rfl] at f26f
        have f15p:=self (ripB a b c n now)
        have f15q:=self (fun d=>!ripB a b c n now d)
        simp -implicitDefEqProofs only [h18,eN,f10,f17,F14_ok hz,F19_ok hz,F24_ok now,hmo,hm,f12,f23,f15c,f13,f20,f22,f15,bb,f11,nz0,nz1,n11,n10,n01,i11,i00,z00,ff,tt,tf,hr,beq_self_eq_true,f9,hC,k1,k2,k3,tl,f26t,f26f,f15p,f15q,eq_self,xs]
       ·simp only [decide_eq_true (show 0≤C by omega),Bool.and_true,Bool.true_and,if_true,Int.toNat_natCast] at f9
        have f21:=F21_ok (k:=C) hr (show 1≤n by omega) (by omega) (by omega)
        have f20:=F20_ok (n:=n) hf hm hr (by omega) (by omega) hmo
        have f26t:=F26_ok (n:=n) (rp:=true) hm hr (by omega) (by omega) hmo
        have f26f:=F26_ok (n:=n) (rp:=false) hm hr (by omega) (by omega) hmo
        rw [show (fun d=>ripB a b c n now d==true)=ripB a b c n now from funext fun d=>by cases ripB a b c n now d<;>rfl] at f26t
        rw [show (fun d=>ripB a b c n now d==false)=(fun d=>!ripB a b c n now d) from funext fun d=>by cases ripB a b c n now d<;>rfl] at f26f
        have f15p:=self (ripB a b c n now)
        have f15q:=self (fun d=>!ripB a b c n now d)
        simp -implicitDefEqProofs only [h18,eN,f10,f17,F14_ok hz,F19_ok hz,F24_ok now,hmo,hm,f12,f23,f15c,f13,f20,f22,f15,bb,f11,nz0,nz1,n11,n10,n01,i11,i00,z00,ff,tt,tf,hr,beq_self_eq_true,f9,hC,f21,bne_self_eq_false,k1,k2,k3,tl,f26t,f26f,f15p,f15q,eq_self,xs]
    ·cases hr:rulesB a b c
     ·rw [hr] at f9 f10 f17
      simp only [Bool.false_and,Bool.false_eq_true,if_false] at f9 f17
      have f20:=ripe N (by rw [hr]; rfl)
      simp -implicitDefEqProofs only [h18,eN,f10,f17,F14_ok hz,F19_ok hz,F24_ok now,hmo,hm,f12,f23,f15c,f13,f20,f22,f15,bb,f11,nz0,nz1,n11,n10,n01,i11,i00,z00,ff,tt,tf,hr,beq_self_eq_true,f9,k1,k2,k3,k4,tl,eq_self,xs]
     ·rw [hr] at f9 f10 f17
      simp only [Bool.true_and,if_true] at f9 f17
      cases hN:(decide (1≤N)&&decide (N≤64))
      ·rw [hN] at f9 eN
       simp only [Bool.false_and,Bool.false_eq_true,if_false] at f9
       have f20:=ripe N (by rw [hr,hN]; rfl)
       simp -implicitDefEqProofs only [h18,eN,f10,f17,F14_ok hz,F19_ok hz,F24_ok now,hmo,hm,f12,f23,f15c,f13,f20,f22,f15,bb,f11,nz0,nz1,n11,n10,n01,i11,i00,z00,ff,tt,tf,hr,beq_self_eq_true,f9,k1,k2,k3,k4,tl,eq_self,xs]
      ·rw [hN] at f9 eN
       have hN':1≤N∧N≤64:=by simpa using hN
       obtain ⟨n,rfl⟩:∃ n:Nat,N=n:=⟨N.toNat,by omega⟩
       by_cases hC:C < 0
       ·simp only [decide_eq_false (show ¬ 0≤C by omega),Bool.and_false,Bool.false_eq_true,if_false] at f9
        have f20:=F20_ok (n:=n) hf hm hr (by omega) (by omega) hmo
        have f26t:=F26_ok (n:=n) (rp:=true) hm hr (by omega) (by omega) hmo
        have f26f:=F26_ok (n:=n) (rp:=false) hm hr (by omega) (by omega) hmo
        rw [show (fun d=>ripB a b c n now d==true)=ripB a b c n now from funext fun d=>by cases ripB a b c n now d<;>rfl] at f26t
        rw [show (fun d=>ripB a b c n now d==false)=(fun d=>!ripB a b c n now d) from funext fun d=>by cases ripB a b c n now d<;>rfl] at f26f
        have f15p:=self (ripB a b c n now)
        have f15q:=self (fun d=>!ripB a b c n now d)
        simp -implicitDefEqProofs only [h18,eN,f10,f17,F14_ok hz,F19_ok hz,F24_ok now,hmo,hm,f12,f23,f15c,f13,f20,f22,f15,bb,f11,nz0,nz1,n11,n10,n01,i11,i00,z00,ff,tt,tf,hr,beq_self_eq_true,f9,hC,k1,k2,k3,k4,tl,f26t,f26f,f15p,f15q,eq_self,xs]
       ·simp only [decide_eq_true (show 0≤C by omega),Bool.and_true,Bool.true_and,if_true,Int.toNat_natCast] at f9
        have f21:=F21_ok (k:=C) hr (show 1≤n by omega) (by omega) (by omega)
        have f20:=F20_ok (n:=n) hf hm hr (by omega) (by omega) hmo
        have f26t:=F26_ok (n:=n) (rp:=true) hm hr (by omega) (by omega) hmo
        have f26f:=F26_ok (n:=n) (rp:=false) hm hr (by omega) (by omega) hmo
        rw [show (fun d=>ripB a b c n now d==true)=ripB a b c n now from funext fun d=>by cases ripB a b c n now d<;>rfl] at f26t
        rw [show (fun d=>ripB a b c n now d==false)=(fun d=>!ripB a b c n now d) from funext fun d=>by cases ripB a b c n now d<;>rfl] at f26f
        have f15p:=self (ripB a b c n now)
        have f15q:=self (fun d=>!ripB a b c n now d)
        simp -implicitDefEqProofs only [h18,eN,f10,f17,F14_ok hz,F19_ok hz,F24_ok now,hmo,hm,f12,f23,f15c,f13,f20,f22,f15,bb,f11,nz0,nz1,n11,n10,n01,i11,i00,z00,ff,tt,tf,hr,beq_self_eq_true,f9,hC,f21,bne_self_eq_false,k1,k2,k3,k4,tl,f26t,f26f,f15p,f15q,eq_self,xs]
    ·rw [hmo] at k5; cases k5
   ·cases hr:rulesB a b c
    ·rw [hr] at f9 f10 f17
     simp only [Bool.false_and,Bool.false_eq_true,if_false] at f9 f17
     have f20:=ripe N (by rw [hr]; rfl)
     simp -implicitDefEqProofs only [h18,eN,f10,f17,F14_ok hz,F19_ok hz,F24_ok now,hmo,hm,f12,f23,f15c,f13,f20,f22,f15,bb,f11,nz0,nz1,n11,n10,n01,i11,i00,z00,ff,tt,tf,hr,beq_self_eq_true,f9,k1,k2,k3,k4,f25,f15a,eq_self,xs]
    ·rw [hr] at f9 f10 f17
     simp only [Bool.true_and,if_true] at f9 f17
     cases hN:(decide (1≤N)&&decide (N≤64))
     ·rw [hN] at f9 eN
      simp only [Bool.false_and,Bool.false_eq_true,if_false] at f9
      have f20:=ripe N (by rw [hr,hN]; rfl)
      simp -implicitDefEqProofs only [h18,eN,f10,f17,F14_ok hz,F19_ok hz,F24_ok now,hmo,hm,f12,f23,f15c,f13,f20,f22,f15,bb,f11,nz0,nz1,n11,n10,n01,i11,i00,z00,ff,tt,tf,hr,beq_self_eq_true,f9,k1,k2,k3,k4,f25,f15a,eq_self,xs]
     ·rw [hN] at f9 eN
      have hN':1≤N∧N≤64:=by simpa using hN
      obtain ⟨n,rfl⟩:∃ n:Nat,N=n:=⟨N.toNat,by omega⟩
      by_cases hC:C < 0
      ·simp only [decide_eq_false (show ¬ 0≤C by omega),Bool.and_false,Bool.false_eq_true,if_false] at f9
       have f20:=F20_ok (n:=n) hf hm hr (by omega) (by omega) hmo
       have f26t:=F26_ok (n:=n) (rp:=true) hm hr (by omega) (by omega) hmo
       have f26f:=F26_ok (n:=n) (rp:=false) hm hr (by omega) (by omega) hmo
       rw [show (fun d=>ripB a b c n now d==true)=ripB a b c n now from funext fun d=>by cases ripB a b c n now d<;>rfl] at f26t
       rw [show (fun d=>ripB a b c n now d==false)=(fun d=>!ripB a b c n now d) from funext fun d=>by cases ripB a b c n now d<;>rfl] at f26f
       have f15p:=self (ripB a b c n now)
       have f15q:=self (fun d=>!ripB a b c n now d)
       simp -implicitDefEqProofs only [h18,eN,f10,f17,F14_ok hz,F19_ok hz,F24_ok now,hmo,hm,f12,f23,f15c,f13,f20,f22,f15,bb,f11,nz0,nz1,n11,n10,n01,i11,i00,z00,ff,tt,tf,hr,beq_self_eq_true,f9,hC,k1,k2,k3,k4,f25,f15a,f26t,f26f,f15p,f15q,eq_self,xs]
      ·simp only [decide_eq_true (show 0≤C by omega),Bool.and_true,Bool.true_and,if_true,Int.toNat_natCast] at f9
       have f21:=F21_ok (k:=C) hr (show 1≤n by omega) (by omega) (by omega)
       have f20:=F20_ok (n:=n) hf hm hr (by omega) (by omega) hmo
       have f26t:=F26_ok (n:=n) (rp:=true) hm hr (by omega) (by omega) hmo
       have f26f:=F26_ok (n:=n) (rp:=false) hm hr (by omega) (by omega) hmo
       rw [show (fun d=>ripB a b c n now d==true)=ripB a b c n now from funext fun d=>by cases ripB a b c n now d<;>rfl] at f26t
       rw [show (fun d=>ripB a b c n now d==false)=(fun d=>!ripB a b c n now d) from funext fun d=>by cases ripB a b c n now d<;>rfl] at f26f
       have f15p:=self (ripB a b c n now)
       have f15q:=self (fun d=>!ripB a b c n now d)
       simp -implicitDefEqProofs only [h18,eN,f10,f17,F14_ok hz,F19_ok hz,F24_ok now,hmo,hm,f12,f23,f15c,f13,f20,f22,f15,bb,f11,nz0,nz1,n11,n10,n01,i11,i00,z00,ff,tt,tf,hr,beq_self_eq_true,f9,hC,f21,bne_self_eq_false,k1,k2,k3,k4,f25,f15a,f26t,f26f,f15p,f15q,eq_self,xs]
end Go.Proofs.Yticljphbbdnomaa.VL
end
