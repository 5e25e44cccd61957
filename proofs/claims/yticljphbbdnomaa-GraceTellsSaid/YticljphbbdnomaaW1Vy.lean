import Derived.Test.YticljphbbdnomaaW1Vx
import Derived.Below
import Derived.Carry
import Derived.WalkKit
import Derived.ProofKit
import Derived.OpenShut
namespace Go.Proofs.Yticljphbbdnomaa.VL
open Go Go.ChangeShapes Go.WideShapes Go.ChangeAt Go.RowKit
set_option linter.unusedVariables false
set_option linter.unusedSimpArgs false
set_option linter.unusedSectionVars false
variable [Val]
def begE (W:World):Env:=⟨W,fun _=>none,fun r=>r < W.heap.size⟩
theorem pure_calls {P:Program} {f:FuncId} {args:List PV} {r:PV} (h:VPure P f args r) {W:World} {vals:Array Value} (hs:vals.size=args.length)
  (hr:∀ (i:Nat) (p:PV) (u:Value),args[i]?=some p→vals[i]?=some u→Rep (begE W) p u) :
  Calls P f vals W fun e W'=>∃ v E',e=.returned v∧E'.w=W'∧Rep E' r v∧Below W.heap.size W W':=by
 have he:(fun x:Nat=>([]:List Ent)[x]?)=fun _=>none:=by funext x; simp
 have no:∀ {b s:Nat} {k:Blk} {en:Ent},¬ At ⟨W,fun x:Nat=>([]:List Ent)[x]?,fun r=>r < W.heap.size⟩ (slots (([]:List Blk).map some) none) b s k en:=by
  intro b s k en A
  have:=A.σ
  simp at this
 refine (h.2.2.2 W (fun r=>r < W.heap.size) [] vals rfl ?_ hs (fun i p u hp hu=>by rw [he]; exact hr i p u hp hu)).mono ?_
 ·refine { good:=⟨fun s _=>by simp,fun b s k hb=>?_,fun b b' s s' k k' en en' A=>absurd A no,fun r hr=>hr⟩,since:=⟨rfl,rfl,rfl,Nat.le_refl _,fun _ _ _=>rfl,fun _ _ h=>h,fun _ h=>h,fun _ h=>.inl h,Nat.le_refl _⟩,touch:=fun b s k en A=>absurd A no,defers:=rfl,tsize:=rfl,tmps:=fun i p u hp=>by simp at hp }
  simp only [slots,List.map_nil,List.zipIdx_nil,List.nil_append,Option.map_none,List.length_nil] at hb
  cases b<;>simp at hb
 ·rintro e W' ⟨v,r',L',N,σ',S',rfl,rfl,hL,J,hR⟩
  exact ⟨v,_,rfl,rfl,hR,J.since.os,J.since.tape,J.since.output,J.since.size,fun k hk=>J.since.kept k hk fun hT=>by
   obtain ⟨i,en,hi,_⟩:=hT
   simp at hi⟩
theorem trodAll_below {H:Type} {enc:TypeId×Value→H} {P:Program} (hl:laidOutB P=true) {W W':World} (hb:Below W.heap.size W W'):∀ {ts:List TypeId} {vs:List Value} {ds:List (DataW H)} {ps:List MemPlace},
  (ts.all fun t=>P.readableRec t&&decide (t < P.types.size))=true→(∀ x ∈ ps,x.block < W.heap.size)→DataW.TrodAll enc P W 0 (fun _=>true) true ts vs ds ps→DataW.TrodAll enc P W' 0 (fun b=>decide (b < W.heap.size)) true ts vs ds ps
 | [],[],[],_,_,_,h=>h
 | t::ts,v::vs,d::ds,ps,ht,hlt,h=>by
  obtain ⟨p,q,h1,h2,rfl⟩:=h
  simp only [List.all_cons,Bool.and_eq_true,decide_eq_true_eq] at ht
  exact ⟨p,q,Below.trod hl ht.1.1 ht.1.2 h1 hb (fun x hx=>hlt x (List.mem_append_left _ hx)),trodAll_below hl hb ht.2 (fun x hx=>hlt x (List.mem_append_right _ hx)) h2,rfl⟩
 | [],_::_,_,_,_,_,h=>h.elim
 | [],[],_::_,_,_,_,h=>h.elim
 | _::_,[],_,_,_,_,h=>h.elim
 | _::_,_::_,[],_,_,_,h=>h.elim
theorem law_post {P:Program} (hl:laidOutB P=true) {f:FuncId} {fn:Func} {s:ChangeSpec} {H:Type} {enc:TypeId×Value→H} {W:World} {args:Array Value} {ds gs:List (DataW H)} {before:List MemPlace} {ps:List PV} {tb:TypeId}
  (hV:VPure P f ps (vb true)) (hrt:fn.resultTypes=#[tb]) (htb:P.underlying tb=some .bool) (hvars:s.vars=[])
  (hts:(fn.params.toList.all fun t=>P.readableRec t&&decide (t < P.types.size))=true)
  (hW:DataW.Whole enc P fn.params.toList s.vars false W args.toList ds gs before)
  (hfn:s.fn H (ds++gs)={ results:=[.lit (.bool true)],args:=ds })
  (hs:args.size=ps.length) (hr:∀ (i:Nat) (p:PV) (u:Value),ps[i]?=some p→args[i]?=some u→Rep (begE W) p u) :
  Calls P f args W fun e W'=>∃ v,e=.returned v∧s.post enc P fn false true false false W args v W':=by
 refine (pure_calls hV hs hr).mono ?_
 rintro e W' ⟨v,E',rfl,rfl,hR,hb⟩
 have hv:=rep_v hR
 subst hv
 have hW':=hW
 obtain ⟨p,q,hA,hVr,rfl,_,_⟩:=hW
 rw [hvars] at hVr
 have hq:gs=[]∧q=[]:=by
  cases gs with
  | nil=>exact ⟨rfl,hVr⟩
  | cons=>exact hVr.elim
 obtain ⟨rfl,rfl⟩:=hq
 have hlt:∀ x ∈ p++[],x.block < W.heap.size:=fun x hx=>hW'.lt x hx
 refine ⟨_,rfl,ds,[],p++[],[],p,[],hW',?_,?_,?_,hb.frame _,fun h=>by cases h⟩
 ·rw [hfn,hrt]
  exact trodAll_mk1 (shut_bool htb true)
 ·rw [hfn]
  exact trodAll_below hl hb hts (fun x hx=>hlt x (by simpa using hx)) hA
 ·rw [hfn,hvars]
  rfl
end Go.Proofs.Yticljphbbdnomaa.VL
