import Derived.Test.YticljphbbdnomaaW1Vw
namespace Go.Proofs.Yticljphbbdnomaa.VL
open Go
set_option linter.unusedVariables false
set_option linter.unusedSimpArgs false
set_option linter.unusedSectionVars false
variable [Val]
def cloneIC (sz b:Nat) (z:PV):ICode :=
 (.seq (.reg false [⟨(some 2),(.mov (.c (.sl true []))),none⟩]) (.seq (.seq (.reg false [⟨(some 3),(.mov (.t 0)),none⟩,⟨(some 4),(.nilq false (.t 3)),none⟩]) (.cond (.t 4) (.seq (.reg false [⟨(some 2),(.mov (.c (.sl true []))),none⟩]) .ret) .skip)) (.seq (.reg false [⟨(some 5),(.bsl sz z 0 []),none⟩,⟨(some 6),(.mov (.t 0)),none⟩,⟨(some 7),(.app 0 sz b z (.t 5) (.t 6)),none⟩,⟨(some 2),(.mov (.t 7)),none⟩]) .ret)))
def cloneT' (sz b:Nat) (z:PV):List IOper:=[⟨(some 5),(.bsl sz z 0 []),none⟩,⟨(some 6),(.mov (.t 0)),none⟩,⟨(some 7),(.app 0 sz b z (.t 5) (.t 6)),none⟩,⟨(some 2),(.mov (.t 7)),none⟩]
def cloneC:ICode:=.cond (.t 4) (.seq (.reg false [⟨(some 2),(.mov (.c (.sl true []))),none⟩]) .ret) .skip
def cloneQ (rr:PV×List Slot×Nat) (e:IExit) (st:St):Prop:=(e=.normal∨e=.ret)∧∃ st',Weak st st'∧resV st' [2]=rr.1∧st'.h=rr.2.1∧st'.n=rr.2.2
def cloneR (h:List Slot) (n sz:Nat) (es:List PV):PV×List Slot×Nat :=
 if es=[] then (.sl true [],h,n) else (.own h.length n sz 0 es.length none,h++[some (n,.cells es),none],n+1)
theorem clone_g {P:Program} (hm:P.follows .mixedOrders=true) {f sz b:Nat} {z:PV} (hok:FI.ok P f ⟨cloneIC sz b z,[7],8,[.t 2]⟩) {h:List Slot} {n:Nat} {x:PV} {es:List PV} (he:elems h x=some es) (hs:∀ e ∈ es,e.cells.length=sz) (h0:0 < sz) (hz:z.cells.length=sz) (hst:z.stor=true) (hb:es.length * b≤70368744177664) (hl:es.length≤70368744177664) :
  GCall P f [x] h n (cloneR h n sz es).1 (cloneR h n sz es).2.1 (cloneR h n sz es).2.2:=by
 obtain ⟨fn,c,h1,h2,h3,h4,h4b,h5,h6⟩:=hok
 refine gcall_of (r:=(cloneR h n sz es).1) hm h1 h2 h3 h4 h4b (congrFun h6 h.length) 2 ?_
 refine icWp_mono (Q:=cloneQ (cloneR h n sz es)) ?_ ?_
 ·rintro e st ⟨he,st',hw,q1,q2,q3⟩
  exact ⟨he,st',st'.h.length,hw,by rw [← q1]; rfl,by rw [List.take_length]; exact q2,q3⟩
 simp only at h5
 rw [h5]
 have cells:∀ es',elems (h++List.replicate 2 none) x=some es'→es'=es:=by
  intro es' h'
  cases x<;>simp only [elems] at he h'<;>first | cases he; done | (cases h'; cases he; rfl) | skip
  rename_i b' s' sz' off len cap
  rw [List.getElem?_append] at h'
  split at he
  ·rename_i s2 es2 heq
   have hlt:=(List.getElem?_eq_some_iff.1 heq).1
   rw [if_pos hlt,heq] at h'
   simp only at h'
   rw [he] at h'
   cases h'; rfl
  ·cases he
 have e2:elems (h++List.replicate 2 none) x=some es:=by
  cases x<;>simp only [elems] at he ⊢<;>first | cases he; done | exact he | skip
  rename_i b' s' sz' off len cap
  split at he
  ·rename_i s2 es2 heq
   have hlt:=(List.getElem?_eq_some_iff.1 heq).1
   rw [List.getElem?_append_left hlt,heq]
   exact he
  ·cases he
 have hlen:h.length < (h++List.replicate 2 (none:Slot)).length:=by simp
 have wk:Weak ⟨[x,.v undef,.sl true [],x,.v (.bool false),.sl true [],x,.sl true []],h++List.replicate 2 none,n⟩ ⟨[x,.v undef,.sl true [],x,.v (.bool false),.sl true [],x,.sl true []],h,n⟩:=by
  have:=Weak.take ⟨[x,.v undef,.sl true [],x,.v (.bool false),.sl true [],x,.sl true []],h++List.replicate 2 none,n⟩ h.length
  simpa using this
 have wk':Weak ⟨[x,.v undef,.sl true [],x,.v (.bool true),.v undef,.v undef,.v undef],h++List.replicate 2 none,n⟩ ⟨[x,.v undef,.sl true [],x,.v (.bool true),.v undef,.v undef,.v undef],h,n⟩:=by
  have:=Weak.take ⟨[x,.v undef,.sl true [],x,.v (.bool true),.v undef,.v undef,.v undef],h++List.replicate 2 none,n⟩ h.length
  simpa using this
 have big:opsK P false (fun st=>cloneQ (cloneR h n sz es) .ret st) (atOps h.length (cloneT' sz b z)) ⟨[x,.v undef,.sl true [],x,.v (.bool false),.v undef,.v undef,.v undef],h++List.replicate 2 none,n⟩:=by
  simp only [cloneT',atOps,IOper.at,IOp.at,opsK,execK,opK,St.put,St.ev,List.set_cons_succ,List.set_cons_zero,List.getD_cons_zero,List.getD_cons_succ,List.range_zero,List.map_nil,Nat.add_zero,Nat.zero_add,List.length_nil,List.nil_append]
  refine ⟨h0,by simp,hz,hst,by simp,hlen,h0,hz,hst,es,e2,hs,by simp,hb,hl,fun hes=>?_,fun hes=>?_⟩
  ·refine ⟨.inr rfl,_,wk,?_⟩
   simp [cloneR,hes,resV,St.ev]
  ·refine ⟨.inr rfl,_,Weak.refl _,?_⟩
   simp [cloneR,hes,resV,St.ev,List.set_append,List.replicate]
 have tail:∀ q:Bool,(q=true→es=[])→icWp P cloneC (thenQ (icWp P (.seq (.reg false (atOps h.length (cloneT' sz b z))) .ret) (cloneQ (cloneR h n sz es))) (cloneQ (cloneR h n sz es))) ⟨[x,.v undef,.sl true [],x,.v (.bool q),.v undef,.v undef,.v undef],h++List.replicate 2 none,n⟩:=by
  intro q hq
  show (q=true→_)∧(q=false→_)
  refine ⟨fun h1=>?_,fun h1=>?_⟩
  ·subst h1
   have hes:=hq rfl
   show cloneQ (cloneR h n sz es) .ret ⟨[x,.v undef,.sl true [],x,.v (.bool true),.v undef,.v undef,.v undef],h++List.replicate 2 none,n⟩
   refine ⟨.inr rfl,_,wk',?_⟩
   simp [cloneR,hes,resV,St.ev]
  ·subst h1
   exact big
 have nq:opK (St.ev ⟨[x,.v undef,.sl true [],x,.v undef,.v undef,.v undef,.v undef],h++List.replicate 2 none,n⟩) (h++List.replicate 2 none) n (fun p h1 n1=>icWp P cloneC (thenQ (icWp P (.seq (.reg false (atOps h.length (cloneT' sz b z))) .ret) (cloneQ (cloneR h n sz es))) (cloneQ (cloneR h n sz es))) (St.put ⟨[x,.v undef,.sl true [],x,.v undef,.v undef,.v undef,.v undef],h1,n1⟩ (some 4) p)) (.nilq false (.t 3)):=by
  cases x<;>simp only [elems] at he<;>first | cases he; done | skip
  ·cases he
   show (_→_)∧_
   exact ⟨fun hn=>tail true (fun _=>hn),tail false (by simp)⟩
  ·show (_→_)∧_
   refine ⟨fun hn=>tail true (fun _=>?_),tail false (by simp)⟩
   split at he
   ·split at he
    ·cases he; simp [hn]
    ·cases he
   ·cases he
 exact nq
def cloneOv:List (Nat×Nat×Nat×PV)→Callee
 | [],_,_,_,_=>.no
 | (g,sz,b,z)::r,f,args,h,n=>if f=g then (match args with
  | [x]=>(match elems h x with
   | some es=>if (es.all fun e=>e.cells.length==sz)&&0 < sz&&z.cells.length==sz&&z.stor&&es.length * b≤70368744177664&&es.length≤70368744177664 then .ok (cloneR h n sz es) else .no
   | none=>.no)
  | _=>.no) else cloneOv r f args h n
def ClonesOk (P:Program):List (Nat×Nat×Nat×PV)→Prop
 | []=>True
 | (g,sz,b,z)::r=>FI.ok P g ⟨cloneIC sz b z,[7],8,[.t 2]⟩∧ClonesOk P r
theorem cloneOv_ok {P:Program} (hm:P.follows .mixedOrders=true):∀ {l:List (Nat×Nat×Nat×PV)},ClonesOk P l→CalleeOk P (cloneOv l)
 | [],_,f,args,h,n,r,h',n',he=>by cases he
 | (g,sz,b,z)::l,hl,f,args,h,n,r,h',n',he=>by
  simp only [cloneOv] at he
  split at he
  ·rename_i hfg
   subst hfg
   split at he
   ·split at he
    ·rename_i es hes
     split at he
     ·rename_i hc
      simp only [Bool.and_eq_true,decide_eq_true_eq,beq_iff_eq,List.all_eq_true] at hc
      have:=clone_g hm hl.1 (h:=h) (n:=n) hes hc.1.1.1.1.1 hc.1.1.1.1.2 hc.1.1.1.2 hc.1.1.2 hc.1.2 hc.2
      simp only [Tr.pick,Option.some.injEq] at he
      rw [he] at this
      exact this
     ·cases he
    ·cases he
   ·cases he
  ·exact cloneOv_ok hm hl.2 _ _ _ _ _ _ _ he
end Go.Proofs.Yticljphbbdnomaa.VL
