import Derived.Test.YticljphbbdnomaaW1Xp
namespace Go.Proofs.Yticljphbbdnomaa.VL
open Go
set_option linter.unusedVariables false
set_option linter.unusedSimpArgs false
set_option linter.unusedSectionVars false
variable [Val]
variable {P:Program}
mutual
def closedX:XV→Bool
 | .i _ _=>true
 | .b _=>true
 | .s _=>true
 | .k p=>(match p with | .v _=>true | _=>false)
 | .agg cs=>closedXL cs
 | .arr _ _=>true
 | .tup cs=>closedXL cs
 | .tl _ _=>true
 | .xl _ es=>closedXL es
 | _=>false
def closedXL:List XV→Bool
 | []=>true
 | x::r=>closedX x&&closedXL r
end
mutual
theorem closedX_ok:∀ {x:XV},closedX x=true→closed x.toPV=true
 | .i _ _,_=>by simp [XV.toPV,closed]
 | .b _,_=>by simp [XV.toPV,closed]
 | .s _,_=>by simp [XV.toPV,closed]
 | .k p,h=>by cases p<;>simp [closedX] at h<;>simp [XV.toPV,closed]
 | .agg cs,h=>by simp only [closedX] at h; simp [XV.toPV,closed,closedXL_ok h]
 | .arr t l,_=>by simp only [XV.toPV]; exact closed_enc (t:=.ar t) l
 | .tup cs,h=>by simp only [closedX] at h; simp [XV.toPV,closed,closedXL_ok h]
 | .tl t l,_=>by simp only [XV.toPV]; exact closed_enc (t:=.sl t) l
 | .xl c es,h=>by simp only [closedX] at h; simp [XV.toPV,closed,closedXL_ok h]
 | .own ..,h=>by simp [closedX] at h
 | .optr ..,h=>by simp [closedX] at h
 | .sptr _,h=>by simp [closedX] at h
 | .clo ..,h=>by simp [closedX] at h
 | .mp ..,h=>by simp [closedX] at h
 | .dead,h=>by simp [closedX] at h
theorem closedXL_ok:∀ {l:List XV},closedXL l=true→closedL (toPVL l)=true
 | [],_=>rfl
 | x::r,h=>by
  simp only [closedXL,Bool.and_eq_true] at h
  simp [toPVL,closedL,closedX_ok h.1,closedXL_ok h.2]
end
theorem gcall_of_csem {f:Nat} {args:List PV} {h:List Slot} {n:Nat} {r0:PV} {h0:List Slot} {n0:Nat} (hc:CSem P f args h n (fun p h' n'=>PLe p h' n' r0 h0 n0)):GCall P f args h n r0 h0 n0:=by
 refine ⟨hc.1,fun C t a E vals I hv hr=>(hc.2 C t a E vals I hv hr).mono ?_⟩
 rintro e W' ⟨v,r,h',n',E',rfl,rfl,hle,I',hR⟩
 have I1:InvE C ⟨t++[r],h',n'⟩ { a with tmps:=a.tmps.push v } E':=by
  refine ⟨I'.good,I'.since,I'.touch,I'.defers,by simp [I'.tsize],fun i p u hp hu=>?_⟩
  have hts:a.tmps.size=t.length:=I'.tsize
  simp only [List.getElem?_append] at hp
  simp only [Array.getElem?_push] at hu
  split at hp
  ·rename_i hi
   rw [if_neg (by omega)] at hu
   exact I'.tmps i p u hp hu
  ·rename_i hi
   have:i=t.length:=by
    have:=(List.getElem?_eq_some_iff.1 hp).1
    simp at this
    omega
   subst this
   simp at hp
   rw [if_pos (by omega)] at hu
   cases hu
   subst hp
   exact hR
 obtain ⟨E2,e2,I2⟩:=hle (t++[r]) (some t.length) C _ E' (by simpa [St.put] using I1)
 have I2:InvE C ⟨t++[r0],h0,n0⟩ { a with tmps:=a.tmps.push v } E2:=by simpa [St.put] using I2
 have hts:a.tmps.size=t.length:=I'.tsize
 refine ⟨v,E2,rfl,e2,⟨I2.good,I2.since,I2.touch,I2.defers,hts,fun i p u hp hu=>?_⟩,?_⟩
 ·have hi:=(List.getElem?_eq_some_iff.1 hp).1
  have hi:i < t.length:=hi
  refine I2.tmps i p u (by simp only [List.getElem?_append,if_pos hi]; exact hp) ?_
  simp only [Array.getElem?_push]
  rw [if_neg (by omega)]
  exact hu
 ·refine I2.tmps t.length r0 v (by simp) ?_
  simp only [Array.getElem?_push]
  rw [if_pos (by omega)]
inductive EX where
 | no (e:Empty)
def EX.f:EX→Nat
 | .no e=>nomatch e
def EX.ok (P:Program):EX→Prop
 | .no e=>nomatch e
def calE (x:EX) (args:List XV) (M:Nat) (wp:List Nat) (h:Heap) (n s:Nat) {R:Type} (K:KX R):Option R:=match x with
 | .no e=>nomatch e
theorem calE_fr {x:EX} {args:List XV} {M:Nat} {wp:List Nat} {h:Heap} {n s:Nat} {R:Type} {K K':KX R} (hK:∀ v h' n',StayX M wp h h'→K v h' n'=K' v h' n'):calE x args M wp h n s K=calE x args M wp h n s K':=by
 obtain ⟨e⟩:=x; cases e
theorem calE_csem (hm:P.follows .mixedOrders=true) {x:EX} (hx:x.ok P) {args:List XV} {M:Nat} {wp:List Nat} {h:Heap} {n s:Nat} {R:Type} {K:KX R} {r:R} (hk:calE x args M wp h n s K=some r) :
  ∃ (v:XV) (h':Heap) (n':Nat),K v h' n'=some r∧CSem P x.f (toPVL args) (toH M h) n (fun p h1 n1=>PLe p h1 n1 v.toPV (toH M h') n')∧StayX M wp h h':=by
 obtain ⟨e⟩:=x; cases e
def findEX:List EX→Nat→Option EX
 | [],_=>none
 | x::r,f=>match Nat.beq x.f f with | true=>some x | false=>findEX r f
def EXsOk (P:Program):List EX→Prop
 | []=>True
 | x::r=>x.ok P∧EXsOk P r
theorem findEX_ok:∀ {l:List EX} {f:Nat} {x:EX},EXsOk P l→findEX l f=some x→x.ok P∧x.f=f
 | [],f,x,_,h=>by cases h
 | y::r,f,x,hl,h=>by
  simp only [findEX] at h
  split at h
  ·rename_i hb; cases h; exact ⟨hl.1,Nat.eq_of_beq_eq_true hb⟩
  ·exact findEX_ok hl.2 h
theorem calE_ok (hm:P.follows .mixedOrders=true) {x:EX} (hx:x.ok P) {args:List XV} {M:Nat} {wp:List Nat} {h:Heap} {n s:Nat} {R:Type} {K:KX R} {r:R} {Q:QP} (hk:calE x args M wp h n s K=some r) (O:OkK true M K r Q):CSem P x.f (toPVL args) (toH M h) n Q:=by
 obtain ⟨v,h',n',h1,h2,h3⟩:=calE_csem hm hx hk
 refine ⟨h2.1,fun C t a E vals I hv hr=>(h2.2 C t a E vals I hv hr).mono ?_⟩
 rintro e W' ⟨v',r',h1',n1',E',rfl,rfl,hle,I',hR⟩
 exact ⟨v',r',h1',n1',E',rfl,rfl,O.le rfl hle (O.ok h1),I',hR⟩
theorem galE1_ok (hm:P.follows .mixedOrders=true) {x:EX} (hx:x.ok P) {args:List XV} {M:Nat} {wp:List Nat} {h:Heap} {n s:Nat} {R:Type} {K:KX R} {r:R} (hk:calE x args M wp h n s K=some r) :
  ∃ (v:XV) (h':Heap) (n':Nat),K v h' n'=some r∧GCall P x.f (toPVL args) (toH M h) n v.toPV (toH M h') n'∧StayX M wp h h':=by
 obtain ⟨v,h',n',h1,h2,h3⟩:=calE_csem hm hx hk
 exact ⟨v,h',n',h1,gcall_of_csem h2,h3⟩
def galE (ext:List EX) (f:Nat) (args:List XV) (M:Nat) (ws:List Nat) (h:Heap) (n s:Nat) (R:Type) (K:KX R):Option R:=match findEX ext f with
 | some x=>calE x args M ws h n s K
 | none=>none
theorem galE_fr {ext:List EX} (f:Nat) (args:List XV) (M:Nat) (ws:List Nat) (h:Heap) (n s:Nat) (R:Type) (K K':KX R) (hK:∀ v h' n',StayX M ws h h'→K v h' n'=K' v h' n'):galE ext f args M ws h n s R K=galE ext f args M ws h n s R K':=by
 unfold galE
 split
 ·exact calE_fr hK
 ·rfl
theorem galE_ok (hm:P.follows .mixedOrders=true) {ext:List EX} (he:EXsOk P ext) {f:Nat} {args:List XV} {M:Nat} {ws:List Nat} {h:Heap} {n s:Nat} {R:Type} {K:KX R} {r:R} (hk:galE ext f args M ws h n s R K=some r) :
  ∃ (v:XV) (h':Heap) (n':Nat),K v h' n'=some r∧GCall P f (toPVL args) (toH M h) n v.toPV (toH M h') n'∧StayX M ws h h':=by
 unfold galE at hk
 split at hk
 ·rename_i x hx
  obtain ⟨hok,rfl⟩:=findEX_ok he hx
  exact galE1_ok hm hok hk
 ·cases hk
end Go.Proofs.Yticljphbbdnomaa.VL
