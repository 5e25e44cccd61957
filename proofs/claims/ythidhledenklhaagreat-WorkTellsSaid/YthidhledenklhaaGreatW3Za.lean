import Derived.Test.YthidhledenklhaaGreatW3Xr
import Derived.Laws.RangeString
import Derived.Laws.RangeAny
import Derived.Test.YthidhledenklhaaGreatW3Yc
section
namespace Go.Proofs.YthidhledenklhaaGreat.VL
open Go
set_option linter.unusedVariables false
set_option linter.unusedSectionVars false
variable [Val]
theorem wi {x:Int} (h0:-9223372036854775808≤x) (h1:x≤9223372036854775807):IntKind.wrap .i64 x=x:=by rw [IntKind.wrap_i64]; omega
theorem wu {x:Int} (h0:0≤x) (h1:x≤18446744073709551615):IntKind.wrap .u64 x=x:=by
 simp only [IntKind.wrap,IntKind.bits,IntKind.signed]
 have:x % (2 ^ 64:Int)=x:=Int.emod_eq_of_lt h0 (by omega)
 simp only [this,Bool.false_and]
 rfl
theorem joinX_l {α R:Type} (v:α) (k:α→Option R):joinX (some (.inl v)) k=k v:=rfl
theorem loopX_spec {σ ρ:Type} {f:σ→Option (σ ⊕ ρ)} (I:σ→Prop) (m:σ→Nat) (g:σ→ρ)
  (h:∀ s,I s→f s=some (.inr (g s))∨∃ s',f s=some (.inl s')∧I s'∧m s' < m s∧g s'=g s):∀ (s:σ),I s→loopX f s=some (g s):=by
 have key:∀ (n:Nat) (s:σ),m s≤n→I s→loopX f s=some (g s):=by
  intro n
  induction n with
  | zero =>
   intro s hn hs
   rw [loopX_eq]
   rcases h s hs with h1 | ⟨s',h1,h2,h3,h4⟩
   ·rw [h1]
   ·omega
  | succ n ih =>
   intro s hn hs
   rw [loopX_eq]
   rcases h s hs with h1 | ⟨s',h1,h2,h3,h4⟩
   ·rw [h1]
   ·rw [h1]
    simp only
    rw [ih s' (by omega) h2,h4]
 exact fun s hs=>key (m s) s (Nat.le_refl _) hs
theorem loop_all {ρ:Type} {f:Int→Option (Int ⊕ ρ)} {n:Nat} (ok:Nat→Bool) (bad good:ρ) (hend:f (n:Int)=some (.inr good))
  (hstep:∀ i:Nat,i < n→(∀ j,j < i→ok j=true)→f (i:Int)=if ok i=true then some (.inl ((i+1:Nat):Int)) else some (.inr bad)) :
  loopX f (0:Int)=some (if (List.range n).all ok=true then good else bad):=by
 classical
 have key:∀ i:Nat,i≤n→(∀ j,j < i→ok j=true)→loopX f (i:Int)=some (if ∀ j,i≤j→j < n→ok j=true then good else bad):=by
  intro i hi
  generalize hd:n - i=d
  induction d generalizing i with
  | zero =>
   intro ha
   have:i=n:=by omega
   subst this
   rw [loopX_eq,hend,if_pos (fun j h1 h2=>by omega)]
  | succ d ih =>
   intro ha
   rw [loopX_eq,hstep i (by omega) ha]
   by_cases h:ok i=true
   ·rw [if_pos h]
    simp only
    rw [ih (i+1) (by omega) (by omega) (fun j hj=>by
     rcases Nat.lt_or_eq_of_le (Nat.le_of_lt_succ hj) with h1 | h1
     ·exact ha j h1
     ·rw [h1]; exact h)]
    have e:(∀ j,i+1≤j→j < n→ok j=true) ↔ (∀ j,i≤j→j < n→ok j=true):=by
     constructor
     ·intro q j h1 h2
      rcases Nat.lt_or_eq_of_le h1 with h3 | h3
      ·exact q j h3 h2
      ·rw [← h3]; exact h
     ·intro q j h1 h2; exact q j (by omega) h2
    by_cases hq:∀ j,i≤j→j < n→ok j=true
    ·rw [if_pos hq,if_pos (e.2 hq)]
    ·rw [if_neg hq,if_neg (fun q=>hq (e.1 q))]
   ·rw [if_neg h]
    simp only
    rw [if_neg (fun q=>h (q i (Nat.le_refl _) (by omega)))]
 have:=key 0 (Nat.zero_le _) (fun j hj=>by omega)
 have e0:((0:Nat):Int)=0:=rfl
 rw [e0] at this
 rw [this]
 congr 1
 have e:(∀ j,0≤j→j < n→ok j=true) ↔ (List.range n).all ok=true:=by simp [List.all_eq_true]
 by_cases h:(List.range n).all ok=true
 ·rw [if_pos h,if_pos (e.2 h)]
 ·rw [if_neg h,if_neg (fun q=>h (e.1 q))]
def cntP (p:Nat→Bool):Nat→Nat
 | 0=>0
 | n+1=>cntP p n+(if p n=true then 1 else 0)
theorem cntP_at {p:Nat→Bool}:∀ {n c:Nat},c≤n→(∀ k,k < c→p k=true)→(∀ k,c≤k→k < n→p k=false)→cntP p n=c
 | 0,c,h,_,_=>by simp only [cntP]; omega
 | n+1,c,h,h1,h2=>by
  simp only [cntP]
  by_cases hc:c=n+1
  ·have:=cntP_at (n:=n) (c:=n) (Nat.le_refl _) (fun k hk=>h1 k (by omega)) (fun k q1 q2=>by omega)
   rw [this,if_pos (h1 n (by omega))]; omega
  ·have:=cntP_at (n:=n) (c:=c) (by omega) h1 (fun k q1 q2=>h2 k q1 (by omega))
   rw [this,h2 n (by omega) (by omega)]; simp
theorem loop_bs {f:Int×Int→Option ((Int×Int) ⊕ Int)} {n:Nat} (p:Nat→Bool) (hmono:∀ i j,i≤j→j < n→p j=true→p i=true)
  (hend:∀ i:Nat,i≤n→f ((i:Int),(i:Int))=some (.inr (i:Int)))
  (hstep:∀ i j:Nat,i < j→j≤n→f ((i:Int),(j:Int))=if p ((i+j) / 2)=true then some (.inl ((((i+j) / 2+1:Nat):Int),(j:Int))) else some (.inl ((i:Int),(((i+j) / 2:Nat):Int)))) :
  loopX f ((0:Int),(n:Int))=some ((cntP p n:Nat):Int):=by
 have:=loopX_spec (f:=f) (fun s=>∃ i j:Nat,s=((i:Int),(j:Int))∧i≤j∧j≤n∧(∀ k,k < i→p k=true)∧(∀ k,j≤k→k < n→p k=false)) (fun s=>s.2.toNat - s.1.toNat) (fun _=>((cntP p n:Nat):Int)) ?_ ((0:Int),(n:Int)) ⟨0,n,rfl,Nat.zero_le _,Nat.le_refl _,fun k hk=>by omega,fun k h1 h2=>by omega⟩
 ·exact this
 ·rintro s ⟨i,j,rfl,h1,h2,h3,h4⟩
  by_cases hij:i=j
  ·subst hij
   left
   rw [hend i h2,cntP_at h2 h3 h4]
  ·right
   rw [hstep i j (by omega) h2]
   by_cases hp:p ((i+j) / 2)=true
   ·rw [if_pos hp]
    refine ⟨_,rfl,⟨_,_,rfl,by omega,h2,fun k hk=>hmono k ((i+j) / 2) (by omega) (by omega) hp,h4⟩,by simp only [Int.toNat_natCast]; omega,rfl⟩
   ·rw [if_neg hp]
    refine ⟨_,rfl,⟨_,_,rfl,by omega,by omega,h3,fun k hk hkn=>?_⟩,by simp only [Int.toNat_natCast]; omega,rfl⟩
    rw [Bool.eq_false_iff]
    intro hpk
    exact hp (hmono ((i+j) / 2) k hk hkn hpk)
theorem xs:(∀ {α:Type} (a b:α),cond true a b=a)∧(∀ {α:Type} (a b:α),cond false a b=b)∧(∀ {α β:Type} (a:α) (f:α→Option β),(some a).bind f=f a)∧(∀ {α β:Type} (a:α) (f:α→β),(some a).map f=some (f a)) ∧
 (∀ {α R:Type} (v:α) (k:α→Option R),joinX (some (.inl v)) k=k v)∧(∀ {α R:Type} (r:R) (k:α→Option R),joinX (some (.inr r)) k=some r)∧(∀ (h:Decidable True),@decide True h=true)∧(∀ (h:Decidable False),@decide False h=false)∧((!true)=false)∧((!false)=true)∧(∀ b:Bool,(b&&true)=b)∧(∀ b:Bool,(true&&b)=b)∧(∀ b:Bool,(b&&b)=b)∧(∀ b:Bool,(false&&b)=false)∧(∀ b:Bool,(b&&false)=false)∧(∀ b:Bool,(true || b)=true)∧(∀ b:Bool,(b || true)=true)∧(∀ b:Bool,(false || b)=b)∧(∀ b:Bool,(b || false)=b)∧(∀ {α:Type} (a b:List α),Append.append a b=a++b)∧(∀ {α:Type} (a b:List α),(a++b).length=a.length+b.length)∧(∀ {α:Type} (a:α) (b:List α),(a::b).length=b.length+1)∧(∀ {α:Type},([]:List α).length=0)∧(∀ n:Nat,0+n=n)∧(∀ n:Nat,n+0=n)∧(∀ n:Nat,((n:Int)).toNat=n)∧(∀ n:Nat,(n≤n)=True)∧(∀ n:Int,(n≤n)=True)∧(∀ {α:Type} (a:List α),a.take a.length=a)∧(∀ {α:Type} (a b:α),(some a).getD b=a)∧(∀ {α:Type} (b:α),(none:Option α).getD b=b)∧(∀ {α:Type} (a b:α),(if True then a else b)=a)∧(∀ {α:Type} (a b:α),(if False then a else b)=b)∧((false=true)=False)∧((true=false)=False):=by
 refine ⟨fun _ _=>rfl,fun _ _=>rfl,fun _ _=>rfl,fun _ _=>rfl,fun _ _=>rfl,fun _ _=>rfl,fun _=>by simp,fun _=>by simp,rfl,rfl,?_,?_,?_,?_,?_,?_,?_,?_,?_,fun _ _=>rfl,fun _ _=>List.length_append,fun _ _=>rfl,rfl,Nat.zero_add,fun _=>rfl,fun _=>rfl,fun _=>eq_true (Nat.le_refl _),fun _=>eq_true (Int.le_refl _),fun _=>List.take_length,fun _ _=>rfl,fun _=>rfl,fun _ _=>by simp,fun _ _=>by simp,by simp,by simp⟩<;>(intro b; cases b<;>rfl)
end Go.Proofs.YthidhledenklhaaGreat.VL
end
section
namespace Go.Proofs.YthidhledenklhaaGreat.VL
open Go
set_option linter.unusedVariables false
set_option linter.unusedSectionVars false
set_option linter.unusedSimpArgs false
theorem bl_irrefl:∀ x:List UInt8,Op.bytesLess x x=false
 | []=>rfl
 | a::x=>by
  have:¬ (a < a):=by rw [UInt8.lt_iff_toNat_lt]; omega
  simp [Op.bytesLess,this,bl_irrefl x]
theorem bl_trans:∀ {x y z:List UInt8},Op.bytesLess x y=true→Op.bytesLess y z=true→Op.bytesLess x z=true
 | _,_,[],_,h=>by cases ‹List UInt8›<;>simp [Op.bytesLess] at h
 | [],_,_::_,_,_=>rfl
 | _::_,[],_::_,h,_=>by simp [Op.bytesLess] at h
 | a::x,b::y,c::z,h,k=>by
  simp only [Op.bytesLess,Bool.or_eq_true,decide_eq_true_eq,Bool.and_eq_true,beq_iff_eq] at h k ⊢
  rcases h with h | ⟨rfl,h⟩
  ·rcases k with k | ⟨rfl,k⟩
   ·left; rw [UInt8.lt_iff_toNat_lt] at *; omega
   ·left; exact h
  ·rcases k with k | ⟨rfl,k⟩
   ·left; exact k
   ·right; exact ⟨rfl,bl_trans h k⟩
theorem bl_tri:∀ x y:List UInt8,Op.bytesLess x y=true∨x=y∨Op.bytesLess y x=true
 | [],[]=>.inr (.inl rfl)
 | [],_::_=>.inl rfl
 | _::_,[]=>.inr (.inr rfl)
 | a::x,b::y=>by
  simp only [Op.bytesLess,Bool.or_eq_true,decide_eq_true_eq,Bool.and_eq_true,beq_iff_eq,List.cons.injEq]
  rcases Nat.lt_trichotomy a.toNat b.toNat with h | h | h
  ·left; left; rw [UInt8.lt_iff_toNat_lt]; exact h
  ·have h:=UInt8.toNat_inj.1 h
   subst h
   rcases bl_tri x y with h | h | h
   ·exact .inl (.inr ⟨rfl,h⟩)
   ·exact .inr (.inl ⟨rfl,h⟩)
   ·exact .inr (.inr (.inr ⟨rfl,h⟩))
  ·right; right; left; rw [UInt8.lt_iff_toNat_lt]; exact h
theorem toList_loop (s:ByteArray):∀ (n i:Nat) (r:List UInt8),s.size - i=n→i≤s.size→ByteArray.toList.loop s i r=r.reverse++(s.data.toList.drop i):=by
 intro n
 induction n with
 | zero =>
  intro i r h hi
  have:i=s.size:=by omega
  unfold ByteArray.toList.loop
  rw [if_neg (by omega),List.drop_eq_nil_of_le (by rw [Array.length_toList]; show s.size≤i; omega),List.append_nil]
 | succ n ih =>
  intro i r h hi
  unfold ByteArray.toList.loop
  rw [if_pos (by omega),ih (i+1) _ (by omega) (by omega)]
  have hlt:i < s.data.toList.length:=by rw [Array.length_toList]; show i < s.size; omega
  have e:s.get! i=s.data.toList[i]:=by
   show s.data[i]! = _
   rw [getElem!_pos s.data i (by rw [Array.length_toList] at hlt; exact hlt)]
   simp
  rw [List.reverse_cons,List.append_assoc,List.singleton_append,e,List.drop_eq_getElem_cons hlt]
theorem toList_data (s:ByteArray):s.toList=s.data.toList:=by
 have:=toList_loop s (s.size - 0) 0 [] rfl (Nat.zero_le _)
 unfold ByteArray.toList
 rw [this]; simp
theorem toList_inj {a b:ByteArray} (h:a.toList=b.toList):a=b:=by
 rw [toList_data,toList_data] at h
 cases a; cases b
 simp only [ByteArray.mk.injEq]
 exact Array.toList_inj.1 h
theorem toList_len (s:ByteArray):s.toList.length=s.size:=by rw [toList_data,Array.length_toList]; rfl
theorem toList_nil (s:ByteArray):(s.toList==(ByteArray.mk #[]).toList)=decide (s.size=0):=by
 have h0:(ByteArray.mk #[]).toList=[]:=by rw [toList_data]
 rw [h0,Bool.eq_iff_iff,beq_iff_eq,decide_eq_true_iff,← toList_len]
 exact List.length_eq_zero_iff.symm
theorem ba_get {s:ByteArray} {i:Nat} (h:i < s.size):s[(Int.toNat (i:Int))]?=some (s.get! i):=by
 rw [Int.toNat_natCast]
 have e:s.get! i=s[i]'h:=by
  show s.data[i]! = _
  rw [getElem!_pos s.data i h]
  first | done | rfl
 rw [e]
 exact getElem?_pos s i h
variable [Val]
def okB (n:Nat):Bool:=(decide (97≤n)&&decide (n≤122)) || ((decide (48≤n)&&decide (n≤57)) || decide (n=45))
def nmB (s:ByteArray):Bool:=(List.range s.size).all (fun i=>okB (s.get! i).toNat)&&(decide (1≤s.size)&&decide (s.size≤20))
theorem rune_cond (n:Nat) {R:Type} (a b:Option R):(Option.bind (cond (decide ((97:Int)≤(n:Int))) (cond (decide ((n:Int)≤(122:Int))) (some false) (cond (decide ((48:Int)≤(n:Int))) (cond (decide ((n:Int)≤(57:Int))) (some false) (some (!((n:Int)==(45:Int))))) (some (!((n:Int)==(45:Int)))))) (cond (decide ((48:Int)≤(n:Int))) (cond (decide ((n:Int)≤(57:Int))) (some false) (some (!((n:Int)==(45:Int))))) (some (!((n:Int)==(45:Int)))))) (fun (v1:Bool)=>cond v1 a b))=if okB n=true then b else a:=by
 have e45:((n:Int)==(45:Int))=decide (n=45):=by rw [Bool.eq_iff_iff,beq_iff_eq,decide_eq_true_iff]; omega
 have e1:decide ((97:Int)≤(n:Int))=decide (97≤n):=by rw [Bool.eq_iff_iff,decide_eq_true_iff,decide_eq_true_iff]; omega
 have e2:decide ((n:Int)≤(122:Int))=decide (n≤122):=by rw [Bool.eq_iff_iff,decide_eq_true_iff,decide_eq_true_iff]; omega
 have e3:decide ((48:Int)≤(n:Int))=decide (48≤n):=by rw [Bool.eq_iff_iff,decide_eq_true_iff,decide_eq_true_iff]; omega
 have e4:decide ((n:Int)≤(57:Int))=decide (n≤57):=by rw [Bool.eq_iff_iff,decide_eq_true_iff,decide_eq_true_iff]; omega
 rw [e45,e1,e2,e3,e4]
 unfold okB
 cases decide (97≤n)<;>cases decide (n≤122)<;>cases decide (48≤n)<;>cases decide (n≤57)<;>cases decide (n=45)<;>rfl
theorem runes_loop {s:ByteArray} {f:ByteArray×Nat→Option ((ByteArray×Nat) ⊕ (Unit ⊕ Bool))}
  (hend:∀ pos,s.size≤pos→f (s,pos)=some (.inr (.inl ()))) (hstep:∀ pos,pos < s.size→f (s,pos)=if okB (Utf8.decode s pos).1=true then some (.inl (s,pos+(Utf8.decode s pos).2)) else some (.inr (.inr false))) :
  loopX f (s,0)=some (if (List.range s.size).all (fun i=>okB (s.get! i).toNat)=true then .inl () else .inr false):=by
 classical
 have gm:∀ i (h:i < s.size),s.get! i=s[i]'h:=by
  intro i h
  show s.data[i]! = _
  rw [getElem!_pos s.data i h]; rfl
 have:=loopX_spec (f:=f) (fun x=>x.1=s∧∀ j,j < x.2→j < s.size→okB (s.get! j).toNat=true) (fun x=>s.size - x.2) (fun x=>if ∀ j,x.2≤j→j < s.size→okB (s.get! j).toNat=true then .inl () else .inr false) ?_ (s,0) ⟨rfl,fun j hj=>by simp at hj⟩
 ·rw [this]
  have e:(∀ j,0≤j→j < s.size→okB (s.get! j).toNat=true) ↔ (List.range s.size).all (fun i=>okB (s.get! i).toNat)=true:=by simp [List.all_eq_true]
  congr 1
  by_cases h:(List.range s.size).all (fun i=>okB (s.get! i).toNat)=true
  ·rw [if_pos h,if_pos (e.2 h)]
  ·rw [if_neg h,if_neg (fun q=>h (e.1 q))]
 ·rintro ⟨s',pos⟩ ⟨h1,h2⟩
  simp only at h1 h2 ⊢
  subst h1
  by_cases hp:s'.size≤pos
  ·left
   rw [hend pos hp,if_pos (fun j q1 q2=>by omega)]
  ·have hlt:pos < s'.size:=by omega
   rw [hstep pos hlt]
   by_cases ha:(s'[pos]'hlt).toNat < 128
   ·have hd:=decode_ascii s' pos hlt ha
    rw [hd]
    simp only
    rw [← gm pos hlt]
    by_cases hok:okB (s'.get! pos).toNat=true
    ·rw [if_pos hok]
     right
     refine ⟨_,rfl,⟨rfl,fun j hj hj2=>?_⟩,by simp only; omega,?_⟩
     ·rcases Nat.lt_or_eq_of_le (Nat.le_of_lt_succ hj) with q | q
      ·exact h2 j q hj2
      ·rw [q]; exact hok
     ·simp only
      have e:(∀ j,pos+1≤j→j < s'.size→okB (s'.get! j).toNat=true) ↔ (∀ j,pos≤j→j < s'.size→okB (s'.get! j).toNat=true):=by
       constructor
       ·intro q j h1 h2
        rcases Nat.lt_or_eq_of_le h1 with h3 | h3
        ·exact q j h3 h2
        ·rw [← h3]; exact hok
       ·intro q j h1 h2; exact q j (by omega) h2
      by_cases hq:∀ j,pos≤j→j < s'.size→okB (s'.get! j).toNat=true
      ·rw [if_pos hq,if_pos (e.2 hq)]
      ·rw [if_neg hq,if_neg (fun q=>hq (e.1 q))]
    ·rw [if_neg hok]
     left
     rw [if_neg (fun q=>hok (q pos (Nat.le_refl _) hlt))]
   ·have hd:=decode_high s' pos hlt (by omega)
    have hbad:∀ n,128≤n→okB n=false:=by
     intro n hn
     unfold okB
     have a1:decide (n≤122)=false:=by rw [decide_eq_false_iff_not]; omega
     have a2:decide (n≤57)=false:=by rw [decide_eq_false_iff_not]; omega
     have a3:decide (n=45)=false:=by rw [decide_eq_false_iff_not]; omega
     rw [a1,a2,a3]
     cases decide (97≤n)<;>cases decide (48≤n)<;>rfl
    rw [hbad _ hd.1]
    left
    rw [if_neg (by simp),if_neg]
    intro q
    have:=q pos (Nat.le_refl _) hlt
    rw [gm pos hlt,hbad _ (by omega)] at this
    cases this
theorem octets_loop {s:ByteArray} {ρ:Type} {good bad:ρ} {f:Int→Option (Int ⊕ ρ)} (hend:f (s.size:Int)=some (.inr good))
  (hstep:∀ i:Nat,i < s.size→f (i:Int)=if okB (s.get! i).toNat=true then some (.inl ((i+1:Nat):Int)) else some (.inr bad)) :
  loopX f 0=some (if (List.range s.size).all (fun i=>okB (s.get! i).toNat)=true then good else bad) :=
 loop_all _ _ _ hend (fun i hi _=>hstep i hi)
end Go.Proofs.YthidhledenklhaaGreat.VL
end
section
namespace Go.Proofs.YthidhledenklhaaGreat.VL
open Go
set_option linter.unusedVariables false
set_option linter.unusedSectionVars false
set_option linter.unusedSimpArgs false
structure KOrd (κ:Type) where
 lt:κ→κ→Bool
 irr:∀ a,lt a a=false
 trn:∀ a b c,lt a b=true→lt b c=true→lt a c=true
 tri:∀ a b,lt a b=true∨a=b∨lt b a=true
namespace KOrd
variable {κ α:Type} (O:KOrd κ) (key:α→κ)
theorem asym {a b:κ} (h:O.lt a b=true):O.lt b a=false:=by
 rw [Bool.eq_false_iff]; intro k
 have:=O.trn _ _ _ h k
 rw [O.irr] at this; cases this
theorem ne {a b:κ} (h:O.lt a b=true):a≠b:=by rintro rfl; rw [O.irr] at h; cases h
def Srt (l:List α):Prop:=l.Pairwise (fun a b=>O.lt (key a) (key b)=true)
def plc (l:List α) (k:κ):Nat:=l.countP (fun x=>O.lt (key x) k)
open Classical in
noncomputable def look (l:List α) (k:κ):Option α:=l.find? (fun x=>decide (key x=k))
def put (l:List α) (x:α):List α:=l.filter (fun y=>O.lt (key y) (key x))++x::l.filter (fun y=>O.lt (key x) (key y))
variable {O key}
theorem Srt.tail {a:α} {l:List α} (h:O.Srt key (a::l)):O.Srt key l:=(List.pairwise_cons.1 h).2
theorem Srt.head {a:α} {l:List α} (h:O.Srt key (a::l)):∀ b ∈ l,O.lt (key a) (key b)=true:=(List.pairwise_cons.1 h).1
theorem plc_le (l:List α) (k:κ):O.plc key l k≤l.length:=List.countP_le_length
theorem split {l:List α} (hs:O.Srt key l) (k:κ):l.take (O.plc key l k)=l.filter (fun y=>O.lt (key y) k)∧l.drop (O.plc key l k)=l.filter (fun y=>!O.lt (key y) k):=by
 induction l with
 | nil=>exact ⟨rfl,rfl⟩
 | cons a l ih =>
  obtain ⟨i1,i2⟩:=ih hs.tail
  cases h:O.lt (key a) k with
  | true =>
   have e:O.plc key (a::l) k=O.plc key l k+1:=by unfold plc; simp [List.countP_cons,h]
   rw [e,List.take_succ_cons,List.drop_succ_cons,i1,i2]
   constructor<;>simp [h]
  | false =>
   have hall:∀ b ∈ l,O.lt (key b) k=false:=by
    intro b hb
    rw [Bool.eq_false_iff]; intro hk
    have:=O.trn _ _ _ (hs.head b hb) hk
    rw [h] at this; cases this
   have e:O.plc key (a::l) k=0:=by
    unfold plc
    simp only [List.countP_cons,h,Bool.false_eq_true,if_false,Nat.add_zero,List.countP_eq_zero]
    intro b hb; rw [hall b hb]; decide
   have f1:(a::l).filter (fun y=>O.lt (key y) k)=l.filter (fun y=>O.lt (key y) k):=by simp [h]
   have f2:(a::l).filter (fun y=>!O.lt (key y) k)=a::l.filter (fun y=>!O.lt (key y) k):=by simp [h]
   rw [e,List.take_zero,List.drop_zero,f1,f2]
   refine ⟨?_,?_⟩
   ·symm; rw [List.filter_eq_nil_iff]; intro b hb; rw [hall b hb]; decide
   ·rw [List.filter_eq_self.2]; intro b hb; rw [hall b hb]; rfl
theorem look_some {l:List α} {k:κ} {x:α} (h:look key l k=some x):x ∈ l∧key x=k:=by
 unfold look at h
 exact ⟨List.mem_of_find?_eq_some h,by have:=List.find?_some h; simpa using this⟩
theorem look_none {l:List α} {k:κ} (h:look key l k=none):∀ x ∈ l,key x≠k:=by
 unfold look at h
 rw [List.find?_eq_none] at h
 intro x hx; have:=h x hx; simpa using this
theorem look_none' {l:List α} {k:κ} (h:∀ x ∈ l,key x≠k):look key l k=none:=by
 unfold look
 rw [List.find?_eq_none]
 intro x hx; have:=h x hx; simpa using this
theorem look_mem {l:List α} (hs:O.Srt key l) {x:α} (hx:x ∈ l):look key l (key x)=some x:=by
 induction l with
 | nil=>cases hx
 | cons a l ih =>
  unfold look
  by_cases he:key a=key x
  ·rw [List.find?_cons_of_pos (by simpa using he)]
   rcases List.mem_cons.1 hx with rfl | hx
   ·rfl
   ·exact absurd he (O.ne (hs.head x hx))
  ·rw [List.find?_cons_of_neg (by simpa using he)]
   rcases List.mem_cons.1 hx with rfl | hx
   ·exact absurd rfl he
   ·exact ih hs.tail hx
theorem look_at {l:List α} (hs:O.Srt key l) (k:κ):look key l k=(match l[O.plc key l k]? with | some x=>(if O.lt k (key x)=true then none else some x) | none=>none):=by
 have h2:=(split hs k).2
 have h3:l[O.plc key l k]?=(l.drop (O.plc key l k))[0]?:=by rw [List.getElem?_drop]; rfl
 rw [h3,h2]
 cases hd:l.filter (fun y=>!O.lt (key y) k) with
 | nil =>
  simp only [List.getElem?_nil]
  refine look_none' fun x hx he=>?_
  rw [List.filter_eq_nil_iff] at hd
  have:=hd x hx
  rw [he,O.irr] at this; exact this rfl
 | cons y r =>
  simp only [List.getElem?_cons_zero]
  have hy:y ∈ l∧O.lt (key y) k=false:=by
   have:y ∈ l.filter (fun y=>!O.lt (key y) k):=by rw [hd]; exact List.mem_cons_self
   rw [List.mem_filter] at this
   exact ⟨this.1,by simpa using this.2⟩
  have hsr:O.Srt key (y::r):=by rw [← hd]; exact List.Pairwise.filter _ hs
  cases hk:O.lt k (key y) with
  | true =>
   rw [if_pos rfl]
   refine look_none' fun x hx he=>?_
   have:x ∈ l.filter (fun y=>!O.lt (key y) k):=by rw [List.mem_filter]; exact ⟨hx,by rw [he,O.irr]; rfl⟩
   rw [hd] at this
   rcases List.mem_cons.1 this with rfl | hx'
   ·rw [he,O.irr] at hk; cases hk
   ·have:=O.trn _ _ _ hk (hsr.head x hx')
    rw [he,O.irr] at this; cases this
  | false =>
   rw [if_neg (by decide)]
   have he:key y=k:=by
    rcases O.tri (key y) k with q | q | q
    ·rw [hy.2] at q; cases q
    ·exact q
    ·rw [hk] at q; cases q
   rw [← he]
   exact look_mem hs hy.1
theorem mem_put {l:List α} {x y:α}:y ∈ O.put key l x ↔ y=x∨(y ∈ l∧key y≠key x):=by
 unfold put
 rw [List.mem_append,List.mem_cons,List.mem_filter,List.mem_filter]
 constructor
 ·rintro (⟨h1,h2⟩ | rfl | ⟨h1,h2⟩)
  ·exact .inr ⟨h1,O.ne h2⟩
  ·exact .inl rfl
  ·exact .inr ⟨h1,fun e=>O.ne h2 e.symm⟩
 ·rintro (rfl | ⟨h1,h2⟩)
  ·exact .inr (.inl rfl)
  ·rcases O.tri (key y) (key x) with q | q | q
   ·exact .inl ⟨h1,q⟩
   ·exact absurd q h2
   ·exact .inr (.inr ⟨h1,q⟩)
theorem srt_put {l:List α} (hs:O.Srt key l) (x:α):O.Srt key (O.put key l x):=by
 unfold put Srt
 rw [List.pairwise_append]
 refine ⟨List.Pairwise.filter _ hs,?_,?_⟩
 ·rw [List.pairwise_cons]
  exact ⟨fun b hb=>(List.mem_filter.1 hb).2,List.Pairwise.filter _ hs⟩
 ·intro a ha b hb
  have ha:=(List.mem_filter.1 ha).2
  rcases List.mem_cons.1 hb with rfl | hb
  ·exact ha
  ·exact O.trn _ _ _ ha (List.mem_filter.1 hb).2
theorem look_put {l:List α} (hs:O.Srt key l) (x:α) (k:κ):look key (O.put key l x) k=(open Classical in if key x=k then some x else look key l k):=by
 split
 ·rename_i h
  rw [← h]
  exact look_mem (srt_put hs x) (mem_put.2 (.inl rfl))
 ·rename_i h
  cases hl:look key l k with
  | none =>
   refine look_none' fun y hy he=>?_
   ·rcases mem_put.1 hy with rfl | ⟨h1,h2⟩
    ·exact h he
    ·exact look_none hl y h1 he
  | some y =>
   obtain ⟨h1,h2⟩:=look_some hl
   rw [← h2]
   exact look_mem (srt_put hs x) (mem_put.2 (.inr ⟨h1,by rw [h2]; exact fun e=>h e.symm⟩))
theorem srt_ext:∀ {l m:List α},O.Srt key l→O.Srt key m→(∀ x,x ∈ l ↔ x ∈ m)→l=m
 | [],[],_,_,_=>rfl
 | [],b::m,_,_,h=>by have:=(h b).2 List.mem_cons_self; cases this
 | a::l,[],_,_,h=>by have:=(h a).1 List.mem_cons_self; cases this
 | a::l,b::m,h1,h2,h=>by
  have hab:a=b:=by
   rcases List.mem_cons.1 ((h a).1 List.mem_cons_self) with q | q
   ·exact q
   ·rcases List.mem_cons.1 ((h b).2 List.mem_cons_self) with q2 | q2
    ·exact q2.symm
    ·have e1:=h2.head a q
     have e2:=h1.head b q2
     rw [O.asym e1] at e2; cases e2
  subst hab
  congr 1
  refine srt_ext h1.tail h2.tail fun x=>?_
  constructor
  ·intro hx
   rcases List.mem_cons.1 ((h x).1 (List.mem_cons_of_mem _ hx)) with rfl | q
   ·have:=h1.head x hx; rw [O.irr] at this; cases this
   ·exact q
  ·intro hx
   rcases List.mem_cons.1 ((h x).2 (List.mem_cons_of_mem _ hx)) with rfl | q
   ·have:=h2.head x hx; rw [O.irr] at this; cases this
   ·exact q
theorem put_set {l:List α} (hs:O.Srt key l) {x y:α} (h:l[O.plc key l (key x)]?=some y) (he:key y=key x):l.set (O.plc key l (key x)) x=O.put key l x:=by
 obtain ⟨h1,h2⟩:=split hs (key x)
 have hlt:=(List.getElem?_eq_some_iff.1 h).1
 rw [List.set_eq_take_append_cons_drop,if_pos hlt,h1]
 unfold put
 congr 2
 have hd:l.drop (O.plc key l (key x))=y::l.drop (O.plc key l (key x)+1):=by
  rw [List.drop_eq_getElem_cons hlt]
  congr 1
  exact (List.getElem?_eq_some_iff.1 h).2
 have hsd:O.Srt key (y::l.drop (O.plc key l (key x)+1)):=by rw [← hd]; exact List.Pairwise.drop hs
 have hall:∀ b ∈ l.drop (O.plc key l (key x)+1),O.lt (key x) (key b)=true:=by
  intro b hb; rw [← he]; exact hsd.head b hb
 have e:l.filter (fun z=>O.lt (key x) (key z))=(l.filter (fun z=>!O.lt (key z) (key x))).filter (fun z=>O.lt (key x) (key z)):=by
  rw [List.filter_filter]
  refine List.filter_congr fun z _=>?_
  cases hz:O.lt (key x) (key z) with
  | false=>rfl
  | true=>rw [O.asym hz]; rfl
 have f:(y::l.drop (O.plc key l (key x)+1)).filter (fun z=>O.lt (key x) (key z))=l.drop (O.plc key l (key x)+1):=by
  have:O.lt (key x) (key y)=false:=by rw [he,O.irr]
  simp only [List.filter_cons,this,Bool.false_eq_true,if_false]
  exact List.filter_eq_self.2 hall
 rw [e,← h2,hd,f]
theorem put_ins {l:List α} (hs:O.Srt key l) {x:α} (h:look key l (key x)=none):l.take (O.plc key l (key x))++x::l.drop (O.plc key l (key x))=O.put key l x:=by
 obtain ⟨h1,h2⟩:=split hs (key x)
 rw [h1,h2]
 unfold put
 congr 2
 refine List.filter_congr fun z hz=>?_
 have hn:=look_none h z hz
 rcases O.tri (key z) (key x) with q | q | q
 ·rw [q,O.asym q]; rfl
 ·exact absurd q hn
 ·rw [O.asym q,q]; rfl
theorem len_put {l:List α} (hs:O.Srt key l) (x:α):(O.put key l x).length=if (look key l (key x)).isSome=true then l.length else l.length+1:=by
 cases h:look key l (key x) with
 | none =>
  rw [← put_ins hs h]
  have:=plc_le (O:=O) (key:=key) l (key x)
  simp only [List.length_append,List.length_cons,List.length_take,List.length_drop,Option.isSome_none,Bool.false_eq_true,if_false]; omega
 | some y =>
  have ha:=look_at hs (key x)
  rw [h] at ha
  cases hg:l[O.plc key l (key x)]? with
  | none=>rw [hg] at ha; cases ha
  | some z =>
   rw [hg] at ha
   simp only at ha
   split at ha
   ·cases ha
   ·have:y=z:=Option.some.inj ha
    subst this
    rw [← put_set hs hg (look_some h).2]
    simp
end KOrd
end Go.Proofs.YthidhledenklhaaGreat.VL
end
section
namespace Go.Proofs.YthidhledenklhaaGreat.VL
open Go
set_option linter.unusedVariables false
set_option linter.unusedSectionVars false
set_option linter.unusedSimpArgs false
def ltN (a b:ByteArray):Bool:=Op.bytesLess a.toList b.toList
def eqN (a b:ByteArray):Bool:=a.toList==b.toList
theorem eqN_eq {a b:ByteArray} (h:eqN a b=true):a=b:=toList_inj (by unfold eqN at h; exact eq_of_beq h)
theorem eqN_refl (a:ByteArray):eqN a a=true:=by unfold eqN; exact beq_self_eq_true _
theorem eqN_iff {a b:ByteArray}:eqN a b=true ↔ a=b:=⟨eqN_eq,fun h=>by rw [h]; exact eqN_refl _⟩
theorem tri (a b:ByteArray):ltN a b=true∨a=b∨ltN b a=true:=by
 rcases bl_tri a.toList b.toList with h | h | h
 ·exact .inl h
 ·exact .inr (.inl (toList_inj h))
 ·exact .inr (.inr h)
def nmO:KOrd ByteArray:=⟨ltN,fun a=>bl_irrefl _,fun a b c h k=>bl_trans h k,tri⟩
theorem eqN_of_lt {a b:ByteArray} (h:ltN a b=true):eqN a b=false:=by
 rw [Bool.eq_false_iff]; intro k; rw [eqN_eq k] at h; have:=bl_irrefl b.toList; unfold ltN at h; rw [this] at h; cases h
def cmpN (a b:ByteArray):Int:=if ltN a b=true then -1 else if eqN a b=true then 0 else 1
theorem cmp_lt (a b:ByteArray):decide (cmpN a b < 0)=ltN a b:=by
 unfold cmpN
 cases ltN a b<;>cases eqN a b<;>rfl
theorem cmp_eq (a b:ByteArray):(cmpN a b==0)=eqN a b:=by
 unfold cmpN
 cases h:ltN a b
 ·cases eqN a b<;>rfl
 ·rw [eqN_of_lt h]; rfl
variable [Val]
theorem mid {i j:Nat} (h:i+j≤9223372036854775807):IntKind.wrap .i64 (Int.fdiv (IntKind.wrap .u64 (IntKind.wrap .i64 ((i:Int)+(j:Int)))) 2)=(((i+j) / 2:Nat):Int):=by
 rw [wi (x:=(i:Int)+j) (by omega) (by omega),wu (by omega) (by omega)]
 have e:Int.fdiv ((i:Int)+(j:Int)) 2=(((i+j) / 2:Nat):Int):=by
  rw [Int.fdiv_eq_ediv_of_nonneg _ (by omega)]; omega
 rw [e,wi (by omega) (by omega)]
theorem not_lt_self (n:Nat):¬ ((n:Nat):Int) < ((n:Nat):Int):=by omega
theorem w1 {i:Nat} (h:i≤9223372036854775806):IntKind.wrap .i64 ((i:Int)+1)=((i+1:Nat):Int):=by rw [wi (by omega) (by omega)]; omega
theorem wm {i:Nat} (h:i≤9223372036854775806) (h0:0 < i):IntKind.wrap .i64 ((i:Int) - 1)=((i - 1:Nat):Int):=by rw [wi (by omega) (by omega)]; omega
theorem len63 {n:Nat} (h:n≤maxLen):n≤9223372036854775807:=Nat.le_trans h (by decide)
theorem dlt (a b:Int):decide (a < b)=!decide (b≤a):=by rw [Bool.eq_iff_iff,Bool.not_eq_true',decide_eq_true_iff,decide_eq_false_iff_not]; omega
theorem dgt (a b:Int):decide (a > b)=!decide (a≤b):=by rw [Bool.eq_iff_iff,Bool.not_eq_true',decide_eq_true_iff,decide_eq_false_iff_not]; omega
theorem nz0:((0:Int) != 0)=false:=rfl
theorem nz1:((1:Int) != 0)=true:=rfl
theorem eqq (b:Bool):((if b=true then (0:Int) else 1)==0)=b:=by cases b<;>rfl
theorem neq1 (b:Bool):((if b=true then (0:Int) else 1) != 0)=!b:=by cases b<;>rfl
theorem loop_detE {σ ρ:Type} {f:σ→Option (σ ⊕ ρ)} {s0:σ} (n:Nat) (st:Nat→σ) (r:ρ) (h0:s0=st 0) (hend:f (st n)=some (.inr r)) (hstep:∀ i,i < n→f (st i)=some (.inl (st (i+1)))):loopX f s0=some r:=by
 have key:∀ d i,n - i=d→i≤n→loopX f (st i)=some r:=by
  intro d
  induction d with
  | zero =>
   intro i h1 h2
   have:i=n:=by omega
   subst this; rw [loopX_eq,hend]
  | succ d ih=>intro i h1 h2; rw [loopX_eq,hstep i (by omega)]; exact ih (i+1) (by omega) (by omega)
 rw [h0]; exact key n 0 (by omega) (Nat.zero_le _)
theorem loop_ex {σ ρ:Type} {f:σ→Option (σ ⊕ ρ)} (I:σ→Prop) (m:σ→Nat) (P:ρ→Prop) (h:∀ s,I s→(∃ r,f s=some (.inr r)∧P r)∨∃ s',f s=some (.inl s')∧I s'∧m s' < m s) (s:σ) (hs:I s):∃ r,loopX f s=some r∧P r:=by
 have key:∀ (n:Nat) (s:σ),m s≤n→I s→∃ r,loopX f s=some r∧P r:=by
  intro n
  induction n with
  | zero =>
   intro s hn hs
   rw [loopX_eq]
   rcases h s hs with ⟨r,h1,h2⟩ | ⟨s',h1,h2,h3⟩
   ·rw [h1]; exact ⟨r,rfl,h2⟩
   ·omega
  | succ n ih =>
   intro s hn hs
   rw [loopX_eq]
   rcases h s hs with ⟨r,h1,h2⟩ | ⟨s',h1,h2,h3⟩
   ·rw [h1]; exact ⟨r,rfl,h2⟩
   ·rw [h1]; exact ih s' (by omega) h2
 exact key (m s) s (Nat.le_refl _) hs
theorem loop_list {α ρ:Type} {f:Int→Option (Int ⊕ ρ)} {s0:Int} (l:List α) (ok:α→Bool) (bad good:ρ) (h0:s0=0) (hend:f (l.length:Int)=some (.inr good))
  (hstep:∀ (i:Nat) (x:α),i < l.length→l[i]?=some x→f (i:Int)=if ok x=true then some (.inl ((i+1:Nat):Int)) else some (.inr bad)) :
  loopX f s0=some (if l.all ok=true then good else bad):=by
 subst h0
 rw [loop_all (n:=l.length) (fun i=>match l[i]? with | some x=>ok x | none=>true) bad good hend ?_]
 ·congr 2
  rw [eq_iff_iff,List.all_eq_true,List.all_eq_true]
  constructor
  ·intro h x hx
   obtain ⟨i,hi,rfl⟩:=List.getElem_of_mem hx
   have:=h i (List.mem_range.2 hi)
   rw [List.getElem?_eq_getElem hi] at this; exact this
  ·intro h i hi
   have hi:=List.mem_range.1 hi
   rw [List.getElem?_eq_getElem hi]; exact h _ (List.getElem_mem hi)
 ·intro i hi _
  rw [hstep i l[i] hi (List.getElem?_eq_getElem hi),List.getElem?_eq_getElem hi]
theorem loop_first {α ρ:Type} {f:Int→Option (Int ⊕ ρ)} {s0:Int} (l:List α) (p:α→Bool) (g:Nat→ρ) (no:ρ) (h0:s0=0) (hend:f (l.length:Int)=some (.inr no))
  (hstep:∀ (i:Nat) (x:α),i < l.length→l[i]?=some x→f (i:Int)=if p x=true then some (.inr (g i)) else some (.inl ((i+1:Nat):Int))) :
  loopX f s0=some (if l.any p=true then g (l.findIdx p) else no):=by
 subst h0
 have key:∀ d i,l.length - i=d→i≤l.length→(∀ j x,j < i→l[j]?=some x→p x=false)→loopX f (i:Int)=some (if l.any p=true then g (l.findIdx p) else no):=by
  intro d
  induction d with
  | zero =>
   intro i h1 h2 h3
   have:i=l.length:=by omega
   subst this
   rw [loopX_eq,hend,if_neg]
   rw [Bool.not_eq_true,List.any_eq_false]
   intro x hx
   obtain ⟨j,hj,rfl⟩:=List.getElem_of_mem hx
   rw [h3 j _ hj (List.getElem?_eq_getElem hj)]; decide
  | succ d ih =>
   intro i h1 h2 h3
   have hi:i < l.length:=by omega
   rw [loopX_eq,hstep i l[i] hi (List.getElem?_eq_getElem hi)]
   by_cases hp:p l[i]=true
   ·rw [if_pos hp]
    have ha:l.any p=true:=List.any_eq_true.2 ⟨_,List.getElem_mem hi,hp⟩
    have hf:l.findIdx p=i:=by
     refine (List.findIdx_eq hi).2 ⟨hp,fun j hj=>?_⟩
     exact h3 j _ hj (List.getElem?_eq_getElem (by omega))
    rw [if_pos ha,hf]
   ·rw [if_neg hp]
    simp only
    refine ih (i+1) (by omega) (by omega) fun j x hj hx=>?_
    rcases Nat.lt_or_eq_of_le (Nat.le_of_lt_succ hj) with q | q
    ·exact h3 j x q hx
    ·subst q
     rw [List.getElem?_eq_getElem hi] at hx
     cases hx
     exact Bool.eq_false_iff.2 hp
 exact key l.length 0 (by omega) (Nat.zero_le _) fun j x hj=>by omega
theorem loop_same {α:Type} [DecidableEq α] {f:Int→Option (Int ⊕ Bool)} {s0:Int} (a b:List α) (hl:a.length=b.length) (h0:s0=0) (hend:f (a.length:Int)=some (.inr true))
  (hstep:∀ (i:Nat) (x y:α),i < a.length→a[i]?=some x→b[i]?=some y→f (i:Int)=if x=y then some (.inl ((i+1:Nat):Int)) else some (.inr false)) :
  loopX f s0=some (decide (a=b)):=by
 have:=loop_list (f:=f) (s0:=s0) (a.zip b) (fun p=>decide (p.1=p.2)) false true h0 (by rw [List.length_zip,← hl,Nat.min_self]; exact hend) (fun i p hi hp=>by
  have hi:i < a.length:=by rw [List.length_zip,← hl,Nat.min_self] at hi; exact hi
  rw [List.getElem?_zip_eq_some] at hp
  rw [hstep i p.1 p.2 hi hp.1 hp.2]
  by_cases he:p.1=p.2<;>simp [he])
 rw [this]
 congr 1
 rw [Bool.eq_iff_iff,decide_eq_true_iff]
 have e:((a.zip b).all fun p=>decide (p.1=p.2))=true ↔ a=b:=by
  rw [List.all_eq_true]
  constructor
  ·intro h
   refine List.ext_getElem hl fun i h1 h2=>?_
   have:=h (a[i],b[i]) (by rw [List.mem_iff_getElem?]; exact ⟨i,by rw [List.getElem?_zip_eq_some]; exact ⟨List.getElem?_eq_getElem h1,List.getElem?_eq_getElem h2⟩⟩)
   simpa using this
  ·rintro rfl p hp
   rw [List.mem_iff_getElem?] at hp
   obtain ⟨i,hi⟩:=hp
   rw [List.getElem?_zip_eq_some] at hi
   have:=hi.1.symm.trans hi.2
   simpa using this
 by_cases h:((a.zip b).all fun p=>decide (p.1=p.2))=true
 ·rw [if_pos h]; simp [e.1 h]
 ·rw [if_neg h]; simp; exact fun q=>h (e.2 q)
theorem loop_gath {α β ρ:Type} {f:Int×List β→Option ((Int×List β) ⊕ ρ)} {s0:Int×List β} (l:List α) (g:α→Option β) (fin:List β→ρ) (h0:s0=(0,[]))
  (hend:∀ a:List β,a.length≤l.length→f ((l.length:Int),a)=some (.inr (fin a)))
  (hstep:∀ (i:Nat) (x:α) (a:List β),i < l.length→l[i]?=some x→a.length≤i→f ((i:Int),a)=some (.inl (((i+1:Nat):Int),a++(g x).toList))) :
  loopX f s0=some (fin (l.filterMap g)):=by
 subst h0
 refine loop_detE (s0:=((0:Int),([]:List β))) l.length (fun i=>((i:Int),(l.take i).filterMap g)) _ rfl ?_ ?_
 ·simp only [List.take_length]
  exact hend _ (Nat.le_trans (List.length_filterMap_le _ _) (Nat.le_refl _))
 ·intro i hi
  have hl:((l.take i).filterMap g).length≤i:=Nat.le_trans (List.length_filterMap_le _ _) (by rw [List.length_take]; omega)
  rw [hstep i l[i] _ hi (List.getElem?_eq_getElem hi) hl,List.take_succ_eq_append_getElem hi,List.filterMap_append]
  congr 4
theorem loop_find {κ α:Type} {O:KOrd κ} {key:α→κ} {l:List α} (hs:O.Srt key l) (k:κ) {f:Int×Int→Option ((Int×Int) ⊕ Int)} {s0:Int×Int} (h0:s0=(0,(l.length:Int)))
  (hend:∀ i:Nat,i≤l.length→f ((i:Int),(i:Int))=some (.inr (i:Int)))
  (hstep:∀ (i j m:Nat) (x:α),i < j→j≤l.length→m=(i+j) / 2→m < l.length→l[m]?=some x→f ((i:Int),(j:Int))=cond (O.lt (key x) k) (some (.inl (((m+1:Nat):Int),(j:Int)))) (some (.inl ((i:Int),(m:Int))))) :
  loopX f s0=some ((O.plc key l k:Nat):Int):=by
 subst h0
 have hsp:∀ i:Nat,(hi:i < l.length)→(O.lt (key l[i]) k=true ↔ i < O.plc key l k):=by
  intro i hi
  obtain ⟨e1,e2⟩:=KOrd.split hs k
  have hle:=KOrd.plc_le (O:=O) (key:=key) l k
  constructor
  ·intro h
   refine Nat.not_le.1 fun hge=>?_
   have hm:l[i] ∈ l.drop (O.plc key l k):=by rw [List.mem_iff_getElem?]; exact ⟨i - O.plc key l k,by rw [List.getElem?_drop,show O.plc key l k+(i - O.plc key l k)=i by omega,List.getElem?_eq_getElem hi]⟩
   rw [e2,List.mem_filter] at hm
   rw [h] at hm; exact absurd hm.2 (by decide)
  ·intro h
   have hm:l[i] ∈ l.take (O.plc key l k):=by rw [List.mem_iff_getElem?]; exact ⟨i,by rw [List.getElem?_take,if_pos h,List.getElem?_eq_getElem hi]⟩
   rw [e1,List.mem_filter] at hm
   exact hm.2
 have hle:=KOrd.plc_le (O:=O) (key:=key) l k
 have e:cntP (fun i=>decide (i < O.plc key l k)) l.length=O.plc key l k:=cntP_at hle (fun k hk=>decide_eq_true hk) (fun k h1 h2=>decide_eq_false (by omega))
 have:=loop_bs (f:=f) (n:=l.length) (fun i=>decide (i < O.plc key l k)) (fun i j h1 h2 h3=>by rw [decide_eq_true_iff] at *; omega) hend (fun i j h1 h2=>?_)
 ·rw [e] at this; exact this
 ·have hm:(i+j) / 2 < l.length:=by omega
  rw [hstep i j _ l[(i+j) / 2] h1 h2 rfl hm (List.getElem?_eq_getElem hm)]
  have hd:O.lt (key l[(i+j) / 2]) k=decide ((i+j) / 2 < O.plc key l k):=by rw [Bool.eq_iff_iff,decide_eq_true_iff]; exact hsp _ hm
  rw [hd]
  cases decide ((i+j) / 2 < O.plc key l k)<;>rfl
theorem find_at {κ α:Type} {O:KOrd κ} {key:α→κ} (e:κ→κ→Bool) (he:∀ a b,e a b=true ↔ a=b) {l:List α} (hs:O.Srt key l) (k:κ):l.find? (fun x=>e (key x) k)=(match l[O.plc key l k]? with | some x=>(if e (key x) k=true then some x else none) | none=>none):=by
 have h1:l.find? (fun x=>e (key x) k)=KOrd.look key l k:=by
  unfold KOrd.look
  congr 1
  funext x
  cases hq:e (key x) k
  ·exact (@decide_eq_false _ (Classical.propDecidable _) (fun h=>by rw [(he _ _).2 h] at hq; cases hq)).symm
  ·exact (@decide_eq_true _ (Classical.propDecidable _) ((he _ _).1 hq)).symm
 rw [h1,KOrd.look_at hs k]
 cases hx:l[O.plc key l k]? with
 | none=>rfl
 | some x =>
  simp only
  have hge:O.lt (key x) k=false:=by
   have hm:x ∈ l.drop (O.plc key l k):=by rw [List.mem_iff_getElem?]; exact ⟨0,by rw [List.getElem?_drop]; exact hx⟩
   rw [(KOrd.split hs k).2,List.mem_filter] at hm
   simpa using hm.2
  by_cases hq:e (key x) k=true
  ·have:=(he _ _).1 hq
   rw [if_pos hq,this,O.irr,if_neg (by decide)]
  ·rw [if_neg hq]
   rcases O.tri (key x) k with q | q | q
   ·rw [hge] at q; cases q
   ·exact absurd ((he _ _).2 q) hq
   ·rw [if_pos q]
theorem find_look {κ α:Type} {key:α→κ} (e:κ→κ→Bool) (he:∀ a b,e a b=true ↔ a=b) (l:List α) (k:κ):l.find? (fun x=>e (key x) k)=KOrd.look key l k:=by
 unfold KOrd.look
 congr 1
 funext x
 cases hq:e (key x) k
 ·exact (@decide_eq_false _ (Classical.propDecidable _) (fun h=>by rw [(he _ _).2 h] at hq; cases hq)).symm
 ·exact (@decide_eq_true _ (Classical.propDecidable _) ((he _ _).1 hq)).symm
def lkn {α:Type} (key:α→ByteArray) (l:List α) (nm:ByteArray):Option α:=l.find? (fun x=>eqN (key x) nm)
theorem lkn_at {α:Type} {key:α→ByteArray} {l:List α} (hs:nmO.Srt key l) (nm:ByteArray):lkn key l nm=(match l[nmO.plc key l nm]? with | some x=>(if eqN (key x) nm=true then some x else none) | none=>none):=find_at eqN (fun a b=>eqN_iff) hs nm
theorem lkn_look {α:Type} {key:α→ByteArray} (l:List α) (nm:ByteArray):lkn key l nm=KOrd.look key l nm:=find_look eqN (fun a b=>eqN_iff) l nm
end Go.Proofs.YthidhledenklhaaGreat.VL
end
section
namespace Go.Proofs.YthidhledenklhaaGreat.VL
open Go
set_option linter.unusedVariables false
set_option linter.unusedSectionVars false
set_option linter.unusedSimpArgs false
set_option maxRecDepth 100000
variable [Val]
theorem sz_ok {s:ByteArray} (h:s.size≤maxLen):s.size≤9223372036854775807:=Nat.le_trans h (by decide)
theorem F72_ok {s:ByteArray} (hs:s.size≤maxLen):F72 s=some (nmB s):=by
 rw [F72_eq,runes_loop]
 ·unfold nmB
  rw [toList_nil]
  cases (List.range s.size).all (fun i=>okB (s.get! i).toNat)
  ·rfl
  ·simp only [if_true,joinX_l,Bool.true_and]
   by_cases h0:s.size=0
   ·simp [h0]
   ·have e1:decide (1≤s.size)=true:=by rw [decide_eq_true_iff]; omega
    have e2:decide (((s.size:Nat):Int)≤20)=decide (s.size≤20):=by rw [Bool.eq_iff_iff,decide_eq_true_iff,decide_eq_true_iff]; omega
    simp only [h0,decide_false,Bool.not_false,cond_true,e1,e2,Bool.true_and]
 ·intro pos hp
  have:¬ pos < s.size:=by omega
  simp only [this,decide_false,cond_false]
 ·intro pos hp
  simp only [hp,decide_true,cond_true]
  exact rune_cond _ _ _
theorem F79_ok {s:ByteArray} (hs:s.size≤maxLen):F79 s=some (nmB s):=by
 rw [F79_eq,octets_loop (good:=Sum.inl ()) (bad:=Sum.inr false)]
 ·unfold nmB
  cases (List.range s.size).all (fun i=>okB (s.get! i).toNat)
  ·rfl
  ·simp only [if_true,joinX_l,Bool.true_and]
   have e1:decide ((1:Int)≤((s.size:Nat):Int))=decide (1≤s.size):=by rw [Bool.eq_iff_iff,decide_eq_true_iff,decide_eq_true_iff]; omega
   have e2:decide (((s.size:Nat):Int)≤20)=decide (s.size≤20):=by rw [Bool.eq_iff_iff,decide_eq_true_iff,decide_eq_true_iff]; omega
   rw [e1,e2]
   cases decide (1≤s.size)<;>rfl
 ·have:¬ (s.size:Int) < (s.size:Int):=by omega
  simp only [this,decide_false,cond_false]
 ·intro i hi
  have h1:(i:Int) < (s.size:Int):=by omega
  have h2:(0:Int)≤(i:Int):=by omega
  have hw:IntKind.wrap .i64 ((i:Int)+1)=((i+1:Nat):Int):=w1 (by have:=sz_ok hs; omega)
  simp only [h1,h2,decide_true,cond_true,ba_get hi,Option.bind_some,hw]
  rw [rune_cond]
  split<;>rfl
theorem F122_ok (a:ByteArray):F122 a=some false:=by
 rw [F122_eq]
 show some (!(a.toList==a.toList))=_
 rw [beq_self_eq_true]; rfl
theorem F64_ok (a b:ByteArray):F64 (a,b)=some (cmpN a b):=by
 rw [F64_eq]
 show Option.bind (F122 a) (fun v0=>Option.bind (F122 b) (fun v1=>cond v0 (cond v1 (some 0) (some (-1))) (cond v1 (some 1) (cond (ltN a b) (some (-1)) (cond (!(ltN a b || eqN a b)) (some 1) (some 0))))))=_
 rw [F122_ok,F122_ok]
 unfold cmpN
 cases ltN a b<;>cases eqN a b<;>rfl
def nt (l:List ByteArray) (i:Nat):ByteArray:=l.getD i ⟨#[]⟩
theorem nt_eq {l:List ByteArray} {i:Nat} (h:i < l.length):l[i]=nt l i:=by
 unfold nt
 rw [List.getD_eq_getElem?_getD,List.getElem?_eq_getElem h]; rfl
theorem at_nt {l:List ByteArray} {i:Nat} (h:i < l.length):l[i]?=some (nt l i):=by rw [List.getElem?_eq_getElem h,nt_eq h]
def upT (l:List ByteArray) (i:Nat):Bool:=nmB (nt l i)&&(decide (i=0) || ltN (nt l (i - 1)) (nt l i))
def tasksB (l:List ByteArray):Bool:=decide (l.length≤100)&&(List.range l.length).all (upT l)
def szN (l:List ByteArray):Prop:=l.length≤maxLen∧∀ x ∈ l,x.size≤maxLen
theorem nt_sz {l:List ByteArray} (h:szN l) {i:Nat} (hi:i < l.length):(nt l i).size≤maxLen:=h.2 _ (by rw [← nt_eq hi]; exact List.getElem_mem hi)
theorem F44_ok {l:List ByteArray} (h:szN l):F44 l=some (if tasksB l=true then 0 else 1):=by
 have h63:=len63 h.1
 rw [F44_eq]
 unfold tasksB
 by_cases h100:l.length≤100
 ·have q:¬ ((l.length:Nat):Int) > 100:=by omega
  simp -implicitDefEqProofs only [q,h100,eq_self,xs]
  rw [loop_all (n:=l.length) (upT l) (1:Int) 0]
  ·simp -implicitDefEqProofs only [not_lt_self,eq_self,xs]
  ·intro i hi _
   have q1:((i:Nat):Int) < ((l.length:Nat):Int):=by omega
   have q2:(0:Int)≤(i:Int):=by omega
   simp -implicitDefEqProofs only [q1,q2,at_nt hi,F72_ok (nt_sz h hi),w1 (show i≤9223372036854775806 by omega),eq_self,xs]
   unfold upT
   cases nmB (nt l i)
   ·rfl
   ·by_cases h0:i=0
    ·subst h0
     rfl
    ·have q3:(i:Int) > 0:=by omega
     have q4:(0:Int)≤((i - 1:Nat):Int):=by omega
     simp -implicitDefEqProofs only [q3,wm (show i≤9223372036854775806 by omega) (show 0 < i by omega),q4,at_nt (show i - 1 < l.length by omega),h0,eq_self,xs]
     have e:Op.bytesLess (ByteArray.toList (nt l (i - 1))) (ByteArray.toList (nt l i))=ltN (nt l (i - 1)) (nt l i):=rfl
     rw [e]
     cases ltN (nt l (i - 1)) (nt l i)<;>rfl
 ·have q:((l.length:Nat):Int) > 100:=by omega
  simp -implicitDefEqProofs only [q,h100,eq_self,xs]
theorem ltN_asym {a b:ByteArray} (h:ltN a b=true):ltN b a=false:=nmO.asym h
theorem ltN_irr (a:ByteArray):ltN a a=false:=nmO.irr a
theorem le_lt (a b:ByteArray):(ltN a b || eqN a b)=!ltN b a:=by
 rcases tri a b with h | h | h
 ·rw [h,ltN_asym h]; rfl
 ·subst h
  rw [eqN_refl,ltN_irr]; rfl
 ·rw [h,ltN_asym h,Bool.false_or]
  show eqN a b=false
  rw [Bool.eq_false_iff]
  intro k
  rw [eqN_eq k,ltN_irr] at h; cases h
theorem F52_ok {l:List ByteArray} (h:szN l):F52 l=some (tasksB l):=by
 have h63:=len63 h.1
 rw [F52_eq]
 rw [loop_all (n:=l.length) (upT l) false (decide (((l.length:Nat):Int)≤100))]
 ·unfold tasksB
  have e:decide (((l.length:Nat):Int)≤100)=decide (l.length≤100):=by rw [Bool.eq_iff_iff,decide_eq_true_iff,decide_eq_true_iff]; omega
  rw [e]
  cases (List.range l.length).all (upT l)<;>cases decide (l.length≤100)<;>rfl
 ·simp -implicitDefEqProofs only [not_lt_self,eq_self,xs]
 ·intro i hi _
  have q1:((i:Nat):Int) < ((l.length:Nat):Int):=by omega
  have q2:(0:Int)≤(i:Int):=by omega
  simp -implicitDefEqProofs only [q1,q2,at_nt hi,F79_ok (nt_sz h hi),w1 (show i≤9223372036854775806 by omega),eq_self,xs]
  unfold upT
  cases nmB (nt l i)
  ·rfl
  ·by_cases h0:i=0
   ·subst h0
    rfl
   ·have q3:(i:Int) > 0:=by omega
    have q4:(0:Int)≤((i - 1:Nat):Int):=by omega
    simp -implicitDefEqProofs only [q3,wm (show i≤9223372036854775806 by omega) (show 0 < i by omega),q4,at_nt (show i - 1 < l.length by omega),h0,eq_self,xs]
    have e:(Op.bytesLess (ByteArray.toList (nt l i)) (ByteArray.toList (nt l (i - 1))) || (ByteArray.toList (nt l i)==ByteArray.toList (nt l (i - 1))))=!ltN (nt l (i - 1)) (nt l i):=le_lt _ _
    rw [e]
    cases ltN (nt l (i - 1)) (nt l i)<;>rfl
theorem tasks_iff (l:List ByteArray):tasksB l=true ↔ l.length≤100∧(∀ x ∈ l,nmB x=true)∧nmO.Srt id l:=by
 unfold tasksB
 rw [Bool.and_eq_true,decide_eq_true_iff,List.all_eq_true]
 constructor
 ·rintro ⟨h1,h2⟩
  have h2:∀ i,i < l.length→upT l i=true:=fun i hi=>h2 i (List.mem_range.2 hi)
  refine ⟨h1,fun x hx=>?_,?_⟩
  ·obtain ⟨i,hi,rfl⟩:=List.getElem_of_mem hx
   have:=h2 i hi
   unfold upT at this
   rw [Bool.and_eq_true] at this
   rw [nt_eq hi]; exact this.1
  ·have step:∀ i,i+1 < l.length→ltN (nt l i) (nt l (i+1))=true:=by
    intro i hi
    have:=h2 (i+1) hi
    unfold upT at this
    rw [Bool.and_eq_true,Bool.or_eq_true,decide_eq_true_iff] at this
    rcases this.2 with q | q
    ·omega
    ·simpa using q
   have all:∀ i j,i < j→j < l.length→ltN (nt l i) (nt l j)=true:=by
    intro i j hij
    induction j with
    | zero=>omega
    | succ j ih =>
     intro hj
     rcases Nat.lt_or_eq_of_le (Nat.le_of_lt_succ hij) with q | q
     ·exact nmO.trn _ _ _ (ih q (by omega)) (step j hj)
     ·rw [q]; exact step j hj
   unfold KOrd.Srt
   rw [List.pairwise_iff_getElem]
   intro i j hi hj hij
   show ltN (l[i]) (l[j])=true
   rw [nt_eq hi,nt_eq hj]; exact all i j hij hj
 ·rintro ⟨h1,h2,h3⟩
  refine ⟨h1,fun i hi=>?_⟩
  have hi:=List.mem_range.1 hi
  unfold upT
  rw [Bool.and_eq_true,Bool.or_eq_true,decide_eq_true_iff]
  refine ⟨by rw [← nt_eq hi]; exact h2 _ (List.getElem_mem hi),?_⟩
  by_cases h0:i=0
  ·exact .inl h0
  ·right
   unfold KOrd.Srt at h3
   rw [List.pairwise_iff_getElem] at h3
   have:=h3 (i - 1) i (by omega) hi (by omega)
   rw [← nt_eq hi,← nt_eq (show i - 1 < l.length by omega)]; exact this
end Go.Proofs.YthidhledenklhaaGreat.VL
end
section
namespace Go.Proofs.YthidhledenklhaaGreat.VL
open Go
set_option linter.unusedVariables false
set_option linter.unusedSectionVars false
set_option linter.unusedSimpArgs false
set_option maxRecDepth 100000
variable [Val]
abbrev JB:=ByteArray×(Int×Int)
abbrev KB:=ByteArray×(Int×(Bool×Bool))
abbrev WB:=Int×(List JB×List KB)
def jk (j:JB):ByteArray:=j.1
def kk (k:KB):ByteArray:=k.1
structure SzW (w:WB):Prop where
 j:w.2.1.length≤1000
 k:w.2.2.length≤1000
 jn:∀ x ∈ w.2.1,x.1.size≤maxLen
 kn:∀ x ∈ w.2.2,x.1.size≤maxLen
theorem szN_map {α:Type} {key:α→ByteArray} {l:List α} (h:l.length≤1000) (hn:∀ x ∈ l,(key x).size≤maxLen):szN (l.map key):=by
 refine ⟨by rw [List.length_map]; exact Nat.le_trans h (by decide),fun x hx=>?_⟩
 rw [List.mem_map] at hx
 obtain ⟨y,hy,rfl⟩:=hx
 exact hn y hy
theorem srt_map {α:Type} {key:α→ByteArray} {l:List α} (h:tasksB (l.map key)=true):nmO.Srt key l:=by
 have:=((tasks_iff _).1 h).2.2
 unfold KOrd.Srt at this ⊢
 rw [List.pairwise_map] at this
 exact this
theorem fm_map {α β:Type} (g:α→β):∀ l:List α,l.filterMap (fun x=>some (g x))=l.map g
 | []=>rfl
 | x::r=>by rw [List.filterMap_cons,fm_map g r]; rfl
theorem gathN {α ρ:Type} (key:α→ByteArray) {l:List α} (hl:l.length≤1000) {f:Int×List ByteArray→Option ((Int×List ByteArray) ⊕ ρ)} (fin:List ByteArray→ρ) (hend:∀ a:List ByteArray,f ((l.length:Int),a)=some (.inr (fin a)))
  (hstep:∀ (i:Nat) (x:α) (a:List ByteArray),i < l.length→l[i]?=some x→a.length≤1000→f ((i:Int),a)=some (.inl (((i+1:Nat):Int),a++[key x]))):loopX f ((0:Int),[])=some (fin (l.map key)):=by
 rw [loop_gath (s0:=((0:Int),([]:List ByteArray))) l (fun x=>some (key x)) fin rfl (fun a _=>hend a) (fun i x a hi hx ha=>hstep i x a hi hx (by omega)),fm_map]
def fndJ {α:Type} (key:α→ByteArray) (l:List α) (nm:ByteArray):Int×Bool:=(((nmO.plc key l nm:Nat):Int),(lkn key l nm).isSome)
theorem fnd_at {α:Type} {key:α→ByteArray} {l:List α} (hs:nmO.Srt key l) {nm:ByteArray} {x:α} (h:lkn key l nm=some x):nmO.plc key l nm < l.length∧l[nmO.plc key l nm]?=some x:=by
 rw [lkn_at hs] at h
 cases hx:l[nmO.plc key l nm]? with
 | none=>rw [hx] at h; cases h
 | some y =>
  rw [hx] at h
  simp only at h
  split at h
  ·cases h; exact ⟨(List.getElem?_eq_some_iff.1 hx).1,rfl⟩
  ·cases h
theorem lkn_key {α:Type} {key:α→ByteArray} {l:List α} {nm:ByteArray} {x:α} (h:lkn key l nm=some x):x ∈ l∧key x=nm:=by
 unfold lkn at h
 exact ⟨List.mem_of_find?_eq_some h,eqN_eq (List.find?_some (p:=fun x=>eqN (key x) nm) h)⟩
theorem ite_cond {α:Type} (b:Bool) (x y:α) [Decidable (b=true)]:(if b=true then x else y)=cond b x y:=by cases b<;>simp
def okJ (ks:List KB) (j:JB):Bool:=(decide (0≤j.2.2)&&decide (j.2.2≤2199023255552))&&(match lkn kk ks j.1 with | some x=>(x.2.1==j.2.1)&&((x.2.2.1==false)&&(x.2.2.2==false)) | none=>false)
def okK (k:KB):Bool:=!(k.2.2.2&&!k.2.2.1)
def workB (w:WB):Bool:=(tasksB (w.2.1.map jk)&&tasksB (w.2.2.map kk))&&(w.2.2.all okK&&w.2.1.all (okJ w.2.2))
theorem F48_ok (k:KB):F48 (k.1,k.2.1,k.2.2.1,k.2.2.2)=some (!okK k):=by
 rw [F48_eq]
 unfold okK
 cases k.2.2.2<;>cases k.2.2.1<;>rfl
theorem srchK {l:List KB} (hs:nmO.Srt kk l) (hl:l.length≤1000) (nm:ByteArray) :
  (Option.bind (Option.bind (loopX (fun (v16:Int×Int)=>(cond (decide (v16.1 < v16.2)) (cond (decide ((0:Int)≤(IntKind.wrap IntKind.i64 (Int.fdiv (IntKind.wrap IntKind.u64 (IntKind.wrap IntKind.i64 (v16.1+v16.2))) (2:Int))))) (Option.bind l[(Int.toNat (IntKind.wrap IntKind.i64 (Int.fdiv (IntKind.wrap IntKind.u64 (IntKind.wrap IntKind.i64 (v16.1+v16.2))) (2:Int))))]? (fun (v17:KB)=>(Option.bind (F64 (v17.1,nm)) (fun (v18:Int)=>(cond (decide (v18 < (0:Int))) (some (.inl ((IntKind.wrap IntKind.i64 ((IntKind.wrap IntKind.i64 (Int.fdiv (IntKind.wrap IntKind.u64 (IntKind.wrap IntKind.i64 (v16.1+v16.2))) (2:Int)))+(1:Int))),v16.2))) (some (.inl (v16.1,(IntKind.wrap IntKind.i64 (Int.fdiv (IntKind.wrap IntKind.u64 (IntKind.wrap IntKind.i64 (v16.1+v16.2))) (2:Int))))))))))) none) (some (.inr v16.1)))) ((0:Int),((l.length:Nat):Int)))
   (fun (v19:Int)=>(cond (decide (v19 < ((l.length:Nat):Int))) (cond (decide ((0:Int)≤v19)) (Option.bind l[(Int.toNat v19)]? (fun (v20:KB)=>(Option.bind (F64 (v20.1,nm)) (fun (v21:Int)=>(some (v19,(v21==(0:Int)))))))) none) (some (v19,false)))))
   (fun (v22:Int×Bool)=>(some (v22.1,v22.2))))=some (fndJ kk l nm):=by
 rw [loop_find hs nm rfl]
 rotate_left
 ·intro i hi
  have q:¬ (i:Int) < (i:Int):=by omega
  simp -implicitDefEqProofs only [q,eq_self,xs]
 ·intro i j m x hij hj hm hml hx
  have q1:(i:Int) < (j:Int):=by omega
  have hmid:=mid (i:=i) (j:=j) (by omega)
  rw [← hm] at hmid
  have q3:(0:Int)≤(m:Int):=by omega
  simp -implicitDefEqProofs only [q1,hmid,q3,hx,F64_ok x.1 nm,cmp_lt,w1 (show m≤9223372036854775806 by omega),eq_self,xs]
  rfl
 ·have hp:=KOrd.plc_le (O:=nmO) (key:=kk) l nm
  have ha:=lkn_at hs nm
  by_cases hq:nmO.plc kk l nm < l.length
  ·have q1:((nmO.plc kk l nm:Nat):Int) < ((l.length:Nat):Int):=by omega
   have q2:(0:Int)≤((nmO.plc kk l nm:Nat):Int):=by omega
   rw [List.getElem?_eq_getElem hq] at ha
   simp only at ha
   simp -implicitDefEqProofs only [q1,q2,List.getElem?_eq_getElem hq,F64_ok (l[nmO.plc kk l nm]).1 nm,cmp_eq,eq_self,xs]
   unfold fndJ
   rw [ha]
   have e:eqN (kk l[nmO.plc kk l nm]) nm=eqN (l[nmO.plc kk l nm]).1 nm:=rfl
   rw [e]
   cases eqN (l[nmO.plc kk l nm]).1 nm<;>rfl
  ·have q1:¬ ((nmO.plc kk l nm:Nat):Int) < ((l.length:Nat):Int):=by omega
   simp -implicitDefEqProofs only [q1,eq_self,xs]
   unfold fndJ
   rw [ha,List.getElem?_eq_none (by omega)]
   rfl
theorem F17_ok {w:WB} (h:SzW w):F17 w=some (if workB w=true then 0 else 1):=by
 obtain ⟨h1,h2,h3,h4⟩:=h
 rw [F17_eq]
 rw [gathN jk (l:=w.2.1) h1 (fun a=>a)]
 rotate_left
 ·intro a; simp -implicitDefEqProofs only [not_lt_self,eq_self,xs]
 ·intro i x a hi hx ha
  have q1:((i:Nat):Int) < ((w.2.1.length:Nat):Int):=by omega
  have q2:(0:Int)≤(i:Int):=by omega
  have q3:(((a.length+1:Nat):Int) * 16≤70368744177664):=by omega
  have q4:(((a.length+1:Nat):Int)≤70368744177664):=by omega
  simp -implicitDefEqProofs only [q1,q2,hx,q3,q4,w1 (show i≤9223372036854775806 by omega),eq_self,xs]
  rfl
 unfold workB
 simp -implicitDefEqProofs only [F44_ok (szN_map (key:=jk) h1 h3),neq1,eq_self,xs]
 cases hj:tasksB (w.2.1.map jk)
 ·simp -implicitDefEqProofs only [eq_self,xs]
 simp -implicitDefEqProofs only [eq_self,xs]
 rw [gathN kk (l:=w.2.2) h2 (fun a=>a)]
 rotate_left
 ·intro a; simp -implicitDefEqProofs only [not_lt_self,eq_self,xs]
 ·intro i x a hi hx ha
  have q1:((i:Nat):Int) < ((w.2.2.length:Nat):Int):=by omega
  have q2:(0:Int)≤(i:Int):=by omega
  have q3:(((a.length+1:Nat):Int) * 16≤70368744177664):=by omega
  have q4:(((a.length+1:Nat):Int)≤70368744177664):=by omega
  simp -implicitDefEqProofs only [q1,q2,hx,q3,q4,w1 (show i≤9223372036854775806 by omega),eq_self,xs]
  rfl
 simp -implicitDefEqProofs only [F44_ok (szN_map (key:=kk) h2 h4),neq1,eq_self,xs]
 cases hk:tasksB (w.2.2.map kk)
 ·simp -implicitDefEqProofs only [eq_self,xs]
 simp -implicitDefEqProofs only [eq_self,xs]
 rw [loop_first (s0:=(0:Int)) w.2.2 (fun k=>!okK k) (fun i=>(i:Int)) (-1:Int) rfl]
 rotate_left
 ·simp -implicitDefEqProofs only [not_lt_self,eq_self,xs]
 ·intro i x hi hx
  have q1:((i:Nat):Int) < ((w.2.2.length:Nat):Int):=by omega
  have q2:(0:Int)≤(i:Int):=by omega
  simp -implicitDefEqProofs only [q1,q2,hx,F48_ok x,w1 (show i≤9223372036854775806 by omega),eq_self,xs]
  cases okK x<;>rfl
 cases hg:w.2.2.all okK
 ·have ha:w.2.2.any (fun k=>!okK k)=true:=by
   rw [List.any_eq_true]
   rw [List.all_eq_false] at hg
   obtain ⟨x,hx,hq⟩:=hg
   exact ⟨x,hx,by simpa using hq⟩
  have q:(((w.2.2.findIdx (fun k=>!okK k):Nat):Int) ≥ 0):=by omega
  simp -implicitDefEqProofs only [ha,q,eq_self,xs]
 have ha:w.2.2.any (fun k=>!okK k)=false:=by
  rw [List.any_eq_false]
  rw [List.all_eq_true] at hg
  intro x hx; rw [hg x hx]; decide
 have hs:=srt_map hk
 have qm:¬ ((-1:Int) ≥ 0):=by omega
 simp -implicitDefEqProofs only [ha,qm,eq_self,xs]
 rw [loop_list (s0:=(0:Int)) w.2.1 (okJ w.2.2) (1:Int) 0 rfl]
 ·simp -implicitDefEqProofs only [not_lt_self,eq_self,xs]
 ·intro i x hi hx
  have q1:((i:Nat):Int) < ((w.2.1.length:Nat):Int):=by omega
  have q2:(0:Int)≤(i:Int):=by omega
  have hS:=srchK hs h2 x.1
  simp -implicitDefEqProofs only [q1,q2,hx,eq_self,xs]
  rw [hS]
  simp -implicitDefEqProofs only [w1 (show i≤9223372036854775806 by omega),dlt x.2.2 0,dgt x.2.2 2199023255552,eq_self,xs]
  unfold okJ fndJ
  cases hl:lkn kk w.2.2 x.1 with
  | none=>cases decide (0≤x.2.2)<;>cases decide (x.2.2≤2199023255552)<;>rfl
  | some y =>
   obtain ⟨p1,p2⟩:=fnd_at hs hl
   have p3:(0:Int)≤((nmO.plc kk w.2.2 x.1:Nat):Int):=by omega
   have p4:(ByteArray.toList y.1==ByteArray.toList x.1)=true:=by
    have:=(lkn_key hl).2
    unfold kk at this
    rw [this]; exact beq_self_eq_true _
   simp only [Option.isSome_some]
   simp -implicitDefEqProofs only [p3,p2,p4,eq_self,xs]
   obtain ⟨yn,yt,yo,yg⟩:=y
   obtain ⟨xn,xt,xu⟩:=x
   simp only
   rw [ite_cond]
   cases h1:decide (0≤xu)<;>cases h2:decide (xu≤2199023255552)<;>cases h3:(yt==xt)<;>cases yo<;>cases yg<;>rfl
def momB (n:Int):Bool:=decide (0≤n)&&decide (n≤1099511627776)
theorem F28_ok {w:WB} {now:Int} (h:SzW w):F28 (w,now)=some (workB w&&momB now):=by
 rw [F28_eq]
 show Option.bind (F17 w) _=_
 rw [F17_ok h]
 unfold momB
 simp -implicitDefEqProofs only [eqq,eq_self,xs]
 cases workB w
 ·rfl
 ·simp -implicitDefEqProofs only [eq_self,xs]
  show cond (decide (0≤now)) _ _=_
  cases decide (0≤now)<;>rfl
end Go.Proofs.YthidhledenklhaaGreat.VL
end
section
namespace Go.Proofs.YthidhledenklhaaGreat.VL
open Go
set_option linter.unusedVariables false
set_option linter.unusedSectionVars false
set_option linter.unusedSimpArgs false
set_option maxRecDepth 100000
variable [Val]
abbrev NW:=Int×(Int×Int)
abbrev KW:=Int×Int
abbrev MB:=Int×(Int×(Int×(Int×(Int×(Int×(Int×(List NW×(List KW×(Int×(Int×(Int×(ByteArray×(Int×Bool)))))))))))))
theorem bytN (a b:Array UInt8) (r:Bool) (h:(a.toList==b.toList)=r):((ByteArray.mk a).toList==(ByteArray.mk b).toList)=r:=by rw [toList_data,toList_data]; exact h
theorem nq:(((ByteArray.mk #[115,101,113]).toList==(ByteArray.mk #[115,101,113]).toList)=true)∧(((ByteArray.mk #[119,104,111]).toList==(ByteArray.mk #[115,101,113]).toList)=false)∧(((ByteArray.mk #[119,104,111]).toList==(ByteArray.mk #[119,104,111]).toList)=true)∧(((ByteArray.mk #[119,104,111]).toList==(ByteArray.mk #[101,112,111,99,104]).toList)=false)∧(((ByteArray.mk #[119,104,111]).toList==(ByteArray.mk #[98,111,111,116]).toList)=false)∧(((ByteArray.mk #[119,104,111]).toList==(ByteArray.mk #[116,111,107,101,110]).toList)=false)∧(((ByteArray.mk #[107]).toList==(ByteArray.mk #[115,101,113]).toList)=false)∧(((ByteArray.mk #[107]).toList==(ByteArray.mk #[119,104,111]).toList)=false)∧(((ByteArray.mk #[107]).toList==(ByteArray.mk #[107]).toList)=true)∧(((ByteArray.mk #[107]).toList==(ByteArray.mk #[101,112,111,99,104]).toList)=false)∧(((ByteArray.mk #[107]).toList==(ByteArray.mk #[98,111,111,116]).toList)=false)∧(((ByteArray.mk #[107]).toList==(ByteArray.mk #[116,111,107,101,110]).toList)=false)∧(((ByteArray.mk #[110,101,119,115]).toList==(ByteArray.mk #[115,101,113]).toList)=false)∧(((ByteArray.mk #[110,101,119,115]).toList==(ByteArray.mk #[119,104,111]).toList)=false)∧(((ByteArray.mk #[110,101,119,115]).toList==(ByteArray.mk #[107]).toList)=false)∧(((ByteArray.mk #[110,101,119,115]).toList==(ByteArray.mk #[110,101,119,115]).toList)=true)∧(((ByteArray.mk #[110,101,119,115]).toList==(ByteArray.mk #[101,112,111,99,104]).toList)=false)∧(((ByteArray.mk #[110,101,119,115]).toList==(ByteArray.mk #[98,111,111,116]).toList)=false)∧(((ByteArray.mk #[110,101,119,115]).toList==(ByteArray.mk #[116,111,107,101,110]).toList)=false)∧(((ByteArray.mk #[116,97,98,108,101]).toList==(ByteArray.mk #[115,101,113]).toList)=false)∧(((ByteArray.mk #[116,97,98,108,101]).toList==(ByteArray.mk #[119,104,111]).toList)=false)∧(((ByteArray.mk #[116,97,98,108,101]).toList==(ByteArray.mk #[107]).toList)=false)∧(((ByteArray.mk #[116,97,98,108,101]).toList==(ByteArray.mk #[110,101,119,115]).toList)=false)∧(((ByteArray.mk #[116,97,98,108,101]).toList==(ByteArray.mk #[116,97,98,108,101]).toList)=true)∧(((ByteArray.mk #[116,97,98,108,101]).toList==(ByteArray.mk #[101,112,111,99,104]).toList)=false)∧(((ByteArray.mk #[116,97,98,108,101]).toList==(ByteArray.mk #[98,111,111,116]).toList)=false)∧(((ByteArray.mk #[116,97,98,108,101]).toList==(ByteArray.mk #[116,111,107,101,110]).toList)=false)∧(((ByteArray.mk #[101,112,111,99,104]).toList==(ByteArray.mk #[115,101,113]).toList)=false)∧(((ByteArray.mk #[101,112,111,99,104]).toList==(ByteArray.mk #[119,104,111]).toList)=false)∧(((ByteArray.mk #[101,112,111,99,104]).toList==(ByteArray.mk #[107]).toList)=false)∧(((ByteArray.mk #[101,112,111,99,104]).toList==(ByteArray.mk #[110,101,119,115]).toList)=false)∧(((ByteArray.mk #[101,112,111,99,104]).toList==(ByteArray.mk #[116,97,98,108,101]).toList)=false)∧(((ByteArray.mk #[101,112,111,99,104]).toList==(ByteArray.mk #[101,112,111,99,104]).toList)=true)∧(((ByteArray.mk #[98,111,111,116]).toList==(ByteArray.mk #[115,101,113]).toList)=false)∧(((ByteArray.mk #[98,111,111,116]).toList==(ByteArray.mk #[119,104,111]).toList)=false)∧(((ByteArray.mk #[98,111,111,116]).toList==(ByteArray.mk #[107]).toList)=false)∧(((ByteArray.mk #[98,111,111,116]).toList==(ByteArray.mk #[110,101,119,115]).toList)=false)∧(((ByteArray.mk #[98,111,111,116]).toList==(ByteArray.mk #[116,97,98,108,101]).toList)=false)∧(((ByteArray.mk #[98,111,111,116]).toList==(ByteArray.mk #[101,112,111,99,104]).toList)=false)∧(((ByteArray.mk #[98,111,111,116]).toList==(ByteArray.mk #[98,111,111,116]).toList)=true)∧(((ByteArray.mk #[97,115,107,101,100]).toList==(ByteArray.mk #[115,101,113]).toList)=false)∧(((ByteArray.mk #[97,115,107,101,100]).toList==(ByteArray.mk #[119,104,111]).toList)=false)∧(((ByteArray.mk #[97,115,107,101,100]).toList==(ByteArray.mk #[107]).toList)=false)∧(((ByteArray.mk #[97,115,107,101,100]).toList==(ByteArray.mk #[110,101,119,115]).toList)=false)∧(((ByteArray.mk #[97,115,107,101,100]).toList==(ByteArray.mk #[116,97,98,108,101]).toList)=false)∧(((ByteArray.mk #[97,115,107,101,100]).toList==(ByteArray.mk #[101,112,111,99,104]).toList)=false)∧(((ByteArray.mk #[97,115,107,101,100]).toList==(ByteArray.mk #[98,111,111,116]).toList)=false)∧(((ByteArray.mk #[97,115,107,101,100]).toList==(ByteArray.mk #[97,115,107,101,100]).toList)=true)∧(((ByteArray.mk #[97,115,107,101,100]).toList==(ByteArray.mk #[116,111,107,101,110]).toList)=false)∧(((ByteArray.mk #[116,97,115,107]).toList==(ByteArray.mk #[115,101,113]).toList)=false)∧(((ByteArray.mk #[116,97,115,107]).toList==(ByteArray.mk #[119,104,111]).toList)=false)∧(((ByteArray.mk #[116,97,115,107]).toList==(ByteArray.mk #[107]).toList)=false)∧(((ByteArray.mk #[116,97,115,107]).toList==(ByteArray.mk #[110,101,119,115]).toList)=false)∧(((ByteArray.mk #[116,97,115,107]).toList==(ByteArray.mk #[116,97,98,108,101]).toList)=false)∧(((ByteArray.mk #[116,97,115,107]).toList==(ByteArray.mk #[101,112,111,99,104]).toList)=false)∧(((ByteArray.mk #[116,97,115,107]).toList==(ByteArray.mk #[98,111,111,116]).toList)=false)∧(((ByteArray.mk #[116,97,115,107]).toList==(ByteArray.mk #[97,115,107,101,100]).toList)=false)∧(((ByteArray.mk #[116,97,115,107]).toList==(ByteArray.mk #[116,97,115,107]).toList)=true)∧(((ByteArray.mk #[116,97,115,107]).toList==(ByteArray.mk #[116,111,107,101,110]).toList)=false)∧(((ByteArray.mk #[116,111,107,101,110]).toList==(ByteArray.mk #[115,101,113]).toList)=false)∧(((ByteArray.mk #[116,111,107,101,110]).toList==(ByteArray.mk #[119,104,111]).toList)=false)∧(((ByteArray.mk #[116,111,107,101,110]).toList==(ByteArray.mk #[107]).toList)=false)∧(((ByteArray.mk #[116,111,107,101,110]).toList==(ByteArray.mk #[110,101,119,115]).toList)=false)∧(((ByteArray.mk #[116,111,107,101,110]).toList==(ByteArray.mk #[116,97,98,108,101]).toList)=false)∧(((ByteArray.mk #[116,111,107,101,110]).toList==(ByteArray.mk #[101,112,111,99,104]).toList)=false)∧(((ByteArray.mk #[116,111,107,101,110]).toList==(ByteArray.mk #[98,111,111,116]).toList)=false)∧(((ByteArray.mk #[116,111,107,101,110]).toList==(ByteArray.mk #[97,115,107,101,100]).toList)=false)∧(((ByteArray.mk #[116,111,107,101,110]).toList==(ByteArray.mk #[116,97,115,107]).toList)=false)∧(((ByteArray.mk #[116,111,107,101,110]).toList==(ByteArray.mk #[116,111,107,101,110]).toList)=true)∧(((ByteArray.mk #[103,111,111,100]).toList==(ByteArray.mk #[115,101,113]).toList)=false)∧(((ByteArray.mk #[103,111,111,100]).toList==(ByteArray.mk #[119,104,111]).toList)=false)∧(((ByteArray.mk #[103,111,111,100]).toList==(ByteArray.mk #[107]).toList)=false)∧(((ByteArray.mk #[103,111,111,100]).toList==(ByteArray.mk #[110,101,119,115]).toList)=false)∧(((ByteArray.mk #[103,111,111,100]).toList==(ByteArray.mk #[116,97,98,108,101]).toList)=false)∧(((ByteArray.mk #[103,111,111,100]).toList==(ByteArray.mk #[101,112,111,99,104]).toList)=false)∧(((ByteArray.mk #[103,111,111,100]).toList==(ByteArray.mk #[98,111,111,116]).toList)=false)∧(((ByteArray.mk #[103,111,111,100]).toList==(ByteArray.mk #[97,115,107,101,100]).toList)=false)∧(((ByteArray.mk #[103,111,111,100]).toList==(ByteArray.mk #[116,97,115,107]).toList)=false)∧(((ByteArray.mk #[103,111,111,100]).toList==(ByteArray.mk #[116,111,107,101,110]).toList)=false)∧(((ByteArray.mk #[103,111,111,100]).toList==(ByteArray.mk #[103,111,111,100]).toList)=true):=⟨bytN _ _ _ rfl,bytN _ _ _ rfl,bytN _ _ _ rfl,bytN _ _ _ rfl,bytN _ _ _ rfl,bytN _ _ _ rfl,bytN _ _ _ rfl,bytN _ _ _ rfl,bytN _ _ _ rfl,bytN _ _ _ rfl,bytN _ _ _ rfl,bytN _ _ _ rfl,bytN _ _ _ rfl,bytN _ _ _ rfl,bytN _ _ _ rfl,bytN _ _ _ rfl,bytN _ _ _ rfl,bytN _ _ _ rfl,bytN _ _ _ rfl,bytN _ _ _ rfl,bytN _ _ _ rfl,bytN _ _ _ rfl,bytN _ _ _ rfl,bytN _ _ _ rfl,bytN _ _ _ rfl,bytN _ _ _ rfl,bytN _ _ _ rfl,bytN _ _ _ rfl,bytN _ _ _ rfl,bytN _ _ _ rfl,bytN _ _ _ rfl,bytN _ _ _ rfl,bytN _ _ _ rfl,bytN _ _ _ rfl,bytN _ _ _ rfl,bytN _ _ _ rfl,bytN _ _ _ rfl,bytN _ _ _ rfl,bytN _ _ _ rfl,bytN _ _ _ rfl,bytN _ _ _ rfl,bytN _ _ _ rfl,bytN _ _ _ rfl,bytN _ _ _ rfl,bytN _ _ _ rfl,bytN _ _ _ rfl,bytN _ _ _ rfl,bytN _ _ _ rfl,bytN _ _ _ rfl,bytN _ _ _ rfl,bytN _ _ _ rfl,bytN _ _ _ rfl,bytN _ _ _ rfl,bytN _ _ _ rfl,bytN _ _ _ rfl,bytN _ _ _ rfl,bytN _ _ _ rfl,bytN _ _ _ rfl,bytN _ _ _ rfl,bytN _ _ _ rfl,bytN _ _ _ rfl,bytN _ _ _ rfl,bytN _ _ _ rfl,bytN _ _ _ rfl,bytN _ _ _ rfl,bytN _ _ _ rfl,bytN _ _ _ rfl,bytN _ _ _ rfl,bytN _ _ _ rfl,bytN _ _ _ rfl,bytN _ _ _ rfl,bytN _ _ _ rfl,bytN _ _ _ rfl,bytN _ _ _ rfl,bytN _ _ _ rfl,bytN _ _ _ rfl,bytN _ _ _ rfl,bytN _ _ _ rfl,bytN _ _ _ rfl,bytN _ _ _ rfl⟩
theorem nw1:IntKind.wrap .i64 ((0:Int)+1)=1∧IntKind.wrap .i64 ((1:Int)+1)=2∧IntKind.wrap .i64 ((2:Int)+1)=3∧IntKind.wrap .i64 ((3:Int)+1)=4∧IntKind.wrap .i64 ((4:Int)+1)=5:=⟨rfl,rfl,rfl,rfl,rfl⟩
theorem ln1 (α:Type) (a:α):(([a]:List α).length:Int)=1:=rfl
theorem ln2 (α:Type) (a b:α):(([a,b]:List α).length:Int)=2:=rfl
theorem ln3 (α:Type) (a b c:α):(([a,b,c]:List α).length:Int)=3:=rfl
theorem ln4 (α:Type) (a b c d:α):(([a,b,c,d]:List α).length:Int)=4:=rfl
theorem ln5 (α:Type) (a b c d e:α):(([a,b,c,d,e]:List α).length:Int)=5:=rfl
theorem tnn:Int.toNat 0=0∧Int.toNat 1=1∧Int.toNat 2=2∧Int.toNat 3=3∧Int.toNat 4=4:=⟨rfl,rfl,rfl,rfl,rfl⟩
theorem lts:((0:Int) < 1)=True∧((0:Int) < 2)=True∧((0:Int) < 3)=True∧((0:Int) < 4)=True∧((0:Int) < 5)=True∧((1:Int) < 2)=True∧((1:Int) < 3)=True∧((1:Int) < 4)=True∧((1:Int) < 5)=True∧((2:Int) < 3)=True∧((2:Int) < 4)=True∧((2:Int) < 5)=True∧((3:Int) < 4)=True∧((3:Int) < 5)=True∧((4:Int) < 5)=True∧((1:Int) < 1)=False∧((2:Int) < 2)=False∧((3:Int) < 3)=False∧((4:Int) < 4)=False∧((5:Int) < 5)=False:=by simp
theorem les:((0:Int)≤1)=True∧((0:Int)≤2)=True∧((0:Int)≤3)=True∧((0:Int)≤4)=True:=by simp
theorem lnn:((1:Nat):Int)=1∧((1+1:Nat):Int)=2∧((1+1+1:Nat):Int)=3∧((1+1+1+1:Nat):Int)=4∧((1+1+1+1+1:Nat):Int)=5:=⟨rfl,rfl,rfl,rfl,rfl⟩
def kindB (k:Int) (n:Nat):Bool:=match n with
 | 0=>decide (1≤k)&&decide (k≤4)
 | 1=>decide (2≤k)&&decide (k≤4)
 | 2=>(k==1) || (k==3)
 | 3=>decide (1≤k)&&decide (k≤3)
 | 4=>(k==5) || (k==6)
 | 5=>(decide (7≤k)&&decide (k≤9)) || (k==11)
 | 6=>decide (7≤k)&&decide (k≤11)
 | 7=>((k==7) || (k==8)) || ((k==10) || (k==11))
 | 8=>(k==11) || (k==12)
 | _=>k==12
theorem has1:F60 1=some [ByteArray.mk #[115,101,113],ByteArray.mk #[107],ByteArray.mk #[110,101,119,115]]:=by rw [F60_eq]; rfl
theorem has2:F60 2=some [ByteArray.mk #[115,101,113],ByteArray.mk #[119,104,111],ByteArray.mk #[110,101,119,115]]:=by rw [F60_eq]; rfl
theorem has3:F60 3=some [ByteArray.mk #[115,101,113],ByteArray.mk #[119,104,111],ByteArray.mk #[107],ByteArray.mk #[110,101,119,115]]:=by rw [F60_eq]; rfl
theorem has4:F60 4=some [ByteArray.mk #[115,101,113],ByteArray.mk #[119,104,111]]:=by rw [F60_eq]; rfl
theorem has5:F60 5=some [ByteArray.mk #[116,97,98,108,101]]:=by rw [F60_eq]; rfl
theorem has6:F60 6=some [ByteArray.mk #[116,97,98,108,101]]:=by rw [F60_eq]; rfl
theorem has7:F60 7=some [ByteArray.mk #[101,112,111,99,104],ByteArray.mk #[98,111,111,116],ByteArray.mk #[97,115,107,101,100]]:=by rw [F60_eq]; rfl
theorem has8:F60 8=some [ByteArray.mk #[101,112,111,99,104],ByteArray.mk #[98,111,111,116],ByteArray.mk #[97,115,107,101,100]]:=by rw [F60_eq]; rfl
theorem has9:F60 9=some [ByteArray.mk #[101,112,111,99,104],ByteArray.mk #[98,111,111,116]]:=by rw [F60_eq]; rfl
theorem has10:F60 10=some [ByteArray.mk #[98,111,111,116],ByteArray.mk #[97,115,107,101,100]]:=by rw [F60_eq]; rfl
theorem has11:F60 11=some [ByteArray.mk #[101,112,111,99,104],ByteArray.mk #[98,111,111,116],ByteArray.mk #[97,115,107,101,100],ByteArray.mk #[116,97,115,107],ByteArray.mk #[116,111,107,101,110]]:=by rw [F60_eq]; rfl
theorem has12:F60 12=some [ByteArray.mk #[116,97,115,107],ByteArray.mk #[116,111,107,101,110],ByteArray.mk #[103,111,111,100]]:=by rw [F60_eq]; rfl
theorem bare1 {fr to sq wh ki ks ep bo ak tn:Int} {nw:List NW} {tb:List KW} {tk:ByteArray} {gd:Bool}:F58 (1,fr,to,sq,wh,ki,ks,nw,tb,ep,bo,ak,tk,tn,gd)=some (1,fr,to,sq,0,ki,ks,nw,[],0,0,0,(⟨#[]⟩:ByteArray),0,false):=by
 rw [F58_eq]
 simp -implicitDefEqProofs only [has1,Option.bind_some]
 rw [loopX_eq]
 simp -implicitDefEqProofs only [lts,les,tnn,lnn,nq,nw1,ln1,ln2,ln3,ln4,ln5,List.getElem?_cons_zero,List.getElem?_cons_succ,eq_self,xs]
 rw [loopX_eq]
 simp -implicitDefEqProofs only [lts,les,tnn,lnn,nq,nw1,ln1,ln2,ln3,ln4,ln5,List.getElem?_cons_zero,List.getElem?_cons_succ,eq_self,xs]
 rw [loopX_eq]
 simp -implicitDefEqProofs only [lts,les,tnn,lnn,nq,nw1,ln1,ln2,ln3,ln4,ln5,List.getElem?_cons_zero,List.getElem?_cons_succ,eq_self,xs]
 rw [loopX_eq]
 simp -implicitDefEqProofs only [lts,les,tnn,lnn,nq,nw1,ln1,ln2,ln3,ln4,ln5,List.getElem?_cons_zero,List.getElem?_cons_succ,eq_self,xs]
theorem bare2 {fr to sq wh ki ks ep bo ak tn:Int} {nw:List NW} {tb:List KW} {tk:ByteArray} {gd:Bool}:F58 (2,fr,to,sq,wh,ki,ks,nw,tb,ep,bo,ak,tk,tn,gd)=some (2,fr,to,sq,wh,0,0,nw,[],0,0,0,(⟨#[]⟩:ByteArray),0,false):=by
 rw [F58_eq]
 simp -implicitDefEqProofs only [has2,Option.bind_some]
 rw [loopX_eq]
 simp -implicitDefEqProofs only [lts,les,tnn,lnn,nq,nw1,ln1,ln2,ln3,ln4,ln5,List.getElem?_cons_zero,List.getElem?_cons_succ,eq_self,xs]
 rw [loopX_eq]
 simp -implicitDefEqProofs only [lts,les,tnn,lnn,nq,nw1,ln1,ln2,ln3,ln4,ln5,List.getElem?_cons_zero,List.getElem?_cons_succ,eq_self,xs]
 rw [loopX_eq]
 simp -implicitDefEqProofs only [lts,les,tnn,lnn,nq,nw1,ln1,ln2,ln3,ln4,ln5,List.getElem?_cons_zero,List.getElem?_cons_succ,eq_self,xs]
 rw [loopX_eq]
 simp -implicitDefEqProofs only [lts,les,tnn,lnn,nq,nw1,ln1,ln2,ln3,ln4,ln5,List.getElem?_cons_zero,List.getElem?_cons_succ,eq_self,xs]
theorem bare3 {fr to sq wh ki ks ep bo ak tn:Int} {nw:List NW} {tb:List KW} {tk:ByteArray} {gd:Bool}:F58 (3,fr,to,sq,wh,ki,ks,nw,tb,ep,bo,ak,tk,tn,gd)=some (3,fr,to,sq,wh,ki,ks,nw,[],0,0,0,(⟨#[]⟩:ByteArray),0,false):=by
 rw [F58_eq]
 simp -implicitDefEqProofs only [has3,Option.bind_some]
 rw [loopX_eq]
 simp -implicitDefEqProofs only [lts,les,tnn,lnn,nq,nw1,ln1,ln2,ln3,ln4,ln5,List.getElem?_cons_zero,List.getElem?_cons_succ,eq_self,xs]
 rw [loopX_eq]
 simp -implicitDefEqProofs only [lts,les,tnn,lnn,nq,nw1,ln1,ln2,ln3,ln4,ln5,List.getElem?_cons_zero,List.getElem?_cons_succ,eq_self,xs]
 rw [loopX_eq]
 simp -implicitDefEqProofs only [lts,les,tnn,lnn,nq,nw1,ln1,ln2,ln3,ln4,ln5,List.getElem?_cons_zero,List.getElem?_cons_succ,eq_self,xs]
 rw [loopX_eq]
 simp -implicitDefEqProofs only [lts,les,tnn,lnn,nq,nw1,ln1,ln2,ln3,ln4,ln5,List.getElem?_cons_zero,List.getElem?_cons_succ,eq_self,xs]
 rw [loopX_eq]
 simp -implicitDefEqProofs only [lts,les,tnn,lnn,nq,nw1,ln1,ln2,ln3,ln4,ln5,List.getElem?_cons_zero,List.getElem?_cons_succ,eq_self,xs]
theorem bare4 {fr to sq wh ki ks ep bo ak tn:Int} {nw:List NW} {tb:List KW} {tk:ByteArray} {gd:Bool}:F58 (4,fr,to,sq,wh,ki,ks,nw,tb,ep,bo,ak,tk,tn,gd)=some (4,fr,to,sq,wh,0,0,[],[],0,0,0,(⟨#[]⟩:ByteArray),0,false):=by
 rw [F58_eq]
 simp -implicitDefEqProofs only [has4,Option.bind_some]
 rw [loopX_eq]
 simp -implicitDefEqProofs only [lts,les,tnn,lnn,nq,nw1,ln1,ln2,ln3,ln4,ln5,List.getElem?_cons_zero,List.getElem?_cons_succ,eq_self,xs]
 rw [loopX_eq]
 simp -implicitDefEqProofs only [lts,les,tnn,lnn,nq,nw1,ln1,ln2,ln3,ln4,ln5,List.getElem?_cons_zero,List.getElem?_cons_succ,eq_self,xs]
 rw [loopX_eq]
 simp -implicitDefEqProofs only [lts,les,tnn,lnn,nq,nw1,ln1,ln2,ln3,ln4,ln5,List.getElem?_cons_zero,List.getElem?_cons_succ,eq_self,xs]
theorem bare5 {fr to sq wh ki ks ep bo ak tn:Int} {nw:List NW} {tb:List KW} {tk:ByteArray} {gd:Bool}:F58 (5,fr,to,sq,wh,ki,ks,nw,tb,ep,bo,ak,tk,tn,gd)=some (5,fr,to,0,0,0,0,[],tb,0,0,0,(⟨#[]⟩:ByteArray),0,false):=by
 rw [F58_eq]
 simp -implicitDefEqProofs only [has5,Option.bind_some]
 rw [loopX_eq]
 simp -implicitDefEqProofs only [lts,les,tnn,lnn,nq,nw1,ln1,ln2,ln3,ln4,ln5,List.getElem?_cons_zero,List.getElem?_cons_succ,eq_self,xs]
 rw [loopX_eq]
 simp -implicitDefEqProofs only [lts,les,tnn,lnn,nq,nw1,ln1,ln2,ln3,ln4,ln5,List.getElem?_cons_zero,List.getElem?_cons_succ,eq_self,xs]
theorem bare6 {fr to sq wh ki ks ep bo ak tn:Int} {nw:List NW} {tb:List KW} {tk:ByteArray} {gd:Bool}:F58 (6,fr,to,sq,wh,ki,ks,nw,tb,ep,bo,ak,tk,tn,gd)=some (6,fr,to,0,0,0,0,[],tb,0,0,0,(⟨#[]⟩:ByteArray),0,false):=by
 rw [F58_eq]
 simp -implicitDefEqProofs only [has6,Option.bind_some]
 rw [loopX_eq]
 simp -implicitDefEqProofs only [lts,les,tnn,lnn,nq,nw1,ln1,ln2,ln3,ln4,ln5,List.getElem?_cons_zero,List.getElem?_cons_succ,eq_self,xs]
 rw [loopX_eq]
 simp -implicitDefEqProofs only [lts,les,tnn,lnn,nq,nw1,ln1,ln2,ln3,ln4,ln5,List.getElem?_cons_zero,List.getElem?_cons_succ,eq_self,xs]
theorem bare7 {fr to sq wh ki ks ep bo ak tn:Int} {nw:List NW} {tb:List KW} {tk:ByteArray} {gd:Bool}:F58 (7,fr,to,sq,wh,ki,ks,nw,tb,ep,bo,ak,tk,tn,gd)=some (7,fr,to,0,0,0,0,[],[],ep,bo,ak,(⟨#[]⟩:ByteArray),0,false):=by
 rw [F58_eq]
 simp -implicitDefEqProofs only [has7,Option.bind_some]
 rw [loopX_eq]
 simp -implicitDefEqProofs only [lts,les,tnn,lnn,nq,nw1,ln1,ln2,ln3,ln4,ln5,List.getElem?_cons_zero,List.getElem?_cons_succ,eq_self,xs]
 rw [loopX_eq]
 simp -implicitDefEqProofs only [lts,les,tnn,lnn,nq,nw1,ln1,ln2,ln3,ln4,ln5,List.getElem?_cons_zero,List.getElem?_cons_succ,eq_self,xs]
 rw [loopX_eq]
 simp -implicitDefEqProofs only [lts,les,tnn,lnn,nq,nw1,ln1,ln2,ln3,ln4,ln5,List.getElem?_cons_zero,List.getElem?_cons_succ,eq_self,xs]
 rw [loopX_eq]
 simp -implicitDefEqProofs only [lts,les,tnn,lnn,nq,nw1,ln1,ln2,ln3,ln4,ln5,List.getElem?_cons_zero,List.getElem?_cons_succ,eq_self,xs]
theorem bare8 {fr to sq wh ki ks ep bo ak tn:Int} {nw:List NW} {tb:List KW} {tk:ByteArray} {gd:Bool}:F58 (8,fr,to,sq,wh,ki,ks,nw,tb,ep,bo,ak,tk,tn,gd)=some (8,fr,to,0,0,0,0,[],[],ep,bo,ak,(⟨#[]⟩:ByteArray),0,false):=by
 rw [F58_eq]
 simp -implicitDefEqProofs only [has8,Option.bind_some]
 rw [loopX_eq]
 simp -implicitDefEqProofs only [lts,les,tnn,lnn,nq,nw1,ln1,ln2,ln3,ln4,ln5,List.getElem?_cons_zero,List.getElem?_cons_succ,eq_self,xs]
 rw [loopX_eq]
 simp -implicitDefEqProofs only [lts,les,tnn,lnn,nq,nw1,ln1,ln2,ln3,ln4,ln5,List.getElem?_cons_zero,List.getElem?_cons_succ,eq_self,xs]
 rw [loopX_eq]
 simp -implicitDefEqProofs only [lts,les,tnn,lnn,nq,nw1,ln1,ln2,ln3,ln4,ln5,List.getElem?_cons_zero,List.getElem?_cons_succ,eq_self,xs]
 rw [loopX_eq]
 simp -implicitDefEqProofs only [lts,les,tnn,lnn,nq,nw1,ln1,ln2,ln3,ln4,ln5,List.getElem?_cons_zero,List.getElem?_cons_succ,eq_self,xs]
theorem bare9 {fr to sq wh ki ks ep bo ak tn:Int} {nw:List NW} {tb:List KW} {tk:ByteArray} {gd:Bool}:F58 (9,fr,to,sq,wh,ki,ks,nw,tb,ep,bo,ak,tk,tn,gd)=some (9,fr,to,0,0,0,0,[],[],ep,bo,0,(⟨#[]⟩:ByteArray),0,false):=by
 rw [F58_eq]
 simp -implicitDefEqProofs only [has9,Option.bind_some]
 rw [loopX_eq]
 simp -implicitDefEqProofs only [lts,les,tnn,lnn,nq,nw1,ln1,ln2,ln3,ln4,ln5,List.getElem?_cons_zero,List.getElem?_cons_succ,eq_self,xs]
 rw [loopX_eq]
 simp -implicitDefEqProofs only [lts,les,tnn,lnn,nq,nw1,ln1,ln2,ln3,ln4,ln5,List.getElem?_cons_zero,List.getElem?_cons_succ,eq_self,xs]
 rw [loopX_eq]
 simp -implicitDefEqProofs only [lts,les,tnn,lnn,nq,nw1,ln1,ln2,ln3,ln4,ln5,List.getElem?_cons_zero,List.getElem?_cons_succ,eq_self,xs]
theorem bare10 {fr to sq wh ki ks ep bo ak tn:Int} {nw:List NW} {tb:List KW} {tk:ByteArray} {gd:Bool}:F58 (10,fr,to,sq,wh,ki,ks,nw,tb,ep,bo,ak,tk,tn,gd)=some (10,fr,to,0,0,0,0,[],[],0,bo,ak,(⟨#[]⟩:ByteArray),0,false):=by
 rw [F58_eq]
 simp -implicitDefEqProofs only [has10,Option.bind_some]
 rw [loopX_eq]
 simp -implicitDefEqProofs only [lts,les,tnn,lnn,nq,nw1,ln1,ln2,ln3,ln4,ln5,List.getElem?_cons_zero,List.getElem?_cons_succ,eq_self,xs]
 rw [loopX_eq]
 simp -implicitDefEqProofs only [lts,les,tnn,lnn,nq,nw1,ln1,ln2,ln3,ln4,ln5,List.getElem?_cons_zero,List.getElem?_cons_succ,eq_self,xs]
 rw [loopX_eq]
 simp -implicitDefEqProofs only [lts,les,tnn,lnn,nq,nw1,ln1,ln2,ln3,ln4,ln5,List.getElem?_cons_zero,List.getElem?_cons_succ,eq_self,xs]
theorem bare11 {fr to sq wh ki ks ep bo ak tn:Int} {nw:List NW} {tb:List KW} {tk:ByteArray} {gd:Bool}:F58 (11,fr,to,sq,wh,ki,ks,nw,tb,ep,bo,ak,tk,tn,gd)=some (11,fr,to,0,0,0,0,[],[],ep,bo,ak,tk,tn,false):=by
 rw [F58_eq]
 simp -implicitDefEqProofs only [has11,Option.bind_some]
 rw [loopX_eq]
 simp -implicitDefEqProofs only [lts,les,tnn,lnn,nq,nw1,ln1,ln2,ln3,ln4,ln5,List.getElem?_cons_zero,List.getElem?_cons_succ,eq_self,xs]
 rw [loopX_eq]
 simp -implicitDefEqProofs only [lts,les,tnn,lnn,nq,nw1,ln1,ln2,ln3,ln4,ln5,List.getElem?_cons_zero,List.getElem?_cons_succ,eq_self,xs]
 rw [loopX_eq]
 simp -implicitDefEqProofs only [lts,les,tnn,lnn,nq,nw1,ln1,ln2,ln3,ln4,ln5,List.getElem?_cons_zero,List.getElem?_cons_succ,eq_self,xs]
 rw [loopX_eq]
 simp -implicitDefEqProofs only [lts,les,tnn,lnn,nq,nw1,ln1,ln2,ln3,ln4,ln5,List.getElem?_cons_zero,List.getElem?_cons_succ,eq_self,xs]
 rw [loopX_eq]
 simp -implicitDefEqProofs only [lts,les,tnn,lnn,nq,nw1,ln1,ln2,ln3,ln4,ln5,List.getElem?_cons_zero,List.getElem?_cons_succ,eq_self,xs]
 rw [loopX_eq]
 simp -implicitDefEqProofs only [lts,les,tnn,lnn,nq,nw1,ln1,ln2,ln3,ln4,ln5,List.getElem?_cons_zero,List.getElem?_cons_succ,eq_self,xs]
theorem bare12 {fr to sq wh ki ks ep bo ak tn:Int} {nw:List NW} {tb:List KW} {tk:ByteArray} {gd:Bool}:F58 (12,fr,to,sq,wh,ki,ks,nw,tb,ep,bo,ak,tk,tn,gd)=some (12,fr,to,0,0,0,0,[],[],0,0,0,tk,tn,gd):=by
 rw [F58_eq]
 simp -implicitDefEqProofs only [has12,Option.bind_some]
 rw [loopX_eq]
 simp -implicitDefEqProofs only [lts,les,tnn,lnn,nq,nw1,ln1,ln2,ln3,ln4,ln5,List.getElem?_cons_zero,List.getElem?_cons_succ,eq_self,xs]
 rw [loopX_eq]
 simp -implicitDefEqProofs only [lts,les,tnn,lnn,nq,nw1,ln1,ln2,ln3,ln4,ln5,List.getElem?_cons_zero,List.getElem?_cons_succ,eq_self,xs]
 rw [loopX_eq]
 simp -implicitDefEqProofs only [lts,les,tnn,lnn,nq,nw1,ln1,ln2,ln3,ln4,ln5,List.getElem?_cons_zero,List.getElem?_cons_succ,eq_self,xs]
 rw [loopX_eq]
 simp -implicitDefEqProofs only [lts,les,tnn,lnn,nq,nw1,ln1,ln2,ln3,ln4,ln5,List.getElem?_cons_zero,List.getElem?_cons_succ,eq_self,xs]
theorem eqNW (a b:List NW) (ha:a.length≤1000):F83 (a,b)=some (decide (a=b)):=by
 rw [F83_eq]
 by_cases hl:a.length=b.length
 ·have e:(((a.length:Nat):Int) != ((b.length:Nat):Int))=false:=by rw [hl]; exact bne_self_eq_false _
  simp -implicitDefEqProofs only [e,eq_self,xs]
  refine loop_same a b hl rfl ?_ ?_
  ·simp -implicitDefEqProofs only [not_lt_self,eq_self,xs]
  ·intro i x y hi hx hy
   have q1:((i:Nat):Int) < ((a.length:Nat):Int):=by omega
   have q2:(0:Int)≤(i:Int):=by omega
   simp -implicitDefEqProofs only [q1,q2,hx,hy,w1 (show i≤9223372036854775806 by omega),eq_self,xs]
   obtain ⟨x1,x2,x3⟩:=x
   obtain ⟨y1,y2,y3⟩:=y
   by_cases h1:x1=y1
   ·by_cases h2:x2=y2
    ·by_cases h3:x3=y3
     ·subst h1 h2 h3
      rw [if_pos rfl]; simp
     ·have e3:(x3==y3)=false:=beq_eq_false_iff_ne.2 h3
      rw [if_neg (by simp [h3])]; simp [h1,h2,e3]
    ·have e2:(x2==y2)=false:=beq_eq_false_iff_ne.2 h2
     rw [if_neg (by simp [h2])]; simp [h1,e2]
   ·have e1:(x1==y1)=false:=beq_eq_false_iff_ne.2 h1
    rw [if_neg (by simp [h1])]; simp [e1]
 ·have e:(((a.length:Nat):Int) != ((b.length:Nat):Int))=true:=by rw [bne_iff_ne]; omega
  simp -implicitDefEqProofs only [e,eq_self,xs]
  rw [decide_eq_false (fun h=>hl (by rw [h]))]
theorem eqKW (a b:List KW) (ha:a.length≤1000):F84 (a,b)=some (decide (a=b)):=by
 rw [F84_eq]
 by_cases hl:a.length=b.length
 ·have e:(((a.length:Nat):Int) != ((b.length:Nat):Int))=false:=by rw [hl]; exact bne_self_eq_false _
  simp -implicitDefEqProofs only [e,eq_self,xs]
  refine loop_same a b hl rfl ?_ ?_
  ·simp -implicitDefEqProofs only [not_lt_self,eq_self,xs]
  ·intro i x y hi hx hy
   have q1:((i:Nat):Int) < ((a.length:Nat):Int):=by omega
   have q2:(0:Int)≤(i:Int):=by omega
   simp -implicitDefEqProofs only [q1,q2,hx,hy,w1 (show i≤9223372036854775806 by omega),eq_self,xs]
   obtain ⟨x1,x2⟩:=x
   obtain ⟨y1,y2⟩:=y
   by_cases h1:x1=y1
   ·by_cases h2:x2=y2
    ·subst h1 h2
     rw [if_pos rfl]; simp
    ·have e2:(x2==y2)=false:=beq_eq_false_iff_ne.2 h2
     rw [if_neg (by simp [h2])]; simp [h1,e2]
   ·have e1:(x1==y1)=false:=beq_eq_false_iff_ne.2 h1
    rw [if_neg (by simp [h1])]; simp [e1]
 ·have e:(((a.length:Nat):Int) != ((b.length:Nat):Int))=true:=by rw [bne_iff_ne]; omega
  simp -implicitDefEqProofs only [e,eq_self,xs]
  rw [decide_eq_false (fun h=>hl (by rw [h]))]
theorem reqNW (a b:List NW):F127 (a,b)=F83 (a,b):=(F127_eq (a,b)).trans (F83_eq (a,b)).symm
theorem reqKW (a b:List KW):F128 (a,b)=F84 (a,b):=(F128_eq (a,b)).trans (F84_eq (a,b)).symm
theorem rsame_eq (a b:MB):F75 (a,b)=F57 (a,b):=by
 have h1:=reqNW a.2.2.2.2.2.2.2.1 b.2.2.2.2.2.2.2.1
 have h2:=reqKW a.2.2.2.2.2.2.2.2.1 b.2.2.2.2.2.2.2.2.1
 rw [F75_eq,F57_eq]
 simp only [h1,h2]
theorem c1 (a b:Bool):cond a (some b) (some false)=some (a&&b):=by cases a<;>rfl
def sameB (m n:MB):Bool:=(m.1==n.1)&&((m.2.1==n.2.1)&&((m.2.2.1==n.2.2.1)&&((m.2.2.2.1==n.2.2.2.1)&&((m.2.2.2.2.1==n.2.2.2.2.1)&&((m.2.2.2.2.2.1==n.2.2.2.2.2.1)&&((m.2.2.2.2.2.2.1==n.2.2.2.2.2.2.1)&&(decide (m.2.2.2.2.2.2.2.1=n.2.2.2.2.2.2.2.1)&&(decide (m.2.2.2.2.2.2.2.2.1=n.2.2.2.2.2.2.2.2.1)&&((m.2.2.2.2.2.2.2.2.2.1==n.2.2.2.2.2.2.2.2.2.1)&&((m.2.2.2.2.2.2.2.2.2.2.1==n.2.2.2.2.2.2.2.2.2.2.1)&&((m.2.2.2.2.2.2.2.2.2.2.2.1==n.2.2.2.2.2.2.2.2.2.2.2.1)&&((m.2.2.2.2.2.2.2.2.2.2.2.2.1.toList==n.2.2.2.2.2.2.2.2.2.2.2.2.1.toList)&&((m.2.2.2.2.2.2.2.2.2.2.2.2.2.1==n.2.2.2.2.2.2.2.2.2.2.2.2.2.1)&&((m.2.2.2.2.2.2.2.2.2.2.2.2.2.2==n.2.2.2.2.2.2.2.2.2.2.2.2.2.2)))))))))))))))
theorem same_ok (m n:MB) (hw:m.2.2.2.2.2.2.2.1.length≤1000) (ht:m.2.2.2.2.2.2.2.2.1.length≤1000):F57 (m,n)=some (sameB m n):=by
 have h1:=eqNW m.2.2.2.2.2.2.2.1 n.2.2.2.2.2.2.2.1 hw
 have h2:=eqKW m.2.2.2.2.2.2.2.2.1 n.2.2.2.2.2.2.2.2.1 ht
 rw [F57_eq]
 simp only [h1,h2,Option.bind_some,c1,Bool.and_true]
 unfold sameB
 simp only [Bool.and_assoc]
def bareM (m:MB):MB:=(m.1,(m.2.1,(m.2.2.1,(if kindB m.1 0=true then m.2.2.2.1 else 0,(if kindB m.1 1=true then m.2.2.2.2.1 else 0,(if kindB m.1 2=true then m.2.2.2.2.2.1 else 0,(if kindB m.1 2=true then m.2.2.2.2.2.2.1 else 0,(if kindB m.1 3=true then m.2.2.2.2.2.2.2.1 else [],(if kindB m.1 4=true then m.2.2.2.2.2.2.2.2.1 else [],(if kindB m.1 5=true then m.2.2.2.2.2.2.2.2.2.1 else 0,(if kindB m.1 6=true then m.2.2.2.2.2.2.2.2.2.2.1 else 0,(if kindB m.1 7=true then m.2.2.2.2.2.2.2.2.2.2.2.1 else 0,(if kindB m.1 8=true then m.2.2.2.2.2.2.2.2.2.2.2.2.1 else (⟨#[]⟩:ByteArray),(if kindB m.1 8=true then m.2.2.2.2.2.2.2.2.2.2.2.2.2.1 else 0,if kindB m.1 9=true then m.2.2.2.2.2.2.2.2.2.2.2.2.2.2 else false))))))))))))))
def nodeB (n:Int):Bool:=decide (0≤n)&&decide (n≤63)
def knowB (s:Int):Bool:=decide (0≤s)&&decide (s≤3)
def tickB (n:Int):Bool:=decide (0≤n)&&decide (n≤1099511627776)
def tellB (x:NW):Bool:=nodeB x.1&&knowB x.2.2
def newsB (l:List NW):Bool:=decide (l.length≤8)&&l.all tellB
def tabB (l:List KW):Bool:=(decide (1≤l.length)&&decide (l.length≤64))&&l.all (fun x=>knowB x.2)
def partsB (m:MB):Bool:=(!kindB m.1 1 || nodeB m.2.2.2.2.1)&&((!kindB m.1 2 || knowB m.2.2.2.2.2.2.1)&&((!kindB m.1 3 || newsB m.2.2.2.2.2.2.2.1)&&((!kindB m.1 4 || tabB m.2.2.2.2.2.2.2.2.1)&&((!kindB m.1 7 || tickB m.2.2.2.2.2.2.2.2.2.2.2.1)&&(!kindB m.1 8 || nmB m.2.2.2.2.2.2.2.2.2.2.2.2.1)))))
def msgB (m:MB):Bool:=(decide (1≤m.1)&&decide (m.1≤12))&&((nodeB m.2.1&&nodeB m.2.2.1)&&(!(m.2.1==m.2.2.1)&&(sameB m (bareM m)&&partsB m)))
theorem node_ok (n:Int):F56 n=some (nodeB n):=by
 rw [F56_eq]
 unfold nodeB
 have e:decide (n < 64)=decide (n≤63):=by rw [Bool.eq_iff_iff,decide_eq_true_iff,decide_eq_true_iff]; omega
 rw [e]
 show cond (decide (0≤n)) _ _=_
 cases decide (0≤n)<;>rfl
theorem rnode_ok (n:Int):F74 n=some (nodeB n):=by
 rw [F74_eq]
 unfold nodeB
 cases decide (0≤n)<;>rfl
theorem rknow_ok (i s:Int):F77 (i,s)=some (knowB s):=by
 rw [F77_eq]
 unfold knowB
 cases decide (0≤s)<;>rfl
theorem know_ok (l:List KW) (hl:l.length≤1000):F100 l=some (if l.all (fun x=>knowB x.2)=true then 0 else 1):=by
 rw [F100_eq]
 refine loop_list l (fun x=>knowB x.2) (1:Int) 0 rfl ?_ ?_
 ·simp -implicitDefEqProofs only [not_lt_self,eq_self,xs]
 ·intro i x hi hx
  have q1:((i:Nat):Int) < ((l.length:Nat):Int):=by omega
  have q2:(0:Int)≤(i:Int):=by omega
  simp -implicitDefEqProofs only [q1,q2,hx,w1 (show i≤9223372036854775806 by omega),dlt x.2 0,dgt x.2 3,eq_self,xs]
  unfold knowB
  cases decide (0≤x.2)<;>cases decide (x.2≤3)<;>rfl
theorem know1_ok (i s:Int):F100 [(i,s)]=some (if knowB s=true then 0 else 1):=by
 rw [know_ok [(i,s)] (by simp)]
 simp
theorem tab_ok (l:List KW) (hl:l.length≤1000):F109 l=some (if tabB l=true then 0 else 1):=by
 rw [F109_eq]
 have e1:decide (((l.length:Nat):Int) < 1)=!decide (1≤l.length):=by rw [Bool.eq_iff_iff,Bool.not_eq_true',decide_eq_true_iff,decide_eq_false_iff_not]; omega
 have e2:decide (((l.length:Nat):Int) > 64)=!decide (l.length≤64):=by rw [Bool.eq_iff_iff,Bool.not_eq_true',decide_eq_true_iff,decide_eq_false_iff_not]; omega
 simp -implicitDefEqProofs only [e1,e2,know_ok l hl,eq_self,xs]
 unfold tabB
 cases decide (1≤l.length)<;>cases decide (l.length≤64)<;>cases (l.all fun x=>knowB x.2)<;>rfl
theorem rtab_ok (l:List KW) (hl:l.length≤1000):F78 l=some (tabB l):=by
 rw [F78_eq]
 rw [loop_list (s0:=(0:Int)) l (fun x=>knowB x.2) (Sum.inr false) (Sum.inl ()) rfl]
 ·have e1:decide ((1:Int)≤((l.length:Nat):Int))=decide (1≤l.length):=by rw [Bool.eq_iff_iff,decide_eq_true_iff,decide_eq_true_iff]; omega
  have e2:decide (((l.length:Nat):Int)≤64)=decide (l.length≤64):=by rw [Bool.eq_iff_iff,decide_eq_true_iff,decide_eq_true_iff]; omega
  rw [e1,e2]
  unfold tabB
  cases decide (1≤l.length)<;>cases decide (l.length≤64)<;>cases (l.all fun x=>knowB x.2)<;>rfl
 ·simp -implicitDefEqProofs only [not_lt_self,eq_self,xs]
 ·intro i x hi hx
  have q1:((i:Nat):Int) < ((l.length:Nat):Int):=by omega
  have q2:(0:Int)≤(i:Int):=by omega
  simp -implicitDefEqProofs only [q1,q2,hx,w1 (show i≤9223372036854775806 by omega),rknow_ok x.1 x.2,eq_self,xs]
  cases knowB x.2<;>rfl
theorem new1_ok (x:NW):F131 (x.1,x.2.1,x.2.2)=some (!tellB x):=by
 rw [F131_eq]
 simp -implicitDefEqProofs only [node_ok x.1,know1_ok x.2.1 x.2.2,neq1,eq_self,xs]
 unfold tellB
 cases nodeB x.1<;>rfl
theorem news_ok (m:MB) (hw:m.2.2.2.2.2.2.2.1.length≤1000):F105 m=some (newsB m.2.2.2.2.2.2.2.1):=by
 rw [F105_eq]
 generalize m.2.2.2.2.2.2.2.1=l at *
 have e2:decide (((l.length:Nat):Int)≤8)=decide (l.length≤8):=by rw [Bool.eq_iff_iff,decide_eq_true_iff,decide_eq_true_iff]; omega
 rw [e2]
 unfold newsB
 cases decide (l.length≤8)
 ·rfl
 simp -implicitDefEqProofs only [eq_self,xs]
 rw [loop_first (s0:=(0:Int)) l (fun k=>!tellB k) (fun i=>(i:Int)) (-1:Int) rfl]
 rotate_left
 ·simp -implicitDefEqProofs only [not_lt_self,eq_self,xs]
 ·intro i x hi hx
  have q1:((i:Nat):Int) < ((l.length:Nat):Int):=by omega
  have q2:(0:Int)≤(i:Int):=by omega
  simp -implicitDefEqProofs only [q1,q2,hx,new1_ok x,w1 (show i≤9223372036854775806 by omega),eq_self,xs]
  cases tellB x<;>rfl
 cases hg:l.all tellB
 ·have ha:l.any (fun k=>!tellB k)=true:=by
   rw [List.any_eq_true]
   rw [List.all_eq_false] at hg
   obtain ⟨x,hx,hq⟩:=hg
   exact ⟨x,hx,by simpa using hq⟩
  have q:(((l.findIdx (fun k=>!tellB k):Nat):Int) ≥ 0):=by omega
  simp -implicitDefEqProofs only [ha,q,eq_self,xs]
 ·have ha:l.any (fun k=>!tellB k)=false:=by
   rw [List.any_eq_false]
   rw [List.all_eq_true] at hg
   intro x hx; rw [hg x hx]; decide
  have qm:¬ ((-1:Int) ≥ 0):=by omega
  simp -implicitDefEqProofs only [ha,qm,eq_self,xs]
theorem check1 {fr to sq wh ki ks ep bo ak tn:Int} {nw:List NW} {tb:List KW} {tk:ByteArray} {gd:Bool} (hw:nw.length≤1000) (ht:tb.length≤1000) (hk:tk.size≤maxLen):F29 (1,fr,to,sq,wh,ki,ks,nw,tb,ep,bo,ak,tk,tn,gd)=some (if msgB (1,fr,to,sq,wh,ki,ks,nw,tb,ep,bo,ak,tk,tn,gd)=true then 0 else 1):=by
 rw [F29_eq]
 have hb:=bare1 (fr:=fr) (to:=to) (sq:=sq) (wh:=wh) (ki:=ki) (ks:=ks) (nw:=nw) (tb:=tb) (ep:=ep) (bo:=bo) (ak:=ak) (tk:=tk) (tn:=tn) (gd:=gd)
 have hbm:bareM (1,fr,to,sq,wh,ki,ks,nw,tb,ep,bo,ak,tk,tn,gd)=(1,fr,to,sq,0,ki,ks,nw,[],0,0,0,(⟨#[]⟩:ByteArray),0,false):=rfl
 have hs:=same_ok (1,fr,to,sq,wh,ki,ks,nw,tb,ep,bo,ak,tk,tn,gd) (bareM (1,fr,to,sq,wh,ki,ks,nw,tb,ep,bo,ak,tk,tn,gd)) hw ht
 rw [hbm] at hs
 have k1:¬ ((1:Int) < 1):=by decide
 have k2:¬ ((1:Int) > 12):=by decide
 simp -implicitDefEqProofs only [node_ok fr,node_ok to,hb,hs,k1,k2,eq_self,xs]
 unfold msgB
 rw [hbm]
 have kk1:decide ((1:Int)≤1)=true:=rfl
 have kk2:decide ((1:Int)≤12)=true:=rfl
 simp -implicitDefEqProofs only [kk1,kk2,eq_self,xs]
 cases nodeB fr
 ·simp -implicitDefEqProofs only [eq_self,xs]
 cases nodeB to
 ·simp -implicitDefEqProofs only [eq_self,xs]
 cases (fr==to)
 rotate_left
 ·simp -implicitDefEqProofs only [eq_self,xs]
 simp -implicitDefEqProofs only [eq_self,xs]
 generalize sameB _ _=sb
 cases sb
 ·simp -implicitDefEqProofs only [eq_self,xs]
 simp -implicitDefEqProofs only [has1,eq_self,xs]
 have pa_seq:=F86_eq (1,fr,to,sq,wh,ki,ks,nw,tb,ep,bo,ak,tk,tn,gd)
 have pa_k:F99 (1,fr,to,sq,wh,ki,ks,nw,tb,ep,bo,ak,tk,tn,gd)=some (knowB ks):=by rw [F99_eq]; simp -implicitDefEqProofs only [know1_ok ki ks,eqq,eq_self,xs]
 have pa_news:F105 (1,fr,to,sq,wh,ki,ks,nw,tb,ep,bo,ak,tk,tn,gd)=some (newsB nw):=news_ok (1,fr,to,sq,wh,ki,ks,nw,tb,ep,bo,ak,tk,tn,gd) hw
 have hp:partsB (1,fr,to,sq,wh,ki,ks,nw,tb,ep,bo,ak,tk,tn,gd)=((!kindB 1 1 || nodeB wh)&&((!kindB 1 2 || knowB ks)&&((!kindB 1 3 || newsB nw)&&((!kindB 1 4 || tabB tb)&&((!kindB 1 7 || tickB ak)&&((!kindB 1 8 || nmB tk))))))):=rfl
 rw [hp]
 have kb1:kindB 1 1=false:=rfl
 have kb2:kindB 1 2=true:=rfl
 have kb3:kindB 1 3=true:=rfl
 have kb4:kindB 1 4=false:=rfl
 have kb7:kindB 1 7=false:=rfl
 have kb8:kindB 1 8=false:=rfl
 rw [loopX_eq]
 simp -implicitDefEqProofs only [lts,les,tnn,lnn,nq,nw1,ln1,ln2,ln3,ln4,ln5,List.getElem?_cons_zero,List.getElem?_cons_succ,pa_seq,pa_k,pa_news,kb1,kb2,kb3,kb4,kb7,kb8,eq_self,xs]
 rw [loopX_eq]
 simp -implicitDefEqProofs only [lts,les,tnn,lnn,nq,nw1,ln1,ln2,ln3,ln4,ln5,List.getElem?_cons_zero,List.getElem?_cons_succ,pa_seq,pa_k,pa_news,kb1,kb2,kb3,kb4,kb7,kb8,eq_self,xs]
 cases knowB ks
 ·simp -implicitDefEqProofs only [eq_self,xs]
 simp -implicitDefEqProofs only [eq_self,xs]
 rw [loopX_eq]
 simp -implicitDefEqProofs only [lts,les,tnn,lnn,nq,nw1,ln1,ln2,ln3,ln4,ln5,List.getElem?_cons_zero,List.getElem?_cons_succ,pa_seq,pa_k,pa_news,kb1,kb2,kb3,kb4,kb7,kb8,eq_self,xs]
 cases newsB nw
 ·simp -implicitDefEqProofs only [eq_self,xs]
 simp -implicitDefEqProofs only [eq_self,xs]
 rw [loopX_eq]
 simp -implicitDefEqProofs only [lts,les,tnn,lnn,nq,nw1,ln1,ln2,ln3,ln4,ln5,List.getElem?_cons_zero,List.getElem?_cons_succ,pa_seq,pa_k,pa_news,kb1,kb2,kb3,kb4,kb7,kb8,eq_self,xs]
theorem check2 {fr to sq wh ki ks ep bo ak tn:Int} {nw:List NW} {tb:List KW} {tk:ByteArray} {gd:Bool} (hw:nw.length≤1000) (ht:tb.length≤1000) (hk:tk.size≤maxLen):F29 (2,fr,to,sq,wh,ki,ks,nw,tb,ep,bo,ak,tk,tn,gd)=some (if msgB (2,fr,to,sq,wh,ki,ks,nw,tb,ep,bo,ak,tk,tn,gd)=true then 0 else 1):=by
 rw [F29_eq]
 have hb:=bare2 (fr:=fr) (to:=to) (sq:=sq) (wh:=wh) (ki:=ki) (ks:=ks) (nw:=nw) (tb:=tb) (ep:=ep) (bo:=bo) (ak:=ak) (tk:=tk) (tn:=tn) (gd:=gd)
 have hbm:bareM (2,fr,to,sq,wh,ki,ks,nw,tb,ep,bo,ak,tk,tn,gd)=(2,fr,to,sq,wh,0,0,nw,[],0,0,0,(⟨#[]⟩:ByteArray),0,false):=rfl
 have hs:=same_ok (2,fr,to,sq,wh,ki,ks,nw,tb,ep,bo,ak,tk,tn,gd) (bareM (2,fr,to,sq,wh,ki,ks,nw,tb,ep,bo,ak,tk,tn,gd)) hw ht
 rw [hbm] at hs
 have k1:¬ ((2:Int) < 1):=by decide
 have k2:¬ ((2:Int) > 12):=by decide
 simp -implicitDefEqProofs only [node_ok fr,node_ok to,hb,hs,k1,k2,eq_self,xs]
 unfold msgB
 rw [hbm]
 have kk1:decide ((1:Int)≤2)=true:=rfl
 have kk2:decide ((2:Int)≤12)=true:=rfl
 simp -implicitDefEqProofs only [kk1,kk2,eq_self,xs]
 cases nodeB fr
 ·simp -implicitDefEqProofs only [eq_self,xs]
 cases nodeB to
 ·simp -implicitDefEqProofs only [eq_self,xs]
 cases (fr==to)
 rotate_left
 ·simp -implicitDefEqProofs only [eq_self,xs]
 simp -implicitDefEqProofs only [eq_self,xs]
 generalize sameB _ _=sb
 cases sb
 ·simp -implicitDefEqProofs only [eq_self,xs]
 simp -implicitDefEqProofs only [has2,eq_self,xs]
 have pa_seq:=F86_eq (2,fr,to,sq,wh,ki,ks,nw,tb,ep,bo,ak,tk,tn,gd)
 have pa_who:F95 (2,fr,to,sq,wh,ki,ks,nw,tb,ep,bo,ak,tk,tn,gd)=some (nodeB wh):=by rw [F95_eq]; simp -implicitDefEqProofs only [node_ok wh,eq_self,xs]
 have pa_news:F105 (2,fr,to,sq,wh,ki,ks,nw,tb,ep,bo,ak,tk,tn,gd)=some (newsB nw):=news_ok (2,fr,to,sq,wh,ki,ks,nw,tb,ep,bo,ak,tk,tn,gd) hw
 have hp:partsB (2,fr,to,sq,wh,ki,ks,nw,tb,ep,bo,ak,tk,tn,gd)=((!kindB 2 1 || nodeB wh)&&((!kindB 2 2 || knowB ks)&&((!kindB 2 3 || newsB nw)&&((!kindB 2 4 || tabB tb)&&((!kindB 2 7 || tickB ak)&&((!kindB 2 8 || nmB tk))))))):=rfl
 rw [hp]
 have kb1:kindB 2 1=true:=rfl
 have kb2:kindB 2 2=false:=rfl
 have kb3:kindB 2 3=true:=rfl
 have kb4:kindB 2 4=false:=rfl
 have kb7:kindB 2 7=false:=rfl
 have kb8:kindB 2 8=false:=rfl
 rw [loopX_eq]
 simp -implicitDefEqProofs only [lts,les,tnn,lnn,nq,nw1,ln1,ln2,ln3,ln4,ln5,List.getElem?_cons_zero,List.getElem?_cons_succ,pa_seq,pa_who,pa_news,kb1,kb2,kb3,kb4,kb7,kb8,eq_self,xs]
 rw [loopX_eq]
 simp -implicitDefEqProofs only [lts,les,tnn,lnn,nq,nw1,ln1,ln2,ln3,ln4,ln5,List.getElem?_cons_zero,List.getElem?_cons_succ,pa_seq,pa_who,pa_news,kb1,kb2,kb3,kb4,kb7,kb8,eq_self,xs]
 cases nodeB wh
 ·simp -implicitDefEqProofs only [eq_self,xs]
 simp -implicitDefEqProofs only [eq_self,xs]
 rw [loopX_eq]
 simp -implicitDefEqProofs only [lts,les,tnn,lnn,nq,nw1,ln1,ln2,ln3,ln4,ln5,List.getElem?_cons_zero,List.getElem?_cons_succ,pa_seq,pa_who,pa_news,kb1,kb2,kb3,kb4,kb7,kb8,eq_self,xs]
 cases newsB nw
 ·simp -implicitDefEqProofs only [eq_self,xs]
 simp -implicitDefEqProofs only [eq_self,xs]
 rw [loopX_eq]
 simp -implicitDefEqProofs only [lts,les,tnn,lnn,nq,nw1,ln1,ln2,ln3,ln4,ln5,List.getElem?_cons_zero,List.getElem?_cons_succ,pa_seq,pa_who,pa_news,kb1,kb2,kb3,kb4,kb7,kb8,eq_self,xs]
theorem check3 {fr to sq wh ki ks ep bo ak tn:Int} {nw:List NW} {tb:List KW} {tk:ByteArray} {gd:Bool} (hw:nw.length≤1000) (ht:tb.length≤1000) (hk:tk.size≤maxLen):F29 (3,fr,to,sq,wh,ki,ks,nw,tb,ep,bo,ak,tk,tn,gd)=some (if msgB (3,fr,to,sq,wh,ki,ks,nw,tb,ep,bo,ak,tk,tn,gd)=true then 0 else 1):=by
 rw [F29_eq]
 have hb:=bare3 (fr:=fr) (to:=to) (sq:=sq) (wh:=wh) (ki:=ki) (ks:=ks) (nw:=nw) (tb:=tb) (ep:=ep) (bo:=bo) (ak:=ak) (tk:=tk) (tn:=tn) (gd:=gd)
 have hbm:bareM (3,fr,to,sq,wh,ki,ks,nw,tb,ep,bo,ak,tk,tn,gd)=(3,fr,to,sq,wh,ki,ks,nw,[],0,0,0,(⟨#[]⟩:ByteArray),0,false):=rfl
 have hs:=same_ok (3,fr,to,sq,wh,ki,ks,nw,tb,ep,bo,ak,tk,tn,gd) (bareM (3,fr,to,sq,wh,ki,ks,nw,tb,ep,bo,ak,tk,tn,gd)) hw ht
 rw [hbm] at hs
 have k1:¬ ((3:Int) < 1):=by decide
 have k2:¬ ((3:Int) > 12):=by decide
 simp -implicitDefEqProofs only [node_ok fr,node_ok to,hb,hs,k1,k2,eq_self,xs]
 unfold msgB
 rw [hbm]
 have kk1:decide ((1:Int)≤3)=true:=rfl
 have kk2:decide ((3:Int)≤12)=true:=rfl
 simp -implicitDefEqProofs only [kk1,kk2,eq_self,xs]
 cases nodeB fr
 ·simp -implicitDefEqProofs only [eq_self,xs]
 cases nodeB to
 ·simp -implicitDefEqProofs only [eq_self,xs]
 cases (fr==to)
 rotate_left
 ·simp -implicitDefEqProofs only [eq_self,xs]
 simp -implicitDefEqProofs only [eq_self,xs]
 generalize sameB _ _=sb
 cases sb
 ·simp -implicitDefEqProofs only [eq_self,xs]
 simp -implicitDefEqProofs only [has3,eq_self,xs]
 have pa_seq:=F86_eq (3,fr,to,sq,wh,ki,ks,nw,tb,ep,bo,ak,tk,tn,gd)
 have pa_who:F95 (3,fr,to,sq,wh,ki,ks,nw,tb,ep,bo,ak,tk,tn,gd)=some (nodeB wh):=by rw [F95_eq]; simp -implicitDefEqProofs only [node_ok wh,eq_self,xs]
 have pa_k:F99 (3,fr,to,sq,wh,ki,ks,nw,tb,ep,bo,ak,tk,tn,gd)=some (knowB ks):=by rw [F99_eq]; simp -implicitDefEqProofs only [know1_ok ki ks,eqq,eq_self,xs]
 have pa_news:F105 (3,fr,to,sq,wh,ki,ks,nw,tb,ep,bo,ak,tk,tn,gd)=some (newsB nw):=news_ok (3,fr,to,sq,wh,ki,ks,nw,tb,ep,bo,ak,tk,tn,gd) hw
 have hp:partsB (3,fr,to,sq,wh,ki,ks,nw,tb,ep,bo,ak,tk,tn,gd)=((!kindB 3 1 || nodeB wh)&&((!kindB 3 2 || knowB ks)&&((!kindB 3 3 || newsB nw)&&((!kindB 3 4 || tabB tb)&&((!kindB 3 7 || tickB ak)&&((!kindB 3 8 || nmB tk))))))):=rfl
 rw [hp]
 have kb1:kindB 3 1=true:=rfl
 have kb2:kindB 3 2=true:=rfl
 have kb3:kindB 3 3=true:=rfl
 have kb4:kindB 3 4=false:=rfl
 have kb7:kindB 3 7=false:=rfl
 have kb8:kindB 3 8=false:=rfl
 rw [loopX_eq]
 simp -implicitDefEqProofs only [lts,les,tnn,lnn,nq,nw1,ln1,ln2,ln3,ln4,ln5,List.getElem?_cons_zero,List.getElem?_cons_succ,pa_seq,pa_who,pa_k,pa_news,kb1,kb2,kb3,kb4,kb7,kb8,eq_self,xs]
 rw [loopX_eq]
 simp -implicitDefEqProofs only [lts,les,tnn,lnn,nq,nw1,ln1,ln2,ln3,ln4,ln5,List.getElem?_cons_zero,List.getElem?_cons_succ,pa_seq,pa_who,pa_k,pa_news,kb1,kb2,kb3,kb4,kb7,kb8,eq_self,xs]
 cases nodeB wh
 ·simp -implicitDefEqProofs only [eq_self,xs]
 simp -implicitDefEqProofs only [eq_self,xs]
 rw [loopX_eq]
 simp -implicitDefEqProofs only [lts,les,tnn,lnn,nq,nw1,ln1,ln2,ln3,ln4,ln5,List.getElem?_cons_zero,List.getElem?_cons_succ,pa_seq,pa_who,pa_k,pa_news,kb1,kb2,kb3,kb4,kb7,kb8,eq_self,xs]
 cases knowB ks
 ·simp -implicitDefEqProofs only [eq_self,xs]
 simp -implicitDefEqProofs only [eq_self,xs]
 rw [loopX_eq]
 simp -implicitDefEqProofs only [lts,les,tnn,lnn,nq,nw1,ln1,ln2,ln3,ln4,ln5,List.getElem?_cons_zero,List.getElem?_cons_succ,pa_seq,pa_who,pa_k,pa_news,kb1,kb2,kb3,kb4,kb7,kb8,eq_self,xs]
 cases newsB nw
 ·simp -implicitDefEqProofs only [eq_self,xs]
 simp -implicitDefEqProofs only [eq_self,xs]
 rw [loopX_eq]
 simp -implicitDefEqProofs only [lts,les,tnn,lnn,nq,nw1,ln1,ln2,ln3,ln4,ln5,List.getElem?_cons_zero,List.getElem?_cons_succ,pa_seq,pa_who,pa_k,pa_news,kb1,kb2,kb3,kb4,kb7,kb8,eq_self,xs]
theorem check4 {fr to sq wh ki ks ep bo ak tn:Int} {nw:List NW} {tb:List KW} {tk:ByteArray} {gd:Bool} (hw:nw.length≤1000) (ht:tb.length≤1000) (hk:tk.size≤maxLen):F29 (4,fr,to,sq,wh,ki,ks,nw,tb,ep,bo,ak,tk,tn,gd)=some (if msgB (4,fr,to,sq,wh,ki,ks,nw,tb,ep,bo,ak,tk,tn,gd)=true then 0 else 1):=by
 rw [F29_eq]
 have hb:=bare4 (fr:=fr) (to:=to) (sq:=sq) (wh:=wh) (ki:=ki) (ks:=ks) (nw:=nw) (tb:=tb) (ep:=ep) (bo:=bo) (ak:=ak) (tk:=tk) (tn:=tn) (gd:=gd)
 have hbm:bareM (4,fr,to,sq,wh,ki,ks,nw,tb,ep,bo,ak,tk,tn,gd)=(4,fr,to,sq,wh,0,0,[],[],0,0,0,(⟨#[]⟩:ByteArray),0,false):=rfl
 have hs:=same_ok (4,fr,to,sq,wh,ki,ks,nw,tb,ep,bo,ak,tk,tn,gd) (bareM (4,fr,to,sq,wh,ki,ks,nw,tb,ep,bo,ak,tk,tn,gd)) hw ht
 rw [hbm] at hs
 have k1:¬ ((4:Int) < 1):=by decide
 have k2:¬ ((4:Int) > 12):=by decide
 simp -implicitDefEqProofs only [node_ok fr,node_ok to,hb,hs,k1,k2,eq_self,xs]
 unfold msgB
 rw [hbm]
 have kk1:decide ((1:Int)≤4)=true:=rfl
 have kk2:decide ((4:Int)≤12)=true:=rfl
 simp -implicitDefEqProofs only [kk1,kk2,eq_self,xs]
 cases nodeB fr
 ·simp -implicitDefEqProofs only [eq_self,xs]
 cases nodeB to
 ·simp -implicitDefEqProofs only [eq_self,xs]
 cases (fr==to)
 rotate_left
 ·simp -implicitDefEqProofs only [eq_self,xs]
 simp -implicitDefEqProofs only [eq_self,xs]
 generalize sameB _ _=sb
 cases sb
 ·simp -implicitDefEqProofs only [eq_self,xs]
 simp -implicitDefEqProofs only [has4,eq_self,xs]
 have pa_seq:=F86_eq (4,fr,to,sq,wh,ki,ks,nw,tb,ep,bo,ak,tk,tn,gd)
 have pa_who:F95 (4,fr,to,sq,wh,ki,ks,nw,tb,ep,bo,ak,tk,tn,gd)=some (nodeB wh):=by rw [F95_eq]; simp -implicitDefEqProofs only [node_ok wh,eq_self,xs]
 have hp:partsB (4,fr,to,sq,wh,ki,ks,nw,tb,ep,bo,ak,tk,tn,gd)=((!kindB 4 1 || nodeB wh)&&((!kindB 4 2 || knowB ks)&&((!kindB 4 3 || newsB nw)&&((!kindB 4 4 || tabB tb)&&((!kindB 4 7 || tickB ak)&&((!kindB 4 8 || nmB tk))))))):=rfl
 rw [hp]
 have kb1:kindB 4 1=true:=rfl
 have kb2:kindB 4 2=false:=rfl
 have kb3:kindB 4 3=false:=rfl
 have kb4:kindB 4 4=false:=rfl
 have kb7:kindB 4 7=false:=rfl
 have kb8:kindB 4 8=false:=rfl
 rw [loopX_eq]
 simp -implicitDefEqProofs only [lts,les,tnn,lnn,nq,nw1,ln1,ln2,ln3,ln4,ln5,List.getElem?_cons_zero,List.getElem?_cons_succ,pa_seq,pa_who,kb1,kb2,kb3,kb4,kb7,kb8,eq_self,xs]
 rw [loopX_eq]
 simp -implicitDefEqProofs only [lts,les,tnn,lnn,nq,nw1,ln1,ln2,ln3,ln4,ln5,List.getElem?_cons_zero,List.getElem?_cons_succ,pa_seq,pa_who,kb1,kb2,kb3,kb4,kb7,kb8,eq_self,xs]
 cases nodeB wh
 ·simp -implicitDefEqProofs only [eq_self,xs]
 simp -implicitDefEqProofs only [eq_self,xs]
 rw [loopX_eq]
 simp -implicitDefEqProofs only [lts,les,tnn,lnn,nq,nw1,ln1,ln2,ln3,ln4,ln5,List.getElem?_cons_zero,List.getElem?_cons_succ,pa_seq,pa_who,kb1,kb2,kb3,kb4,kb7,kb8,eq_self,xs]
theorem check5 {fr to sq wh ki ks ep bo ak tn:Int} {nw:List NW} {tb:List KW} {tk:ByteArray} {gd:Bool} (hw:nw.length≤1000) (ht:tb.length≤1000) (hk:tk.size≤maxLen):F29 (5,fr,to,sq,wh,ki,ks,nw,tb,ep,bo,ak,tk,tn,gd)=some (if msgB (5,fr,to,sq,wh,ki,ks,nw,tb,ep,bo,ak,tk,tn,gd)=true then 0 else 1):=by
 rw [F29_eq]
 have hb:=bare5 (fr:=fr) (to:=to) (sq:=sq) (wh:=wh) (ki:=ki) (ks:=ks) (nw:=nw) (tb:=tb) (ep:=ep) (bo:=bo) (ak:=ak) (tk:=tk) (tn:=tn) (gd:=gd)
 have hbm:bareM (5,fr,to,sq,wh,ki,ks,nw,tb,ep,bo,ak,tk,tn,gd)=(5,fr,to,0,0,0,0,[],tb,0,0,0,(⟨#[]⟩:ByteArray),0,false):=rfl
 have hs:=same_ok (5,fr,to,sq,wh,ki,ks,nw,tb,ep,bo,ak,tk,tn,gd) (bareM (5,fr,to,sq,wh,ki,ks,nw,tb,ep,bo,ak,tk,tn,gd)) hw ht
 rw [hbm] at hs
 have k1:¬ ((5:Int) < 1):=by decide
 have k2:¬ ((5:Int) > 12):=by decide
 simp -implicitDefEqProofs only [node_ok fr,node_ok to,hb,hs,k1,k2,eq_self,xs]
 unfold msgB
 rw [hbm]
 have kk1:decide ((1:Int)≤5)=true:=rfl
 have kk2:decide ((5:Int)≤12)=true:=rfl
 simp -implicitDefEqProofs only [kk1,kk2,eq_self,xs]
 cases nodeB fr
 ·simp -implicitDefEqProofs only [eq_self,xs]
 cases nodeB to
 ·simp -implicitDefEqProofs only [eq_self,xs]
 cases (fr==to)
 rotate_left
 ·simp -implicitDefEqProofs only [eq_self,xs]
 simp -implicitDefEqProofs only [eq_self,xs]
 generalize sameB _ _=sb
 cases sb
 ·simp -implicitDefEqProofs only [eq_self,xs]
 simp -implicitDefEqProofs only [has5,eq_self,xs]
 have pa_table:F108 (5,fr,to,sq,wh,ki,ks,nw,tb,ep,bo,ak,tk,tn,gd)=some (tabB tb):=by rw [F108_eq]; simp -implicitDefEqProofs only [tab_ok tb ht,eqq,eq_self,xs]
 have hp:partsB (5,fr,to,sq,wh,ki,ks,nw,tb,ep,bo,ak,tk,tn,gd)=((!kindB 5 1 || nodeB wh)&&((!kindB 5 2 || knowB ks)&&((!kindB 5 3 || newsB nw)&&((!kindB 5 4 || tabB tb)&&((!kindB 5 7 || tickB ak)&&((!kindB 5 8 || nmB tk))))))):=rfl
 rw [hp]
 have kb1:kindB 5 1=false:=rfl
 have kb2:kindB 5 2=false:=rfl
 have kb3:kindB 5 3=false:=rfl
 have kb4:kindB 5 4=true:=rfl
 have kb7:kindB 5 7=false:=rfl
 have kb8:kindB 5 8=false:=rfl
 rw [loopX_eq]
 simp -implicitDefEqProofs only [lts,les,tnn,lnn,nq,nw1,ln1,ln2,ln3,ln4,ln5,List.getElem?_cons_zero,List.getElem?_cons_succ,pa_table,kb1,kb2,kb3,kb4,kb7,kb8,eq_self,xs]
 cases tabB tb
 ·simp -implicitDefEqProofs only [eq_self,xs]
 simp -implicitDefEqProofs only [eq_self,xs]
 rw [loopX_eq]
 simp -implicitDefEqProofs only [lts,les,tnn,lnn,nq,nw1,ln1,ln2,ln3,ln4,ln5,List.getElem?_cons_zero,List.getElem?_cons_succ,pa_table,kb1,kb2,kb3,kb4,kb7,kb8,eq_self,xs]
theorem check6 {fr to sq wh ki ks ep bo ak tn:Int} {nw:List NW} {tb:List KW} {tk:ByteArray} {gd:Bool} (hw:nw.length≤1000) (ht:tb.length≤1000) (hk:tk.size≤maxLen):F29 (6,fr,to,sq,wh,ki,ks,nw,tb,ep,bo,ak,tk,tn,gd)=some (if msgB (6,fr,to,sq,wh,ki,ks,nw,tb,ep,bo,ak,tk,tn,gd)=true then 0 else 1):=by
 rw [F29_eq]
 have hb:=bare6 (fr:=fr) (to:=to) (sq:=sq) (wh:=wh) (ki:=ki) (ks:=ks) (nw:=nw) (tb:=tb) (ep:=ep) (bo:=bo) (ak:=ak) (tk:=tk) (tn:=tn) (gd:=gd)
 have hbm:bareM (6,fr,to,sq,wh,ki,ks,nw,tb,ep,bo,ak,tk,tn,gd)=(6,fr,to,0,0,0,0,[],tb,0,0,0,(⟨#[]⟩:ByteArray),0,false):=rfl
 have hs:=same_ok (6,fr,to,sq,wh,ki,ks,nw,tb,ep,bo,ak,tk,tn,gd) (bareM (6,fr,to,sq,wh,ki,ks,nw,tb,ep,bo,ak,tk,tn,gd)) hw ht
 rw [hbm] at hs
 have k1:¬ ((6:Int) < 1):=by decide
 have k2:¬ ((6:Int) > 12):=by decide
 simp -implicitDefEqProofs only [node_ok fr,node_ok to,hb,hs,k1,k2,eq_self,xs]
 unfold msgB
 rw [hbm]
 have kk1:decide ((1:Int)≤6)=true:=rfl
 have kk2:decide ((6:Int)≤12)=true:=rfl
 simp -implicitDefEqProofs only [kk1,kk2,eq_self,xs]
 cases nodeB fr
 ·simp -implicitDefEqProofs only [eq_self,xs]
 cases nodeB to
 ·simp -implicitDefEqProofs only [eq_self,xs]
 cases (fr==to)
 rotate_left
 ·simp -implicitDefEqProofs only [eq_self,xs]
 simp -implicitDefEqProofs only [eq_self,xs]
 generalize sameB _ _=sb
 cases sb
 ·simp -implicitDefEqProofs only [eq_self,xs]
 simp -implicitDefEqProofs only [has6,eq_self,xs]
 have pa_table:F108 (6,fr,to,sq,wh,ki,ks,nw,tb,ep,bo,ak,tk,tn,gd)=some (tabB tb):=by rw [F108_eq]; simp -implicitDefEqProofs only [tab_ok tb ht,eqq,eq_self,xs]
 have hp:partsB (6,fr,to,sq,wh,ki,ks,nw,tb,ep,bo,ak,tk,tn,gd)=((!kindB 6 1 || nodeB wh)&&((!kindB 6 2 || knowB ks)&&((!kindB 6 3 || newsB nw)&&((!kindB 6 4 || tabB tb)&&((!kindB 6 7 || tickB ak)&&((!kindB 6 8 || nmB tk))))))):=rfl
 rw [hp]
 have kb1:kindB 6 1=false:=rfl
 have kb2:kindB 6 2=false:=rfl
 have kb3:kindB 6 3=false:=rfl
 have kb4:kindB 6 4=true:=rfl
 have kb7:kindB 6 7=false:=rfl
 have kb8:kindB 6 8=false:=rfl
 rw [loopX_eq]
 simp -implicitDefEqProofs only [lts,les,tnn,lnn,nq,nw1,ln1,ln2,ln3,ln4,ln5,List.getElem?_cons_zero,List.getElem?_cons_succ,pa_table,kb1,kb2,kb3,kb4,kb7,kb8,eq_self,xs]
 cases tabB tb
 ·simp -implicitDefEqProofs only [eq_self,xs]
 simp -implicitDefEqProofs only [eq_self,xs]
 rw [loopX_eq]
 simp -implicitDefEqProofs only [lts,les,tnn,lnn,nq,nw1,ln1,ln2,ln3,ln4,ln5,List.getElem?_cons_zero,List.getElem?_cons_succ,pa_table,kb1,kb2,kb3,kb4,kb7,kb8,eq_self,xs]
theorem check7 {fr to sq wh ki ks ep bo ak tn:Int} {nw:List NW} {tb:List KW} {tk:ByteArray} {gd:Bool} (hw:nw.length≤1000) (ht:tb.length≤1000) (hk:tk.size≤maxLen):F29 (7,fr,to,sq,wh,ki,ks,nw,tb,ep,bo,ak,tk,tn,gd)=some (if msgB (7,fr,to,sq,wh,ki,ks,nw,tb,ep,bo,ak,tk,tn,gd)=true then 0 else 1):=by
 rw [F29_eq]
 have hb:=bare7 (fr:=fr) (to:=to) (sq:=sq) (wh:=wh) (ki:=ki) (ks:=ks) (nw:=nw) (tb:=tb) (ep:=ep) (bo:=bo) (ak:=ak) (tk:=tk) (tn:=tn) (gd:=gd)
 have hbm:bareM (7,fr,to,sq,wh,ki,ks,nw,tb,ep,bo,ak,tk,tn,gd)=(7,fr,to,0,0,0,0,[],[],ep,bo,ak,(⟨#[]⟩:ByteArray),0,false):=rfl
 have hs:=same_ok (7,fr,to,sq,wh,ki,ks,nw,tb,ep,bo,ak,tk,tn,gd) (bareM (7,fr,to,sq,wh,ki,ks,nw,tb,ep,bo,ak,tk,tn,gd)) hw ht
 rw [hbm] at hs
 have k1:¬ ((7:Int) < 1):=by decide
 have k2:¬ ((7:Int) > 12):=by decide
 simp -implicitDefEqProofs only [node_ok fr,node_ok to,hb,hs,k1,k2,eq_self,xs]
 unfold msgB
 rw [hbm]
 have kk1:decide ((1:Int)≤7)=true:=rfl
 have kk2:decide ((7:Int)≤12)=true:=rfl
 simp -implicitDefEqProofs only [kk1,kk2,eq_self,xs]
 cases nodeB fr
 ·simp -implicitDefEqProofs only [eq_self,xs]
 cases nodeB to
 ·simp -implicitDefEqProofs only [eq_self,xs]
 cases (fr==to)
 rotate_left
 ·simp -implicitDefEqProofs only [eq_self,xs]
 simp -implicitDefEqProofs only [eq_self,xs]
 generalize sameB _ _=sb
 cases sb
 ·simp -implicitDefEqProofs only [eq_self,xs]
 simp -implicitDefEqProofs only [has7,eq_self,xs]
 have pa_epoch:=F86_eq (7,fr,to,sq,wh,ki,ks,nw,tb,ep,bo,ak,tk,tn,gd)
 have pa_boot:=F86_eq (7,fr,to,sq,wh,ki,ks,nw,tb,ep,bo,ak,tk,tn,gd)
 have pa_asked:F113 (7,fr,to,sq,wh,ki,ks,nw,tb,ep,bo,ak,tk,tn,gd)=some (tickB ak):=by rw [F113_eq]; exact c1 (decide (0≤ak)) (decide (ak≤1099511627776))
 have hp:partsB (7,fr,to,sq,wh,ki,ks,nw,tb,ep,bo,ak,tk,tn,gd)=((!kindB 7 1 || nodeB wh)&&((!kindB 7 2 || knowB ks)&&((!kindB 7 3 || newsB nw)&&((!kindB 7 4 || tabB tb)&&((!kindB 7 7 || tickB ak)&&((!kindB 7 8 || nmB tk))))))):=rfl
 rw [hp]
 have kb1:kindB 7 1=false:=rfl
 have kb2:kindB 7 2=false:=rfl
 have kb3:kindB 7 3=false:=rfl
 have kb4:kindB 7 4=false:=rfl
 have kb7:kindB 7 7=true:=rfl
 have kb8:kindB 7 8=false:=rfl
 rw [loopX_eq]
 simp -implicitDefEqProofs only [lts,les,tnn,lnn,nq,nw1,ln1,ln2,ln3,ln4,ln5,List.getElem?_cons_zero,List.getElem?_cons_succ,pa_epoch,pa_boot,pa_asked,kb1,kb2,kb3,kb4,kb7,kb8,eq_self,xs]
 rw [loopX_eq]
 simp -implicitDefEqProofs only [lts,les,tnn,lnn,nq,nw1,ln1,ln2,ln3,ln4,ln5,List.getElem?_cons_zero,List.getElem?_cons_succ,pa_epoch,pa_boot,pa_asked,kb1,kb2,kb3,kb4,kb7,kb8,eq_self,xs]
 rw [loopX_eq]
 simp -implicitDefEqProofs only [lts,les,tnn,lnn,nq,nw1,ln1,ln2,ln3,ln4,ln5,List.getElem?_cons_zero,List.getElem?_cons_succ,pa_epoch,pa_boot,pa_asked,kb1,kb2,kb3,kb4,kb7,kb8,eq_self,xs]
 cases tickB ak
 ·simp -implicitDefEqProofs only [eq_self,xs]
 simp -implicitDefEqProofs only [eq_self,xs]
 rw [loopX_eq]
 simp -implicitDefEqProofs only [lts,les,tnn,lnn,nq,nw1,ln1,ln2,ln3,ln4,ln5,List.getElem?_cons_zero,List.getElem?_cons_succ,pa_epoch,pa_boot,pa_asked,kb1,kb2,kb3,kb4,kb7,kb8,eq_self,xs]
theorem check8 {fr to sq wh ki ks ep bo ak tn:Int} {nw:List NW} {tb:List KW} {tk:ByteArray} {gd:Bool} (hw:nw.length≤1000) (ht:tb.length≤1000) (hk:tk.size≤maxLen):F29 (8,fr,to,sq,wh,ki,ks,nw,tb,ep,bo,ak,tk,tn,gd)=some (if msgB (8,fr,to,sq,wh,ki,ks,nw,tb,ep,bo,ak,tk,tn,gd)=true then 0 else 1):=by
 rw [F29_eq]
 have hb:=bare8 (fr:=fr) (to:=to) (sq:=sq) (wh:=wh) (ki:=ki) (ks:=ks) (nw:=nw) (tb:=tb) (ep:=ep) (bo:=bo) (ak:=ak) (tk:=tk) (tn:=tn) (gd:=gd)
 have hbm:bareM (8,fr,to,sq,wh,ki,ks,nw,tb,ep,bo,ak,tk,tn,gd)=(8,fr,to,0,0,0,0,[],[],ep,bo,ak,(⟨#[]⟩:ByteArray),0,false):=rfl
 have hs:=same_ok (8,fr,to,sq,wh,ki,ks,nw,tb,ep,bo,ak,tk,tn,gd) (bareM (8,fr,to,sq,wh,ki,ks,nw,tb,ep,bo,ak,tk,tn,gd)) hw ht
 rw [hbm] at hs
 have k1:¬ ((8:Int) < 1):=by decide
 have k2:¬ ((8:Int) > 12):=by decide
 simp -implicitDefEqProofs only [node_ok fr,node_ok to,hb,hs,k1,k2,eq_self,xs]
 unfold msgB
 rw [hbm]
 have kk1:decide ((1:Int)≤8)=true:=rfl
 have kk2:decide ((8:Int)≤12)=true:=rfl
 simp -implicitDefEqProofs only [kk1,kk2,eq_self,xs]
 cases nodeB fr
 ·simp -implicitDefEqProofs only [eq_self,xs]
 cases nodeB to
 ·simp -implicitDefEqProofs only [eq_self,xs]
 cases (fr==to)
 rotate_left
 ·simp -implicitDefEqProofs only [eq_self,xs]
 simp -implicitDefEqProofs only [eq_self,xs]
 generalize sameB _ _=sb
 cases sb
 ·simp -implicitDefEqProofs only [eq_self,xs]
 simp -implicitDefEqProofs only [has8,eq_self,xs]
 have pa_epoch:=F86_eq (8,fr,to,sq,wh,ki,ks,nw,tb,ep,bo,ak,tk,tn,gd)
 have pa_boot:=F86_eq (8,fr,to,sq,wh,ki,ks,nw,tb,ep,bo,ak,tk,tn,gd)
 have pa_asked:F113 (8,fr,to,sq,wh,ki,ks,nw,tb,ep,bo,ak,tk,tn,gd)=some (tickB ak):=by rw [F113_eq]; exact c1 (decide (0≤ak)) (decide (ak≤1099511627776))
 have hp:partsB (8,fr,to,sq,wh,ki,ks,nw,tb,ep,bo,ak,tk,tn,gd)=((!kindB 8 1 || nodeB wh)&&((!kindB 8 2 || knowB ks)&&((!kindB 8 3 || newsB nw)&&((!kindB 8 4 || tabB tb)&&((!kindB 8 7 || tickB ak)&&((!kindB 8 8 || nmB tk))))))):=rfl
 rw [hp]
 have kb1:kindB 8 1=false:=rfl
 have kb2:kindB 8 2=false:=rfl
 have kb3:kindB 8 3=false:=rfl
 have kb4:kindB 8 4=false:=rfl
 have kb7:kindB 8 7=true:=rfl
 have kb8:kindB 8 8=false:=rfl
 rw [loopX_eq]
 simp -implicitDefEqProofs only [lts,les,tnn,lnn,nq,nw1,ln1,ln2,ln3,ln4,ln5,List.getElem?_cons_zero,List.getElem?_cons_succ,pa_epoch,pa_boot,pa_asked,kb1,kb2,kb3,kb4,kb7,kb8,eq_self,xs]
 rw [loopX_eq]
 simp -implicitDefEqProofs only [lts,les,tnn,lnn,nq,nw1,ln1,ln2,ln3,ln4,ln5,List.getElem?_cons_zero,List.getElem?_cons_succ,pa_epoch,pa_boot,pa_asked,kb1,kb2,kb3,kb4,kb7,kb8,eq_self,xs]
 rw [loopX_eq]
 simp -implicitDefEqProofs only [lts,les,tnn,lnn,nq,nw1,ln1,ln2,ln3,ln4,ln5,List.getElem?_cons_zero,List.getElem?_cons_succ,pa_epoch,pa_boot,pa_asked,kb1,kb2,kb3,kb4,kb7,kb8,eq_self,xs]
 cases tickB ak
 ·simp -implicitDefEqProofs only [eq_self,xs]
 simp -implicitDefEqProofs only [eq_self,xs]
 rw [loopX_eq]
 simp -implicitDefEqProofs only [lts,les,tnn,lnn,nq,nw1,ln1,ln2,ln3,ln4,ln5,List.getElem?_cons_zero,List.getElem?_cons_succ,pa_epoch,pa_boot,pa_asked,kb1,kb2,kb3,kb4,kb7,kb8,eq_self,xs]
theorem check9 {fr to sq wh ki ks ep bo ak tn:Int} {nw:List NW} {tb:List KW} {tk:ByteArray} {gd:Bool} (hw:nw.length≤1000) (ht:tb.length≤1000) (hk:tk.size≤maxLen):F29 (9,fr,to,sq,wh,ki,ks,nw,tb,ep,bo,ak,tk,tn,gd)=some (if msgB (9,fr,to,sq,wh,ki,ks,nw,tb,ep,bo,ak,tk,tn,gd)=true then 0 else 1):=by
 rw [F29_eq]
 have hb:=bare9 (fr:=fr) (to:=to) (sq:=sq) (wh:=wh) (ki:=ki) (ks:=ks) (nw:=nw) (tb:=tb) (ep:=ep) (bo:=bo) (ak:=ak) (tk:=tk) (tn:=tn) (gd:=gd)
 have hbm:bareM (9,fr,to,sq,wh,ki,ks,nw,tb,ep,bo,ak,tk,tn,gd)=(9,fr,to,0,0,0,0,[],[],ep,bo,0,(⟨#[]⟩:ByteArray),0,false):=rfl
 have hs:=same_ok (9,fr,to,sq,wh,ki,ks,nw,tb,ep,bo,ak,tk,tn,gd) (bareM (9,fr,to,sq,wh,ki,ks,nw,tb,ep,bo,ak,tk,tn,gd)) hw ht
 rw [hbm] at hs
 have k1:¬ ((9:Int) < 1):=by decide
 have k2:¬ ((9:Int) > 12):=by decide
 simp -implicitDefEqProofs only [node_ok fr,node_ok to,hb,hs,k1,k2,eq_self,xs]
 unfold msgB
 rw [hbm]
 have kk1:decide ((1:Int)≤9)=true:=rfl
 have kk2:decide ((9:Int)≤12)=true:=rfl
 simp -implicitDefEqProofs only [kk1,kk2,eq_self,xs]
 cases nodeB fr
 ·simp -implicitDefEqProofs only [eq_self,xs]
 cases nodeB to
 ·simp -implicitDefEqProofs only [eq_self,xs]
 cases (fr==to)
 rotate_left
 ·simp -implicitDefEqProofs only [eq_self,xs]
 simp -implicitDefEqProofs only [eq_self,xs]
 generalize sameB _ _=sb
 cases sb
 ·simp -implicitDefEqProofs only [eq_self,xs]
 simp -implicitDefEqProofs only [has9,eq_self,xs]
 have pa_epoch:=F86_eq (9,fr,to,sq,wh,ki,ks,nw,tb,ep,bo,ak,tk,tn,gd)
 have pa_boot:=F86_eq (9,fr,to,sq,wh,ki,ks,nw,tb,ep,bo,ak,tk,tn,gd)
 have hp:partsB (9,fr,to,sq,wh,ki,ks,nw,tb,ep,bo,ak,tk,tn,gd)=((!kindB 9 1 || nodeB wh)&&((!kindB 9 2 || knowB ks)&&((!kindB 9 3 || newsB nw)&&((!kindB 9 4 || tabB tb)&&((!kindB 9 7 || tickB ak)&&((!kindB 9 8 || nmB tk))))))):=rfl
 rw [hp]
 have kb1:kindB 9 1=false:=rfl
 have kb2:kindB 9 2=false:=rfl
 have kb3:kindB 9 3=false:=rfl
 have kb4:kindB 9 4=false:=rfl
 have kb7:kindB 9 7=false:=rfl
 have kb8:kindB 9 8=false:=rfl
 rw [loopX_eq]
 simp -implicitDefEqProofs only [lts,les,tnn,lnn,nq,nw1,ln1,ln2,ln3,ln4,ln5,List.getElem?_cons_zero,List.getElem?_cons_succ,pa_epoch,pa_boot,kb1,kb2,kb3,kb4,kb7,kb8,eq_self,xs]
 rw [loopX_eq]
 simp -implicitDefEqProofs only [lts,les,tnn,lnn,nq,nw1,ln1,ln2,ln3,ln4,ln5,List.getElem?_cons_zero,List.getElem?_cons_succ,pa_epoch,pa_boot,kb1,kb2,kb3,kb4,kb7,kb8,eq_self,xs]
 rw [loopX_eq]
 simp -implicitDefEqProofs only [lts,les,tnn,lnn,nq,nw1,ln1,ln2,ln3,ln4,ln5,List.getElem?_cons_zero,List.getElem?_cons_succ,pa_epoch,pa_boot,kb1,kb2,kb3,kb4,kb7,kb8,eq_self,xs]
theorem check10 {fr to sq wh ki ks ep bo ak tn:Int} {nw:List NW} {tb:List KW} {tk:ByteArray} {gd:Bool} (hw:nw.length≤1000) (ht:tb.length≤1000) (hk:tk.size≤maxLen):F29 (10,fr,to,sq,wh,ki,ks,nw,tb,ep,bo,ak,tk,tn,gd)=some (if msgB (10,fr,to,sq,wh,ki,ks,nw,tb,ep,bo,ak,tk,tn,gd)=true then 0 else 1):=by
 rw [F29_eq]
 have hb:=bare10 (fr:=fr) (to:=to) (sq:=sq) (wh:=wh) (ki:=ki) (ks:=ks) (nw:=nw) (tb:=tb) (ep:=ep) (bo:=bo) (ak:=ak) (tk:=tk) (tn:=tn) (gd:=gd)
 have hbm:bareM (10,fr,to,sq,wh,ki,ks,nw,tb,ep,bo,ak,tk,tn,gd)=(10,fr,to,0,0,0,0,[],[],0,bo,ak,(⟨#[]⟩:ByteArray),0,false):=rfl
 have hs:=same_ok (10,fr,to,sq,wh,ki,ks,nw,tb,ep,bo,ak,tk,tn,gd) (bareM (10,fr,to,sq,wh,ki,ks,nw,tb,ep,bo,ak,tk,tn,gd)) hw ht
 rw [hbm] at hs
 have k1:¬ ((10:Int) < 1):=by decide
 have k2:¬ ((10:Int) > 12):=by decide
 simp -implicitDefEqProofs only [node_ok fr,node_ok to,hb,hs,k1,k2,eq_self,xs]
 unfold msgB
 rw [hbm]
 have kk1:decide ((1:Int)≤10)=true:=rfl
 have kk2:decide ((10:Int)≤12)=true:=rfl
 simp -implicitDefEqProofs only [kk1,kk2,eq_self,xs]
 cases nodeB fr
 ·simp -implicitDefEqProofs only [eq_self,xs]
 cases nodeB to
 ·simp -implicitDefEqProofs only [eq_self,xs]
 cases (fr==to)
 rotate_left
 ·simp -implicitDefEqProofs only [eq_self,xs]
 simp -implicitDefEqProofs only [eq_self,xs]
 generalize sameB _ _=sb
 cases sb
 ·simp -implicitDefEqProofs only [eq_self,xs]
 simp -implicitDefEqProofs only [has10,eq_self,xs]
 have pa_boot:=F86_eq (10,fr,to,sq,wh,ki,ks,nw,tb,ep,bo,ak,tk,tn,gd)
 have pa_asked:F113 (10,fr,to,sq,wh,ki,ks,nw,tb,ep,bo,ak,tk,tn,gd)=some (tickB ak):=by rw [F113_eq]; exact c1 (decide (0≤ak)) (decide (ak≤1099511627776))
 have hp:partsB (10,fr,to,sq,wh,ki,ks,nw,tb,ep,bo,ak,tk,tn,gd)=((!kindB 10 1 || nodeB wh)&&((!kindB 10 2 || knowB ks)&&((!kindB 10 3 || newsB nw)&&((!kindB 10 4 || tabB tb)&&((!kindB 10 7 || tickB ak)&&((!kindB 10 8 || nmB tk))))))):=rfl
 rw [hp]
 have kb1:kindB 10 1=false:=rfl
 have kb2:kindB 10 2=false:=rfl
 have kb3:kindB 10 3=false:=rfl
 have kb4:kindB 10 4=false:=rfl
 have kb7:kindB 10 7=true:=rfl
 have kb8:kindB 10 8=false:=rfl
 rw [loopX_eq]
 simp -implicitDefEqProofs only [lts,les,tnn,lnn,nq,nw1,ln1,ln2,ln3,ln4,ln5,List.getElem?_cons_zero,List.getElem?_cons_succ,pa_boot,pa_asked,kb1,kb2,kb3,kb4,kb7,kb8,eq_self,xs]
 rw [loopX_eq]
 simp -implicitDefEqProofs only [lts,les,tnn,lnn,nq,nw1,ln1,ln2,ln3,ln4,ln5,List.getElem?_cons_zero,List.getElem?_cons_succ,pa_boot,pa_asked,kb1,kb2,kb3,kb4,kb7,kb8,eq_self,xs]
 cases tickB ak
 ·simp -implicitDefEqProofs only [eq_self,xs]
 simp -implicitDefEqProofs only [eq_self,xs]
 rw [loopX_eq]
 simp -implicitDefEqProofs only [lts,les,tnn,lnn,nq,nw1,ln1,ln2,ln3,ln4,ln5,List.getElem?_cons_zero,List.getElem?_cons_succ,pa_boot,pa_asked,kb1,kb2,kb3,kb4,kb7,kb8,eq_self,xs]
theorem check11 {fr to sq wh ki ks ep bo ak tn:Int} {nw:List NW} {tb:List KW} {tk:ByteArray} {gd:Bool} (hw:nw.length≤1000) (ht:tb.length≤1000) (hk:tk.size≤maxLen):F29 (11,fr,to,sq,wh,ki,ks,nw,tb,ep,bo,ak,tk,tn,gd)=some (if msgB (11,fr,to,sq,wh,ki,ks,nw,tb,ep,bo,ak,tk,tn,gd)=true then 0 else 1):=by
 rw [F29_eq]
 have hb:=bare11 (fr:=fr) (to:=to) (sq:=sq) (wh:=wh) (ki:=ki) (ks:=ks) (nw:=nw) (tb:=tb) (ep:=ep) (bo:=bo) (ak:=ak) (tk:=tk) (tn:=tn) (gd:=gd)
 have hbm:bareM (11,fr,to,sq,wh,ki,ks,nw,tb,ep,bo,ak,tk,tn,gd)=(11,fr,to,0,0,0,0,[],[],ep,bo,ak,tk,tn,false):=rfl
 have hs:=same_ok (11,fr,to,sq,wh,ki,ks,nw,tb,ep,bo,ak,tk,tn,gd) (bareM (11,fr,to,sq,wh,ki,ks,nw,tb,ep,bo,ak,tk,tn,gd)) hw ht
 rw [hbm] at hs
 have k1:¬ ((11:Int) < 1):=by decide
 have k2:¬ ((11:Int) > 12):=by decide
 simp -implicitDefEqProofs only [node_ok fr,node_ok to,hb,hs,k1,k2,eq_self,xs]
 unfold msgB
 rw [hbm]
 have kk1:decide ((1:Int)≤11)=true:=rfl
 have kk2:decide ((11:Int)≤12)=true:=rfl
 simp -implicitDefEqProofs only [kk1,kk2,eq_self,xs]
 cases nodeB fr
 ·simp -implicitDefEqProofs only [eq_self,xs]
 cases nodeB to
 ·simp -implicitDefEqProofs only [eq_self,xs]
 cases (fr==to)
 rotate_left
 ·simp -implicitDefEqProofs only [eq_self,xs]
 simp -implicitDefEqProofs only [eq_self,xs]
 generalize sameB _ _=sb
 cases sb
 ·simp -implicitDefEqProofs only [eq_self,xs]
 simp -implicitDefEqProofs only [has11,eq_self,xs]
 have pa_epoch:=F86_eq (11,fr,to,sq,wh,ki,ks,nw,tb,ep,bo,ak,tk,tn,gd)
 have pa_boot:=F86_eq (11,fr,to,sq,wh,ki,ks,nw,tb,ep,bo,ak,tk,tn,gd)
 have pa_asked:F113 (11,fr,to,sq,wh,ki,ks,nw,tb,ep,bo,ak,tk,tn,gd)=some (tickB ak):=by rw [F113_eq]; exact c1 (decide (0≤ak)) (decide (ak≤1099511627776))
 have pa_task:F116 (11,fr,to,sq,wh,ki,ks,nw,tb,ep,bo,ak,tk,tn,gd)=some (nmB tk):=by rw [F116_eq]; simp -implicitDefEqProofs only [F72_ok hk,eq_self,xs]
 have pa_token:=F86_eq (11,fr,to,sq,wh,ki,ks,nw,tb,ep,bo,ak,tk,tn,gd)
 have hp:partsB (11,fr,to,sq,wh,ki,ks,nw,tb,ep,bo,ak,tk,tn,gd)=((!kindB 11 1 || nodeB wh)&&((!kindB 11 2 || knowB ks)&&((!kindB 11 3 || newsB nw)&&((!kindB 11 4 || tabB tb)&&((!kindB 11 7 || tickB ak)&&((!kindB 11 8 || nmB tk))))))):=rfl
 rw [hp]
 have kb1:kindB 11 1=false:=rfl
 have kb2:kindB 11 2=false:=rfl
 have kb3:kindB 11 3=false:=rfl
 have kb4:kindB 11 4=false:=rfl
 have kb7:kindB 11 7=true:=rfl
 have kb8:kindB 11 8=true:=rfl
 rw [loopX_eq]
 simp -implicitDefEqProofs only [lts,les,tnn,lnn,nq,nw1,ln1,ln2,ln3,ln4,ln5,List.getElem?_cons_zero,List.getElem?_cons_succ,pa_epoch,pa_boot,pa_asked,pa_task,pa_token,kb1,kb2,kb3,kb4,kb7,kb8,eq_self,xs]
 rw [loopX_eq]
 simp -implicitDefEqProofs only [lts,les,tnn,lnn,nq,nw1,ln1,ln2,ln3,ln4,ln5,List.getElem?_cons_zero,List.getElem?_cons_succ,pa_epoch,pa_boot,pa_asked,pa_task,pa_token,kb1,kb2,kb3,kb4,kb7,kb8,eq_self,xs]
 rw [loopX_eq]
 simp -implicitDefEqProofs only [lts,les,tnn,lnn,nq,nw1,ln1,ln2,ln3,ln4,ln5,List.getElem?_cons_zero,List.getElem?_cons_succ,pa_epoch,pa_boot,pa_asked,pa_task,pa_token,kb1,kb2,kb3,kb4,kb7,kb8,eq_self,xs]
 cases tickB ak
 ·simp -implicitDefEqProofs only [eq_self,xs]
 simp -implicitDefEqProofs only [eq_self,xs]
 rw [loopX_eq]
 simp -implicitDefEqProofs only [lts,les,tnn,lnn,nq,nw1,ln1,ln2,ln3,ln4,ln5,List.getElem?_cons_zero,List.getElem?_cons_succ,pa_epoch,pa_boot,pa_asked,pa_task,pa_token,kb1,kb2,kb3,kb4,kb7,kb8,eq_self,xs]
 cases nmB tk
 ·simp -implicitDefEqProofs only [eq_self,xs]
 simp -implicitDefEqProofs only [eq_self,xs]
 rw [loopX_eq]
 simp -implicitDefEqProofs only [lts,les,tnn,lnn,nq,nw1,ln1,ln2,ln3,ln4,ln5,List.getElem?_cons_zero,List.getElem?_cons_succ,pa_epoch,pa_boot,pa_asked,pa_task,pa_token,kb1,kb2,kb3,kb4,kb7,kb8,eq_self,xs]
 rw [loopX_eq]
 simp -implicitDefEqProofs only [lts,les,tnn,lnn,nq,nw1,ln1,ln2,ln3,ln4,ln5,List.getElem?_cons_zero,List.getElem?_cons_succ,pa_epoch,pa_boot,pa_asked,pa_task,pa_token,kb1,kb2,kb3,kb4,kb7,kb8,eq_self,xs]
theorem check12 {fr to sq wh ki ks ep bo ak tn:Int} {nw:List NW} {tb:List KW} {tk:ByteArray} {gd:Bool} (hw:nw.length≤1000) (ht:tb.length≤1000) (hk:tk.size≤maxLen):F29 (12,fr,to,sq,wh,ki,ks,nw,tb,ep,bo,ak,tk,tn,gd)=some (if msgB (12,fr,to,sq,wh,ki,ks,nw,tb,ep,bo,ak,tk,tn,gd)=true then 0 else 1):=by
 rw [F29_eq]
 have hb:=bare12 (fr:=fr) (to:=to) (sq:=sq) (wh:=wh) (ki:=ki) (ks:=ks) (nw:=nw) (tb:=tb) (ep:=ep) (bo:=bo) (ak:=ak) (tk:=tk) (tn:=tn) (gd:=gd)
 have hbm:bareM (12,fr,to,sq,wh,ki,ks,nw,tb,ep,bo,ak,tk,tn,gd)=(12,fr,to,0,0,0,0,[],[],0,0,0,tk,tn,gd):=rfl
 have hs:=same_ok (12,fr,to,sq,wh,ki,ks,nw,tb,ep,bo,ak,tk,tn,gd) (bareM (12,fr,to,sq,wh,ki,ks,nw,tb,ep,bo,ak,tk,tn,gd)) hw ht
 rw [hbm] at hs
 have k1:¬ ((12:Int) < 1):=by decide
 have k2:¬ ((12:Int) > 12):=by decide
 simp -implicitDefEqProofs only [node_ok fr,node_ok to,hb,hs,k1,k2,eq_self,xs]
 unfold msgB
 rw [hbm]
 have kk1:decide ((1:Int)≤12)=true:=rfl
 have kk2:decide ((12:Int)≤12)=true:=rfl
 simp -implicitDefEqProofs only [kk1,kk2,eq_self,xs]
 cases nodeB fr
 ·simp -implicitDefEqProofs only [eq_self,xs]
 cases nodeB to
 ·simp -implicitDefEqProofs only [eq_self,xs]
 cases (fr==to)
 rotate_left
 ·simp -implicitDefEqProofs only [eq_self,xs]
 simp -implicitDefEqProofs only [eq_self,xs]
 generalize sameB _ _=sb
 cases sb
 ·simp -implicitDefEqProofs only [eq_self,xs]
 simp -implicitDefEqProofs only [has12,eq_self,xs]
 have pa_task:F116 (12,fr,to,sq,wh,ki,ks,nw,tb,ep,bo,ak,tk,tn,gd)=some (nmB tk):=by rw [F116_eq]; simp -implicitDefEqProofs only [F72_ok hk,eq_self,xs]
 have pa_token:=F86_eq (12,fr,to,sq,wh,ki,ks,nw,tb,ep,bo,ak,tk,tn,gd)
 have pa_good:=F86_eq (12,fr,to,sq,wh,ki,ks,nw,tb,ep,bo,ak,tk,tn,gd)
 have hp:partsB (12,fr,to,sq,wh,ki,ks,nw,tb,ep,bo,ak,tk,tn,gd)=((!kindB 12 1 || nodeB wh)&&((!kindB 12 2 || knowB ks)&&((!kindB 12 3 || newsB nw)&&((!kindB 12 4 || tabB tb)&&((!kindB 12 7 || tickB ak)&&((!kindB 12 8 || nmB tk))))))):=rfl
 rw [hp]
 have kb1:kindB 12 1=false:=rfl
 have kb2:kindB 12 2=false:=rfl
 have kb3:kindB 12 3=false:=rfl
 have kb4:kindB 12 4=false:=rfl
 have kb7:kindB 12 7=false:=rfl
 have kb8:kindB 12 8=true:=rfl
 rw [loopX_eq]
 simp -implicitDefEqProofs only [lts,les,tnn,lnn,nq,nw1,ln1,ln2,ln3,ln4,ln5,List.getElem?_cons_zero,List.getElem?_cons_succ,pa_task,pa_token,pa_good,kb1,kb2,kb3,kb4,kb7,kb8,eq_self,xs]
 cases nmB tk
 ·simp -implicitDefEqProofs only [eq_self,xs]
 simp -implicitDefEqProofs only [eq_self,xs]
 rw [loopX_eq]
 simp -implicitDefEqProofs only [lts,les,tnn,lnn,nq,nw1,ln1,ln2,ln3,ln4,ln5,List.getElem?_cons_zero,List.getElem?_cons_succ,pa_task,pa_token,pa_good,kb1,kb2,kb3,kb4,kb7,kb8,eq_self,xs]
 rw [loopX_eq]
 simp -implicitDefEqProofs only [lts,les,tnn,lnn,nq,nw1,ln1,ln2,ln3,ln4,ln5,List.getElem?_cons_zero,List.getElem?_cons_succ,pa_task,pa_token,pa_good,kb1,kb2,kb3,kb4,kb7,kb8,eq_self,xs]
 rw [loopX_eq]
 simp -implicitDefEqProofs only [lts,les,tnn,lnn,nq,nw1,ln1,ln2,ln3,ln4,ln5,List.getElem?_cons_zero,List.getElem?_cons_succ,pa_task,pa_token,pa_good,kb1,kb2,kb3,kb4,kb7,kb8,eq_self,xs]
theorem check_ok (m:MB) (hw:m.2.2.2.2.2.2.2.1.length≤1000) (ht:m.2.2.2.2.2.2.2.2.1.length≤1000) (hk:m.2.2.2.2.2.2.2.2.2.2.2.2.1.size≤maxLen):F29 m=some (if msgB m=true then 0 else 1):=by
 obtain ⟨k,fr,to,sq,wh,ki,ks,nw,tb,ep,bo,ak,tk,tn,gd⟩:=m
 by_cases k1:k < 1
 ·rw [F29_eq]
  unfold msgB
  have e:decide ((1:Int)≤k)=false:=by rw [decide_eq_false_iff_not]; omega
  simp -implicitDefEqProofs only [k1,e,eq_self,xs]
 by_cases k2:k > 12
 ·rw [F29_eq]
  unfold msgB
  have e:decide (k≤12)=false:=by rw [decide_eq_false_iff_not]; omega
  simp -implicitDefEqProofs only [k1,k2,e,eq_self,xs]
 have hk12:k=1∨k=2∨k=3∨k=4∨k=5∨k=6∨k=7∨k=8∨k=9∨k=10∨k=11∨k=12:=by omega
 rcases hk12 with rfl | rfl | rfl | rfl | rfl | rfl | rfl | rfl | rfl | rfl | rfl | rfl
 ·exact check1 hw ht hk
 ·exact check2 hw ht hk
 ·exact check3 hw ht hk
 ·exact check4 hw ht hk
 ·exact check5 hw ht hk
 ·exact check6 hw ht hk
 ·exact check7 hw ht hk
 ·exact check8 hw ht hk
 ·exact check9 hw ht hk
 ·exact check10 hw ht hk
 ·exact check11 hw ht hk
 ·exact check12 hw ht hk
end Go.Proofs.YthidhledenklhaaGreat.VL
end
section
namespace Go.Proofs.YthidhledenklhaaGreat.VL
open Go
set_option linter.unusedVariables false
set_option linter.unusedSectionVars false
set_option linter.unusedSimpArgs false
set_option maxRecDepth 100000
variable [Val]
theorem F80_ok (D R:Int):F80 (D,R)=some ((decide (0≤D)&&decide (D≤1099511627776))&&(decide (1≤R)&&decide (R≤1099511627776))):=by
 rw [F80_eq]
 show cond (decide (0≤D)) (cond (decide (D≤1099511627776)) (cond (decide (1≤R)) (some (decide (R≤1099511627776))) (some false)) (some false)) (some false)=_
 cases decide (0≤D)<;>cases decide (D≤1099511627776)<;>cases decide (1≤R)<;>rfl
theorem F55_ex (T D R:Int):∃ g e:Int,F55 (T,D,R)=some (g,e)∧(e=0→0≤g∧g≤T+1)∧(e≠0→g=0):=by
 rw [F55_eq]
 by_cases h0:T < 0
 ·simp -implicitDefEqProofs only [h0,eq_self,xs]; exact ⟨_,_,rfl,(fun h=>by cases h),fun _=>rfl⟩
 by_cases h1:T > 1099511627776
 ·simp -implicitDefEqProofs only [h0,h1,eq_self,xs]; exact ⟨_,_,rfl,(fun h=>by cases h),fun _=>rfl⟩
 simp -implicitDefEqProofs only [h0,h1,F80_ok D R,eq_self,xs]
 cases hb:((decide (0≤D)&&decide (D≤1099511627776))&&(decide (1≤R)&&decide (R≤1099511627776)))
 ·simp -implicitDefEqProofs only [eq_self,xs]; exact ⟨_,_,rfl,(fun h=>by cases h),fun _=>rfl⟩
 simp only [Bool.and_eq_true,decide_eq_true_eq] at hb
 have hR:¬ R=0:=by omega
 have hw:IntKind.wrap .i64 (T+1)=T+1:=wi (by omega) (by omega)
 simp -implicitDefEqProofs only [hw,hR,eq_self,xs]
 have key:∀ x:Option Int,(∃ r,x=some r∧(0≤r∧r≤T+1))→∃ g e:Int,(Option.bind x fun v4=>some (v4,(0:Int)))=some (g,e)∧(e=0→0≤g∧g≤T+1)∧(e≠0→g=0):=by
  rintro x ⟨r,rfl,hr⟩
  exact ⟨r,0,rfl,fun _=>hr,fun h=>absurd rfl h⟩
 refine key _ (loop_ex (s:=((0:Int),T+1)) (fun s:Int×Int=>0≤s.1∧s.1≤s.2∧s.2≤T+1) (fun s=>(s.2 - s.1).toNat) _ ?_ ⟨by omega,by show (0:Int)≤T+1; omega,Int.le_refl _⟩)
 rintro ⟨i,j⟩ ⟨g1,g2,g3⟩
 simp only at g1 g2 g3
 by_cases hij:i < j
 ·right
  obtain ⟨a,rfl⟩:∃ a:Nat,i=a:=⟨i.toNat,by omega⟩
  obtain ⟨b,rfl⟩:∃ b:Nat,j=b:=⟨j.toNat,by omega⟩
  have hm:=mid (i:=a) (j:=b) (by omega)
  have hw2:IntKind.wrap .i64 ((((a+b) / 2:Nat):Int)+1)=(((a+b) / 2+1:Nat):Int):=by rw [wi (by omega) (by omega)]; omega
  simp -implicitDefEqProofs only [hij,hm,hw2,eq_self,xs]
  cases (!decide (IntKind.wrap IntKind.i64 (IntKind.wrap IntKind.i64 ((((a+b) / 2:Nat):Int)+D)+IntKind.wrap IntKind.i64 (Int.tdiv (((a+b) / 2:Nat):Int) R)) ≥ T))
  ·exact ⟨_,rfl,⟨by omega,by simp only; omega,by simp only; omega⟩,by simp only; omega⟩
  ·exact ⟨_,rfl,⟨by simp only; omega,by simp only; omega,by omega⟩,by simp only; omega⟩
 ·left
  simp -implicitDefEqProofs only [hij,eq_self,xs]
  exact ⟨_,rfl,g1,by omega⟩
theorem srchG {β:Type} {l:List (ByteArray×β)} (hs:nmO.Srt Prod.fst l) (hl:l.length≤1000) (nm:ByteArray) :
  (Option.bind (Option.bind (loopX (fun (v16:Int×Int)=>(cond (decide (v16.1 < v16.2)) (cond (decide ((0:Int)≤(IntKind.wrap IntKind.i64 (Int.fdiv (IntKind.wrap IntKind.u64 (IntKind.wrap IntKind.i64 (v16.1+v16.2))) (2:Int))))) (Option.bind l[(Int.toNat (IntKind.wrap IntKind.i64 (Int.fdiv (IntKind.wrap IntKind.u64 (IntKind.wrap IntKind.i64 (v16.1+v16.2))) (2:Int))))]? (fun (v17:ByteArray×β)=>(Option.bind (F64 (v17.1,nm)) (fun (v18:Int)=>(cond (decide (v18 < (0:Int))) (some (.inl ((IntKind.wrap IntKind.i64 ((IntKind.wrap IntKind.i64 (Int.fdiv (IntKind.wrap IntKind.u64 (IntKind.wrap IntKind.i64 (v16.1+v16.2))) (2:Int)))+(1:Int))),v16.2))) (some (.inl (v16.1,(IntKind.wrap IntKind.i64 (Int.fdiv (IntKind.wrap IntKind.u64 (IntKind.wrap IntKind.i64 (v16.1+v16.2))) (2:Int))))))))))) none) (some (.inr v16.1)))) ((0:Int),((l.length:Nat):Int)))
   (fun (v19:Int)=>(cond (decide (v19 < ((l.length:Nat):Int))) (cond (decide ((0:Int)≤v19)) (Option.bind l[(Int.toNat v19)]? (fun (v20:ByteArray×β)=>(Option.bind (F64 (v20.1,nm)) (fun (v21:Int)=>(some (v19,(v21==(0:Int)))))))) none) (some (v19,false)))))
   (fun (v22:Int×Bool)=>(some (v22.1,v22.2))))=some (fndJ Prod.fst l nm):=by
 rw [loop_find hs nm rfl]
 rotate_left
 ·intro i hi
  have q:¬ (i:Int) < (i:Int):=by omega
  simp -implicitDefEqProofs only [q,eq_self,xs]
 ·intro i j m x hij hj hm hml hx
  have q1:(i:Int) < (j:Int):=by omega
  have hmid:=mid (i:=i) (j:=j) (by omega)
  rw [← hm] at hmid
  have q3:(0:Int)≤(m:Int):=by omega
  simp -implicitDefEqProofs only [q1,hmid,q3,hx,F64_ok x.1 nm,cmp_lt,w1 (show m≤9223372036854775806 by omega),eq_self,xs]
  rfl
 ·have hp:=KOrd.plc_le (O:=nmO) (key:=Prod.fst) l nm
  have ha:=lkn_at hs nm
  by_cases hq:nmO.plc Prod.fst l nm < l.length
  ·have q1:((nmO.plc Prod.fst l nm:Nat):Int) < ((l.length:Nat):Int):=by omega
   have q2:(0:Int)≤((nmO.plc Prod.fst l nm:Nat):Int):=by omega
   rw [List.getElem?_eq_getElem hq] at ha
   simp only at ha
   simp -implicitDefEqProofs only [q1,q2,List.getElem?_eq_getElem hq,F64_ok (l[nmO.plc Prod.fst l nm]).1 nm,cmp_eq,eq_self,xs]
   unfold fndJ
   rw [ha]
   cases eqN (l[nmO.plc Prod.fst l nm]).1 nm<;>rfl
  ·have q1:¬ ((nmO.plc Prod.fst l nm:Nat):Int) < ((l.length:Nat):Int):=by omega
   simp -implicitDefEqProofs only [q1,eq_self,xs]
   unfold fndJ
   rw [ha,List.getElem?_eq_none (by omega)]
   rfl
theorem srchH {β:Type} {l:List (ByteArray×β)} (hs:nmO.Srt Prod.fst l) (hl:l.length≤1000) (nm:ByteArray) :
  (Option.bind (loopX (fun (v16:Int×Int)=>(cond (decide (v16.1 < v16.2)) (cond (decide ((0:Int)≤(IntKind.wrap IntKind.i64 (Int.fdiv (IntKind.wrap IntKind.u64 (IntKind.wrap IntKind.i64 (v16.1+v16.2))) (2:Int))))) (Option.bind l[(Int.toNat (IntKind.wrap IntKind.i64 (Int.fdiv (IntKind.wrap IntKind.u64 (IntKind.wrap IntKind.i64 (v16.1+v16.2))) (2:Int))))]? (fun (v17:ByteArray×β)=>(Option.bind (F64 (v17.1,nm)) (fun (v18:Int)=>(cond (decide (v18 < (0:Int))) (some (.inl ((IntKind.wrap IntKind.i64 ((IntKind.wrap IntKind.i64 (Int.fdiv (IntKind.wrap IntKind.u64 (IntKind.wrap IntKind.i64 (v16.1+v16.2))) (2:Int)))+(1:Int))),v16.2))) (some (.inl (v16.1,(IntKind.wrap IntKind.i64 (Int.fdiv (IntKind.wrap IntKind.u64 (IntKind.wrap IntKind.i64 (v16.1+v16.2))) (2:Int))))))))))) none) (some (.inr v16.1)))) ((0:Int),((l.length:Nat):Int)))
   (fun (v19:Int)=>(cond (decide (v19 < ((l.length:Nat):Int))) (cond (decide ((0:Int)≤v19)) (Option.bind l[(Int.toNat v19)]? (fun (v20:ByteArray×β)=>(Option.bind (F64 (v20.1,nm)) (fun (v21:Int)=>(some (v19,(v21==(0:Int)))))))) none) (some (v19,false)))))=some (fndJ Prod.fst l nm):=by
 rw [loop_find hs nm rfl]
 rotate_left
 ·intro i hi
  have q:¬ (i:Int) < (i:Int):=by omega
  simp -implicitDefEqProofs only [q,eq_self,xs]
 ·intro i j m x hij hj hm hml hx
  have q1:(i:Int) < (j:Int):=by omega
  have hmid:=mid (i:=i) (j:=j) (by omega)
  rw [← hm] at hmid
  have q3:(0:Int)≤(m:Int):=by omega
  simp -implicitDefEqProofs only [q1,hmid,q3,hx,F64_ok x.1 nm,cmp_lt,w1 (show m≤9223372036854775806 by omega),eq_self,xs]
  rfl
 ·have hp:=KOrd.plc_le (O:=nmO) (key:=Prod.fst) l nm
  have ha:=lkn_at hs nm
  by_cases hq:nmO.plc Prod.fst l nm < l.length
  ·have q1:((nmO.plc Prod.fst l nm:Nat):Int) < ((l.length:Nat):Int):=by omega
   have q2:(0:Int)≤((nmO.plc Prod.fst l nm:Nat):Int):=by omega
   rw [List.getElem?_eq_getElem hq] at ha
   simp only at ha
   simp -implicitDefEqProofs only [q1,q2,List.getElem?_eq_getElem hq,F64_ok (l[nmO.plc Prod.fst l nm]).1 nm,cmp_eq,eq_self,xs]
   unfold fndJ
   rw [ha]
   cases eqN (l[nmO.plc Prod.fst l nm]).1 nm<;>rfl
  ·have q1:¬ ((nmO.plc Prod.fst l nm:Nat):Int) < ((l.length:Nat):Int):=by omega
   simp -implicitDefEqProofs only [q1,eq_self,xs]
   unfold fndJ
   rw [ha,List.getElem?_eq_none (by omega)]
   rfl
theorem copy32 {α:Type} {l:List α} (hl:l.length≤1000):bothX (List.isEmpty l) (some []) (cond ((decide ((((l.length:Nat):Int) * (32:Int))≤(70368744177664:Int)))&&(decide (((l.length:Nat):Int)≤(70368744177664:Int)))) (some l) none)=some l:=by
 have q1:((l.length:Nat):Int) * 32≤70368744177664:=by omega
 have q2:((l.length:Nat):Int)≤70368744177664:=by omega
 have e:cond ((decide ((((l.length:Nat):Int) * (32:Int))≤(70368744177664:Int)))&&(decide (((l.length:Nat):Int)≤(70368744177664:Int)))) (some l) none=some l:=by simp -implicitDefEqProofs only [q1,q2,eq_self,xs]
 rw [e,bothX_eq (fun h=>?_)]
 rw [List.isEmpty_iff] at h; rw [h]
theorem ins_put {β:Type} {l:List (ByteArray×β)} (hs:nmO.Srt Prod.fst l) {x:ByteArray×β} (h:lkn Prod.fst l x.1=none):insL l [x] ((nmO.plc Prod.fst l x.1:Nat):Int)=nmO.put Prod.fst l x:=by
 rw [← KOrd.put_ins hs (by rw [← lkn_look]; exact h)]
 unfold insL
 rw [Int.toNat_natCast]; simp
theorem putS {β:Type} {l:List (ByteArray×β)} (hs:nmO.Srt Prod.fst l) (hl:l.length≤1000) (x:ByteArray×β) :
  (cond (fndJ Prod.fst l x.1).2 (cond ((decide ((0:Int)≤(fndJ Prod.fst l x.1).1))&&(decide ((fndJ Prod.fst l x.1).1 < ((l.length:Nat):Int)))) (Option.bind l[(Int.toNat (fndJ Prod.fst l x.1).1)]? (fun (_:ByteArray×β)=>(cond (decide (l.length=(List.set l (Int.toNat (fndJ Prod.fst l x.1).1) x).length)) (some (List.set l (Int.toNat (fndJ Prod.fst l x.1).1) x)) none))) none)
   (cond ((decide ((0:Int)≤(fndJ Prod.fst l x.1).1))&&((decide ((fndJ Prod.fst l x.1).1≤((l.length:Nat):Int)))&&((decide (((((l.length+1):Nat):Int) * (32:Int))≤(70368744177664:Int)))&&(decide ((((l.length+1):Nat):Int)≤(70368744177664:Int)))))) (cond (decide ((l.length+1)=(insL l (x::[]) (fndJ Prod.fst l x.1).1).length)) (some (insL l (x::[]) (fndJ Prod.fst l x.1).1)) none) none))=some (nmO.put Prod.fst l x):=by
 have hp:=KOrd.plc_le (O:=nmO) (key:=Prod.fst) l x.1
 have q0:(0:Int)≤((nmO.plc Prod.fst l x.1:Nat):Int):=by omega
 unfold fndJ
 cases h:lkn Prod.fst l x.1 with
 | none =>
  have q1:((nmO.plc Prod.fst l x.1:Nat):Int)≤((l.length:Nat):Int):=by omega
  have q3:(((l.length+1:Nat):Int) * 32≤70368744177664):=by omega
  have q4:(((l.length+1:Nat):Int)≤70368744177664):=by omega
  have hi:=ins_put hs h
  have hlen:(nmO.put Prod.fst l x).length=l.length+1:=by
   rw [KOrd.len_put hs,← lkn_look,h]; rfl
  simp only [Option.isSome_none]
  simp -implicitDefEqProofs only [q0,q1,q3,q4,hi,hlen,eq_self,xs]
 | some y =>
  obtain ⟨p1,p2⟩:=fnd_at hs h
  have q1:((nmO.plc Prod.fst l x.1:Nat):Int) < ((l.length:Nat):Int):=by omega
  simp only [Option.isSome_some]
  simp -implicitDefEqProofs only [q0,q1,p2,List.length_set,eq_self,xs]
  rw [KOrd.put_set hs p2 (lkn_key h).2]
end Go.Proofs.YthidhledenklhaaGreat.VL
end
section
namespace Go.Proofs.YthidhledenklhaaGreat.VL
open Go
set_option linter.unusedVariables false
set_option linter.unusedSectionVars false
set_option linter.unusedSimpArgs false
set_option maxRecDepth 100000
variable [Val]
def oldB (ks:List KB) (tk:ByteArray) (tn:Int):Bool:=match lkn Prod.fst ks tk with
 | some x=>decide (tn < x.2.1) || ((tn==x.2.1)&&x.2.2.1)
 | none=>false
def untilV (js:List JB) (tk:ByteArray) (tn u:Int):Int:=match lkn Prod.fst js tk with
 | some j=>if (j.2.1==tn)=true then max u j.2.2 else u
 | none=>u
def takeG (h:Int) (w:WB) (now:Int) (bt ak:Int) (tk:ByteArray) (tn:Int):WB×Int :=
 if ((bt != w.1) || (decide (ak > now) || (decide (ak+h≤now) || oldB w.2.2 tk tn)))=true then (w,8)
 else if ((lkn Prod.fst w.2.2 tk).isNone&&(((w.2.2.length:Nat):Int)==100))=true then (w,9)
 else ((w.1,nmO.put Prod.fst w.2.1 (tk,tn,untilV w.2.1 tk tn (ak+h)),nmO.put Prod.fst w.2.2 (tk,tn,false,false)),0)
def takeR (h e:Int) (w:WB) (now:Int) (m:MB):WB×Int :=
 if (((e==0)&&(workB w&&momB now))&&(msgB m&&(m.1==11)))=true then takeG h w now m.2.2.2.2.2.2.2.2.2.2.1 m.2.2.2.2.2.2.2.2.2.2.2.1 m.2.2.2.2.2.2.2.2.2.2.2.2.1 m.2.2.2.2.2.2.2.2.2.2.2.2.2.1 else (w,1)
theorem F10_ok {T1 T2 T3 h e now wb:Int} {js:List JB} {ks:List KB} {m:MB} (hF:F27 (T1,T2,T3)=some (h,e)) (hh:e=0→1≤h∧h≤1000001) (hz:SzW (wb,js,ks))
  (hw:m.2.2.2.2.2.2.2.1.length≤1000) (ht:m.2.2.2.2.2.2.2.2.1.length≤1000) (hk:m.2.2.2.2.2.2.2.2.2.2.2.2.1.size≤maxLen) :
  F10 ((T1,T2,T3),(wb,js,ks),now,m)=some (takeR h e (wb,js,ks) now m):=by
 have h28:=F28_ok (now:=now) hz
 have h29:=check_ok m hw ht hk
 obtain ⟨kd,fr,to,sq,wh,ki,ks',nw,tb,ep,bt,ak,tk,tn,gd⟩:=m
 unfold takeR
 rw [F10_eq]
 by_cases he:e=0
 case neg =>
  have z1:(e != 0)=true:=by rw [bne_iff_ne]; exact he
  have z2:(e==0)=false:=by rw [beq_eq_false_iff_ne]; exact he
  simp -implicitDefEqProofs only [hF,z1,z2,eq_self,xs]
 subst he
 have z0:((0:Int)==0)=true:=rfl
 cases hB:(workB (wb,js,ks)&&momB now)
 case false =>
  rw [hB] at h28
  simp -implicitDefEqProofs only [hF,nz0,z0,h28,eq_self,xs]
 rw [hB] at h28
 cases hM:msgB (kd,fr,to,sq,wh,ki,ks',nw,tb,ep,bt,ak,tk,tn,gd)
 case false =>
  rw [hM] at h29
  simp -implicitDefEqProofs only [hF,nz0,z0,h28,h29,nz1,eq_self,xs]
 rw [hM] at h29
 by_cases hkd:kd=11
 case neg =>
  have z3:(kd != 11)=true:=by rw [bne_iff_ne]; exact hkd
  have z4:(kd==11)=false:=by rw [beq_eq_false_iff_ne]; exact hkd
  simp -implicitDefEqProofs only [hF,nz0,z0,h28,h29,nz1,z3,z4,eq_self,xs]
 subst hkd
 have z3:((11:Int) != 11)=false:=rfl
 have z4:((11:Int)==11)=true:=rfl
 rw [Bool.and_eq_true] at hB
 have hwB:=hB.1
 unfold workB at hwB
 simp only [Bool.and_eq_true] at hwB
 have hsj:nmO.Srt Prod.fst js:=srt_map (key:=jk) hwB.1.1
 have hsk:nmO.Srt Prod.fst ks:=srt_map (key:=kk) hwB.1.2
 have hj:=hz.j
 have hk':=hz.k
 simp only at hj hk'
 have hak:0≤ak∧ak≤1099511627776:=by
  unfold msgB partsB at hM
  simp only [Bool.and_eq_true,Bool.or_eq_true,Bool.not_eq_true'] at hM
  have h7:=hM.2.2.2.2.2.2.2.2.1
  have e7:kindB 11 7=true:=rfl
  rcases h7 with q | q
  ·rw [e7] at q; cases q
  ·unfold tickB at q
   simpa using q
 obtain ⟨hh1,hh2⟩:=hh rfl
 have hu:IntKind.wrap .i64 (ak+h)=ak+h:=wi (by omega) (by omega)
 have s1:=srchG hsk hk' tk
 have s2:=srchG hsj hj tk
 simp only [hF,h28,h29,s1,s2,hu,Option.bind_some]
 unfold takeG
 simp -implicitDefEqProofs only [nz0,z0,z3,z4,eq_self,xs]
 have hold:(cond (fndJ Prod.fst ks tk).2 (cond (decide ((0:Int)≤(fndJ Prod.fst ks tk).1)) (Option.bind ks[(Int.toNat (fndJ Prod.fst ks tk).1)]? (fun (v13:KB)=>(cond (decide (tn < v13.2.1)) (some true) (cond (decide ((0:Int)≤(fndJ Prod.fst ks tk).1)) (Option.bind ks[(Int.toNat (fndJ Prod.fst ks tk).1)]? (fun (v14:KB)=>(cond (tn==v14.2.1) (cond (decide ((0:Int)≤(fndJ Prod.fst ks tk).1)) (Option.bind ks[(Int.toNat (fndJ Prod.fst ks tk).1)]? (fun (v15:KB)=>(some v15.2.2.1))) none) (some false)))) none)))) none) (some false))=some (oldB ks tk tn):=by
  unfold fndJ oldB
  cases hl:lkn Prod.fst ks tk with
  | none=>rfl
  | some y =>
   obtain ⟨p1,p2⟩:=fnd_at hsk hl
   have p3:(0:Int)≤((nmO.plc Prod.fst ks tk:Nat):Int):=by omega
   simp only [Option.isSome_some]
   simp -implicitDefEqProofs only [p3,p2,eq_self,xs]
   cases decide (tn < y.2.1)<;>cases (tn==y.2.1)<;>rfl
 have hunt:(Option.bind (cond (fndJ Prod.fst js tk).2 (cond (decide ((0:Int)≤(fndJ Prod.fst js tk).1)) (Option.bind js[(Int.toNat (fndJ Prod.fst js tk).1)]? (fun (v28:JB)=>(some (v28.2.1==tn)))) none) (some false)) (fun (v29:Bool)=>(cond v29 (cond (decide ((0:Int)≤(fndJ Prod.fst js tk).1)) (Option.bind js[(Int.toNat (fndJ Prod.fst js tk).1)]? (fun (v30:JB)=>(some (tk,tn,(max (ak+h) v30.2.2))))) none) (some (tk,tn,ak+h)))))=some (tk,tn,untilV js tk tn (ak+h)):=by
  unfold fndJ untilV
  cases hl:lkn Prod.fst js tk with
  | none=>rfl
  | some y =>
   obtain ⟨p1,p2⟩:=fnd_at hsj hl
   have p3:(0:Int)≤((nmO.plc Prod.fst js tk:Nat):Int):=by omega
   simp only [Option.isSome_some]
   simp -implicitDefEqProofs only [p3,p2,eq_self,xs]
   cases (y.2.1==tn)<;>rfl
 rw [hold,hunt]
 have p1:=putS hsj hj (tk,tn,untilV js tk tn (ak+h))
 have p2:=putS hsk hk' (tk,tn,false,false)
 simp only [Option.bind_some,s2,copy32 hj,copy32 hk']
 rw [p1,p2]
 have h2:(fndJ Prod.fst ks tk).2=(lkn Prod.fst ks tk).isSome:=rfl
 rw [h2]
 simp -implicitDefEqProofs only [eq_self,xs]
 cases (bt != wb)
 rotate_left
 ·simp -implicitDefEqProofs only [eq_self,xs]
 cases decide (ak > now)
 rotate_left
 ·simp -implicitDefEqProofs only [eq_self,xs]
 cases decide (ak+h≤now)
 rotate_left
 ·simp -implicitDefEqProofs only [eq_self,xs]
 cases oldB ks tk tn
 rotate_left
 ·simp -implicitDefEqProofs only [eq_self,xs]
 cases lkn Prod.fst ks tk with
 | some y=>simp -implicitDefEqProofs only [Option.isSome_some,Option.isNone_some,eq_self,xs]
 | none =>
  cases (((ks.length:Nat):Int)==100)
  ·simp -implicitDefEqProofs only [Option.isSome_none,Option.isNone_none,eq_self,xs]
  ·simp -implicitDefEqProofs only [Option.isSome_none,Option.isNone_none,eq_self,xs]
end Go.Proofs.YthidhledenklhaaGreat.VL
end
section
namespace Go.Proofs.YthidhledenklhaaGreat.VL
open Go
set_option linter.unusedVariables false
set_option linter.unusedSectionVars false
set_option linter.unusedSimpArgs false
set_option maxRecDepth 100000
variable [Val]
structure Shelf {β:Type} (l:List (ByteArray×β)):Prop where
 len:l.length≤100
 nms:∀ x ∈ l,nmB x.1=true
 srt:nmO.Srt Prod.fst l
theorem shelf_iff {β:Type} (l:List (ByteArray×β)):tasksB (l.map Prod.fst)=true ↔ Shelf l:=by
 rw [tasks_iff]
 constructor
 ·rintro ⟨h1,h2,h3⟩
  refine ⟨by simpa using h1,fun x hx=>h2 _ (List.mem_map_of_mem hx),?_⟩
  unfold KOrd.Srt at h3 ⊢
  rw [List.pairwise_map] at h3
  exact h3
 ·rintro ⟨h1,h2,h3⟩
  refine ⟨by simpa using h1,fun x hx=>?_,?_⟩
  ·rw [List.mem_map] at hx
   obtain ⟨y,hy,rfl⟩:=hx
   exact h2 y hy
  ·unfold KOrd.Srt at h3 ⊢
   rw [List.pairwise_map]
   exact h3
structure WorkOk (w:WB):Prop where
 j:Shelf w.2.1
 k:Shelf w.2.2
 ok:∀ x ∈ w.2.2,okK x=true
 oj:∀ x ∈ w.2.1,okJ w.2.2 x=true
theorem work_iff (w:WB):workB w=true ↔ WorkOk w:=by
 unfold workB
 rw [Bool.and_eq_true,Bool.and_eq_true,Bool.and_eq_true,List.all_eq_true,List.all_eq_true]
 have e1:tasksB (w.2.1.map jk)=true ↔ Shelf w.2.1:=shelf_iff w.2.1
 have e2:tasksB (w.2.2.map kk)=true ↔ Shelf w.2.2:=shelf_iff w.2.2
 rw [e1,e2]
 exact ⟨fun ⟨⟨a,b⟩,c,d⟩=>⟨a,b,c,d⟩,fun ⟨a,b,c,d⟩=>⟨⟨a,b⟩,c,d⟩⟩
theorem nm_sz {s:ByteArray} (h:nmB s=true):s.size≤maxLen:=by
 unfold nmB at h
 simp only [Bool.and_eq_true,decide_eq_true_eq] at h
 exact Nat.le_trans h.2.2 (by decide)
theorem WorkOk.sz {w:WB} (h:WorkOk w):SzW w:=⟨by have:=h.j.len; omega,by have:=h.k.len; omega,fun x hx=>nm_sz (h.j.nms x hx),fun x hx=>nm_sz (h.k.nms x hx)⟩
theorem len_sub0 {α:Type} [DecidableEq α]:∀ {l m:List α},l.Nodup→(∀ x ∈ l,x ∈ m)→l.length≤m.length
 | [],m,_,_=>Nat.zero_le _
 | a::l,m,hn,hs=>by
  have ha:a ∈ m:=hs a List.mem_cons_self
  have h1:=List.length_erase_of_mem ha
  have hpos:0 < m.length:=List.length_pos_of_mem ha
  have:=len_sub0 (l:=l) (m:=m.erase a) (List.nodup_cons.1 hn).2 (fun x hx=>by
   refine (List.mem_erase_of_ne ?_).2 (hs x (List.mem_cons_of_mem _ hx))
   rintro rfl
   exact (List.nodup_cons.1 hn).1 hx)
  rw [List.length_cons]; omega
theorem len_sub {l m:List ByteArray} (h:l.Nodup) (k:∀ x ∈ l,x ∈ m):l.length≤m.length:=by
 classical
 exact len_sub0 h k
theorem srt_nodup {β:Type} {l:List (ByteArray×β)} (h:nmO.Srt Prod.fst l):(l.map Prod.fst).Nodup:=by
 unfold List.Nodup
 rw [List.pairwise_map]
 exact h.imp fun {a b} hab=>nmO.ne hab
theorem lkn_put {β:Type} {l:List (ByteArray×β)} (hs:nmO.Srt Prod.fst l) (x:ByteArray×β) (nm:ByteArray):lkn Prod.fst (nmO.put Prod.fst l x) nm=if eqN x.1 nm=true then some x else lkn Prod.fst l nm:=by
 rw [lkn_look,lkn_look,KOrd.look_put hs]
 by_cases h:x.1=nm
 ·rw [if_pos h,if_pos (eqN_iff.2 h)]
 ·rw [if_neg h,if_neg (fun k=>h (eqN_iff.1 k))]
theorem shelf_put {β:Type} {l:List (ByteArray×β)} (h:Shelf l) {x:ByteArray×β} (hn:nmB x.1=true) (hl:lkn Prod.fst l x.1=none→l.length < 100):Shelf (nmO.put Prod.fst l x):=by
 refine ⟨?_,fun y hy=>?_,KOrd.srt_put h.srt x⟩
 ·rw [KOrd.len_put h.srt,← lkn_look]
  have:=h.len
  cases hq:lkn Prod.fst l x.1 with
  | none=>have:=hl hq; simp; omega
  | some y=>simp; omega
 ·rcases KOrd.mem_put.1 hy with rfl | ⟨h1,_⟩
  ·exact hn
  ·exact h.nms y h1
theorem lkn_none {β:Type} {l:List (ByteArray×β)} {nm:ByteArray} (h:lkn Prod.fst l nm=none):∀ x ∈ l,x.1≠nm:=by
 rw [lkn_look] at h; exact KOrd.look_none h
theorem okJ_known {ks:List KB} {j:JB} (h:okJ ks j=true):(0≤j.2.2∧j.2.2≤2199023255552)∧∃ x,lkn Prod.fst ks j.1=some x∧x.2.1=j.2.1∧x.2.2.1=false∧x.2.2.2=false:=by
 unfold okJ at h
 rw [Bool.and_eq_true,Bool.and_eq_true,decide_eq_true_iff,decide_eq_true_iff] at h
 refine ⟨h.1,?_⟩
 have h2:=h.2
 have e:lkn kk ks j.1=lkn Prod.fst ks j.1:=rfl
 rw [e] at h2
 cases hx:lkn Prod.fst ks j.1 with
 | none=>rw [hx] at h2; cases h2
 | some x =>
  rw [hx] at h2
  simp only [Bool.and_eq_true,beq_iff_eq] at h2
  exact ⟨x,rfl,h2.1,h2.2.1,h2.2.2⟩
theorem take_work {w:WB} (hw:WorkOk w) {tk:ByteArray} {tn u:Int} (hn:nmB tk=true) (hu:0≤u∧u≤2199023255552) (hl:lkn Prod.fst w.2.2 tk=none→w.2.2.length < 100) (b:Int) :
  WorkOk (b,nmO.put Prod.fst w.2.1 (tk,tn,u),nmO.put Prod.fst w.2.2 (tk,tn,false,false)):=by
 have hjk:lkn Prod.fst w.2.1 tk=none→w.2.1.length < 100:=by
  intro hq
  have hnj:=lkn_none hq
  have hsub:∀ x ∈ w.2.1.map Prod.fst,x ∈ w.2.2.map Prod.fst:=by
   intro x hx
   rw [List.mem_map] at hx ⊢
   obtain ⟨j,hj,rfl⟩:=hx
   obtain ⟨_,k,hk,_⟩:=okJ_known (hw.oj j hj)
   exact ⟨k,(lkn_key hk).1,(lkn_key hk).2⟩
  cases hk:lkn Prod.fst w.2.2 tk with
  | none =>
   have h1:=len_sub (srt_nodup hw.j.srt) hsub
   have:=hl hk
   rw [List.length_map,List.length_map] at h1; omega
  | some k =>
   have h1:=len_sub (l:=tk::w.2.1.map Prod.fst) (m:=w.2.2.map Prod.fst) (List.nodup_cons.2 ⟨fun hm=>by
    rw [List.mem_map] at hm
    obtain ⟨j,hj,he⟩:=hm
    exact hnj j hj he,srt_nodup hw.j.srt⟩) (fun x hx=>by
    rcases List.mem_cons.1 hx with rfl | hx
    ·rw [List.mem_map]; exact ⟨k,(lkn_key hk).1,(lkn_key hk).2⟩
    ·exact hsub x hx)
   have:=hw.k.len
   rw [List.length_cons,List.length_map,List.length_map] at h1; omega
 refine ⟨shelf_put hw.j hn hjk,shelf_put hw.k hn hl,fun x hx=>?_,fun x hx=>?_⟩
 ·rcases KOrd.mem_put.1 hx with rfl | ⟨h1,_⟩
  ·rfl
  ·exact hw.ok x h1
 ·have hlk:=lkn_put hw.k.srt (tk,tn,false,false) x.1
  unfold okJ
  have e:lkn kk (nmO.put Prod.fst w.2.2 (tk,tn,false,false)) x.1=lkn Prod.fst (nmO.put Prod.fst w.2.2 (tk,tn,false,false)) x.1:=rfl
  show (_&&(match lkn kk (nmO.put Prod.fst w.2.2 (tk,tn,false,false)) x.1 with | some x_1=>_ | none=>_))=true
  rw [e,hlk]
  rcases KOrd.mem_put.1 hx with rfl | ⟨h1,h2⟩
  ·rw [if_pos (eqN_refl _)]
   simp only [Bool.and_eq_true,decide_eq_true_eq,beq_self_eq_true]
   exact ⟨hu,by simp⟩
  ·rw [if_neg (fun q=>h2 (eqN_iff.1 q).symm)]
   exact hw.oj x h1
theorem untilV_rng {w:WB} (hw:WorkOk w) {tk:ByteArray} {tn u:Int} (hu:0≤u∧u≤2199023255552):0≤untilV w.2.1 tk tn u∧untilV w.2.1 tk tn u≤2199023255552∧u≤untilV w.2.1 tk tn u:=by
 unfold untilV
 cases h:lkn Prod.fst w.2.1 tk with
 | none=>exact ⟨hu.1,hu.2,Int.le_refl _⟩
 | some j =>
  simp only
  split
  ·have:=(okJ_known (hw.oj j (lkn_key h).1)).1
   omega
  ·exact ⟨hu.1,hu.2,Int.le_refl _⟩
theorem F8_ok {w:WB} (hj:w.2.1.length≤maxLen) (hk:w.2.2.length≤maxLen) (hjn:∀ x ∈ w.2.1,x.1.size≤maxLen) (hkn:∀ x ∈ w.2.2,x.1.size≤maxLen):∃ js ks,F8 w=some (w.1,js,ks)∧SzW (w.1,js,ks):=by
 rw [F8_eq]
 have aux:∀ {β:Type} (l:List (ByteArray×β)),(∀ x ∈ l,x.1.size≤maxLen)→∀ x ∈ l.take 101,x.1.size≤maxLen:=fun l h x hx=>h x (List.mem_of_mem_take hx)
 by_cases h1:((w.2.1.length:Nat):Int) > 101
 ·have q1:(101:Int)≤((w.2.1.length:Nat):Int):=by omega
  by_cases h2:((w.2.2.length:Nat):Int) > 101
  ·have q2:(101:Int)≤((w.2.2.length:Nat):Int):=by omega
   simp -implicitDefEqProofs only [h1,q1,h2,q2,eq_self,xs]
   exact ⟨_,_,rfl,by simp only [List.length_take]; omega,by simp only [List.length_take]; omega,aux _ hjn,aux _ hkn⟩
  ·simp -implicitDefEqProofs only [h1,q1,h2,eq_self,xs]
   exact ⟨_,_,rfl,by simp only [List.length_take]; omega,by simp only; omega,aux _ hjn,hkn⟩
 ·by_cases h2:((w.2.2.length:Nat):Int) > 101
  ·have q2:(101:Int)≤((w.2.2.length:Nat):Int):=by omega
   simp -implicitDefEqProofs only [h1,h2,q2,eq_self,xs]
   exact ⟨_,_,rfl,by simp only; omega,by simp only [List.length_take]; omega,hjn,aux _ hkn⟩
  ·simp -implicitDefEqProofs only [h1,h2,eq_self,xs]
   exact ⟨_,_,rfl,by simp only; omega,by simp only; omega,hjn,hkn⟩
theorem F9_ok (m:MB) (hk:m.2.2.2.2.2.2.2.2.2.2.2.2.1.size≤maxLen):∃ m':MB,F9 m=some m'∧m'.2.2.2.2.2.2.2.1.length≤9∧m'.2.2.2.2.2.2.2.2.1.length≤65∧m'.2.2.2.2.2.2.2.2.2.2.2.2.1.size≤maxLen:=by
 rw [F9_eq]
 obtain ⟨kd,fr,to,sq,wh,ki,ks',nw,tb,ep,bt,ak,tk,tn,gd⟩:=m
 simp only at hk
 have hex:∀ s:ByteArray,s.size > 21→(ByteArray.extract s 0 21).size≤maxLen:=by
  intro s hs
  rw [ByteArray.size_extract]
  exact Nat.le_trans (Nat.sub_le _ _) (Nat.le_trans (Nat.min_le_left _ _) (by decide))
 by_cases h1:((nw.length:Nat):Int) > 9
 ·have q1:(9:Int)≤((nw.length:Nat):Int):=by omega
  by_cases h2:((tb.length:Nat):Int) > 65
  ·have q2:(65:Int)≤((tb.length:Nat):Int):=by omega
   by_cases h3:((tk.size:Nat):Int) > 21
   ·have q3:(21:Int)≤((tk.size:Nat):Int):=by omega
    simp -implicitDefEqProofs only [h1,q1,h2,q2,h3,q3,eq_self,xs]
    exact ⟨_,rfl,by simp only [List.length_take]; omega,by simp only [List.length_take]; omega,hex _ (by omega)⟩
   ·simp -implicitDefEqProofs only [h1,q1,h2,q2,h3,eq_self,xs]
    exact ⟨_,rfl,by simp only [List.length_take]; omega,by simp only [List.length_take]; omega,hk⟩
  ·by_cases h3:((tk.size:Nat):Int) > 21
   ·have q3:(21:Int)≤((tk.size:Nat):Int):=by omega
    simp -implicitDefEqProofs only [h1,q1,h2,h3,q3,eq_self,xs]
    exact ⟨_,rfl,by simp only [List.length_take]; omega,by simp only; omega,hex _ (by omega)⟩
   ·simp -implicitDefEqProofs only [h1,q1,h2,h3,eq_self,xs]
    exact ⟨_,rfl,by simp only [List.length_take]; omega,by simp only; omega,hk⟩
 ·by_cases h2:((tb.length:Nat):Int) > 65
  ·have q2:(65:Int)≤((tb.length:Nat):Int):=by omega
   by_cases h3:((tk.size:Nat):Int) > 21
   ·have q3:(21:Int)≤((tk.size:Nat):Int):=by omega
    simp -implicitDefEqProofs only [h1,h2,q2,h3,q3,eq_self,xs]
    exact ⟨_,rfl,by simp only; omega,by simp only [List.length_take]; omega,hex _ (by omega)⟩
   ·simp -implicitDefEqProofs only [h1,h2,q2,h3,eq_self,xs]
    exact ⟨_,rfl,by simp only; omega,by simp only [List.length_take]; omega,hk⟩
  ·by_cases h3:((tk.size:Nat):Int) > 21
   ·have q3:(21:Int)≤((tk.size:Nat):Int):=by omega
    simp -implicitDefEqProofs only [h1,h2,h3,q3,eq_self,xs]
    exact ⟨_,rfl,by simp only; omega,by simp only; omega,hex _ (by omega)⟩
   ·simp -implicitDefEqProofs only [h1,h2,h3,eq_self,xs]
    exact ⟨_,rfl,by simp only; omega,by simp only; omega,hk⟩
end Go.Proofs.YthidhledenklhaaGreat.VL
end
section
namespace Go.Proofs.YthidhledenklhaaGreat.VL
open Go
set_option linter.unusedVariables false
set_option linter.unusedSectionVars false
set_option linter.unusedSimpArgs false
set_option maxRecDepth 100000
variable [Val]
def goodB (h:Int) (w:WB) (now bt ak:Int) (tk:ByteArray) (tn:Int):Bool:=!((bt != w.1) || (decide (ak > now) || (decide (ak+h≤now) || oldB w.2.2 tk tn)))&&!((lkn Prod.fst w.2.2 tk).isNone&&(((w.2.2.length:Nat):Int)==100))
def tkn (h:Int) (w:WB) (ak:Int) (tk:ByteArray) (tn:Int):WB:=(w.1,nmO.put Prod.fst w.2.1 (tk,tn,untilV w.2.1 tk tn (ak+h)),nmO.put Prod.fst w.2.2 (tk,tn,false,false))
theorem takeG_good {h:Int} {w:WB} {now bt ak:Int} {tk:ByteArray} {tn:Int} (hg:goodB h w now bt ak tk tn=true):takeG h w now bt ak tk tn=(tkn h w ak tk tn,0):=by
 unfold goodB at hg
 rw [Bool.and_eq_true,Bool.not_eq_true',Bool.not_eq_true'] at hg
 unfold takeG tkn
 rw [hg.1,hg.2,if_neg (by decide),if_neg (by decide)]
theorem takeG_bad {h:Int} {w:WB} {now bt ak:Int} {tk:ByteArray} {tn:Int} (hg:goodB h w now bt ak tk tn=false):(takeG h w now bt ak tk tn).2≠0∧(takeG h w now bt ak tk tn).1=w:=by
 unfold goodB at hg
 unfold takeG
 split
 ·exact ⟨by show (8:Int)≠0; decide,rfl⟩
 ·rename_i h1
  split
  ·exact ⟨by show (9:Int)≠0; decide,rfl⟩
  ·rename_i h2
   rw [Bool.not_eq_true] at h1 h2
   rw [h1,h2] at hg
   cases hg
def restB (m:MB):Bool:=((nodeB m.2.1&&nodeB m.2.2.1)&&!(m.2.1==m.2.2.1))&&(sameB m (bareM m)&&nmB m.2.2.2.2.2.2.2.2.2.2.2.2.1)
theorem msg11 {m:MB} (h:m.1=11):msgB m=(restB m&&tickB m.2.2.2.2.2.2.2.2.2.2.2.1):=by
 obtain ⟨kd,fr,to,sq,wh,ki,ks',nw,tb,ep,bt,ak,tk,tn,gd⟩:=m
 simp only at h
 subst h
 have hp:partsB (11,fr,to,sq,wh,ki,ks',nw,tb,ep,bt,ak,tk,tn,gd)=((!kindB 11 1 || nodeB wh)&&((!kindB 11 2 || knowB ks')&&((!kindB 11 3 || newsB nw)&&((!kindB 11 4 || tabB tb)&&((!kindB 11 7 || tickB ak)&&(!kindB 11 8 || nmB tk)))))):=rfl
 have k1:kindB 11 1=false:=rfl
 have k2:kindB 11 2=false:=rfl
 have k3:kindB 11 3=false:=rfl
 have k4:kindB 11 4=false:=rfl
 have k7:kindB 11 7=true:=rfl
 have k8:kindB 11 8=true:=rfl
 have z1:decide ((1:Int)≤11)=true:=rfl
 have z2:decide ((11:Int)≤12)=true:=rfl
 unfold msgB restB
 rw [hp,k1,k2,k3,k4,k7,k8]
 simp -implicitDefEqProofs only [z1,z2,eq_self,xs]
 cases nodeB fr<;>cases nodeB to<;>cases (fr==to)<;>cases sameB _ _<;>cases tickB ak<;>cases nmB tk<;>rfl
def okT (h e:Int) (w:WB) (now:Int) (m:MB):Bool:=(((e==0)&&(workB w&&momB now))&&(msgB m&&(m.1==11)))&&goodB h w now m.2.2.2.2.2.2.2.2.2.2.1 m.2.2.2.2.2.2.2.2.2.2.2.1 m.2.2.2.2.2.2.2.2.2.2.2.2.1 m.2.2.2.2.2.2.2.2.2.2.2.2.2.1
theorem takeR_good {h e:Int} {w:WB} {now:Int} {m:MB} (hg:okT h e w now m=true):takeR h e w now m=(tkn h w m.2.2.2.2.2.2.2.2.2.2.2.1 m.2.2.2.2.2.2.2.2.2.2.2.2.1 m.2.2.2.2.2.2.2.2.2.2.2.2.2.1,0):=by
 unfold okT at hg
 rw [Bool.and_eq_true] at hg
 unfold takeR
 rw [if_pos hg.1,takeG_good hg.2]
theorem takeR_bad {h e:Int} {w:WB} {now:Int} {m:MB} (hg:okT h e w now m=false):(takeR h e w now m).2≠0∧(takeR h e w now m).1=w:=by
 unfold okT at hg
 unfold takeR
 split
 ·rename_i h1
  rw [h1,Bool.true_and] at hg
  exact takeG_bad hg
 ·exact ⟨by show (1:Int)≠0; decide,rfl⟩
structure Took (h e:Int) (w:WB) (now bt ak:Int) (tk:ByteArray) (tn:Int):Prop where
 e0:e=0
 ok:WorkOk w
 mo:momB now=true
 bt0:bt=w.1
 le:ak≤now
 lt:now < ak+h
 old:oldB w.2.2 tk tn=false
 full:lkn Prod.fst w.2.2 tk=none→w.2.2.length < 100
 nm:nmB tk=true
 ak0:0≤ak∧ak≤1099511627776
theorem took_of {h e:Int} {w:WB} {now:Int} {m:MB} (hg:okT h e w now m=true):(m.1=11∧restB m=true)∧Took h e w now m.2.2.2.2.2.2.2.2.2.2.1 m.2.2.2.2.2.2.2.2.2.2.2.1 m.2.2.2.2.2.2.2.2.2.2.2.2.1 m.2.2.2.2.2.2.2.2.2.2.2.2.2.1:=by
 unfold okT at hg
 simp only [Bool.and_eq_true,beq_iff_eq] at hg
 obtain ⟨⟨⟨h1,h2,h3⟩,h4,h5⟩,h6⟩:=hg
 have hm:=msg11 h5
 rw [h4] at hm
 have hm:=hm.symm
 rw [Bool.and_eq_true] at hm
 have hr:=hm.1
 have ht:=hm.2
 unfold tickB at ht
 rw [Bool.and_eq_true,decide_eq_true_iff,decide_eq_true_iff] at ht
 have hn:nmB m.2.2.2.2.2.2.2.2.2.2.2.2.1=true:=by
  unfold restB at hr
  simp only [Bool.and_eq_true] at hr
  exact hr.2.2
 unfold goodB at h6
 rw [Bool.and_eq_true,Bool.not_eq_true',Bool.not_eq_true',Bool.or_eq_false_iff,Bool.or_eq_false_iff,Bool.or_eq_false_iff,decide_eq_false_iff_not,decide_eq_false_iff_not,bne_eq_false_iff_eq] at h6
 have hW:=(work_iff w).1 h2
 refine ⟨⟨h5,hr⟩,⟨h1,hW,h3,h6.1.1,by omega,by omega,h6.1.2.2.2,fun hq=>?_,hn,ht⟩⟩
 have h7:=h6.2
 rw [hq] at h7
 simp only [Option.isNone_none,Bool.true_and,beq_eq_false_iff_ne] at h7
 have:=hW.k.len
 omega
theorem Took.work {h e:Int} {w:WB} {now bt ak:Int} {tk:ByteArray} {tn:Int} (t:Took h e w now bt ak tk tn) (hh:1≤h∧h≤1000001):WorkOk (tkn h w ak tk tn):=by
 have hu:0≤ak+h∧ak+h≤2199023255552:=by have:=t.ak0; omega
 have hr:=untilV_rng (tn:=tn) (tk:=tk) t.ok hu
 exact take_work t.ok t.nm ⟨hr.1,hr.2.1⟩ t.full _
end Go.Proofs.YthidhledenklhaaGreat.VL
end
section
namespace Go.Proofs.YthidhledenklhaaGreat.VL
open Go
set_option linter.unusedVariables false
set_option linter.unusedSectionVars false
set_option linter.unusedSimpArgs false
set_option maxRecDepth 100000
variable [Val]
def delP {α:Type} (l:List α) (p:Nat):List α:=l.take p++l.drop (p+1)
def endR (w:WB) (now:Int) (tk:ByteArray) (gd:Bool):WB×(Int×Int) :=
 if (workB w&&momB now)=true then (match lkn Prod.fst w.2.1 tk with
  | some j=>if j.2.2≤now then (w,0,6) else ((w.1,delP w.2.1 (nmO.plc Prod.fst w.2.1 tk),nmO.put Prod.fst w.2.2 (tk,j.2.1,true,gd)),j.2.1,0)
  | none=>(w,0,6)) else (w,0,1)
theorem ct {α:Type} {b:Bool} {x y:α} (h:b=true):(bif b then x else y)=x:=by rw [h]; rfl
theorem F15_ok {wb now:Int} {js:List JB} {ks:List KB} {tk:ByteArray} {gd:Bool} (hz:SzW (wb,js,ks)):F15 ((wb,js,ks),now,tk,gd)=some (endR (wb,js,ks) now tk gd):=by
 have h28:=F28_ok (now:=now) hz
 rw [F15_eq]
 unfold endR
 cases hB:(workB (wb,js,ks)&&momB now)
 ·rw [hB] at h28
  simp -implicitDefEqProofs only [h28,eq_self,xs]
 rw [hB] at h28
 rw [Bool.and_eq_true] at hB
 have hW:=(work_iff _).1 hB.1
 have hsj:nmO.Srt Prod.fst js:=hW.j.srt
 have hsk:nmO.Srt Prod.fst ks:=hW.k.srt
 have hj:js.length≤1000:=hz.j
 have hk:ks.length≤1000:=hz.k
 have s1:=srchG hsk hk tk
 have s2:=srchH hsj hj tk
 simp only [h28,s1,s2,Option.bind_some]
 have h2:(fndJ Prod.fst js tk).2=(lkn Prod.fst js tk).isSome:=rfl
 have h3:(fndJ Prod.fst js tk).1=((nmO.plc Prod.fst js tk:Nat):Int):=rfl
 rw [h2,h3]
 cases hl:lkn Prod.fst js tk with
 | none=>simp -implicitDefEqProofs only [Option.isSome_none,eq_self,xs]
 | some j =>
  obtain ⟨p1,p2⟩:=fnd_at hsj hl
  generalize nmO.plc Prod.fst js tk=p at *
  have p3:(0:Int)≤(p:Int):=by omega
  by_cases hn:j.2.2≤now
  ·have q:now ≥ j.2.2:=hn
   simp -implicitDefEqProofs only [Option.isSome_some,p3,p2,q,hn,eq_self,xs]
  ·have q:¬ (now ≥ j.2.2):=hn
   have c32:=copy32 hj
   have c32k:=copy32 hk
   have hw1:=w1 (show p≤9223372036854775806 by omega)
   have p4:(p:Int) < ((p+1:Nat):Int):=by omega
   have p5:(p:Int)≤((p+1:Nat):Int):=by omega
   have p6:((p+1:Nat):Int)≤((js.length:Nat):Int):=by omega
   have p7:((p:Int)==((p+1:Nat):Int))=false:=by rw [beq_eq_false_iff_ne]; omega
   have p8:(0:Int)≤((p+1:Nat):Int):=by omega
   have p9:(p:Int)≤((js.length:Nat):Int):=by omega
   have pp:=putS hsk hk (tk,j.2.1,true,gd)
   simp -implicitDefEqProofs only [Option.isSome_some,p3,p2,q,hn,c32,hw1,p5,p6,p7,p8,p9,eq_self,xs]
   have hT:List.take (js.length - (p+1)) (List.drop (p+1) js)=List.drop (p+1) js:=List.take_of_length_le (by rw [List.length_drop]; exact Nat.le_refl _)
   rw [hT]
   simp only [List.length_append,List.length_drop,List.length_take,List.length_replicate]
   have q1:min p js.length=p:=by omega
   have q2:p+(js.length - (p+1))=js.length - 1:=by omega
   have q3:p+1+(js.length - (p+1))=js.length:=by omega
   rw [q1,q2,q3]
   rw [ct]
   rotate_left
   ·exact decide_eq_true (Nat.le_refl _)
   rw [ct]
   rotate_left
   ·simp only [Bool.and_eq_true,decide_eq_true_eq]; omega
   rw [ct]
   rotate_left
   ·exact decide_eq_true (by omega)
   rw [ct]
   rotate_left
   ·simp only [Bool.and_eq_true,decide_eq_true_eq]; omega
   rw [ct]
   rotate_left
   ·exact decide_eq_true (by omega)
   simp only [c32k,Option.bind_some]
   have pp':=pp
   simp only [] at pp'
   rw [pp']
   simp only [Option.bind_some]
   rw [ct]
   rotate_left
   ·exact decide_eq_true (by omega)
   have z1:(List.take p js++List.drop (p+1) js).length=js.length - 1:=by simp only [List.length_append,List.length_take,List.length_drop]; omega
   unfold delP
   rw [List.take_left' z1]
   rw [List.append_assoc (List.take p js++List.drop (p+1) js),List.take_left' z1]
end Go.Proofs.YthidhledenklhaaGreat.VL
end
section
namespace Go.Proofs.YthidhledenklhaaGreat.VL
open Go
set_option linter.unusedVariables false
set_option linter.unusedSectionVars false
set_option linter.unusedSimpArgs false
set_option maxRecDepth 100000
variable [Val]
def mEx (tk:ByteArray):MB:=(11,0,1,0,0,0,0,[],[],0,0,5,tk,3,false)
theorem same_self (m:MB):sameB m m=true:=by
 unfold sameB
 simp
theorem mEx_ok {tk:ByteArray} (h:nmB tk=true):msgB (mEx tk)=true:=by
 rw [msg11 (m:=mEx tk) rfl]
 have e1:bareM (mEx tk)=mEx tk:=rfl
 have e2:restB (mEx tk)=(((nodeB 0&&nodeB 1)&&!((0:Int)==1))&&(sameB (mEx tk) (bareM (mEx tk))&&nmB tk)):=by
  unfold restB
  rfl
 rw [e2,e1,same_self,h]
 rfl
theorem lt_self (tk:ByteArray):ltN tk tk=false:=bl_irrefl _
theorem work0:workB (0,[],[])=true:=by decide
theorem work1 {tk:ByteArray} (h:nmB tk=true):workB (0,[(tk,3,12)],[(tk,3,false,false)])=true:=by
 have e1:tasksB [tk]=true:=by
  unfold tasksB
  show (decide (1≤100)&&(([0]:List Nat).all (upT [tk])))=true
  simp only [List.all_cons,List.all_nil,upT]
  show (decide (1≤100)&&((nmB tk&&(decide (0=0) || _))&&true))=true
  rw [h]; rfl
 have e2:okJ [(tk,3,false,false)] (tk,3,12)=true:=by
  unfold okJ lkn kk
  simp [eqN_refl]
 unfold workB
 show ((tasksB [tk]&&tasksB [tk])&&((okK (tk,3,false,false)&&true)&&(okJ [(tk,3,false,false)] (tk,3,12)&&true)))=true
 rw [e1,e2]; rfl
theorem take_a {tk:ByteArray} (h:nmB tk=true):takeR 7 0 (0,[],[]) 6 (mEx tk)=((0,[(tk,3,12)],[(tk,3,false,false)]),0):=by
 unfold takeR
 rw [mEx_ok h,work0]
 rfl
theorem take_b {tk:ByteArray} (h:nmB tk=true):(takeR 7 0 (0,[],[]) 12 (mEx tk)).2=8:=by
 unfold takeR
 rw [mEx_ok h,work0]
 rfl
theorem end_a {tk:ByteArray} (h:nmB tk=true):endR (0,[(tk,3,12)],[(tk,3,false,false)]) 7 tk true=((0,[],[(tk,3,true,true)]),3,0):=by
 unfold endR
 have e1:nmO.plc Prod.fst [((tk,3,12):JB)] tk=0:=by
  unfold KOrd.plc
  show List.countP (fun x=>ltN x.1 tk) [((tk,3,12):JB)]=0
  rw [List.countP_cons_of_neg (by simp [lt_self])]; rfl
 have e2:nmO.put Prod.fst [((tk,3,false,false):KB)] (tk,3,true,true)=[(tk,3,true,true)]:=by
  unfold KOrd.put
  show List.filter (fun y=>ltN y.1 tk) [((tk,3,false,false):KB)]++(tk,3,true,true)::List.filter (fun y=>ltN tk y.1) [((tk,3,false,false):KB)]=_
  rw [List.filter_cons_of_neg (by simp [lt_self]),List.filter_cons_of_neg (by simp [lt_self])]; rfl
 have e3:lkn Prod.fst [((tk,3,12):JB)] tk=some (tk,3,12):=by
  unfold lkn
  rw [List.find?_cons_of_pos (by exact eqN_refl tk)]
 rw [work1 h]
 simp only [e1,e2,e3]
 rfl
theorem take_c {tk:ByteArray} (h:nmB tk=true):(takeR 7 0 (0,[],[(tk,3,true,true)]) 8 (mEx tk)).2=8:=by
 unfold takeR
 have e1:tasksB [tk]=true:=by
  unfold tasksB
  show (decide (1≤100)&&(([0]:List Nat).all (upT [tk])))=true
  simp only [List.all_cons,List.all_nil,upT]
  show (decide (1≤100)&&((nmB tk&&(decide (0=0) || _))&&true))=true
  rw [h]; rfl
 have e2:workB (0,[],[(tk,3,true,true)])=true:=by
  unfold workB
  show ((tasksB []&&tasksB [tk])&&((okK (tk,3,true,true)&&true)&&true))=true
  rw [e1]; rfl
 have e3:oldB [(tk,3,true,true)] tk 3=true:=by
  unfold oldB lkn
  rw [List.find?_cons_of_pos (by exact eqN_refl tk)]; rfl
 rw [mEx_ok h,e2]
 show (takeG 7 (0,[],[(tk,3,true,true)]) 8 0 5 tk 3).2=8
 unfold takeG
 simp only [e3]
 rfl
theorem loop7 {f:Int×Int→Option ((Int×Int) ⊕ Int)} (h1:f (0,11)=some (.inl (6,11))) (h2:f (6,11)=some (.inl (6,8))) (h3:f (6,8)=some (.inl (6,7))) (h4:f (6,7)=some (.inl (7,7))) (h5:f (7,7)=some (.inr 7)):loopX f (0,11)=some 7:=by
 rw [loopX_eq,h1]; simp only
 rw [loopX_eq,h2]; simp only
 rw [loopX_eq,h3]; simp only
 rw [loopX_eq,h4]; simp only
 rw [loopX_eq,h5]
theorem F55_at:F55 (10,2,4)=some (7,0):=by
 have h80:F80 (2,4)=some true:=F80_ok 2 4
 rw [F55_eq]
 have a1:decide ((10:Int) < 0)=false:=by decide
 have a2:decide ((10:Int) > 1099511627776)=false:=by decide
 have a4:IntKind.wrap IntKind.i64 (10+1)=11:=by decide
 simp -implicitDefEqProofs only [h80,a1,a2,a4,eq_self,xs]
 rw [loop7]
 ·rfl
 all_goals rfl
theorem F27_at:F27 (10,2,4)=some (7,0):=by
 rw [F27_eq]
 have h55:=F55_at
 have a1:decide ((10:Int) < 1)=false:=by decide
 have a2:decide ((10:Int) > 1000000)=false:=by decide
 have a3:decide ((7:Int) < 1)=false:=by decide
 simp -implicitDefEqProofs only [h55,nz0,a1,a2,a3,eq_self,xs]
theorem nmA:nmB (ByteArray.mk #[97])=true:=by decide
theorem F12_ok:F12 ()=some true:=by
 rw [F12_eq,F36_eq,F14_eq,F37_eq]
 have t1:=F10_ok (T1:=10) (T2:=2) (T3:=4) (wb:=0) (js:=[]) (ks:=[]) (now:=6) (m:=mEx (ByteArray.mk #[97])) F27_at (fun _=>by omega) (WorkOk.sz ((work_iff _).1 work0)) (by decide) (by decide) (by decide)
 have t2:=F10_ok (T1:=10) (T2:=2) (T3:=4) (wb:=0) (js:=[]) (ks:=[]) (now:=12) (m:=mEx (ByteArray.mk #[97])) F27_at (fun _=>by omega) (WorkOk.sz ((work_iff _).1 work0)) (by decide) (by decide) (by decide)
 rw [take_a nmA] at t1
 have hn:=nm_sz nmA
 have s1:SzW (0,[],[(ByteArray.mk #[97],3,true,true)]):=⟨by decide,by decide,(fun x hx=>nomatch hx),(fun x hx=>by rw [List.mem_singleton] at hx; rw [hx]; exact hn)⟩
 have t3:=F10_ok (T1:=10) (T2:=2) (T3:=4) (now:=8) (m:=mEx (ByteArray.mk #[97])) F27_at (fun _=>by omega) s1 (by decide) (by decide) (by decide)
 have t4:=F15_ok (now:=7) (tk:=ByteArray.mk #[97]) (gd:=true) (WorkOk.sz ((work_iff _).1 (work1 nmA)))
 rw [end_a nmA] at t4
 have u2:=take_b nmA
 have u3:=take_c nmA
 unfold mEx at t1 t2 t3 u2 u3
 generalize takeR 7 0 _ 12 _=r2 at *
 generalize takeR 7 0 _ 8 _=r3 at *
 simp -implicitDefEqProofs only [t1,t2,t3,t4,u2,u3,eq_self,xs]
 rfl
end Go.Proofs.YthidhledenklhaaGreat.VL
end
section
namespace Go.Proofs.YthidhledenklhaaGreat.VL
open Go
set_option linter.unusedVariables false
set_option linter.unusedSectionVars false
set_option linter.unusedSimpArgs false
set_option maxRecDepth 100000
variable [Val]
def fI (T D R x:Int):Bool:=decide (x+D+x.tdiv R ≥ T)
def boundB (D R:Int):Bool:=(decide (0≤D)&&decide (D≤1099511627776))&&(decide (1≤R)&&decide (R≤1099511627776))
theorem div_range {x R:Int} (h0:0≤x) (hR:1≤R):0≤x.tdiv R∧x.tdiv R≤x:=by
 have e:=Int.tdiv_eq_ediv_of_nonneg (b:=R) h0
 have h1:=Int.ediv_nonneg h0 (show 0≤R by omega)
 have h2:=Int.ediv_le_self R h0
 omega
theorem div_mono {x y R:Int} (h0:0≤x) (h:x≤y) (hR:1≤R):x.tdiv R≤y.tdiv R:=by
 rw [Int.tdiv_eq_ediv_of_nonneg (b:=R) h0,Int.tdiv_eq_ediv_of_nonneg (b:=R) (show 0≤y by omega)]
 exact Int.ediv_le_ediv (by omega) h
theorem f_mono {T D R x y:Int} (h0:0≤x) (h:x≤y) (hR:1≤R) (hf:fI T D R x=true):fI T D R y=true:=by
 have:=div_mono h0 h hR
 simp only [fI,decide_eq_true_eq] at hf ⊢
 omega
theorem bound_at {D R:Int} (h:boundB D R=true):0≤D∧D≤1099511627776∧1≤R∧R≤1099511627776:=by
 simp only [boundB,Bool.and_eq_true,decide_eq_true_eq] at h
 omega
structure GuardIs (T D R:Int) (H:Nat):Prop where
 le:(H:Int)≤T
 lo:∀ x:Nat,x < H→fI T D R x=false
 hi:∀ x:Nat,H≤x→fI T D R x=true
theorem least_of (p:Nat→Bool):∀ n:Nat,p n=true→∃ H,H≤n∧p H=true∧∀ x,x < H→p x=false
 | 0,h=>⟨0,Nat.le_refl _,h,fun x hx=>by omega⟩
 | n+1,h=>by
  cases hn:p 0
  ·obtain ⟨H,h1,h2,h3⟩:=least_of (fun x=>p (x+1)) n h
   refine ⟨H+1,by omega,h2,fun x hx=>?_⟩
   match x with
   | 0=>exact hn
   | x+1=>exact h3 x (by omega)
  ·exact ⟨0,Nat.zero_le _,hn,fun x hx=>by omega⟩
theorem guard_is {T D R:Int} (hT:0≤T) (hb:boundB D R=true):∃ H,GuardIs T D R H:=by
 obtain ⟨h1,h2,h3,h4⟩:=bound_at hb
 have hq:=div_range hT h3
 obtain ⟨H,a,b,c⟩:=least_of (fun x=>fI T D R x) T.toNat (by
  simp only [fI,decide_eq_true_eq]
  rw [show ((T.toNat:Nat):Int)=T by omega]
  omega)
 exact ⟨H,by omega,c,fun x hx=>f_mono (by omega) (show (H:Int)≤x by omega) h3 b⟩
theorem F38_ok (D R:Int):F38 (D,R)=some (boundB D R):=by
 rw [F38_eq]
 unfold boundB
 show cond (decide (0≤D)) (cond (decide (D≤1099511627776)) (cond (decide (1≤R)) (some (decide (R≤1099511627776))) (some false)) (some false)) (some false)=_
 cases decide (0≤D)<;>cases decide (D≤1099511627776)<;>cases decide (1≤R)<;>rfl
theorem F55_ok {T D R:Int} {H:Nat} (hT:0≤T) (hT2:T≤1099511627776) (hb:boundB D R=true) (hG:GuardIs T D R H):F55 (T,D,R)=some ((H:Int),0):=by
 obtain ⟨b1,b2,b3,b4⟩:=bound_at hb
 have h80:F80 (D,R)=some true:=by rw [F80_ok]; exact congrArg some hb
 rw [F55_eq]
 have h0:¬ T < 0:=by omega
 have h1:¬ T > 1099511627776:=by omega
 have hR:¬ R=0:=by omega
 have hw:IntKind.wrap .i64 (T+1)=T+1:=wi (by omega) (by omega)
 have hH:=hG.le
 simp -implicitDefEqProofs only [h0,h1,h80,hw,hR,eq_self,xs]
 have key:∀ x:Option Int,(∃ r,x=some r∧r=(H:Int))→(Option.bind x fun v4=>some (v4,(0:Int)))=some ((H:Int),0):=by
  rintro x ⟨r,rfl,rfl⟩; rfl
 refine key _ (loop_ex (s:=((0:Int),T+1)) (fun s:Int×Int=>0≤s.1∧s.1≤H∧(H:Int)≤s.2∧s.2≤T+1) (fun s=>(s.2 - s.1).toNat) _ ?_ ⟨by simp only; omega,by simp only; omega,by simp only; omega,Int.le_refl _⟩)
 rintro ⟨i,j⟩ ⟨g0,g1,g2,g3⟩
 simp only at g0 g1 g2 g3
 by_cases hij:i < j
 ·right
  obtain ⟨a,rfl⟩:∃ a:Nat,i=a:=⟨i.toNat,by omega⟩
  obtain ⟨b,rfl⟩:∃ b:Nat,j=b:=⟨j.toNat,by omega⟩
  have hm:=mid (i:=a) (j:=b) (by omega)
  have hw2:IntKind.wrap .i64 ((((a+b) / 2:Nat):Int)+1)=(((a+b) / 2+1:Nat):Int):=by rw [wi (by omega) (by omega)]; omega
  have q:=div_range (x:=(((a+b) / 2:Nat):Int)) (by omega) b3
  have w1:IntKind.wrap .i64 ((((a+b) / 2:Nat):Int)+D)=(((a+b) / 2:Nat):Int)+D:=wi (by omega) (by omega)
  have w2:IntKind.wrap .i64 (Int.tdiv (((a+b) / 2:Nat):Int) R)=Int.tdiv (((a+b) / 2:Nat):Int) R:=wi (by omega) (by omega)
  have w3:IntKind.wrap .i64 ((((a+b) / 2:Nat):Int)+D+Int.tdiv (((a+b) / 2:Nat):Int) R)=(((a+b) / 2:Nat):Int)+D+Int.tdiv (((a+b) / 2:Nat):Int) R:=wi (by omega) (by omega)
  have hf:fI T D R (((a+b) / 2:Nat):Int)=decide ((((a+b) / 2:Nat):Int)+D+Int.tdiv (((a+b) / 2:Nat):Int) R ≥ T):=rfl
  simp -implicitDefEqProofs only [hij,hm,hw2,w1,w2,w3,eq_self,xs]
  rw [← hf]
  cases hc:fI T D R (((a+b) / 2:Nat):Int)
  ·have:(a+b) / 2 < H:=by
    rcases Nat.lt_or_ge ((a+b) / 2) H with h | h
    ·exact h
    ·rw [hG.hi _ h] at hc; cases hc
   exact ⟨_,rfl,⟨by simp only; omega,by simp only; omega,by simp only; omega,by simp only; omega⟩,by simp only; omega⟩
  ·have:H≤(a+b) / 2:=by
    rcases Nat.lt_or_ge ((a+b) / 2) H with h | h
    ·rw [hG.lo _ h] at hc; cases hc
    ·exact h
   exact ⟨_,rfl,⟨by simp only; omega,by simp only; omega,by simp only; omega,by simp only; omega⟩,by simp only; omega⟩
 ·left
  simp -implicitDefEqProofs only [hij,eq_self,xs]
  exact ⟨_,rfl,by omega⟩
theorem F39_ok {T D R:Int} {H:Nat} (hb:boundB D R=true) (hG:GuardIs T D R H) (g:Nat) (h1:1≤g) (h2:(g:Int)≤1099511627776):F39 ((g:Int),T,D,R)=some (decide (g≤H)):=by
 obtain ⟨b1,b2,b3,b4⟩:=bound_at hb
 rw [F39_eq]
 have n0:((g:Int)==0)=false:=by rw [beq_eq_false_iff_ne]; omega
 have w1:IntKind.wrap .i64 ((g:Int) - 1)=((g - 1:Nat):Int):=by rw [wi (by omega) (by omega)]; omega
 have q:=div_range (x:=((g - 1:Nat):Int)) (by omega) b3
 have w2:IntKind.wrap .i64 (((g - 1:Nat):Int)+D)=((g - 1:Nat):Int)+D:=wi (by omega) (by omega)
 have w3:IntKind.wrap .i64 (((g - 1:Nat):Int).tdiv R)=((g - 1:Nat):Int).tdiv R:=wi (by omega) (by omega)
 have w4:IntKind.wrap .i64 (((g - 1:Nat):Int)+D+((g - 1:Nat):Int).tdiv R)=((g - 1:Nat):Int)+D+((g - 1:Nat):Int).tdiv R:=wi (by omega) (by omega)
 have r0:¬ R=0:=by omega
 simp -implicitDefEqProofs only [n0,w1,w2,w3,w4,r0,eq_self,xs]
 have lo:=hG.lo (g - 1)
 have hi:=hG.hi (g - 1)
 simp only [fI] at lo hi
 generalize ((g - 1:Nat):Int).tdiv R=qq at *
 by_cases h:g≤H
 ·have:=lo (by omega)
  simp only [decide_eq_false_iff_not] at this
  simp [h,show ((g - 1:Nat):Int)+D+qq < T by omega]
 ·have:=hi (by omega)
  simp only [decide_eq_true_eq] at this
  simp [h,show ¬ ((g - 1:Nat):Int)+D+qq < T by omega]
theorem F13_at {T D R:Int} {H:Nat} (hT:1≤T) (hT2:T≤1000000) (hb:boundB D R=true) (hG:GuardIs T D R H):F13 (T,D,R)=some (H:Int):=by
 rw [F13_eq]
 have h38:=F38_ok D R
 rw [hb] at h38
 have a:¬ T < 1:=by omega
 have b:¬ T > 1000000:=by omega
 have hH:=hG.le
 simp -implicitDefEqProofs only [a,b,h38,eq_self,xs]
 have key:∀ x:Option Int,(∃ r,x=some r∧r=(H:Int))→x=some (H:Int):=by
  rintro x ⟨r,rfl,rfl⟩; rfl
 refine key _ (loop_ex (s:=((0:Int),T)) (fun s:Int×Int=>0≤s.1∧s.1≤H∧(H:Int)≤s.2∧s.2≤T) (fun s=>(s.2 - s.1).toNat) _ ?_ ⟨by simp only; omega,by simp only; omega,by simp only; omega,Int.le_refl _⟩)
 rintro ⟨i,j⟩ ⟨g0,g1,g2,g3⟩
 simp only at g0 g1 g2 g3
 by_cases hij:i < j
 ·right
  obtain ⟨a,rfl⟩:∃ a:Nat,i=a:=⟨i.toNat,by omega⟩
  obtain ⟨b,rfl⟩:∃ b:Nat,j=b:=⟨j.toNat,by omega⟩
  have w1:IntKind.wrap .i64 ((a:Int)+(b:Int))=(a:Int)+b:=wi (by omega) (by omega)
  have w2:IntKind.wrap .i64 ((a:Int)+(b:Int)+1)=(a:Int)+b+1:=wi (by omega) (by omega)
  have w3:Int.tdiv ((a:Int)+(b:Int)+1) 2=(((a+b+1) / 2:Nat):Int):=by
   rw [Int.tdiv_eq_ediv_of_nonneg (by omega)]; omega
  have w4:IntKind.wrap .i64 (((a+b+1) / 2:Nat):Int)=(((a+b+1) / 2:Nat):Int):=wi (by omega) (by omega)
  have h39:=F39_ok hb hG ((a+b+1) / 2) (by omega) (by omega)
  have w5:IntKind.wrap .i64 ((((a+b+1) / 2:Nat):Int) - 1)=(((a+b+1) / 2 - 1:Nat):Int):=by rw [wi (by omega) (by omega)]; omega
  simp -implicitDefEqProofs only [hij,w1,w2,w3,w4,h39,w5,eq_self,xs]
  by_cases h:(a+b+1) / 2≤H
  ·rw [decide_eq_true h]
   exact ⟨_,rfl,⟨by simp only; omega,by simp only; omega,by simp only; omega,by simp only; omega⟩,by simp only; omega⟩
  ·rw [decide_eq_false h]
   exact ⟨_,rfl,⟨by simp only; omega,by simp only; omega,by simp only; omega,by simp only; omega⟩,by simp only; omega⟩
 ·left
  simp -implicitDefEqProofs only [hij,eq_self,xs]
  exact ⟨_,rfl,by omega⟩
theorem hold_eq (T D R:Int):∃ h:Int,F13 (T,D,R)=some h∧((h=0∧∃ g e:Int,F27 (T,D,R)=some (g,e)∧e≠0)∨((1≤h∧h≤1000000)∧F27 (T,D,R)=some (h,0))):=by
 by_cases t1:T < 1
 ·refine ⟨0,?_,.inl ⟨rfl,?_⟩⟩
  ·rw [F13_eq]; simp -implicitDefEqProofs only [t1,eq_self,xs]
  ·obtain ⟨g,e,h,h1,h2⟩:=F55_ex T D R
   rw [F27_eq]
   by_cases he:e=0
   ·subst he; simp -implicitDefEqProofs only [h,nz0,t1,eq_self,xs]; exact ⟨0,1,rfl,by decide⟩
   ·have z2:(e != 0)=true:=by rw [bne_iff_ne]; exact he
    simp -implicitDefEqProofs only [h,z2,eq_self,xs]; exact ⟨0,1,rfl,by decide⟩
 by_cases t2:T > 1000000
 ·refine ⟨0,?_,.inl ⟨rfl,?_⟩⟩
  ·rw [F13_eq]; simp -implicitDefEqProofs only [t1,t2,eq_self,xs]
  ·obtain ⟨g,e,h,h1,h2⟩:=F55_ex T D R
   rw [F27_eq]
   by_cases he:e=0
   ·subst he; simp -implicitDefEqProofs only [h,nz0,t1,t2,eq_self,xs]; exact ⟨0,1,rfl,by decide⟩
   ·have z2:(e != 0)=true:=by rw [bne_iff_ne]; exact he
    simp -implicitDefEqProofs only [h,z2,eq_self,xs]; exact ⟨0,1,rfl,by decide⟩
 cases hb:boundB D R
 ·refine ⟨0,?_,.inl ⟨rfl,?_⟩⟩
  ·have h38:=F38_ok D R
   rw [hb] at h38
   rw [F13_eq]; simp -implicitDefEqProofs only [t1,t2,h38,eq_self,xs]
  ·have h80:F80 (D,R)=some false:=by rw [F80_ok]; exact congrArg some hb
   have h55:F55 (T,D,R)=some (0,1):=by
    rw [F55_eq]
    have h0:¬ T < 0:=by omega
    have h1:¬ T > 1099511627776:=by omega
    simp -implicitDefEqProofs only [h0,h1,h80,eq_self,xs]
   rw [F27_eq]
   have z2:((1:Int) != 0)=true:=rfl
   simp -implicitDefEqProofs only [h55,z2,eq_self,xs]; exact ⟨0,1,rfl,by decide⟩
 obtain ⟨H,hG⟩:=guard_is (T:=T) (by omega) hb
 have h13:=F13_at (by omega) (by omega) hb hG
 have h55:=F55_ok (by omega) (by omega) hb hG
 have hH:=hG.le
 refine ⟨H,h13,?_⟩
 by_cases h1:(H:Int) < 1
 ·refine .inl ⟨by omega,?_⟩
  rw [F27_eq]
  simp -implicitDefEqProofs only [h55,nz0,t1,t2,h1,eq_self,xs]; exact ⟨0,1,rfl,by decide⟩
 ·refine .inr ⟨⟨by omega,by omega⟩,?_⟩
  rw [F27_eq]
  simp -implicitDefEqProofs only [h55,nz0,t1,t2,h1,eq_self,xs]
end Go.Proofs.YthidhledenklhaaGreat.VL
end
section
namespace Go.Proofs.YthidhledenklhaaGreat.VL
open Go
set_option linter.unusedVariables false
set_option linter.unusedSectionVars false
set_option linter.unusedSimpArgs false
set_option maxRecDepth 100000
variable [Val]
theorem loop_del {α:Type} {l:List α} (keep:α→Bool) {f:(Int×Int)×List α→Option (((Int×Int)×List α) ⊕ (Int×List α))} (p:Nat) (hp:p < l.length)
  (hpre:(l.take (p+1)).filter keep=l.take p)
  (hend:∀ (i:Nat) (a:List α),a.length=l.length→f (((i:Int),(l.length:Int)),a)=some (.inr ((i:Int),a)))
  (hstep:∀ (i j:Nat) (a:List α) (x:α),i < j→j < l.length→a.length=l.length→a[j]?=some x→f (((i:Int),(j:Int)),a)=some (.inl (if keep x=true then ((((i+1:Nat):Int),((j+1:Nat):Int)),a.set i x) else (((i:Int),((j+1:Nat):Int)),a)))) :
  ∃ a,loopX f (((p:Int),((p+1:Nat):Int)),l)=some ((((l.filter keep).length:Nat):Int),a)∧(a.length=l.length∧a.take (l.filter keep).length=l.filter keep):=by
 have:=loop_ex (f:=f) (s:=(((p:Int),((p+1:Nat):Int)),l))
  (fun s=>∃ (i j:Nat) (a:List α),s=(((i:Int),(j:Int)),a)∧i < j∧j≤l.length∧a.length=l.length∧a.take i=(l.take j).filter keep∧((l.take j).filter keep).length=i∧a.drop j=l.drop j)
  (fun s=>(l.length - s.1.2).toNat) (fun r=>r.1=(((l.filter keep).length:Nat):Int)∧(r.2.length=l.length∧r.2.take (l.filter keep).length=l.filter keep)) ?_ ?_
 ·obtain ⟨r,h1,h2,h3⟩:=this
  exact ⟨r.2,by rw [h1]; exact congrArg some (Prod.ext h2 rfl),h3⟩
 ·rintro s ⟨i,j,a,rfl,hij,hj,hal,ht,hl,hd⟩
  rcases Nat.lt_or_ge j l.length with hlt | hge
  ·right
   have hx:a[j]?=l[j]?:=by
    have e:(a.drop j)[0]?=(l.drop j)[0]?:=by rw [hd]
    simpa using e
   have hlx:l[j]?=some l[j]:=List.getElem?_eq_getElem hlt
   rw [hlx] at hx
   have h:=hstep i j a l[j] hij hlt hal hx
   have tk:l.take (j+1)=l.take j++[l[j]]:=(List.take_append_getElem hlt).symm
   cases hk:keep l[j]
   ·rw [hk,if_neg (by decide)] at h
    refine ⟨_,h,⟨i,j+1,a,rfl,by omega,by omega,hal,?_,?_,?_⟩,?_⟩
    ·rw [tk,List.filter_append,ht,List.filter_cons_of_neg (by rw [hk]; decide)]; simp
    ·rw [tk,List.filter_append,List.filter_cons_of_neg (by rw [hk]; decide)]; simpa using hl
    ·rw [← List.drop_drop,hd,List.drop_drop]
    ·simp only; omega
   ·rw [hk,if_pos rfl] at h
    refine ⟨_,h,⟨i+1,j+1,a.set i l[j],rfl,by omega,by omega,by rw [List.length_set]; exact hal,?_,?_,?_⟩,?_⟩
    ·rw [tk,List.filter_append,List.filter_cons_of_pos hk,← ht]
     have hi:i < (a.set i l[j]).length:=by rw [List.length_set]; omega
     rw [← List.take_append_getElem hi,List.take_set_of_le (Nat.le_refl _)]
     simp
    ·rw [tk,List.filter_append,List.filter_cons_of_pos hk]; simp [hl]
    ·rw [List.drop_set_of_lt (by omega),← List.drop_drop,hd,List.drop_drop]
    ·simp only; omega
  ·left
   have e:j=l.length:=by omega
   subst e
   refine ⟨_,hend i a hal,?_⟩
   rw [List.take_length] at ht hl
   rw [hl]
   exact ⟨rfl,hal,ht⟩
 ·refine ⟨p,p+1,l,rfl,by omega,by omega,rfl,hpre.symm,?_,rfl⟩
  rw [hpre,List.length_take]; omega
def runB (now:Int) (j:JB):Bool:=!decide (now ≥ j.2.2)
def dropR (w:WB) (now:Int):WB×Int:=if (workB w&&momB now)=true then ((w.1,w.2.1.filter (runB now),w.2.2),0) else (w,1)
theorem filter_pre {α:Type} (keep:α→Bool):∀ (l:List α) (h:l.any (fun x=>!keep x)=true),(l.take (l.findIdx (fun x=>!keep x)+1)).filter keep=l.take (l.findIdx (fun x=>!keep x))
 | [],h=>by cases h
 | x::l,h=>by
  rw [List.findIdx_cons]
  cases hk:keep x
  ·simp [hk]
  ·have h':l.any (fun x=>!keep x)=true:=by simpa [hk] using h
   have:=filter_pre keep l h'
   simp only [hk,Bool.not_true,cond_false,List.take_succ_cons,List.filter_cons_of_pos hk]
   rw [this]
theorem F16_ok {wb now:Int} {js:List JB} {ks:List KB} (hz:SzW (wb,js,ks)):F16 ((wb,js,ks),now)=some (dropR (wb,js,ks) now):=by
 have h28:=F28_ok (now:=now) hz
 rw [F16_eq]
 unfold dropR
 cases hB:(workB (wb,js,ks)&&momB now)
 ·rw [hB] at h28
  simp -implicitDefEqProofs only [h28,eq_self,xs]
 rw [hB] at h28
 have hj:js.length≤1000:=hz.j
 have c32:=copy32 hj
 simp -implicitDefEqProofs only [h28,c32,eq_self,xs]
 rw [loop_first js (fun x=>!runB now x) (fun i=>(i:Int)) (-1) rfl]
 rotate_left
 ·have q:¬ ((js.length:Nat):Int) < ((js.length:Nat):Int):=by omega
  simp -implicitDefEqProofs only [q,eq_self,xs]
 ·intro i x hi hx
  have q1:((i:Nat):Int) < ((js.length:Nat):Int):=by omega
  have q2:(0:Int)≤(i:Int):=by omega
  simp -implicitDefEqProofs only [q1,q2,hx,w1 (show i≤9223372036854775806 by omega),eq_self,xs]
  unfold runB
  by_cases hn:now ≥ x.2.2
  ·rw [decide_eq_true hn]; rfl
  ·rw [decide_eq_false hn]; rfl
 cases hany:js.any (fun x=>!runB now x)
 ·have hall:List.filter (runB now) js=js:=by
   rw [List.filter_eq_self]
   intro x hx
   rw [Bool.eq_false_iff] at hany
   cases hr:runB now x
   ·exact absurd (List.any_eq_true.2 ⟨x,hx,by rw [hr]; rfl⟩) hany
   ·rfl
  have z:((-1:Int)==-1)=true:=rfl
  have q:0+js.length≤js.length:=by omega
  rw [if_neg (by decide),hall]
  simp -implicitDefEqProofs only [z,q,eq_self,xs]
  rw [List.drop_zero,List.take_length]
 ·rw [if_pos rfl]
  have hp:List.findIdx (fun x=>!runB now x) js < js.length:=by
   rw [List.findIdx_lt_length]
   exact List.any_eq_true.1 hany
  have hpre:=filter_pre (runB now) js hany
  generalize List.findIdx (fun x=>!runB now x) js=p at *
  have z:((p:Int)==-1)=false:=by rw [beq_eq_false_iff_ne]; omega
  have hw:=w1 (show p≤9223372036854775806 by omega)
  simp -implicitDefEqProofs only [z,hw,eq_self,xs]
  obtain ⟨a,h1,h2,h3⟩:=loop_del (l:=js) (runB now) (f:=fun v5=>bif decide (v5.fst.snd < ((js.length:Nat):Int)) then
           (bif decide (0≤v5.fst.snd)&&decide (v5.fst.snd < ((js.length:Nat):Int)) then
              v5.snd[v5.fst.snd.toNat]?.bind fun v6 =>
               bif !decide (now ≥ v6.snd.snd) then
                bif decide (0≤v5.fst.fst)&&decide (v5.fst.fst < ((js.length:Nat):Int)) then
                 v5.snd[v5.fst.fst.toNat]?.bind fun v7 =>
                  some
                   (IntKind.i64.wrap (v5.fst.fst+1),
                    v5.snd.set v5.fst.fst.toNat (v6.fst,v6.snd.fst,v6.snd.snd))
                else none
               else some (v5.fst.fst,v5.snd)
             else none).bind
            fun v8=>some (Sum.inl ((v8.fst,IntKind.i64.wrap (v5.fst.snd+1)),v8.snd))
          else some (Sum.inr (v5.fst.fst,v5.snd))) p hp hpre (by
    intro i a ha
    have q:¬ ((js.length:Nat):Int) < ((js.length:Nat):Int):=by omega
    simp -implicitDefEqProofs only [q,eq_self,xs]) (by
    intro i j a x hij hjl ha hx
    have q1:((j:Nat):Int) < ((js.length:Nat):Int):=by omega
    have q2:(0:Int)≤(j:Int):=by omega
    have q3:((i:Nat):Int) < ((js.length:Nat):Int):=by omega
    have q4:(0:Int)≤(i:Int):=by omega
    have hi:a[i]?=some a[i]:=List.getElem?_eq_getElem (by omega)
    unfold runB
    by_cases hn:now ≥ x.2.2
    ·simp -implicitDefEqProofs only [q1,q2,q3,q4,hx,hi,hn,w1 (show j≤9223372036854775806 by omega),eq_self,xs]
    ·simp -implicitDefEqProofs only [q1,q2,q3,q4,hx,hi,hn,w1 (show j≤9223372036854775806 by omega),w1 (show i≤9223372036854775806 by omega),eq_self,xs])
  have hk:(js.filter (runB now)).length≤js.length:=List.length_filter_le _ _
  generalize hm:(js.filter (runB now)).length=m at *
  have q1:(0:Int)≤((m:Nat):Int):=by omega
  have q2:((m:Nat):Int)≤((js.length:Nat):Int):=by omega
  have q3:m+(js.length - m)≤a.length:=by omega
  rw [h1]
  simp -implicitDefEqProofs only [q1,q2,q3,eq_self,xs]
  have hl:(List.take m a).length=m:=by rw [List.length_take]; omega
  have q4:m≤(List.take m a).length+(List.replicate (js.length - m) (((ByteArray.mk #[]),0,0):JB)).length+(List.drop (m+(js.length - m)) a).length:=by omega
  rw [ct (decide_eq_true q4),List.drop_zero,List.append_assoc,List.take_left' hl,h3]
theorem find_first {α:Type} (p:α→Bool):∀ l:List α,l.find? p=if l.any p=true then l[l.findIdx p]? else none
 | []=>rfl
 | x::l=>by
  rw [List.findIdx_cons,List.find?_cons,List.any_cons]
  cases hp:p x
  ·rw [Bool.false_or,find_first p l]
   simp only [cond_false,List.getElem?_cons_succ]
  ·rfl
def knownR (ks:List KB) (tk:ByteArray):Int×(Bool×Bool):=match lkn Prod.fst ks tk with | some x=>(x.2.1,x.2.2.1,true) | none=>(0,false,false)
theorem F18_ok {wb:Int} {js:List JB} {ks:List KB} (hk:ks.length≤1000) (tk:ByteArray):F18 ((wb,js,ks),tk)=some (knownR ks tk):=by
 rw [F18_eq]
 rw [loop_first ks (fun x=>eqN x.1 tk) (fun i=>match ks[i]? with | some x=>(x.2.1,x.2.2.1,true) | none=>(0,false,false)) (0,false,false) rfl]
 rotate_left
 ·have q:¬ ((ks.length:Nat):Int) < ((ks.length:Nat):Int):=by omega
  simp -implicitDefEqProofs only [q,eq_self,xs]
 ·intro i x hi hx
  have q1:((i:Nat):Int) < ((ks.length:Nat):Int):=by omega
  have q2:(0:Int)≤(i:Int):=by omega
  simp -implicitDefEqProofs only [q1,q2,hx,w1 (show i≤9223372036854775806 by omega),eq_self,xs]
  unfold eqN
  cases (x.1.toList==tk.toList)<;>rfl
 ·unfold knownR lkn
  rw [find_first]
  congr 1
  cases h:ks.any (fun x=>eqN x.1 tk)
  ·rfl
  ·rfl
end Go.Proofs.YthidhledenklhaaGreat.VL
end
section
namespace Go.Proofs.YthidhledenklhaaGreat.VL
open Go
set_option linter.unusedVariables false
set_option linter.unusedSectionVars false
set_option linter.unusedSimpArgs false
set_option maxRecDepth 100000
variable [Val]
theorem jeq (x y:JB):((x.1.toList==y.1.toList)&&((x.2.1==y.2.1)&&(x.2.2==y.2.2)))=decide (x=y):=by
 rw [Bool.eq_iff_iff,decide_eq_true_iff]
 simp only [Bool.and_eq_true,beq_iff_eq]
 constructor
 ·rintro ⟨h1,h2,h3⟩; exact Prod.ext (toList_inj h1) (Prod.ext h2 h3)
 ·rintro rfl; exact ⟨rfl,rfl,rfl⟩
theorem keq (x y:KB):((x.1.toList==y.1.toList)&&((x.2.1==y.2.1)&&((x.2.2.1==y.2.2.1)&&(x.2.2.2==y.2.2.2))))=decide (x=y):=by
 rw [Bool.eq_iff_iff,decide_eq_true_iff]
 simp only [Bool.and_eq_true,beq_iff_eq]
 constructor
 ·rintro ⟨h1,h2,h3,h4⟩; exact Prod.ext (toList_inj h1) (Prod.ext h2 (Prod.ext h3 h4))
 ·rintro rfl; exact ⟨rfl,rfl,rfl,rfl⟩
theorem len_ne {α:Type} [DecidableEq α] {a b:List α} (h:a.length≠b.length):(((a.length:Nat):Int) != ((b.length:Nat):Int))=true∧decide (a=b)=false:=by
 refine ⟨by rw [bne_iff_ne]; omega,decide_eq_false (fun k=>h (by rw [k]))⟩
theorem len_eq {α:Type} {a b:List α} (h:a.length=b.length):(((a.length:Nat):Int) != ((b.length:Nat):Int))=false:=by rw [h]; exact bne_self_eq_false _
theorem F53_ok {a b:List JB} (ha:a.length≤1000):F53 (a,b)=some (decide (a=b)):=by
 rw [F53_eq]
 by_cases hl:a.length=b.length
 ·simp -implicitDefEqProofs only [len_eq hl,eq_self,xs]
  rw [loop_same (s0:=(0:Int)) a b hl rfl]
  ·simp -implicitDefEqProofs only [not_lt_self,eq_self,xs]
  ·intro i x y hi hx hy
   have q1:((i:Nat):Int) < ((a.length:Nat):Int):=by omega
   have q2:(0:Int)≤(i:Int):=by omega
   simp -implicitDefEqProofs only [q1,q2,hx,hy,w1 (show i≤9223372036854775806 by omega),eq_self,xs]
   rw [jeq]
   by_cases he:x=y
   ·rw [decide_eq_true he,if_pos he]; rfl
   ·rw [decide_eq_false he,if_neg he]; rfl
 ·obtain ⟨h1,h2⟩:=len_ne hl
  simp -implicitDefEqProofs only [h1,h2,eq_self,xs]
theorem F54_ok {a b:List KB} (ha:a.length≤1000):F54 (a,b)=some (decide (a=b)):=by
 rw [F54_eq]
 by_cases hl:a.length=b.length
 ·simp -implicitDefEqProofs only [len_eq hl,eq_self,xs]
  rw [loop_same (s0:=(0:Int)) a b hl rfl]
  ·simp -implicitDefEqProofs only [not_lt_self,eq_self,xs]
  ·intro i x y hi hx hy
   have q1:((i:Nat):Int) < ((a.length:Nat):Int):=by omega
   have q2:(0:Int)≤(i:Int):=by omega
   simp -implicitDefEqProofs only [q1,q2,hx,hy,w1 (show i≤9223372036854775806 by omega),eq_self,xs]
   rw [keq]
   by_cases he:x=y
   ·rw [decide_eq_true he,if_pos he]; rfl
   ·rw [decide_eq_false he,if_neg he]; rfl
 ·obtain ⟨h1,h2⟩:=len_ne hl
  simp -implicitDefEqProofs only [h1,h2,eq_self,xs]
def sameW (a b:WB):Bool:=(a.1==b.1)&&(decide (a.2.1=b.2.1)&&decide (a.2.2=b.2.2))
theorem sameW_iff {a b:WB}:sameW a b=true ↔ a=b:=by
 unfold sameW
 simp only [Bool.and_eq_true,beq_iff_eq,decide_eq_true_iff]
 constructor
 ·rintro ⟨h1,h2,h3⟩; exact Prod.ext h1 (Prod.ext h2 h3)
 ·rintro rfl; exact ⟨rfl,rfl,rfl⟩
theorem F22_ok {a b:WB} (ha:SzW a):F22 (a,b)=some (sameW a b):=by
 rw [F22_eq]
 unfold sameW
 have h1:=F53_ok (b:=b.2.1) ha.j
 have h2:=F54_ok (b:=b.2.2) ha.k
 cases hb:(a.1==b.1)
 ·simp -implicitDefEqProofs only [hb,eq_self,xs]
 ·simp -implicitDefEqProofs only [hb,h1,h2,eq_self,xs]
  cases decide (a.2.1=b.2.1)<;>rfl
theorem F11_ok {a b:WB} (ha:SzW a):F11 (a,b)=some (sameW a b):=by
 rw [F11_eq]
 unfold sameW
 have k1:=ha.j
 have k2:=ha.k
 cases hb:(a.1==b.1)
 ·have z:(a.1 != b.1)=true:=by unfold bne; rw [hb]; rfl
  simp -implicitDefEqProofs only [z,hb,eq_self,xs]
 have z:(a.1 != b.1)=false:=by unfold bne; rw [hb]; rfl
 by_cases hl:a.2.1.length=b.2.1.length
 case neg =>
  obtain ⟨h1,h2⟩:=len_ne hl
  simp -implicitDefEqProofs only [z,h1,h2,eq_self,xs]
 by_cases hk:a.2.2.length=b.2.2.length
 case neg =>
  obtain ⟨h1,h2⟩:=len_ne hk
  simp -implicitDefEqProofs only [z,len_eq hl,h1,h2,eq_self,xs]
 simp -implicitDefEqProofs only [z,len_eq hl,len_eq hk,eq_self,xs]
 by_cases he:a.2.1=b.2.1
 ·have hj:∀ i:Nat,a.2.1[i]?=b.2.1[i]?:=fun i=>by rw [he]
  rw [loop_detE (s0:=(0:Int)) a.2.1.length (fun i=>(i:Int)) (Sum.inl ()) rfl]
  rotate_left
  ·simp -implicitDefEqProofs only [not_lt_self,eq_self,xs]
  ·intro i hi
   have q1:((i:Nat):Int) < ((a.2.1.length:Nat):Int):=by omega
   have q2:(0:Int)≤(i:Int):=by omega
   have hx:a.2.1[i]?=some a.2.1[i]:=List.getElem?_eq_getElem hi
   have hy:b.2.1[i]?=some a.2.1[i]:=by rw [← hj]; exact hx
   simp -implicitDefEqProofs only [q1,q2,hx,hy,beq_self_eq_true,w1 (show i≤9223372036854775806 by omega),eq_self,xs]
  simp -implicitDefEqProofs only [eq_self,xs]
  rw [loop_same (s0:=(0:Int)) a.2.2 b.2.2 hk rfl]
  ·rw [decide_eq_true he]; rfl
  ·simp -implicitDefEqProofs only [not_lt_self,eq_self,xs]
  ·intro i x y hi hx hy
   have q1:((i:Nat):Int) < ((a.2.2.length:Nat):Int):=by omega
   have q2:(0:Int)≤(i:Int):=by omega
   simp -implicitDefEqProofs only [q1,q2,hx,hy,w1 (show i≤9223372036854775806 by omega),eq_self,xs]
   rw [keq]
   by_cases he:x=y
   ·rw [decide_eq_true he,if_pos he]; rfl
   ·rw [decide_eq_false he,if_neg he]; rfl
 ·have key:∀ x:Option (Unit ⊕ Bool),(∃ r,x=some r∧r=.inr false)→x=some (.inr false):=by
   rintro x ⟨r,rfl,rfl⟩; rfl
  have hne:∃ i,i < a.2.1.length∧a.2.1[i]?≠b.2.1[i]?:=by
   refine Classical.byContradiction fun hn=>he (List.ext_getElem? fun i=>?_)
   rcases Nat.lt_or_ge i a.2.1.length with h | h
   ·exact Classical.byContradiction fun k=>hn ⟨i,h,k⟩
   ·rw [List.getElem?_eq_none h,List.getElem?_eq_none (by omega)]
  obtain ⟨p,p1,p2⟩:=hne
  rw [key _ (loop_ex (s:=(0:Int)) (fun s:Int=>∃ i:Nat,s=i∧i≤p) (fun s=>(a.2.1.length - s).toNat) _ ?_ ⟨0,rfl,Nat.zero_le _⟩)]
  ·rw [decide_eq_false he]; rfl
  rintro s ⟨i,rfl,hi⟩
  have q1:((i:Nat):Int) < ((a.2.1.length:Nat):Int):=by omega
  have q2:(0:Int)≤(i:Int):=by omega
  have hx:a.2.1[i]?=some a.2.1[i]:=List.getElem?_eq_getElem (by omega)
  have hy:b.2.1[i]?=some b.2.1[i]:=List.getElem?_eq_getElem (by omega)
  simp -implicitDefEqProofs only [q1,q2,hx,hy,w1 (show i≤9223372036854775806 by omega),eq_self,xs]
  rw [jeq]
  by_cases hxy:a.2.1[i]=b.2.1[i]
  ·rw [decide_eq_true hxy]
   refine .inr ⟨_,rfl,⟨i+1,rfl,?_⟩,by omega⟩
   have:i≠p:=by
    rintro rfl
    exact p2 (by rw [hx,hy,hxy])
   omega
  ·rw [decide_eq_false hxy]
   exact .inl ⟨_,rfl,rfl⟩
end Go.Proofs.YthidhledenklhaaGreat.VL
end
section
namespace Go.Proofs.YthidhledenklhaaGreat.VL
open Go
set_option linter.unusedVariables false
set_option linter.unusedSectionVars false
set_option linter.unusedSimpArgs false
set_option maxRecDepth 100000
variable [Val]
theorem F21_ok {w:WB} (h:SzW w):F21 w=some (workB w):=by
 obtain ⟨h1,h2,h3,h4⟩:=h
 rw [F21_eq]
 rw [gathN jk (l:=w.2.1) h1 (fun a=>a)]
 rotate_left
 ·intro a; simp -implicitDefEqProofs only [not_lt_self,eq_self,xs]
 ·intro i x a hi hx ha
  have q1:((i:Nat):Int) < ((w.2.1.length:Nat):Int):=by omega
  have q2:(0:Int)≤(i:Int):=by omega
  have q3:(((a.length+1:Nat):Int) * 16≤70368744177664):=by omega
  have q4:(((a.length+1:Nat):Int)≤70368744177664):=by omega
  simp -implicitDefEqProofs only [q1,q2,hx,q3,q4,w1 (show i≤9223372036854775806 by omega),eq_self,xs]
  rfl
 simp -implicitDefEqProofs only [eq_self,xs]
 have key:∀ x:Option (List ByteArray ⊕ Bool),(∃ r,x=some r∧r=(if w.2.2.all okK=true then .inl (w.2.2.map kk) else .inr false))→x=some (if w.2.2.all okK=true then .inl (w.2.2.map kk) else .inr false):=by
  rintro x ⟨r,rfl,rfl⟩; rfl
 rw [key _ (loop_ex (s:=((0:Int),([]:List ByteArray))) (fun s=>∃ (i:Nat) (acc:List ByteArray),s=((i:Int),acc)∧acc=(w.2.2.take i).map kk∧i≤w.2.2.length∧(w.2.2.take i).all okK=true) (fun s=>(w.2.2.length - s.1).toNat) _ ?_ ⟨0,[],rfl,rfl,Nat.zero_le _,rfl⟩)]
 ·unfold workB
  cases hg:w.2.2.all okK
  ·rw [if_neg (by decide),Bool.false_and,Bool.and_false]
   simp -implicitDefEqProofs only [eq_self,xs]
  rw [if_pos rfl]
  have f1:=F52_ok (szN_map (key:=jk) h1 h3)
  have f2:=F52_ok (szN_map (key:=kk) h2 h4)
  simp -implicitDefEqProofs only [f1,f2,eq_self,xs]
  cases tasksB (w.2.1.map jk)
  ·simp -implicitDefEqProofs only [eq_self,xs]
  cases tasksB (w.2.2.map kk)
  ·simp -implicitDefEqProofs only [eq_self,xs]
  simp -implicitDefEqProofs only [eq_self,xs]
  rw [loop_list (s0:=(0:Int)) w.2.1 (okJ w.2.2) false true rfl]
  ·cases w.2.1.all (okJ w.2.2)<;>rfl
  ·simp -implicitDefEqProofs only [not_lt_self,eq_self,xs]
  ·intro i x hi hx
   have q1:((i:Nat):Int) < ((w.2.1.length:Nat):Int):=by omega
   have q2:(0:Int)≤(i:Int):=by omega
   have h18:=F18_ok (wb:=w.1) (js:=w.2.1) (ks:=w.2.2) h2 x.1
   simp -implicitDefEqProofs only [q1,q2,hx,h18,w1 (show i≤9223372036854775806 by omega),dlt x.2.2 0,dgt x.2.2 2199023255552,eq_self,xs]
   unfold okJ knownR
   have e:lkn kk w.2.2 x.1=lkn Prod.fst w.2.2 x.1:=rfl
   rw [e]
   cases hl:lkn Prod.fst w.2.2 x.1 with
   | none=>cases decide (0≤x.2.2)<;>cases decide (x.2.2≤2199023255552)<;>rfl
   | some y =>
    have hy:y ∈ w.2.2:=(lkn_key hl).1
    have hok:okK y=true:=(List.all_eq_true.1 hg) y hy
    unfold okK at hok
    obtain ⟨yn,yt,yo,yg⟩:=y
    simp only at hok ⊢
    rw [ite_cond]
    unfold bne
    cases decide (0≤x.2.2)<;>cases decide (x.2.2≤2199023255552)<;>cases (yt==x.2.1)<;>cases yo<;>cases yg<;>first | rfl | (cases hok)
 rintro s ⟨i,acc,rfl,hacc,hi,ha⟩
 rcases Nat.lt_or_ge i w.2.2.length with hlt | hge
 ·have q1:((i:Nat):Int) < ((w.2.2.length:Nat):Int):=by omega
  have q2:(0:Int)≤(i:Int):=by omega
  have hx:w.2.2[i]?=some w.2.2[i]:=List.getElem?_eq_getElem hlt
  have hlen:acc.length=i:=by rw [hacc,List.length_map,List.length_take]; omega
  have q3:(((acc.length+1:Nat):Int) * 16≤70368744177664):=by omega
  have q4:(((acc.length+1:Nat):Int)≤70368744177664):=by omega
  have tk:w.2.2.take (i+1)=w.2.2.take i++[w.2.2[i]]:=(List.take_append_getElem hlt).symm
  have hm:w.2.2[i] ∈ w.2.2:=List.getElem_mem hlt
  generalize hwx:w.2.2[i]=x at *
  have ez:acc++[x.1]=(w.2.2.take (i+1)).map kk:=by rw [tk,List.map_append,hacc]; rfl
  cases hok:okK x
  ·left
   have hall:w.2.2.all okK=false:=by rw [List.all_eq_false]; exact ⟨x,hm,by rw [hok]; decide⟩
   unfold okK at hok
   simp only [Bool.not_eq_false',Bool.and_eq_true,Bool.not_eq_true'] at hok
   simp -implicitDefEqProofs only [q1,q2,hx,q3,q4,hok.1,hok.2,eq_self,xs]
   rw [hall]
   exact ⟨_,rfl,rfl⟩
  ·right
   have hall2:(w.2.2.take (i+1)).all okK=true:=by rw [tk,List.all_append,ha]; simp [hok]
   have hcc:(cond x.2.2.2 (some (!x.2.2.1)) (some false))=some false:=by
    unfold okK at hok
    cases h5:x.2.2.2
    ·rfl
    ·rw [h5] at hok
     cases h6:x.2.2.1
     ·rw [h6] at hok; cases hok
     ·rfl
   simp -implicitDefEqProofs only [q1,q2,hx,q3,q4,hcc,w1 (show i≤9223372036854775806 by omega),eq_self,xs]
   exact ⟨_,rfl,⟨i+1,_,rfl,ez,hlt,hall2⟩,by simp only; omega⟩
 ·left
  have e:i=w.2.2.length:=by omega
  subst e
  rw [List.take_length] at ha hacc
  simp -implicitDefEqProofs only [not_lt_self,ha,eq_self,xs]
  exact ⟨_,rfl,by rw [hacc]⟩
theorem fm_filter {α:Type} (p:α→Bool):∀ l:List α,l.filterMap (fun x=>if p x=true then some x else none)=l.filter p
 | []=>rfl
 | x::l=>by
  rw [List.filterMap_cons,List.filter_cons,fm_filter p l]
  cases h:p x
  ·rw [if_neg (by decide)]; rfl
  ·rw [if_pos rfl]; rfl
theorem F50_ok {l:List JB} (hl:l.length≤1000) (tk:ByteArray):F50 (l,tk)=some (l.filter (fun x=>!eqN x.1 tk)):=by
 rw [F50_eq]
 rw [loop_gath (s0:=((0:Int),([]:List JB))) l (fun x=>if (!eqN x.1 tk)=true then some x else none) (fun a=>a) rfl]
 ·rw [fm_filter]
 ·intro a ha
  simp -implicitDefEqProofs only [not_lt_self,eq_self,xs]
 ·intro i x a hi hx ha
  have q1:((i:Nat):Int) < ((l.length:Nat):Int):=by omega
  have q2:(0:Int)≤(i:Int):=by omega
  have q3:(((a.length+1:Nat):Int) * 32≤70368744177664):=by omega
  have q4:(((a.length+1:Nat):Int)≤70368744177664):=by omega
  unfold eqN
  cases he:(x.1.toList==tk.toList)
  ·simp -implicitDefEqProofs only [q1,q2,hx,q3,q4,he,w1 (show i≤9223372036854775806 by omega),eq_self,xs]
   rfl
  ·simp -implicitDefEqProofs only [q1,q2,hx,q3,q4,he,w1 (show i≤9223372036854775806 by omega),eq_self,xs]
   simp
theorem F25_ok {wb now:Int} {js:List JB} {ks:List KB} (hj:js.length≤1000):F25 ((wb,js,ks),now)=some (wb,js.filter (runB now),ks):=by
 rw [F25_eq]
 rw [loop_gath (s0:=((0:Int),([]:List JB))) js (fun x=>if runB now x=true then some x else none) (fun a=>a) rfl]
 ·rw [fm_filter]
  simp -implicitDefEqProofs only [eq_self,xs]
 ·intro a ha
  simp -implicitDefEqProofs only [not_lt_self,eq_self,xs]
 ·intro i x a hi hx ha
  have q1:((i:Nat):Int) < ((js.length:Nat):Int):=by omega
  have q2:(0:Int)≤(i:Int):=by omega
  have q3:(((a.length+1:Nat):Int) * 32≤70368744177664):=by omega
  have q4:(((a.length+1:Nat):Int)≤70368744177664):=by omega
  unfold runB
  by_cases hn:now < x.2.2
  ·have hn':¬ now ≥ x.2.2:=by omega
   simp -implicitDefEqProofs only [q1,q2,hx,q3,q4,hn,hn',w1 (show i≤9223372036854775806 by omega),eq_self,xs]
   rfl
  ·have hn':now ≥ x.2.2:=by omega
   simp -implicitDefEqProofs only [q1,q2,hx,q3,q4,hn,hn',w1 (show i≤9223372036854775806 by omega),eq_self,xs]
   simp
theorem F26_ok {l:List JB} (hl:l.length≤1000):F26 (l.map Prod.fst,l)=some true:=by
 rw [F26_eq]
 have e:(((l.map Prod.fst).length:Nat):Int)=((l.length:Nat):Int):=by rw [List.length_map]
 have e0:((((l.map Prod.fst).length:Nat):Int) != ((l.length:Nat):Int))=false:=by rw [e]; exact bne_self_eq_false _
 simp -implicitDefEqProofs only [e0,eq_self,xs]
 rw [loop_detE (s0:=(0:Int)) l.length (fun i=>(i:Int)) true rfl]
 ·rw [e]; simp -implicitDefEqProofs only [not_lt_self,eq_self,xs]
 ·intro i hi
  have q1:((i:Nat):Int) < ((l.length:Nat):Int):=by omega
  have q2:(0:Int)≤(i:Int):=by omega
  have hx:l[i]?=some l[i]:=List.getElem?_eq_getElem hi
  have hy:(l.map Prod.fst)[i]?=some l[i].1:=by rw [List.getElem?_map,hx]; rfl
  rw [e]; simp -implicitDefEqProofs only [q1,q2,hx,hy,beq_self_eq_true,w1 (show i≤9223372036854775806 by omega),eq_self,xs]
theorem F19_ok {wb now:Int} {js:List JB} {ks:List KB} (hz:SzW (wb,js,ks)):F19 ((wb,js,ks),now)=some (if (workB (wb,js,ks)&&momB now)=true then (js.filter (runB now)).map Prod.fst else []):=by
 have h16:=F16_ok (now:=now) hz
 rw [F19_eq]
 unfold dropR at h16
 cases hB:(workB (wb,js,ks)&&momB now)
 ·rw [hB,if_neg (by decide)] at h16
  rw [if_neg (by decide)]
  have z:((1:Int) != 0)=true:=rfl
  simp -implicitDefEqProofs only [h16,z,eq_self,xs]
 rw [hB,if_pos rfl] at h16
 rw [if_pos rfl]
 simp only at h16
 have hj:js.length≤1000:=hz.j
 have hl:(js.filter (runB now)).length≤1000:=Nat.le_trans (List.length_filter_le _ _) hj
 generalize js.filter (runB now)=l at *
 simp -implicitDefEqProofs only [h16,nz0,eq_self,xs]
 rw [loop_gath (s0:=((0:Int),([]:List ByteArray))) l (fun x=>some x.1) (fun a=>a) rfl]
 ·rw [fm_map]
  simp -implicitDefEqProofs only [eq_self,xs]
 ·intro a ha
  simp -implicitDefEqProofs only [not_lt_self,eq_self,xs]
 ·intro i x a hi hx ha
  have q1:((i:Nat):Int) < ((l.length:Nat):Int):=by omega
  have q2:(0:Int)≤(i:Int):=by omega
  have q3:(((a.length+1:Nat):Int) * 16≤70368744177664):=by omega
  have q4:(((a.length+1:Nat):Int)≤70368744177664):=by omega
  simp -implicitDefEqProofs only [q1,q2,hx,q3,q4,w1 (show i≤9223372036854775806 by omega),eq_self,xs]
  rfl
end Go.Proofs.YthidhledenklhaaGreat.VL
end
section
namespace Go.Proofs.YthidhledenklhaaGreat.VL
open Go
set_option linter.unusedVariables false
set_option linter.unusedSectionVars false
set_option linter.unusedSimpArgs false
set_option maxRecDepth 100000
variable [Val]
theorem rbare1 {fr to sq wh ki ks ep bo ak tn:Int} {nw:List NW} {tb:List KW} {tk:ByteArray} {gd:Bool}:F76 (1,fr,to,sq,wh,ki,ks,nw,tb,ep,bo,ak,tk,tn,gd)=some (bareM (1,fr,to,sq,wh,ki,ks,nw,tb,ep,bo,ak,tk,tn,gd)):=by rw [F76_eq]; rfl
theorem rbare2 {fr to sq wh ki ks ep bo ak tn:Int} {nw:List NW} {tb:List KW} {tk:ByteArray} {gd:Bool}:F76 (2,fr,to,sq,wh,ki,ks,nw,tb,ep,bo,ak,tk,tn,gd)=some (bareM (2,fr,to,sq,wh,ki,ks,nw,tb,ep,bo,ak,tk,tn,gd)):=by rw [F76_eq]; rfl
theorem rbare3 {fr to sq wh ki ks ep bo ak tn:Int} {nw:List NW} {tb:List KW} {tk:ByteArray} {gd:Bool}:F76 (3,fr,to,sq,wh,ki,ks,nw,tb,ep,bo,ak,tk,tn,gd)=some (bareM (3,fr,to,sq,wh,ki,ks,nw,tb,ep,bo,ak,tk,tn,gd)):=by rw [F76_eq]; rfl
theorem rbare4 {fr to sq wh ki ks ep bo ak tn:Int} {nw:List NW} {tb:List KW} {tk:ByteArray} {gd:Bool}:F76 (4,fr,to,sq,wh,ki,ks,nw,tb,ep,bo,ak,tk,tn,gd)=some (bareM (4,fr,to,sq,wh,ki,ks,nw,tb,ep,bo,ak,tk,tn,gd)):=by rw [F76_eq]; rfl
theorem rbare5 {fr to sq wh ki ks ep bo ak tn:Int} {nw:List NW} {tb:List KW} {tk:ByteArray} {gd:Bool}:F76 (5,fr,to,sq,wh,ki,ks,nw,tb,ep,bo,ak,tk,tn,gd)=some (bareM (5,fr,to,sq,wh,ki,ks,nw,tb,ep,bo,ak,tk,tn,gd)):=by rw [F76_eq]; rfl
theorem rbare6 {fr to sq wh ki ks ep bo ak tn:Int} {nw:List NW} {tb:List KW} {tk:ByteArray} {gd:Bool}:F76 (6,fr,to,sq,wh,ki,ks,nw,tb,ep,bo,ak,tk,tn,gd)=some (bareM (6,fr,to,sq,wh,ki,ks,nw,tb,ep,bo,ak,tk,tn,gd)):=by rw [F76_eq]; rfl
theorem rbare7 {fr to sq wh ki ks ep bo ak tn:Int} {nw:List NW} {tb:List KW} {tk:ByteArray} {gd:Bool}:F76 (7,fr,to,sq,wh,ki,ks,nw,tb,ep,bo,ak,tk,tn,gd)=some (bareM (7,fr,to,sq,wh,ki,ks,nw,tb,ep,bo,ak,tk,tn,gd)):=by rw [F76_eq]; rfl
theorem rbare8 {fr to sq wh ki ks ep bo ak tn:Int} {nw:List NW} {tb:List KW} {tk:ByteArray} {gd:Bool}:F76 (8,fr,to,sq,wh,ki,ks,nw,tb,ep,bo,ak,tk,tn,gd)=some (bareM (8,fr,to,sq,wh,ki,ks,nw,tb,ep,bo,ak,tk,tn,gd)):=by rw [F76_eq]; rfl
theorem rbare9 {fr to sq wh ki ks ep bo ak tn:Int} {nw:List NW} {tb:List KW} {tk:ByteArray} {gd:Bool}:F76 (9,fr,to,sq,wh,ki,ks,nw,tb,ep,bo,ak,tk,tn,gd)=some (bareM (9,fr,to,sq,wh,ki,ks,nw,tb,ep,bo,ak,tk,tn,gd)):=by rw [F76_eq]; rfl
theorem rbare10 {fr to sq wh ki ks ep bo ak tn:Int} {nw:List NW} {tb:List KW} {tk:ByteArray} {gd:Bool}:F76 (10,fr,to,sq,wh,ki,ks,nw,tb,ep,bo,ak,tk,tn,gd)=some (bareM (10,fr,to,sq,wh,ki,ks,nw,tb,ep,bo,ak,tk,tn,gd)):=by rw [F76_eq]; rfl
theorem rbare11 {fr to sq wh ki ks ep bo ak tn:Int} {nw:List NW} {tb:List KW} {tk:ByteArray} {gd:Bool}:F76 (11,fr,to,sq,wh,ki,ks,nw,tb,ep,bo,ak,tk,tn,gd)=some (bareM (11,fr,to,sq,wh,ki,ks,nw,tb,ep,bo,ak,tk,tn,gd)):=by rw [F76_eq]; rfl
theorem rbare12 {fr to sq wh ki ks ep bo ak tn:Int} {nw:List NW} {tb:List KW} {tk:ByteArray} {gd:Bool}:F76 (12,fr,to,sq,wh,ki,ks,nw,tb,ep,bo,ak,tk,tn,gd)=some (bareM (12,fr,to,sq,wh,ki,ks,nw,tb,ep,bo,ak,tk,tn,gd)):=by rw [F76_eq]; rfl
theorem rmay1 {fr to sq wh ki ks ep bo ak tn:Int} {nw:List NW} {tb:List KW} {tk:ByteArray} {gd:Bool} (hw:nw.length≤1000) (ht:tb.length≤1000) (hk:tk.size≤maxLen):F49 (1,fr,to,sq,wh,ki,ks,nw,tb,ep,bo,ak,tk,tn,gd)=some (msgB (1,fr,to,sq,wh,ki,ks,nw,tb,ep,bo,ak,tk,tn,gd)):=by
 rw [F49_eq]
 have hb:=rbare1 (fr:=fr) (to:=to) (sq:=sq) (wh:=wh) (ki:=ki) (ks:=ks) (nw:=nw) (tb:=tb) (ep:=ep) (bo:=bo) (ak:=ak) (tk:=tk) (tn:=tn) (gd:=gd)
 have hbm:bareM (1,fr,to,sq,wh,ki,ks,nw,tb,ep,bo,ak,tk,tn,gd)=(1,fr,to,sq,0,ki,ks,nw,[],0,0,0,(⟨#[]⟩:ByteArray),0,false):=rfl
 rw [hbm] at hb
 have hs:=(rsame_eq (1,fr,to,sq,wh,ki,ks,nw,tb,ep,bo,ak,tk,tn,gd) (bareM (1,fr,to,sq,wh,ki,ks,nw,tb,ep,bo,ak,tk,tn,gd))).trans (same_ok (1,fr,to,sq,wh,ki,ks,nw,tb,ep,bo,ak,tk,tn,gd) (bareM (1,fr,to,sq,wh,ki,ks,nw,tb,ep,bo,ak,tk,tn,gd)) hw ht)
 rw [hbm] at hs
 have k1:¬ ((1:Int) < 1):=by decide
 have k2:¬ ((1:Int) > 12):=by decide
 have hp:partsB (1,fr,to,sq,wh,ki,ks,nw,tb,ep,bo,ak,tk,tn,gd)=((!kindB 1 1 || nodeB wh)&&((!kindB 1 2 || knowB ks)&&((!kindB 1 3 || newsB nw)&&((!kindB 1 4 || tabB tb)&&((!kindB 1 7 || tickB ak)&&((!kindB 1 8 || nmB tk))))))):=rfl
 have kb1:kindB 1 1=false:=rfl
 have kb2:kindB 1 2=true:=rfl
 have kb3:kindB 1 3=true:=rfl
 have kb4:kindB 1 4=false:=rfl
 have kb7:kindB 1 7=false:=rfl
 have kb8:kindB 1 8=false:=rfl
 simp -implicitDefEqProofs only [rnode_ok fr,rnode_ok to,hb,hs,k1,k2,eq_self,xs]
 unfold msgB
 rw [hbm,hp]
 have kk1:decide ((1:Int)≤1)=true:=rfl
 have kk2:decide ((1:Int)≤12)=true:=rfl
 simp -implicitDefEqProofs only [kk1,kk2,kb1,kb2,kb3,kb4,kb7,kb8,eq_self,xs]
 cases nodeB fr
 ·simp -implicitDefEqProofs only [eq_self,xs]
 cases nodeB to
 ·simp -implicitDefEqProofs only [eq_self,xs]
 cases (fr==to)
 rotate_left
 ·simp -implicitDefEqProofs only [eq_self,xs]
 simp -implicitDefEqProofs only [eq_self,xs]
 cases hsb:sameB (1,fr,to,sq,wh,ki,ks,nw,tb,ep,bo,ak,tk,tn,gd) (1,fr,to,sq,0,ki,ks,nw,[],0,0,0,(⟨#[]⟩:ByteArray),0,false)
 ·simp -implicitDefEqProofs only [eq_self,xs]
 unfold sameB at hsb
 simp only [Bool.and_eq_true,beq_iff_eq,decide_eq_true_eq] at hsb
 obtain ⟨q0,q1,q2,q3,q4,q5,q6,q7,q8,q9,q10,q11,q12,q13,q14⟩:=hsb
 subst q4
 subst q8
 subst q11
 have z1:nodeB 0=true:=rfl
 have e2:decide (((List.length nw:Nat):Int) > 8)=!decide (List.length nw≤8):=by rw [Bool.eq_iff_iff,Bool.not_eq_true',decide_eq_true_iff,decide_eq_false_iff_not]; omega
 simp -implicitDefEqProofs only [rnode_ok 0,rknow_ok ki ks,e2,dlt 0 0,dgt 0 1099511627776,z1,eq_self,xs]
 cases knowB ks
 ·simp -implicitDefEqProofs only [eq_self,xs]
 simp -implicitDefEqProofs only [eq_self,xs]
 have hnw:newsB nw=(decide (nw.length≤8)&&nw.all tellB):=rfl
 rw [hnw]
 cases decide (nw.length≤8)
 ·simp -implicitDefEqProofs only [eq_self,xs]
 simp -implicitDefEqProofs only [eq_self,xs]
 have z3:decide ((0:Int)≤1099511627776)=true:=rfl
 have z4:decide ((0:Int)≤0)=true:=rfl
 try simp -implicitDefEqProofs only [z3,z4,eq_self,xs]
 rw [loop_list (s0:=(0:Int)) nw tellB (Sum.inr false) (Sum.inl ()) rfl]
 rotate_left
 ·simp -implicitDefEqProofs only [not_lt_self,Int.lt_irrefl,eq_self,xs]
 ·intro i x hi hx
  have q1:((i:Nat):Int) < ((List.length nw:Nat):Int):=by omega
  have q2:(0:Int)≤(i:Int):=by omega
  simp -implicitDefEqProofs only [q1,q2,hx,w1 (show i≤9223372036854775806 by omega),rnode_ok x.1,rknow_ok x.2.1 x.2.2,eq_self,xs]
  unfold tellB
  cases nodeB x.1<;>cases knowB x.2.2<;>rfl
 cases nw.all tellB
 ·simp -implicitDefEqProofs only [eq_self,xs]
 simp -implicitDefEqProofs only [eq_self,xs]
 have y5:((1:Int)==5)=false:=rfl
 have y6:((1:Int)==6)=false:=rfl
 have y11:decide ((1:Int) < 11)=true:=rfl
 simp -implicitDefEqProofs only [y5,y6,y11,rtab_ok ([]:List KW) (by simp),F79_ok hk,eq_self,xs]
theorem rmay2 {fr to sq wh ki ks ep bo ak tn:Int} {nw:List NW} {tb:List KW} {tk:ByteArray} {gd:Bool} (hw:nw.length≤1000) (ht:tb.length≤1000) (hk:tk.size≤maxLen):F49 (2,fr,to,sq,wh,ki,ks,nw,tb,ep,bo,ak,tk,tn,gd)=some (msgB (2,fr,to,sq,wh,ki,ks,nw,tb,ep,bo,ak,tk,tn,gd)):=by
 rw [F49_eq]
 have hb:=rbare2 (fr:=fr) (to:=to) (sq:=sq) (wh:=wh) (ki:=ki) (ks:=ks) (nw:=nw) (tb:=tb) (ep:=ep) (bo:=bo) (ak:=ak) (tk:=tk) (tn:=tn) (gd:=gd)
 have hbm:bareM (2,fr,to,sq,wh,ki,ks,nw,tb,ep,bo,ak,tk,tn,gd)=(2,fr,to,sq,wh,0,0,nw,[],0,0,0,(⟨#[]⟩:ByteArray),0,false):=rfl
 rw [hbm] at hb
 have hs:=(rsame_eq (2,fr,to,sq,wh,ki,ks,nw,tb,ep,bo,ak,tk,tn,gd) (bareM (2,fr,to,sq,wh,ki,ks,nw,tb,ep,bo,ak,tk,tn,gd))).trans (same_ok (2,fr,to,sq,wh,ki,ks,nw,tb,ep,bo,ak,tk,tn,gd) (bareM (2,fr,to,sq,wh,ki,ks,nw,tb,ep,bo,ak,tk,tn,gd)) hw ht)
 rw [hbm] at hs
 have k1:¬ ((2:Int) < 1):=by decide
 have k2:¬ ((2:Int) > 12):=by decide
 have hp:partsB (2,fr,to,sq,wh,ki,ks,nw,tb,ep,bo,ak,tk,tn,gd)=((!kindB 2 1 || nodeB wh)&&((!kindB 2 2 || knowB ks)&&((!kindB 2 3 || newsB nw)&&((!kindB 2 4 || tabB tb)&&((!kindB 2 7 || tickB ak)&&((!kindB 2 8 || nmB tk))))))):=rfl
 have kb1:kindB 2 1=true:=rfl
 have kb2:kindB 2 2=false:=rfl
 have kb3:kindB 2 3=true:=rfl
 have kb4:kindB 2 4=false:=rfl
 have kb7:kindB 2 7=false:=rfl
 have kb8:kindB 2 8=false:=rfl
 simp -implicitDefEqProofs only [rnode_ok fr,rnode_ok to,hb,hs,k1,k2,eq_self,xs]
 unfold msgB
 rw [hbm,hp]
 have kk1:decide ((1:Int)≤2)=true:=rfl
 have kk2:decide ((2:Int)≤12)=true:=rfl
 simp -implicitDefEqProofs only [kk1,kk2,kb1,kb2,kb3,kb4,kb7,kb8,eq_self,xs]
 cases nodeB fr
 ·simp -implicitDefEqProofs only [eq_self,xs]
 cases nodeB to
 ·simp -implicitDefEqProofs only [eq_self,xs]
 cases (fr==to)
 rotate_left
 ·simp -implicitDefEqProofs only [eq_self,xs]
 simp -implicitDefEqProofs only [eq_self,xs]
 cases hsb:sameB (2,fr,to,sq,wh,ki,ks,nw,tb,ep,bo,ak,tk,tn,gd) (2,fr,to,sq,wh,0,0,nw,[],0,0,0,(⟨#[]⟩:ByteArray),0,false)
 ·simp -implicitDefEqProofs only [eq_self,xs]
 unfold sameB at hsb
 simp only [Bool.and_eq_true,beq_iff_eq,decide_eq_true_eq] at hsb
 obtain ⟨q0,q1,q2,q3,q4,q5,q6,q7,q8,q9,q10,q11,q12,q13,q14⟩:=hsb
 subst q5
 subst q6
 subst q8
 subst q11
 have z2:knowB 0=true:=rfl
 have e2:decide (((List.length nw:Nat):Int) > 8)=!decide (List.length nw≤8):=by rw [Bool.eq_iff_iff,Bool.not_eq_true',decide_eq_true_iff,decide_eq_false_iff_not]; omega
 simp -implicitDefEqProofs only [rnode_ok wh,rknow_ok 0 0,e2,dlt 0 0,dgt 0 1099511627776,z2,eq_self,xs]
 cases nodeB wh
 ·simp -implicitDefEqProofs only [eq_self,xs]
 simp -implicitDefEqProofs only [eq_self,xs]
 have hnw:newsB nw=(decide (nw.length≤8)&&nw.all tellB):=rfl
 rw [hnw]
 cases decide (nw.length≤8)
 ·simp -implicitDefEqProofs only [eq_self,xs]
 simp -implicitDefEqProofs only [eq_self,xs]
 have z3:decide ((0:Int)≤1099511627776)=true:=rfl
 have z4:decide ((0:Int)≤0)=true:=rfl
 try simp -implicitDefEqProofs only [z3,z4,eq_self,xs]
 rw [loop_list (s0:=(0:Int)) nw tellB (Sum.inr false) (Sum.inl ()) rfl]
 rotate_left
 ·simp -implicitDefEqProofs only [not_lt_self,Int.lt_irrefl,eq_self,xs]
 ·intro i x hi hx
  have q1:((i:Nat):Int) < ((List.length nw:Nat):Int):=by omega
  have q2:(0:Int)≤(i:Int):=by omega
  simp -implicitDefEqProofs only [q1,q2,hx,w1 (show i≤9223372036854775806 by omega),rnode_ok x.1,rknow_ok x.2.1 x.2.2,eq_self,xs]
  unfold tellB
  cases nodeB x.1<;>cases knowB x.2.2<;>rfl
 cases nw.all tellB
 ·simp -implicitDefEqProofs only [eq_self,xs]
 simp -implicitDefEqProofs only [eq_self,xs]
 have y5:((2:Int)==5)=false:=rfl
 have y6:((2:Int)==6)=false:=rfl
 have y11:decide ((2:Int) < 11)=true:=rfl
 simp -implicitDefEqProofs only [y5,y6,y11,rtab_ok ([]:List KW) (by simp),F79_ok hk,eq_self,xs]
theorem rmay3 {fr to sq wh ki ks ep bo ak tn:Int} {nw:List NW} {tb:List KW} {tk:ByteArray} {gd:Bool} (hw:nw.length≤1000) (ht:tb.length≤1000) (hk:tk.size≤maxLen):F49 (3,fr,to,sq,wh,ki,ks,nw,tb,ep,bo,ak,tk,tn,gd)=some (msgB (3,fr,to,sq,wh,ki,ks,nw,tb,ep,bo,ak,tk,tn,gd)):=by
 rw [F49_eq]
 have hb:=rbare3 (fr:=fr) (to:=to) (sq:=sq) (wh:=wh) (ki:=ki) (ks:=ks) (nw:=nw) (tb:=tb) (ep:=ep) (bo:=bo) (ak:=ak) (tk:=tk) (tn:=tn) (gd:=gd)
 have hbm:bareM (3,fr,to,sq,wh,ki,ks,nw,tb,ep,bo,ak,tk,tn,gd)=(3,fr,to,sq,wh,ki,ks,nw,[],0,0,0,(⟨#[]⟩:ByteArray),0,false):=rfl
 rw [hbm] at hb
 have hs:=(rsame_eq (3,fr,to,sq,wh,ki,ks,nw,tb,ep,bo,ak,tk,tn,gd) (bareM (3,fr,to,sq,wh,ki,ks,nw,tb,ep,bo,ak,tk,tn,gd))).trans (same_ok (3,fr,to,sq,wh,ki,ks,nw,tb,ep,bo,ak,tk,tn,gd) (bareM (3,fr,to,sq,wh,ki,ks,nw,tb,ep,bo,ak,tk,tn,gd)) hw ht)
 rw [hbm] at hs
 have k1:¬ ((3:Int) < 1):=by decide
 have k2:¬ ((3:Int) > 12):=by decide
 have hp:partsB (3,fr,to,sq,wh,ki,ks,nw,tb,ep,bo,ak,tk,tn,gd)=((!kindB 3 1 || nodeB wh)&&((!kindB 3 2 || knowB ks)&&((!kindB 3 3 || newsB nw)&&((!kindB 3 4 || tabB tb)&&((!kindB 3 7 || tickB ak)&&((!kindB 3 8 || nmB tk))))))):=rfl
 have kb1:kindB 3 1=true:=rfl
 have kb2:kindB 3 2=true:=rfl
 have kb3:kindB 3 3=true:=rfl
 have kb4:kindB 3 4=false:=rfl
 have kb7:kindB 3 7=false:=rfl
 have kb8:kindB 3 8=false:=rfl
 simp -implicitDefEqProofs only [rnode_ok fr,rnode_ok to,hb,hs,k1,k2,eq_self,xs]
 unfold msgB
 rw [hbm,hp]
 have kk1:decide ((1:Int)≤3)=true:=rfl
 have kk2:decide ((3:Int)≤12)=true:=rfl
 simp -implicitDefEqProofs only [kk1,kk2,kb1,kb2,kb3,kb4,kb7,kb8,eq_self,xs]
 cases nodeB fr
 ·simp -implicitDefEqProofs only [eq_self,xs]
 cases nodeB to
 ·simp -implicitDefEqProofs only [eq_self,xs]
 cases (fr==to)
 rotate_left
 ·simp -implicitDefEqProofs only [eq_self,xs]
 simp -implicitDefEqProofs only [eq_self,xs]
 cases hsb:sameB (3,fr,to,sq,wh,ki,ks,nw,tb,ep,bo,ak,tk,tn,gd) (3,fr,to,sq,wh,ki,ks,nw,[],0,0,0,(⟨#[]⟩:ByteArray),0,false)
 ·simp -implicitDefEqProofs only [eq_self,xs]
 unfold sameB at hsb
 simp only [Bool.and_eq_true,beq_iff_eq,decide_eq_true_eq] at hsb
 obtain ⟨q0,q1,q2,q3,q4,q5,q6,q7,q8,q9,q10,q11,q12,q13,q14⟩:=hsb
 subst q8
 subst q11
 have e2:decide (((List.length nw:Nat):Int) > 8)=!decide (List.length nw≤8):=by rw [Bool.eq_iff_iff,Bool.not_eq_true',decide_eq_true_iff,decide_eq_false_iff_not]; omega
 simp -implicitDefEqProofs only [rnode_ok wh,rknow_ok ki ks,e2,dlt 0 0,dgt 0 1099511627776,eq_self,xs]
 cases nodeB wh
 ·simp -implicitDefEqProofs only [eq_self,xs]
 simp -implicitDefEqProofs only [eq_self,xs]
 cases knowB ks
 ·simp -implicitDefEqProofs only [eq_self,xs]
 simp -implicitDefEqProofs only [eq_self,xs]
 have hnw:newsB nw=(decide (nw.length≤8)&&nw.all tellB):=rfl
 rw [hnw]
 cases decide (nw.length≤8)
 ·simp -implicitDefEqProofs only [eq_self,xs]
 simp -implicitDefEqProofs only [eq_self,xs]
 have z3:decide ((0:Int)≤1099511627776)=true:=rfl
 have z4:decide ((0:Int)≤0)=true:=rfl
 try simp -implicitDefEqProofs only [z3,z4,eq_self,xs]
 rw [loop_list (s0:=(0:Int)) nw tellB (Sum.inr false) (Sum.inl ()) rfl]
 rotate_left
 ·simp -implicitDefEqProofs only [not_lt_self,Int.lt_irrefl,eq_self,xs]
 ·intro i x hi hx
  have q1:((i:Nat):Int) < ((List.length nw:Nat):Int):=by omega
  have q2:(0:Int)≤(i:Int):=by omega
  simp -implicitDefEqProofs only [q1,q2,hx,w1 (show i≤9223372036854775806 by omega),rnode_ok x.1,rknow_ok x.2.1 x.2.2,eq_self,xs]
  unfold tellB
  cases nodeB x.1<;>cases knowB x.2.2<;>rfl
 cases nw.all tellB
 ·simp -implicitDefEqProofs only [eq_self,xs]
 simp -implicitDefEqProofs only [eq_self,xs]
 have y5:((3:Int)==5)=false:=rfl
 have y6:((3:Int)==6)=false:=rfl
 have y11:decide ((3:Int) < 11)=true:=rfl
 simp -implicitDefEqProofs only [y5,y6,y11,rtab_ok ([]:List KW) (by simp),F79_ok hk,eq_self,xs]
theorem rmay4 {fr to sq wh ki ks ep bo ak tn:Int} {nw:List NW} {tb:List KW} {tk:ByteArray} {gd:Bool} (hw:nw.length≤1000) (ht:tb.length≤1000) (hk:tk.size≤maxLen):F49 (4,fr,to,sq,wh,ki,ks,nw,tb,ep,bo,ak,tk,tn,gd)=some (msgB (4,fr,to,sq,wh,ki,ks,nw,tb,ep,bo,ak,tk,tn,gd)):=by
 rw [F49_eq]
 have hb:=rbare4 (fr:=fr) (to:=to) (sq:=sq) (wh:=wh) (ki:=ki) (ks:=ks) (nw:=nw) (tb:=tb) (ep:=ep) (bo:=bo) (ak:=ak) (tk:=tk) (tn:=tn) (gd:=gd)
 have hbm:bareM (4,fr,to,sq,wh,ki,ks,nw,tb,ep,bo,ak,tk,tn,gd)=(4,fr,to,sq,wh,0,0,[],[],0,0,0,(⟨#[]⟩:ByteArray),0,false):=rfl
 rw [hbm] at hb
 have hs:=(rsame_eq (4,fr,to,sq,wh,ki,ks,nw,tb,ep,bo,ak,tk,tn,gd) (bareM (4,fr,to,sq,wh,ki,ks,nw,tb,ep,bo,ak,tk,tn,gd))).trans (same_ok (4,fr,to,sq,wh,ki,ks,nw,tb,ep,bo,ak,tk,tn,gd) (bareM (4,fr,to,sq,wh,ki,ks,nw,tb,ep,bo,ak,tk,tn,gd)) hw ht)
 rw [hbm] at hs
 have k1:¬ ((4:Int) < 1):=by decide
 have k2:¬ ((4:Int) > 12):=by decide
 have hp:partsB (4,fr,to,sq,wh,ki,ks,nw,tb,ep,bo,ak,tk,tn,gd)=((!kindB 4 1 || nodeB wh)&&((!kindB 4 2 || knowB ks)&&((!kindB 4 3 || newsB nw)&&((!kindB 4 4 || tabB tb)&&((!kindB 4 7 || tickB ak)&&((!kindB 4 8 || nmB tk))))))):=rfl
 have kb1:kindB 4 1=true:=rfl
 have kb2:kindB 4 2=false:=rfl
 have kb3:kindB 4 3=false:=rfl
 have kb4:kindB 4 4=false:=rfl
 have kb7:kindB 4 7=false:=rfl
 have kb8:kindB 4 8=false:=rfl
 simp -implicitDefEqProofs only [rnode_ok fr,rnode_ok to,hb,hs,k1,k2,eq_self,xs]
 unfold msgB
 rw [hbm,hp]
 have kk1:decide ((1:Int)≤4)=true:=rfl
 have kk2:decide ((4:Int)≤12)=true:=rfl
 simp -implicitDefEqProofs only [kk1,kk2,kb1,kb2,kb3,kb4,kb7,kb8,eq_self,xs]
 cases nodeB fr
 ·simp -implicitDefEqProofs only [eq_self,xs]
 cases nodeB to
 ·simp -implicitDefEqProofs only [eq_self,xs]
 cases (fr==to)
 rotate_left
 ·simp -implicitDefEqProofs only [eq_self,xs]
 simp -implicitDefEqProofs only [eq_self,xs]
 cases hsb:sameB (4,fr,to,sq,wh,ki,ks,nw,tb,ep,bo,ak,tk,tn,gd) (4,fr,to,sq,wh,0,0,[],[],0,0,0,(⟨#[]⟩:ByteArray),0,false)
 ·simp -implicitDefEqProofs only [eq_self,xs]
 unfold sameB at hsb
 simp only [Bool.and_eq_true,beq_iff_eq,decide_eq_true_eq] at hsb
 obtain ⟨q0,q1,q2,q3,q4,q5,q6,q7,q8,q9,q10,q11,q12,q13,q14⟩:=hsb
 subst q5
 subst q6
 subst q7
 subst q8
 subst q11
 have z2:knowB 0=true:=rfl
 have e2:decide (((List.length ([]:List NW):Nat):Int) > 8)=!decide (List.length ([]:List NW)≤8):=by rw [Bool.eq_iff_iff,Bool.not_eq_true',decide_eq_true_iff,decide_eq_false_iff_not]; omega
 simp -implicitDefEqProofs only [rnode_ok wh,rknow_ok 0 0,e2,dlt 0 0,dgt 0 1099511627776,z2,eq_self,xs]
 cases nodeB wh
 ·simp -implicitDefEqProofs only [eq_self,xs]
 simp -implicitDefEqProofs only [eq_self,xs]
 have z5:decide (List.length ([]:List NW)≤8)=true:=rfl
 have z6:decide (0≤8)=true:=rfl
 have z8:decide (((0:Nat):Int) > 8)=false:=rfl
 try simp -implicitDefEqProofs only [z5,z6,z8,eq_self,xs]
 have z3:decide ((0:Int)≤1099511627776)=true:=rfl
 have z4:decide ((0:Int)≤0)=true:=rfl
 try simp -implicitDefEqProofs only [z3,z4,eq_self,xs]
 rw [loop_list (s0:=(0:Int)) ([]:List NW) tellB (Sum.inr false) (Sum.inl ()) rfl]
 rotate_left
 ·simp -implicitDefEqProofs only [not_lt_self,Int.lt_irrefl,eq_self,xs]
 ·intro i x hi hx; exact absurd hi (by simp)
 have z7:([]:List NW).all tellB=true:=rfl
 try simp -implicitDefEqProofs only [z7,eq_self,xs]
 have y5:((4:Int)==5)=false:=rfl
 have y6:((4:Int)==6)=false:=rfl
 have y11:decide ((4:Int) < 11)=true:=rfl
 simp -implicitDefEqProofs only [y5,y6,y11,rtab_ok ([]:List KW) (by simp),F79_ok hk,eq_self,xs]
theorem rmay5 {fr to sq wh ki ks ep bo ak tn:Int} {nw:List NW} {tb:List KW} {tk:ByteArray} {gd:Bool} (hw:nw.length≤1000) (ht:tb.length≤1000) (hk:tk.size≤maxLen):F49 (5,fr,to,sq,wh,ki,ks,nw,tb,ep,bo,ak,tk,tn,gd)=some (msgB (5,fr,to,sq,wh,ki,ks,nw,tb,ep,bo,ak,tk,tn,gd)):=by
 rw [F49_eq]
 have hb:=rbare5 (fr:=fr) (to:=to) (sq:=sq) (wh:=wh) (ki:=ki) (ks:=ks) (nw:=nw) (tb:=tb) (ep:=ep) (bo:=bo) (ak:=ak) (tk:=tk) (tn:=tn) (gd:=gd)
 have hbm:bareM (5,fr,to,sq,wh,ki,ks,nw,tb,ep,bo,ak,tk,tn,gd)=(5,fr,to,0,0,0,0,[],tb,0,0,0,(⟨#[]⟩:ByteArray),0,false):=rfl
 rw [hbm] at hb
 have hs:=(rsame_eq (5,fr,to,sq,wh,ki,ks,nw,tb,ep,bo,ak,tk,tn,gd) (bareM (5,fr,to,sq,wh,ki,ks,nw,tb,ep,bo,ak,tk,tn,gd))).trans (same_ok (5,fr,to,sq,wh,ki,ks,nw,tb,ep,bo,ak,tk,tn,gd) (bareM (5,fr,to,sq,wh,ki,ks,nw,tb,ep,bo,ak,tk,tn,gd)) hw ht)
 rw [hbm] at hs
 have k1:¬ ((5:Int) < 1):=by decide
 have k2:¬ ((5:Int) > 12):=by decide
 have hp:partsB (5,fr,to,sq,wh,ki,ks,nw,tb,ep,bo,ak,tk,tn,gd)=((!kindB 5 1 || nodeB wh)&&((!kindB 5 2 || knowB ks)&&((!kindB 5 3 || newsB nw)&&((!kindB 5 4 || tabB tb)&&((!kindB 5 7 || tickB ak)&&((!kindB 5 8 || nmB tk))))))):=rfl
 have kb1:kindB 5 1=false:=rfl
 have kb2:kindB 5 2=false:=rfl
 have kb3:kindB 5 3=false:=rfl
 have kb4:kindB 5 4=true:=rfl
 have kb7:kindB 5 7=false:=rfl
 have kb8:kindB 5 8=false:=rfl
 simp -implicitDefEqProofs only [rnode_ok fr,rnode_ok to,hb,hs,k1,k2,eq_self,xs]
 unfold msgB
 rw [hbm,hp]
 have kk1:decide ((1:Int)≤5)=true:=rfl
 have kk2:decide ((5:Int)≤12)=true:=rfl
 simp -implicitDefEqProofs only [kk1,kk2,kb1,kb2,kb3,kb4,kb7,kb8,eq_self,xs]
 cases nodeB fr
 ·simp -implicitDefEqProofs only [eq_self,xs]
 cases nodeB to
 ·simp -implicitDefEqProofs only [eq_self,xs]
 cases (fr==to)
 rotate_left
 ·simp -implicitDefEqProofs only [eq_self,xs]
 simp -implicitDefEqProofs only [eq_self,xs]
 cases hsb:sameB (5,fr,to,sq,wh,ki,ks,nw,tb,ep,bo,ak,tk,tn,gd) (5,fr,to,0,0,0,0,[],tb,0,0,0,(⟨#[]⟩:ByteArray),0,false)
 ·simp -implicitDefEqProofs only [eq_self,xs]
 unfold sameB at hsb
 simp only [Bool.and_eq_true,beq_iff_eq,decide_eq_true_eq] at hsb
 obtain ⟨q0,q1,q2,q3,q4,q5,q6,q7,q8,q9,q10,q11,q12,q13,q14⟩:=hsb
 subst q4
 subst q5
 subst q6
 subst q7
 subst q11
 have z1:nodeB 0=true:=rfl
 have z2:knowB 0=true:=rfl
 have e2:decide (((List.length ([]:List NW):Nat):Int) > 8)=!decide (List.length ([]:List NW)≤8):=by rw [Bool.eq_iff_iff,Bool.not_eq_true',decide_eq_true_iff,decide_eq_false_iff_not]; omega
 simp -implicitDefEqProofs only [rnode_ok 0,rknow_ok 0 0,e2,dlt 0 0,dgt 0 1099511627776,z1,z2,eq_self,xs]
 have z5:decide (List.length ([]:List NW)≤8)=true:=rfl
 have z6:decide (0≤8)=true:=rfl
 have z8:decide (((0:Nat):Int) > 8)=false:=rfl
 try simp -implicitDefEqProofs only [z5,z6,z8,eq_self,xs]
 have z3:decide ((0:Int)≤1099511627776)=true:=rfl
 have z4:decide ((0:Int)≤0)=true:=rfl
 try simp -implicitDefEqProofs only [z3,z4,eq_self,xs]
 rw [loop_list (s0:=(0:Int)) ([]:List NW) tellB (Sum.inr false) (Sum.inl ()) rfl]
 rotate_left
 ·simp -implicitDefEqProofs only [not_lt_self,Int.lt_irrefl,eq_self,xs]
 ·intro i x hi hx; exact absurd hi (by simp)
 have z7:([]:List NW).all tellB=true:=rfl
 try simp -implicitDefEqProofs only [z7,eq_self,xs]
 have y5:((5:Int)==5)=true:=rfl
 have y6:((5:Int)==6)=false:=rfl
 have y11:decide ((5:Int) < 11)=true:=rfl
 simp -implicitDefEqProofs only [y5,y6,y11,rtab_ok tb (by exact ht),F79_ok hk,eq_self,xs]
 cases tabB tb<;>rfl
theorem rmay6 {fr to sq wh ki ks ep bo ak tn:Int} {nw:List NW} {tb:List KW} {tk:ByteArray} {gd:Bool} (hw:nw.length≤1000) (ht:tb.length≤1000) (hk:tk.size≤maxLen):F49 (6,fr,to,sq,wh,ki,ks,nw,tb,ep,bo,ak,tk,tn,gd)=some (msgB (6,fr,to,sq,wh,ki,ks,nw,tb,ep,bo,ak,tk,tn,gd)):=by
 rw [F49_eq]
 have hb:=rbare6 (fr:=fr) (to:=to) (sq:=sq) (wh:=wh) (ki:=ki) (ks:=ks) (nw:=nw) (tb:=tb) (ep:=ep) (bo:=bo) (ak:=ak) (tk:=tk) (tn:=tn) (gd:=gd)
 have hbm:bareM (6,fr,to,sq,wh,ki,ks,nw,tb,ep,bo,ak,tk,tn,gd)=(6,fr,to,0,0,0,0,[],tb,0,0,0,(⟨#[]⟩:ByteArray),0,false):=rfl
 rw [hbm] at hb
 have hs:=(rsame_eq (6,fr,to,sq,wh,ki,ks,nw,tb,ep,bo,ak,tk,tn,gd) (bareM (6,fr,to,sq,wh,ki,ks,nw,tb,ep,bo,ak,tk,tn,gd))).trans (same_ok (6,fr,to,sq,wh,ki,ks,nw,tb,ep,bo,ak,tk,tn,gd) (bareM (6,fr,to,sq,wh,ki,ks,nw,tb,ep,bo,ak,tk,tn,gd)) hw ht)
 rw [hbm] at hs
 have k1:¬ ((6:Int) < 1):=by decide
 have k2:¬ ((6:Int) > 12):=by decide
 have hp:partsB (6,fr,to,sq,wh,ki,ks,nw,tb,ep,bo,ak,tk,tn,gd)=((!kindB 6 1 || nodeB wh)&&((!kindB 6 2 || knowB ks)&&((!kindB 6 3 || newsB nw)&&((!kindB 6 4 || tabB tb)&&((!kindB 6 7 || tickB ak)&&((!kindB 6 8 || nmB tk))))))):=rfl
 have kb1:kindB 6 1=false:=rfl
 have kb2:kindB 6 2=false:=rfl
 have kb3:kindB 6 3=false:=rfl
 have kb4:kindB 6 4=true:=rfl
 have kb7:kindB 6 7=false:=rfl
 have kb8:kindB 6 8=false:=rfl
 simp -implicitDefEqProofs only [rnode_ok fr,rnode_ok to,hb,hs,k1,k2,eq_self,xs]
 unfold msgB
 rw [hbm,hp]
 have kk1:decide ((1:Int)≤6)=true:=rfl
 have kk2:decide ((6:Int)≤12)=true:=rfl
 simp -implicitDefEqProofs only [kk1,kk2,kb1,kb2,kb3,kb4,kb7,kb8,eq_self,xs]
 cases nodeB fr
 ·simp -implicitDefEqProofs only [eq_self,xs]
 cases nodeB to
 ·simp -implicitDefEqProofs only [eq_self,xs]
 cases (fr==to)
 rotate_left
 ·simp -implicitDefEqProofs only [eq_self,xs]
 simp -implicitDefEqProofs only [eq_self,xs]
 cases hsb:sameB (6,fr,to,sq,wh,ki,ks,nw,tb,ep,bo,ak,tk,tn,gd) (6,fr,to,0,0,0,0,[],tb,0,0,0,(⟨#[]⟩:ByteArray),0,false)
 ·simp -implicitDefEqProofs only [eq_self,xs]
 unfold sameB at hsb
 simp only [Bool.and_eq_true,beq_iff_eq,decide_eq_true_eq] at hsb
 obtain ⟨q0,q1,q2,q3,q4,q5,q6,q7,q8,q9,q10,q11,q12,q13,q14⟩:=hsb
 subst q4
 subst q5
 subst q6
 subst q7
 subst q11
 have z1:nodeB 0=true:=rfl
 have z2:knowB 0=true:=rfl
 have e2:decide (((List.length ([]:List NW):Nat):Int) > 8)=!decide (List.length ([]:List NW)≤8):=by rw [Bool.eq_iff_iff,Bool.not_eq_true',decide_eq_true_iff,decide_eq_false_iff_not]; omega
 simp -implicitDefEqProofs only [rnode_ok 0,rknow_ok 0 0,e2,dlt 0 0,dgt 0 1099511627776,z1,z2,eq_self,xs]
 have z5:decide (List.length ([]:List NW)≤8)=true:=rfl
 have z6:decide (0≤8)=true:=rfl
 have z8:decide (((0:Nat):Int) > 8)=false:=rfl
 try simp -implicitDefEqProofs only [z5,z6,z8,eq_self,xs]
 have z3:decide ((0:Int)≤1099511627776)=true:=rfl
 have z4:decide ((0:Int)≤0)=true:=rfl
 try simp -implicitDefEqProofs only [z3,z4,eq_self,xs]
 rw [loop_list (s0:=(0:Int)) ([]:List NW) tellB (Sum.inr false) (Sum.inl ()) rfl]
 rotate_left
 ·simp -implicitDefEqProofs only [not_lt_self,Int.lt_irrefl,eq_self,xs]
 ·intro i x hi hx; exact absurd hi (by simp)
 have z7:([]:List NW).all tellB=true:=rfl
 try simp -implicitDefEqProofs only [z7,eq_self,xs]
 have y5:((6:Int)==5)=false:=rfl
 have y6:((6:Int)==6)=true:=rfl
 have y11:decide ((6:Int) < 11)=true:=rfl
 simp -implicitDefEqProofs only [y5,y6,y11,rtab_ok tb (by exact ht),F79_ok hk,eq_self,xs]
 cases tabB tb<;>rfl
theorem rmay7 {fr to sq wh ki ks ep bo ak tn:Int} {nw:List NW} {tb:List KW} {tk:ByteArray} {gd:Bool} (hw:nw.length≤1000) (ht:tb.length≤1000) (hk:tk.size≤maxLen):F49 (7,fr,to,sq,wh,ki,ks,nw,tb,ep,bo,ak,tk,tn,gd)=some (msgB (7,fr,to,sq,wh,ki,ks,nw,tb,ep,bo,ak,tk,tn,gd)):=by
 rw [F49_eq]
 have hb:=rbare7 (fr:=fr) (to:=to) (sq:=sq) (wh:=wh) (ki:=ki) (ks:=ks) (nw:=nw) (tb:=tb) (ep:=ep) (bo:=bo) (ak:=ak) (tk:=tk) (tn:=tn) (gd:=gd)
 have hbm:bareM (7,fr,to,sq,wh,ki,ks,nw,tb,ep,bo,ak,tk,tn,gd)=(7,fr,to,0,0,0,0,[],[],ep,bo,ak,(⟨#[]⟩:ByteArray),0,false):=rfl
 rw [hbm] at hb
 have hs:=(rsame_eq (7,fr,to,sq,wh,ki,ks,nw,tb,ep,bo,ak,tk,tn,gd) (bareM (7,fr,to,sq,wh,ki,ks,nw,tb,ep,bo,ak,tk,tn,gd))).trans (same_ok (7,fr,to,sq,wh,ki,ks,nw,tb,ep,bo,ak,tk,tn,gd) (bareM (7,fr,to,sq,wh,ki,ks,nw,tb,ep,bo,ak,tk,tn,gd)) hw ht)
 rw [hbm] at hs
 have k1:¬ ((7:Int) < 1):=by decide
 have k2:¬ ((7:Int) > 12):=by decide
 have hp:partsB (7,fr,to,sq,wh,ki,ks,nw,tb,ep,bo,ak,tk,tn,gd)=((!kindB 7 1 || nodeB wh)&&((!kindB 7 2 || knowB ks)&&((!kindB 7 3 || newsB nw)&&((!kindB 7 4 || tabB tb)&&((!kindB 7 7 || tickB ak)&&((!kindB 7 8 || nmB tk))))))):=rfl
 have kb1:kindB 7 1=false:=rfl
 have kb2:kindB 7 2=false:=rfl
 have kb3:kindB 7 3=false:=rfl
 have kb4:kindB 7 4=false:=rfl
 have kb7:kindB 7 7=true:=rfl
 have kb8:kindB 7 8=false:=rfl
 simp -implicitDefEqProofs only [rnode_ok fr,rnode_ok to,hb,hs,k1,k2,eq_self,xs]
 unfold msgB
 rw [hbm,hp]
 have kk1:decide ((1:Int)≤7)=true:=rfl
 have kk2:decide ((7:Int)≤12)=true:=rfl
 simp -implicitDefEqProofs only [kk1,kk2,kb1,kb2,kb3,kb4,kb7,kb8,eq_self,xs]
 cases nodeB fr
 ·simp -implicitDefEqProofs only [eq_self,xs]
 cases nodeB to
 ·simp -implicitDefEqProofs only [eq_self,xs]
 cases (fr==to)
 rotate_left
 ·simp -implicitDefEqProofs only [eq_self,xs]
 simp -implicitDefEqProofs only [eq_self,xs]
 cases hsb:sameB (7,fr,to,sq,wh,ki,ks,nw,tb,ep,bo,ak,tk,tn,gd) (7,fr,to,0,0,0,0,[],[],ep,bo,ak,(⟨#[]⟩:ByteArray),0,false)
 ·simp -implicitDefEqProofs only [eq_self,xs]
 unfold sameB at hsb
 simp only [Bool.and_eq_true,beq_iff_eq,decide_eq_true_eq] at hsb
 obtain ⟨q0,q1,q2,q3,q4,q5,q6,q7,q8,q9,q10,q11,q12,q13,q14⟩:=hsb
 subst q4
 subst q5
 subst q6
 subst q7
 subst q8
 have z1:nodeB 0=true:=rfl
 have z2:knowB 0=true:=rfl
 have e2:decide (((List.length ([]:List NW):Nat):Int) > 8)=!decide (List.length ([]:List NW)≤8):=by rw [Bool.eq_iff_iff,Bool.not_eq_true',decide_eq_true_iff,decide_eq_false_iff_not]; omega
 simp -implicitDefEqProofs only [rnode_ok 0,rknow_ok 0 0,e2,dlt ak 0,dgt ak 1099511627776,z1,z2,eq_self,xs]
 have z5:decide (List.length ([]:List NW)≤8)=true:=rfl
 have z6:decide (0≤8)=true:=rfl
 have z8:decide (((0:Nat):Int) > 8)=false:=rfl
 try simp -implicitDefEqProofs only [z5,z6,z8,eq_self,xs]
 have hak:tickB ak=(decide (0≤ak)&&decide (ak≤1099511627776)):=rfl
 rw [hak]
 cases decide (0≤ak)
 ·simp -implicitDefEqProofs only [eq_self,xs]
 simp -implicitDefEqProofs only [eq_self,xs]
 cases decide (ak≤1099511627776)
 ·simp -implicitDefEqProofs only [eq_self,xs]
 simp -implicitDefEqProofs only [eq_self,xs]
 rw [loop_list (s0:=(0:Int)) ([]:List NW) tellB (Sum.inr false) (Sum.inl ()) rfl]
 rotate_left
 ·simp -implicitDefEqProofs only [not_lt_self,Int.lt_irrefl,eq_self,xs]
 ·intro i x hi hx; exact absurd hi (by simp)
 have z7:([]:List NW).all tellB=true:=rfl
 try simp -implicitDefEqProofs only [z7,eq_self,xs]
 have y5:((7:Int)==5)=false:=rfl
 have y6:((7:Int)==6)=false:=rfl
 have y11:decide ((7:Int) < 11)=true:=rfl
 simp -implicitDefEqProofs only [y5,y6,y11,rtab_ok ([]:List KW) (by simp),F79_ok hk,eq_self,xs]
theorem rmay8 {fr to sq wh ki ks ep bo ak tn:Int} {nw:List NW} {tb:List KW} {tk:ByteArray} {gd:Bool} (hw:nw.length≤1000) (ht:tb.length≤1000) (hk:tk.size≤maxLen):F49 (8,fr,to,sq,wh,ki,ks,nw,tb,ep,bo,ak,tk,tn,gd)=some (msgB (8,fr,to,sq,wh,ki,ks,nw,tb,ep,bo,ak,tk,tn,gd)):=by
 rw [F49_eq]
 have hb:=rbare8 (fr:=fr) (to:=to) (sq:=sq) (wh:=wh) (ki:=ki) (ks:=ks) (nw:=nw) (tb:=tb) (ep:=ep) (bo:=bo) (ak:=ak) (tk:=tk) (tn:=tn) (gd:=gd)
 have hbm:bareM (8,fr,to,sq,wh,ki,ks,nw,tb,ep,bo,ak,tk,tn,gd)=(8,fr,to,0,0,0,0,[],[],ep,bo,ak,(⟨#[]⟩:ByteArray),0,false):=rfl
 rw [hbm] at hb
 have hs:=(rsame_eq (8,fr,to,sq,wh,ki,ks,nw,tb,ep,bo,ak,tk,tn,gd) (bareM (8,fr,to,sq,wh,ki,ks,nw,tb,ep,bo,ak,tk,tn,gd))).trans (same_ok (8,fr,to,sq,wh,ki,ks,nw,tb,ep,bo,ak,tk,tn,gd) (bareM (8,fr,to,sq,wh,ki,ks,nw,tb,ep,bo,ak,tk,tn,gd)) hw ht)
 rw [hbm] at hs
 have k1:¬ ((8:Int) < 1):=by decide
 have k2:¬ ((8:Int) > 12):=by decide
 have hp:partsB (8,fr,to,sq,wh,ki,ks,nw,tb,ep,bo,ak,tk,tn,gd)=((!kindB 8 1 || nodeB wh)&&((!kindB 8 2 || knowB ks)&&((!kindB 8 3 || newsB nw)&&((!kindB 8 4 || tabB tb)&&((!kindB 8 7 || tickB ak)&&((!kindB 8 8 || nmB tk))))))):=rfl
 have kb1:kindB 8 1=false:=rfl
 have kb2:kindB 8 2=false:=rfl
 have kb3:kindB 8 3=false:=rfl
 have kb4:kindB 8 4=false:=rfl
 have kb7:kindB 8 7=true:=rfl
 have kb8:kindB 8 8=false:=rfl
 simp -implicitDefEqProofs only [rnode_ok fr,rnode_ok to,hb,hs,k1,k2,eq_self,xs]
 unfold msgB
 rw [hbm,hp]
 have kk1:decide ((1:Int)≤8)=true:=rfl
 have kk2:decide ((8:Int)≤12)=true:=rfl
 simp -implicitDefEqProofs only [kk1,kk2,kb1,kb2,kb3,kb4,kb7,kb8,eq_self,xs]
 cases nodeB fr
 ·simp -implicitDefEqProofs only [eq_self,xs]
 cases nodeB to
 ·simp -implicitDefEqProofs only [eq_self,xs]
 cases (fr==to)
 rotate_left
 ·simp -implicitDefEqProofs only [eq_self,xs]
 simp -implicitDefEqProofs only [eq_self,xs]
 cases hsb:sameB (8,fr,to,sq,wh,ki,ks,nw,tb,ep,bo,ak,tk,tn,gd) (8,fr,to,0,0,0,0,[],[],ep,bo,ak,(⟨#[]⟩:ByteArray),0,false)
 ·simp -implicitDefEqProofs only [eq_self,xs]
 unfold sameB at hsb
 simp only [Bool.and_eq_true,beq_iff_eq,decide_eq_true_eq] at hsb
 obtain ⟨q0,q1,q2,q3,q4,q5,q6,q7,q8,q9,q10,q11,q12,q13,q14⟩:=hsb
 subst q4
 subst q5
 subst q6
 subst q7
 subst q8
 have z1:nodeB 0=true:=rfl
 have z2:knowB 0=true:=rfl
 have e2:decide (((List.length ([]:List NW):Nat):Int) > 8)=!decide (List.length ([]:List NW)≤8):=by rw [Bool.eq_iff_iff,Bool.not_eq_true',decide_eq_true_iff,decide_eq_false_iff_not]; omega
 simp -implicitDefEqProofs only [rnode_ok 0,rknow_ok 0 0,e2,dlt ak 0,dgt ak 1099511627776,z1,z2,eq_self,xs]
 have z5:decide (List.length ([]:List NW)≤8)=true:=rfl
 have z6:decide (0≤8)=true:=rfl
 have z8:decide (((0:Nat):Int) > 8)=false:=rfl
 try simp -implicitDefEqProofs only [z5,z6,z8,eq_self,xs]
 have hak:tickB ak=(decide (0≤ak)&&decide (ak≤1099511627776)):=rfl
 rw [hak]
 cases decide (0≤ak)
 ·simp -implicitDefEqProofs only [eq_self,xs]
 simp -implicitDefEqProofs only [eq_self,xs]
 cases decide (ak≤1099511627776)
 ·simp -implicitDefEqProofs only [eq_self,xs]
 simp -implicitDefEqProofs only [eq_self,xs]
 rw [loop_list (s0:=(0:Int)) ([]:List NW) tellB (Sum.inr false) (Sum.inl ()) rfl]
 rotate_left
 ·simp -implicitDefEqProofs only [not_lt_self,Int.lt_irrefl,eq_self,xs]
 ·intro i x hi hx; exact absurd hi (by simp)
 have z7:([]:List NW).all tellB=true:=rfl
 try simp -implicitDefEqProofs only [z7,eq_self,xs]
 have y5:((8:Int)==5)=false:=rfl
 have y6:((8:Int)==6)=false:=rfl
 have y11:decide ((8:Int) < 11)=true:=rfl
 simp -implicitDefEqProofs only [y5,y6,y11,rtab_ok ([]:List KW) (by simp),F79_ok hk,eq_self,xs]
theorem rmay9 {fr to sq wh ki ks ep bo ak tn:Int} {nw:List NW} {tb:List KW} {tk:ByteArray} {gd:Bool} (hw:nw.length≤1000) (ht:tb.length≤1000) (hk:tk.size≤maxLen):F49 (9,fr,to,sq,wh,ki,ks,nw,tb,ep,bo,ak,tk,tn,gd)=some (msgB (9,fr,to,sq,wh,ki,ks,nw,tb,ep,bo,ak,tk,tn,gd)):=by
 rw [F49_eq]
 have hb:=rbare9 (fr:=fr) (to:=to) (sq:=sq) (wh:=wh) (ki:=ki) (ks:=ks) (nw:=nw) (tb:=tb) (ep:=ep) (bo:=bo) (ak:=ak) (tk:=tk) (tn:=tn) (gd:=gd)
 have hbm:bareM (9,fr,to,sq,wh,ki,ks,nw,tb,ep,bo,ak,tk,tn,gd)=(9,fr,to,0,0,0,0,[],[],ep,bo,0,(⟨#[]⟩:ByteArray),0,false):=rfl
 rw [hbm] at hb
 have hs:=(rsame_eq (9,fr,to,sq,wh,ki,ks,nw,tb,ep,bo,ak,tk,tn,gd) (bareM (9,fr,to,sq,wh,ki,ks,nw,tb,ep,bo,ak,tk,tn,gd))).trans (same_ok (9,fr,to,sq,wh,ki,ks,nw,tb,ep,bo,ak,tk,tn,gd) (bareM (9,fr,to,sq,wh,ki,ks,nw,tb,ep,bo,ak,tk,tn,gd)) hw ht)
 rw [hbm] at hs
 have k1:¬ ((9:Int) < 1):=by decide
 have k2:¬ ((9:Int) > 12):=by decide
 have hp:partsB (9,fr,to,sq,wh,ki,ks,nw,tb,ep,bo,ak,tk,tn,gd)=((!kindB 9 1 || nodeB wh)&&((!kindB 9 2 || knowB ks)&&((!kindB 9 3 || newsB nw)&&((!kindB 9 4 || tabB tb)&&((!kindB 9 7 || tickB ak)&&((!kindB 9 8 || nmB tk))))))):=rfl
 have kb1:kindB 9 1=false:=rfl
 have kb2:kindB 9 2=false:=rfl
 have kb3:kindB 9 3=false:=rfl
 have kb4:kindB 9 4=false:=rfl
 have kb7:kindB 9 7=false:=rfl
 have kb8:kindB 9 8=false:=rfl
 simp -implicitDefEqProofs only [rnode_ok fr,rnode_ok to,hb,hs,k1,k2,eq_self,xs]
 unfold msgB
 rw [hbm,hp]
 have kk1:decide ((1:Int)≤9)=true:=rfl
 have kk2:decide ((9:Int)≤12)=true:=rfl
 simp -implicitDefEqProofs only [kk1,kk2,kb1,kb2,kb3,kb4,kb7,kb8,eq_self,xs]
 cases nodeB fr
 ·simp -implicitDefEqProofs only [eq_self,xs]
 cases nodeB to
 ·simp -implicitDefEqProofs only [eq_self,xs]
 cases (fr==to)
 rotate_left
 ·simp -implicitDefEqProofs only [eq_self,xs]
 simp -implicitDefEqProofs only [eq_self,xs]
 cases hsb:sameB (9,fr,to,sq,wh,ki,ks,nw,tb,ep,bo,ak,tk,tn,gd) (9,fr,to,0,0,0,0,[],[],ep,bo,0,(⟨#[]⟩:ByteArray),0,false)
 ·simp -implicitDefEqProofs only [eq_self,xs]
 unfold sameB at hsb
 simp only [Bool.and_eq_true,beq_iff_eq,decide_eq_true_eq] at hsb
 obtain ⟨q0,q1,q2,q3,q4,q5,q6,q7,q8,q9,q10,q11,q12,q13,q14⟩:=hsb
 subst q4
 subst q5
 subst q6
 subst q7
 subst q8
 subst q11
 have z1:nodeB 0=true:=rfl
 have z2:knowB 0=true:=rfl
 have e2:decide (((List.length ([]:List NW):Nat):Int) > 8)=!decide (List.length ([]:List NW)≤8):=by rw [Bool.eq_iff_iff,Bool.not_eq_true',decide_eq_true_iff,decide_eq_false_iff_not]; omega
 simp -implicitDefEqProofs only [rnode_ok 0,rknow_ok 0 0,e2,dlt 0 0,dgt 0 1099511627776,z1,z2,eq_self,xs]
 have z5:decide (List.length ([]:List NW)≤8)=true:=rfl
 have z6:decide (0≤8)=true:=rfl
 have z8:decide (((0:Nat):Int) > 8)=false:=rfl
 try simp -implicitDefEqProofs only [z5,z6,z8,eq_self,xs]
 have z3:decide ((0:Int)≤1099511627776)=true:=rfl
 have z4:decide ((0:Int)≤0)=true:=rfl
 try simp -implicitDefEqProofs only [z3,z4,eq_self,xs]
 rw [loop_list (s0:=(0:Int)) ([]:List NW) tellB (Sum.inr false) (Sum.inl ()) rfl]
 rotate_left
 ·simp -implicitDefEqProofs only [not_lt_self,Int.lt_irrefl,eq_self,xs]
 ·intro i x hi hx; exact absurd hi (by simp)
 have z7:([]:List NW).all tellB=true:=rfl
 try simp -implicitDefEqProofs only [z7,eq_self,xs]
 have y5:((9:Int)==5)=false:=rfl
 have y6:((9:Int)==6)=false:=rfl
 have y11:decide ((9:Int) < 11)=true:=rfl
 simp -implicitDefEqProofs only [y5,y6,y11,rtab_ok ([]:List KW) (by simp),F79_ok hk,eq_self,xs]
theorem rmay10 {fr to sq wh ki ks ep bo ak tn:Int} {nw:List NW} {tb:List KW} {tk:ByteArray} {gd:Bool} (hw:nw.length≤1000) (ht:tb.length≤1000) (hk:tk.size≤maxLen):F49 (10,fr,to,sq,wh,ki,ks,nw,tb,ep,bo,ak,tk,tn,gd)=some (msgB (10,fr,to,sq,wh,ki,ks,nw,tb,ep,bo,ak,tk,tn,gd)):=by
 rw [F49_eq]
 have hb:=rbare10 (fr:=fr) (to:=to) (sq:=sq) (wh:=wh) (ki:=ki) (ks:=ks) (nw:=nw) (tb:=tb) (ep:=ep) (bo:=bo) (ak:=ak) (tk:=tk) (tn:=tn) (gd:=gd)
 have hbm:bareM (10,fr,to,sq,wh,ki,ks,nw,tb,ep,bo,ak,tk,tn,gd)=(10,fr,to,0,0,0,0,[],[],0,bo,ak,(⟨#[]⟩:ByteArray),0,false):=rfl
 rw [hbm] at hb
 have hs:=(rsame_eq (10,fr,to,sq,wh,ki,ks,nw,tb,ep,bo,ak,tk,tn,gd) (bareM (10,fr,to,sq,wh,ki,ks,nw,tb,ep,bo,ak,tk,tn,gd))).trans (same_ok (10,fr,to,sq,wh,ki,ks,nw,tb,ep,bo,ak,tk,tn,gd) (bareM (10,fr,to,sq,wh,ki,ks,nw,tb,ep,bo,ak,tk,tn,gd)) hw ht)
 rw [hbm] at hs
 have k1:¬ ((10:Int) < 1):=by decide
 have k2:¬ ((10:Int) > 12):=by decide
 have hp:partsB (10,fr,to,sq,wh,ki,ks,nw,tb,ep,bo,ak,tk,tn,gd)=((!kindB 10 1 || nodeB wh)&&((!kindB 10 2 || knowB ks)&&((!kindB 10 3 || newsB nw)&&((!kindB 10 4 || tabB tb)&&((!kindB 10 7 || tickB ak)&&((!kindB 10 8 || nmB tk))))))):=rfl
 have kb1:kindB 10 1=false:=rfl
 have kb2:kindB 10 2=false:=rfl
 have kb3:kindB 10 3=false:=rfl
 have kb4:kindB 10 4=false:=rfl
 have kb7:kindB 10 7=true:=rfl
 have kb8:kindB 10 8=false:=rfl
 simp -implicitDefEqProofs only [rnode_ok fr,rnode_ok to,hb,hs,k1,k2,eq_self,xs]
 unfold msgB
 rw [hbm,hp]
 have kk1:decide ((1:Int)≤10)=true:=rfl
 have kk2:decide ((10:Int)≤12)=true:=rfl
 simp -implicitDefEqProofs only [kk1,kk2,kb1,kb2,kb3,kb4,kb7,kb8,eq_self,xs]
 cases nodeB fr
 ·simp -implicitDefEqProofs only [eq_self,xs]
 cases nodeB to
 ·simp -implicitDefEqProofs only [eq_self,xs]
 cases (fr==to)
 rotate_left
 ·simp -implicitDefEqProofs only [eq_self,xs]
 simp -implicitDefEqProofs only [eq_self,xs]
 cases hsb:sameB (10,fr,to,sq,wh,ki,ks,nw,tb,ep,bo,ak,tk,tn,gd) (10,fr,to,0,0,0,0,[],[],0,bo,ak,(⟨#[]⟩:ByteArray),0,false)
 ·simp -implicitDefEqProofs only [eq_self,xs]
 unfold sameB at hsb
 simp only [Bool.and_eq_true,beq_iff_eq,decide_eq_true_eq] at hsb
 obtain ⟨q0,q1,q2,q3,q4,q5,q6,q7,q8,q9,q10,q11,q12,q13,q14⟩:=hsb
 subst q4
 subst q5
 subst q6
 subst q7
 subst q8
 have z1:nodeB 0=true:=rfl
 have z2:knowB 0=true:=rfl
 have e2:decide (((List.length ([]:List NW):Nat):Int) > 8)=!decide (List.length ([]:List NW)≤8):=by rw [Bool.eq_iff_iff,Bool.not_eq_true',decide_eq_true_iff,decide_eq_false_iff_not]; omega
 simp -implicitDefEqProofs only [rnode_ok 0,rknow_ok 0 0,e2,dlt ak 0,dgt ak 1099511627776,z1,z2,eq_self,xs]
 have z5:decide (List.length ([]:List NW)≤8)=true:=rfl
 have z6:decide (0≤8)=true:=rfl
 have z8:decide (((0:Nat):Int) > 8)=false:=rfl
 try simp -implicitDefEqProofs only [z5,z6,z8,eq_self,xs]
 have hak:tickB ak=(decide (0≤ak)&&decide (ak≤1099511627776)):=rfl
 rw [hak]
 cases decide (0≤ak)
 ·simp -implicitDefEqProofs only [eq_self,xs]
 simp -implicitDefEqProofs only [eq_self,xs]
 cases decide (ak≤1099511627776)
 ·simp -implicitDefEqProofs only [eq_self,xs]
 simp -implicitDefEqProofs only [eq_self,xs]
 rw [loop_list (s0:=(0:Int)) ([]:List NW) tellB (Sum.inr false) (Sum.inl ()) rfl]
 rotate_left
 ·simp -implicitDefEqProofs only [not_lt_self,Int.lt_irrefl,eq_self,xs]
 ·intro i x hi hx; exact absurd hi (by simp)
 have z7:([]:List NW).all tellB=true:=rfl
 try simp -implicitDefEqProofs only [z7,eq_self,xs]
 have y5:((10:Int)==5)=false:=rfl
 have y6:((10:Int)==6)=false:=rfl
 have y11:decide ((10:Int) < 11)=true:=rfl
 simp -implicitDefEqProofs only [y5,y6,y11,rtab_ok ([]:List KW) (by simp),F79_ok hk,eq_self,xs]
theorem rmay11 {fr to sq wh ki ks ep bo ak tn:Int} {nw:List NW} {tb:List KW} {tk:ByteArray} {gd:Bool} (hw:nw.length≤1000) (ht:tb.length≤1000) (hk:tk.size≤maxLen):F49 (11,fr,to,sq,wh,ki,ks,nw,tb,ep,bo,ak,tk,tn,gd)=some (msgB (11,fr,to,sq,wh,ki,ks,nw,tb,ep,bo,ak,tk,tn,gd)):=by
 rw [F49_eq]
 have hb:=rbare11 (fr:=fr) (to:=to) (sq:=sq) (wh:=wh) (ki:=ki) (ks:=ks) (nw:=nw) (tb:=tb) (ep:=ep) (bo:=bo) (ak:=ak) (tk:=tk) (tn:=tn) (gd:=gd)
 have hbm:bareM (11,fr,to,sq,wh,ki,ks,nw,tb,ep,bo,ak,tk,tn,gd)=(11,fr,to,0,0,0,0,[],[],ep,bo,ak,tk,tn,false):=rfl
 rw [hbm] at hb
 have hs:=(rsame_eq (11,fr,to,sq,wh,ki,ks,nw,tb,ep,bo,ak,tk,tn,gd) (bareM (11,fr,to,sq,wh,ki,ks,nw,tb,ep,bo,ak,tk,tn,gd))).trans (same_ok (11,fr,to,sq,wh,ki,ks,nw,tb,ep,bo,ak,tk,tn,gd) (bareM (11,fr,to,sq,wh,ki,ks,nw,tb,ep,bo,ak,tk,tn,gd)) hw ht)
 rw [hbm] at hs
 have k1:¬ ((11:Int) < 1):=by decide
 have k2:¬ ((11:Int) > 12):=by decide
 have hp:partsB (11,fr,to,sq,wh,ki,ks,nw,tb,ep,bo,ak,tk,tn,gd)=((!kindB 11 1 || nodeB wh)&&((!kindB 11 2 || knowB ks)&&((!kindB 11 3 || newsB nw)&&((!kindB 11 4 || tabB tb)&&((!kindB 11 7 || tickB ak)&&((!kindB 11 8 || nmB tk))))))):=rfl
 have kb1:kindB 11 1=false:=rfl
 have kb2:kindB 11 2=false:=rfl
 have kb3:kindB 11 3=false:=rfl
 have kb4:kindB 11 4=false:=rfl
 have kb7:kindB 11 7=true:=rfl
 have kb8:kindB 11 8=true:=rfl
 simp -implicitDefEqProofs only [rnode_ok fr,rnode_ok to,hb,hs,k1,k2,eq_self,xs]
 unfold msgB
 rw [hbm,hp]
 have kk1:decide ((1:Int)≤11)=true:=rfl
 have kk2:decide ((11:Int)≤12)=true:=rfl
 simp -implicitDefEqProofs only [kk1,kk2,kb1,kb2,kb3,kb4,kb7,kb8,eq_self,xs]
 cases nodeB fr
 ·simp -implicitDefEqProofs only [eq_self,xs]
 cases nodeB to
 ·simp -implicitDefEqProofs only [eq_self,xs]
 cases (fr==to)
 rotate_left
 ·simp -implicitDefEqProofs only [eq_self,xs]
 simp -implicitDefEqProofs only [eq_self,xs]
 cases hsb:sameB (11,fr,to,sq,wh,ki,ks,nw,tb,ep,bo,ak,tk,tn,gd) (11,fr,to,0,0,0,0,[],[],ep,bo,ak,tk,tn,false)
 ·simp -implicitDefEqProofs only [eq_self,xs]
 unfold sameB at hsb
 simp only [Bool.and_eq_true,beq_iff_eq,decide_eq_true_eq] at hsb
 obtain ⟨q0,q1,q2,q3,q4,q5,q6,q7,q8,q9,q10,q11,q12,q13,q14⟩:=hsb
 subst q4
 subst q5
 subst q6
 subst q7
 subst q8
 have z1:nodeB 0=true:=rfl
 have z2:knowB 0=true:=rfl
 have e2:decide (((List.length ([]:List NW):Nat):Int) > 8)=!decide (List.length ([]:List NW)≤8):=by rw [Bool.eq_iff_iff,Bool.not_eq_true',decide_eq_true_iff,decide_eq_false_iff_not]; omega
 simp -implicitDefEqProofs only [rnode_ok 0,rknow_ok 0 0,e2,dlt ak 0,dgt ak 1099511627776,z1,z2,eq_self,xs]
 have z5:decide (List.length ([]:List NW)≤8)=true:=rfl
 have z6:decide (0≤8)=true:=rfl
 have z8:decide (((0:Nat):Int) > 8)=false:=rfl
 try simp -implicitDefEqProofs only [z5,z6,z8,eq_self,xs]
 have hak:tickB ak=(decide (0≤ak)&&decide (ak≤1099511627776)):=rfl
 rw [hak]
 cases decide (0≤ak)
 ·simp -implicitDefEqProofs only [eq_self,xs]
 simp -implicitDefEqProofs only [eq_self,xs]
 cases decide (ak≤1099511627776)
 ·simp -implicitDefEqProofs only [eq_self,xs]
 simp -implicitDefEqProofs only [eq_self,xs]
 rw [loop_list (s0:=(0:Int)) ([]:List NW) tellB (Sum.inr false) (Sum.inl ()) rfl]
 rotate_left
 ·simp -implicitDefEqProofs only [not_lt_self,Int.lt_irrefl,eq_self,xs]
 ·intro i x hi hx; exact absurd hi (by simp)
 have z7:([]:List NW).all tellB=true:=rfl
 try simp -implicitDefEqProofs only [z7,eq_self,xs]
 have y5:((11:Int)==5)=false:=rfl
 have y6:((11:Int)==6)=false:=rfl
 have y11:decide ((11:Int) < 11)=false:=rfl
 simp -implicitDefEqProofs only [y5,y6,y11,rtab_ok ([]:List KW) (by simp),F79_ok hk,eq_self,xs]
theorem rmay12 {fr to sq wh ki ks ep bo ak tn:Int} {nw:List NW} {tb:List KW} {tk:ByteArray} {gd:Bool} (hw:nw.length≤1000) (ht:tb.length≤1000) (hk:tk.size≤maxLen):F49 (12,fr,to,sq,wh,ki,ks,nw,tb,ep,bo,ak,tk,tn,gd)=some (msgB (12,fr,to,sq,wh,ki,ks,nw,tb,ep,bo,ak,tk,tn,gd)):=by
 rw [F49_eq]
 have hb:=rbare12 (fr:=fr) (to:=to) (sq:=sq) (wh:=wh) (ki:=ki) (ks:=ks) (nw:=nw) (tb:=tb) (ep:=ep) (bo:=bo) (ak:=ak) (tk:=tk) (tn:=tn) (gd:=gd)
 have hbm:bareM (12,fr,to,sq,wh,ki,ks,nw,tb,ep,bo,ak,tk,tn,gd)=(12,fr,to,0,0,0,0,[],[],0,0,0,tk,tn,gd):=rfl
 rw [hbm] at hb
 have hs:=(rsame_eq (12,fr,to,sq,wh,ki,ks,nw,tb,ep,bo,ak,tk,tn,gd) (bareM (12,fr,to,sq,wh,ki,ks,nw,tb,ep,bo,ak,tk,tn,gd))).trans (same_ok (12,fr,to,sq,wh,ki,ks,nw,tb,ep,bo,ak,tk,tn,gd) (bareM (12,fr,to,sq,wh,ki,ks,nw,tb,ep,bo,ak,tk,tn,gd)) hw ht)
 rw [hbm] at hs
 have k1:¬ ((12:Int) < 1):=by decide
 have k2:¬ ((12:Int) > 12):=by decide
 have hp:partsB (12,fr,to,sq,wh,ki,ks,nw,tb,ep,bo,ak,tk,tn,gd)=((!kindB 12 1 || nodeB wh)&&((!kindB 12 2 || knowB ks)&&((!kindB 12 3 || newsB nw)&&((!kindB 12 4 || tabB tb)&&((!kindB 12 7 || tickB ak)&&((!kindB 12 8 || nmB tk))))))):=rfl
 have kb1:kindB 12 1=false:=rfl
 have kb2:kindB 12 2=false:=rfl
 have kb3:kindB 12 3=false:=rfl
 have kb4:kindB 12 4=false:=rfl
 have kb7:kindB 12 7=false:=rfl
 have kb8:kindB 12 8=true:=rfl
 simp -implicitDefEqProofs only [rnode_ok fr,rnode_ok to,hb,hs,k1,k2,eq_self,xs]
 unfold msgB
 rw [hbm,hp]
 have kk1:decide ((1:Int)≤12)=true:=rfl
 have kk2:decide ((12:Int)≤12)=true:=rfl
 simp -implicitDefEqProofs only [kk1,kk2,kb1,kb2,kb3,kb4,kb7,kb8,eq_self,xs]
 cases nodeB fr
 ·simp -implicitDefEqProofs only [eq_self,xs]
 cases nodeB to
 ·simp -implicitDefEqProofs only [eq_self,xs]
 cases (fr==to)
 rotate_left
 ·simp -implicitDefEqProofs only [eq_self,xs]
 simp -implicitDefEqProofs only [eq_self,xs]
 cases hsb:sameB (12,fr,to,sq,wh,ki,ks,nw,tb,ep,bo,ak,tk,tn,gd) (12,fr,to,0,0,0,0,[],[],0,0,0,tk,tn,gd)
 ·simp -implicitDefEqProofs only [eq_self,xs]
 unfold sameB at hsb
 simp only [Bool.and_eq_true,beq_iff_eq,decide_eq_true_eq] at hsb
 obtain ⟨q0,q1,q2,q3,q4,q5,q6,q7,q8,q9,q10,q11,q12,q13,q14⟩:=hsb
 subst q4
 subst q5
 subst q6
 subst q7
 subst q8
 subst q11
 have z1:nodeB 0=true:=rfl
 have z2:knowB 0=true:=rfl
 have e2:decide (((List.length ([]:List NW):Nat):Int) > 8)=!decide (List.length ([]:List NW)≤8):=by rw [Bool.eq_iff_iff,Bool.not_eq_true',decide_eq_true_iff,decide_eq_false_iff_not]; omega
 simp -implicitDefEqProofs only [rnode_ok 0,rknow_ok 0 0,e2,dlt 0 0,dgt 0 1099511627776,z1,z2,eq_self,xs]
 have z5:decide (List.length ([]:List NW)≤8)=true:=rfl
 have z6:decide (0≤8)=true:=rfl
 have z8:decide (((0:Nat):Int) > 8)=false:=rfl
 try simp -implicitDefEqProofs only [z5,z6,z8,eq_self,xs]
 have z3:decide ((0:Int)≤1099511627776)=true:=rfl
 have z4:decide ((0:Int)≤0)=true:=rfl
 try simp -implicitDefEqProofs only [z3,z4,eq_self,xs]
 rw [loop_list (s0:=(0:Int)) ([]:List NW) tellB (Sum.inr false) (Sum.inl ()) rfl]
 rotate_left
 ·simp -implicitDefEqProofs only [not_lt_self,Int.lt_irrefl,eq_self,xs]
 ·intro i x hi hx; exact absurd hi (by simp)
 have z7:([]:List NW).all tellB=true:=rfl
 try simp -implicitDefEqProofs only [z7,eq_self,xs]
 have y5:((12:Int)==5)=false:=rfl
 have y6:((12:Int)==6)=false:=rfl
 have y11:decide ((12:Int) < 11)=false:=rfl
 simp -implicitDefEqProofs only [y5,y6,y11,rtab_ok ([]:List KW) (by simp),F79_ok hk,eq_self,xs]
theorem rmay_ok (m:MB) (hw:m.2.2.2.2.2.2.2.1.length≤1000) (ht:m.2.2.2.2.2.2.2.2.1.length≤1000) (hk:m.2.2.2.2.2.2.2.2.2.2.2.2.1.size≤maxLen):F49 m=some (msgB m):=by
 obtain ⟨k,fr,to,sq,wh,ki,ks,nw,tb,ep,bo,ak,tk,tn,gd⟩:=m
 by_cases k1:k < 1
 ·rw [F49_eq]
  unfold msgB
  have e:decide ((1:Int)≤k)=false:=by rw [decide_eq_false_iff_not]; omega
  simp -implicitDefEqProofs only [k1,e,eq_self,xs]
 by_cases k2:k > 12
 ·rw [F49_eq]
  unfold msgB
  have e:decide (k≤12)=false:=by rw [decide_eq_false_iff_not]; omega
  simp -implicitDefEqProofs only [k1,k2,e,eq_self,xs]
 have hk12:k=1∨k=2∨k=3∨k=4∨k=5∨k=6∨k=7∨k=8∨k=9∨k=10∨k=11∨k=12:=by omega
 rcases hk12 with rfl | rfl | rfl | rfl | rfl | rfl | rfl | rfl | rfl | rfl | rfl | rfl
 ·exact rmay1 hw ht hk
 ·exact rmay2 hw ht hk
 ·exact rmay3 hw ht hk
 ·exact rmay4 hw ht hk
 ·exact rmay5 hw ht hk
 ·exact rmay6 hw ht hk
 ·exact rmay7 hw ht hk
 ·exact rmay8 hw ht hk
 ·exact rmay9 hw ht hk
 ·exact rmay10 hw ht hk
 ·exact rmay11 hw ht hk
 ·exact rmay12 hw ht hk
end Go.Proofs.YthidhledenklhaaGreat.VL
end
section
namespace Go.Proofs.YthidhledenklhaaGreat.VL
open Go
set_option linter.unusedVariables false
set_option linter.unusedSectionVars false
set_option linter.unusedSimpArgs false
set_option maxRecDepth 100000
variable [Val]
def topK (ks:List KB) (tk:ByteArray):Int:=match lkn Prod.fst ks tk with
 | some x=>if x.2.2.1=true then x.2.1+1 else x.2.1
 | none=>0
def upd (f:ByteArray→Int) (k:ByteArray) (v:Int) (tk:ByteArray):Int:=if eqN tk k=true then v else f tk
structure Stays20 (h:Int) (w:WB) (now:Int) (ov la:ByteArray→Int):Prop where
 ok:WorkOk w
 bt:w.1=1
 k0:∀ x ∈ w.2.2,0≤x.2.1
 jn:∀ j ∈ w.2.1,j.2.2≤now+h
 jl:∀ j ∈ w.2.1,j.2.2≤la j.1
 top:∀ tk,ov tk≤topK w.2.2 tk
def Rise (ks ks':List KB):Prop:=∀ x ∈ ks,∃ y,lkn Prod.fst ks' x.1=some y∧x.2.1≤y.2.1
theorem lkn_mem {β:Type} {l:List (ByteArray×β)} (hs:nmO.Srt Prod.fst l) {x:ByteArray×β} (hx:x ∈ l):lkn Prod.fst l x.1=some x:=by
 rw [lkn_look]; exact KOrd.look_mem hs hx
theorem rise_put {ks:List KB} (hs:nmO.Srt Prod.fst ks) {z:KB} (h:∀ x,lkn Prod.fst ks z.1=some x→x.2.1≤z.2.1):Rise ks (nmO.put Prod.fst ks z):=by
 intro x hx
 rw [lkn_put hs]
 by_cases he:eqN z.1 x.1=true
 ·rw [if_pos he]
  exact ⟨z,rfl,h x (by rw [eqN_eq he]; exact lkn_mem hs hx)⟩
 ·rw [if_neg he]
  exact ⟨x,lkn_mem hs hx,Int.le_refl _⟩
theorem top_put {ks:List KB} (hs:nmO.Srt Prod.fst ks) (z:KB) (tk:ByteArray):topK (nmO.put Prod.fst ks z) tk=if eqN z.1 tk=true then (if z.2.2.1=true then z.2.1+1 else z.2.1) else topK ks tk:=by
 unfold topK
 rw [lkn_put hs]
 by_cases he:eqN z.1 tk=true
 ·rw [if_pos he,if_pos he]
 ·rw [if_neg he,if_neg he]
theorem mem_putN {β:Type} {l:List (ByteArray×β)} {x y:ByteArray×β}:y ∈ nmO.put Prod.fst l x ↔ y=x∨(y ∈ l∧y.1≠x.1):=KOrd.mem_put
theorem eqN_not {a b:ByteArray} (h:a≠b):¬ eqN a b=true:=fun k=>h (eqN_eq k)
theorem Stays20.take {h e:Int} {w:WB} {now bt ak:Int} {tk:ByteArray} {tn:Int} {ov la:ByteArray→Int} (s:Stays20 h w now ov la) (hh:1≤h∧h≤1000001) (t:Took h e w now bt ak tk tn) (h0:0≤tn) :
  Stays20 h (tkn h w ak tk tn) now ov (upd la tk (max (la tk) (ak+h)))∧Rise w.2.2 (tkn h w ak tk tn).2.2:=by
 have hold:=t.old
 have hk:=s.ok.k.srt
 have hle:topK w.2.2 tk≤tn∧∀ x,lkn Prod.fst w.2.2 tk=some x→x.2.1≤tn:=by
  unfold oldB at hold
  unfold topK
  cases hl:lkn Prod.fst w.2.2 tk with
  | none=>exact ⟨h0,fun x hx=>by cases hx⟩
  | some x =>
   rw [hl] at hold
   simp only [Bool.or_eq_false_iff,decide_eq_false_iff_not,Bool.and_eq_false_iff,beq_eq_false_iff_ne] at hold
   refine ⟨?_,fun y hy=>by cases hy; omega⟩
   simp only
   cases hx:x.2.2.1
   ·rw [if_neg (by decide)]; omega
   ·rw [if_pos rfl]
    rw [hx] at hold
    have:¬ tn=x.2.1:=hold.2.elim id (fun q=>nomatch q)
    omega
 refine ⟨⟨t.work hh,s.bt,?_,?_,?_,?_⟩,rise_put hk hle.2⟩
 ·intro x hx
  rcases mem_putN.1 hx with rfl | ⟨hx,_⟩
  ·exact h0
  ·exact s.k0 x hx
 ·intro j hj
  have tl:=t.le
  rcases mem_putN.1 hj with rfl | ⟨hj,_⟩
  ·show untilV w.2.1 tk tn (ak+h)≤now+h
   unfold untilV
   cases hl:lkn Prod.fst w.2.1 tk with
   | none=>simp only; omega
   | some y =>
    have:=s.jn y (lkn_key hl).1
    simp only
    split<;>omega
  ·exact s.jn j hj
 ·intro j hj
  rcases mem_putN.1 hj with rfl | ⟨hj,hne⟩
  ·show untilV w.2.1 tk tn (ak+h)≤upd la tk (max (la tk) (ak+h)) tk
   unfold upd
   rw [if_pos (eqN_refl _)]
   unfold untilV
   cases hl:lkn Prod.fst w.2.1 tk with
   | none=>simp only; omega
   | some y =>
    have h1:=s.jl y (lkn_key hl).1
    rw [(lkn_key hl).2] at h1
    simp only
    split<;>omega
  ·unfold upd
   rw [if_neg (eqN_not hne)]
   exact s.jl j hj
 ·intro k
  show ov k≤topK (nmO.put Prod.fst w.2.2 (tk,tn,false,false)) k
  rw [top_put hk]
  by_cases he:eqN tk k=true
  ·have hk2:tk=k:=eqN_eq he
   subst hk2
   rw [if_pos he,if_neg (show ¬ ((false:Bool)=true) by decide)]
   have:=s.top tk
   have:=hle.1
   show ov tk≤tn
   omega
  ·rw [if_neg he]; exact s.top k
theorem shelf_sub {β:Type} {l m:List (ByteArray×β)} (h:Shelf l) (hm:m.Sublist l):Shelf m :=
 ⟨Nat.le_trans hm.length_le h.len,fun x hx=>h.nms x (hm.subset hx),h.srt.sublist hm⟩
theorem Stays20.drop {h:Int} {w:WB} {now:Int} {ov la:ByteArray→Int} (s:Stays20 h w now ov la) (p:JB→Bool):Stays20 h (w.1,w.2.1.filter p,w.2.2) now ov la :=
 ⟨⟨shelf_sub s.ok.j List.filter_sublist,s.ok.k,s.ok.ok,fun j hj=>s.ok.oj j (List.mem_filter.1 hj).1⟩,s.bt,s.k0,fun j hj=>s.jn j (List.mem_filter.1 hj).1,fun j hj=>s.jl j (List.mem_filter.1 hj).1,s.top⟩
theorem del_mem {β:Type} {l:List (ByteArray×β)} (hs:nmO.Srt Prod.fst l) {tk:ByteArray} {x:ByteArray×β} (h:lkn Prod.fst l tk=some x):(delP l (nmO.plc Prod.fst l tk)).Sublist l∧∀ y ∈ delP l (nmO.plc Prod.fst l tk),y.1≠tk:=by
 obtain ⟨h1,h2⟩:=fnd_at hs h
 have hk:=(lkn_key h).2
 generalize nmO.plc Prod.fst l tk=p at *
 have e:l=l.take p++x::l.drop (p+1):=by
  rw [List.getElem?_eq_getElem h1] at h2
  cases h2
  rw [List.getElem_cons_drop,List.take_append_drop]
 unfold delP
 constructor
 ·exact Eq.subst (motive:=fun z=>(l.take p++l.drop (p+1)).Sublist z) e.symm (List.Sublist.append_left (List.sublist_cons_self x _) _)
 ·intro y hy
  have hs':nmO.Srt Prod.fst (l.take p++x::l.drop (p+1)):=e ▸ hs
  unfold KOrd.Srt at hs'
  rw [List.pairwise_append,List.pairwise_cons] at hs'
  rcases List.mem_append.1 hy with hy | hy
  ·have:=hs'.2.2 y hy x List.mem_cons_self
   rw [← hk]
   exact nmO.ne this
  ·have:=hs'.2.1.1 y hy
   rw [← hk]
   exact (nmO.ne this).symm
end Go.Proofs.YthidhledenklhaaGreat.VL
end
section
namespace Go.Proofs.YthidhledenklhaaGreat.VL
open Go
set_option linter.unusedVariables false
set_option linter.unusedSectionVars false
set_option linter.unusedSimpArgs false
set_option maxRecDepth 100000
variable [Val]
theorem lt_asym {a b:ByteArray} (h:ltN a b=true):ltN b a=false:=nmO.asym h
theorem loop_put {β:Type} {l:List (ByteArray×β)} (hs:nmO.Srt Prod.fst l) (z:ByteArray×β) {f:(Bool×Int)×List (ByteArray×β)→Option (((Bool×Int)×List (ByteArray×β)) ⊕ (Bool×List (ByteArray×β)))} {s0:(Bool×Int)×List (ByteArray×β)} (h0:s0=((false,0),[]))
  (hend:∀ (d:Bool) (a:List (ByteArray×β)),f ((d,(l.length:Int)),a)=some (.inr (d,a)))
  (hstep:∀ (i:Nat) (x:ByteArray×β) (d:Bool) (a:List (ByteArray×β)),i < l.length→l[i]?=some x→a.length≤2 * i+1 →
   f ((d,(i:Int)),a)=some (.inl ((d || !ltN x.1 z.1,((i+1:Nat):Int)),(if (!d&&!ltN x.1 z.1)=true then a++[z] else a)++(if eqN x.1 z.1=true then [] else [x])))) :
  ∃ d a,loopX f s0=some (d,a)∧a.length≤2 * l.length+1∧(if d=true then a else a++[z])=nmO.put Prod.fst l z:=by
 have hlen:∀ i,i≤l.length→∀ q:List (ByteArray×β),q=(l.take i).filter (fun y=>ltN y.1 z.1)++(if (l.take i).any (fun y=>!ltN y.1 z.1)=true then [z] else [])++(l.take i).filter (fun y=>ltN z.1 y.1)→q.length≤2 * i+1:=by
  rintro i hi q rfl
  have h1:=List.length_filter_le (fun y:ByteArray×β=>ltN y.1 z.1) (l.take i)
  have h2:=List.length_filter_le (fun y:ByteArray×β=>ltN z.1 y.1) (l.take i)
  rw [List.length_take] at h1 h2
  rw [List.length_append,List.length_append]
  split<;>simp only [List.length_cons,List.length_nil]<;>omega
 have hno:∀ m:List (ByteArray×β),m.any (fun y=>!ltN y.1 z.1)=false→m.filter (fun y=>ltN z.1 y.1)=[]:=by
  intro m hm
  rw [List.filter_eq_nil_iff]
  intro y hy
  rw [List.any_eq_false] at hm
  have:=hm y hy
  cases h:ltN y.1 z.1
  ·rw [h] at this; exact absurd rfl this
  ·rw [lt_asym h]; decide
 refine ⟨l.any (fun y=>!ltN y.1 z.1),l.filter (fun y=>ltN y.1 z.1)++(if l.any (fun y=>!ltN y.1 z.1)=true then [z] else [])++l.filter (fun y=>ltN z.1 y.1),?_,?_,?_⟩
 ·rw [h0]
  refine loop_detE (s0:=((false,(0:Int)),([]:List (ByteArray×β)))) l.length (fun i=>(((l.take i).any (fun y=>!ltN y.1 z.1),(i:Int)),(l.take i).filter (fun y=>ltN y.1 z.1)++(if (l.take i).any (fun y=>!ltN y.1 z.1)=true then [z] else [])++(l.take i).filter (fun y=>ltN z.1 y.1))) _ rfl ?_ ?_
  ·simp only [List.take_length]
   exact hend _ _
  ·intro i hi
   have hx:l[i]?=some l[i]:=List.getElem?_eq_getElem hi
   have tk:l.take (i+1)=l.take i++[l[i]]:=(List.take_append_getElem hi).symm
   have hb:=hlen i (by omega) _ rfl
   rw [hstep i l[i] _ _ hi hx hb]
   congr 2
   have hpre:∀ y ∈ l.take i,ltN y.1 l[i].1=true:=by
    intro y hy
    have hs':nmO.Srt Prod.fst (l.take i++l.drop i):=by rw [List.take_append_drop]; exact hs
    unfold KOrd.Srt at hs'
    rw [List.pairwise_append] at hs'
    exact hs'.2.2 y hy l[i] (by rw [List.drop_eq_getElem_cons hi]; exact List.mem_cons_self)
   rw [tk]
   simp only [List.any_append,List.filter_append,List.any_cons,List.any_nil,Bool.or_false]
   generalize l[i]=x at *
   cases hlt:ltN x.1 z.1
   ·
    have hgt:ltN z.1 x.1=!eqN x.1 z.1:=by
     rcases tri x.1 z.1 with h | h | h
     ·rw [h] at hlt; cases hlt
     ·rw [h,eqN_refl]; exact lt_self _
     ·rw [h]
      cases he:eqN x.1 z.1
      ·rfl
      ·rw [eqN_eq he,lt_self] at h; cases h
    rw [Bool.not_false,Bool.or_true,Bool.and_true,if_pos rfl]
    have e1:List.filter (fun y=>ltN y.1 z.1) [x]=[]:=by rw [List.filter_cons_of_neg (by rw [hlt]; decide)]; rfl
    have e2:List.filter (fun y=>ltN z.1 y.1) [x]=if eqN x.1 z.1=true then [] else [x]:=by
     cases he:eqN x.1 z.1
     ·rw [List.filter_cons_of_pos (by rw [hgt,he]; rfl),if_neg (by decide)]; rfl
     ·rw [List.filter_cons_of_neg (by rw [hgt,he]; decide),if_pos rfl]; rfl
    rw [e1,e2,List.append_nil]
    cases hd:(l.take i).any (fun y=>!ltN y.1 z.1)
    ·rw [hno _ hd,Bool.not_false,if_pos rfl,if_neg (by decide)]
     simp only [List.append_nil,List.append_assoc,List.nil_append]
    ·rw [Bool.not_true,if_neg (by decide),if_pos rfl]
     simp only [List.append_assoc]
   ·have hd:(l.take i).any (fun y=>!ltN y.1 z.1)=false:=by
     rw [List.any_eq_false]
     intro y hy
     have h1:ltN y.1 z.1=true:=bl_trans (hpre y hy) hlt
     rw [h1]; decide
    have e1:List.filter (fun y=>ltN y.1 z.1) [x]=[x]:=by rw [List.filter_cons_of_pos (by exact hlt)]; rfl
    have e2:List.filter (fun y=>ltN z.1 y.1) [x]=[]:=by rw [List.filter_cons_of_neg (by rw [lt_asym hlt]; decide)]; rfl
    have e3:eqN x.1 z.1=false:=eqN_of_lt hlt
    rw [e1,e2,e3,hd,hno _ hd]
    simp
 ·exact hlen l.length (Nat.le_refl _) _ (by rw [List.take_length])
 ·unfold KOrd.put
  show _=l.filter (fun y=>ltN y.1 z.1)++z::l.filter (fun y=>ltN z.1 y.1)
  cases hd:l.any (fun y=>!ltN y.1 z.1)
  ·rw [if_neg (by decide),if_neg (by decide),hno _ hd]; simp
  ·rw [if_pos rfl,if_pos rfl]; simp
theorem F51_ok {l:List KB} (hs:nmO.Srt Prod.fst l) (hl:l.length≤1000) (z:KB):F51 (l,z)=some (nmO.put Prod.fst l z):=by
 rw [F51_eq]
 obtain ⟨zn,zt,zo,zg⟩:=z
 have key:∀ (x:Option (Bool×List KB)) (K:Bool×List KB→Option (List KB)),(∃ d a,x=some (d,a)∧a.length≤2 * l.length+1∧(if d=true then a else a++[(zn,zt,zo,zg)])=nmO.put Prod.fst l (zn,zt,zo,zg)) →
   (∀ d a,a.length≤2001→K (d,a)=some (if d=true then a else a++[(zn,zt,zo,zg)]))→Option.bind x K=some (nmO.put Prod.fst l (zn,zt,zo,zg)):=by
  rintro x K ⟨d,a,rfl,h1,h2⟩ hK
  show K (d,a)=_
  rw [hK d a (by omega),h2]
 refine key _ _ (loop_put hs (zn,zt,zo,zg) rfl ?_ ?_) ?_
 ·intro d a
  simp -implicitDefEqProofs only [not_lt_self,eq_self,xs]
 ·intro i x d a hi hx ha
  have q1:((i:Nat):Int) < ((l.length:Nat):Int):=by omega
  have q2:(0:Int)≤(i:Int):=by omega
  have q3:(((a.length+1:Nat):Int) * 32≤70368744177664):=by omega
  have q4:(((a.length+1:Nat):Int)≤70368744177664):=by omega
  have q5:(((a.length+1+1:Nat):Int) * 32≤70368744177664):=by omega
  have q6:(((a.length+1+1:Nat):Int)≤70368744177664):=by omega
  unfold ltN eqN
  have hw:=w1 (show i≤9223372036854775806 by omega)
  cases d<;>cases h1:Op.bytesLess x.1.toList zn.toList<;>cases h2:(x.1.toList==zn.toList)<;>(try simp -implicitDefEqProofs only [q1,q2,q3,q4,q5,q6,hx,h1,h2,hw,eq_self,xs])<;>(try rfl)
  all_goals simp
 ·intro d a ha
  have q3:(((a.length+1:Nat):Int) * 32≤70368744177664):=by omega
  have q4:(((a.length+1:Nat):Int)≤70368744177664):=by omega
  cases d
  ·simp -implicitDefEqProofs only [q3,q4,eq_self,xs]
   rw [List.take_of_length_le (by rw [List.length_append]; exact Nat.le_refl _)]
  ·simp -implicitDefEqProofs only [q3,q4,eq_self,xs]
end Go.Proofs.YthidhledenklhaaGreat.VL
end
section
namespace Go.Proofs.YthidhledenklhaaGreat.VL
open Go
set_option linter.unusedVariables false
set_option linter.unusedSectionVars false
set_option linter.unusedSimpArgs false
set_option maxRecDepth 100000
variable [Val]
theorem without_del {js:List JB} (hs:nmO.Srt Prod.fst js) {tk:ByteArray} {j:JB} (hj:lkn Prod.fst js tk=some j):js.filter (fun x=>!eqN x.1 tk)=delP js (nmO.plc Prod.fst js tk):=by
 obtain ⟨d1,d2⟩:=del_mem hs hj
 obtain ⟨p1,p2⟩:=fnd_at hs hj
 refine KOrd.srt_ext (O:=nmO) (key:=Prod.fst) (hs.sublist List.filter_sublist) (hs.sublist d1) fun y=>?_
 rw [List.mem_filter]
 constructor
 ·rintro ⟨hy,hn⟩
  have hne:y.1≠tk:=fun q=>by rw [q,eqN_refl] at hn; cases hn
  generalize nmO.plc Prod.fst js tk=p at *
  have e:js=js.take p++j::js.drop (p+1):=by
   rw [List.getElem?_eq_getElem p1] at p2
   cases p2
   rw [List.getElem_cons_drop,List.take_append_drop]
  unfold delP
  rw [e,List.mem_append,List.mem_cons] at hy
  rw [List.mem_append]
  rcases hy with h | h | h
  ·exact .inl h
  ·exact absurd (by rw [h]; exact (lkn_key hj).2) hne
  ·exact .inr h
 ·intro hy
  refine ⟨d1.subset hy,?_⟩
  cases he:eqN y.1 tk
  ·rfl
  ·exact absurd (eqN_eq he) (d2 y hy)
theorem F24_ok (now:Int):F24 now=some (momB now):=by
 rw [F24_eq]
 unfold momB
 cases decide (0≤now)<;>rfl
theorem F23_ok {wb now:Int} {js:List JB} {ks:List KB} {tk:ByteArray} {gd:Bool} (hz:SzW (wb,js,ks)):F23 ((wb,js,ks),now,tk,gd)=some (endR (wb,js,ks) now tk gd):=by
 have h21:=F21_ok hz
 have h24:=F24_ok now
 rw [F23_eq]
 cases h1:workB (wb,js,ks)
 ·rw [h1] at h21
  unfold endR
  rw [h1,Bool.false_and,if_neg (by decide)]
  simp -implicitDefEqProofs only [h21,eq_self,xs]
 cases h2:momB now
 ·rw [h1] at h21
  rw [h2] at h24
  unfold endR
  rw [h1,h2,if_neg (by decide)]
  simp -implicitDefEqProofs only [h21,h24,eq_self,xs]
 rw [h1] at h21
 rw [h2] at h24
 have hW:=(work_iff _).1 h1
 have hj:js.length≤1000:=hz.j
 have hsj:nmO.Srt Prod.fst js:=hW.j.srt
 have hsk:nmO.Srt Prod.fst ks:=hW.k.srt
 simp -implicitDefEqProofs only [h21,h24,eq_self,xs]
 have key:∀ (x:Option (WB×(Int×Int))),(∃ r,x=some r∧r=endR (wb,js,ks) now tk gd)→x=some (endR (wb,js,ks) now tk gd):=by
  rintro x ⟨r,rfl,rfl⟩; rfl
 have hend:endR (wb,js,ks) now tk gd=(match lkn Prod.fst js tk with
  | some j=>if j.2.2≤now then ((wb,js,ks),0,6) else ((wb,delP js (nmO.plc Prod.fst js tk),nmO.put Prod.fst ks (tk,j.2.1,true,gd)),j.2.1,0)
  | none=>((wb,js,ks),0,6)):=by
  unfold endR
  rw [h1,h2,if_pos (by decide)]
  try rfl
 refine key _ (loop_ex (fun s:Int×Int=>∃ i:Nat,s.1=(i:Int)∧i≤js.length∧∀ x ∈ js.take i,¬ (x.1=tk∧now < x.2.2)) (fun s=>(js.length - s.1).toNat) _ ?_ _ ⟨0,rfl,Nat.zero_le _,fun x hx=>by simp at hx⟩)
 rintro ⟨ii,c⟩ ⟨i,rfl,hi,hno⟩
 rcases Nat.lt_or_ge i js.length with hlt | hge
 ·have q1:((i:Nat):Int) < ((js.length:Nat):Int):=by omega
  have q2:(0:Int)≤(i:Int):=by omega
  have hx:js[i]?=some js[i]:=List.getElem?_eq_getElem hlt
  have tk':js.take (i+1)=js.take i++[js[i]]:=(List.take_append_getElem hlt).symm
  have hm:js[i] ∈ js:=List.getElem_mem hlt
  generalize js[i]=x at *
  have hw:=w1 (show i≤9223372036854775806 by omega)
  by_cases hc:x.1=tk∧now < x.2.2
  ·left
   obtain ⟨c1,c2⟩:=hc
   have f50:=F50_ok hj tk
   have f51:=F51_ok hsk hz.k (tk,x.2.1,true,gd)
   have hl:lkn Prod.fst js tk=some x:=by rw [← c1]; exact lkn_mem hsj hm
   rw [without_del hsj hl] at f50
   have e:(x.1.toList==tk.toList)=true:=by rw [c1]; exact beq_self_eq_true _
   simp -implicitDefEqProofs only [q1,q2,hx,e,c2,f50,f51,eq_self,xs]
   refine ⟨_,rfl,?_⟩
   rw [hend,hl]
   simp only
   rw [if_neg (by omega)]
  ·right
   have hcc:(cond (x.1.toList==tk.toList) (some (decide (now < x.2.2))) (some false))=some false:=by
    cases he:(x.1.toList==tk.toList)
    ·rfl
    ·have:¬ now < x.2.2:=fun q=>hc ⟨toList_inj (eq_of_beq he),q⟩
     rw [decide_eq_false this]; rfl
   simp -implicitDefEqProofs only [q1,q2,hx,hcc,hw,eq_self,xs]
   refine ⟨_,rfl,⟨i+1,rfl,hlt,fun y hy=>?_⟩,by simp only; omega⟩
   rw [tk',List.mem_append,List.mem_singleton] at hy
   rcases hy with hy | hy
   ·exact hno y hy
   ·rw [hy]; exact hc
 ·left
  have e:i=js.length:=by omega
  subst e
  rw [List.take_length] at hno
  simp -implicitDefEqProofs only [not_lt_self,eq_self,xs]
  refine ⟨_,rfl,?_⟩
  rw [hend]
  cases hl:lkn Prod.fst js tk with
  | none=>rfl
  | some j =>
   have hk:=lkn_key hl
   have:=hno j hk.1
   have:¬ now < j.2.2:=fun q=>this ⟨hk.2,q⟩
   simp only
   rw [if_pos (by omega)]
theorem loop_until {js:List JB} (hs:nmO.Srt Prod.fst js) (tk:ByteArray) (tn u:Int) {f:Int×Int→Option ((Int×Int) ⊕ Int)} {s0:Int×Int} (h0:s0=(u,0))
  (hend:∀ v:Int,f (v,(js.length:Int))=some (.inr v))
  (hstep:∀ (i:Nat) (x:JB) (v:Int),i < js.length→js[i]?=some x→f (v,(i:Int))=some (.inl (if (eqN x.1 tk&&(x.2.1==tn))=true then max v x.2.2 else v,((i+1:Nat):Int)))) :
  loopX f s0=some (untilV js tk tn u):=by
 subst h0
 refine loop_detE (s0:=(u,(0:Int))) js.length (fun i=>(untilV (js.take i) tk tn u,(i:Int))) _ rfl ?_ ?_
 ·simp only [List.take_length]
  exact hend _
 ·intro i hi
  have hx:js[i]?=some js[i]:=List.getElem?_eq_getElem hi
  have tk':js.take (i+1)=js.take i++[js[i]]:=(List.take_append_getElem hi).symm
  rw [hstep i js[i] _ hi hx]
  congr 3
  have hpre:∀ y ∈ js.take i,y.1≠js[i].1:=by
   intro y hy
   have hs':nmO.Srt Prod.fst (js.take i++js.drop i):=by rw [List.take_append_drop]; exact hs
   unfold KOrd.Srt at hs'
   rw [List.pairwise_append] at hs'
   exact nmO.ne (hs'.2.2 y hy js[i] (by rw [List.drop_eq_getElem_cons hi]; exact List.mem_cons_self))
  rw [tk']
  generalize js[i]=x at *
  unfold untilV lkn
  rw [List.find?_append,List.find?_cons]
  cases he:eqN x.1 tk
  ·rw [Bool.false_and,if_neg (by decide)]
   simp
  ·have hnone:(js.take i).find? (fun y=>eqN y.1 tk)=none:=by
    rw [List.find?_eq_none]
    intro y hy hq
    exact hpre y hy (by rw [eqN_eq he]; exact eqN_eq hq)
   rw [hnone,Bool.true_and]
   rfl
end Go.Proofs.YthidhledenklhaaGreat.VL
end
section
namespace Go.Proofs.YthidhledenklhaaGreat.VL
open Go
set_option linter.unusedVariables false
set_option linter.unusedSectionVars false
set_option linter.unusedSimpArgs false
set_option maxRecDepth 100000
variable [Val]
theorem put_without {js:List JB} {tk:ByteArray} {z:JB} (h:z.1=tk):nmO.put Prod.fst (js.filter (fun x=>!eqN x.1 tk)) z=nmO.put Prod.fst js z:=by
 unfold KOrd.put
 rw [List.filter_filter,List.filter_filter]
 have e1:(fun a:JB=>nmO.lt a.1 z.1&&!eqN a.1 tk)=fun a=>nmO.lt a.1 z.1:=by
  funext a
  show (ltN a.1 z.1&&!eqN a.1 tk)=ltN a.1 z.1
  cases hl:ltN a.1 z.1
  ·rfl
  ·rw [← h,eqN_of_lt hl]; rfl
 have e2:(fun a:JB=>nmO.lt z.1 a.1&&!eqN a.1 tk)=fun a=>nmO.lt z.1 a.1:=by
  funext a
  show (ltN z.1 a.1&&!eqN a.1 tk)=ltN z.1 a.1
  cases hl:ltN z.1 a.1
  ·rfl
  ·have:eqN a.1 tk=false:=by
    rw [Bool.eq_false_iff]; intro k
    rw [← h] at k
    rw [eqN_eq k,lt_self] at hl; cases hl
   rw [this]; rfl
 rw [e1,e2]
theorem F20_ok {T1 T2 T3 h0 h e now wb:Int} {js:List JB} {ks:List KB} {m:MB} (h13:F13 (T1,T2,T3)=some h0) (hc:(h0=0∧e≠0)∨(e=0∧h0=h∧1≤h∧h≤1000000)) (hz:SzW (wb,js,ks))
  (hw:m.2.2.2.2.2.2.2.1.length≤1000) (ht:m.2.2.2.2.2.2.2.2.1.length≤1000) (hk:m.2.2.2.2.2.2.2.2.2.2.2.2.1.size≤maxLen) :
  F20 ((T1,T2,T3),(wb,js,ks),now,m)=some (takeR h e (wb,js,ks) now m):=by
 have h21:=F21_ok hz
 have h24:=F24_ok now
 have h49:=rmay_ok m hw ht hk
 have h11:=msg11 (m:=m)
 obtain ⟨kd,fr,to,sq,wh,ki,ks',nw,tb,ep,bt,ak,tk,tn,gd⟩:=m
 unfold takeR
 rw [F20_eq]
 rcases hc with ⟨rfl,he⟩ | ⟨rfl,rfl,hh⟩
 ·have z1:((0:Int)==0)=true:=rfl
  have z2:(e==0)=false:=by rw [beq_eq_false_iff_ne]; exact he
  simp -implicitDefEqProofs only [h13,z1,z2,eq_self,xs]
 have z1:(h0==0)=false:=by rw [beq_eq_false_iff_ne]; omega
 have z0:((0:Int)==0)=true:=rfl
 cases hB:workB (wb,js,ks)
 ·rw [hB] at h21
  simp -implicitDefEqProofs only [h13,z1,z0,h21,eq_self,xs]
 rw [hB] at h21
 cases hN:momB now
 ·rw [hN] at h24
  simp -implicitDefEqProofs only [h13,z1,z0,h21,h24,eq_self,xs]
 rw [hN] at h24
 cases hM:msgB (kd,fr,to,sq,wh,ki,ks',nw,tb,ep,bt,ak,tk,tn,gd)
 ·rw [hM] at h49
  simp -implicitDefEqProofs only [h13,z1,z0,h21,h24,h49,eq_self,xs]
 rw [hM] at h49
 by_cases hkd:kd=11
 case neg =>
  have z3:(kd != 11)=true:=by rw [bne_iff_ne]; exact hkd
  have z4:(kd==11)=false:=by rw [beq_eq_false_iff_ne]; exact hkd
  simp -implicitDefEqProofs only [h13,z1,z0,h21,h24,h49,z3,z4,eq_self,xs]
 subst hkd
 have z3:((11:Int) != 11)=false:=rfl
 have z4:((11:Int)==11)=true:=rfl
 have hW:=(work_iff _).1 hB
 have hj:js.length≤1000:=hz.j
 have hkl:ks.length≤100:=hW.k.len
 have hsj:nmO.Srt Prod.fst js:=hW.j.srt
 have hsk:nmO.Srt Prod.fst ks:=hW.k.srt
 have hak:0≤ak∧ak≤1099511627776:=by
  have:=h11 rfl
  rw [hM] at this
  have:=(Bool.and_eq_true _ _ ▸ this.symm:restB _=true∧tickB _=true).2
  unfold tickB at this
  simpa using this
 have hwk:IntKind.wrap .i64 (ak+h0)=ak+h0:=wi (by omega) (by omega)
 have h18:=F18_ok (wb:=wb) (js:=js) (ks:=ks) (by omega) tk
 unfold takeG
 have hold:oldB ks tk tn=((knownR ks tk).2.2&&(decide (tn < (knownR ks tk).1) || ((tn==(knownR ks tk).1)&&(knownR ks tk).2.1))):=by
  unfold oldB knownR
  cases lkn Prod.fst ks tk<;>rfl
 have his:(lkn Prod.fst ks tk).isNone=!(knownR ks tk).2.2:=by
  unfold knownR
  cases lkn Prod.fst ks tk<;>rfl
 simp only [hold,his]
 generalize knownR ks tk=kr at *
 obtain ⟨kt,ko,kis⟩:=kr
 simp -implicitDefEqProofs only [h13,z1,z0,h21,h24,h49,z3,z4,h18,hwk,eq_self,xs]
 have hc8:(bif bt != wb then some true else bif decide (ak > now) then some true else bif decide (ak+h0≤now) then some true else bif kis then bif decide (tn < kt) then some true else bif tn==kt then some ko else some false else some false)=some (bt != wb || (decide (ak > now) || (decide (ak+h0≤now) || kis&&(decide (tn < kt) || tn==kt&&ko)))):=by
  cases (bt != wb)<;>cases decide (ak > now)<;>cases decide (ak+h0≤now)<;>cases kis<;>cases decide (tn < kt)<;>cases (tn==kt)<;>rfl
 rw [hc8]
 generalize (bt != wb || (decide (ak > now) || (decide (ak+h0≤now) || kis&&(decide (tn < kt) || tn==kt&&ko))))=c8
 cases c8
 case true =>
  rw [if_pos rfl]
  simp -implicitDefEqProofs only [eq_self,xs]
 have hc9:(bif !kis then some (decide (((ks.length:Nat):Int) ≥ 100)) else some false)=some (!kis&&(((ks.length:Nat):Int)==100)):=by
  have e100:decide (((ks.length:Nat):Int) ≥ 100)=(((ks.length:Nat):Int)==100):=by
   rw [Bool.eq_iff_iff,decide_eq_true_iff,beq_iff_eq]
   constructor
   ·intro h; omega
   ·intro h; omega
  rw [e100]
  generalize (((ks.length:Nat):Int)==100)=b
  cases kis<;>cases b<;>rfl
 simp -implicitDefEqProofs only [eq_self,xs]
 rw [hc9]
 generalize (!kis&&(((ks.length:Nat):Int)==100))=c9
 cases c9
 case true =>
  rw [if_pos rfl]
  simp -implicitDefEqProofs only [eq_self,xs]
 rw [if_neg (by decide)]
 simp -implicitDefEqProofs only [eq_self,xs]
 rw [loop_until hsj tk tn (ak+h0) rfl]
 rotate_left
 ·intro v; simp -implicitDefEqProofs only [not_lt_self,eq_self,xs]
 ·intro i x v hi hx
  have q1:((i:Nat):Int) < ((js.length:Nat):Int):=by omega
  have q2:(0:Int)≤(i:Int):=by omega
  have hw:=w1 (show i≤9223372036854775806 by omega)
  unfold eqN
  cases he:(x.1.toList==tk.toList)
  ·simp -implicitDefEqProofs only [q1,q2,hx,he,hw,eq_self,xs]
  ·cases ht:(x.2.1==tn)
   ·simp -implicitDefEqProofs only [q1,q2,hx,he,ht,hw,eq_self,xs]
   ·rw [Bool.and_self,if_pos rfl]
    by_cases hv:x.2.2 > v
    ·have:max v x.2.2=x.2.2:=by omega
     simp -implicitDefEqProofs only [q1,q2,hx,he,ht,hw,hv,this,eq_self,xs]
    ·have:max v x.2.2=v:=by omega
     simp -implicitDefEqProofs only [q1,q2,hx,he,ht,hw,hv,this,eq_self,xs]
 have f50:=F50_ok hj tk
 have f51:=F51_ok hsk (by omega) (tk,tn,false,false)
 have hrl:(js.filter (fun x=>!eqN x.1 tk)).length≤1000:=Nat.le_trans (List.length_filter_le _ _) hj
 have hrs:nmO.Srt Prod.fst (js.filter (fun x=>!eqN x.1 tk)):=hsj.sublist List.filter_sublist
 have hrn:∀ x ∈ js.filter (fun x=>!eqN x.1 tk),(x.1.toList==tk.toList)=false:=by
  intro x hx
  have:=(List.mem_filter.1 hx).2
  unfold eqN at this
  simpa using this
 generalize untilV js tk tn (ak+h0)=u
 rw [← put_without (js:=js) (tk:=tk) (z:=(tk,tn,u)) rfl]
 simp -implicitDefEqProofs only [f50,f51,eq_self,xs]
 generalize js.filter (fun x=>!eqN x.1 tk)=l at *
 have key:∀ (x:Option (Bool×List JB)) (K:Bool×List JB→Option (WB×Int)),(∃ d a,x=some (d,a)∧a.length≤2 * l.length+1∧(if d=true then a else a++[(tk,tn,u)])=nmO.put Prod.fst l (tk,tn,u)) →
   (∀ d a,a.length≤2001→K (d,a)=some ((wb,(if d=true then a else a++[(tk,tn,u)],nmO.put Prod.fst ks (tk,tn,false,false))),0))→Option.bind x K=some ((wb,nmO.put Prod.fst l (tk,tn,u),nmO.put Prod.fst ks (tk,tn,false,false)),0):=by
  rintro x K ⟨d,a,rfl,h1,h2⟩ hK
  show K (d,a)=_
  rw [hK d a (by omega),h2]
 refine key _ _ (loop_put hrs (tk,tn,u) rfl ?_ ?_) ?_
 ·intro d a
  simp -implicitDefEqProofs only [not_lt_self,eq_self,xs]
 ·intro i x d a hi hx ha
  have q1:((i:Nat):Int) < ((l.length:Nat):Int):=by omega
  have q2:(0:Int)≤(i:Int):=by omega
  have q3:(((a.length+1:Nat):Int) * 32≤70368744177664):=by omega
  have q4:(((a.length+1:Nat):Int)≤70368744177664):=by omega
  have q5:(((a.length+1+1:Nat):Int) * 32≤70368744177664):=by omega
  have q6:(((a.length+1+1:Nat):Int)≤70368744177664):=by omega
  have hne:=hrn x (List.mem_of_getElem? hx)
  unfold ltN eqN
  have hw:=w1 (show i≤9223372036854775806 by omega)
  cases d<;>cases h1:Op.bytesLess x.1.toList tk.toList<;>(try simp -implicitDefEqProofs only [q1,q2,q3,q4,q5,q6,hx,h1,hne,hw,eq_self,xs])<;>(try rfl)
 ·intro d a ha
  have q3:(((a.length+1:Nat):Int) * 32≤70368744177664):=by omega
  have q4:(((a.length+1:Nat):Int)≤70368744177664):=by omega
  cases d
  ·simp -implicitDefEqProofs only [q3,q4,eq_self,xs]
  ·simp -implicitDefEqProofs only [q3,q4,eq_self,xs]
end Go.Proofs.YthidhledenklhaaGreat.VL
end
section
namespace Go.Proofs.YthidhledenklhaaGreat.VL
open Go
set_option linter.unusedVariables false
set_option linter.unusedSectionVars false
set_option linter.unusedSimpArgs false
set_option maxRecDepth 100000
variable [Val]
theorem end_cases {w:WB} {now:Int} (hW:WorkOk w) (hm:momB now=true) (tk:ByteArray) (gd:Bool) :
  (∃ n e:Int,e≠0∧endR w now tk gd=(w,n,e))∨∃ j,lkn Prod.fst w.2.1 tk=some j∧endR w now tk gd=((w.1,delP w.2.1 (nmO.plc Prod.fst w.2.1 tk),nmO.put Prod.fst w.2.2 (tk,j.2.1,true,gd)),j.2.1,0):=by
 have h0:(workB w&&momB now)=true:=by rw [(work_iff w).2 hW,hm]; rfl
 unfold endR
 rw [if_pos h0]
 cases hl:lkn Prod.fst w.2.1 tk with
 | none=>exact .inl ⟨0,6,by decide,rfl⟩
 | some j =>
  simp only
  by_cases hn:j.2.2≤now
  ·rw [if_pos hn]; exact .inl ⟨0,6,by decide,rfl⟩
  ·rw [if_neg hn]; exact .inr ⟨j,rfl,rfl⟩
end Go.Proofs.YthidhledenklhaaGreat.VL
end
