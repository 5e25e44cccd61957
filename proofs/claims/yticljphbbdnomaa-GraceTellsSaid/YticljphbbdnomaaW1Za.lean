import Derived.Test.YticljphbbdnomaaW1Xr
import Derived.Test.YticljphbbdnomaaW1Yw
import Derived.KernelRfl
import Derived.Laws.RangeString
import Derived.Laws.RangeAny
section
namespace Go.Proofs.Yticljphbbdnomaa.VL
open Go
set_option linter.unusedVariables false
set_option linter.unusedSectionVars false
variable [Val]
theorem wi {x:Int} (h0:-9223372036854775808≤x) (h1:x≤9223372036854775807):IntKind.wrap .i64 x=x:=by rw [IntKind.wrap_i64]; omega
theorem wu {x:Int} (h0:0≤x) (h1:x≤18446744073709551615):IntKind.wrap .u64 x=x:=by
 simp only [IntKind.wrap,IntKind.bits,IntKind.signed]
 have:x % (2 ^ 64:Int)=x:=Int.emod_eq_of_lt h0 (by omega)
 simp only [this,Bool.false_and]
 rfl
theorem loopX_spec {σ ρ:Type} {f:σ→Option (σ ⊕ ρ)} (I:σ→Prop) (m:σ→Nat) (g:σ→ρ)
  (h:∀ s,I s→f s=some (.inr (g s))∨∃ s',f s=some (.inl s')∧I s'∧m s' < m s∧g s'=g s):∀ (s:σ),I s→loopX f s=some (g s):=by
 have key:∀ (n:Nat) (s:σ),m s≤n→I s→loopX f s=some (g s):=by
  intro n
  induction n with
  | zero =>
   intro s hn hs
   rw [loopX_eq]
   rcases h s hs with h1 | ⟨s',h1,h2,h3,h4⟩
   ·rw [h1]
   ·omega
  | succ n ih =>
   intro s hn hs
   rw [loopX_eq]
   rcases h s hs with h1 | ⟨s',h1,h2,h3,h4⟩
   ·rw [h1]
   ·rw [h1]
    simp only
    rw [ih s' (by omega) h2,h4]
 exact fun s hs=>key (m s) s (Nat.le_refl _) hs
theorem loop_all {ρ:Type} {f:Int→Option (Int ⊕ ρ)} {n:Nat} (ok:Nat→Bool) (bad good:ρ) (hend:f (n:Int)=some (.inr good))
  (hstep:∀ i:Nat,i < n→(∀ j,j < i→ok j=true)→f (i:Int)=if ok i=true then some (.inl ((i+1:Nat):Int)) else some (.inr bad)) :
  loopX f (0:Int)=some (if (List.range n).all ok=true then good else bad):=by
 classical
 have key:∀ i:Nat,i≤n→(∀ j,j < i→ok j=true)→loopX f (i:Int)=some (if ∀ j,i≤j→j < n→ok j=true then good else bad):=by
  intro i hi
  generalize hd:n - i=d
  induction d generalizing i with
  | zero =>
   intro ha
   have:i=n:=by omega
   subst this
   rw [loopX_eq,hend,if_pos (fun j h1 h2=>by omega)]
  | succ d ih =>
   intro ha
   rw [loopX_eq,hstep i (by omega) ha]
   by_cases h:ok i=true
   ·rw [if_pos h]
    simp only
    rw [ih (i+1) (by omega) (by omega) (fun j hj=>by
     rcases Nat.lt_or_eq_of_le (Nat.le_of_lt_succ hj) with h1 | h1
     ·exact ha j h1
     ·rw [h1]; exact h)]
    have e:(∀ j,i+1≤j→j < n→ok j=true) ↔ (∀ j,i≤j→j < n→ok j=true):=by
     constructor
     ·intro q j h1 h2
      rcases Nat.lt_or_eq_of_le h1 with h3 | h3
      ·exact q j h3 h2
      ·rw [← h3]; exact h
     ·intro q j h1 h2; exact q j (by omega) h2
    by_cases hq:∀ j,i≤j→j < n→ok j=true
    ·rw [if_pos hq,if_pos (e.2 hq)]
    ·rw [if_neg hq,if_neg (fun q=>hq (e.1 q))]
   ·rw [if_neg h]
    simp only
    rw [if_neg (fun q=>h (q i (Nat.le_refl _) (by omega)))]
 have:=key 0 (Nat.zero_le _) (fun j hj=>by omega)
 have e0:((0:Nat):Int)=0:=rfl
 rw [e0] at this
 rw [this]
 congr 1
 have e:(∀ j,0≤j→j < n→ok j=true) ↔ (List.range n).all ok=true:=by simp [List.all_eq_true]
 by_cases h:(List.range n).all ok=true
 ·rw [if_pos h,if_pos (e.2 h)]
 ·rw [if_neg h,if_neg (fun q=>h (e.1 q))]
def cntP (p:Nat→Bool):Nat→Nat
 | 0=>0
 | n+1=>cntP p n+(if p n=true then 1 else 0)
theorem cntP_le (p:Nat→Bool):∀ n,cntP p n≤n
 | 0=>Nat.le_refl _
 | n+1=>by have:=cntP_le p n; simp only [cntP]; split<;>omega
theorem cntP_at {p:Nat→Bool}:∀ {n c:Nat},c≤n→(∀ k,k < c→p k=true)→(∀ k,c≤k→k < n→p k=false)→cntP p n=c
 | 0,c,h,_,_=>by simp only [cntP]; omega
 | n+1,c,h,h1,h2=>by
  simp only [cntP]
  by_cases hc:c=n+1
  ·have:=cntP_at (n:=n) (c:=n) (Nat.le_refl _) (fun k hk=>h1 k (by omega)) (fun k q1 q2=>by omega)
   rw [this,if_pos (h1 n (by omega))]; omega
  ·have:=cntP_at (n:=n) (c:=c) (by omega) h1 (fun k q1 q2=>h2 k q1 (by omega))
   rw [this,h2 n (by omega) (by omega)]; simp
theorem loop_bs {f:Int×Int→Option ((Int×Int) ⊕ Int)} {n:Nat} (p:Nat→Bool) (hmono:∀ i j,i≤j→j < n→p j=true→p i=true)
  (hend:∀ i:Nat,i≤n→f ((i:Int),(i:Int))=some (.inr (i:Int)))
  (hstep:∀ i j:Nat,i < j→j≤n→f ((i:Int),(j:Int))=if p ((i+j) / 2)=true then some (.inl ((((i+j) / 2+1:Nat):Int),(j:Int))) else some (.inl ((i:Int),(((i+j) / 2:Nat):Int)))) :
  loopX f ((0:Int),(n:Int))=some ((cntP p n:Nat):Int):=by
 have:=loopX_spec (f:=f) (fun s=>∃ i j:Nat,s=((i:Int),(j:Int))∧i≤j∧j≤n∧(∀ k,k < i→p k=true)∧(∀ k,j≤k→k < n→p k=false)) (fun s=>s.2.toNat - s.1.toNat) (fun _=>((cntP p n:Nat):Int)) ?_ ((0:Int),(n:Int)) ⟨0,n,rfl,Nat.zero_le _,Nat.le_refl _,fun k hk=>by omega,fun k h1 h2=>by omega⟩
 ·exact this
 ·rintro s ⟨i,j,rfl,h1,h2,h3,h4⟩
  by_cases hij:i=j
  ·subst hij
   left
   rw [hend i h2,cntP_at h2 h3 h4]
  ·right
   rw [hstep i j (by omega) h2]
   by_cases hp:p ((i+j) / 2)=true
   ·rw [if_pos hp]
    refine ⟨_,rfl,⟨_,_,rfl,by omega,h2,fun k hk=>hmono k ((i+j) / 2) (by omega) (by omega) hp,h4⟩,by simp only [Int.toNat_natCast]; omega,rfl⟩
   ·rw [if_neg hp]
    refine ⟨_,rfl,⟨_,_,rfl,by omega,by omega,h3,fun k hk hkn=>?_⟩,by simp only [Int.toNat_natCast]; omega,rfl⟩
    rw [Bool.eq_false_iff]
    intro hpk
    exact hp (hmono ((i+j) / 2) k hk hkn hpk)
theorem xs:(∀ {α:Type} (a b:α),cond true a b=a)∧(∀ {α:Type} (a b:α),cond false a b=b)∧(∀ {α β:Type} (a:α) (f:α→Option β),(some a).bind f=f a)∧(∀ {α β:Type} (a:α) (f:α→β),(some a).map f=some (f a)) ∧
 (∀ {α R:Type} (v:α) (k:α→Option R),joinX (some (.inl v)) k=k v)∧(∀ {α R:Type} (r:R) (k:α→Option R),joinX (some (.inr r)) k=some r)∧(∀ (h:Decidable True),@decide True h=true)∧(∀ (h:Decidable False),@decide False h=false)∧((!true)=false)∧((!false)=true)∧(∀ b:Bool,(b&&true)=b)∧(∀ b:Bool,(true&&b)=b)∧(∀ b:Bool,(b&&b)=b)∧(∀ b:Bool,(false&&b)=false)∧(∀ b:Bool,(b&&false)=false)∧(∀ b:Bool,(true || b)=true)∧(∀ b:Bool,(b || true)=true)∧(∀ b:Bool,(false || b)=b)∧(∀ b:Bool,(b || false)=b)∧(∀ {α:Type} (a b:List α),Append.append a b=a++b)∧(∀ {α:Type} (a b:List α),(a++b).length=a.length+b.length)∧(∀ {α:Type} (a:α) (b:List α),(a::b).length=b.length+1)∧(∀ {α:Type},([]:List α).length=0)∧(∀ n:Nat,0+n=n)∧(∀ n:Nat,n+0=n)∧(∀ n:Nat,((n:Int)).toNat=n)∧(∀ n:Nat,(n≤n)=True)∧(∀ n:Int,(n≤n)=True)∧(∀ {α:Type} (a:List α),a.take a.length=a)∧(∀ {α:Type} (a b:α),(some a).getD b=a)∧(∀ {α:Type} (b:α),(none:Option α).getD b=b)∧(∀ {α:Type} (a b:α),(if True then a else b)=a)∧(∀ {α:Type} (a b:α),(if False then a else b)=b)∧((false=true)=False)∧((true=false)=False):=by
 refine ⟨fun _ _=>rfl,fun _ _=>rfl,fun _ _=>rfl,fun _ _=>rfl,fun _ _=>rfl,fun _ _=>rfl,fun _=>by simp,fun _=>by simp,rfl,rfl,?_,?_,?_,?_,?_,?_,?_,?_,?_,fun _ _=>rfl,fun _ _=>List.length_append,fun _ _=>rfl,rfl,Nat.zero_add,fun _=>rfl,fun _=>rfl,fun _=>eq_true (Nat.le_refl _),fun _=>eq_true (Int.le_refl _),fun _=>List.take_length,fun _ _=>rfl,fun _=>rfl,fun _ _=>by simp,fun _ _=>by simp,by simp,by simp⟩<;>(intro b; cases b<;>rfl)
end Go.Proofs.Yticljphbbdnomaa.VL
end
section
namespace Go.Proofs.Yticljphbbdnomaa.VL
open Go
set_option linter.unusedVariables false
set_option linter.unusedSectionVars false
set_option linter.unusedSimpArgs false
set_option maxRecDepth 100000
def bl (n:Nat):Nat:=if n=0 then 0 else Nat.log2 n+1
def rulesB (a b c:Int):Bool:=(decide (1≤a)&&decide (a≤1000))&&((decide (1≤b)&&decide (b≤20))&&(decide (0≤c)&&decide (c≤10)))
theorem bl_tab:∀ n,n≤64→1≤n→1≤bl n∧bl n≤7∧(n≤32→bl (2 * n)=bl n+1)∧(n≤63→bl n≤bl (n+1)):=by decide
def graceV (a b c:Int) (n:Nat) (k:Int):Int:=if c=0 then a * bl n else a * bl n * b - ((a * bl n * b - a * bl n) * min k c).tdiv c
theorem wrapI {x:Int} (h0:-4611686018427387905≤x) (h1:x≤4611686018427387905):IntKind.i64.wrap x=x:=by
 simp only [IntKind.wrap,IntKind.bits,IntKind.signed]
 by_cases hx:0≤x
 ·have:x % (2 ^ 64:Int)=x:=Int.emod_eq_of_lt hx (by omega)
  simp only [this,Bool.true_and]
  rw [if_neg]
  simp only [decide_eq_true_eq]; omega
 ·have:x % (2 ^ 64:Int)=x+2 ^ 64:=by
   rw [← Int.add_emod_right]
   exact Int.emod_eq_of_lt (by omega) (by omega)
  simp only [this,Bool.true_and]
  rw [if_pos]
  ·omega
  ·simp only [decide_eq_true_eq]; omega
theorem wrapU {x:Int} (h0:0≤x) (h1:x≤18446744073709551615):IntKind.u64.wrap x=x:=by
 simp only [IntKind.wrap,IntKind.bits,IntKind.signed]
 have:x % (2 ^ 64:Int)=x:=Int.emod_eq_of_lt h0 (by omega)
 simp only [this,Bool.false_and]
 rfl
theorem rules_bounds {a b c:Int} (h:rulesB a b c=true):1≤a∧a≤1000∧1≤b∧b≤20∧0≤c∧c≤10:=by
 simp only [rulesB,Bool.and_eq_true,decide_eq_true_eq] at h; omega
theorem grace_in {a b c k:Int} {n:Nat} (h:rulesB a b c=true) (hn:1≤n) (hn2:n≤64) (hk:0≤k) :
  1≤a * bl n∧a * bl n≤7000∧a * bl n≤a * bl n * b∧a * bl n * b≤140000∧0≤min k c∧min k c≤c∧0≤(a * bl n * b - a * bl n) * min k c∧(a * bl n * b - a * bl n) * min k c≤1400000:=by
 obtain ⟨h1,h2,h3,h4,h5,h6⟩:=rules_bounds h
 obtain ⟨g1,g2,_⟩:=bl_tab n hn2 hn
 have g1':(1:Int)≤bl n:=by omega
 have g2':(bl n:Int)≤7:=by omega
 generalize (bl n:Int)=m at *
 have e1:1≤a * m:=by have:=Int.mul_le_mul h1 g1' (by omega) (by omega); omega
 have e2:a * m≤7000:=by have:=Int.mul_le_mul h2 g2' (by omega) (by omega); omega
 generalize a * m=l at *
 have e3:l * 1≤l * b:=Int.mul_le_mul_of_nonneg_left h3 (by omega)
 have e4:l * b≤7000 * 20:=Int.mul_le_mul e2 h4 (by omega) (by omega)
 generalize l * b=q at *
 have e5:0≤min k c:=by omega
 have e6:min k c≤c:=by omega
 generalize min k c=t at *
 have e7:0≤(q - l) * t:=Int.mul_nonneg (by omega) e5
 have e8:(q - l) * t≤140000 * 10:=Int.mul_le_mul (by omega) (by omega) e5 (by omega)
 refine ⟨e1,e2,by omega,by omega,e5,e6,e7,by omega⟩
theorem quo_bounds {x c:Int} (h0:0≤x) (h1:x≤1400000) (hc:1≤c):0≤x.tdiv c∧x.tdiv c≤1400000:=by
 refine ⟨Int.tdiv_nonneg h0 (by omega),?_⟩
 exact Int.le_trans (Int.tdiv_le_self c h0) h1
theorem grace_range {a b c k:Int} {m:Nat} (h:rulesB a b c=true) (hn:1≤m) (hn2:m≤64) (hk:0≤k):-1400000≤graceV a b c m k∧graceV a b c m k≤140000:=by
 obtain ⟨g1,g2,g3,g4,g5,g6,g7,g8⟩:=grace_in (k:=k) h hn hn2 hk
 obtain ⟨r1,r2,r3,r4,r5,r6⟩:=rules_bounds h
 unfold graceV
 split
 ·omega
 ·have q:=quo_bounds (c:=c) g7 g8 (by omega)
  omega
variable [Val]
theorem len_run:((List.range 65).map fun n:Nat=>F44 (n:Int))=(List.range 65).map fun n:Nat=>some ((bl n:Nat):Int):=by kernel_rfl
theorem F44_ok (n:Nat) (h:n≤64):F44 (n:Int)=some ((bl n:Nat):Int):=by
 have:=congrArg (fun l=>l[n]?) len_run
 have hn:n < 65:=by omega
 simpa only [List.getElem?_map,List.getElem?_range hn,Option.map_some,Option.some.injEq] using this
theorem F28_ok (n:Nat) (h:n≤64):F28 (n:Int)=some ((bl n:Nat):Int):=by rw [F28_eq,F44_ok n h]; rfl
theorem F27_ok (n a b:Int):F27 (n,a,b)=some (decide (a≤n)&&decide (n≤b)):=by
 rw [F27_eq]
 show cond (decide (a≤n)) (some (decide (n≤b))) (some false)=_
 cases decide (a≤n)<;>rfl
theorem F10_ok (a b c:Int):F10 (a,b,c)=some (rulesB a b c):=by
 rw [F10_eq]
 unfold rulesB
 cases decide (1≤a)<;>cases decide (a≤1000)<;>cases decide (1≤b)<;>cases decide (b≤20)<;>cases decide (0≤c)<;>rfl
theorem F17_ok (a b c:Int):F17 (a,b,c)=some (if rulesB a b c=true then 0 else 1):=by
 rw [F17_eq]
 simp only [F27_ok a 1 1000,F27_ok b 1 20,F27_ok c 0 10,Option.bind_some]
 unfold rulesB
 cases (decide (1≤a)&&decide (a≤1000))<;>cases (decide (1≤b)&&decide (b≤20))<;>cases (decide (0≤c)&&decide (c≤10))<;>rfl
theorem nz0a:((0:Int) != 0)=false:=rfl
theorem F9_ok (a b c n k:Int):F9 ((a,b,c),n,k)=some (if (rulesB a b c&&((decide (1≤n)&&decide (n≤64))&&decide (0≤k)))=true then (graceV a b c n.toNat k,0) else (0,1)):=by
 rw [F9_eq]
 simp only [F17_ok a b c,F27_ok n 1 64,Option.bind_some]
 cases h1:rulesB a b c
 ·rfl
 ·cases h2:(decide (1≤n)&&decide (n≤64))
  ·rfl
  ·by_cases hk:k < 0
   ·have hk':¬ (0≤k):=by omega
    simp -implicitDefEqProofs only [nz0a,hk,hk',eq_self,xs]
   ·have hk':0≤k:=by omega
    have h2':1≤n∧n≤64:=by simpa using h2
    obtain ⟨m,rfl⟩:∃ m:Nat,n=m:=⟨n.toNat,by omega⟩
    have hu:IntKind.u64.wrap ((m:Nat):Int)=m:=wrapU (by omega) (by omega)
    obtain ⟨r1,r2,r3,r4,r5,r6⟩:=rules_bounds h1
    obtain ⟨g1,g2,g3,g4,g5,g6,g7,g8⟩:=grace_in (k:=k) h1 (n:=m) (by omega) (by omega) (by omega)
    have w1:IntKind.i64.wrap (a * (bl m:Nat))=a * (bl m:Nat):=wrapI (by omega) (by omega)
    have hl:=F28_ok m (by omega)
    by_cases hc:c=0
    ·subst hc
     simp -implicitDefEqProofs only [nz0a,hk,hk',hu,hl,w1,beq_self_eq_true,eq_self,xs]
     unfold graceV
     rw [if_pos rfl]
    ·have hc':(c==0)=false:=by rw [beq_eq_false_iff_ne]; exact hc
     have w2:IntKind.i64.wrap (a * (bl m:Nat) * b)=a * (bl m:Nat) * b:=wrapI (by omega) (by omega)
     have w3:IntKind.i64.wrap (a * (bl m:Nat) * b - a * (bl m:Nat))=a * (bl m:Nat) * b - a * (bl m:Nat):=wrapI (by omega) (by omega)
     have w4:IntKind.i64.wrap ((a * (bl m:Nat) * b - a * (bl m:Nat)) * min k c)=(a * (bl m:Nat) * b - a * (bl m:Nat)) * min k c:=wrapI (by omega) (by omega)
     have q:=quo_bounds (c:=c) g7 g8 (by omega)
     have w5:IntKind.i64.wrap (((a * (bl m:Nat) * b - a * (bl m:Nat)) * min k c).tdiv c)=((a * (bl m:Nat) * b - a * (bl m:Nat)) * min k c).tdiv c:=wrapI (by omega) (by omega)
     have w6:IntKind.i64.wrap (a * (bl m:Nat) * b - ((a * (bl m:Nat) * b - a * (bl m:Nat)) * min k c).tdiv c)=a * (bl m:Nat) * b - ((a * (bl m:Nat) * b - a * (bl m:Nat)) * min k c).tdiv c:=wrapI (by omega) (by omega)
     simp -implicitDefEqProofs only [nz0a,hk,hk',hu,hl,w1,hc',hc,w2,w3,w4,w5,w6,eq_self,xs]
     unfold graceV
     rw [if_neg hc]
end Go.Proofs.Yticljphbbdnomaa.VL
end
section
namespace Go.Proofs.Yticljphbbdnomaa.VL
open Go
set_option linter.unusedVariables false
set_option linter.unusedSectionVars false
set_option linter.unusedSimpArgs false
theorem bl_tri:∀ x y:List UInt8,Op.bytesLess x y=true∨x=y∨Op.bytesLess y x=true
 | [],[]=>.inr (.inl rfl)
 | [],_::_=>.inl rfl
 | _::_,[]=>.inr (.inr rfl)
 | a::x,b::y=>by
  simp only [Op.bytesLess,Bool.or_eq_true,decide_eq_true_eq,Bool.and_eq_true,beq_iff_eq,List.cons.injEq]
  rcases Nat.lt_trichotomy a.toNat b.toNat with h | h | h
  ·left; left; rw [UInt8.lt_iff_toNat_lt]; exact h
  ·have h:=UInt8.toNat_inj.1 h
   subst h
   rcases bl_tri x y with h | h | h
   ·exact .inl (.inr ⟨rfl,h⟩)
   ·exact .inr (.inl ⟨rfl,h⟩)
   ·exact .inr (.inr (.inr ⟨rfl,h⟩))
  ·right; right; left; rw [UInt8.lt_iff_toNat_lt]; exact h
theorem toList_loop (s:ByteArray):∀ (n i:Nat) (r:List UInt8),s.size - i=n→i≤s.size→ByteArray.toList.loop s i r=r.reverse++(s.data.toList.drop i):=by
 intro n
 induction n with
 | zero =>
  intro i r h hi
  have:i=s.size:=by omega
  unfold ByteArray.toList.loop
  rw [if_neg (by omega),List.drop_eq_nil_of_le (by rw [Array.length_toList]; show s.size≤i; omega),List.append_nil]
 | succ n ih =>
  intro i r h hi
  unfold ByteArray.toList.loop
  rw [if_pos (by omega),ih (i+1) _ (by omega) (by omega)]
  have hlt:i < s.data.toList.length:=by rw [Array.length_toList]; show i < s.size; omega
  have e:s.get! i=s.data.toList[i]:=by
   show s.data[i]! = _
   rw [getElem!_pos s.data i (by rw [Array.length_toList] at hlt; exact hlt)]
   simp
  rw [List.reverse_cons,List.append_assoc,List.singleton_append,e,List.drop_eq_getElem_cons hlt]
theorem toList_data (s:ByteArray):s.toList=s.data.toList:=by
 have:=toList_loop s (s.size - 0) 0 [] rfl (Nat.zero_le _)
 unfold ByteArray.toList
 rw [this]; simp
theorem toList_inj {a b:ByteArray} (h:a.toList=b.toList):a=b:=by
 rw [toList_data,toList_data] at h
 cases a; cases b
 simp only [ByteArray.mk.injEq]
 exact Array.toList_inj.1 h
variable [Val]
def okB (n:Nat):Bool:=(decide (97≤n)&&decide (n≤122)) || ((decide (48≤n)&&decide (n≤57)) || decide (n=45))
end Go.Proofs.Yticljphbbdnomaa.VL
end
section
namespace Go.Proofs.Yticljphbbdnomaa.VL
open Go
set_option linter.unusedVariables false
set_option linter.unusedSectionVars false
set_option linter.unusedSimpArgs false
structure KOrd (κ:Type) where
 lt:κ→κ→Bool
 irr:∀ a,lt a a=false
 trn:∀ a b c,lt a b=true→lt b c=true→lt a c=true
 tri:∀ a b,lt a b=true∨a=b∨lt b a=true
namespace KOrd
variable {κ α:Type} (O:KOrd κ) (key:α→κ)
theorem asym {a b:κ} (h:O.lt a b=true):O.lt b a=false:=by
 rw [Bool.eq_false_iff]; intro k
 have:=O.trn _ _ _ h k
 rw [O.irr] at this; cases this
theorem ne {a b:κ} (h:O.lt a b=true):a≠b:=by rintro rfl; rw [O.irr] at h; cases h
def Srt (l:List α):Prop:=l.Pairwise (fun a b=>O.lt (key a) (key b)=true)
def plc (l:List α) (k:κ):Nat:=l.countP (fun x=>O.lt (key x) k)
open Classical in
noncomputable def look (l:List α) (k:κ):Option α:=l.find? (fun x=>decide (key x=k))
def put (l:List α) (x:α):List α:=l.filter (fun y=>O.lt (key y) (key x))++x::l.filter (fun y=>O.lt (key x) (key y))
variable {O key}
theorem Srt.tail {a:α} {l:List α} (h:O.Srt key (a::l)):O.Srt key l:=(List.pairwise_cons.1 h).2
theorem Srt.head {a:α} {l:List α} (h:O.Srt key (a::l)):∀ b ∈ l,O.lt (key a) (key b)=true:=(List.pairwise_cons.1 h).1
theorem plc_le (l:List α) (k:κ):O.plc key l k≤l.length:=List.countP_le_length
theorem split {l:List α} (hs:O.Srt key l) (k:κ):l.take (O.plc key l k)=l.filter (fun y=>O.lt (key y) k)∧l.drop (O.plc key l k)=l.filter (fun y=>!O.lt (key y) k):=by
 induction l with
 | nil=>exact ⟨rfl,rfl⟩
 | cons a l ih =>
  obtain ⟨i1,i2⟩:=ih hs.tail
  cases h:O.lt (key a) k with
  | true =>
   have e:O.plc key (a::l) k=O.plc key l k+1:=by unfold plc; simp [List.countP_cons,h]
   rw [e,List.take_succ_cons,List.drop_succ_cons,i1,i2]
   constructor<;>simp [h]
  | false =>
   have hall:∀ b ∈ l,O.lt (key b) k=false:=by
    intro b hb
    rw [Bool.eq_false_iff]; intro hk
    have:=O.trn _ _ _ (hs.head b hb) hk
    rw [h] at this; cases this
   have e:O.plc key (a::l) k=0:=by
    unfold plc
    simp only [List.countP_cons,h,Bool.false_eq_true,if_false,Nat.add_zero,List.countP_eq_zero]
    intro b hb; rw [hall b hb]; decide
   have f1:(a::l).filter (fun y=>O.lt (key y) k)=l.filter (fun y=>O.lt (key y) k):=by simp [h]
   have f2:(a::l).filter (fun y=>!O.lt (key y) k)=a::l.filter (fun y=>!O.lt (key y) k):=by simp [h]
   rw [e,List.take_zero,List.drop_zero,f1,f2]
   refine ⟨?_,?_⟩
   ·symm; rw [List.filter_eq_nil_iff]; intro b hb; rw [hall b hb]; decide
   ·rw [List.filter_eq_self.2]; intro b hb; rw [hall b hb]; rfl
theorem look_some {l:List α} {k:κ} {x:α} (h:look key l k=some x):x ∈ l∧key x=k:=by
 unfold look at h
 exact ⟨List.mem_of_find?_eq_some h,by have:=List.find?_some h; simpa using this⟩
theorem look_none {l:List α} {k:κ} (h:look key l k=none):∀ x ∈ l,key x≠k:=by
 unfold look at h
 rw [List.find?_eq_none] at h
 intro x hx; have:=h x hx; simpa using this
theorem look_none' {l:List α} {k:κ} (h:∀ x ∈ l,key x≠k):look key l k=none:=by
 unfold look
 rw [List.find?_eq_none]
 intro x hx; have:=h x hx; simpa using this
theorem look_mem {l:List α} (hs:O.Srt key l) {x:α} (hx:x ∈ l):look key l (key x)=some x:=by
 induction l with
 | nil=>cases hx
 | cons a l ih =>
  unfold look
  by_cases he:key a=key x
  ·rw [List.find?_cons_of_pos (by simpa using he)]
   rcases List.mem_cons.1 hx with rfl | hx
   ·rfl
   ·exact absurd he (O.ne (hs.head x hx))
  ·rw [List.find?_cons_of_neg (by simpa using he)]
   rcases List.mem_cons.1 hx with rfl | hx
   ·exact absurd rfl he
   ·exact ih hs.tail hx
theorem look_at {l:List α} (hs:O.Srt key l) (k:κ):look key l k=(match l[O.plc key l k]? with | some x=>(if O.lt k (key x)=true then none else some x) | none=>none):=by
 have h2:=(split hs k).2
 have h3:l[O.plc key l k]?=(l.drop (O.plc key l k))[0]?:=by rw [List.getElem?_drop]; rfl
 rw [h3,h2]
 cases hd:l.filter (fun y=>!O.lt (key y) k) with
 | nil =>
  simp only [List.getElem?_nil]
  refine look_none' fun x hx he=>?_
  rw [List.filter_eq_nil_iff] at hd
  have:=hd x hx
  rw [he,O.irr] at this; exact this rfl
 | cons y r =>
  simp only [List.getElem?_cons_zero]
  have hy:y ∈ l∧O.lt (key y) k=false:=by
   have:y ∈ l.filter (fun y=>!O.lt (key y) k):=by rw [hd]; exact List.mem_cons_self
   rw [List.mem_filter] at this
   exact ⟨this.1,by simpa using this.2⟩
  have hsr:O.Srt key (y::r):=by rw [← hd]; exact List.Pairwise.filter _ hs
  cases hk:O.lt k (key y) with
  | true =>
   rw [if_pos rfl]
   refine look_none' fun x hx he=>?_
   have:x ∈ l.filter (fun y=>!O.lt (key y) k):=by rw [List.mem_filter]; exact ⟨hx,by rw [he,O.irr]; rfl⟩
   rw [hd] at this
   rcases List.mem_cons.1 this with rfl | hx'
   ·rw [he,O.irr] at hk; cases hk
   ·have:=O.trn _ _ _ hk (hsr.head x hx')
    rw [he,O.irr] at this; cases this
  | false =>
   rw [if_neg (by decide)]
   have he:key y=k:=by
    rcases O.tri (key y) k with q | q | q
    ·rw [hy.2] at q; cases q
    ·exact q
    ·rw [hk] at q; cases q
   rw [← he]
   exact look_mem hs hy.1
theorem mem_put {l:List α} {x y:α}:y ∈ O.put key l x ↔ y=x∨(y ∈ l∧key y≠key x):=by
 unfold put
 rw [List.mem_append,List.mem_cons,List.mem_filter,List.mem_filter]
 constructor
 ·rintro (⟨h1,h2⟩ | rfl | ⟨h1,h2⟩)
  ·exact .inr ⟨h1,O.ne h2⟩
  ·exact .inl rfl
  ·exact .inr ⟨h1,fun e=>O.ne h2 e.symm⟩
 ·rintro (rfl | ⟨h1,h2⟩)
  ·exact .inr (.inl rfl)
  ·rcases O.tri (key y) (key x) with q | q | q
   ·exact .inl ⟨h1,q⟩
   ·exact absurd q h2
   ·exact .inr (.inr ⟨h1,q⟩)
theorem srt_put {l:List α} (hs:O.Srt key l) (x:α):O.Srt key (O.put key l x):=by
 unfold put Srt
 rw [List.pairwise_append]
 refine ⟨List.Pairwise.filter _ hs,?_,?_⟩
 ·rw [List.pairwise_cons]
  exact ⟨fun b hb=>(List.mem_filter.1 hb).2,List.Pairwise.filter _ hs⟩
 ·intro a ha b hb
  have ha:=(List.mem_filter.1 ha).2
  rcases List.mem_cons.1 hb with rfl | hb
  ·exact ha
  ·exact O.trn _ _ _ ha (List.mem_filter.1 hb).2
theorem look_put {l:List α} (hs:O.Srt key l) (x:α) (k:κ):look key (O.put key l x) k=(open Classical in if key x=k then some x else look key l k):=by
 split
 ·rename_i h
  rw [← h]
  exact look_mem (srt_put hs x) (mem_put.2 (.inl rfl))
 ·rename_i h
  cases hl:look key l k with
  | none =>
   refine look_none' fun y hy he=>?_
   ·rcases mem_put.1 hy with rfl | ⟨h1,h2⟩
    ·exact h he
    ·exact look_none hl y h1 he
  | some y =>
   obtain ⟨h1,h2⟩:=look_some hl
   rw [← h2]
   exact look_mem (srt_put hs x) (mem_put.2 (.inr ⟨h1,by rw [h2]; exact fun e=>h e.symm⟩))
theorem srt_ext:∀ {l m:List α},O.Srt key l→O.Srt key m→(∀ x,x ∈ l ↔ x ∈ m)→l=m
 | [],[],_,_,_=>rfl
 | [],b::m,_,_,h=>by have:=(h b).2 List.mem_cons_self; cases this
 | a::l,[],_,_,h=>by have:=(h a).1 List.mem_cons_self; cases this
 | a::l,b::m,h1,h2,h=>by
  have hab:a=b:=by
   rcases List.mem_cons.1 ((h a).1 List.mem_cons_self) with q | q
   ·exact q
   ·rcases List.mem_cons.1 ((h b).2 List.mem_cons_self) with q2 | q2
    ·exact q2.symm
    ·have e1:=h2.head a q
     have e2:=h1.head b q2
     rw [O.asym e1] at e2; cases e2
  subst hab
  congr 1
  refine srt_ext h1.tail h2.tail fun x=>?_
  constructor
  ·intro hx
   rcases List.mem_cons.1 ((h x).1 (List.mem_cons_of_mem _ hx)) with rfl | q
   ·have:=h1.head x hx; rw [O.irr] at this; cases this
   ·exact q
  ·intro hx
   rcases List.mem_cons.1 ((h x).2 (List.mem_cons_of_mem _ hx)) with rfl | q
   ·have:=h2.head x hx; rw [O.irr] at this; cases this
   ·exact q
theorem put_set {l:List α} (hs:O.Srt key l) {x y:α} (h:l[O.plc key l (key x)]?=some y) (he:key y=key x):l.set (O.plc key l (key x)) x=O.put key l x:=by
 obtain ⟨h1,h2⟩:=split hs (key x)
 have hlt:=(List.getElem?_eq_some_iff.1 h).1
 rw [List.set_eq_take_append_cons_drop,if_pos hlt,h1]
 unfold put
 congr 2
 have hd:l.drop (O.plc key l (key x))=y::l.drop (O.plc key l (key x)+1):=by
  rw [List.drop_eq_getElem_cons hlt]
  congr 1
  exact (List.getElem?_eq_some_iff.1 h).2
 have hsd:O.Srt key (y::l.drop (O.plc key l (key x)+1)):=by rw [← hd]; exact List.Pairwise.drop hs
 have hall:∀ b ∈ l.drop (O.plc key l (key x)+1),O.lt (key x) (key b)=true:=by
  intro b hb; rw [← he]; exact hsd.head b hb
 have e:l.filter (fun z=>O.lt (key x) (key z))=(l.filter (fun z=>!O.lt (key z) (key x))).filter (fun z=>O.lt (key x) (key z)):=by
  rw [List.filter_filter]
  refine List.filter_congr fun z _=>?_
  cases hz:O.lt (key x) (key z) with
  | false=>rfl
  | true=>rw [O.asym hz]; rfl
 have f:(y::l.drop (O.plc key l (key x)+1)).filter (fun z=>O.lt (key x) (key z))=l.drop (O.plc key l (key x)+1):=by
  have:O.lt (key x) (key y)=false:=by rw [he,O.irr]
  simp only [List.filter_cons,this,Bool.false_eq_true,if_false]
  exact List.filter_eq_self.2 hall
 rw [e,← h2,hd,f]
theorem put_ins {l:List α} (hs:O.Srt key l) {x:α} (h:look key l (key x)=none):l.take (O.plc key l (key x))++x::l.drop (O.plc key l (key x))=O.put key l x:=by
 obtain ⟨h1,h2⟩:=split hs (key x)
 rw [h1,h2]
 unfold put
 congr 2
 refine List.filter_congr fun z hz=>?_
 have hn:=look_none h z hz
 rcases O.tri (key z) (key x) with q | q | q
 ·rw [q,O.asym q]; rfl
 ·exact absurd q hn
 ·rw [O.asym q,q]; rfl
end KOrd
end Go.Proofs.Yticljphbbdnomaa.VL
end
section
namespace Go.Proofs.Yticljphbbdnomaa.VL
open Go
set_option linter.unusedVariables false
set_option linter.unusedSectionVars false
set_option linter.unusedSimpArgs false
def ltN (a b:ByteArray):Bool:=Op.bytesLess a.toList b.toList
theorem tri (a b:ByteArray):ltN a b=true∨a=b∨ltN b a=true:=by
 rcases bl_tri a.toList b.toList with h | h | h
 ·exact .inl h
 ·exact .inr (.inl (toList_inj h))
 ·exact .inr (.inr h)
def inO:KOrd Int:=⟨fun a b=>decide (a < b),fun a=>by simp,fun a b c h k=>by simp at *; omega,fun a b=>by simp; omega⟩
variable [Val]
theorem mid {i j:Nat} (h:i+j≤9223372036854775807):IntKind.wrap .i64 (Int.fdiv (IntKind.wrap .u64 (IntKind.wrap .i64 ((i:Int)+(j:Int)))) 2)=(((i+j) / 2:Nat):Int):=by
 rw [wi (x:=(i:Int)+j) (by omega) (by omega),wu (by omega) (by omega)]
 have e:Int.fdiv ((i:Int)+(j:Int)) 2=(((i+j) / 2:Nat):Int):=by
  rw [Int.fdiv_eq_ediv_of_nonneg _ (by omega)]; omega
 rw [e,wi (by omega) (by omega)]
theorem not_lt_self (n:Nat):¬ ((n:Nat):Int) < ((n:Nat):Int):=by omega
theorem w1 {i:Nat} (h:i≤9223372036854775806):IntKind.wrap .i64 ((i:Int)+1)=((i+1:Nat):Int):=by rw [wi (by omega) (by omega)]; omega
theorem wm {i:Nat} (h:i≤9223372036854775806) (h0:0 < i):IntKind.wrap .i64 ((i:Int) - 1)=((i - 1:Nat):Int):=by rw [wi (by omega) (by omega)]; omega
theorem len63 {n:Nat} (h:n≤maxLen):n≤9223372036854775807:=Nat.le_trans h (by decide)
theorem dle (a b:Int):decide (a≤b)=!decide (b < a):=by rw [Bool.eq_iff_iff,Bool.not_eq_true',decide_eq_true_iff,decide_eq_false_iff_not]; omega
theorem dlt (a b:Int):decide (a < b)=!decide (b≤a):=by rw [Bool.eq_iff_iff,Bool.not_eq_true',decide_eq_true_iff,decide_eq_false_iff_not]; omega
theorem dgt (a b:Int):decide (a > b)=!decide (a≤b):=by rw [Bool.eq_iff_iff,Bool.not_eq_true',decide_eq_true_iff,decide_eq_false_iff_not]; omega
theorem nz0:((0:Int) != 0)=false:=rfl
theorem nz1:((1:Int) != 0)=true:=rfl
theorem loop_detE {σ ρ:Type} {f:σ→Option (σ ⊕ ρ)} {s0:σ} (n:Nat) (st:Nat→σ) (r:ρ) (h0:s0=st 0) (hend:f (st n)=some (.inr r)) (hstep:∀ i,i < n→f (st i)=some (.inl (st (i+1)))):loopX f s0=some r:=by
 have key:∀ d i,n - i=d→i≤n→loopX f (st i)=some r:=by
  intro d
  induction d with
  | zero =>
   intro i h1 h2
   have:i=n:=by omega
   subst this; rw [loopX_eq,hend]
  | succ d ih=>intro i h1 h2; rw [loopX_eq,hstep i (by omega)]; exact ih (i+1) (by omega) (by omega)
 rw [h0]; exact key n 0 (by omega) (Nat.zero_le _)
theorem loop_ex {σ ρ:Type} {f:σ→Option (σ ⊕ ρ)} (I:σ→Prop) (m:σ→Nat) (P:ρ→Prop) (h:∀ s,I s→(∃ r,f s=some (.inr r)∧P r)∨∃ s',f s=some (.inl s')∧I s'∧m s' < m s) (s:σ) (hs:I s):∃ r,loopX f s=some r∧P r:=by
 have key:∀ (n:Nat) (s:σ),m s≤n→I s→∃ r,loopX f s=some r∧P r:=by
  intro n
  induction n with
  | zero =>
   intro s hn hs
   rw [loopX_eq]
   rcases h s hs with ⟨r,h1,h2⟩ | ⟨s',h1,h2,h3⟩
   ·rw [h1]; exact ⟨r,rfl,h2⟩
   ·omega
  | succ n ih =>
   intro s hn hs
   rw [loopX_eq]
   rcases h s hs with ⟨r,h1,h2⟩ | ⟨s',h1,h2,h3⟩
   ·rw [h1]; exact ⟨r,rfl,h2⟩
   ·rw [h1]; exact ih s' (by omega) h2
 exact key (m s) s (Nat.le_refl _) hs
theorem loop_list {α ρ:Type} {f:Int→Option (Int ⊕ ρ)} {s0:Int} (l:List α) (ok:α→Bool) (bad good:ρ) (h0:s0=0) (hend:f (l.length:Int)=some (.inr good))
  (hstep:∀ (i:Nat) (x:α),i < l.length→l[i]?=some x→f (i:Int)=if ok x=true then some (.inl ((i+1:Nat):Int)) else some (.inr bad)) :
  loopX f s0=some (if l.all ok=true then good else bad):=by
 subst h0
 rw [loop_all (n:=l.length) (fun i=>match l[i]? with | some x=>ok x | none=>true) bad good hend ?_]
 ·congr 2
  rw [eq_iff_iff,List.all_eq_true,List.all_eq_true]
  constructor
  ·intro h x hx
   obtain ⟨i,hi,rfl⟩:=List.getElem_of_mem hx
   have:=h i (List.mem_range.2 hi)
   rw [List.getElem?_eq_getElem hi] at this; exact this
  ·intro h i hi
   have hi:=List.mem_range.1 hi
   rw [List.getElem?_eq_getElem hi]; exact h _ (List.getElem_mem hi)
 ·intro i hi _
  rw [hstep i l[i] hi (List.getElem?_eq_getElem hi),List.getElem?_eq_getElem hi]
theorem loop_first {α ρ:Type} {f:Int→Option (Int ⊕ ρ)} {s0:Int} (l:List α) (p:α→Bool) (g:Nat→ρ) (no:ρ) (h0:s0=0) (hend:f (l.length:Int)=some (.inr no))
  (hstep:∀ (i:Nat) (x:α),i < l.length→l[i]?=some x→f (i:Int)=if p x=true then some (.inr (g i)) else some (.inl ((i+1:Nat):Int))) :
  loopX f s0=some (if l.any p=true then g (l.findIdx p) else no):=by
 subst h0
 have key:∀ d i,l.length - i=d→i≤l.length→(∀ j x,j < i→l[j]?=some x→p x=false)→loopX f (i:Int)=some (if l.any p=true then g (l.findIdx p) else no):=by
  intro d
  induction d with
  | zero =>
   intro i h1 h2 h3
   have:i=l.length:=by omega
   subst this
   rw [loopX_eq,hend,if_neg]
   rw [Bool.not_eq_true,List.any_eq_false]
   intro x hx
   obtain ⟨j,hj,rfl⟩:=List.getElem_of_mem hx
   rw [h3 j _ hj (List.getElem?_eq_getElem hj)]; decide
  | succ d ih =>
   intro i h1 h2 h3
   have hi:i < l.length:=by omega
   rw [loopX_eq,hstep i l[i] hi (List.getElem?_eq_getElem hi)]
   by_cases hp:p l[i]=true
   ·rw [if_pos hp]
    have ha:l.any p=true:=List.any_eq_true.2 ⟨_,List.getElem_mem hi,hp⟩
    have hf:l.findIdx p=i:=by
     refine (List.findIdx_eq hi).2 ⟨hp,fun j hj=>?_⟩
     exact h3 j _ hj (List.getElem?_eq_getElem (by omega))
    rw [if_pos ha,hf]
   ·rw [if_neg hp]
    simp only
    refine ih (i+1) (by omega) (by omega) fun j x hj hx=>?_
    rcases Nat.lt_or_eq_of_le (Nat.le_of_lt_succ hj) with q | q
    ·exact h3 j x q hx
    ·subst q
     rw [List.getElem?_eq_getElem hi] at hx
     cases hx
     exact Bool.eq_false_iff.2 hp
 exact key l.length 0 (by omega) (Nat.zero_le _) fun j x hj=>by omega
theorem loop_same {α:Type} [DecidableEq α] {f:Int→Option (Int ⊕ Bool)} {s0:Int} (a b:List α) (hl:a.length=b.length) (h0:s0=0) (hend:f (a.length:Int)=some (.inr true))
  (hstep:∀ (i:Nat) (x y:α),i < a.length→a[i]?=some x→b[i]?=some y→f (i:Int)=if x=y then some (.inl ((i+1:Nat):Int)) else some (.inr false)) :
  loopX f s0=some (decide (a=b)):=by
 have:=loop_list (f:=f) (s0:=s0) (a.zip b) (fun p=>decide (p.1=p.2)) false true h0 (by rw [List.length_zip,← hl,Nat.min_self]; exact hend) (fun i p hi hp=>by
  have hi:i < a.length:=by rw [List.length_zip,← hl,Nat.min_self] at hi; exact hi
  rw [List.getElem?_zip_eq_some] at hp
  rw [hstep i p.1 p.2 hi hp.1 hp.2]
  by_cases he:p.1=p.2<;>simp [he])
 rw [this]
 congr 1
 rw [Bool.eq_iff_iff,decide_eq_true_iff]
 have e:((a.zip b).all fun p=>decide (p.1=p.2))=true ↔ a=b:=by
  rw [List.all_eq_true]
  constructor
  ·intro h
   refine List.ext_getElem hl fun i h1 h2=>?_
   have:=h (a[i],b[i]) (by rw [List.mem_iff_getElem?]; exact ⟨i,by rw [List.getElem?_zip_eq_some]; exact ⟨List.getElem?_eq_getElem h1,List.getElem?_eq_getElem h2⟩⟩)
   simpa using this
  ·rintro rfl p hp
   rw [List.mem_iff_getElem?] at hp
   obtain ⟨i,hi⟩:=hp
   rw [List.getElem?_zip_eq_some] at hi
   have:=hi.1.symm.trans hi.2
   simpa using this
 by_cases h:((a.zip b).all fun p=>decide (p.1=p.2))=true
 ·rw [if_pos h]; simp [e.1 h]
 ·rw [if_neg h]; simp; exact fun q=>h (e.2 q)
theorem loop_find {κ α:Type} {O:KOrd κ} {key:α→κ} {l:List α} (hs:O.Srt key l) (k:κ) {f:Int×Int→Option ((Int×Int) ⊕ Int)} {s0:Int×Int} (h0:s0=(0,(l.length:Int)))
  (hend:∀ i:Nat,i≤l.length→f ((i:Int),(i:Int))=some (.inr (i:Int)))
  (hstep:∀ (i j m:Nat) (x:α),i < j→j≤l.length→m=(i+j) / 2→m < l.length→l[m]?=some x→f ((i:Int),(j:Int))=cond (O.lt (key x) k) (some (.inl (((m+1:Nat):Int),(j:Int)))) (some (.inl ((i:Int),(m:Int))))) :
  loopX f s0=some ((O.plc key l k:Nat):Int):=by
 subst h0
 have hsp:∀ i:Nat,(hi:i < l.length)→(O.lt (key l[i]) k=true ↔ i < O.plc key l k):=by
  intro i hi
  obtain ⟨e1,e2⟩:=KOrd.split hs k
  have hle:=KOrd.plc_le (O:=O) (key:=key) l k
  constructor
  ·intro h
   refine Nat.not_le.1 fun hge=>?_
   have hm:l[i] ∈ l.drop (O.plc key l k):=by rw [List.mem_iff_getElem?]; exact ⟨i - O.plc key l k,by rw [List.getElem?_drop,show O.plc key l k+(i - O.plc key l k)=i by omega,List.getElem?_eq_getElem hi]⟩
   rw [e2,List.mem_filter] at hm
   rw [h] at hm; exact absurd hm.2 (by decide)
  ·intro h
   have hm:l[i] ∈ l.take (O.plc key l k):=by rw [List.mem_iff_getElem?]; exact ⟨i,by rw [List.getElem?_take,if_pos h,List.getElem?_eq_getElem hi]⟩
   rw [e1,List.mem_filter] at hm
   exact hm.2
 have hle:=KOrd.plc_le (O:=O) (key:=key) l k
 have e:cntP (fun i=>decide (i < O.plc key l k)) l.length=O.plc key l k:=cntP_at hle (fun k hk=>decide_eq_true hk) (fun k h1 h2=>decide_eq_false (by omega))
 have:=loop_bs (f:=f) (n:=l.length) (fun i=>decide (i < O.plc key l k)) (fun i j h1 h2 h3=>by rw [decide_eq_true_iff] at *; omega) hend (fun i j h1 h2=>?_)
 ·rw [e] at this; exact this
 ·have hm:(i+j) / 2 < l.length:=by omega
  rw [hstep i j _ l[(i+j) / 2] h1 h2 rfl hm (List.getElem?_eq_getElem hm)]
  have hd:O.lt (key l[(i+j) / 2]) k=decide ((i+j) / 2 < O.plc key l k):=by rw [Bool.eq_iff_iff,decide_eq_true_iff]; exact hsp _ hm
  rw [hd]
  cases decide ((i+j) / 2 < O.plc key l k)<;>rfl
end Go.Proofs.Yticljphbbdnomaa.VL
end
section
namespace Go.Proofs.Yticljphbbdnomaa.VL
open Go
set_option linter.unusedVariables false
set_option linter.unusedSectionVars false
set_option linter.unusedSimpArgs false
set_option maxRecDepth 100000
variable [Val]
theorem dgeN (a b:Int):decide (a ≥ b)=!decide (a < b):=by rw [Bool.eq_iff_iff,Bool.not_eq_true',decide_eq_true_iff,decide_eq_false_iff_not]; omega
abbrev DB:=Int×(Int×(Int×List Int))
def da (l:List DB) (i:Nat):DB:=l.getD i (0,0,0,[])
theorem da_eq {l:List DB} {i:Nat} (h:i < l.length):l[i]=da l i:=by
 unfold da
 rw [List.getD_eq_getElem?_getD,List.getElem?_eq_getElem h]; rfl
theorem at_da {l:List DB} {i:Nat} (h:i < l.length):l[i]?=some (da l i):=by rw [List.getElem?_eq_getElem h,da_eq h]
def la (l:List Int) (i:Nat):Int:=l.getD i 0
theorem la_eq {l:List Int} {i:Nat} (h:i < l.length):l[i]=la l i:=by
 unfold la
 rw [List.getD_eq_getElem?_getD,List.getElem?_eq_getElem h]; rfl
theorem at_la {l:List Int} {i:Nat} (h:i < l.length):l[i]?=some (la l i):=by rw [List.getElem?_eq_getElem h,la_eq h]
def nodeB (n:Int):Bool:=decide (0≤n)&&decide (n≤63)
def momB (n:Int):Bool:=decide (0≤n)&&decide (n≤1099511627776)
theorem F32_ok (n:Int):F32 n=some (nodeB n):=by rw [F32_eq,F27_ok n 0 63]; rfl
theorem F33_ok (n:Int):F33 n=some (momB n):=by
 rw [F33_eq]; unfold momB
 show cond (decide (0≤n)) _ _=_
 cases decide (0≤n)<;>rfl
def upAt (l:List Int) (i:Nat):Bool:=nodeB (la l i)&&(decide (i=0) || decide (la l (i - 1) < la l i))
def upB (l:List Int):Bool:=(List.range l.length).all (upAt l)
def risesB (l:List Int):Bool:=upB l&&decide (0 < l.length)
theorem F37_ok {l:List Int} (h:l.length≤maxLen):F37 l=some (risesB l):=by
 have h63:=len63 h
 rw [F37_eq]
 rw [loop_all (n:=l.length) (upAt l) false (decide (((l.length:Nat):Int) > 0))]
 ·unfold risesB upB
  have e:decide (((l.length:Nat):Int) > 0)=decide (0 < l.length):=by rw [Bool.eq_iff_iff,decide_eq_true_iff,decide_eq_true_iff]; omega
  rw [e]
  cases (List.range l.length).all (upAt l)<;>rfl
 ·simp -implicitDefEqProofs only [not_lt_self,eq_self,xs]
 ·intro i hi _
  have q1:((i:Nat):Int) < ((l.length:Nat):Int):=by omega
  have q2:(0:Int)≤(i:Int):=by omega
  simp -implicitDefEqProofs only [q1,q2,at_la hi,F32_ok,w1 (show i≤9223372036854775806 by omega),eq_self,xs]
  unfold upAt
  cases nodeB (la l i)
  ·rfl
  ·by_cases h0:i=0
   ·subst h0
    rfl
   ·have q3:(i:Int) > 0:=by omega
    have q4:(0:Int)≤((i - 1:Nat):Int):=by omega
    simp -implicitDefEqProofs only [q3,wm (show i≤9223372036854775806 by omega) (show 0 < i by omega),q4,at_la (show i - 1 < l.length by omega),h0,dgeN (la l (i - 1)) (la l i),eq_self,xs]
    cases decide (la l (i - 1) < la l i)<;>rfl
theorem loop_det {σ ρ:Type} {f:σ→Option (σ ⊕ ρ)} (n:Nat) (st:Nat→σ) (r:ρ) (hend:f (st n)=some (.inr r)) (hstep:∀ i,i < n→f (st i)=some (.inl (st (i+1)))):loopX f (st 0)=some r:=by
 have key:∀ d i,n - i=d→i≤n→loopX f (st i)=some r:=by
  intro d
  induction d with
  | zero =>
   intro i h1 h2
   have:i=n:=by omega
   subst this; rw [loopX_eq,hend]
  | succ d ih=>intro i h1 h2; rw [loopX_eq,hstep i (by omega)]; exact ih (i+1) (by omega) (by omega)
 exact key n 0 (by omega) (Nat.zero_le _)
def manyN (l:List Int) (x:Int):Nat:=cntP (fun k=>la l k==x) l.length
theorem F42_ok {l:List Int} {x:Int} (h:l.length≤maxLen):F42 (l,x)=some ((manyN l x:Nat):Int):=by
 have h63:=len63 h
 rw [F42_eq]
 refine loop_det l.length (fun i=>(((cntP (fun k=>la l k==x) i:Nat):Int),(i:Int))) _ ?_ ?_
 ·simp -implicitDefEqProofs only [not_lt_self,eq_self,xs]
  rfl
 ·intro i hi
  have q1:((i:Nat):Int) < ((l.length:Nat):Int):=by omega
  have q2:(0:Int)≤(i:Int):=by omega
  have hc:=cntP_le (fun k=>la l k==x) i
  simp -implicitDefEqProofs only [q1,q2,at_la hi,w1 (show i≤9223372036854775806 by omega),w1 (show cntP (fun k=>la l k==x) i≤9223372036854775806 by omega),eq_self,xs]
  have e:cntP (fun k=>la l k==x) (i+1)=cntP (fun k=>la l k==x) i+(if (la l i==x)=true then 1 else 0):=rfl
  rw [e]
  cases la l i==x<;>rfl
theorem cntP_one {p:Nat→Bool} {i:Nat} (hi:p i=true) (hne:∀ k,k≠i→p k=false):∀ n,cntP p n=if i < n then 1 else 0
 | 0=>rfl
 | n+1=>by
  rw [cntP,cntP_one hi hne n]
  by_cases h:n=i
  ·subst h; rw [hi]; simp
  ·rw [hne n h]
   by_cases h2:i < n
   ·have:i < n+1:=by omega
    simp [h2,this]
   ·have:¬ i < n+1:=by omega
    simp [h2]; omega
theorem cntP_congr {p q:Nat→Bool}:∀ n,(∀ k,k < n→p k=q k)→cntP p n=cntP q n
 | 0,_=>rfl
 | n+1,h=>by rw [cntP,cntP,cntP_congr n (fun k hk=>h k (by omega)),h n (by omega)]
def risB (l:List Int):Bool:=(List.range l.length).all fun i=>decide (i=0) || decide (la l (i - 1) < la l i)
theorem ris_lt {l:List Int} (h:risB l=true):∀ i j,i < j→j < l.length→la l i < la l j:=by
 unfold risB at h
 rw [List.all_eq_true] at h
 intro i j hij
 induction j with
 | zero=>omega
 | succ j ih =>
  intro hj
  have:=h (j+1) (List.mem_range.2 hj)
  rw [Bool.or_eq_true,decide_eq_true_iff,decide_eq_true_iff] at this
  have:la l j < la l (j+1):=by
   rcases this with q | q
   ·omega
   ·simpa using q
  rcases Nat.lt_or_eq_of_le (Nat.le_of_lt_succ hij) with q | q
  ·have:=ih q (by omega); omega
  ·rw [q]; exact this
theorem many_one {l:List Int} (h:risB l=true) {i:Nat} (hi:i < l.length):manyN l (la l i)=1:=by
 unfold manyN
 have e:=cntP_congr (p:=fun k=>la l k==la l i) (q:=fun k=>decide (k=i)) l.length (fun k hk=>by
  rw [Bool.eq_iff_iff,beq_iff_eq,decide_eq_true_iff]
  refine ⟨fun q=>?_,fun q=>by rw [q]⟩
  rcases Nat.lt_trichotomy k i with g | g | g
  ·have:=ris_lt h k i g hi; omega
  ·exact g
  ·have:=ris_lt h i k g hk; omega)
 rw [e,cntP_one (p:=fun k=>decide (k=i)) (i:=i) (by simp) (fun k hk=>by simp [hk]),if_pos hi]
theorem upB_eq (l:List Int):upB l=((List.range l.length).all (fun i=>nodeB (la l i))&&risB l):=by
 unfold upB risB
 generalize List.range l.length=r
 induction r with
 | nil=>rfl
 | cons a r ih =>
  simp only [List.all_cons]
  rw [ih]
  unfold upAt
  cases nodeB (la l a)<;>cases (r.all fun i=>nodeB (la l i))<;>cases (decide (a=0) || decide (la l (a - 1) < la l a))<;>rfl
theorem up_len {l:List Int} (h:upB l=true):l.length≤64:=by
 rw [upB_eq,Bool.and_eq_true,List.all_eq_true] at h
 obtain ⟨h1,h2⟩:=h
 have hn:∀ i,i < l.length→0≤la l i∧la l i≤63:=by
  intro i hi
  have:=h1 i (List.mem_range.2 hi)
  unfold nodeB at this
  simpa only [Bool.and_eq_true,decide_eq_true_eq] using this
 have hge:∀ i,i < l.length→(i:Int)≤la l i:=by
  intro i
  induction i with
  | zero=>intro hi; exact (hn 0 hi).1
  | succ i ih=>intro hi; have:=ih (by omega); have:=ris_lt h2 i (i+1) (by omega) hi; omega
 refine Nat.not_lt.1 fun hl=>?_
 have:=hge 64 hl
 have:=hn 64 hl
 omega
theorem F55_ok {l:List Int} (h:l.length≤maxLen) (hr:risB l=true):F55 l=some ((List.range l.length).all (fun i=>nodeB (la l i))):=by
 have h63:=len63 h
 rw [F55_eq]
 rw [loop_all (n:=l.length) (fun i=>nodeB (la l i)) false true]
 ·cases (List.range l.length).all (fun i=>nodeB (la l i))<;>rfl
 ·simp -implicitDefEqProofs only [not_lt_self,eq_self,xs]
 ·intro i hi _
  have q1:((i:Nat):Int) < ((l.length:Nat):Int):=by omega
  have q2:(0:Int)≤(i:Int):=by omega
  have q5:((1:Nat):Int)=(1:Int):=rfl
  simp -implicitDefEqProofs only [q1,q2,at_la hi,F42_ok (x:=la l i) h,many_one hr hi,w1 (show i≤9223372036854775806 by omega),dlt (la l i) 0,dgt (la l i) 63,q5,bne_self_eq_false,eq_self,xs]
  unfold nodeB
  cases decide (0≤la l i)<;>cases decide (la l i≤63)<;>rfl
theorem loop_all1 {ρ:Type} {f:Int→Option (Int ⊕ ρ)} {n:Nat} (ok:Nat→Bool) (bad good:ρ) (hend:∀ i:Nat,n≤i→f (i:Int)=some (.inr good))
  (hstep:∀ i:Nat,i < n→1≤i→f (i:Int)=if ok i=true then some (.inl ((i+1:Nat):Int)) else some (.inr bad)) :
  loopX f (1:Int)=some (if (List.range n).all (fun i=>decide (i=0) || ok i)=true then good else bad):=by
 classical
 have key:∀ d i:Nat,n - i=d→1≤i→loopX f (i:Int)=some (if ∀ j,i≤j→j < n→ok j=true then good else bad):=by
  intro d
  induction d with
  | zero=>intro i h1 h2; rw [loopX_eq,hend i (by omega),if_pos (fun j h1 h2=>by omega)]
  | succ d ih =>
   intro i h1 h2
   rw [loopX_eq,hstep i (by omega) h2]
   by_cases h:ok i=true
   ·rw [if_pos h]
    simp only
    rw [ih (i+1) (by omega) (by omega)]
    congr 1
    have e:(∀ j,i+1≤j→j < n→ok j=true) ↔ (∀ j,i≤j→j < n→ok j=true):=by
     constructor
     ·intro q j h1 h2
      rcases Nat.lt_or_eq_of_le h1 with h3 | h3
      ·exact q j h3 h2
      ·rw [← h3]; exact h
     ·intro q j h1 h2; exact q j (by omega) h2
    by_cases hq:∀ j,i≤j→j < n→ok j=true
    ·rw [if_pos hq,if_pos (e.2 hq)]
    ·rw [if_neg hq,if_neg (fun q=>hq (e.1 q))]
   ·rw [if_neg h]
    simp only
    rw [if_neg (fun q=>h (q i (Nat.le_refl _) (by omega)))]
 have:=key (n - 1) 1 rfl (Nat.le_refl _)
 have e1:((1:Nat):Int)=1:=rfl
 rw [e1] at this
 rw [this]
 congr 1
 have e:(∀ j,1≤j→j < n→ok j=true) ↔ (List.range n).all (fun i=>decide (i=0) || ok i)=true:=by
  rw [List.all_eq_true]
  constructor
  ·intro h x hx
   rw [Bool.or_eq_true,decide_eq_true_iff]
   by_cases h0:x=0
   ·exact .inl h0
   ·exact .inr (h x (by omega) (List.mem_range.1 hx))
  ·intro h j h1 h2
   have:=h j (List.mem_range.2 h2)
   rw [Bool.or_eq_true,decide_eq_true_iff] at this
   rcases this with q | q
   ·omega
   ·exact q
 by_cases h:(List.range n).all (fun i=>decide (i=0) || ok i)=true
 ·rw [if_pos h,if_pos (e.2 h)]
 ·rw [if_neg h,if_neg (fun q=>h (e.1 q))]
theorem F38_ok {l:List Int} (h:l.length≤maxLen):F38 l=some (upB l):=by
 have h63:=len63 h
 rw [F38_eq]
 rw [loop_all1 (n:=l.length) (fun i=>decide (la l (i - 1) < la l i)) (Sum.inr false) (Sum.inl ())]
 ·have e:(List.range l.length).all (fun i=>decide (i=0) || decide (la l (i - 1) < la l i))=risB l:=rfl
  rw [e]
  cases hr:risB l
  ·have:upB l=false:=by rw [upB_eq,hr,Bool.and_false]
   rw [this]; rfl
  ·simp -implicitDefEqProofs only [eq_self,xs]
   by_cases h64:l.length≤64
   ·have q:((l.length:Nat):Int)≤64:=by omega
    simp -implicitDefEqProofs only [q,F55_ok h hr,eq_self,xs]
    rw [upB_eq,hr,Bool.and_true]
   ·have q:¬ ((l.length:Nat):Int)≤64:=by omega
    have hu:upB l=false:=by rw [Bool.eq_false_iff]; intro k; exact h64 (up_len k)
    simp -implicitDefEqProofs only [q,hu,eq_self,xs]
 ·intro i hi
  have:¬ (i:Int) < ((l.length:Nat):Int):=by omega
  simp -implicitDefEqProofs only [this,eq_self,xs]
 ·intro i hi h1
  have q1:((i:Nat):Int) < ((l.length:Nat):Int):=by omega
  have q2:(0:Int)≤(i:Int):=by omega
  have q4:(0:Int)≤((i - 1:Nat):Int):=by omega
  simp -implicitDefEqProofs only [q1,q2,at_la hi,wm (show i≤9223372036854775806 by omega) (show 0 < i by omega),q4,at_la (show i - 1 < l.length by omega),w1 (show i≤9223372036854775806 by omega),dle (la l i) (la l (i - 1)),eq_self,xs]
  cases decide (la l (i - 1) < la l i)<;>rfl
def okD (l:List DB) (i:Nat):Bool:=nodeB (da l i).1&&((decide (i=0) || decide ((da l (i - 1)).1 < (da l i).1))&&(momB (da l i).2.2.1&&risesB (da l i).2.2.2))
def mayD (l:List DB):Bool:=(List.range l.length).all (okD l)
def szD (l:List DB):Prop:=l.length≤maxLen∧∀ i,i < l.length→(da l i).2.2.2.length≤maxLen
theorem F14_ok {l:List DB} (h:szD l):F14 l=some (if mayD l=true then 0 else 1):=by
 obtain ⟨h1,h2⟩:=h
 have h63:=len63 h1
 rw [F14_eq]
 rw [loop_all (n:=l.length) (okD l) (1:Int) 0]
 ·rfl
 ·simp -implicitDefEqProofs only [not_lt_self,eq_self,xs]
 ·intro i hi _
  have q1:((i:Nat):Int) < ((l.length:Nat):Int):=by omega
  have q2:(0:Int)≤(i:Int):=by omega
  simp -implicitDefEqProofs only [q1,q2,at_da hi,F32_ok,F33_ok,F37_ok (h2 i hi),w1 (show i≤9223372036854775806 by omega),eq_self,xs]
  unfold okD
  by_cases h0:i=0
  ·subst h0
   cases nodeB (da l 0).1<;>cases momB (da l 0).2.2.1<;>cases risesB (da l 0).2.2.2<;>rfl
  ·have q3:(i:Int) > 0:=by omega
   have q4:(0:Int)≤((i - 1:Nat):Int):=by omega
   simp -implicitDefEqProofs only [q3,wm (show i≤9223372036854775806 by omega) (show 0 < i by omega),q4,at_da (show i - 1 < l.length by omega),h0,dgeN (da l (i - 1)).1 (da l i).1,eq_self,xs]
   cases nodeB (da l i).1<;>cases decide ((da l (i - 1)).1 < (da l i).1)<;>cases momB (da l i).2.2.1<;>cases risesB (da l i).2.2.2<;>rfl
theorem F19_ok {l:List DB} (h:szD l):F19 l=some (mayD l):=by
 obtain ⟨h1,h2⟩:=h
 have h63:=len63 h1
 rw [F19_eq]
 rw [loop_all (n:=l.length) (okD l) false true]
 ·unfold mayD
  cases (List.range l.length).all (okD l)<;>rfl
 ·simp -implicitDefEqProofs only [not_lt_self,eq_self,xs]
 ·intro i hi _
  have q1:((i:Nat):Int) < ((l.length:Nat):Int):=by omega
  have q2:(0:Int)≤(i:Int):=by omega
  have e0:((((da l i).2.2.2.length:Nat):Int)==0)=!decide (0 < (da l i).2.2.2.length):=by
   rw [Bool.eq_iff_iff,Bool.not_eq_true',beq_iff_eq,decide_eq_false_iff_not]; omega
  simp -implicitDefEqProofs only [q1,q2,at_da hi,F38_ok (h2 i hi),w1 (show i≤9223372036854775806 by omega),dlt (da l i).1 0,dgt (da l i).1 63,dlt (da l i).2.2.1 0,dgt (da l i).2.2.1 1099511627776,e0,eq_self,xs]
  unfold okD nodeB momB risesB
  by_cases h0:i=0
  ·subst h0
   cases decide (0≤(da l 0).1)<;>cases decide ((da l 0).1≤63)<;>cases decide (0≤(da l 0).2.2.1)<;>cases decide ((da l 0).2.2.1≤1099511627776)<;>cases upB (da l 0).2.2.2<;>cases decide (0 < (da l 0).2.2.2.length)<;>rfl
  ·have q3:(i:Int) > 0:=by omega
   have q4:(0:Int)≤((i - 1:Nat):Int):=by omega
   simp -implicitDefEqProofs only [q3,wm (show i≤9223372036854775806 by omega) (show 0 < i by omega),q4,at_da (show i - 1 < l.length by omega),h0,dle (da l i).1 (da l (i - 1)).1,eq_self,xs]
   cases decide (0≤(da l i).1)<;>cases decide ((da l i).1≤63)<;>cases decide ((da l (i - 1)).1 < (da l i).1)<;>cases decide (0≤(da l i).2.2.1)<;>cases decide ((da l i).2.2.1≤1099511627776)<;>cases upB (da l i).2.2.2<;>cases decide (0 < (da l i).2.2.2.length)<;>rfl
end Go.Proofs.Yticljphbbdnomaa.VL
end
section
namespace Go.Proofs.Yticljphbbdnomaa.VL
open Go
set_option linter.unusedVariables false
set_option linter.unusedSectionVars false
set_option linter.unusedSimpArgs false
set_option maxRecDepth 100000
variable [Val]
def fewD (l:List DB):Prop:=l.length≤65∧∀ d ∈ l,d.2.2.2.length≤65
theorem few_sz {l:List DB} (h:fewD l):szD l:=by
 refine ⟨Nat.le_trans h.1 (by decide),fun i hi=>Nat.le_trans (h.2 _ ?_) (show 65≤maxLen by decide)⟩
 rw [← da_eq hi]; exact List.getElem_mem hi
theorem F18_ok {l:List DB} (h:l.length≤maxLen):∃ l',F18 l=some l'∧fewD l':=by
 have h63:=len63 h
 rw [F18_eq]
 refine loop_ex (fun s:Int×List DB=>∃ i:Nat,s.1=i∧i≤l.length∧i≤65∧s.2.length=i∧∀ d ∈ s.2,d.2.2.2.length≤65) (fun s=>65 - s.1.toNat) fewD ?_ ((0:Int),[]) ⟨0,rfl,Nat.zero_le _,Nat.zero_le _,rfl,fun d hd=>by simp at hd⟩
 rintro ⟨_,a⟩ ⟨i,rfl,h1,h2,h3,h4⟩
 simp only at h3 h4
 by_cases hi:i < l.length
 ·have q1:((i:Nat):Int) < ((l.length:Nat):Int):=by omega
  by_cases h65:i < 65
  ·right
   have q5:((i:Nat):Int) < 65:=by omega
   have q2:(0:Int)≤(i:Int):=by omega
   have q3:(((a.length+1:Nat):Int) * 48≤70368744177664):=by omega
   have q4:(((a.length+1:Nat):Int)≤70368744177664):=by omega
   by_cases hb:(((da l i).2.2.2.length:Nat):Int) > 65
   ·have q6:(65:Int)≤(((da l i).2.2.2.length:Nat):Int):=by omega
    simp -implicitDefEqProofs only [q1,q5,q2,at_da hi,hb,q6,q3,q4,w1 (show i≤9223372036854775806 by omega),eq_self,xs]
    refine ⟨_,rfl,⟨i+1,rfl,by omega,by omega,by simp [h3],?_⟩,by simp only [Int.toNat_natCast]; omega⟩
    intro d hd
    rcases List.mem_append.1 hd with q | q
    ·exact h4 d q
    ·rw [List.mem_singleton] at q; subst q
     simp only [List.length_take]; omega
   ·simp -implicitDefEqProofs only [q1,q5,q2,at_da hi,hb,q3,q4,w1 (show i≤9223372036854775806 by omega),eq_self,xs]
    refine ⟨_,rfl,⟨i+1,rfl,by omega,by omega,by simp [h3],?_⟩,by simp only [Int.toNat_natCast]; omega⟩
    intro d hd
    rcases List.mem_append.1 hd with q | q
    ·exact h4 d q
    ·rw [List.mem_singleton] at q; subst q
     show (da l i).2.2.2.length≤65
     omega
  ·left
   have q5:¬ ((i:Nat):Int) < 65:=by omega
   simp -implicitDefEqProofs only [q1,q5,eq_self,xs]
   exact ⟨_,rfl,by omega,h4⟩
 ·left
  have q1:¬ ((i:Nat):Int) < ((l.length:Nat):Int):=by omega
  simp -implicitDefEqProofs only [q1,eq_self,xs]
  exact ⟨_,rfl,by omega,h4⟩
theorem copyI {l:List Int} (hl:l.length≤1000):bothX (List.isEmpty l) (some []) (cond ((decide ((((l.length:Nat):Int) * (8:Int))≤(70368744177664:Int)))&&(decide (((l.length:Nat):Int)≤(70368744177664:Int)))) (some l) none)=some l:=by
 have q1:((l.length:Nat):Int) * 8≤70368744177664:=by omega
 have q2:((l.length:Nat):Int)≤70368744177664:=by omega
 have e:cond ((decide ((((l.length:Nat):Int) * (8:Int))≤(70368744177664:Int)))&&(decide (((l.length:Nat):Int)≤(70368744177664:Int)))) (some l) none=some l:=by simp -implicitDefEqProofs only [q1,q2,eq_self,xs]
 rw [e,bothX_eq (fun h=>?_)]
 rw [List.isEmpty_iff] at h; rw [h]
theorem copyD {l:List DB} (hl:l.length≤1000):bothX (List.isEmpty l) (some []) (cond ((decide ((((l.length:Nat):Int) * (48:Int))≤(70368744177664:Int)))&&(decide (((l.length:Nat):Int)≤(70368744177664:Int)))) (some l) none)=some l:=by
 have q1:((l.length:Nat):Int) * 48≤70368744177664:=by omega
 have q2:((l.length:Nat):Int)≤70368744177664:=by omega
 have e:cond ((decide ((((l.length:Nat):Int) * (48:Int))≤(70368744177664:Int)))&&(decide (((l.length:Nat):Int)≤(70368744177664:Int)))) (some l) none=some l:=by simp -implicitDefEqProofs only [q1,q2,eq_self,xs]
 rw [e,bothX_eq (fun h=>?_)]
 rw [List.isEmpty_iff] at h; rw [h]
theorem set_self {l:List DB} {i:Nat} (h:i < l.length):l.set i (da l i)=l:=by rw [← da_eq h,List.set_getElem_self]
def gr (a b c:Int) (n:Nat) (d:DB):Int:=graceV a b c n ((d.2.2.2.length:Int) - 1)
def ripB (a b c:Int) (n:Nat) (now:Int) (d:DB):Bool:=decide (d.2.2.1+gr a b c n d≤now)
theorem take_succ' {l:List DB} {i:Nat} (h:i < l.length):l.take (i+1)=l.take i++[da l i]:=by rw [List.take_succ_eq_append_getElem h,da_eq h]
theorem okD_of {l:List DB} (h:mayD l=true) {i:Nat} (hi:i < l.length):okD l i=true:=by
 unfold mayD at h
 rw [List.all_eq_true] at h
 exact h i (List.mem_range.2 hi)
theorem gr_of {l:List DB} (h:mayD l=true) {i:Nat} (hi:i < l.length):0 < (da l i).2.2.2.length∧(da l i).2.2.2.length≤64∧0≤(da l i).2.2.1∧(da l i).2.2.1≤1099511627776:=by
 have:=okD_of h hi
 unfold okD momB risesB at this
 simp only [Bool.and_eq_true,decide_eq_true_eq] at this
 exact ⟨this.2.2.2.2,up_len this.2.2.2.1,this.2.2.1.1,this.2.2.1.2⟩
theorem F20_ok {l:List DB} {a b c:Int} {n:Nat} {now:Int} (hf:fewD l) (hm:mayD l=true) (hr:rulesB a b c=true) (h1:1≤n) (h2:n≤64) (hn:momB now=true) :
  F20 (l,(a,b,c),(n:Int),now)=some (l.filter (ripB a b c n now),(l.filter (fun d=>!ripB a b c n now d),0)):=by
 have hz:=few_sz hf
 have h65:=hf.1
 have hnB:(decide ((1:Int)≤(n:Int))&&decide ((n:Int)≤64))=true:=by rw [Bool.and_eq_true,decide_eq_true_iff,decide_eq_true_iff]; omega
 rw [F20_eq]
 simp -implicitDefEqProofs only [F14_ok hz,hm,nz0,F17_ok a b c,hr,F27_ok (n:Int) 1 64,hnB,F33_ok now,hn,copyD (show l.length≤1000 by omega),eq_self,xs]
 rw [loop_detE (s0:=((0:Int),l)) l.length (fun i=>((i:Int),l)) l rfl]
 rotate_left
 ·simp -implicitDefEqProofs only [not_lt_self,eq_self,xs]
 ·intro i hi
  have q1:((i:Nat):Int) < ((l.length:Nat):Int):=by omega
  have q2:(0:Int)≤(i:Int):=by omega
  have hby:=hf.2 (da l i) (by rw [← da_eq hi]; exact List.getElem_mem hi)
  simp -implicitDefEqProofs only [q1,q2,at_da hi,copyI (show (da l i).2.2.2.length≤1000 by omega),w1 (show i≤9223372036854775806 by omega),eq_self,xs]
  have e:l.set i ((da l i).1,(da l i).2.1,(da l i).2.2.1,(da l i).2.2.2)=l:=set_self hi
  rw [e]
 simp -implicitDefEqProofs only [eq_self,xs]
 rw [loop_detE (s0:=((0:Int),([]:List DB),([]:List DB))) l.length (fun i=>((i:Int),((l.take i).filter (ripB a b c n now),(l.take i).filter (fun d=>!ripB a b c n now d)))) (Sum.inl (l.filter (ripB a b c n now),l.filter (fun d=>!ripB a b c n now d))) (by simp)]
 ·simp -implicitDefEqProofs only [eq_self,xs]
 ·simp -implicitDefEqProofs only [not_lt_self,eq_self,xs]
 ·intro i hi
  have q1:((i:Nat):Int) < ((l.length:Nat):Int):=by omega
  have q2:(0:Int)≤(i:Int):=by omega
  obtain ⟨g1,g2,g3,g4⟩:=gr_of hm hi
  have hk:IntKind.wrap .i64 ((((da l i).2.2.2.length:Nat):Int) - 1)=(((da l i).2.2.2.length:Nat):Int) - 1:=wi (by omega) (by omega)
  have hk0:0≤(((da l i).2.2.2.length:Nat):Int) - 1:=by omega
  have hG:=F9_ok a b c (n:Int) ((((da l i).2.2.2.length:Nat):Int) - 1)
  rw [hr,hnB,decide_eq_true hk0,Bool.and_self,Bool.and_self,if_pos rfl,Int.toNat_natCast] at hG
  have hgr:=grace_range hr h1 h2 hk0
  have hs:IntKind.wrap .i64 ((da l i).2.2.1+graceV a b c n ((((da l i).2.2.2.length:Nat):Int) - 1))=(da l i).2.2.1+graceV a b c n ((((da l i).2.2.2.length:Nat):Int) - 1):=wi (by omega) (by omega)
  have L1:((l.take i).filter (ripB a b c n now)).length≤65:=Nat.le_trans (List.length_filter_le _ _) (by rw [List.length_take]; omega)
  have L2:((l.take i).filter (fun d=>!ripB a b c n now d)).length≤65:=Nat.le_trans (List.length_filter_le _ _) (by rw [List.length_take]; omega)
  have et:(l.take (i+1)).filter (ripB a b c n now)=(l.take i).filter (ripB a b c n now)++(if ripB a b c n now (da l i)=true then [da l i] else []):=by
   rw [take_succ' hi,List.filter_append]; congr 1; cases h:ripB a b c n now (da l i)<;>simp [h]
  have ef:(l.take (i+1)).filter (fun d=>!ripB a b c n now d)=(l.take i).filter (fun d=>!ripB a b c n now d)++(if ripB a b c n now (da l i)=true then [] else [da l i]):=by
   rw [take_succ' hi,List.filter_append]; congr 1; cases h:ripB a b c n now (da l i)<;>simp [h]
  rw [et,ef]
  generalize (l.take i).filter (ripB a b c n now)=A at *
  generalize (l.take i).filter (fun d=>!ripB a b c n now d)=B at *
  have hrip:ripB a b c n now (da l i)=decide ((da l i).2.2.1+graceV a b c n ((((da l i).2.2.2.length:Nat):Int) - 1)≤now):=rfl
  have q3:(((A.length+1:Nat):Int) * 48≤70368744177664):=by omega
  have q4:(((A.length+1:Nat):Int)≤70368744177664):=by omega
  have q5:(((B.length+1:Nat):Int) * 48≤70368744177664):=by omega
  have q6:(((B.length+1:Nat):Int)≤70368744177664):=by omega
  by_cases hd:(da l i).2.2.1+graceV a b c n ((((da l i).2.2.2.length:Nat):Int) - 1)≤now
  ·rw [hrip,decide_eq_true hd]
   simp -implicitDefEqProofs only [q1,q2,at_da hi,hk,hG,nz0,hs,hd,q3,q4,w1 (show i≤9223372036854775806 by omega),List.append_nil,eq_self,xs]
  ·rw [hrip,decide_eq_false hd]
   simp -implicitDefEqProofs only [q1,q2,at_da hi,hk,hG,nz0,hs,hd,q5,q6,w1 (show i≤9223372036854775806 by omega),List.append_nil,eq_self,xs]
end Go.Proofs.Yticljphbbdnomaa.VL
end
