import Derived.Test.YtgbcankkfmhcoaaW2Xr
import Derived.Laws.RangeString
import Derived.Laws.RangeAny
import Derived.Test.YtgbcankkfmhcoaaW2Yb
import Derived.Test.YtgbcankkfmhcoaaW2Ta
import Derived.Test.YtgbcankkfmhcoaaW2Ya
import Derived.Test.YtgbcankkfmhcoaaW2Wc
section
namespace Go.Proofs.Ytgbcankkfmhcoaa.VL
open Go
set_option linter.unusedVariables false
set_option linter.unusedSectionVars false
variable [Val]
theorem wi {x:Int} (h0:-9223372036854775808≤x) (h1:x≤9223372036854775807):IntKind.wrap .i64 x=x:=by rw [IntKind.wrap_i64]; omega
theorem wu {x:Int} (h0:0≤x) (h1:x≤18446744073709551615):IntKind.wrap .u64 x=x:=by
 simp only [IntKind.wrap,IntKind.bits,IntKind.signed]
 have:x % (2 ^ 64:Int)=x:=Int.emod_eq_of_lt h0 (by omega)
 simp only [this,Bool.false_and]
 rfl
theorem app_eq {α:Type} (a b:List α):Append.append a b=a++b:=rfl
theorem joinX_l {α R:Type} (v:α) (k:α→Option R):joinX (some (.inl v)) k=k v:=rfl
theorem loopX_spec {σ ρ:Type} {f:σ→Option (σ ⊕ ρ)} (I:σ→Prop) (m:σ→Nat) (g:σ→ρ)
  (h:∀ s,I s→f s=some (.inr (g s))∨∃ s',f s=some (.inl s')∧I s'∧m s' < m s∧g s'=g s):∀ (s:σ),I s→loopX f s=some (g s):=by
 have key:∀ (n:Nat) (s:σ),m s≤n→I s→loopX f s=some (g s):=by
  intro n
  induction n with
  | zero =>
   intro s hn hs
   rw [loopX_eq]
   rcases h s hs with h1 | ⟨s',h1,h2,h3,h4⟩
   ·rw [h1]
   ·omega
  | succ n ih =>
   intro s hn hs
   rw [loopX_eq]
   rcases h s hs with h1 | ⟨s',h1,h2,h3,h4⟩
   ·rw [h1]
   ·rw [h1]
    simp only
    rw [ih s' (by omega) h2,h4]
 exact fun s hs=>key (m s) s (Nat.le_refl _) hs
theorem loop_all {ρ:Type} {f:Int→Option (Int ⊕ ρ)} {n:Nat} (ok:Nat→Bool) (bad good:ρ) (hend:f (n:Int)=some (.inr good))
  (hstep:∀ i:Nat,i < n→(∀ j,j < i→ok j=true)→f (i:Int)=if ok i=true then some (.inl ((i+1:Nat):Int)) else some (.inr bad)) :
  loopX f (0:Int)=some (if (List.range n).all ok=true then good else bad):=by
 classical
 have key:∀ i:Nat,i≤n→(∀ j,j < i→ok j=true)→loopX f (i:Int)=some (if ∀ j,i≤j→j < n→ok j=true then good else bad):=by
  intro i hi
  generalize hd:n - i=d
  induction d generalizing i with
  | zero =>
   intro ha
   have:i=n:=by omega
   subst this
   rw [loopX_eq,hend,if_pos (fun j h1 h2=>by omega)]
  | succ d ih =>
   intro ha
   rw [loopX_eq,hstep i (by omega) ha]
   by_cases h:ok i=true
   ·rw [if_pos h]
    simp only
    rw [ih (i+1) (by omega) (by omega) (fun j hj=>by
     rcases Nat.lt_or_eq_of_le (Nat.le_of_lt_succ hj) with h1 | h1
     ·exact ha j h1
     ·rw [h1]; exact h)]
    have e:(∀ j,i+1≤j→j < n→ok j=true) ↔ (∀ j,i≤j→j < n→ok j=true):=by
     constructor
     ·intro q j h1 h2
      rcases Nat.lt_or_eq_of_le h1 with h3 | h3
      ·exact q j h3 h2
      ·rw [← h3]; exact h
     ·intro q j h1 h2; exact q j (by omega) h2
    by_cases hq:∀ j,i≤j→j < n→ok j=true
    ·rw [if_pos hq,if_pos (e.2 hq)]
    ·rw [if_neg hq,if_neg (fun q=>hq (e.1 q))]
   ·rw [if_neg h]
    simp only
    rw [if_neg (fun q=>h (q i (Nat.le_refl _) (by omega)))]
 have:=key 0 (Nat.zero_le _) (fun j hj=>by omega)
 have e0:((0:Nat):Int)=0:=rfl
 rw [e0] at this
 rw [this]
 congr 1
 have e:(∀ j,0≤j→j < n→ok j=true) ↔ (List.range n).all ok=true:=by simp [List.all_eq_true]
 by_cases h:(List.range n).all ok=true
 ·rw [if_pos h,if_pos (e.2 h)]
 ·rw [if_neg h,if_neg (fun q=>h (e.1 q))]
theorem xs:(∀ {α:Type} (a b:α),cond true a b=a)∧(∀ {α:Type} (a b:α),cond false a b=b)∧(∀ {α β:Type} (a:α) (f:α→Option β),(some a).bind f=f a)∧(∀ {α β:Type} (a:α) (f:α→β),(some a).map f=some (f a)) ∧
 (∀ {α R:Type} (v:α) (k:α→Option R),joinX (some (.inl v)) k=k v)∧(∀ {α R:Type} (r:R) (k:α→Option R),joinX (some (.inr r)) k=some r)∧(∀ (h:Decidable True),@decide True h=true)∧(∀ (h:Decidable False),@decide False h=false)∧((!true)=false)∧((!false)=true)∧(∀ b:Bool,(b&&true)=b)∧(∀ b:Bool,(true&&b)=b)∧(∀ b:Bool,(b&&b)=b)∧(∀ b:Bool,(false&&b)=false)∧(∀ b:Bool,(b&&false)=false)∧(∀ b:Bool,(true || b)=true)∧(∀ b:Bool,(b || true)=true)∧(∀ b:Bool,(false || b)=b)∧(∀ b:Bool,(b || false)=b)∧(∀ {α:Type} (a b:List α),Append.append a b=a++b)∧(∀ {α:Type} (a b:List α),(a++b).length=a.length+b.length)∧(∀ {α:Type} (a:α) (b:List α),(a::b).length=b.length+1)∧(∀ {α:Type},([]:List α).length=0)∧(∀ n:Nat,0+n=n)∧(∀ n:Nat,n+0=n)∧(∀ n:Nat,((n:Int)).toNat=n)∧(∀ n:Nat,(n≤n)=True)∧(∀ n:Int,(n≤n)=True)∧(∀ {α:Type} (a:List α),a.take a.length=a)∧(∀ {α:Type} (a b:α),(some a).getD b=a)∧(∀ {α:Type} (b:α),(none:Option α).getD b=b)∧(∀ {α:Type} (a b:α),(if True then a else b)=a)∧(∀ {α:Type} (a b:α),(if False then a else b)=b)∧((false=true)=False)∧((true=false)=False):=by
 refine ⟨fun _ _=>rfl,fun _ _=>rfl,fun _ _=>rfl,fun _ _=>rfl,fun _ _=>rfl,fun _ _=>rfl,fun _=>by simp,fun _=>by simp,rfl,rfl,?_,?_,?_,?_,?_,?_,?_,?_,?_,fun _ _=>rfl,fun _ _=>List.length_append,fun _ _=>rfl,rfl,Nat.zero_add,fun _=>rfl,fun _=>rfl,fun _=>eq_true (Nat.le_refl _),fun _=>eq_true (Int.le_refl _),fun _=>List.take_length,fun _ _=>rfl,fun _=>rfl,fun _ _=>by simp,fun _ _=>by simp,by simp,by simp⟩<;>(intro b; cases b<;>rfl)
end Go.Proofs.Ytgbcankkfmhcoaa.VL
end
section
namespace Go.Proofs.Ytgbcankkfmhcoaa.VL
open Go
set_option linter.unusedVariables false
set_option linter.unusedSectionVars false
set_option linter.unusedSimpArgs false
theorem bl_tri:∀ x y:List UInt8,Op.bytesLess x y=true∨x=y∨Op.bytesLess y x=true
 | [],[]=>.inr (.inl rfl)
 | [],_::_=>.inl rfl
 | _::_,[]=>.inr (.inr rfl)
 | a::x,b::y=>by
  simp only [Op.bytesLess,Bool.or_eq_true,decide_eq_true_eq,Bool.and_eq_true,beq_iff_eq,List.cons.injEq]
  rcases Nat.lt_trichotomy a.toNat b.toNat with h | h | h
  ·left; left; rw [UInt8.lt_iff_toNat_lt]; exact h
  ·have h:=UInt8.toNat_inj.1 h
   subst h
   rcases bl_tri x y with h | h | h
   ·exact .inl (.inr ⟨rfl,h⟩)
   ·exact .inr (.inl ⟨rfl,h⟩)
   ·exact .inr (.inr (.inr ⟨rfl,h⟩))
  ·right; right; left; rw [UInt8.lt_iff_toNat_lt]; exact h
theorem toList_loop (s:ByteArray):∀ (n i:Nat) (r:List UInt8),s.size - i=n→i≤s.size→ByteArray.toList.loop s i r=r.reverse++(s.data.toList.drop i):=by
 intro n
 induction n with
 | zero =>
  intro i r h hi
  have:i=s.size:=by omega
  unfold ByteArray.toList.loop
  rw [if_neg (by omega),List.drop_eq_nil_of_le (by rw [Array.length_toList]; show s.size≤i; omega),List.append_nil]
 | succ n ih =>
  intro i r h hi
  unfold ByteArray.toList.loop
  rw [if_pos (by omega),ih (i+1) _ (by omega) (by omega)]
  have hlt:i < s.data.toList.length:=by rw [Array.length_toList]; show i < s.size; omega
  have e:s.get! i=s.data.toList[i]:=by
   show s.data[i]! = _
   rw [getElem!_pos s.data i (by rw [Array.length_toList] at hlt; exact hlt)]
   simp
  rw [List.reverse_cons,List.append_assoc,List.singleton_append,e,List.drop_eq_getElem_cons hlt]
theorem toList_data (s:ByteArray):s.toList=s.data.toList:=by
 have:=toList_loop s (s.size - 0) 0 [] rfl (Nat.zero_le _)
 unfold ByteArray.toList
 rw [this]; simp
theorem toList_inj {a b:ByteArray} (h:a.toList=b.toList):a=b:=by
 rw [toList_data,toList_data] at h
 cases a; cases b
 simp only [ByteArray.mk.injEq]
 exact Array.toList_inj.1 h
theorem toList_len (s:ByteArray):s.toList.length=s.size:=by rw [toList_data,Array.length_toList]; rfl
theorem toList_nil (s:ByteArray):(s.toList==(ByteArray.mk #[]).toList)=decide (s.size=0):=by
 have h0:(ByteArray.mk #[]).toList=[]:=by rw [toList_data]
 rw [h0,Bool.eq_iff_iff,beq_iff_eq,decide_eq_true_iff,← toList_len]
 exact List.length_eq_zero_iff.symm
theorem ba_get {s:ByteArray} {i:Nat} (h:i < s.size):s[(Int.toNat (i:Int))]?=some (s.get! i):=by
 rw [Int.toNat_natCast]
 have e:s.get! i=s[i]'h:=by
  show s.data[i]! = _
  rw [getElem!_pos s.data i h]
  first | done | rfl
 rw [e]
 exact getElem?_pos s i h
variable [Val]
def okB (n:Nat):Bool:=(decide (97≤n)&&decide (n≤122)) || ((decide (48≤n)&&decide (n≤57)) || decide (n=45))
def nmB (s:ByteArray):Bool:=(List.range s.size).all (fun i=>okB (s.get! i).toNat)&&(decide (1≤s.size)&&decide (s.size≤20))
theorem rune_cond (n:Nat) {R:Type} (a b:Option R):(Option.bind (cond (decide ((97:Int)≤(n:Int))) (cond (decide ((n:Int)≤(122:Int))) (some false) (cond (decide ((48:Int)≤(n:Int))) (cond (decide ((n:Int)≤(57:Int))) (some false) (some (!((n:Int)==(45:Int))))) (some (!((n:Int)==(45:Int)))))) (cond (decide ((48:Int)≤(n:Int))) (cond (decide ((n:Int)≤(57:Int))) (some false) (some (!((n:Int)==(45:Int))))) (some (!((n:Int)==(45:Int)))))) (fun (v1:Bool)=>cond v1 a b))=if okB n=true then b else a:=by
 have e45:((n:Int)==(45:Int))=decide (n=45):=by rw [Bool.eq_iff_iff,beq_iff_eq,decide_eq_true_iff]; omega
 have e1:decide ((97:Int)≤(n:Int))=decide (97≤n):=by rw [Bool.eq_iff_iff,decide_eq_true_iff,decide_eq_true_iff]; omega
 have e2:decide ((n:Int)≤(122:Int))=decide (n≤122):=by rw [Bool.eq_iff_iff,decide_eq_true_iff,decide_eq_true_iff]; omega
 have e3:decide ((48:Int)≤(n:Int))=decide (48≤n):=by rw [Bool.eq_iff_iff,decide_eq_true_iff,decide_eq_true_iff]; omega
 have e4:decide ((n:Int)≤(57:Int))=decide (n≤57):=by rw [Bool.eq_iff_iff,decide_eq_true_iff,decide_eq_true_iff]; omega
 rw [e45,e1,e2,e3,e4]
 unfold okB
 cases decide (97≤n)<;>cases decide (n≤122)<;>cases decide (48≤n)<;>cases decide (n≤57)<;>cases decide (n=45)<;>rfl
theorem runes_loop {s:ByteArray} {f:ByteArray×Nat→Option ((ByteArray×Nat) ⊕ (Unit ⊕ Bool))}
  (hend:∀ pos,s.size≤pos→f (s,pos)=some (.inr (.inl ()))) (hstep:∀ pos,pos < s.size→f (s,pos)=if okB (Utf8.decode s pos).1=true then some (.inl (s,pos+(Utf8.decode s pos).2)) else some (.inr (.inr false))) :
  loopX f (s,0)=some (if (List.range s.size).all (fun i=>okB (s.get! i).toNat)=true then .inl () else .inr false):=by
 classical
 have gm:∀ i (h:i < s.size),s.get! i=s[i]'h:=by
  intro i h
  show s.data[i]! = _
  rw [getElem!_pos s.data i h]; rfl
 have:=loopX_spec (f:=f) (fun x=>x.1=s∧∀ j,j < x.2→j < s.size→okB (s.get! j).toNat=true) (fun x=>s.size - x.2) (fun x=>if ∀ j,x.2≤j→j < s.size→okB (s.get! j).toNat=true then .inl () else .inr false) ?_ (s,0) ⟨rfl,fun j hj=>by simp at hj⟩
 ·rw [this]
  have e:(∀ j,0≤j→j < s.size→okB (s.get! j).toNat=true) ↔ (List.range s.size).all (fun i=>okB (s.get! i).toNat)=true:=by simp [List.all_eq_true]
  congr 1
  by_cases h:(List.range s.size).all (fun i=>okB (s.get! i).toNat)=true
  ·rw [if_pos h,if_pos (e.2 h)]
  ·rw [if_neg h,if_neg (fun q=>h (e.1 q))]
 ·rintro ⟨s',pos⟩ ⟨h1,h2⟩
  simp only at h1 h2 ⊢
  subst h1
  by_cases hp:s'.size≤pos
  ·left
   rw [hend pos hp,if_pos (fun j q1 q2=>by omega)]
  ·have hlt:pos < s'.size:=by omega
   rw [hstep pos hlt]
   by_cases ha:(s'[pos]'hlt).toNat < 128
   ·have hd:=decode_ascii s' pos hlt ha
    rw [hd]
    simp only
    rw [← gm pos hlt]
    by_cases hok:okB (s'.get! pos).toNat=true
    ·rw [if_pos hok]
     right
     refine ⟨_,rfl,⟨rfl,fun j hj hj2=>?_⟩,by simp only; omega,?_⟩
     ·rcases Nat.lt_or_eq_of_le (Nat.le_of_lt_succ hj) with q | q
      ·exact h2 j q hj2
      ·rw [q]; exact hok
     ·simp only
      have e:(∀ j,pos+1≤j→j < s'.size→okB (s'.get! j).toNat=true) ↔ (∀ j,pos≤j→j < s'.size→okB (s'.get! j).toNat=true):=by
       constructor
       ·intro q j h1 h2
        rcases Nat.lt_or_eq_of_le h1 with h3 | h3
        ·exact q j h3 h2
        ·rw [← h3]; exact hok
       ·intro q j h1 h2; exact q j (by omega) h2
      by_cases hq:∀ j,pos≤j→j < s'.size→okB (s'.get! j).toNat=true
      ·rw [if_pos hq,if_pos (e.2 hq)]
      ·rw [if_neg hq,if_neg (fun q=>hq (e.1 q))]
    ·rw [if_neg hok]
     left
     rw [if_neg (fun q=>hok (q pos (Nat.le_refl _) hlt))]
   ·have hd:=decode_high s' pos hlt (by omega)
    have hbad:∀ n,128≤n→okB n=false:=by
     intro n hn
     unfold okB
     have a1:decide (n≤122)=false:=by rw [decide_eq_false_iff_not]; omega
     have a2:decide (n≤57)=false:=by rw [decide_eq_false_iff_not]; omega
     have a3:decide (n=45)=false:=by rw [decide_eq_false_iff_not]; omega
     rw [a1,a2,a3]
     cases decide (97≤n)<;>cases decide (48≤n)<;>rfl
    rw [hbad _ hd.1]
    left
    rw [if_neg (by simp),if_neg]
    intro q
    have:=q pos (Nat.le_refl _) hlt
    rw [gm pos hlt,hbad _ (by omega)] at this
    cases this
end Go.Proofs.Ytgbcankkfmhcoaa.VL
end
section
namespace Go.Proofs.Ytgbcankkfmhcoaa.VL
open Go
set_option linter.unusedVariables false
set_option linter.unusedSectionVars false
set_option linter.unusedSimpArgs false
structure KOrd (κ:Type) where
 lt:κ→κ→Bool
 irr:∀ a,lt a a=false
 trn:∀ a b c,lt a b=true→lt b c=true→lt a c=true
 tri:∀ a b,lt a b=true∨a=b∨lt b a=true
namespace KOrd
variable {κ α:Type} (O:KOrd κ) (key:α→κ)
def Srt (l:List α):Prop:=l.Pairwise (fun a b=>O.lt (key a) (key b)=true)
def plc (l:List α) (k:κ):Nat:=l.countP (fun x=>O.lt (key x) k)
def put (l:List α) (x:α):List α:=l.filter (fun y=>O.lt (key y) (key x))++x::l.filter (fun y=>O.lt (key x) (key y))
variable {O key}
theorem Srt.tail {a:α} {l:List α} (h:O.Srt key (a::l)):O.Srt key l:=(List.pairwise_cons.1 h).2
theorem Srt.head {a:α} {l:List α} (h:O.Srt key (a::l)):∀ b ∈ l,O.lt (key a) (key b)=true:=(List.pairwise_cons.1 h).1
theorem split {l:List α} (hs:O.Srt key l) (k:κ):l.take (O.plc key l k)=l.filter (fun y=>O.lt (key y) k)∧l.drop (O.plc key l k)=l.filter (fun y=>!O.lt (key y) k):=by
 induction l with
 | nil=>exact ⟨rfl,rfl⟩
 | cons a l ih =>
  obtain ⟨i1,i2⟩:=ih hs.tail
  cases h:O.lt (key a) k with
  | true =>
   have e:O.plc key (a::l) k=O.plc key l k+1:=by unfold plc; simp [List.countP_cons,h]
   rw [e,List.take_succ_cons,List.drop_succ_cons,i1,i2]
   constructor<;>simp [h]
  | false =>
   have hall:∀ b ∈ l,O.lt (key b) k=false:=by
    intro b hb
    rw [Bool.eq_false_iff]; intro hk
    have:=O.trn _ _ _ (hs.head b hb) hk
    rw [h] at this; cases this
   have e:O.plc key (a::l) k=0:=by
    unfold plc
    simp only [List.countP_cons,h,Bool.false_eq_true,if_false,Nat.add_zero,List.countP_eq_zero]
    intro b hb; rw [hall b hb]; decide
   have f1:(a::l).filter (fun y=>O.lt (key y) k)=l.filter (fun y=>O.lt (key y) k):=by simp [h]
   have f2:(a::l).filter (fun y=>!O.lt (key y) k)=a::l.filter (fun y=>!O.lt (key y) k):=by simp [h]
   rw [e,List.take_zero,List.drop_zero,f1,f2]
   refine ⟨?_,?_⟩
   ·symm; rw [List.filter_eq_nil_iff]; intro b hb; rw [hall b hb]; decide
   ·rw [List.filter_eq_self.2]; intro b hb; rw [hall b hb]; rfl
end KOrd
end Go.Proofs.Ytgbcankkfmhcoaa.VL
end
section
namespace Go.Proofs.Ytgbcankkfmhcoaa.VL
open Go
set_option linter.unusedVariables false
set_option linter.unusedSectionVars false
set_option linter.unusedSimpArgs false
def ltN (a b:ByteArray):Bool:=Op.bytesLess a.toList b.toList
theorem tri (a b:ByteArray):ltN a b=true∨a=b∨ltN b a=true:=by
 rcases bl_tri a.toList b.toList with h | h | h
 ·exact .inl h
 ·exact .inr (.inl (toList_inj h))
 ·exact .inr (.inr h)
variable [Val]
theorem not_lt_self (n:Nat):¬ ((n:Nat):Int) < ((n:Nat):Int):=by omega
theorem w1 {i:Nat} (h:i≤9223372036854775806):IntKind.wrap .i64 ((i:Int)+1)=((i+1:Nat):Int):=by rw [wi (by omega) (by omega)]; omega
theorem dlt (a b:Int):decide (a < b)=!decide (b≤a):=by rw [Bool.eq_iff_iff,Bool.not_eq_true',decide_eq_true_iff,decide_eq_false_iff_not]; omega
theorem dgt (a b:Int):decide (a > b)=!decide (a≤b):=by rw [Bool.eq_iff_iff,Bool.not_eq_true',decide_eq_true_iff,decide_eq_false_iff_not]; omega
theorem nz0:((0:Int) != 0)=false:=rfl
theorem nz1:((1:Int) != 0)=true:=rfl
theorem eqq (b:Bool):((if b=true then (0:Int) else 1)==0)=b:=by cases b<;>rfl
theorem neq1 (b:Bool):((if b=true then (0:Int) else 1) != 0)=!b:=by cases b<;>rfl
theorem loop_detE {σ ρ:Type} {f:σ→Option (σ ⊕ ρ)} {s0:σ} (n:Nat) (st:Nat→σ) (r:ρ) (h0:s0=st 0) (hend:f (st n)=some (.inr r)) (hstep:∀ i,i < n→f (st i)=some (.inl (st (i+1)))):loopX f s0=some r:=by
 have key:∀ d i,n - i=d→i≤n→loopX f (st i)=some r:=by
  intro d
  induction d with
  | zero =>
   intro i h1 h2
   have:i=n:=by omega
   subst this; rw [loopX_eq,hend]
  | succ d ih=>intro i h1 h2; rw [loopX_eq,hstep i (by omega)]; exact ih (i+1) (by omega) (by omega)
 rw [h0]; exact key n 0 (by omega) (Nat.zero_le _)
theorem loop_list {α ρ:Type} {f:Int→Option (Int ⊕ ρ)} {s0:Int} (l:List α) (ok:α→Bool) (bad good:ρ) (h0:s0=0) (hend:f (l.length:Int)=some (.inr good))
  (hstep:∀ (i:Nat) (x:α),i < l.length→l[i]?=some x→f (i:Int)=if ok x=true then some (.inl ((i+1:Nat):Int)) else some (.inr bad)) :
  loopX f s0=some (if l.all ok=true then good else bad):=by
 subst h0
 rw [loop_all (n:=l.length) (fun i=>match l[i]? with | some x=>ok x | none=>true) bad good hend ?_]
 ·congr 2
  rw [eq_iff_iff,List.all_eq_true,List.all_eq_true]
  constructor
  ·intro h x hx
   obtain ⟨i,hi,rfl⟩:=List.getElem_of_mem hx
   have:=h i (List.mem_range.2 hi)
   rw [List.getElem?_eq_getElem hi] at this; exact this
  ·intro h i hi
   have hi:=List.mem_range.1 hi
   rw [List.getElem?_eq_getElem hi]; exact h _ (List.getElem_mem hi)
 ·intro i hi _
  rw [hstep i l[i] hi (List.getElem?_eq_getElem hi),List.getElem?_eq_getElem hi]
theorem loop_first {α ρ:Type} {f:Int→Option (Int ⊕ ρ)} {s0:Int} (l:List α) (p:α→Bool) (g:Nat→ρ) (no:ρ) (h0:s0=0) (hend:f (l.length:Int)=some (.inr no))
  (hstep:∀ (i:Nat) (x:α),i < l.length→l[i]?=some x→f (i:Int)=if p x=true then some (.inr (g i)) else some (.inl ((i+1:Nat):Int))) :
  loopX f s0=some (if l.any p=true then g (l.findIdx p) else no):=by
 subst h0
 have key:∀ d i,l.length - i=d→i≤l.length→(∀ j x,j < i→l[j]?=some x→p x=false)→loopX f (i:Int)=some (if l.any p=true then g (l.findIdx p) else no):=by
  intro d
  induction d with
  | zero =>
   intro i h1 h2 h3
   have:i=l.length:=by omega
   subst this
   rw [loopX_eq,hend,if_neg]
   rw [Bool.not_eq_true,List.any_eq_false]
   intro x hx
   obtain ⟨j,hj,rfl⟩:=List.getElem_of_mem hx
   rw [h3 j _ hj (List.getElem?_eq_getElem hj)]; decide
  | succ d ih =>
   intro i h1 h2 h3
   have hi:i < l.length:=by omega
   rw [loopX_eq,hstep i l[i] hi (List.getElem?_eq_getElem hi)]
   by_cases hp:p l[i]=true
   ·rw [if_pos hp]
    have ha:l.any p=true:=List.any_eq_true.2 ⟨_,List.getElem_mem hi,hp⟩
    have hf:l.findIdx p=i:=by
     refine (List.findIdx_eq hi).2 ⟨hp,fun j hj=>?_⟩
     exact h3 j _ hj (List.getElem?_eq_getElem (by omega))
    rw [if_pos ha,hf]
   ·rw [if_neg hp]
    simp only
    refine ih (i+1) (by omega) (by omega) fun j x hj hx=>?_
    rcases Nat.lt_or_eq_of_le (Nat.le_of_lt_succ hj) with q | q
    ·exact h3 j x q hx
    ·subst q
     rw [List.getElem?_eq_getElem hi] at hx
     cases hx
     exact Bool.eq_false_iff.2 hp
 exact key l.length 0 (by omega) (Nat.zero_le _) fun j x hj=>by omega
theorem loop_same {α:Type} [DecidableEq α] {f:Int→Option (Int ⊕ Bool)} {s0:Int} (a b:List α) (hl:a.length=b.length) (h0:s0=0) (hend:f (a.length:Int)=some (.inr true))
  (hstep:∀ (i:Nat) (x y:α),i < a.length→a[i]?=some x→b[i]?=some y→f (i:Int)=if x=y then some (.inl ((i+1:Nat):Int)) else some (.inr false)) :
  loopX f s0=some (decide (a=b)):=by
 have:=loop_list (f:=f) (s0:=s0) (a.zip b) (fun p=>decide (p.1=p.2)) false true h0 (by rw [List.length_zip,← hl,Nat.min_self]; exact hend) (fun i p hi hp=>by
  have hi:i < a.length:=by rw [List.length_zip,← hl,Nat.min_self] at hi; exact hi
  rw [List.getElem?_zip_eq_some] at hp
  rw [hstep i p.1 p.2 hi hp.1 hp.2]
  by_cases he:p.1=p.2<;>simp [he])
 rw [this]
 congr 1
 rw [Bool.eq_iff_iff,decide_eq_true_iff]
 have e:((a.zip b).all fun p=>decide (p.1=p.2))=true ↔ a=b:=by
  rw [List.all_eq_true]
  constructor
  ·intro h
   refine List.ext_getElem hl fun i h1 h2=>?_
   have:=h (a[i],b[i]) (by rw [List.mem_iff_getElem?]; exact ⟨i,by rw [List.getElem?_zip_eq_some]; exact ⟨List.getElem?_eq_getElem h1,List.getElem?_eq_getElem h2⟩⟩)
   simpa using this
  ·rintro rfl p hp
   rw [List.mem_iff_getElem?] at hp
   obtain ⟨i,hi⟩:=hp
   rw [List.getElem?_zip_eq_some] at hi
   have:=hi.1.symm.trans hi.2
   simpa using this
 by_cases h:((a.zip b).all fun p=>decide (p.1=p.2))=true
 ·rw [if_pos h]; simp [e.1 h]
 ·rw [if_neg h]; simp; exact fun q=>h (e.2 q)
end Go.Proofs.Ytgbcankkfmhcoaa.VL
end
section
namespace Go.Proofs.Ytgbcankkfmhcoaa.VL
open Go
set_option linter.unusedVariables false
set_option linter.unusedSectionVars false
set_option linter.unusedSimpArgs false
set_option maxRecDepth 100000
variable [Val]
def rnd1 (c:Int):Int:=IntKind.wrap .u32 ((((BitVec.ofInt 32 (Int.fdiv c 2)).xor (BitVec.ofInt 32 (IntKind.wrap .u32 (3988292384 * (IntKind.wrap .u32 (((BitVec.ofInt 32 c).and (BitVec.ofInt 32 1)).toNat:Nat)))))).toNat:Nat))
def rnds:Nat→Int→Int
 | 0,c=>c
 | k+1,c=>rnd1 (rnds k c)
def tv (i:Nat):Int:=rnds 8 (IntKind.wrap .u32 ((i:Nat):Int))
def crcT:List Int:=(List.range 256).map tv
theorem crcT_len:crcT.length=256:=by unfold crcT; rw [List.length_map,List.length_range]
theorem F90_ok:F90 ()=some crcT:=by
 rw [F90_eq]
 rw [loop_detE (s0:=((0:Int),List.replicate 256 (0:Int))) 256 (fun i=>(((i:Nat):Int),(List.range i).map tv++List.replicate (256 - i) (0:Int))) crcT rfl]
 ·have q:¬ ((256:Nat):Int) < 256:=by omega
  have e:(List.range 256).map tv++List.replicate (256 - 256) (0:Int)=crcT:=by rw [Nat.sub_self,List.replicate_zero,List.append_nil]; rfl
  simp only [e]
  simp -implicitDefEqProofs only [q,crcT_len,eq_self,xs]
 ·intro i hi
  have q:((i:Nat):Int) < 256:=by omega
  have q0:(0:Int)≤((i:Nat):Int):=by omega
  have hl:((List.range i).map tv++List.replicate (256 - i) (0:Int)).length=256:=by rw [List.length_append,List.length_map,List.length_range,List.length_replicate]; omega
  have hset:((List.range i).map tv++List.replicate (256 - i) (0:Int)).set i (tv i)=(List.range (i+1)).map tv++List.replicate (256 - (i+1)) (0:Int):=by
   rw [List.set_append_right _ _ (by rw [List.length_map,List.length_range]; exact Nat.le_refl _),List.length_map,List.length_range,Nat.sub_self]
   rw [show 256 - i=(256 - (i+1))+1 by omega,List.replicate_succ,List.set_cons_zero,List.range_succ,List.map_append,List.append_assoc]
   rfl
  generalize (List.range i).map tv++List.replicate (256 - i) (0:Int)=A at *
  simp -implicitDefEqProofs only [q,eq_self,xs]
  rw [loop_detE (s0:=(IntKind.wrap .u32 ((i:Nat):Int),(0:Int))) 8 (fun k=>(rnds k (IntKind.wrap .u32 ((i:Nat):Int)),((k:Nat):Int))) (tv i) rfl]
  ·have r1:0+i * 1 < A.length:=by omega
   have r2:1 < A.length:=by omega
   have r3:0+i * 1=i:=by omega
   have r4:i < A.length:=by omega
   simp -implicitDefEqProofs only [q,q0,Nat.mul_one,r1,r2,r3,r4,hset,w1 (show i≤9223372036854775806 by omega),eq_self,xs]
  ·have q8:¬ ((8:Nat):Int) < 8:=by omega
   simp -implicitDefEqProofs only [q8,eq_self,xs]
   rfl
  ·intro k hk
   have q8:((k:Nat):Int) < 8:=by omega
   simp -implicitDefEqProofs only [q8,w1 (show k≤9223372036854775806 by omega),eq_self,xs]
   rfl
def idxC (c:Int) (b:UInt8):Int:=IntKind.wrap .u8 ((((BitVec.ofInt 8 (IntKind.wrap .u8 c)).xor (BitVec.ofInt 8 ((b.toNat:Nat):Int))).toNat:Nat))
theorem idxC_range (c:Int) (b:UInt8):0≤idxC c b∧idxC c b < 256:=by
 unfold idxC
 rw [IntKind.wrap_u8]; omega
def stepC (c:Int) (b:UInt8):Int:=IntKind.wrap .u32 ((((BitVec.ofInt 32 (Int.fdiv c 256)).xor (BitVec.ofInt 32 (tv (idxC c b).toNat))).toNat:Nat))
def crcL (l:List UInt8):Int:=l.foldl stepC 4294967295
def crc (l:List UInt8):Int:=IntKind.wrap .u32 ((((BitVec.ofInt 32 4294967295).xor (BitVec.ofInt 32 (crcL l))).toNat:Nat))
theorem F82_ok {s:ByteArray} (hs:s.size≤9223372036854775806):F82 s=some (crc s.toList):=by
 rw [F82_eq]
 have hl:=toList_len s
 have f90:=F90_ok
 have rl:(List.replicate 256 (0:Int)).length=256:=List.length_replicate
 simp -implicitDefEqProofs only [f90,rl,crcT_len,eq_self,xs]
 rw [loop_detE (s0:=((4294967295:Int),(0:Int))) s.size (fun i=>((s.toList.take i).foldl stepC 4294967295,((i:Nat):Int))) (crc s.toList) rfl]
 ·have q:¬ ((s.size:Nat):Int) < ((s.size:Nat):Int):=by omega
  simp -implicitDefEqProofs only [q,eq_self,xs]
  rw [List.take_of_length_le (by omega)]
  rfl
 ·intro i hi
  have q1:((i:Nat):Int) < ((s.size:Nat):Int):=by omega
  have q2:(0:Int)≤(i:Int):=by omega
  have g:s[i]?=some (s.toList[i]'(by omega)):=by
   have:=ba_get hi
   rw [Int.toNat_natCast] at this
   rw [this]
   congr 1
   have h1:i < s.data.size:=hi
   have h2:s.get! i=s.data[i]:=by
    show s.data[i]! = _
    rw [getElem!_pos s.data i h1]
   rw [h2]
   have h3:∀ (l:List UInt8) (e:l=s.data.toList) (hi:i < l.length),s.data[i]=l[i]:=by
    intro l e hi; subst e; simp
   exact h3 _ (toList_data s) _
  have e:(s.toList.take (i+1)).foldl stepC 4294967295=stepC ((s.toList.take i).foldl stepC 4294967295) (s.toList[i]'(by omega)):=by
   rw [List.take_succ_eq_append_getElem (by omega),List.foldl_append]; rfl
  rw [e]
  generalize (s.toList.take i).foldl stepC 4294967295=c at *
  generalize (s.toList[i]'(by omega))=b at *
  have hr:=idxC_range c b
  have hr1:0≤IntKind.wrap .u8 ((((BitVec.ofInt 8 (IntKind.wrap .u8 c)).xor (BitVec.ofInt 8 ((b.toNat:Nat):Int))).toNat:Nat)):=hr.1
  have hr2:IntKind.wrap .u8 ((((BitVec.ofInt 8 (IntKind.wrap .u8 c)).xor (BitVec.ofInt 8 ((b.toNat:Nat):Int))).toNat:Nat)) < 256:=hr.2
  have gt:crcT[(IntKind.wrap .u8 ((((BitVec.ofInt 8 (IntKind.wrap .u8 c)).xor (BitVec.ofInt 8 ((b.toNat:Nat):Int))).toNat:Nat))).toNat]?=some (tv (idxC c b).toNat):=by
   show crcT[(idxC c b).toNat]?=_
   unfold crcT
   rw [List.getElem?_map,List.getElem?_range (by omega)]; rfl
  simp -implicitDefEqProofs only [q1,q2,g,hr1,hr2,Nat.mul_one,gt,w1 (show i≤9223372036854775806 by omega),eq_self,xs]
  rfl
end Go.Proofs.Ytgbcankkfmhcoaa.VL
end
section
namespace Go.Proofs.Ytgbcankkfmhcoaa.VL
open Go
set_option maxRecDepth 100000
set_option linter.unusedSectionVars false
variable [Val]
def clones:List (Nat×Nat×Nat×PV):=[]
theorem clones_ok:CalleeOk Try.prog (cloneOv clones):=cloneOv_ok hm (l:=clones) trivial
abbrev fz:List Nat:=[27]
def kA:List Known:=[⟨82,[.v (.string (ByteArray.mk #[4,1,2,5,3]))],.v (.int .u32 (crc [4,1,2,5,3]))⟩,⟨82,[.v (.string (ByteArray.mk #[4]))],.v (.int .u32 (crc [4]))⟩]
theorem sum_ok (s:ByteArray) (l:List UInt8) (hl:s.toList=l) (hs:s.size≤9223372036854775806):VPure Try.prog 82 [.v (.string s)] (.v (.int .u32 (crc l))):=by
 subst hl
 exact pe82_ok.h s (crc s.toList) (F82_ok hs)
theorem kA_ok:KnownOk Try.prog kA:=⟨sum_ok _ _ (by rw [toList_data]) (show 5≤9223372036854775806 by decide),sum_ok _ _ (by rw [toList_data]) (show 1≤9223372036854775806 by decide),trivial⟩
noncomputable abbrev run0:=runR (orOv (knownOv kA) (cloneOv clones)) fz tab 1000 50
theorem awake_run:run0 17 []=.ok (vb true):=by kernel_rfl
theorem awake_ok:VPure Try.prog 17 [] (vb true):=vpure_runR hm (orOv_ok (knownOv_ok kA_ok) clones_ok) fz tab_ok 1000 50 awake_run
def F17:Unit→Option Bool:=fun _=>some true
def pe17:PE:=⟨17,.no,.v .b,F17⟩
theorem pe17_ok:pe17.ok Try.prog:=⟨rfl,rfl,rfl,rfl,rfl,fun v y h=>by cases h; exact awake_ok⟩
end Go.Proofs.Ytgbcankkfmhcoaa.VL
end
section
namespace Go.Proofs.Ytgbcankkfmhcoaa.VL
open Go
set_option maxRecDepth 100000
set_option linter.unusedVariables false
set_option linter.unusedSectionVars false
variable [Val]
noncomputable section
def xf32:FX:=⟨(.seq (.reg [⟨⟨(some 4),(.mov (.c (.v (.bool false)))),none⟩,.b,[],[]⟩]) (.seq (.seq (.reg [⟨⟨(some 6),(.mov (.t 0)),none⟩,.b,[],[]⟩,⟨⟨(some 7),(.len (.t 6)),none⟩,.b,[],[]⟩,⟨⟨(some 8),(.mov (.t 1)),none⟩,.b,[],[]⟩,⟨⟨(some 9),(.len (.t 8)),none⟩,.b,[],[]⟩,⟨⟨(some 10),(.bin .neq (.t 7) (.t 9)),none⟩,.b,[],[]⟩]) (.cond (.t 10) (.seq (.reg [⟨⟨(some 4),(.mov (.c (.v (.bool false)))),none⟩,.b,[],[]⟩]) .ret) .skip)) (.seq (.seq (.reg [⟨⟨(some 11),(.mov (.t 0)),none⟩,.b,[],[]⟩,⟨⟨(some 12),(.len (.t 11)),none⟩,.b,[],[]⟩,⟨⟨(some 13),(.mov (.c (.v (.int .i64 0)))),none⟩,.b,[],[]⟩]) (.blk 0 (.loop ⟨[4,5,13,14,15,16,17,18,19,20,21,22,23,24,25],[],⟨[],[(13,.v (.i .i64))],[]⟩⟩ (.seq (.reg [⟨⟨(some 14),(.bin .lss (.t 13) (.t 12)),none⟩,.b,[],[]⟩]) (.seq (.cond (.t 14) .skip (.exit 0)) (.seq (.blk 1 (.seq (.reg [⟨⟨(some 15),(.mov (.t 13)),none⟩,.b,[],[]⟩,⟨⟨(some 5),(.mov (.t 15)),none⟩,.b,[],[]⟩]) (.seq (.rdr [⟨⟨(some 16),(.mov (.t 0)),none⟩,.b,[],[]⟩,⟨⟨(some 17),(.mov (.t 5)),none⟩,.b,[],[]⟩,⟨⟨(some 18),(.iad 3 (.t 16) (.t 17)),none⟩,.b,[],[]⟩,⟨⟨(some 19),(.load true 3 (.t 18)),none⟩,.b,[],[]⟩,⟨⟨(some 20),(.mov (.t 1)),none⟩,.b,[],[]⟩,⟨⟨(some 21),(.mov (.t 5)),none⟩,.b,[],[]⟩,⟨⟨(some 22),(.iad 3 (.t 20) (.t 21)),none⟩,.b,[],[]⟩,⟨⟨(some 23),(.load true 3 (.t 22)),none⟩,.b,[],[]⟩,⟨⟨(some 24),(.eqA true 3 [(0,.i),(1,.i),(2,.i)] (.t 19) (.t 23)),none⟩,.b,[],[]⟩]) (.cond (.t 24) (.seq (.reg [⟨⟨(some 4),(.mov (.c (.v (.bool false)))),none⟩,.b,[],[]⟩]) .ret) .skip)))) (.reg [⟨⟨(some 25),(.bin .add (.t 13) (.c (.v (.int .i64 1)))),none⟩,.b,[],[]⟩,⟨⟨(some 13),(.mov (.t 25)),none⟩,.b,[],[]⟩]))))))) (.seq (.reg [⟨⟨(some 4),(.mov (.c (.v (.bool true)))),none⟩,.b,[],[]⟩]) .ret)))),[],26,[.t 4],1⟩
theorem xf32_ok:xf32.ok Try.prog 32:=⟨_,_,Try.func32,rfl,by kernel_rfl,rfl,by kernel_rfl,rfl,by kernel_rfl,by kernel_rfl⟩
def tb32:List PE:=[]
theorem tb32_ok:PEsOk Try.prog tb32:=trivial
def ex32:List EX:=[]
theorem ex32_ok:EXsOk Try.prog ex32:=trivial
def in32:List IN:=[]
theorem in32_ok:INsOk Try.prog in32:=trivial
def F32:DT ((.co (.v (.sl (.p (.i .i64) (.p (.i .u64) (.i .i64))))) (.co (.v (.sl (.p (.i .i64) (.p (.i .u64) (.i .i64))))) .no)):Fm).den→Option (DT (.v .b:Fm).den):=pureT tb32 ex32 in32 0 xf32 _ _ []
def pe32:PE:=⟨32,(.co (.v (.sl (.p (.i .i64) (.p (.i .u64) (.i .i64))))) (.co (.v (.sl (.p (.i .i64) (.p (.i .u64) (.i .i64))))) .no)),.v .b,F32⟩
theorem pe32_ok:pe32.ok Try.prog:=pe_of hm tb32_ok ex32_ok in32_ok xf32_ok (by kernel_rfl) (fun _=>rfl)
def xf33:FX:=⟨(.seq (.reg [⟨⟨(some 4),(.mov (.c (.v (.bool false)))),none⟩,.b,[],[]⟩]) (.seq (.seq (.reg [⟨⟨(some 6),(.mov (.t 0)),none⟩,.b,[],[]⟩,⟨⟨(some 7),(.len (.t 6)),none⟩,.b,[],[]⟩,⟨⟨(some 8),(.mov (.t 1)),none⟩,.b,[],[]⟩,⟨⟨(some 9),(.len (.t 8)),none⟩,.b,[],[]⟩,⟨⟨(some 10),(.bin .neq (.t 7) (.t 9)),none⟩,.b,[],[]⟩]) (.cond (.t 10) (.seq (.reg [⟨⟨(some 4),(.mov (.c (.v (.bool false)))),none⟩,.b,[],[]⟩]) .ret) .skip)) (.seq (.seq (.reg [⟨⟨(some 11),(.mov (.t 0)),none⟩,.b,[],[]⟩,⟨⟨(some 12),(.len (.t 11)),none⟩,.b,[],[]⟩,⟨⟨(some 13),(.mov (.c (.v (.int .i64 0)))),none⟩,.b,[],[]⟩]) (.blk 0 (.loop ⟨[4,5,13,14,15,16,17,18,19,20,21,22,23,24,25],[],⟨[],[(13,.v (.i .i64))],[]⟩⟩ (.seq (.reg [⟨⟨(some 14),(.bin .lss (.t 13) (.t 12)),none⟩,.b,[],[]⟩]) (.seq (.cond (.t 14) .skip (.exit 0)) (.seq (.blk 1 (.seq (.reg [⟨⟨(some 15),(.mov (.t 13)),none⟩,.b,[],[]⟩,⟨⟨(some 5),(.mov (.t 15)),none⟩,.b,[],[]⟩]) (.seq (.rdr [⟨⟨(some 16),(.mov (.t 0)),none⟩,.b,[],[]⟩,⟨⟨(some 17),(.mov (.t 5)),none⟩,.b,[],[]⟩,⟨⟨(some 18),(.iad 2 (.t 16) (.t 17)),none⟩,.b,[],[]⟩,⟨⟨(some 19),(.load true 2 (.t 18)),none⟩,.b,[],[]⟩,⟨⟨(some 20),(.mov (.t 1)),none⟩,.b,[],[]⟩,⟨⟨(some 21),(.mov (.t 5)),none⟩,.b,[],[]⟩,⟨⟨(some 22),(.iad 2 (.t 20) (.t 21)),none⟩,.b,[],[]⟩,⟨⟨(some 23),(.load true 2 (.t 22)),none⟩,.b,[],[]⟩,⟨⟨(some 24),(.eqA true 2 [(0,.i),(1,.i)] (.t 19) (.t 23)),none⟩,.b,[],[]⟩]) (.cond (.t 24) (.seq (.reg [⟨⟨(some 4),(.mov (.c (.v (.bool false)))),none⟩,.b,[],[]⟩]) .ret) .skip)))) (.reg [⟨⟨(some 25),(.bin .add (.t 13) (.c (.v (.int .i64 1)))),none⟩,.b,[],[]⟩,⟨⟨(some 13),(.mov (.t 25)),none⟩,.b,[],[]⟩]))))))) (.seq (.reg [⟨⟨(some 4),(.mov (.c (.v (.bool true)))),none⟩,.b,[],[]⟩]) .ret)))),[],26,[.t 4],1⟩
theorem xf33_ok:xf33.ok Try.prog 33:=⟨_,_,Try.func33,rfl,by kernel_rfl,rfl,by kernel_rfl,rfl,by kernel_rfl,by kernel_rfl⟩
def tb33:List PE:=[]
theorem tb33_ok:PEsOk Try.prog tb33:=trivial
def ex33:List EX:=[]
theorem ex33_ok:EXsOk Try.prog ex33:=trivial
def in33:List IN:=[]
theorem in33_ok:INsOk Try.prog in33:=trivial
def F33:DT ((.co (.v (.sl (.p (.i .u64) (.i .i64)))) (.co (.v (.sl (.p (.i .u64) (.i .i64)))) .no)):Fm).den→Option (DT (.v .b:Fm).den):=pureT tb33 ex33 in33 0 xf33 _ _ []
def pe33:PE:=⟨33,(.co (.v (.sl (.p (.i .u64) (.i .i64)))) (.co (.v (.sl (.p (.i .u64) (.i .i64)))) .no)),.v .b,F33⟩
theorem pe33_ok:pe33.ok Try.prog:=pe_of hm tb33_ok ex33_ok in33_ok xf33_ok (by kernel_rfl) (fun _=>rfl)
def xf13:FX:=⟨(.seq (.reg [⟨⟨(some 2),(.box 0 15 (.t 0)),none⟩,.b,[],[]⟩,⟨⟨(some 3),(.box 1 15 (.t 1)),none⟩,.b,[],[]⟩,⟨⟨(some 4),(.mov (.c (.v (.bool false)))),none⟩,.b,[],[]⟩]) (.seq (.reg [⟨⟨(some 5),(.fad 0 (.t 2)),none⟩,.b,[],[]⟩,⟨⟨(some 6),(.load false 1 (.t 5)),none⟩,.b,[],[]⟩,⟨⟨(some 7),(.fad 0 (.t 3)),none⟩,.b,[],[]⟩,⟨⟨(some 8),(.load false 1 (.t 7)),none⟩,.b,[],[]⟩,⟨⟨(some 9),(.bin .eql (.t 6) (.t 8)),none⟩,.b,[],[]⟩,⟨⟨(some 10),(.mov (.t 9)),none⟩,.b,[],[]⟩,⟨⟨(some 11),(.fad 1 (.t 2)),(some (10,true))⟩,.b,[],[]⟩,⟨⟨(some 12),(.load false 1 (.t 11)),(some (10,true))⟩,.b,[],[]⟩,⟨⟨(some 13),(.fad 1 (.t 3)),(some (10,true))⟩,.b,[],[]⟩,⟨⟨(some 14),(.load false 1 (.t 13)),(some (10,true))⟩,.b,[],[]⟩,⟨⟨(some 15),(.bin .eql (.t 12) (.t 14)),(some (10,true))⟩,.b,[],[]⟩,⟨⟨(some 16),(.pick (.t 10) (.t 15) (.c (.v (.bool false)))),none⟩,.b,[],[]⟩,⟨⟨(some 17),(.mov (.t 16)),none⟩,.b,[],[]⟩,⟨⟨(some 18),(.fad 2 (.t 2)),(some (17,true))⟩,.b,[],[]⟩,⟨⟨(some 19),(.load false 1 (.t 18)),(some (17,true))⟩,.b,[],[]⟩,⟨⟨(some 20),(.fad 2 (.t 3)),(some (17,true))⟩,.b,[],[]⟩,⟨⟨(some 21),(.load false 1 (.t 20)),(some (17,true))⟩,.b,[],[]⟩,⟨⟨(some 22),(.bin .eql (.t 19) (.t 21)),(some (17,true))⟩,.b,[],[]⟩,⟨⟨(some 23),(.pick (.t 17) (.t 22) (.c (.v (.bool false)))),none⟩,.b,[],[]⟩,⟨⟨(some 24),(.mov (.t 23)),none⟩,.b,[],[]⟩,⟨⟨(some 25),(.fad 3 (.t 2)),(some (24,true))⟩,.b,[],[]⟩,⟨⟨(some 26),(.load false 1 (.t 25)),(some (24,true))⟩,.b,[],[]⟩,⟨⟨(some 27),(.fad 3 (.t 3)),(some (24,true))⟩,.b,[],[]⟩,⟨⟨(some 28),(.load false 1 (.t 27)),(some (24,true))⟩,.b,[],[]⟩,⟨⟨(some 29),(.bin .eql (.t 26) (.t 28)),(some (24,true))⟩,.b,[],[]⟩,⟨⟨(some 30),(.pick (.t 24) (.t 29) (.c (.v (.bool false)))),none⟩,.b,[],[]⟩,⟨⟨(some 31),(.mov (.t 30)),none⟩,.b,[],[]⟩,⟨⟨(some 32),(.fad 4 (.t 2)),(some (31,true))⟩,.b,[],[]⟩,⟨⟨(some 33),(.load false 1 (.t 32)),(some (31,true))⟩,.b,[],[]⟩,⟨⟨(some 34),(.fad 4 (.t 3)),(some (31,true))⟩,.b,[],[]⟩,⟨⟨(some 35),(.load false 1 (.t 34)),(some (31,true))⟩,.b,[],[]⟩,⟨⟨(some 36),(.bin .eql (.t 33) (.t 35)),(some (31,true))⟩,.b,[],[]⟩,⟨⟨(some 37),(.pick (.t 31) (.t 36) (.c (.v (.bool false)))),none⟩,.b,[],[]⟩,⟨⟨(some 38),(.mov (.t 37)),none⟩,.b,[],[]⟩,⟨⟨(some 39),(.fad 5 (.t 2)),(some (38,true))⟩,.b,[],[]⟩,⟨⟨(some 40),(.load true 2 (.t 39)),(some (38,true))⟩,.b,[],[]⟩,⟨⟨(some 41),(.fad 5 (.t 3)),(some (38,true))⟩,.b,[],[]⟩,⟨⟨(some 42),(.load true 2 (.t 41)),(some (38,true))⟩,.b,[],[]⟩,⟨⟨(some 43),(.eqA false 2 [(0,.i),(1,.i)] (.t 40) (.t 42)),(some (38,true))⟩,.b,[],[]⟩,⟨⟨(some 44),(.pick (.t 38) (.t 43) (.c (.v (.bool false)))),none⟩,.b,[],[]⟩,⟨⟨(some 45),(.mov (.t 44)),none⟩,.b,[],[]⟩,⟨⟨(some 46),(.fad 7 (.t 2)),(some (45,true))⟩,.b,[],[]⟩,⟨⟨(some 47),(.load false 1 (.t 46)),(some (45,true))⟩,.b,[],[]⟩,⟨⟨(some 48),(.fad 7 (.t 3)),(some (45,true))⟩,.b,[],[]⟩,⟨⟨(some 49),(.load false 1 (.t 48)),(some (45,true))⟩,.b,[],[]⟩,⟨⟨(some 50),(.call 2 32 [(.t 47),(.t 49)]),(some (45,true))⟩,.b,[],[]⟩,⟨⟨(some 51),(.pick (.t 45) (.t 50) (.c (.v (.bool false)))),none⟩,.b,[],[]⟩,⟨⟨(some 52),(.mov (.t 51)),none⟩,.b,[],[]⟩,⟨⟨(some 53),(.fad 8 (.t 2)),(some (52,true))⟩,.b,[],[]⟩,⟨⟨(some 54),(.load false 1 (.t 53)),(some (52,true))⟩,.b,[],[]⟩,⟨⟨(some 55),(.fad 8 (.t 3)),(some (52,true))⟩,.b,[],[]⟩,⟨⟨(some 56),(.load false 1 (.t 55)),(some (52,true))⟩,.b,[],[]⟩,⟨⟨(some 57),(.call 3 33 [(.t 54),(.t 56)]),(some (52,true))⟩,.b,[],[]⟩,⟨⟨(some 58),(.pick (.t 52) (.t 57) (.c (.v (.bool false)))),none⟩,.b,[],[]⟩,⟨⟨(some 59),(.mov (.t 58)),none⟩,.b,[],[]⟩,⟨⟨(some 60),(.fad 9 (.t 2)),(some (59,true))⟩,.b,[],[]⟩,⟨⟨(some 61),(.load false 1 (.t 60)),(some (59,true))⟩,.b,[],[]⟩,⟨⟨(some 62),(.fad 9 (.t 3)),(some (59,true))⟩,.b,[],[]⟩,⟨⟨(some 63),(.load false 1 (.t 62)),(some (59,true))⟩,.b,[],[]⟩,⟨⟨(some 64),(.bin .eql (.t 61) (.t 63)),(some (59,true))⟩,.b,[],[]⟩,⟨⟨(some 65),(.pick (.t 59) (.t 64) (.c (.v (.bool false)))),none⟩,.b,[],[]⟩,⟨⟨(some 66),(.mov (.t 65)),none⟩,.b,[],[]⟩,⟨⟨(some 67),(.fad 10 (.t 2)),(some (66,true))⟩,.b,[],[]⟩,⟨⟨(some 68),(.load false 1 (.t 67)),(some (66,true))⟩,.b,[],[]⟩,⟨⟨(some 69),(.fad 10 (.t 3)),(some (66,true))⟩,.b,[],[]⟩,⟨⟨(some 70),(.load false 1 (.t 69)),(some (66,true))⟩,.b,[],[]⟩,⟨⟨(some 71),(.bin .eql (.t 68) (.t 70)),(some (66,true))⟩,.b,[],[]⟩,⟨⟨(some 72),(.pick (.t 66) (.t 71) (.c (.v (.bool false)))),none⟩,.b,[],[]⟩,⟨⟨(some 73),(.mov (.t 72)),none⟩,.b,[],[]⟩,⟨⟨(some 74),(.fad 11 (.t 2)),(some (73,true))⟩,.b,[],[]⟩,⟨⟨(some 75),(.load false 1 (.t 74)),(some (73,true))⟩,.b,[],[]⟩,⟨⟨(some 76),(.fad 11 (.t 3)),(some (73,true))⟩,.b,[],[]⟩,⟨⟨(some 77),(.load false 1 (.t 76)),(some (73,true))⟩,.b,[],[]⟩,⟨⟨(some 78),(.bin .eql (.t 75) (.t 77)),(some (73,true))⟩,.b,[],[]⟩,⟨⟨(some 79),(.pick (.t 73) (.t 78) (.c (.v (.bool false)))),none⟩,.b,[],[]⟩,⟨⟨(some 80),(.mov (.t 79)),none⟩,.b,[],[]⟩,⟨⟨(some 81),(.fad 12 (.t 2)),(some (80,true))⟩,.b,[],[]⟩,⟨⟨(some 82),(.load false 1 (.t 81)),(some (80,true))⟩,.b,[],[]⟩,⟨⟨(some 83),(.fad 12 (.t 3)),(some (80,true))⟩,.b,[],[]⟩,⟨⟨(some 84),(.load false 1 (.t 83)),(some (80,true))⟩,.b,[],[]⟩,⟨⟨(some 85),(.bin .eql (.t 82) (.t 84)),(some (80,true))⟩,.b,[],[]⟩,⟨⟨(some 86),(.pick (.t 80) (.t 85) (.c (.v (.bool false)))),none⟩,.b,[],[]⟩,⟨⟨(some 87),(.mov (.t 86)),none⟩,.b,[],[]⟩,⟨⟨(some 88),(.fad 13 (.t 2)),(some (87,true))⟩,.b,[],[]⟩,⟨⟨(some 89),(.load false 1 (.t 88)),(some (87,true))⟩,.b,[],[]⟩,⟨⟨(some 90),(.fad 13 (.t 3)),(some (87,true))⟩,.b,[],[]⟩,⟨⟨(some 91),(.load false 1 (.t 90)),(some (87,true))⟩,.b,[],[]⟩,⟨⟨(some 92),(.bin .eql (.t 89) (.t 91)),(some (87,true))⟩,.b,[],[]⟩,⟨⟨(some 93),(.pick (.t 87) (.t 92) (.c (.v (.bool false)))),none⟩,.b,[],[]⟩,⟨⟨(some 94),(.mov (.t 93)),none⟩,.b,[],[]⟩,⟨⟨(some 95),(.fad 14 (.t 2)),(some (94,true))⟩,.b,[],[]⟩,⟨⟨(some 96),(.load false 1 (.t 95)),(some (94,true))⟩,.b,[],[]⟩,⟨⟨(some 97),(.fad 14 (.t 3)),(some (94,true))⟩,.b,[],[]⟩,⟨⟨(some 98),(.load false 1 (.t 97)),(some (94,true))⟩,.b,[],[]⟩,⟨⟨(some 99),(.binB false (.t 96) (.t 98)),(some (94,true))⟩,.b,[],[]⟩,⟨⟨(some 100),(.pick (.t 94) (.t 99) (.c (.v (.bool false)))),none⟩,.b,[],[]⟩,⟨⟨(some 4),(.mov (.t 100)),none⟩,.b,[],[]⟩]) .ret)),[2,3,50,57],101,[.t 4],5⟩
theorem xf13_ok:xf13.ok Try.prog 13:=⟨_,_,Try.func13,rfl,by kernel_rfl,rfl,by kernel_rfl,rfl,by kernel_rfl,by kernel_rfl⟩
def tb13:List PE:=[pe32,pe33]
theorem tb13_ok:PEsOk Try.prog tb13:=⟨pe32_ok,pe33_ok,trivial⟩
def ex13:List EX:=[]
theorem ex13_ok:EXsOk Try.prog ex13:=trivial
def in13:List IN:=[]
theorem in13_ok:INsOk Try.prog in13:=trivial
def F13:DT ((.co (.v (.p (.i .i64) (.p (.i .i64) (.p (.i .i64) (.p (.i .u64) (.p (.i .i64) (.p (.i .u64) (.p (.i .i64) (.p (.sl (.p (.i .i64) (.p (.i .u64) (.i .i64)))) (.p (.sl (.p (.i .u64) (.i .i64))) (.p (.i .u64) (.p (.i .u64) (.p (.i .i64) (.p .s (.p (.i .u64) .b))))))))))))))) (.co (.v (.p (.i .i64) (.p (.i .i64) (.p (.i .i64) (.p (.i .u64) (.p (.i .i64) (.p (.i .u64) (.p (.i .i64) (.p (.sl (.p (.i .i64) (.p (.i .u64) (.i .i64)))) (.p (.sl (.p (.i .u64) (.i .i64))) (.p (.i .u64) (.p (.i .u64) (.p (.i .i64) (.p .s (.p (.i .u64) .b))))))))))))))) .no)):Fm).den→Option (DT (.v .b:Fm).den):=pureT tb13 ex13 in13 0 xf13 _ _ []
def pe13:PE:=⟨13,(.co (.v (.p (.i .i64) (.p (.i .i64) (.p (.i .i64) (.p (.i .u64) (.p (.i .i64) (.p (.i .u64) (.p (.i .i64) (.p (.sl (.p (.i .i64) (.p (.i .u64) (.i .i64)))) (.p (.sl (.p (.i .u64) (.i .i64))) (.p (.i .u64) (.p (.i .u64) (.p (.i .i64) (.p .s (.p (.i .u64) .b))))))))))))))) (.co (.v (.p (.i .i64) (.p (.i .i64) (.p (.i .i64) (.p (.i .u64) (.p (.i .i64) (.p (.i .u64) (.p (.i .i64) (.p (.sl (.p (.i .i64) (.p (.i .u64) (.i .i64)))) (.p (.sl (.p (.i .u64) (.i .i64))) (.p (.i .u64) (.p (.i .u64) (.p (.i .i64) (.p .s (.p (.i .u64) .b))))))))))))))) .no)),.v .b,F13⟩
theorem pe13_ok:pe13.ok Try.prog:=pe_of hm tb13_ok ex13_ok in13_ok xf13_ok (by kernel_rfl) (fun _=>rfl)
def xf47:FX:=⟨(.seq (.reg [⟨⟨(some 1),(.box 0 15 (.t 0)),none⟩,.b,[],[]⟩,⟨⟨(some 2),(.mov (.c (.v (.bool false)))),none⟩,.b,[],[]⟩]) (.seq (.reg [⟨⟨(some 2),(.mov (.c (.v (.bool true)))),none⟩,.b,[],[]⟩]) .ret)),[1],3,[.t 2],2⟩
theorem xf47_ok:xf47.ok Try.prog 47:=⟨_,_,Try.func47,rfl,by kernel_rfl,rfl,by kernel_rfl,rfl,by kernel_rfl,by kernel_rfl⟩
def tb47:List PE:=[]
theorem tb47_ok:PEsOk Try.prog tb47:=trivial
def ex47:List EX:=[]
theorem ex47_ok:EXsOk Try.prog ex47:=trivial
def in47:List IN:=[]
theorem in47_ok:INsOk Try.prog in47:=trivial
def F47:DT ((.co (.v (.p (.i .i64) (.p (.i .i64) (.p (.i .i64) (.p (.i .u64) (.p (.i .i64) (.p (.i .u64) (.p (.i .i64) (.p (.sl (.p (.i .i64) (.p (.i .u64) (.i .i64)))) (.p (.sl (.p (.i .u64) (.i .i64))) (.p (.i .u64) (.p (.i .u64) (.p (.i .i64) (.p .s (.p (.i .u64) .b))))))))))))))) .no):Fm).den→Option (DT (.v .b:Fm).den):=pureT tb47 ex47 in47 0 xf47 _ _ []
def pe47:PE:=⟨47,(.co (.v (.p (.i .i64) (.p (.i .i64) (.p (.i .i64) (.p (.i .u64) (.p (.i .i64) (.p (.i .u64) (.p (.i .i64) (.p (.sl (.p (.i .i64) (.p (.i .u64) (.i .i64)))) (.p (.sl (.p (.i .u64) (.i .i64))) (.p (.i .u64) (.p (.i .u64) (.p (.i .i64) (.p .s (.p (.i .u64) .b))))))))))))))) .no),.v .b,F47⟩
theorem pe47_ok:pe47.ok Try.prog:=pe_of hm tb47_ok ex47_ok in47_ok xf47_ok (by kernel_rfl) (fun _=>rfl)
def xf22:FX:=⟨(.seq (.reg [⟨⟨(some 2),(.mov (.c (.v (.string ⟨#[]⟩)))),none⟩,.b,[],[]⟩]) (.seq (.reg [⟨⟨(some 3),(.mov (.c (.sl true []))),none⟩,.b,[],[]⟩]) (.seq (.seq (.reg [⟨⟨(some 6),(.mov (.t 0)),none⟩,.b,[],[]⟩,⟨⟨(some 7),(.len (.t 6)),none⟩,.b,[],[]⟩,⟨⟨(some 8),(.mov (.c (.v (.int .i64 0)))),none⟩,.b,[],[]⟩]) (.blk 0 (.loop ⟨[3,5,8,9,10,11,12,13,14,15,16,17,18,19,20,21,22,23,24,25,26,27],[0,1],⟨[],[(3,.ow 0 1),(8,.v (.i .i64))],[⟨0,.rows (.i .u8) 1,false⟩]⟩⟩ (.seq (.reg [⟨⟨(some 9),(.bin .lss (.t 8) (.t 7)),none⟩,.b,[],[]⟩]) (.seq (.cond (.t 9) .skip (.exit 0)) (.seq (.cutN ⟨[3,5,10,11,12,13,14,15,16,17,18,19,20,21,22,23,24,25,26],[0,1],⟨[],[(3,.ow 0 1)],[⟨0,.rows (.i .u8) 1,false⟩]⟩⟩ (.blk 1 (.seq (.reg [⟨⟨(some 10),(.iad 1 (.t 6) (.t 8)),none⟩,.b,[],[]⟩,⟨⟨(some 11),(.load false 1 (.t 10)),none⟩,.b,[],[]⟩,⟨⟨(some 5),(.mov (.t 11)),none⟩,.b,[],[]⟩]) (.seq (.cutN ⟨[3,5,12,13,14,15,16,17,18,19,20,21],[0],⟨[],[(3,.ow 0 1),(5,.v (.i .u64))],[⟨0,.rows (.i .u8) 1,false⟩]⟩⟩ (.blk 2 (.loop ⟨[3,5,12,13,14,15,16,17,18,19,20,21],[0],⟨[],[(3,.ow 0 1),(5,.v (.i .u64))],[⟨0,.rows (.i .u8) 1,false⟩]⟩⟩ (.seq (.seq (.reg [⟨⟨(some 12),(.mov (.t 5)),none⟩,.b,[],[]⟩,⟨⟨(some 13),(.bin .gtr (.t 12) (.c (.v (.int .u64 127)))),none⟩,.b,[],[]⟩]) (.cond (.t 13) .skip (.exit 2))) (.seq (.blk 3 (.reg [⟨⟨(some 16),(.mov (.t 3)),none⟩,.b,[],[]⟩,⟨⟨(some 17),(.mov (.t 5)),none⟩,.b,[],[]⟩,⟨⟨(some 18),(.conv .u8 (.t 17)),none⟩,.b,[],[]⟩,⟨⟨(some 19),(.bin .or (.t 18) (.c (.v (.int .u8 128)))),none⟩,.b,[],[]⟩,⟨⟨(some 20),(.bsl 1 (.v (.int .u8 0)) 1 [(0,(.t 19))]),none⟩,.b,[],[]⟩,⟨⟨(some 21),(.app 0 1 1 (.v (.int .u8 0)) (.t 16) (.t 20)),none⟩,(.i .u8),[],[]⟩,⟨⟨(some 3),(.mov (.t 21)),none⟩,.b,[],[]⟩])) (.reg [⟨⟨(some 14),(.mov (.t 5)),none⟩,.b,[],[]⟩,⟨⟨(some 15),(.bin .shr (.t 14) (.c (.v (.int .u64 7)))),none⟩,.b,[],[]⟩,⟨⟨(some 5),(.mov (.t 15)),none⟩,.b,[],[]⟩])))))) (.reg [⟨⟨(some 22),(.mov (.t 3)),none⟩,.b,[],[]⟩,⟨⟨(some 23),(.mov (.t 5)),none⟩,.b,[],[]⟩,⟨⟨(some 24),(.conv .u8 (.t 23)),none⟩,.b,[],[]⟩,⟨⟨(some 25),(.bsl 1 (.v (.int .u8 0)) 1 [(0,(.t 24))]),none⟩,.b,[],[]⟩,⟨⟨(some 26),(.app 1 1 1 (.v (.int .u8 0)) (.t 22) (.t 25)),none⟩,(.i .u8),[],[]⟩,⟨⟨(some 3),(.mov (.t 26)),none⟩,.b,[],[]⟩]))))) (.reg [⟨⟨(some 27),(.bin .add (.t 8) (.c (.v (.int .i64 1)))),none⟩,.b,[],[]⟩,⟨⟨(some 8),(.mov (.t 27)),none⟩,.b,[],[]⟩]))))))) (.seq (.reg [⟨⟨(some 28),(.mov (.t 3)),none⟩,.b,[],[]⟩,⟨⟨(some 29),(.bts (.t 28)),none⟩,.b,[],[]⟩,⟨⟨(some 2),(.mov (.t 29)),none⟩,.b,[],[]⟩]) .ret)))),[21,26],30,[.t 2],3⟩
theorem xf22_ok:xf22.ok Try.prog 22:=⟨_,_,Try.func22,rfl,by kernel_rfl,rfl,by kernel_rfl,rfl,by kernel_rfl,by kernel_rfl⟩
def tb22:List PE:=[]
theorem tb22_ok:PEsOk Try.prog tb22:=trivial
def ex22:List EX:=[]
theorem ex22_ok:EXsOk Try.prog ex22:=trivial
def in22:List IN:=[]
theorem in22_ok:INsOk Try.prog in22:=trivial
def F22:DT ((.co (.v (.sl (.i .u64))) .no):Fm).den→Option (DT (.v .s:Fm).den):=pureT tb22 ex22 in22 0 xf22 _ _ []
def pe22:PE:=⟨22,(.co (.v (.sl (.i .u64))) .no),.v .s,F22⟩
theorem pe22_ok:pe22.ok Try.prog:=pe_of hm tb22_ok ex22_ok in22_ok xf22_ok (by kernel_rfl) (fun _=>rfl)
def xf85:FX:=⟨(.seq (.reg [⟨⟨(some 4),(.mov (.c (.v (.int .u64 0)))),none⟩,.b,[],[]⟩,⟨⟨(some 5),(.mov (.c (.v (.int .i64 0)))),none⟩,.b,[],[]⟩,⟨⟨(some 6),(.mov (.c (.v (.int .i64 0)))),none⟩,.b,[],[]⟩]) (.seq (.cut ⟨[4,5,6,10,11,12,13,14,15,16,17],[],⟨[],[],[]⟩⟩ (.seq (.cutN ⟨[10,11,12,13,14,15,16,17],[],⟨[],[(17,.v .b)],[]⟩⟩ (.reg [⟨⟨(some 10),(.mov (.t 1)),none⟩,.b,[],[]⟩,⟨⟨(some 11),(.bin .lss (.t 10) (.c (.v (.int .i64 0)))),none⟩,.b,[],[]⟩,⟨⟨(some 12),(.mov (.t 11)),none⟩,.b,[],[]⟩,⟨⟨(some 13),(.mov (.t 1)),(some (12,false))⟩,.b,[],[]⟩,⟨⟨(some 14),(.mov (.t 0)),(some (12,false))⟩,.b,[],[]⟩,⟨⟨(some 15),(.lenS (.t 14)),(some (12,false))⟩,.b,[],[]⟩,⟨⟨(some 16),(.bin .gtr (.t 13) (.t 15)),(some (12,false))⟩,.b,[],[]⟩,⟨⟨(some 17),(.pick (.t 12) (.c (.v (.bool true))) (.t 16)),none⟩,.b,[],[]⟩])) (.cond (.t 17) (.seq (.reg [⟨⟨(some 4),(.mov (.c (.v (.int .u64 0)))),none⟩,.b,[],[]⟩,⟨⟨(some 5),(.mov (.c (.v (.int .i64 0)))),none⟩,.b,[],[]⟩,⟨⟨(some 6),(.mov (.c (.v (.int .i64 1)))),none⟩,.b,[],[]⟩]) .ret) .skip))) (.seq (.reg [⟨⟨(some 7),(.mov (.c (.v (.int .u64 0)))),none⟩,.b,[],[]⟩]) (.seq (.seq (.reg [⟨⟨(some 18),(.mov (.t 0)),none⟩,.b,[],[]⟩,⟨⟨(some 19),(.lenS (.t 18)),none⟩,.b,[],[]⟩,⟨⟨(some 20),(.mov (.t 1)),none⟩,.b,[],[]⟩,⟨⟨(some 21),(.bin .sub (.t 19) (.t 20)),none⟩,.b,[],[]⟩,⟨⟨(some 22),(.mov (.c (.v (.int .i64 0)))),none⟩,.b,[],[]⟩]) (.blk 0 (.loop ⟨[4,5,6,7,8,9,22,23,24,25,26,27,28,29,30,31,32,33,34,35,36,37,38,39,40,41,42,43,44,45,46,47,48,49,50,51,52,53,54,55,56,57,58,59],[],⟨[],[(7,.v (.i .u64)),(22,.v (.i .i64))],[]⟩⟩ (.seq (.reg [⟨⟨(some 23),(.bin .lss (.t 22) (.t 21)),none⟩,.b,[],[]⟩]) (.seq (.cond (.t 23) .skip (.exit 0)) (.seq (.cut ⟨[4,5,6,7,8,9,24,25,26,27,28,29,30,31,32,33,34,35,36,37,38,39,40,41,42,43,44,45,46,47,48,49,50,51,52,53,54,55,56,57,58],[],⟨[],[(7,.v (.i .u64))],[]⟩⟩ (.blk 1 (.seq (.reg [⟨⟨(some 24),(.mov (.t 22)),none⟩,.b,[],[]⟩,⟨⟨(some 8),(.mov (.t 24)),none⟩,.b,[],[]⟩]) (.seq (.reg [⟨⟨(some 25),(.mov (.t 0)),none⟩,.b,[],[]⟩,⟨⟨(some 26),(.mov (.t 1)),none⟩,.b,[],[]⟩,⟨⟨(some 27),(.mov (.t 8)),none⟩,.b,[],[]⟩,⟨⟨(some 28),(.bin .add (.t 26) (.t 27)),none⟩,.b,[],[]⟩,⟨⟨(some 29),(.ixS (.t 25) (.t 28)),none⟩,.b,[],[]⟩,⟨⟨(some 9),(.mov (.t 29)),none⟩,.b,[],[]⟩]) (.seq (.cut ⟨[4,5,6,30,31,32,33,34,35,36,37,38,39,40,41,42,43],[],⟨[],[],[]⟩⟩ (.seq (.cutN ⟨[30,31,32,33,34,35,36,37,38,39,40,41,42,43],[],⟨[],[(43,.v .b)],[]⟩⟩ (.reg [⟨⟨(some 30),(.mov (.t 8)),none⟩,.b,[],[]⟩,⟨⟨(some 31),(.bin .gtr (.t 30) (.c (.v (.int .i64 0)))),none⟩,.b,[],[]⟩,⟨⟨(some 32),(.mov (.t 31)),none⟩,.b,[],[]⟩,⟨⟨(some 33),(.mov (.t 9)),(some (32,true))⟩,.b,[],[]⟩,⟨⟨(some 34),(.bin .eql (.t 33) (.c (.v (.int .u8 0)))),(some (32,true))⟩,.b,[],[]⟩,⟨⟨(some 35),(.pick (.t 32) (.t 34) (.c (.v (.bool false)))),none⟩,.b,[],[]⟩,⟨⟨(some 36),(.mov (.t 35)),none⟩,.b,[],[]⟩,⟨⟨(some 37),(.mov (.t 8)),(some (36,false))⟩,.b,[],[]⟩,⟨⟨(some 38),(.bin .eql (.t 37) (.c (.v (.int .i64 9)))),(some (36,false))⟩,.b,[],[]⟩,⟨⟨(some 39),(.mov (.t 38)),(some (36,false))⟩,.b,[],[]⟩,⟨⟨(some 40),(.mov (.t 9)),(some (39,true))⟩,.b,[],[]⟩,⟨⟨(some 41),(.bin .gtr (.t 40) (.c (.v (.int .u8 1)))),(some (39,true))⟩,.b,[],[]⟩,⟨⟨(some 42),(.pick (.t 39) (.t 41) (.c (.v (.bool false)))),(some (36,false))⟩,.b,[],[]⟩,⟨⟨(some 43),(.pick (.t 36) (.c (.v (.bool true))) (.t 42)),none⟩,.b,[],[]⟩])) (.cond (.t 43) (.seq (.reg [⟨⟨(some 4),(.mov (.c (.v (.int .u64 0)))),none⟩,.b,[],[]⟩,⟨⟨(some 5),(.mov (.c (.v (.int .i64 0)))),none⟩,.b,[],[]⟩,⟨⟨(some 6),(.mov (.c (.v (.int .i64 2)))),none⟩,.b,[],[]⟩]) .ret) .skip))) (.seq (.reg [⟨⟨(some 44),(.mov (.t 7)),none⟩,.b,[],[]⟩,⟨⟨(some 45),(.mov (.t 9)),none⟩,.b,[],[]⟩,⟨⟨(some 46),(.bin .and (.t 45) (.c (.v (.int .u8 127)))),none⟩,.b,[],[]⟩,⟨⟨(some 47),(.conv .u64 (.t 46)),none⟩,.b,[],[]⟩,⟨⟨(some 48),(.mov (.t 8)),none⟩,.b,[],[]⟩,⟨⟨(some 49),(.bin .mul (.c (.v (.int .i64 7))) (.t 48)),none⟩,.b,[],[]⟩,⟨⟨(some 50),(.bin .shl (.t 47) (.t 49)),none⟩,.b,[],[]⟩,⟨⟨(some 51),(.bin .or (.t 44) (.t 50)),none⟩,.b,[],[]⟩,⟨⟨(some 7),(.mov (.t 51)),none⟩,.b,[],[]⟩]) (.seq (.reg [⟨⟨(some 52),(.mov (.t 9)),none⟩,.b,[],[]⟩,⟨⟨(some 53),(.bin .lss (.t 52) (.c (.v (.int .u8 128)))),none⟩,.b,[],[]⟩]) (.cond (.t 53) (.seq (.reg [⟨⟨(some 54),(.mov (.t 7)),none⟩,.b,[],[]⟩,⟨⟨(some 55),(.mov (.t 1)),none⟩,.b,[],[]⟩,⟨⟨(some 56),(.mov (.t 8)),none⟩,.b,[],[]⟩,⟨⟨(some 57),(.bin .add (.t 55) (.t 56)),none⟩,.b,[],[]⟩,⟨⟨(some 58),(.bin .add (.t 57) (.c (.v (.int .i64 1)))),none⟩,.b,[],[]⟩,⟨⟨(some 4),(.mov (.t 54)),none⟩,.b,[],[]⟩,⟨⟨(some 5),(.mov (.t 58)),none⟩,.b,[],[]⟩,⟨⟨(some 6),(.mov (.c (.v (.int .i64 0)))),none⟩,.b,[],[]⟩]) .ret) .skip)))))))) (.reg [⟨⟨(some 59),(.bin .add (.t 22) (.c (.v (.int .i64 1)))),none⟩,.b,[],[]⟩,⟨⟨(some 22),(.mov (.t 59)),none⟩,.b,[],[]⟩]))))))) (.seq (.reg [⟨⟨(some 4),(.mov (.c (.v (.int .u64 0)))),none⟩,.b,[],[]⟩,⟨⟨(some 5),(.mov (.c (.v (.int .i64 0)))),none⟩,.b,[],[]⟩,⟨⟨(some 6),(.mov (.c (.v (.int .i64 3)))),none⟩,.b,[],[]⟩]) .ret))))),[],60,[.t 4,.t 5,.t 6],1⟩
theorem xf85_ok:xf85.ok Try.prog 85:=⟨_,_,Try.func85,rfl,by kernel_rfl,rfl,by kernel_rfl,rfl,by kernel_rfl,by kernel_rfl⟩
def tb85:List PE:=[]
theorem tb85_ok:PEsOk Try.prog tb85:=trivial
def ex85:List EX:=[]
theorem ex85_ok:EXsOk Try.prog ex85:=trivial
def in85:List IN:=[]
theorem in85_ok:INsOk Try.prog in85:=trivial
def F85:DT ((.co (.v .s) (.co (.v (.i .i64)) .no)):Fm).den→Option (DT (.tup (.co (.v (.i .u64)) (.co (.v (.i .i64)) (.co (.v (.i .i64)) .no))):Fm).den):=pureT tb85 ex85 in85 0 xf85 _ _ []
def pe85:PE:=⟨85,(.co (.v .s) (.co (.v (.i .i64)) .no)),.tup (.co (.v (.i .u64)) (.co (.v (.i .i64)) (.co (.v (.i .i64)) .no))),F85⟩
theorem pe85_ok:pe85.ok Try.prog:=pe_of hm tb85_ok ex85_ok in85_ok xf85_ok (by kernel_rfl) (fun _=>rfl)
def xf26:FX:=⟨(.seq (.reg [⟨⟨(some 2),(.mov (.c (.v (.bool false)))),none⟩,.b,[],[]⟩]) (.seq (.reg [⟨⟨(some 3),(.mov (.t 0)),none⟩,.b,[],[]⟩,⟨⟨(some 4),(.bin .geq (.t 3) (.c (.v (.int .i64 0)))),none⟩,.b,[],[]⟩,⟨⟨(some 5),(.mov (.t 4)),none⟩,.b,[],[]⟩,⟨⟨(some 6),(.mov (.t 0)),(some (5,true))⟩,.b,[],[]⟩,⟨⟨(some 7),(.bin .lss (.t 6) (.c (.v (.int .i64 64)))),(some (5,true))⟩,.b,[],[]⟩,⟨⟨(some 8),(.pick (.t 5) (.t 7) (.c (.v (.bool false)))),none⟩,.b,[],[]⟩,⟨⟨(some 2),(.mov (.t 8)),none⟩,.b,[],[]⟩]) .ret)),[],9,[.t 2],1⟩
theorem xf26_ok:xf26.ok Try.prog 26:=⟨_,_,Try.func26,rfl,by kernel_rfl,rfl,by kernel_rfl,rfl,by kernel_rfl,by kernel_rfl⟩
def tb26:List PE:=[]
theorem tb26_ok:PEsOk Try.prog tb26:=trivial
def ex26:List EX:=[]
theorem ex26_ok:EXsOk Try.prog ex26:=trivial
def in26:List IN:=[]
theorem in26_ok:INsOk Try.prog in26:=trivial
def F26:DT ((.co (.v (.i .i64)) .no):Fm).den→Option (DT (.v .b:Fm).den):=pureT tb26 ex26 in26 0 xf26 _ _ []
def pe26:PE:=⟨26,(.co (.v (.i .i64)) .no),.v .b,F26⟩
theorem pe26_ok:pe26.ok Try.prog:=pe_of hm tb26_ok ex26_ok in26_ok xf26_ok (by kernel_rfl) (fun _=>rfl)
def xf55:FX:=⟨(.seq (.reg [⟨⟨(some 1),(.box 0 15 (.t 0)),none⟩,.b,[],[]⟩,⟨⟨(some 2),(.mov (.c (.v (.bool false)))),none⟩,.b,[],[]⟩]) (.seq (.reg [⟨⟨(some 3),(.fad 4 (.t 1)),none⟩,.b,[],[]⟩,⟨⟨(some 4),(.load false 1 (.t 3)),none⟩,.b,[],[]⟩,⟨⟨(some 5),(.call 1 26 [(.t 4)]),none⟩,.b,[],[]⟩,⟨⟨(some 2),(.mov (.t 5)),none⟩,.b,[],[]⟩]) .ret)),[1,5],6,[.t 2],3⟩
theorem xf55_ok:xf55.ok Try.prog 55:=⟨_,_,Try.func55,rfl,by kernel_rfl,rfl,by kernel_rfl,rfl,by kernel_rfl,by kernel_rfl⟩
def tb55:List PE:=[pe26]
theorem tb55_ok:PEsOk Try.prog tb55:=⟨pe26_ok,trivial⟩
def ex55:List EX:=[]
theorem ex55_ok:EXsOk Try.prog ex55:=trivial
def in55:List IN:=[]
theorem in55_ok:INsOk Try.prog in55:=trivial
def F55:DT ((.co (.v (.p (.i .i64) (.p (.i .i64) (.p (.i .i64) (.p (.i .u64) (.p (.i .i64) (.p (.i .u64) (.p (.i .i64) (.p (.sl (.p (.i .i64) (.p (.i .u64) (.i .i64)))) (.p (.sl (.p (.i .u64) (.i .i64))) (.p (.i .u64) (.p (.i .u64) (.p (.i .i64) (.p .s (.p (.i .u64) .b))))))))))))))) .no):Fm).den→Option (DT (.v .b:Fm).den):=pureT tb55 ex55 in55 0 xf55 _ _ []
def pe55:PE:=⟨55,(.co (.v (.p (.i .i64) (.p (.i .i64) (.p (.i .i64) (.p (.i .u64) (.p (.i .i64) (.p (.i .u64) (.p (.i .i64) (.p (.sl (.p (.i .i64) (.p (.i .u64) (.i .i64)))) (.p (.sl (.p (.i .u64) (.i .i64))) (.p (.i .u64) (.p (.i .u64) (.p (.i .i64) (.p .s (.p (.i .u64) .b))))))))))))))) .no),.v .b,F55⟩
theorem pe55_ok:pe55.ok Try.prog:=pe_of hm tb55_ok ex55_ok in55_ok xf55_ok (by kernel_rfl) (fun _=>rfl)
def xf56:FX:=⟨(.seq (.reg [⟨⟨(some 1),(.box 0 15 (.t 0)),none⟩,.b,[],[]⟩,⟨⟨(some 2),(.mov (.c (.v (.string ⟨#[]⟩)))),none⟩,.b,[],[]⟩]) (.seq (.reg [⟨⟨(some 3),(.fad 4 (.t 1)),none⟩,.b,[],[]⟩,⟨⟨(some 4),(.load false 1 (.t 3)),none⟩,.b,[],[]⟩,⟨⟨(some 5),(.conv .u64 (.t 4)),none⟩,.b,[],[]⟩,⟨⟨(some 6),(.bsl 1 (.v (.int .u64 0)) 1 [(0,(.t 5))]),none⟩,.b,[],[]⟩,⟨⟨(some 7),(.call 1 22 [(.t 6)]),none⟩,.b,[],[]⟩,⟨⟨(some 2),(.mov (.t 7)),none⟩,.b,[],[]⟩]) .ret)),[1,7],8,[.t 2],3⟩
theorem xf56_ok:xf56.ok Try.prog 56:=⟨_,_,Try.func56,rfl,by kernel_rfl,rfl,by kernel_rfl,rfl,by kernel_rfl,by kernel_rfl⟩
def tb56:List PE:=[pe22]
theorem tb56_ok:PEsOk Try.prog tb56:=⟨pe22_ok,trivial⟩
def ex56:List EX:=[]
theorem ex56_ok:EXsOk Try.prog ex56:=trivial
def in56:List IN:=[]
theorem in56_ok:INsOk Try.prog in56:=trivial
def F56:DT ((.co (.v (.p (.i .i64) (.p (.i .i64) (.p (.i .i64) (.p (.i .u64) (.p (.i .i64) (.p (.i .u64) (.p (.i .i64) (.p (.sl (.p (.i .i64) (.p (.i .u64) (.i .i64)))) (.p (.sl (.p (.i .u64) (.i .i64))) (.p (.i .u64) (.p (.i .u64) (.p (.i .i64) (.p .s (.p (.i .u64) .b))))))))))))))) .no):Fm).den→Option (DT (.v .s:Fm).den):=pureT tb56 ex56 in56 0 xf56 _ _ []
def pe56:PE:=⟨56,(.co (.v (.p (.i .i64) (.p (.i .i64) (.p (.i .i64) (.p (.i .u64) (.p (.i .i64) (.p (.i .u64) (.p (.i .i64) (.p (.sl (.p (.i .i64) (.p (.i .u64) (.i .i64)))) (.p (.sl (.p (.i .u64) (.i .i64))) (.p (.i .u64) (.p (.i .u64) (.p (.i .i64) (.p .s (.p (.i .u64) .b))))))))))))))) .no),.v .s,F56⟩
theorem pe56_ok:pe56.ok Try.prog:=pe_of hm tb56_ok ex56_ok in56_ok xf56_ok (by kernel_rfl) (fun _=>rfl)
def xf59:FX:=⟨(.seq (.reg [⟨⟨(some 2),(.mov (.c (.v (.int .i64 0)))),none⟩,.b,[],[]⟩]) (.seq (.seq (.reg [⟨⟨(some 5),(.mov (.t 0)),none⟩,.b,[],[]⟩,⟨⟨(some 6),(.len (.t 5)),none⟩,.b,[],[]⟩,⟨⟨(some 7),(.mov (.c (.v (.int .i64 0)))),none⟩,.b,[],[]⟩]) (.blk 0 (.loop ⟨[2,4,7,8,9,10,11,12,13,14,15,16,17,18,19],[0],⟨[],[(7,.v (.i .i64))],[]⟩⟩ (.seq (.reg [⟨⟨(some 8),(.bin .lss (.t 7) (.t 6)),none⟩,.b,[],[]⟩]) (.seq (.cond (.t 8) .skip (.exit 0)) (.seq (.cut ⟨[2,4,9,10,11,12,13,14,15,16,17,18],[0],⟨[],[],[]⟩⟩ (.blk 1 (.seq (.reg [⟨⟨(some 9),(.iad 2 (.t 5) (.t 7)),none⟩,.b,[],[]⟩,⟨⟨(some 10),(.load true 2 (.t 9)),none⟩,.b,[],[]⟩,⟨⟨(some 4),(.alloc 0 (.agg [(.v (.int .u64 0)),(.v (.int .i64 0))])),none⟩,.b,[],[]⟩,⟨⟨none,(.store 2 (.t 4) (.t 10)),none⟩,.b,[],[]⟩]) (.seq (.cutN ⟨[11,12,13,14,15,16,17,18],[],⟨[],[(18,.v .b)],[]⟩⟩ (.reg [⟨⟨(some 11),(.fad 1 (.t 4)),none⟩,.b,[],[]⟩,⟨⟨(some 12),(.load false 1 (.t 11)),none⟩,.b,[],[]⟩,⟨⟨(some 13),(.bin .lss (.t 12) (.c (.v (.int .i64 0)))),none⟩,.b,[],[]⟩,⟨⟨(some 14),(.mov (.t 13)),none⟩,.b,[],[]⟩,⟨⟨(some 15),(.fad 1 (.t 4)),(some (14,false))⟩,.b,[],[]⟩,⟨⟨(some 16),(.load false 1 (.t 15)),(some (14,false))⟩,.b,[],[]⟩,⟨⟨(some 17),(.bin .gtr (.t 16) (.c (.v (.int .i64 3)))),(some (14,false))⟩,.b,[],[]⟩,⟨⟨(some 18),(.pick (.t 14) (.c (.v (.bool true))) (.t 17)),none⟩,.b,[],[]⟩])) (.cond (.t 18) (.seq (.reg [⟨⟨(some 2),(.mov (.c (.v (.int .i64 1)))),none⟩,.b,[],[]⟩]) .ret) .skip))))) (.reg [⟨⟨(some 19),(.bin .add (.t 7) (.c (.v (.int .i64 1)))),none⟩,.b,[],[]⟩,⟨⟨(some 7),(.mov (.t 19)),none⟩,.b,[],[]⟩]))))))) (.seq (.reg [⟨⟨(some 2),(.mov (.c (.v (.int .i64 0)))),none⟩,.b,[],[]⟩]) .ret))),[4],20,[.t 2],2⟩
theorem xf59_ok:xf59.ok Try.prog 59:=⟨_,_,Try.func59,rfl,by kernel_rfl,rfl,by kernel_rfl,rfl,by kernel_rfl,by kernel_rfl⟩
def tb59:List PE:=[]
theorem tb59_ok:PEsOk Try.prog tb59:=trivial
def ex59:List EX:=[]
theorem ex59_ok:EXsOk Try.prog ex59:=trivial
def in59:List IN:=[]
theorem in59_ok:INsOk Try.prog in59:=trivial
def F59:DT ((.co (.v (.sl (.p (.i .u64) (.i .i64)))) .no):Fm).den→Option (DT (.v (.i .i64):Fm).den):=pureT tb59 ex59 in59 0 xf59 _ _ []
def pe59:PE:=⟨59,(.co (.v (.sl (.p (.i .u64) (.i .i64)))) .no),.v (.i .i64),F59⟩
theorem pe59_ok:pe59.ok Try.prog:=pe_of hm tb59_ok ex59_ok in59_ok xf59_ok (by kernel_rfl) (fun _=>rfl)
def xf58:FX:=⟨(.seq (.reg [⟨⟨(some 1),(.box 0 15 (.t 0)),none⟩,.b,[],[]⟩,⟨⟨(some 2),(.mov (.c (.v (.bool false)))),none⟩,.b,[],[]⟩]) (.seq (.reg [⟨⟨(some 3),(.fad 5 (.t 1)),none⟩,.b,[],[]⟩,⟨⟨(some 4),(.load true 2 (.t 3)),none⟩,.b,[],[]⟩,⟨⟨(some 5),(.bsl 2 (.agg [(.v (.int .u64 0)),(.v (.int .i64 0))]) 1 [(0,(.t 4))]),none⟩,.b,[],[]⟩,⟨⟨(some 6),(.call 1 59 [(.t 5)]),none⟩,.b,[],[]⟩,⟨⟨(some 7),(.bin .eql (.t 6) (.c (.v (.int .i64 0)))),none⟩,.b,[],[]⟩,⟨⟨(some 2),(.mov (.t 7)),none⟩,.b,[],[]⟩]) .ret)),[1,6],8,[.t 2],3⟩
theorem xf58_ok:xf58.ok Try.prog 58:=⟨_,_,Try.func58,rfl,by kernel_rfl,rfl,by kernel_rfl,rfl,by kernel_rfl,by kernel_rfl⟩
def tb58:List PE:=[pe59]
theorem tb58_ok:PEsOk Try.prog tb58:=⟨pe59_ok,trivial⟩
def ex58:List EX:=[]
theorem ex58_ok:EXsOk Try.prog ex58:=trivial
def in58:List IN:=[]
theorem in58_ok:INsOk Try.prog in58:=trivial
def F58:DT ((.co (.v (.p (.i .i64) (.p (.i .i64) (.p (.i .i64) (.p (.i .u64) (.p (.i .i64) (.p (.i .u64) (.p (.i .i64) (.p (.sl (.p (.i .i64) (.p (.i .u64) (.i .i64)))) (.p (.sl (.p (.i .u64) (.i .i64))) (.p (.i .u64) (.p (.i .u64) (.p (.i .i64) (.p .s (.p (.i .u64) .b))))))))))))))) .no):Fm).den→Option (DT (.v .b:Fm).den):=pureT tb58 ex58 in58 0 xf58 _ _ []
def pe58:PE:=⟨58,(.co (.v (.p (.i .i64) (.p (.i .i64) (.p (.i .i64) (.p (.i .u64) (.p (.i .i64) (.p (.i .u64) (.p (.i .i64) (.p (.sl (.p (.i .i64) (.p (.i .u64) (.i .i64)))) (.p (.sl (.p (.i .u64) (.i .i64))) (.p (.i .u64) (.p (.i .u64) (.p (.i .i64) (.p .s (.p (.i .u64) .b))))))))))))))) .no),.v .b,F58⟩
theorem pe58_ok:pe58.ok Try.prog:=pe_of hm tb58_ok ex58_ok in58_ok xf58_ok (by kernel_rfl) (fun _=>rfl)
def xf61:FX:=⟨(.seq (.reg [⟨⟨(some 1),(.box 0 2 (.t 0)),none⟩,.b,[],[]⟩,⟨⟨(some 2),(.mov (.c (.v (.string ⟨#[]⟩)))),none⟩,.b,[],[]⟩]) (.seq (.reg [⟨⟨(some 3),(.fad 0 (.t 1)),none⟩,.b,[],[]⟩,⟨⟨(some 4),(.load false 1 (.t 3)),none⟩,.b,[],[]⟩,⟨⟨(some 5),(.fad 1 (.t 1)),none⟩,.b,[],[]⟩,⟨⟨(some 6),(.load false 1 (.t 5)),none⟩,.b,[],[]⟩,⟨⟨(some 7),(.conv .u64 (.t 6)),none⟩,.b,[],[]⟩,⟨⟨(some 8),(.bsl 1 (.v (.int .u64 0)) 2 [(0,(.t 4)),(1,(.t 7))]),none⟩,.b,[],[]⟩,⟨⟨(some 9),(.call 1 22 [(.t 8)]),none⟩,.b,[],[]⟩,⟨⟨(some 2),(.mov (.t 9)),none⟩,.b,[],[]⟩]) .ret)),[1,9],10,[.t 2],3⟩
theorem xf61_ok:xf61.ok Try.prog 61:=⟨_,_,Try.func61,rfl,by kernel_rfl,rfl,by kernel_rfl,rfl,by kernel_rfl,by kernel_rfl⟩
def tb61:List PE:=[pe22]
theorem tb61_ok:PEsOk Try.prog tb61:=⟨pe22_ok,trivial⟩
def ex61:List EX:=[]
theorem ex61_ok:EXsOk Try.prog ex61:=trivial
def in61:List IN:=[]
theorem in61_ok:INsOk Try.prog in61:=trivial
def F61:DT ((.co (.v (.p (.i .u64) (.i .i64))) .no):Fm).den→Option (DT (.v .s:Fm).den):=pureT tb61 ex61 in61 0 xf61 _ _ []
def pe61:PE:=⟨61,(.co (.v (.p (.i .u64) (.i .i64))) .no),.v .s,F61⟩
theorem pe61_ok:pe61.ok Try.prog:=pe_of hm tb61_ok ex61_ok in61_ok xf61_ok (by kernel_rfl) (fun _=>rfl)
def xf60:FX:=⟨(.seq (.reg [⟨⟨(some 1),(.box 0 15 (.t 0)),none⟩,.b,[],[]⟩,⟨⟨(some 2),(.mov (.c (.v (.string ⟨#[]⟩)))),none⟩,.b,[],[]⟩]) (.seq (.reg [⟨⟨(some 3),(.fad 5 (.t 1)),none⟩,.b,[],[]⟩,⟨⟨(some 4),(.load true 2 (.t 3)),none⟩,.b,[],[]⟩,⟨⟨(some 5),(.call 1 61 [(.t 4)]),none⟩,.b,[],[]⟩,⟨⟨(some 2),(.mov (.t 5)),none⟩,.b,[],[]⟩]) .ret)),[1,5],6,[.t 2],3⟩
theorem xf60_ok:xf60.ok Try.prog 60:=⟨_,_,Try.func60,rfl,by kernel_rfl,rfl,by kernel_rfl,rfl,by kernel_rfl,by kernel_rfl⟩
def tb60:List PE:=[pe61]
theorem tb60_ok:PEsOk Try.prog tb60:=⟨pe61_ok,trivial⟩
def ex60:List EX:=[]
theorem ex60_ok:EXsOk Try.prog ex60:=trivial
def in60:List IN:=[]
theorem in60_ok:INsOk Try.prog in60:=trivial
def F60:DT ((.co (.v (.p (.i .i64) (.p (.i .i64) (.p (.i .i64) (.p (.i .u64) (.p (.i .i64) (.p (.i .u64) (.p (.i .i64) (.p (.sl (.p (.i .i64) (.p (.i .u64) (.i .i64)))) (.p (.sl (.p (.i .u64) (.i .i64))) (.p (.i .u64) (.p (.i .u64) (.p (.i .i64) (.p .s (.p (.i .u64) .b))))))))))))))) .no):Fm).den→Option (DT (.v .s:Fm).den):=pureT tb60 ex60 in60 0 xf60 _ _ []
def pe60:PE:=⟨60,(.co (.v (.p (.i .i64) (.p (.i .i64) (.p (.i .i64) (.p (.i .u64) (.p (.i .i64) (.p (.i .u64) (.p (.i .i64) (.p (.sl (.p (.i .i64) (.p (.i .u64) (.i .i64)))) (.p (.sl (.p (.i .u64) (.i .i64))) (.p (.i .u64) (.p (.i .u64) (.p (.i .i64) (.p .s (.p (.i .u64) .b))))))))))))))) .no),.v .s,F60⟩
theorem pe60_ok:pe60.ok Try.prog:=pe_of hm tb60_ok ex60_ok in60_ok xf60_ok (by kernel_rfl) (fun _=>rfl)
def xf87:FX:=⟨(.seq (.reg [⟨⟨(some 1),(.box 0 3 (.t 0)),none⟩,.b,[],[]⟩,⟨⟨(some 2),(.mov (.c (.v (.bool false)))),none⟩,.b,[],[]⟩]) (.seq (.reg [⟨⟨(some 3),(.fad 0 (.t 1)),none⟩,.b,[],[]⟩,⟨⟨(some 4),(.load false 1 (.t 3)),none⟩,.b,[],[]⟩,⟨⟨(some 5),(.call 1 26 [(.t 4)]),none⟩,.b,[],[]⟩,⟨⟨(some 6),(.un .not (.t 5)),none⟩,.b,[],[]⟩,⟨⟨(some 7),(.mov (.t 6)),none⟩,.b,[],[]⟩,⟨⟨(some 8),(.fad 1 (.t 1)),(some (7,false))⟩,.b,[],[]⟩,⟨⟨(some 9),(.load true 2 (.t 8)),(some (7,false))⟩,.b,[],[]⟩,⟨⟨(some 10),(.bsl 2 (.agg [(.v (.int .u64 0)),(.v (.int .i64 0))]) 1 [(0,(.t 9))]),(some (7,false))⟩,.b,[],[]⟩,⟨⟨(some 11),(.call 2 59 [(.t 10)]),(some (7,false))⟩,.b,[],[]⟩,⟨⟨(some 12),(.bin .neq (.t 11) (.c (.v (.int .i64 0)))),(some (7,false))⟩,.b,[],[]⟩,⟨⟨(some 13),(.pick (.t 7) (.c (.v (.bool true))) (.t 12)),none⟩,.b,[],[]⟩,⟨⟨(some 2),(.mov (.t 13)),none⟩,.b,[],[]⟩]) .ret)),[1,5,11],14,[.t 2],4⟩
theorem xf87_ok:xf87.ok Try.prog 87:=⟨_,_,Try.func87,rfl,by kernel_rfl,rfl,by kernel_rfl,rfl,by kernel_rfl,by kernel_rfl⟩
def tb87:List PE:=[pe26,pe59]
theorem tb87_ok:PEsOk Try.prog tb87:=⟨pe26_ok,pe59_ok,trivial⟩
def ex87:List EX:=[]
theorem ex87_ok:EXsOk Try.prog ex87:=trivial
def in87:List IN:=[]
theorem in87_ok:INsOk Try.prog in87:=trivial
def F87:DT ((.co (.v (.p (.i .i64) (.p (.i .u64) (.i .i64)))) .no):Fm).den→Option (DT (.v .b:Fm).den):=pureT tb87 ex87 in87 0 xf87 _ _ []
def pe87:PE:=⟨87,(.co (.v (.p (.i .i64) (.p (.i .u64) (.i .i64)))) .no),.v .b,F87⟩
theorem pe87_ok:pe87.ok Try.prog:=pe_of hm tb87_ok ex87_ok in87_ok xf87_ok (by kernel_rfl) (fun _=>rfl)
def xf64:FX:=⟨(.seq (.reg [⟨⟨(some 1),(.box 0 15 (.t 0)),none⟩,.b,[],[]⟩,⟨⟨(some 2),(.mov (.c (.v (.bool false)))),none⟩,.b,[],[]⟩]) (.seq (.reg [⟨⟨(some 3),(.fad 7 (.t 1)),none⟩,.b,[],[]⟩,⟨⟨(some 4),(.load false 1 (.t 3)),none⟩,.b,[],[]⟩,⟨⟨(some 5),(.len (.t 4)),none⟩,.b,[],[]⟩,⟨⟨(some 6),(.bin .leq (.t 5) (.c (.v (.int .i64 8)))),none⟩,.b,[],[]⟩,⟨⟨(some 7),(.mov (.t 6)),none⟩,.b,[],[]⟩,⟨⟨(some 8),(.fad 7 (.t 1)),(some (7,true))⟩,.b,[],[]⟩,⟨⟨(some 9),(.load false 1 (.t 8)),(some (7,true))⟩,.b,[],[]⟩,⟨⟨(some 10),(.call 1 86 [(.t 9),(.c (.clo 87 [] []))]),(some (7,true))⟩,.b,[],[]⟩,⟨⟨(some 11),(.un .not (.t 10)),(some (7,true))⟩,.b,[],[]⟩,⟨⟨(some 12),(.pick (.t 7) (.t 11) (.c (.v (.bool false)))),none⟩,.b,[],[]⟩,⟨⟨(some 2),(.mov (.t 12)),none⟩,.b,[],[]⟩]) .ret)),[1,10],13,[.t 2],7⟩
theorem xf64_ok:xf64.ok Try.prog 64:=⟨_,_,Try.func64,rfl,by kernel_rfl,rfl,by kernel_rfl,rfl,by kernel_rfl,by kernel_rfl⟩
def ff86:FX:=⟨(.seq (.reg [⟨⟨(some 4),(.mov (.c (.v (.bool false)))),none⟩,.b,[],[]⟩]) (.seq (.reg [⟨⟨(some 5),(.mov (.t 0)),none⟩,.b,[],[]⟩,⟨⟨(some 6),(.mov (.t 1)),none⟩,.b,[],[]⟩,⟨⟨(some 7),(.call 0 91 [(.t 5),(.t 6)]),none⟩,.b,[],[]⟩,⟨⟨(some 8),(.bin .geq (.t 7) (.c (.v (.int .i64 0)))),none⟩,.b,[],[]⟩,⟨⟨(some 4),(.mov (.t 8)),none⟩,.b,[],[]⟩]) .ret)),[7],9,[.t 4],2⟩
theorem ff86_ok:ff86.ok Try.prog 86:=⟨_,_,Try.func86,rfl,by kernel_rfl,rfl,by kernel_rfl,rfl,by kernel_rfl,by kernel_rfl⟩
def ff91:FX:=⟨(.seq (.reg [⟨⟨(some 4),(.mov (.c (.v (.int .i64 0)))),none⟩,.b,[],[]⟩]) (.seq (.seq (.reg [⟨⟨(some 6),(.mov (.t 0)),none⟩,.b,[],[]⟩,⟨⟨(some 7),(.len (.t 6)),none⟩,.b,[],[]⟩,⟨⟨(some 8),(.mov (.c (.v (.int .i64 0)))),none⟩,.b,[],[]⟩]) (.blk 0 (.loop ⟨[4,5,8,9,10,11,12,13,14,15,16,17,18],[],⟨[],[(8,.v (.i .i64))],[]⟩⟩ (.seq (.reg [⟨⟨(some 9),(.bin .lss (.t 8) (.t 7)),none⟩,.b,[],[]⟩]) (.seq (.cond (.t 9) .skip (.exit 0)) (.seq (.blk 1 (.seq (.reg [⟨⟨(some 10),(.mov (.t 8)),none⟩,.b,[],[]⟩,⟨⟨(some 5),(.mov (.t 10)),none⟩,.b,[],[]⟩]) (.seq (.reg [⟨⟨(some 11),(.mov (.t 1)),none⟩,.b,[],[]⟩,⟨⟨(some 12),(.mov (.t 0)),none⟩,.b,[],[]⟩,⟨⟨(some 13),(.mov (.t 5)),none⟩,.b,[],[]⟩,⟨⟨(some 14),(.iad 3 (.t 12) (.t 13)),none⟩,.b,[],[]⟩,⟨⟨(some 15),(.load true 3 (.t 14)),none⟩,.b,[],[]⟩,⟨⟨(some 16),(.callv 0 (.t 11) [(.t 15)]),none⟩,.b,[],[]⟩]) (.cond (.t 16) (.seq (.reg [⟨⟨(some 17),(.mov (.t 5)),none⟩,.b,[],[]⟩,⟨⟨(some 4),(.mov (.t 17)),none⟩,.b,[],[]⟩]) .ret) .skip)))) (.reg [⟨⟨(some 18),(.bin .add (.t 8) (.c (.v (.int .i64 1)))),none⟩,.b,[],[]⟩,⟨⟨(some 8),(.mov (.t 18)),none⟩,.b,[],[]⟩]))))))) (.seq (.reg [⟨⟨(some 4),(.mov (.c (.v (.int .i64 (-1))))),none⟩,.b,[],[]⟩]) .ret))),[16],19,[.t 4],2⟩
theorem ff91_ok:ff91.ok Try.prog 91:=⟨_,_,Try.func91,rfl,by kernel_rfl,rfl,by kernel_rfl,rfl,by kernel_rfl,by kernel_rfl⟩
def tb64:List PE:=[pe87]
theorem tb64_ok:PEsOk Try.prog tb64:=⟨pe87_ok,trivial⟩
def ex64:List EX:=[]
theorem ex64_ok:EXsOk Try.prog ex64:=trivial
def in64:List IN:=[⟨1,86,3,ff86,none⟩,⟨3,91,5,ff91,some ⟨[0,1,2,3,4,5,6,7,8,9,10,11,12,13,14,15,16,17,18],[5,6],⟨[],[(4,.v (.i .i64))],[]⟩⟩⟩]
theorem in64_ok:INsOk Try.prog in64:=⟨ff86_ok,ff91_ok,trivial⟩
def F64:DT ((.co (.v (.p (.i .i64) (.p (.i .i64) (.p (.i .i64) (.p (.i .u64) (.p (.i .i64) (.p (.i .u64) (.p (.i .i64) (.p (.sl (.p (.i .i64) (.p (.i .u64) (.i .i64)))) (.p (.sl (.p (.i .u64) (.i .i64))) (.p (.i .u64) (.p (.i .u64) (.p (.i .i64) (.p .s (.p (.i .u64) .b))))))))))))))) .no):Fm).den→Option (DT (.v .b:Fm).den):=pureT tb64 ex64 in64 9 xf64 _ _ []
def pe64:PE:=⟨64,(.co (.v (.p (.i .i64) (.p (.i .i64) (.p (.i .i64) (.p (.i .u64) (.p (.i .i64) (.p (.i .u64) (.p (.i .i64) (.p (.sl (.p (.i .i64) (.p (.i .u64) (.i .i64)))) (.p (.sl (.p (.i .u64) (.i .i64))) (.p (.i .u64) (.p (.i .u64) (.p (.i .i64) (.p .s (.p (.i .u64) .b))))))))))))))) .no),.v .b,F64⟩
theorem pe64_ok:pe64.ok Try.prog:=pe_of hm tb64_ok ex64_ok in64_ok xf64_ok (by kernel_rfl) (fun _=>rfl)
def xf65:FX:=⟨(.seq (.reg [⟨⟨(some 1),(.box 0 15 (.t 0)),none⟩,.b,[],[]⟩,⟨⟨(some 2),(.mov (.c (.v (.string ⟨#[]⟩)))),none⟩,.b,[],[]⟩]) (.seq (.reg [⟨⟨(some 6),(.fad 7 (.t 1)),none⟩,.b,[],[]⟩,⟨⟨(some 7),(.load false 1 (.t 6)),none⟩,.b,[],[]⟩,⟨⟨(some 8),(.len (.t 7)),none⟩,.b,[],[]⟩,⟨⟨(some 9),(.conv .u64 (.t 8)),none⟩,.b,[],[]⟩,⟨⟨(some 10),(.bsl 1 (.v (.int .u64 0)) 1 [(0,(.t 9))]),none⟩,.b,[],[]⟩,⟨⟨(some 11),(.call 1 22 [(.t 10)]),none⟩,.b,[],[]⟩,⟨⟨(some 3),(.mov (.t 11)),none⟩,.b,[],[]⟩]) (.seq (.seq (.reg [⟨⟨(some 12),(.fad 7 (.t 1)),none⟩,.b,[],[]⟩,⟨⟨(some 13),(.load false 1 (.t 12)),none⟩,.b,[],[]⟩,⟨⟨(some 14),(.len (.t 13)),none⟩,.b,[],[]⟩,⟨⟨(some 15),(.mov (.c (.v (.int .i64 0)))),none⟩,.b,[],[]⟩]) (.blk 0 (.loop ⟨[3,5,15,16,17,18,19,20,21,22,23,24,25,26,27,28,29,30],[2],⟨[],[(3,.v .s),(15,.v (.i .i64))],[]⟩⟩ (.seq (.reg [⟨⟨(some 16),(.bin .lss (.t 15) (.t 14)),none⟩,.b,[],[]⟩]) (.seq (.cond (.t 16) .skip (.exit 0)) (.seq (.blk 1 (.seq (.reg [⟨⟨(some 17),(.iad 3 (.t 13) (.t 15)),none⟩,.b,[],[]⟩,⟨⟨(some 18),(.load true 3 (.t 17)),none⟩,.b,[],[]⟩,⟨⟨(some 5),(.alloc 2 (.agg [(.v (.int .i64 0)),(.v (.int .u64 0)),(.v (.int .i64 0))])),none⟩,.b,[],[]⟩,⟨⟨none,(.store 3 (.t 5) (.t 18)),none⟩,.b,[],[]⟩]) (.dr [(7,5)] [⟨⟨(some 19),(.mov (.t 3)),none⟩,.b,[],[]⟩,⟨⟨(some 20),(.fad 0 (.t 5)),none⟩,.b,[],[]⟩,⟨⟨(some 21),(.load false 1 (.t 20)),none⟩,.b,[],[]⟩,⟨⟨(some 22),(.conv .u64 (.t 21)),none⟩,.b,[],[]⟩,⟨⟨(some 23),(.bsl 1 (.v (.int .u64 0)) 1 [(0,(.t 22))]),none⟩,.b,[],[]⟩,⟨⟨(some 24),(.callG 3 22 [(.t 23)]),none⟩,.b,[],[]⟩,⟨⟨(some 25),(.fad 1 (.t 5)),none⟩,.b,[],[]⟩,⟨⟨(some 26),(.load true 2 (.t 25)),none⟩,.b,[],[]⟩,⟨⟨(some 27),(.callG 4 61 [(.t 26)]),none⟩,.b,[],[]⟩,⟨⟨(some 28),(.bin .add (.t 24) (.t 27)),none⟩,.b,[],[]⟩,⟨⟨(some 29),(.bin .add (.t 19) (.t 28)),none⟩,.b,[],[]⟩,⟨⟨(some 3),(.mov (.t 29)),none⟩,.b,[],[]⟩]))) (.reg [⟨⟨(some 30),(.bin .add (.t 15) (.c (.v (.int .i64 1)))),none⟩,.b,[],[]⟩,⟨⟨(some 15),(.mov (.t 30)),none⟩,.b,[],[]⟩]))))))) (.seq (.reg [⟨⟨(some 31),(.mov (.t 3)),none⟩,.b,[],[]⟩,⟨⟨(some 2),(.mov (.t 31)),none⟩,.b,[],[]⟩]) .ret)))),[1,11,5,24,27],32,[.t 2],6⟩
theorem xf65_ok:xf65.ok Try.prog 65:=⟨_,_,Try.func65,rfl,by kernel_rfl,rfl,by kernel_rfl,rfl,by kernel_rfl,by kernel_rfl⟩
def tb65:List PE:=[pe22,pe61]
theorem tb65_ok:PEsOk Try.prog tb65:=⟨pe22_ok,pe61_ok,trivial⟩
def ex65:List EX:=[]
theorem ex65_ok:EXsOk Try.prog ex65:=trivial
def in65:List IN:=[]
theorem in65_ok:INsOk Try.prog in65:=trivial
def F65:DT ((.co (.v (.p (.i .i64) (.p (.i .i64) (.p (.i .i64) (.p (.i .u64) (.p (.i .i64) (.p (.i .u64) (.p (.i .i64) (.p (.sl (.p (.i .i64) (.p (.i .u64) (.i .i64)))) (.p (.sl (.p (.i .u64) (.i .i64))) (.p (.i .u64) (.p (.i .u64) (.p (.i .i64) (.p .s (.p (.i .u64) .b))))))))))))))) .no):Fm).den→Option (DT (.v .s:Fm).den):=pureT tb65 ex65 in65 0 xf65 _ _ []
def pe65:PE:=⟨65,(.co (.v (.p (.i .i64) (.p (.i .i64) (.p (.i .i64) (.p (.i .u64) (.p (.i .i64) (.p (.i .u64) (.p (.i .i64) (.p (.sl (.p (.i .i64) (.p (.i .u64) (.i .i64)))) (.p (.sl (.p (.i .u64) (.i .i64))) (.p (.i .u64) (.p (.i .u64) (.p (.i .i64) (.p .s (.p (.i .u64) .b))))))))))))))) .no),.v .s,F65⟩
theorem pe65_ok:pe65.ok Try.prog:=pe_of hm tb65_ok ex65_ok in65_ok xf65_ok (by kernel_rfl) (fun _=>rfl)
def xf68:FX:=⟨(.seq (.reg [⟨⟨(some 2),(.mov (.c (.v (.int .i64 0)))),none⟩,.b,[],[]⟩]) (.seq (.seq (.cutN ⟨[3,4,5,6,7,8,9,10],[],⟨[],[(10,.v .b)],[]⟩⟩ (.reg [⟨⟨(some 3),(.mov (.t 0)),none⟩,.b,[],[]⟩,⟨⟨(some 4),(.len (.t 3)),none⟩,.b,[],[]⟩,⟨⟨(some 5),(.bin .lss (.t 4) (.c (.v (.int .i64 1)))),none⟩,.b,[],[]⟩,⟨⟨(some 6),(.mov (.t 5)),none⟩,.b,[],[]⟩,⟨⟨(some 7),(.mov (.t 0)),(some (6,false))⟩,.b,[],[]⟩,⟨⟨(some 8),(.len (.t 7)),(some (6,false))⟩,.b,[],[]⟩,⟨⟨(some 9),(.bin .gtr (.t 8) (.c (.v (.int .i64 64)))),(some (6,false))⟩,.b,[],[]⟩,⟨⟨(some 10),(.pick (.t 6) (.c (.v (.bool true))) (.t 9)),none⟩,.b,[],[]⟩])) (.cond (.t 10) (.seq (.reg [⟨⟨(some 2),(.mov (.c (.v (.int .i64 1)))),none⟩,.b,[],[]⟩]) .ret) .skip)) (.seq (.reg [⟨⟨(some 11),(.mov (.t 0)),none⟩,.b,[],[]⟩,⟨⟨(some 12),(.call 0 59 [(.t 11)]),none⟩,.b,[],[]⟩,⟨⟨(some 2),(.mov (.t 12)),none⟩,.b,[],[]⟩]) .ret))),[12],13,[.t 2],2⟩
theorem xf68_ok:xf68.ok Try.prog 68:=⟨_,_,Try.func68,rfl,by kernel_rfl,rfl,by kernel_rfl,rfl,by kernel_rfl,by kernel_rfl⟩
def tb68:List PE:=[pe59]
theorem tb68_ok:PEsOk Try.prog tb68:=⟨pe59_ok,trivial⟩
def ex68:List EX:=[]
theorem ex68_ok:EXsOk Try.prog ex68:=trivial
def in68:List IN:=[]
theorem in68_ok:INsOk Try.prog in68:=trivial
def F68:DT ((.co (.v (.sl (.p (.i .u64) (.i .i64)))) .no):Fm).den→Option (DT (.v (.i .i64):Fm).den):=pureT tb68 ex68 in68 0 xf68 _ _ []
def pe68:PE:=⟨68,(.co (.v (.sl (.p (.i .u64) (.i .i64)))) .no),.v (.i .i64),F68⟩
theorem pe68_ok:pe68.ok Try.prog:=pe_of hm tb68_ok ex68_ok in68_ok xf68_ok (by kernel_rfl) (fun _=>rfl)
def xf67:FX:=⟨(.seq (.reg [⟨⟨(some 1),(.box 0 15 (.t 0)),none⟩,.b,[],[]⟩,⟨⟨(some 2),(.mov (.c (.v (.bool false)))),none⟩,.b,[],[]⟩]) (.seq (.reg [⟨⟨(some 3),(.fad 8 (.t 1)),none⟩,.b,[],[]⟩,⟨⟨(some 4),(.load false 1 (.t 3)),none⟩,.b,[],[]⟩,⟨⟨(some 5),(.call 1 68 [(.t 4)]),none⟩,.b,[],[]⟩,⟨⟨(some 6),(.bin .eql (.t 5) (.c (.v (.int .i64 0)))),none⟩,.b,[],[]⟩,⟨⟨(some 2),(.mov (.t 6)),none⟩,.b,[],[]⟩]) .ret)),[1,5],7,[.t 2],3⟩
theorem xf67_ok:xf67.ok Try.prog 67:=⟨_,_,Try.func67,rfl,by kernel_rfl,rfl,by kernel_rfl,rfl,by kernel_rfl,by kernel_rfl⟩
def tb67:List PE:=[pe68]
theorem tb67_ok:PEsOk Try.prog tb67:=⟨pe68_ok,trivial⟩
def ex67:List EX:=[]
theorem ex67_ok:EXsOk Try.prog ex67:=trivial
def in67:List IN:=[]
theorem in67_ok:INsOk Try.prog in67:=trivial
def F67:DT ((.co (.v (.p (.i .i64) (.p (.i .i64) (.p (.i .i64) (.p (.i .u64) (.p (.i .i64) (.p (.i .u64) (.p (.i .i64) (.p (.sl (.p (.i .i64) (.p (.i .u64) (.i .i64)))) (.p (.sl (.p (.i .u64) (.i .i64))) (.p (.i .u64) (.p (.i .u64) (.p (.i .i64) (.p .s (.p (.i .u64) .b))))))))))))))) .no):Fm).den→Option (DT (.v .b:Fm).den):=pureT tb67 ex67 in67 0 xf67 _ _ []
def pe67:PE:=⟨67,(.co (.v (.p (.i .i64) (.p (.i .i64) (.p (.i .i64) (.p (.i .u64) (.p (.i .i64) (.p (.i .u64) (.p (.i .i64) (.p (.sl (.p (.i .i64) (.p (.i .u64) (.i .i64)))) (.p (.sl (.p (.i .u64) (.i .i64))) (.p (.i .u64) (.p (.i .u64) (.p (.i .i64) (.p .s (.p (.i .u64) .b))))))))))))))) .no),.v .b,F67⟩
theorem pe67_ok:pe67.ok Try.prog:=pe_of hm tb67_ok ex67_ok in67_ok xf67_ok (by kernel_rfl) (fun _=>rfl)
def xf69:FX:=⟨(.seq (.reg [⟨⟨(some 1),(.box 0 15 (.t 0)),none⟩,.b,[],[]⟩,⟨⟨(some 2),(.mov (.c (.v (.string ⟨#[]⟩)))),none⟩,.b,[],[]⟩]) (.seq (.reg [⟨⟨(some 6),(.fad 8 (.t 1)),none⟩,.b,[],[]⟩,⟨⟨(some 7),(.load false 1 (.t 6)),none⟩,.b,[],[]⟩,⟨⟨(some 8),(.len (.t 7)),none⟩,.b,[],[]⟩,⟨⟨(some 9),(.conv .u64 (.t 8)),none⟩,.b,[],[]⟩,⟨⟨(some 10),(.bsl 1 (.v (.int .u64 0)) 1 [(0,(.t 9))]),none⟩,.b,[],[]⟩,⟨⟨(some 11),(.call 1 22 [(.t 10)]),none⟩,.b,[],[]⟩,⟨⟨(some 3),(.mov (.t 11)),none⟩,.b,[],[]⟩]) (.seq (.seq (.reg [⟨⟨(some 12),(.fad 8 (.t 1)),none⟩,.b,[],[]⟩,⟨⟨(some 13),(.load false 1 (.t 12)),none⟩,.b,[],[]⟩,⟨⟨(some 14),(.len (.t 13)),none⟩,.b,[],[]⟩,⟨⟨(some 15),(.mov (.c (.v (.int .i64 0)))),none⟩,.b,[],[]⟩]) (.blk 0 (.loop ⟨[3,5,15,16,17,18,19,20,21,22,23],[2],⟨[],[(3,.v .s),(15,.v (.i .i64))],[]⟩⟩ (.seq (.reg [⟨⟨(some 16),(.bin .lss (.t 15) (.t 14)),none⟩,.b,[],[]⟩]) (.seq (.cond (.t 16) .skip (.exit 0)) (.seq (.blk 1 (.seq (.reg [⟨⟨(some 17),(.iad 2 (.t 13) (.t 15)),none⟩,.b,[],[]⟩,⟨⟨(some 18),(.load true 2 (.t 17)),none⟩,.b,[],[]⟩,⟨⟨(some 5),(.alloc 2 (.agg [(.v (.int .u64 0)),(.v (.int .i64 0))])),none⟩,.b,[],[]⟩,⟨⟨none,(.store 2 (.t 5) (.t 18)),none⟩,.b,[],[]⟩]) (.reg [⟨⟨(some 19),(.mov (.t 3)),none⟩,.b,[],[]⟩,⟨⟨(some 20),(.load true 2 (.t 5)),none⟩,.b,[],[]⟩,⟨⟨(some 21),(.call 3 61 [(.t 20)]),none⟩,.b,[],[]⟩,⟨⟨(some 22),(.bin .add (.t 19) (.t 21)),none⟩,.b,[],[]⟩,⟨⟨(some 3),(.mov (.t 22)),none⟩,.b,[],[]⟩]))) (.reg [⟨⟨(some 23),(.bin .add (.t 15) (.c (.v (.int .i64 1)))),none⟩,.b,[],[]⟩,⟨⟨(some 15),(.mov (.t 23)),none⟩,.b,[],[]⟩]))))))) (.seq (.reg [⟨⟨(some 24),(.mov (.t 3)),none⟩,.b,[],[]⟩,⟨⟨(some 2),(.mov (.t 24)),none⟩,.b,[],[]⟩]) .ret)))),[1,11,5,21],25,[.t 2],5⟩
theorem xf69_ok:xf69.ok Try.prog 69:=⟨_,_,Try.func69,rfl,by kernel_rfl,rfl,by kernel_rfl,rfl,by kernel_rfl,by kernel_rfl⟩
def tb69:List PE:=[pe22,pe61]
theorem tb69_ok:PEsOk Try.prog tb69:=⟨pe22_ok,pe61_ok,trivial⟩
def ex69:List EX:=[]
theorem ex69_ok:EXsOk Try.prog ex69:=trivial
def in69:List IN:=[]
theorem in69_ok:INsOk Try.prog in69:=trivial
def F69:DT ((.co (.v (.p (.i .i64) (.p (.i .i64) (.p (.i .i64) (.p (.i .u64) (.p (.i .i64) (.p (.i .u64) (.p (.i .i64) (.p (.sl (.p (.i .i64) (.p (.i .u64) (.i .i64)))) (.p (.sl (.p (.i .u64) (.i .i64))) (.p (.i .u64) (.p (.i .u64) (.p (.i .i64) (.p .s (.p (.i .u64) .b))))))))))))))) .no):Fm).den→Option (DT (.v .s:Fm).den):=pureT tb69 ex69 in69 0 xf69 _ _ []
def pe69:PE:=⟨69,(.co (.v (.p (.i .i64) (.p (.i .i64) (.p (.i .i64) (.p (.i .u64) (.p (.i .i64) (.p (.i .u64) (.p (.i .i64) (.p (.sl (.p (.i .i64) (.p (.i .u64) (.i .i64)))) (.p (.sl (.p (.i .u64) (.i .i64))) (.p (.i .u64) (.p (.i .u64) (.p (.i .i64) (.p .s (.p (.i .u64) .b))))))))))))))) .no),.v .s,F69⟩
theorem pe69_ok:pe69.ok Try.prog:=pe_of hm tb69_ok ex69_ok in69_ok xf69_ok (by kernel_rfl) (fun _=>rfl)
def xf72:FX:=⟨(.seq (.reg [⟨⟨(some 1),(.box 0 15 (.t 0)),none⟩,.b,[],[]⟩,⟨⟨(some 2),(.mov (.c (.v (.bool false)))),none⟩,.b,[],[]⟩]) (.seq (.reg [⟨⟨(some 3),(.fad 11 (.t 1)),none⟩,.b,[],[]⟩,⟨⟨(some 4),(.load false 1 (.t 3)),none⟩,.b,[],[]⟩,⟨⟨(some 5),(.bin .geq (.t 4) (.c (.v (.int .i64 0)))),none⟩,.b,[],[]⟩,⟨⟨(some 6),(.mov (.t 5)),none⟩,.b,[],[]⟩,⟨⟨(some 7),(.fad 11 (.t 1)),(some (6,true))⟩,.b,[],[]⟩,⟨⟨(some 8),(.load false 1 (.t 7)),(some (6,true))⟩,.b,[],[]⟩,⟨⟨(some 9),(.bin .leq (.t 8) (.c (.v (.int .i64 1099511627776)))),(some (6,true))⟩,.b,[],[]⟩,⟨⟨(some 10),(.pick (.t 6) (.t 9) (.c (.v (.bool false)))),none⟩,.b,[],[]⟩,⟨⟨(some 2),(.mov (.t 10)),none⟩,.b,[],[]⟩]) .ret)),[1],11,[.t 2],2⟩
theorem xf72_ok:xf72.ok Try.prog 72:=⟨_,_,Try.func72,rfl,by kernel_rfl,rfl,by kernel_rfl,rfl,by kernel_rfl,by kernel_rfl⟩
def tb72:List PE:=[]
theorem tb72_ok:PEsOk Try.prog tb72:=trivial
def ex72:List EX:=[]
theorem ex72_ok:EXsOk Try.prog ex72:=trivial
def in72:List IN:=[]
theorem in72_ok:INsOk Try.prog in72:=trivial
def F72:DT ((.co (.v (.p (.i .i64) (.p (.i .i64) (.p (.i .i64) (.p (.i .u64) (.p (.i .i64) (.p (.i .u64) (.p (.i .i64) (.p (.sl (.p (.i .i64) (.p (.i .u64) (.i .i64)))) (.p (.sl (.p (.i .u64) (.i .i64))) (.p (.i .u64) (.p (.i .u64) (.p (.i .i64) (.p .s (.p (.i .u64) .b))))))))))))))) .no):Fm).den→Option (DT (.v .b:Fm).den):=pureT tb72 ex72 in72 0 xf72 _ _ []
def pe72:PE:=⟨72,(.co (.v (.p (.i .i64) (.p (.i .i64) (.p (.i .i64) (.p (.i .u64) (.p (.i .i64) (.p (.i .u64) (.p (.i .i64) (.p (.sl (.p (.i .i64) (.p (.i .u64) (.i .i64)))) (.p (.sl (.p (.i .u64) (.i .i64))) (.p (.i .u64) (.p (.i .u64) (.p (.i .i64) (.p .s (.p (.i .u64) .b))))))))))))))) .no),.v .b,F72⟩
theorem pe72_ok:pe72.ok Try.prog:=pe_of hm tb72_ok ex72_ok in72_ok xf72_ok (by kernel_rfl) (fun _=>rfl)
def xf73:FX:=⟨(.seq (.reg [⟨⟨(some 1),(.box 0 15 (.t 0)),none⟩,.b,[],[]⟩,⟨⟨(some 2),(.mov (.c (.v (.string ⟨#[]⟩)))),none⟩,.b,[],[]⟩]) (.seq (.reg [⟨⟨(some 3),(.fad 11 (.t 1)),none⟩,.b,[],[]⟩,⟨⟨(some 4),(.load false 1 (.t 3)),none⟩,.b,[],[]⟩,⟨⟨(some 5),(.conv .u64 (.t 4)),none⟩,.b,[],[]⟩,⟨⟨(some 6),(.bsl 1 (.v (.int .u64 0)) 1 [(0,(.t 5))]),none⟩,.b,[],[]⟩,⟨⟨(some 7),(.call 1 22 [(.t 6)]),none⟩,.b,[],[]⟩,⟨⟨(some 2),(.mov (.t 7)),none⟩,.b,[],[]⟩]) .ret)),[1,7],8,[.t 2],3⟩
theorem xf73_ok:xf73.ok Try.prog 73:=⟨_,_,Try.func73,rfl,by kernel_rfl,rfl,by kernel_rfl,rfl,by kernel_rfl,by kernel_rfl⟩
def tb73:List PE:=[pe22]
theorem tb73_ok:PEsOk Try.prog tb73:=⟨pe22_ok,trivial⟩
def ex73:List EX:=[]
theorem ex73_ok:EXsOk Try.prog ex73:=trivial
def in73:List IN:=[]
theorem in73_ok:INsOk Try.prog in73:=trivial
def F73:DT ((.co (.v (.p (.i .i64) (.p (.i .i64) (.p (.i .i64) (.p (.i .u64) (.p (.i .i64) (.p (.i .u64) (.p (.i .i64) (.p (.sl (.p (.i .i64) (.p (.i .u64) (.i .i64)))) (.p (.sl (.p (.i .u64) (.i .i64))) (.p (.i .u64) (.p (.i .u64) (.p (.i .i64) (.p .s (.p (.i .u64) .b))))))))))))))) .no):Fm).den→Option (DT (.v .s:Fm).den):=pureT tb73 ex73 in73 0 xf73 _ _ []
def pe73:PE:=⟨73,(.co (.v (.p (.i .i64) (.p (.i .i64) (.p (.i .i64) (.p (.i .u64) (.p (.i .i64) (.p (.i .u64) (.p (.i .i64) (.p (.sl (.p (.i .i64) (.p (.i .u64) (.i .i64)))) (.p (.sl (.p (.i .u64) (.i .i64))) (.p (.i .u64) (.p (.i .u64) (.p (.i .i64) (.p .s (.p (.i .u64) .b))))))))))))))) .no),.v .s,F73⟩
theorem pe73_ok:pe73.ok Try.prog:=pe_of hm tb73_ok ex73_ok in73_ok xf73_ok (by kernel_rfl) (fun _=>rfl)
def xf15:FX:=⟨(.seq (.reg [⟨⟨(some 2),(.mov (.c (.v (.bool false)))),none⟩,.b,[],[]⟩]) (.seq (.cut ⟨[2,4,5,6,7,8,9,10,11,12,13,14,15,16,17,18,19,20,21,22,23,24,25,26,27,28],[0],⟨[],[],[]⟩⟩ (.seq (.reg [⟨⟨(some 5),(.mov (.t 0)),none⟩,.b,[],[]⟩,⟨⟨(some 6),(.rngS 0 (.t 5)),none⟩,.b,[],[]⟩]) (.blk 0 (.loop ⟨[2,4,7,8,9,10,11,12,13,14,15,16,17,18,19,20,21,22,23,24,25,26,27,28],[0],⟨[],[],[⟨0,.iter,true⟩]⟩⟩ (.seq (.reg [⟨⟨(some 7),(.nxtS (.t 6)),none⟩,.b,[],[]⟩,⟨⟨(some 8),(.ext (.t 7) 0),none⟩,.b,[],[]⟩]) (.seq (.cond (.t 8) .skip (.exit 0)) (.blk 1 (.seq (.reg [⟨⟨(some 9),(.ext (.t 7) 2),none⟩,.b,[],[]⟩,⟨⟨(some 4),(.mov (.t 9)),none⟩,.b,[],[]⟩]) (.seq (.cutN ⟨[10,11,12,13,14,15,16,17,18,19,20,21,22,23,24,25,26,27,28],[],⟨[],[(28,.v .b)],[]⟩⟩ (.reg [⟨⟨(some 10),(.mov (.t 4)),none⟩,.b,[],[]⟩,⟨⟨(some 11),(.bin .geq (.t 10) (.c (.v (.int .i32 97)))),none⟩,.b,[],[]⟩,⟨⟨(some 12),(.mov (.t 11)),none⟩,.b,[],[]⟩,⟨⟨(some 13),(.mov (.t 4)),(some (12,true))⟩,.b,[],[]⟩,⟨⟨(some 14),(.bin .leq (.t 13) (.c (.v (.int .i32 122)))),(some (12,true))⟩,.b,[],[]⟩,⟨⟨(some 15),(.pick (.t 12) (.t 14) (.c (.v (.bool false)))),none⟩,.b,[],[]⟩,⟨⟨(some 16),(.mov (.t 15)),none⟩,.b,[],[]⟩,⟨⟨(some 17),(.mov (.t 4)),(some (16,false))⟩,.b,[],[]⟩,⟨⟨(some 18),(.bin .geq (.t 17) (.c (.v (.int .i32 48)))),(some (16,false))⟩,.b,[],[]⟩,⟨⟨(some 19),(.mov (.t 18)),(some (16,false))⟩,.b,[],[]⟩,⟨⟨(some 20),(.mov (.t 4)),(some (19,true))⟩,.b,[],[]⟩,⟨⟨(some 21),(.bin .leq (.t 20) (.c (.v (.int .i32 57)))),(some (19,true))⟩,.b,[],[]⟩,⟨⟨(some 22),(.pick (.t 19) (.t 21) (.c (.v (.bool false)))),(some (16,false))⟩,.b,[],[]⟩,⟨⟨(some 23),(.pick (.t 16) (.c (.v (.bool true))) (.t 22)),none⟩,.b,[],[]⟩,⟨⟨(some 24),(.mov (.t 23)),none⟩,.b,[],[]⟩,⟨⟨(some 25),(.mov (.t 4)),(some (24,false))⟩,.b,[],[]⟩,⟨⟨(some 26),(.bin .eql (.t 25) (.c (.v (.int .i32 45)))),(some (24,false))⟩,.b,[],[]⟩,⟨⟨(some 27),(.pick (.t 24) (.c (.v (.bool true))) (.t 26)),none⟩,.b,[],[]⟩,⟨⟨(some 28),(.un .not (.t 27)),none⟩,.b,[],[]⟩])) (.cond (.t 28) (.seq (.reg [⟨⟨(some 2),(.mov (.c (.v (.bool false)))),none⟩,.b,[],[]⟩]) .ret) .skip)))))))))) (.seq (.reg [⟨⟨(some 29),(.mov (.t 0)),none⟩,.b,[],[]⟩,⟨⟨(some 30),(.bin .neq (.t 29) (.c (.v (.string ⟨#[]⟩)))),none⟩,.b,[],[]⟩,⟨⟨(some 31),(.mov (.t 30)),none⟩,.b,[],[]⟩,⟨⟨(some 32),(.mov (.t 0)),(some (31,true))⟩,.b,[],[]⟩,⟨⟨(some 33),(.lenS (.t 32)),(some (31,true))⟩,.b,[],[]⟩,⟨⟨(some 34),(.bin .leq (.t 33) (.c (.v (.int .i64 20)))),(some (31,true))⟩,.b,[],[]⟩,⟨⟨(some 35),(.pick (.t 31) (.t 34) (.c (.v (.bool false)))),none⟩,.b,[],[]⟩,⟨⟨(some 2),(.mov (.t 35)),none⟩,.b,[],[]⟩]) .ret))),[6],36,[.t 2],2⟩
theorem xf15_ok:xf15.ok Try.prog 15:=⟨_,_,Try.func15,rfl,by kernel_rfl,rfl,by kernel_rfl,rfl,by kernel_rfl,by kernel_rfl⟩
def tb15:List PE:=[]
theorem tb15_ok:PEsOk Try.prog tb15:=trivial
def ex15:List EX:=[]
theorem ex15_ok:EXsOk Try.prog ex15:=trivial
def in15:List IN:=[]
theorem in15_ok:INsOk Try.prog in15:=trivial
def F15:DT ((.co (.v .s) .no):Fm).den→Option (DT (.v .b:Fm).den):=pureT tb15 ex15 in15 0 xf15 _ _ []
def pe15:PE:=⟨15,(.co (.v .s) .no),.v .b,F15⟩
theorem pe15_ok:pe15.ok Try.prog:=pe_of hm tb15_ok ex15_ok in15_ok xf15_ok (by kernel_rfl) (fun _=>rfl)
def xf75:FX:=⟨(.seq (.reg [⟨⟨(some 1),(.box 0 15 (.t 0)),none⟩,.b,[],[]⟩,⟨⟨(some 2),(.mov (.c (.v (.bool false)))),none⟩,.b,[],[]⟩]) (.seq (.reg [⟨⟨(some 3),(.fad 12 (.t 1)),none⟩,.b,[],[]⟩,⟨⟨(some 4),(.load false 1 (.t 3)),none⟩,.b,[],[]⟩,⟨⟨(some 5),(.call 1 15 [(.t 4)]),none⟩,.b,[],[]⟩,⟨⟨(some 2),(.mov (.t 5)),none⟩,.b,[],[]⟩]) .ret)),[1,5],6,[.t 2],3⟩
theorem xf75_ok:xf75.ok Try.prog 75:=⟨_,_,Try.func75,rfl,by kernel_rfl,rfl,by kernel_rfl,rfl,by kernel_rfl,by kernel_rfl⟩
def tb75:List PE:=[pe15]
theorem tb75_ok:PEsOk Try.prog tb75:=⟨pe15_ok,trivial⟩
def ex75:List EX:=[]
theorem ex75_ok:EXsOk Try.prog ex75:=trivial
def in75:List IN:=[]
theorem in75_ok:INsOk Try.prog in75:=trivial
def F75:DT ((.co (.v (.p (.i .i64) (.p (.i .i64) (.p (.i .i64) (.p (.i .u64) (.p (.i .i64) (.p (.i .u64) (.p (.i .i64) (.p (.sl (.p (.i .i64) (.p (.i .u64) (.i .i64)))) (.p (.sl (.p (.i .u64) (.i .i64))) (.p (.i .u64) (.p (.i .u64) (.p (.i .i64) (.p .s (.p (.i .u64) .b))))))))))))))) .no):Fm).den→Option (DT (.v .b:Fm).den):=pureT tb75 ex75 in75 0 xf75 _ _ []
def pe75:PE:=⟨75,(.co (.v (.p (.i .i64) (.p (.i .i64) (.p (.i .i64) (.p (.i .u64) (.p (.i .i64) (.p (.i .u64) (.p (.i .i64) (.p (.sl (.p (.i .i64) (.p (.i .u64) (.i .i64)))) (.p (.sl (.p (.i .u64) (.i .i64))) (.p (.i .u64) (.p (.i .u64) (.p (.i .i64) (.p .s (.p (.i .u64) .b))))))))))))))) .no),.v .b,F75⟩
theorem pe75_ok:pe75.ok Try.prog:=pe_of hm tb75_ok ex75_ok in75_ok xf75_ok (by kernel_rfl) (fun _=>rfl)
def xf88:FX:=⟨(.seq (.reg [⟨⟨(some 2),(.mov (.c (.v (.string ⟨#[]⟩)))),none⟩,.b,[],[]⟩,⟨⟨(some 3),(.mov (.c (.v (.int .i64 0)))),none⟩,.b,[],[]⟩]) (.seq (.seq (.reg [⟨⟨(some 4),(.mov (.t 0)),none⟩,.b,[],[]⟩,⟨⟨(some 5),(.lenS (.t 4)),none⟩,.b,[],[]⟩,⟨⟨(some 6),(.bin .gtr (.t 5) (.c (.v (.int .i64 200)))),none⟩,.b,[],[]⟩]) (.cond (.t 6) (.seq (.reg [⟨⟨(some 2),(.mov (.c (.v (.string ⟨#[]⟩)))),none⟩,.b,[],[]⟩,⟨⟨(some 3),(.mov (.c (.v (.int .i64 4)))),none⟩,.b,[],[]⟩]) .ret) .skip)) (.seq (.reg [⟨⟨(some 7),(.mov (.t 0)),none⟩,.b,[],[]⟩,⟨⟨(some 8),(.lenS (.t 7)),none⟩,.b,[],[]⟩,⟨⟨(some 9),(.conv .u64 (.t 8)),none⟩,.b,[],[]⟩,⟨⟨(some 10),(.bsl 1 (.v (.int .u64 0)) 1 [(0,(.t 9))]),none⟩,.b,[],[]⟩,⟨⟨(some 11),(.call 0 22 [(.t 10)]),none⟩,.b,[],[]⟩,⟨⟨(some 12),(.mov (.t 0)),none⟩,.b,[],[]⟩,⟨⟨(some 13),(.bin .add (.t 11) (.t 12)),none⟩,.b,[],[]⟩,⟨⟨(some 2),(.mov (.t 13)),none⟩,.b,[],[]⟩,⟨⟨(some 3),(.mov (.c (.v (.int .i64 0)))),none⟩,.b,[],[]⟩]) .ret))),[11],14,[.t 2,.t 3],2⟩
theorem xf88_ok:xf88.ok Try.prog 88:=⟨_,_,Try.func88,rfl,by kernel_rfl,rfl,by kernel_rfl,rfl,by kernel_rfl,by kernel_rfl⟩
def tb88:List PE:=[pe22]
theorem tb88_ok:PEsOk Try.prog tb88:=⟨pe22_ok,trivial⟩
def ex88:List EX:=[]
theorem ex88_ok:EXsOk Try.prog ex88:=trivial
def in88:List IN:=[]
theorem in88_ok:INsOk Try.prog in88:=trivial
def F88:DT ((.co (.v .s) .no):Fm).den→Option (DT (.tup (.co (.v .s) (.co (.v (.i .i64)) .no)):Fm).den):=pureT tb88 ex88 in88 0 xf88 _ _ []
def pe88:PE:=⟨88,(.co (.v .s) .no),.tup (.co (.v .s) (.co (.v (.i .i64)) .no)),F88⟩
theorem pe88_ok:pe88.ok Try.prog:=pe_of hm tb88_ok ex88_ok in88_ok xf88_ok (by kernel_rfl) (fun _=>rfl)
def xf76:FX:=⟨(.seq (.reg [⟨⟨(some 1),(.box 0 15 (.t 0)),none⟩,.b,[],[]⟩,⟨⟨(some 2),(.mov (.c (.v (.string ⟨#[]⟩)))),none⟩,.b,[],[]⟩]) (.seq (.reg [⟨⟨(some 6),(.fad 12 (.t 1)),none⟩,.b,[],[]⟩,⟨⟨(some 7),(.load false 1 (.t 6)),none⟩,.b,[],[]⟩,⟨⟨(some 8),(.call 1 88 [(.t 7)]),none⟩,.b,[],[]⟩,⟨⟨(some 5),(.mov (.t 8)),none⟩,.b,[],[]⟩,⟨⟨(some 9),(.ext (.t 5) 0),none⟩,.b,[],[]⟩,⟨⟨(some 10),(.ext (.t 5) 1),none⟩,.b,[],[]⟩,⟨⟨(some 3),(.mov (.t 9)),none⟩,.b,[],[]⟩,⟨⟨(some 4),(.mov (.t 10)),none⟩,.b,[],[]⟩]) (.seq (.seq (.reg [⟨⟨(some 11),(.mov (.t 4)),none⟩,.b,[],[]⟩,⟨⟨(some 12),(.bin .neq (.t 11) (.c (.v (.int .i64 0)))),none⟩,.b,[],[]⟩]) (.cond (.t 12) (.seq (.reg [⟨⟨(some 2),(.mov (.c (.v (.string ⟨#[]⟩)))),none⟩,.b,[],[]⟩]) .ret) .skip)) (.seq (.reg [⟨⟨(some 13),(.mov (.t 3)),none⟩,.b,[],[]⟩,⟨⟨(some 2),(.mov (.t 13)),none⟩,.b,[],[]⟩]) .ret)))),[1,8],14,[.t 2],3⟩
theorem xf76_ok:xf76.ok Try.prog 76:=⟨_,_,Try.func76,rfl,by kernel_rfl,rfl,by kernel_rfl,rfl,by kernel_rfl,by kernel_rfl⟩
def tb76:List PE:=[pe88]
theorem tb76_ok:PEsOk Try.prog tb76:=⟨pe88_ok,trivial⟩
def ex76:List EX:=[]
theorem ex76_ok:EXsOk Try.prog ex76:=trivial
def in76:List IN:=[]
theorem in76_ok:INsOk Try.prog in76:=trivial
def F76:DT ((.co (.v (.p (.i .i64) (.p (.i .i64) (.p (.i .i64) (.p (.i .u64) (.p (.i .i64) (.p (.i .u64) (.p (.i .i64) (.p (.sl (.p (.i .i64) (.p (.i .u64) (.i .i64)))) (.p (.sl (.p (.i .u64) (.i .i64))) (.p (.i .u64) (.p (.i .u64) (.p (.i .i64) (.p .s (.p (.i .u64) .b))))))))))))))) .no):Fm).den→Option (DT (.v .s:Fm).den):=pureT tb76 ex76 in76 0 xf76 _ _ []
def pe76:PE:=⟨76,(.co (.v (.p (.i .i64) (.p (.i .i64) (.p (.i .i64) (.p (.i .u64) (.p (.i .i64) (.p (.i .u64) (.p (.i .i64) (.p (.sl (.p (.i .i64) (.p (.i .u64) (.i .i64)))) (.p (.sl (.p (.i .u64) (.i .i64))) (.p (.i .u64) (.p (.i .u64) (.p (.i .i64) (.p .s (.p (.i .u64) .b))))))))))))))) .no),.v .s,F76⟩
theorem pe76_ok:pe76.ok Try.prog:=pe_of hm tb76_ok ex76_ok in76_ok xf76_ok (by kernel_rfl) (fun _=>rfl)
def xf89:FX:=⟨(.seq (.reg [⟨⟨(some 4),(.mov (.c (.v (.string ⟨#[]⟩)))),none⟩,.b,[],[]⟩,⟨⟨(some 5),(.mov (.c (.v (.int .i64 0)))),none⟩,.b,[],[]⟩,⟨⟨(some 6),(.mov (.c (.v (.int .i64 0)))),none⟩,.b,[],[]⟩]) (.seq (.reg [⟨⟨(some 11),(.mov (.t 0)),none⟩,.b,[],[]⟩,⟨⟨(some 12),(.mov (.t 1)),none⟩,.b,[],[]⟩,⟨⟨(some 13),(.call 0 85 [(.t 11),(.t 12)]),none⟩,.b,[],[]⟩,⟨⟨(some 10),(.mov (.t 13)),none⟩,.b,[],[]⟩,⟨⟨(some 14),(.ext (.t 10) 0),none⟩,.b,[],[]⟩,⟨⟨(some 15),(.ext (.t 10) 1),none⟩,.b,[],[]⟩,⟨⟨(some 16),(.ext (.t 10) 2),none⟩,.b,[],[]⟩,⟨⟨(some 7),(.mov (.t 14)),none⟩,.b,[],[]⟩,⟨⟨(some 1),(.mov (.t 15)),none⟩,.b,[],[]⟩,⟨⟨(some 8),(.mov (.t 16)),none⟩,.b,[],[]⟩]) (.seq (.blk 0 (.seq (.reg [⟨⟨(some 18),(.mov (.t 8)),none⟩,.b,[],[]⟩,⟨⟨(some 19),(.bin .neq (.t 18) (.c (.v (.int .i64 0)))),none⟩,.b,[],[]⟩,⟨⟨(some 17),(.mov (.t 19)),none⟩,.b,[],[]⟩]) (.cond (.t 17) (.seq (.reg [⟨⟨(some 20),(.mov (.t 8)),none⟩,.b,[],[]⟩,⟨⟨(some 4),(.mov (.c (.v (.string ⟨#[]⟩)))),none⟩,.b,[],[]⟩,⟨⟨(some 5),(.mov (.c (.v (.int .i64 0)))),none⟩,.b,[],[]⟩,⟨⟨(some 6),(.mov (.t 20)),none⟩,.b,[],[]⟩]) .ret) (.seq (.reg [⟨⟨(some 22),(.mov (.t 7)),none⟩,.b,[],[]⟩,⟨⟨(some 23),(.bin .gtr (.t 22) (.c (.v (.int .u64 200)))),none⟩,.b,[],[]⟩,⟨⟨(some 21),(.mov (.t 23)),none⟩,.b,[],[]⟩]) (.cond (.t 21) (.seq (.reg [⟨⟨(some 4),(.mov (.c (.v (.string ⟨#[]⟩)))),none⟩,.b,[],[]⟩,⟨⟨(some 5),(.mov (.c (.v (.int .i64 0)))),none⟩,.b,[],[]⟩,⟨⟨(some 6),(.mov (.c (.v (.int .i64 4)))),none⟩,.b,[],[]⟩]) .ret) (.seq (.reg [⟨⟨(some 25),(.mov (.t 7)),none⟩,.b,[],[]⟩,⟨⟨(some 26),(.conv .i64 (.t 25)),none⟩,.b,[],[]⟩,⟨⟨(some 27),(.mov (.t 0)),none⟩,.b,[],[]⟩,⟨⟨(some 28),(.lenS (.t 27)),none⟩,.b,[],[]⟩,⟨⟨(some 29),(.mov (.t 1)),none⟩,.b,[],[]⟩,⟨⟨(some 30),(.bin .sub (.t 28) (.t 29)),none⟩,.b,[],[]⟩,⟨⟨(some 31),(.bin .gtr (.t 26) (.t 30)),none⟩,.b,[],[]⟩,⟨⟨(some 24),(.mov (.t 31)),none⟩,.b,[],[]⟩]) (.cond (.t 24) (.seq (.reg [⟨⟨(some 4),(.mov (.c (.v (.string ⟨#[]⟩)))),none⟩,.b,[],[]⟩,⟨⟨(some 5),(.mov (.c (.v (.int .i64 0)))),none⟩,.b,[],[]⟩,⟨⟨(some 6),(.mov (.c (.v (.int .i64 3)))),none⟩,.b,[],[]⟩]) .ret) .skip))))))) (.seq (.reg [⟨⟨(some 32),(.mov (.t 1)),none⟩,.b,[],[]⟩,⟨⟨(some 33),(.mov (.t 7)),none⟩,.b,[],[]⟩,⟨⟨(some 34),(.conv .i64 (.t 33)),none⟩,.b,[],[]⟩,⟨⟨(some 35),(.bin .add (.t 32) (.t 34)),none⟩,.b,[],[]⟩,⟨⟨(some 9),(.mov (.t 35)),none⟩,.b,[],[]⟩]) (.seq (.reg [⟨⟨(some 36),(.mov (.t 0)),none⟩,.b,[],[]⟩,⟨⟨(some 37),(.mov (.t 1)),none⟩,.b,[],[]⟩,⟨⟨(some 38),(.mov (.t 9)),none⟩,.b,[],[]⟩,⟨⟨(some 39),(.slS (.t 36) (some (.t 37)) (some (.t 38))),none⟩,.b,[],[]⟩,⟨⟨(some 40),(.mov (.t 9)),none⟩,.b,[],[]⟩,⟨⟨(some 4),(.mov (.t 39)),none⟩,.b,[],[]⟩,⟨⟨(some 5),(.mov (.t 40)),none⟩,.b,[],[]⟩,⟨⟨(some 6),(.mov (.c (.v (.int .i64 0)))),none⟩,.b,[],[]⟩]) .ret))))),[13],41,[.t 4,.t 5,.t 6],2⟩
theorem xf89_ok:xf89.ok Try.prog 89:=⟨_,_,Try.func89,rfl,by kernel_rfl,rfl,by kernel_rfl,rfl,by kernel_rfl,by kernel_rfl⟩
def tb89:List PE:=[pe85]
theorem tb89_ok:PEsOk Try.prog tb89:=⟨pe85_ok,trivial⟩
def ex89:List EX:=[]
theorem ex89_ok:EXsOk Try.prog ex89:=trivial
def in89:List IN:=[]
theorem in89_ok:INsOk Try.prog in89:=trivial
def F89:DT ((.co (.v .s) (.co (.v (.i .i64)) .no)):Fm).den→Option (DT (.tup (.co (.v .s) (.co (.v (.i .i64)) (.co (.v (.i .i64)) .no))):Fm).den):=pureT tb89 ex89 in89 0 xf89 _ _ []
def pe89:PE:=⟨89,(.co (.v .s) (.co (.v (.i .i64)) .no)),.tup (.co (.v .s) (.co (.v (.i .i64)) (.co (.v (.i .i64)) .no))),F89⟩
theorem pe89_ok:pe89.ok Try.prog:=pe_of hm tb89_ok ex89_ok in89_ok xf89_ok (by kernel_rfl) (fun _=>rfl)
def xf79:FX:=⟨(.seq (.reg [⟨⟨(some 2),(.mov (.c (.v (.int .u64 0)))),none⟩,.b,[],[]⟩]) (.seq (.seq (.reg [⟨⟨(some 3),(.mov (.t 0)),none⟩,.b,[],[]⟩]) (.cond (.t 3) (.seq (.reg [⟨⟨(some 2),(.mov (.c (.v (.int .u64 1)))),none⟩,.b,[],[]⟩]) .ret) .skip)) (.seq (.reg [⟨⟨(some 2),(.mov (.c (.v (.int .u64 0)))),none⟩,.b,[],[]⟩]) .ret))),[],4,[.t 2],1⟩
theorem xf79_ok:xf79.ok Try.prog 79:=⟨_,_,Try.func79,rfl,by kernel_rfl,rfl,by kernel_rfl,rfl,by kernel_rfl,by kernel_rfl⟩
def tb79:List PE:=[]
theorem tb79_ok:PEsOk Try.prog tb79:=trivial
def ex79:List EX:=[]
theorem ex79_ok:EXsOk Try.prog ex79:=trivial
def in79:List IN:=[]
theorem in79_ok:INsOk Try.prog in79:=trivial
def F79:DT ((.co (.v .b) .no):Fm).den→Option (DT (.v (.i .u64):Fm).den):=pureT tb79 ex79 in79 0 xf79 _ _ []
def pe79:PE:=⟨79,(.co (.v .b) .no),.v (.i .u64),F79⟩
theorem pe79_ok:pe79.ok Try.prog:=pe_of hm tb79_ok ex79_ok in79_ok xf79_ok (by kernel_rfl) (fun _=>rfl)
def xf78:FX:=⟨(.seq (.reg [⟨⟨(some 1),(.box 0 15 (.t 0)),none⟩,.b,[],[]⟩,⟨⟨(some 2),(.mov (.c (.v (.string ⟨#[]⟩)))),none⟩,.b,[],[]⟩]) (.seq (.reg [⟨⟨(some 3),(.fad 14 (.t 1)),none⟩,.b,[],[]⟩,⟨⟨(some 4),(.load false 1 (.t 3)),none⟩,.b,[],[]⟩,⟨⟨(some 5),(.call 1 79 [(.t 4)]),none⟩,.b,[],[]⟩,⟨⟨(some 6),(.bsl 1 (.v (.int .u64 0)) 1 [(0,(.t 5))]),none⟩,.b,[],[]⟩,⟨⟨(some 7),(.call 2 22 [(.t 6)]),none⟩,.b,[],[]⟩,⟨⟨(some 2),(.mov (.t 7)),none⟩,.b,[],[]⟩]) .ret)),[1,5,7],8,[.t 2],4⟩
theorem xf78_ok:xf78.ok Try.prog 78:=⟨_,_,Try.func78,rfl,by kernel_rfl,rfl,by kernel_rfl,rfl,by kernel_rfl,by kernel_rfl⟩
def tb78:List PE:=[pe22,pe79]
theorem tb78_ok:PEsOk Try.prog tb78:=⟨pe22_ok,pe79_ok,trivial⟩
def ex78:List EX:=[]
theorem ex78_ok:EXsOk Try.prog ex78:=trivial
def in78:List IN:=[]
theorem in78_ok:INsOk Try.prog in78:=trivial
def F78:DT ((.co (.v (.p (.i .i64) (.p (.i .i64) (.p (.i .i64) (.p (.i .u64) (.p (.i .i64) (.p (.i .u64) (.p (.i .i64) (.p (.sl (.p (.i .i64) (.p (.i .u64) (.i .i64)))) (.p (.sl (.p (.i .u64) (.i .i64))) (.p (.i .u64) (.p (.i .u64) (.p (.i .i64) (.p .s (.p (.i .u64) .b))))))))))))))) .no):Fm).den→Option (DT (.v .s:Fm).den):=pureT tb78 ex78 in78 0 xf78 _ _ []
def pe78:PE:=⟨78,(.co (.v (.p (.i .i64) (.p (.i .i64) (.p (.i .i64) (.p (.i .u64) (.p (.i .i64) (.p (.i .u64) (.p (.i .i64) (.p (.sl (.p (.i .i64) (.p (.i .u64) (.i .i64)))) (.p (.sl (.p (.i .u64) (.i .i64))) (.p (.i .u64) (.p (.i .u64) (.p (.i .i64) (.p .s (.p (.i .u64) .b))))))))))))))) .no),.v .s,F78⟩
theorem pe78_ok:pe78.ok Try.prog:=pe_of hm tb78_ok ex78_ok in78_ok xf78_ok (by kernel_rfl) (fun _=>rfl)
def xf24:FX:=⟨(.seq (.reg [⟨⟨(some 2),(.mov (.c (.sl true []))),none⟩,.b,[],[]⟩]) (.seq (.reg [⟨⟨(some 3),(.mkm 0),none⟩,.b,[],[]⟩,⟨⟨(some 4),(.bsl 1 (.v (.string ⟨#[]⟩)) 3 [(0,(.c (.v (.string ⟨#[115,101,113]⟩)))),(1,(.c (.v (.string ⟨#[107]⟩)))),(2,(.c (.v (.string ⟨#[110,101,119,115]⟩))))]),none⟩,.b,[],[]⟩,⟨⟨none,(.mup .i (.t 3) (.c (.v (.int .i64 1))) (.t 4)),none⟩,.b,[],[]⟩,⟨⟨(some 5),(.bsl 1 (.v (.string ⟨#[]⟩)) 3 [(0,(.c (.v (.string ⟨#[115,101,113]⟩)))),(1,(.c (.v (.string ⟨#[119,104,111]⟩)))),(2,(.c (.v (.string ⟨#[110,101,119,115]⟩))))]),none⟩,.b,[],[]⟩,⟨⟨none,(.mup .i (.t 3) (.c (.v (.int .i64 2))) (.t 5)),none⟩,.b,[],[]⟩,⟨⟨(some 6),(.bsl 1 (.v (.string ⟨#[]⟩)) 4 [(0,(.c (.v (.string ⟨#[115,101,113]⟩)))),(1,(.c (.v (.string ⟨#[119,104,111]⟩)))),(2,(.c (.v (.string ⟨#[107]⟩)))),(3,(.c (.v (.string ⟨#[110,101,119,115]⟩))))]),none⟩,.b,[],[]⟩,⟨⟨none,(.mup .i (.t 3) (.c (.v (.int .i64 3))) (.t 6)),none⟩,.b,[],[]⟩,⟨⟨(some 7),(.bsl 1 (.v (.string ⟨#[]⟩)) 2 [(0,(.c (.v (.string ⟨#[115,101,113]⟩)))),(1,(.c (.v (.string ⟨#[119,104,111]⟩))))]),none⟩,.b,[],[]⟩,⟨⟨none,(.mup .i (.t 3) (.c (.v (.int .i64 4))) (.t 7)),none⟩,.b,[],[]⟩,⟨⟨(some 8),(.bsl 1 (.v (.string ⟨#[]⟩)) 1 [(0,(.c (.v (.string ⟨#[116,97,98,108,101]⟩))))]),none⟩,.b,[],[]⟩,⟨⟨none,(.mup .i (.t 3) (.c (.v (.int .i64 5))) (.t 8)),none⟩,.b,[],[]⟩,⟨⟨(some 9),(.bsl 1 (.v (.string ⟨#[]⟩)) 1 [(0,(.c (.v (.string ⟨#[116,97,98,108,101]⟩))))]),none⟩,.b,[],[]⟩,⟨⟨none,(.mup .i (.t 3) (.c (.v (.int .i64 6))) (.t 9)),none⟩,.b,[],[]⟩,⟨⟨(some 10),(.bsl 1 (.v (.string ⟨#[]⟩)) 3 [(0,(.c (.v (.string ⟨#[101,112,111,99,104]⟩)))),(1,(.c (.v (.string ⟨#[98,111,111,116]⟩)))),(2,(.c (.v (.string ⟨#[97,115,107,101,100]⟩))))]),none⟩,.b,[],[]⟩,⟨⟨none,(.mup .i (.t 3) (.c (.v (.int .i64 7))) (.t 10)),none⟩,.b,[],[]⟩,⟨⟨(some 11),(.bsl 1 (.v (.string ⟨#[]⟩)) 3 [(0,(.c (.v (.string ⟨#[101,112,111,99,104]⟩)))),(1,(.c (.v (.string ⟨#[98,111,111,116]⟩)))),(2,(.c (.v (.string ⟨#[97,115,107,101,100]⟩))))]),none⟩,.b,[],[]⟩,⟨⟨none,(.mup .i (.t 3) (.c (.v (.int .i64 8))) (.t 11)),none⟩,.b,[],[]⟩,⟨⟨(some 12),(.bsl 1 (.v (.string ⟨#[]⟩)) 2 [(0,(.c (.v (.string ⟨#[101,112,111,99,104]⟩)))),(1,(.c (.v (.string ⟨#[98,111,111,116]⟩))))]),none⟩,.b,[],[]⟩,⟨⟨none,(.mup .i (.t 3) (.c (.v (.int .i64 9))) (.t 12)),none⟩,.b,[],[]⟩,⟨⟨(some 13),(.bsl 1 (.v (.string ⟨#[]⟩)) 2 [(0,(.c (.v (.string ⟨#[98,111,111,116]⟩)))),(1,(.c (.v (.string ⟨#[97,115,107,101,100]⟩))))]),none⟩,.b,[],[]⟩,⟨⟨none,(.mup .i (.t 3) (.c (.v (.int .i64 10))) (.t 13)),none⟩,.b,[],[]⟩,⟨⟨(some 14),(.bsl 1 (.v (.string ⟨#[]⟩)) 5 [(0,(.c (.v (.string ⟨#[101,112,111,99,104]⟩)))),(1,(.c (.v (.string ⟨#[98,111,111,116]⟩)))),(2,(.c (.v (.string ⟨#[97,115,107,101,100]⟩)))),(3,(.c (.v (.string ⟨#[116,97,115,107]⟩)))),(4,(.c (.v (.string ⟨#[116,111,107,101,110]⟩))))]),none⟩,.b,[],[]⟩,⟨⟨none,(.mup .i (.t 3) (.c (.v (.int .i64 11))) (.t 14)),none⟩,.b,[],[]⟩,⟨⟨(some 15),(.bsl 1 (.v (.string ⟨#[]⟩)) 3 [(0,(.c (.v (.string ⟨#[116,97,115,107]⟩)))),(1,(.c (.v (.string ⟨#[116,111,107,101,110]⟩)))),(2,(.c (.v (.string ⟨#[103,111,111,100]⟩))))]),none⟩,.b,[],[]⟩,⟨⟨none,(.mup .i (.t 3) (.c (.v (.int .i64 12))) (.t 15)),none⟩,.b,[],[]⟩,⟨⟨(some 16),(.mov (.t 3)),none⟩,.b,[],[]⟩,⟨⟨(some 17),(.mov (.t 0)),none⟩,.b,[],[]⟩,⟨⟨(some 18),(.lkp false .i (.sl true []) (.t 16) (.t 17)),none⟩,.b,[],[]⟩,⟨⟨(some 2),(.mov (.t 18)),none⟩,.b,[],[]⟩]) .ret)),[3],19,[.t 2],2⟩
theorem xf24_ok:xf24.ok Try.prog 24:=⟨_,_,Try.func24,rfl,by kernel_rfl,rfl,by kernel_rfl,rfl,by kernel_rfl,by kernel_rfl⟩
def tb24:List PE:=[]
theorem tb24_ok:PEsOk Try.prog tb24:=trivial
def ex24:List EX:=[]
theorem ex24_ok:EXsOk Try.prog ex24:=trivial
def in24:List IN:=[]
theorem in24_ok:INsOk Try.prog in24:=trivial
def F24:DT ((.co (.v (.i .i64)) .no):Fm).den→Option (DT (.v (.sl .s):Fm).den):=pureT tb24 ex24 in24 0 xf24 _ _ []
def pe24:PE:=⟨24,(.co (.v (.i .i64)) .no),.v (.sl .s),F24⟩
theorem pe24_ok:pe24.ok Try.prog:=pe_of hm tb24_ok ex24_ok in24_ok xf24_ok (by kernel_rfl) (fun _=>rfl)
def xf27:FX:=⟨(.seq (.reg [⟨⟨(some 1),(.box 0 15 (.t 0)),none⟩,.b,[],[]⟩,⟨⟨(some 2),(.alloc 1 (.agg [(.v (.int .i64 0)),(.v (.int .i64 0)),(.v (.int .i64 0)),(.v (.int .u64 0)),(.v (.int .i64 0)),(.v (.int .u64 0)),(.v (.int .i64 0)),(.sl true []),(.sl true []),(.v (.int .u64 0)),(.v (.int .u64 0)),(.v (.int .i64 0)),(.v (.string ⟨#[]⟩)),(.v (.int .u64 0)),(.v (.bool false))])),none⟩,.b,[],[]⟩]) (.seq (.reg [⟨⟨(some 6),(.fad 0 (.t 1)),none⟩,.b,[],[]⟩,⟨⟨(some 7),(.load false 1 (.t 6)),none⟩,.b,[],[]⟩,⟨⟨(some 8),(.fad 1 (.t 1)),none⟩,.b,[],[]⟩,⟨⟨(some 9),(.load false 1 (.t 8)),none⟩,.b,[],[]⟩,⟨⟨(some 10),(.fad 2 (.t 1)),none⟩,.b,[],[]⟩,⟨⟨(some 11),(.load false 1 (.t 10)),none⟩,.b,[],[]⟩,⟨⟨(some 12),(.bld [(.v (.int .i64 0)),(.v (.int .i64 0)),(.v (.int .i64 0)),(.v (.int .u64 0)),(.v (.int .i64 0)),(.v (.int .u64 0)),(.v (.int .i64 0)),(.sl true []),(.sl true []),(.v (.int .u64 0)),(.v (.int .u64 0)),(.v (.int .i64 0)),(.v (.string ⟨#[]⟩)),(.v (.int .u64 0)),(.v (.bool false))] [(0,1,(.t 7)),(1,1,(.t 9)),(2,1,(.t 11))]),none⟩,.b,[],[]⟩,⟨⟨(some 3),(.alloc 2 (.agg [(.v (.int .i64 0)),(.v (.int .i64 0)),(.v (.int .i64 0)),(.v (.int .u64 0)),(.v (.int .i64 0)),(.v (.int .u64 0)),(.v (.int .i64 0)),(.sl true []),(.sl true []),(.v (.int .u64 0)),(.v (.int .u64 0)),(.v (.int .i64 0)),(.v (.string ⟨#[]⟩)),(.v (.int .u64 0)),(.v (.bool false))])),none⟩,.b,[],[]⟩,⟨⟨none,(.store 15 (.t 3) (.t 12)),none⟩,.b,[],[]⟩]) (.seq (.seq (.reg [⟨⟨(some 13),(.fad 0 (.t 1)),none⟩,.b,[],[]⟩,⟨⟨(some 14),(.load false 1 (.t 13)),none⟩,.b,[],[]⟩,⟨⟨(some 15),(.call 3 24 [(.t 14)]),none⟩,.b,[],[]⟩,⟨⟨(some 16),(.len (.t 15)),none⟩,.b,[],[]⟩,⟨⟨(some 17),(.mov (.c (.v (.int .i64 0)))),none⟩,.b,[],[]⟩]) (.blk 0 (.loop ⟨[5,17,18,19,20,21,22,23,24,25,26,27,28,29,30,31,32,33,34,35,36,37,38,39,40,41,42,43,44,45,46,47,48,49,50,51,52,53,54,55,56,57,58,59,60,61,62,63,64,65,66,67,68,69,70,71,72,73,74,75,76,77],[2],⟨[],[(17,.v (.i .i64))],[⟨2,.row (.v (.p (.i .i64) (.p (.i .i64) (.p (.i .i64) (.p (.i .u64) (.p (.i .i64) (.p (.i .u64) (.p (.i .i64) (.p (.sl (.p (.i .i64) (.p (.i .u64) (.i .i64)))) (.p (.sl (.p (.i .u64) (.i .i64))) (.p (.i .u64) (.p (.i .u64) (.p (.i .i64) (.p .s (.p (.i .u64) .b))))))))))))))),true⟩]⟩⟩ (.seq (.reg [⟨⟨(some 18),(.bin .lss (.t 17) (.t 16)),none⟩,.b,[],[]⟩]) (.seq (.cond (.t 18) .skip (.exit 0)) (.seq (.cutN ⟨[5,19,20,21,22,23,24,25,26,27,28,29,30,31,32,33,34,35,36,37,38,39,40,41,42,43,44,45,46,47,48,49,50,51,52,53,54,55,56,57,58,59,60,61,62,63,64,65,66,67,68,69,70,71,72,73,74,75,76],[2],⟨[],[],[⟨2,.row (.v (.p (.i .i64) (.p (.i .i64) (.p (.i .i64) (.p (.i .u64) (.p (.i .i64) (.p (.i .u64) (.p (.i .i64) (.p (.sl (.p (.i .i64) (.p (.i .u64) (.i .i64)))) (.p (.sl (.p (.i .u64) (.i .i64))) (.p (.i .u64) (.p (.i .u64) (.p (.i .i64) (.p .s (.p (.i .u64) .b))))))))))))))),true⟩]⟩⟩ (.blk 1 (.seq (.reg [⟨⟨(some 19),(.iad 1 (.t 15) (.t 17)),none⟩,.b,[],[]⟩,⟨⟨(some 20),(.load false 1 (.t 19)),none⟩,.b,[],[]⟩,⟨⟨(some 5),(.mov (.t 20)),none⟩,.b,[],[]⟩]) (.seq (.reg [⟨⟨(some 21),(.mov (.t 5)),none⟩,.b,[],[]⟩]) (.blk 2 (.seq (.reg [⟨⟨(some 23),(.bin .eql (.t 21) (.c (.v (.string ⟨#[115,101,113]⟩)))),none⟩,.b,[],[]⟩,⟨⟨(some 22),(.mov (.t 23)),none⟩,.b,[],[]⟩]) (.cond (.t 22) (.reg [⟨⟨(some 24),(.fad 3 (.t 1)),none⟩,.b,[],[]⟩,⟨⟨(some 25),(.load false 1 (.t 24)),none⟩,.b,[],[]⟩,⟨⟨(some 26),(.fad 3 (.t 3)),none⟩,.b,[],[]⟩,⟨⟨none,(.store 1 (.t 26) (.t 25)),none⟩,.b,[],[]⟩]) (.seq (.reg [⟨⟨(some 28),(.bin .eql (.t 21) (.c (.v (.string ⟨#[119,104,111]⟩)))),none⟩,.b,[],[]⟩,⟨⟨(some 27),(.mov (.t 28)),none⟩,.b,[],[]⟩]) (.cond (.t 27) (.reg [⟨⟨(some 29),(.fad 4 (.t 1)),none⟩,.b,[],[]⟩,⟨⟨(some 30),(.load false 1 (.t 29)),none⟩,.b,[],[]⟩,⟨⟨(some 31),(.fad 4 (.t 3)),none⟩,.b,[],[]⟩,⟨⟨none,(.store 1 (.t 31) (.t 30)),none⟩,.b,[],[]⟩]) (.seq (.reg [⟨⟨(some 33),(.bin .eql (.t 21) (.c (.v (.string ⟨#[107]⟩)))),none⟩,.b,[],[]⟩,⟨⟨(some 32),(.mov (.t 33)),none⟩,.b,[],[]⟩]) (.cond (.t 32) (.reg [⟨⟨(some 34),(.fad 5 (.t 1)),none⟩,.b,[],[]⟩,⟨⟨(some 35),(.load true 2 (.t 34)),none⟩,.b,[],[]⟩,⟨⟨(some 36),(.fad 5 (.t 3)),none⟩,.b,[],[]⟩,⟨⟨none,(.store 2 (.t 36) (.t 35)),none⟩,.b,[],[]⟩]) (.seq (.reg [⟨⟨(some 38),(.bin .eql (.t 21) (.c (.v (.string ⟨#[110,101,119,115]⟩)))),none⟩,.b,[],[]⟩,⟨⟨(some 37),(.mov (.t 38)),none⟩,.b,[],[]⟩]) (.cond (.t 37) (.reg [⟨⟨(some 39),(.fad 7 (.t 1)),none⟩,.b,[],[]⟩,⟨⟨(some 40),(.load false 1 (.t 39)),none⟩,.b,[],[]⟩,⟨⟨(some 41),(.fad 7 (.t 3)),none⟩,.b,[],[]⟩,⟨⟨none,(.store 1 (.t 41) (.t 40)),none⟩,.b,[],[]⟩]) (.seq (.reg [⟨⟨(some 43),(.bin .eql (.t 21) (.c (.v (.string ⟨#[116,97,98,108,101]⟩)))),none⟩,.b,[],[]⟩,⟨⟨(some 42),(.mov (.t 43)),none⟩,.b,[],[]⟩]) (.cond (.t 42) (.reg [⟨⟨(some 44),(.fad 8 (.t 1)),none⟩,.b,[],[]⟩,⟨⟨(some 45),(.load false 1 (.t 44)),none⟩,.b,[],[]⟩,⟨⟨(some 46),(.fad 8 (.t 3)),none⟩,.b,[],[]⟩,⟨⟨none,(.store 1 (.t 46) (.t 45)),none⟩,.b,[],[]⟩]) (.seq (.reg [⟨⟨(some 48),(.bin .eql (.t 21) (.c (.v (.string ⟨#[101,112,111,99,104]⟩)))),none⟩,.b,[],[]⟩,⟨⟨(some 47),(.mov (.t 48)),none⟩,.b,[],[]⟩]) (.cond (.t 47) (.reg [⟨⟨(some 49),(.fad 9 (.t 1)),none⟩,.b,[],[]⟩,⟨⟨(some 50),(.load false 1 (.t 49)),none⟩,.b,[],[]⟩,⟨⟨(some 51),(.fad 9 (.t 3)),none⟩,.b,[],[]⟩,⟨⟨none,(.store 1 (.t 51) (.t 50)),none⟩,.b,[],[]⟩]) (.seq (.reg [⟨⟨(some 53),(.bin .eql (.t 21) (.c (.v (.string ⟨#[98,111,111,116]⟩)))),none⟩,.b,[],[]⟩,⟨⟨(some 52),(.mov (.t 53)),none⟩,.b,[],[]⟩]) (.cond (.t 52) (.reg [⟨⟨(some 54),(.fad 10 (.t 1)),none⟩,.b,[],[]⟩,⟨⟨(some 55),(.load false 1 (.t 54)),none⟩,.b,[],[]⟩,⟨⟨(some 56),(.fad 10 (.t 3)),none⟩,.b,[],[]⟩,⟨⟨none,(.store 1 (.t 56) (.t 55)),none⟩,.b,[],[]⟩]) (.seq (.reg [⟨⟨(some 58),(.bin .eql (.t 21) (.c (.v (.string ⟨#[97,115,107,101,100]⟩)))),none⟩,.b,[],[]⟩,⟨⟨(some 57),(.mov (.t 58)),none⟩,.b,[],[]⟩]) (.cond (.t 57) (.reg [⟨⟨(some 59),(.fad 11 (.t 1)),none⟩,.b,[],[]⟩,⟨⟨(some 60),(.load false 1 (.t 59)),none⟩,.b,[],[]⟩,⟨⟨(some 61),(.fad 11 (.t 3)),none⟩,.b,[],[]⟩,⟨⟨none,(.store 1 (.t 61) (.t 60)),none⟩,.b,[],[]⟩]) (.seq (.reg [⟨⟨(some 63),(.bin .eql (.t 21) (.c (.v (.string ⟨#[116,97,115,107]⟩)))),none⟩,.b,[],[]⟩,⟨⟨(some 62),(.mov (.t 63)),none⟩,.b,[],[]⟩]) (.cond (.t 62) (.reg [⟨⟨(some 64),(.fad 12 (.t 1)),none⟩,.b,[],[]⟩,⟨⟨(some 65),(.load false 1 (.t 64)),none⟩,.b,[],[]⟩,⟨⟨(some 66),(.fad 12 (.t 3)),none⟩,.b,[],[]⟩,⟨⟨none,(.store 1 (.t 66) (.t 65)),none⟩,.b,[],[]⟩]) (.seq (.reg [⟨⟨(some 68),(.bin .eql (.t 21) (.c (.v (.string ⟨#[116,111,107,101,110]⟩)))),none⟩,.b,[],[]⟩,⟨⟨(some 67),(.mov (.t 68)),none⟩,.b,[],[]⟩]) (.cond (.t 67) (.reg [⟨⟨(some 69),(.fad 13 (.t 1)),none⟩,.b,[],[]⟩,⟨⟨(some 70),(.load false 1 (.t 69)),none⟩,.b,[],[]⟩,⟨⟨(some 71),(.fad 13 (.t 3)),none⟩,.b,[],[]⟩,⟨⟨none,(.store 1 (.t 71) (.t 70)),none⟩,.b,[],[]⟩]) (.seq (.reg [⟨⟨(some 73),(.bin .eql (.t 21) (.c (.v (.string ⟨#[103,111,111,100]⟩)))),none⟩,.b,[],[]⟩,⟨⟨(some 72),(.mov (.t 73)),none⟩,.b,[],[]⟩]) (.cond (.t 72) (.reg [⟨⟨(some 74),(.fad 14 (.t 1)),none⟩,.b,[],[]⟩,⟨⟨(some 75),(.load false 1 (.t 74)),none⟩,.b,[],[]⟩,⟨⟨(some 76),(.fad 14 (.t 3)),none⟩,.b,[],[]⟩,⟨⟨none,(.store 1 (.t 76) (.t 75)),none⟩,.b,[],[]⟩]) .skip))))))))))))))))))))))))))) (.reg [⟨⟨(some 77),(.bin .add (.t 17) (.c (.v (.int .i64 1)))),none⟩,.b,[],[]⟩,⟨⟨(some 17),(.mov (.t 77)),none⟩,.b,[],[]⟩]))))))) (.seq (.reg [⟨⟨(some 78),(.load true 15 (.t 3)),none⟩,.b,[],[]⟩,⟨⟨none,(.store 15 (.t 2) (.t 78)),none⟩,.b,[],[]⟩]) .ret)))),[1,2,3,15],79,[.c 2 28 true 15],5⟩
theorem xf27_ok:xf27.ok Try.prog 27:=⟨_,_,Try.func27,rfl,by kernel_rfl,rfl,by kernel_rfl,rfl,by kernel_rfl,by kernel_rfl⟩
def tb27:List PE:=[pe24]
theorem tb27_ok:PEsOk Try.prog tb27:=⟨pe24_ok,trivial⟩
def ex27:List EX:=[]
theorem ex27_ok:EXsOk Try.prog ex27:=trivial
def in27:List IN:=[]
theorem in27_ok:INsOk Try.prog in27:=trivial
def F27:DT ((.co (.v (.p (.i .i64) (.p (.i .i64) (.p (.i .i64) (.p (.i .u64) (.p (.i .i64) (.p (.i .u64) (.p (.i .i64) (.p (.sl (.p (.i .i64) (.p (.i .u64) (.i .i64)))) (.p (.sl (.p (.i .u64) (.i .i64))) (.p (.i .u64) (.p (.i .u64) (.p (.i .i64) (.p .s (.p (.i .u64) .b))))))))))))))) .no):Fm).den→Option (DT (.v (.p (.i .i64) (.p (.i .i64) (.p (.i .i64) (.p (.i .u64) (.p (.i .i64) (.p (.i .u64) (.p (.i .i64) (.p (.sl (.p (.i .i64) (.p (.i .u64) (.i .i64)))) (.p (.sl (.p (.i .u64) (.i .i64))) (.p (.i .u64) (.p (.i .u64) (.p (.i .i64) (.p .s (.p (.i .u64) .b)))))))))))))):Fm).den):=pureT tb27 ex27 in27 0 xf27 _ _ []
def pe27:PE:=⟨27,(.co (.v (.p (.i .i64) (.p (.i .i64) (.p (.i .i64) (.p (.i .u64) (.p (.i .i64) (.p (.i .u64) (.p (.i .i64) (.p (.sl (.p (.i .i64) (.p (.i .u64) (.i .i64)))) (.p (.sl (.p (.i .u64) (.i .i64))) (.p (.i .u64) (.p (.i .u64) (.p (.i .i64) (.p .s (.p (.i .u64) .b))))))))))))))) .no),.v (.p (.i .i64) (.p (.i .i64) (.p (.i .i64) (.p (.i .u64) (.p (.i .i64) (.p (.i .u64) (.p (.i .i64) (.p (.sl (.p (.i .i64) (.p (.i .u64) (.i .i64)))) (.p (.sl (.p (.i .u64) (.i .i64))) (.p (.i .u64) (.p (.i .u64) (.p (.i .i64) (.p .s (.p (.i .u64) .b)))))))))))))),F27⟩
theorem pe27_ok:pe27.ok Try.prog:=pe_of hm tb27_ok ex27_ok in27_ok xf27_ok (by kernel_rfl) (fun _=>rfl)
def xf11:FX:=⟨(.seq (.reg [⟨⟨(some 1),(.box 0 15 (.t 0)),none⟩,.b,[],[]⟩,⟨⟨(some 2),(.mov (.c (.v (.int .i64 0)))),none⟩,.b,[],[]⟩]) (.seq (.cut ⟨[2,6,7,8,9,10,11,12,13,14,15,16,17,18,19,20,21,22,23,24,25,26,27,28,29,30,31,32,33,34,35,36,37,38,39],[],⟨[],[],[]⟩⟩ (.seq (.cutN ⟨[6,7,8,9,10,11,12,13,14,15,16,17,18,19,20,21,22,23,24,25,26,27,28,29,30,31,32,33,34,35,36,37,38,39],[],⟨[],[(39,.v .b)],[]⟩⟩ (.dr [(28,30)] [⟨⟨(some 6),(.fad 0 (.t 1)),none⟩,.b,[],[]⟩,⟨⟨(some 7),(.load false 1 (.t 6)),none⟩,.b,[],[]⟩,⟨⟨(some 8),(.bin .lss (.t 7) (.c (.v (.int .i64 1)))),none⟩,.b,[],[]⟩,⟨⟨(some 9),(.mov (.t 8)),none⟩,.b,[],[]⟩,⟨⟨(some 10),(.fad 0 (.t 1)),(some (9,false))⟩,.b,[],[]⟩,⟨⟨(some 11),(.load false 1 (.t 10)),(some (9,false))⟩,.b,[],[]⟩,⟨⟨(some 12),(.bin .gtr (.t 11) (.c (.v (.int .i64 12)))),(some (9,false))⟩,.b,[],[]⟩,⟨⟨(some 13),(.pick (.t 9) (.c (.v (.bool true))) (.t 12)),none⟩,.b,[],[]⟩,⟨⟨(some 14),(.mov (.t 13)),none⟩,.b,[],[]⟩,⟨⟨(some 15),(.fad 1 (.t 1)),(some (14,false))⟩,.b,[],[]⟩,⟨⟨(some 16),(.load false 1 (.t 15)),(some (14,false))⟩,.b,[],[]⟩,⟨⟨(some 17),(.callG 1 26 [(.t 16)]),(some (14,false))⟩,.b,[],[]⟩,⟨⟨(some 18),(.un .not (.t 17)),(some (14,false))⟩,.b,[],[]⟩,⟨⟨(some 19),(.pick (.t 14) (.c (.v (.bool true))) (.t 18)),none⟩,.b,[],[]⟩,⟨⟨(some 20),(.mov (.t 19)),none⟩,.b,[],[]⟩,⟨⟨(some 21),(.fad 2 (.t 1)),(some (20,false))⟩,.b,[],[]⟩,⟨⟨(some 22),(.load false 1 (.t 21)),(some (20,false))⟩,.b,[],[]⟩,⟨⟨(some 23),(.callG 2 26 [(.t 22)]),(some (20,false))⟩,.b,[],[]⟩,⟨⟨(some 24),(.un .not (.t 23)),(some (20,false))⟩,.b,[],[]⟩,⟨⟨(some 25),(.pick (.t 20) (.c (.v (.bool true))) (.t 24)),none⟩,.b,[],[]⟩,⟨⟨(some 26),(.mov (.t 25)),none⟩,.b,[],[]⟩,⟨⟨(some 27),(.fad 1 (.t 1)),(some (26,false))⟩,.b,[],[]⟩,⟨⟨(some 28),(.load false 1 (.t 27)),(some (26,false))⟩,.b,[],[]⟩,⟨⟨(some 29),(.fad 2 (.t 1)),(some (26,false))⟩,.b,[],[]⟩,⟨⟨(some 30),(.load false 1 (.t 29)),(some (26,false))⟩,.b,[],[]⟩,⟨⟨(some 31),(.bin .eql (.t 28) (.t 30)),(some (26,false))⟩,.b,[],[]⟩,⟨⟨(some 32),(.pick (.t 26) (.c (.v (.bool true))) (.t 31)),none⟩,.b,[],[]⟩,⟨⟨(some 33),(.mov (.t 32)),none⟩,.b,[],[]⟩,⟨⟨(some 34),(.load true 15 (.t 1)),(some (33,false))⟩,.b,[],[]⟩,⟨⟨(some 35),(.load true 15 (.t 1)),(some (33,false))⟩,.b,[],[]⟩,⟨⟨(some 36),(.callG 3 27 [(.t 35)]),(some (33,false))⟩,.b,[],[]⟩,⟨⟨(some 37),(.callG 4 13 [(.t 34),(.t 36)]),(some (33,false))⟩,.b,[],[]⟩,⟨⟨(some 38),(.un .not (.t 37)),(some (33,false))⟩,.b,[],[]⟩,⟨⟨(some 39),(.pick (.t 33) (.c (.v (.bool true))) (.t 38)),none⟩,.b,[],[]⟩])) (.cond (.t 39) (.seq (.reg [⟨⟨(some 2),(.mov (.c (.v (.int .i64 1)))),none⟩,.b,[],[]⟩]) .ret) .skip))) (.seq (.reg [⟨⟨(some 40),(.call 5 23 []),none⟩,.b,[],[]⟩,⟨⟨(some 3),(.mov (.t 40)),none⟩,.b,[],[]⟩]) (.seq (.seq (.reg [⟨⟨(some 41),(.fad 0 (.t 1)),none⟩,.b,[],[]⟩,⟨⟨(some 42),(.load false 1 (.t 41)),none⟩,.b,[],[]⟩,⟨⟨(some 43),(.call 6 24 [(.t 42)]),none⟩,.b,[],[]⟩,⟨⟨(some 44),(.len (.t 43)),none⟩,.b,[],[]⟩,⟨⟨(some 45),(.mov (.c (.v (.int .i64 0)))),none⟩,.b,[],[]⟩]) (.blk 0 (.loop ⟨[2,5,45,46,47,48,49,50,51,52,53,54,55,56],[],⟨[],[(45,.v (.i .i64))],[]⟩⟩ (.seq (.reg [⟨⟨(some 46),(.bin .lss (.t 45) (.t 44)),none⟩,.b,[],[]⟩]) (.seq (.cond (.t 46) .skip (.exit 0)) (.seq (.blk 1 (.seq (.reg [⟨⟨(some 47),(.iad 1 (.t 43) (.t 45)),none⟩,.b,[],[]⟩,⟨⟨(some 48),(.load false 1 (.t 47)),none⟩,.b,[],[]⟩,⟨⟨(some 5),(.mov (.t 48)),none⟩,.b,[],[]⟩]) (.seq (.reg [⟨⟨(some 49),(.mov (.t 3)),none⟩,.b,[],[]⟩,⟨⟨(some 50),(.mov (.t 5)),none⟩,.b,[],[]⟩,⟨⟨(some 51),(.lkp false .s (.agg [(.v .nilFunc),(.v .nilFunc),(.v .nilFunc)]) (.t 49) (.t 50)),none⟩,.b,[],[]⟩,⟨⟨(some 52),(.fld false 0 1 (.t 51)),none⟩,.b,[],[]⟩,⟨⟨(some 53),(.load true 15 (.t 1)),none⟩,.b,[],[]⟩,⟨⟨(some 54),(.callv 7 (.t 52) [(.t 53)]),none⟩,.b,[],[]⟩,⟨⟨(some 55),(.un .not (.t 54)),none⟩,.b,[],[]⟩]) (.cond (.t 55) (.seq (.reg [⟨⟨(some 2),(.mov (.c (.v (.int .i64 1)))),none⟩,.b,[],[]⟩]) .ret) .skip)))) (.reg [⟨⟨(some 56),(.bin .add (.t 45) (.c (.v (.int .i64 1)))),none⟩,.b,[],[]⟩,⟨⟨(some 45),(.mov (.t 56)),none⟩,.b,[],[]⟩]))))))) (.seq (.reg [⟨⟨(some 2),(.mov (.c (.v (.int .i64 0)))),none⟩,.b,[],[]⟩]) .ret))))),[1,17,23,36,37,40,43,54],57,[.t 2],27⟩
theorem xf11_ok:xf11.ok Try.prog 11:=⟨_,_,Try.func11,rfl,by kernel_rfl,rfl,by kernel_rfl,rfl,by kernel_rfl,by kernel_rfl⟩
def ff23:FX:=⟨(.seq (.reg [⟨⟨(some 0),(.mov (.c (.v (.map none)))),none⟩,.b,[],[]⟩]) (.seq (.reg [⟨⟨(some 1),(.mov (.c (.clo 46 [] []))),none⟩,.b,[],[]⟩]) (.seq (.reg [⟨⟨(some 2),(.mkm 0),none⟩,.b,[],[]⟩,⟨⟨(some 3),(.mov (.t 1)),none⟩,.b,[],[]⟩,⟨⟨(some 4),(.callv 1 (.t 3) [(.c (.clo 51 [] []))]),none⟩,.b,[],[]⟩,⟨⟨none,(.mup .s (.t 2) (.c (.v (.string ⟨#[115,101,113]⟩))) (.t 4)),none⟩,.b,[],[]⟩,⟨⟨(some 5),(.mov (.t 1)),none⟩,.b,[],[]⟩,⟨⟨(some 6),(.callv 2 (.t 5) [(.c (.clo 52 [] []))]),none⟩,.b,[],[]⟩,⟨⟨none,(.mup .s (.t 2) (.c (.v (.string ⟨#[101,112,111,99,104]⟩))) (.t 6)),none⟩,.b,[],[]⟩,⟨⟨(some 7),(.mov (.t 1)),none⟩,.b,[],[]⟩,⟨⟨(some 8),(.callv 3 (.t 7) [(.c (.clo 53 [] []))]),none⟩,.b,[],[]⟩,⟨⟨none,(.mup .s (.t 2) (.c (.v (.string ⟨#[98,111,111,116]⟩))) (.t 8)),none⟩,.b,[],[]⟩,⟨⟨(some 9),(.mov (.t 1)),none⟩,.b,[],[]⟩,⟨⟨(some 10),(.callv 4 (.t 9) [(.c (.clo 54 [] []))]),none⟩,.b,[],[]⟩,⟨⟨none,(.mup .s (.t 2) (.c (.v (.string ⟨#[116,111,107,101,110]⟩))) (.t 10)),none⟩,.b,[],[]⟩,⟨⟨(some 11),(.bld [(.v .nilFunc),(.v .nilFunc),(.v .nilFunc)] [(0,1,(.c (.clo 55 [] []))),(1,1,(.c (.clo 56 [] []))),(2,1,(.c (.clo 57 [] [])))]),none⟩,.b,[],[]⟩,⟨⟨none,(.mup .s (.t 2) (.c (.v (.string ⟨#[119,104,111]⟩))) (.t 11)),none⟩,.b,[],[]⟩,⟨⟨(some 12),(.bld [(.v .nilFunc),(.v .nilFunc),(.v .nilFunc)] [(0,1,(.c (.clo 58 [] []))),(1,1,(.c (.clo 60 [] []))),(2,1,(.c (.clo 62 [] [])))]),none⟩,.b,[],[]⟩,⟨⟨none,(.mup .s (.t 2) (.c (.v (.string ⟨#[107]⟩))) (.t 12)),none⟩,.b,[],[]⟩,⟨⟨(some 13),(.bld [(.v .nilFunc),(.v .nilFunc),(.v .nilFunc)] [(0,1,(.c (.clo 64 [] []))),(1,1,(.c (.clo 65 [] []))),(2,1,(.c (.clo 66 [] [])))]),none⟩,.b,[],[]⟩,⟨⟨none,(.mup .s (.t 2) (.c (.v (.string ⟨#[110,101,119,115]⟩))) (.t 13)),none⟩,.b,[],[]⟩,⟨⟨(some 14),(.bld [(.v .nilFunc),(.v .nilFunc),(.v .nilFunc)] [(0,1,(.c (.clo 67 [] []))),(1,1,(.c (.clo 69 [] []))),(2,1,(.c (.clo 70 [] [])))]),none⟩,.b,[],[]⟩,⟨⟨none,(.mup .s (.t 2) (.c (.v (.string ⟨#[116,97,98,108,101]⟩))) (.t 14)),none⟩,.b,[],[]⟩,⟨⟨(some 15),(.bld [(.v .nilFunc),(.v .nilFunc),(.v .nilFunc)] [(0,1,(.c (.clo 72 [] []))),(1,1,(.c (.clo 73 [] []))),(2,1,(.c (.clo 74 [] [])))]),none⟩,.b,[],[]⟩,⟨⟨none,(.mup .s (.t 2) (.c (.v (.string ⟨#[97,115,107,101,100]⟩))) (.t 15)),none⟩,.b,[],[]⟩,⟨⟨(some 16),(.bld [(.v .nilFunc),(.v .nilFunc),(.v .nilFunc)] [(0,1,(.c (.clo 75 [] []))),(1,1,(.c (.clo 76 [] []))),(2,1,(.c (.clo 77 [] [])))]),none⟩,.b,[],[]⟩,⟨⟨none,(.mup .s (.t 2) (.c (.v (.string ⟨#[116,97,115,107]⟩))) (.t 16)),none⟩,.b,[],[]⟩,⟨⟨(some 17),(.bld [(.v .nilFunc),(.v .nilFunc),(.v .nilFunc)] [(0,1,(.c (.clo 47 [] []))),(1,1,(.c (.clo 78 [] []))),(2,1,(.c (.clo 80 [] [])))]),none⟩,.b,[],[]⟩,⟨⟨none,(.mup .s (.t 2) (.c (.v (.string ⟨#[103,111,111,100]⟩))) (.t 17)),none⟩,.b,[],[]⟩,⟨⟨(some 18),(.mov (.t 2)),none⟩,.b,[],[]⟩,⟨⟨(some 0),(.mov (.t 18)),none⟩,.b,[],[]⟩]) .ret))),[2,4,6,8,10],19,[.t 0],6⟩
theorem ff23_ok:ff23.ok Try.prog 23:=⟨_,_,Try.func23,rfl,by kernel_rfl,rfl,by kernel_rfl,rfl,by kernel_rfl,by kernel_rfl⟩
def ff46:FX:=⟨(.seq (.reg [⟨⟨(some 1),(.box 0 1 (.t 0)),none⟩,.b,[],[]⟩,⟨⟨(some 2),(.alloc 1 (.agg [(.v .nilFunc),(.v .nilFunc),(.v .nilFunc)])),none⟩,.b,[],[]⟩]) (.seq (.reg [⟨⟨(some 3),(.fn 48 [] [(.t 1)]),none⟩,.b,[],[]⟩,⟨⟨(some 4),(.fn 49 [] [(.t 1)]),none⟩,.b,[],[]⟩,⟨⟨(some 5),(.bld [(.v .nilFunc),(.v .nilFunc),(.v .nilFunc)] [(0,1,(.c (.clo 47 [] []))),(1,1,(.t 3)),(2,1,(.t 4))]),none⟩,.b,[],[]⟩,⟨⟨none,(.store 3 (.t 2) (.t 5)),none⟩,.b,[],[]⟩]) .ret)),[1,2],6,[.c 2 57 true 3],3⟩
theorem ff46_ok:ff46.ok Try.prog 46:=⟨_,_,Try.func46,rfl,by kernel_rfl,rfl,by kernel_rfl,rfl,by kernel_rfl,by kernel_rfl⟩
def tb11:List PE:=[pe13,pe24,pe26,pe27,pe47,pe55,pe58,pe64,pe67,pe72,pe75]
theorem tb11_ok:PEsOk Try.prog tb11:=⟨pe13_ok,pe24_ok,pe26_ok,pe27_ok,pe47_ok,pe55_ok,pe58_ok,pe64_ok,pe67_ok,pe72_ok,pe75_ok,trivial⟩
def ex11:List EX:=[]
theorem ex11_ok:EXsOk Try.prog ex11:=trivial
def in11:List IN:=[⟨5,23,9,ff23,none⟩,⟨10,46,15,ff46,none⟩,⟨11,46,18,ff46,none⟩,⟨12,46,21,ff46,none⟩,⟨13,46,24,ff46,none⟩]
theorem in11_ok:INsOk Try.prog in11:=⟨ff23_ok,ff46_ok,ff46_ok,ff46_ok,ff46_ok,trivial⟩
def F11:DT ((.co (.v (.p (.i .i64) (.p (.i .i64) (.p (.i .i64) (.p (.i .u64) (.p (.i .i64) (.p (.i .u64) (.p (.i .i64) (.p (.sl (.p (.i .i64) (.p (.i .u64) (.i .i64)))) (.p (.sl (.p (.i .u64) (.i .i64))) (.p (.i .u64) (.p (.i .u64) (.p (.i .i64) (.p .s (.p (.i .u64) .b))))))))))))))) .no):Fm).den→Option (DT (.v (.i .i64):Fm).den):=pureT tb11 ex11 in11 9 xf11 _ _ []
def pe11:PE:=⟨11,(.co (.v (.p (.i .i64) (.p (.i .i64) (.p (.i .i64) (.p (.i .u64) (.p (.i .i64) (.p (.i .u64) (.p (.i .i64) (.p (.sl (.p (.i .i64) (.p (.i .u64) (.i .i64)))) (.p (.sl (.p (.i .u64) (.i .i64))) (.p (.i .u64) (.p (.i .u64) (.p (.i .i64) (.p .s (.p (.i .u64) .b))))))))))))))) .no),.v (.i .i64),F11⟩
theorem pe11_ok:pe11.ok Try.prog:=pe_of hm tb11_ok ex11_ok in11_ok xf11_ok (by kernel_rfl) (fun _=>rfl)
def xf81:FX:=⟨(.seq (.reg [⟨⟨(some 2),(.mov (.c (.v (.string ⟨#[]⟩)))),none⟩,.b,[],[]⟩]) (.seq (.reg [⟨⟨(some 3),(.mov (.t 0)),none⟩,.b,[],[]⟩,⟨⟨(some 4),(.conv .u8 (.t 3)),none⟩,.b,[],[]⟩,⟨⟨(some 5),(.mov (.t 0)),none⟩,.b,[],[]⟩,⟨⟨(some 6),(.bin .shr (.t 5) (.c (.v (.int .u64 8)))),none⟩,.b,[],[]⟩,⟨⟨(some 7),(.conv .u8 (.t 6)),none⟩,.b,[],[]⟩,⟨⟨(some 8),(.mov (.t 0)),none⟩,.b,[],[]⟩,⟨⟨(some 9),(.bin .shr (.t 8) (.c (.v (.int .u64 16)))),none⟩,.b,[],[]⟩,⟨⟨(some 10),(.conv .u8 (.t 9)),none⟩,.b,[],[]⟩,⟨⟨(some 11),(.mov (.t 0)),none⟩,.b,[],[]⟩,⟨⟨(some 12),(.bin .shr (.t 11) (.c (.v (.int .u64 24)))),none⟩,.b,[],[]⟩,⟨⟨(some 13),(.conv .u8 (.t 12)),none⟩,.b,[],[]⟩,⟨⟨(some 14),(.bsl 1 (.v (.int .u8 0)) 4 [(0,(.t 4)),(1,(.t 7)),(2,(.t 10)),(3,(.t 13))]),none⟩,.b,[],[]⟩,⟨⟨(some 15),(.bts (.t 14)),none⟩,.b,[],[]⟩,⟨⟨(some 2),(.mov (.t 15)),none⟩,.b,[],[]⟩]) .ret)),[],16,[.t 2],1⟩
theorem xf81_ok:xf81.ok Try.prog 81:=⟨_,_,Try.func81,rfl,by kernel_rfl,rfl,by kernel_rfl,rfl,by kernel_rfl,by kernel_rfl⟩
def tb81:List PE:=[]
theorem tb81_ok:PEsOk Try.prog tb81:=trivial
def ex81:List EX:=[]
theorem ex81_ok:EXsOk Try.prog ex81:=trivial
def in81:List IN:=[]
theorem in81_ok:INsOk Try.prog in81:=trivial
def F81:DT ((.co (.v (.i .u32)) .no):Fm).den→Option (DT (.v .s:Fm).den):=pureT tb81 ex81 in81 0 xf81 _ _ []
def pe81:PE:=⟨81,(.co (.v (.i .u32)) .no),.v .s,F81⟩
theorem pe81_ok:pe81.ok Try.prog:=pe_of hm tb81_ok ex81_ok in81_ok xf81_ok (by kernel_rfl) (fun _=>rfl)
def xf25:FX:=⟨(.seq (.reg [⟨⟨(some 2),(.mov (.c (.v (.string ⟨#[]⟩)))),none⟩,.b,[],[]⟩,⟨⟨(some 3),(.mov (.c (.v (.int .i64 0)))),none⟩,.b,[],[]⟩]) (.seq (.seq (.reg [⟨⟨(some 4),(.mov (.t 0)),none⟩,.b,[],[]⟩,⟨⟨(some 5),(.lenS (.t 4)),none⟩,.b,[],[]⟩,⟨⟨(some 6),(.bin .gtr (.t 5) (.c (.v (.int .i64 4096)))),none⟩,.b,[],[]⟩]) (.cond (.t 6) (.seq (.reg [⟨⟨(some 2),(.mov (.c (.v (.string ⟨#[]⟩)))),none⟩,.b,[],[]⟩,⟨⟨(some 3),(.mov (.c (.v (.int .i64 4)))),none⟩,.b,[],[]⟩]) .ret) .skip)) (.seq (.reg [⟨⟨(some 7),(.mov (.t 0)),none⟩,.b,[],[]⟩,⟨⟨(some 8),(.mov (.t 0)),none⟩,.b,[],[]⟩,⟨⟨(some 9),(.call 0 82 [(.t 8)]),none⟩,.b,[],[]⟩,⟨⟨(some 10),(.call 1 81 [(.t 9)]),none⟩,.b,[],[]⟩,⟨⟨(some 11),(.bin .add (.t 7) (.t 10)),none⟩,.b,[],[]⟩,⟨⟨(some 2),(.mov (.t 11)),none⟩,.b,[],[]⟩,⟨⟨(some 3),(.mov (.c (.v (.int .i64 0)))),none⟩,.b,[],[]⟩]) .ret))),[9,10],12,[.t 2,.t 3],3⟩
theorem xf25_ok:xf25.ok Try.prog 25:=⟨_,_,Try.func25,rfl,by kernel_rfl,rfl,by kernel_rfl,rfl,by kernel_rfl,by kernel_rfl⟩
def tb25:List PE:=[pe81,pe82]
theorem tb25_ok:PEsOk Try.prog tb25:=⟨pe81_ok,pe82_ok,trivial⟩
def ex25:List EX:=[]
theorem ex25_ok:EXsOk Try.prog ex25:=trivial
def in25:List IN:=[]
theorem in25_ok:INsOk Try.prog in25:=trivial
def F25:DT ((.co (.v .s) .no):Fm).den→Option (DT (.tup (.co (.v .s) (.co (.v (.i .i64)) .no)):Fm).den):=pureT tb25 ex25 in25 0 xf25 _ _ []
def pe25:PE:=⟨25,(.co (.v .s) .no),.tup (.co (.v .s) (.co (.v (.i .i64)) .no)),F25⟩
theorem pe25_ok:pe25.ok Try.prog:=pe_of hm tb25_ok ex25_ok in25_ok xf25_ok (by kernel_rfl) (fun _=>rfl)
def xf10:FX:=⟨(.seq (.reg [⟨⟨(some 1),(.box 0 15 (.t 0)),none⟩,.b,[],[]⟩,⟨⟨(some 2),(.mov (.c (.v (.string ⟨#[]⟩)))),none⟩,.b,[],[]⟩,⟨⟨(some 3),(.mov (.c (.v (.int .i64 0)))),none⟩,.b,[],[]⟩]) (.seq (.seq (.reg [⟨⟨(some 9),(.load true 15 (.t 1)),none⟩,.b,[],[]⟩,⟨⟨(some 10),(.call 1 11 [(.t 9)]),none⟩,.b,[],[]⟩,⟨⟨(some 4),(.mov (.t 10)),none⟩,.b,[],[]⟩]) (.seq (.reg [⟨⟨(some 11),(.mov (.t 4)),none⟩,.b,[],[]⟩,⟨⟨(some 12),(.bin .neq (.t 11) (.c (.v (.int .i64 0)))),none⟩,.b,[],[]⟩]) (.cond (.t 12) (.seq (.reg [⟨⟨(some 13),(.mov (.t 4)),none⟩,.b,[],[]⟩,⟨⟨(some 2),(.mov (.c (.v (.string ⟨#[]⟩)))),none⟩,.b,[],[]⟩,⟨⟨(some 3),(.mov (.t 13)),none⟩,.b,[],[]⟩]) .ret) .skip))) (.seq (.reg [⟨⟨(some 14),(.fad 0 (.t 1)),none⟩,.b,[],[]⟩,⟨⟨(some 15),(.load false 1 (.t 14)),none⟩,.b,[],[]⟩,⟨⟨(some 16),(.conv .u64 (.t 15)),none⟩,.b,[],[]⟩,⟨⟨(some 17),(.fad 1 (.t 1)),none⟩,.b,[],[]⟩,⟨⟨(some 18),(.load false 1 (.t 17)),none⟩,.b,[],[]⟩,⟨⟨(some 19),(.conv .u64 (.t 18)),none⟩,.b,[],[]⟩,⟨⟨(some 20),(.fad 2 (.t 1)),none⟩,.b,[],[]⟩,⟨⟨(some 21),(.load false 1 (.t 20)),none⟩,.b,[],[]⟩,⟨⟨(some 22),(.conv .u64 (.t 21)),none⟩,.b,[],[]⟩,⟨⟨(some 23),(.bsl 1 (.v (.int .u64 0)) 3 [(0,(.t 16)),(1,(.t 19)),(2,(.t 22))]),none⟩,.b,[],[]⟩,⟨⟨(some 24),(.call 2 22 [(.t 23)]),none⟩,.b,[],[]⟩,⟨⟨(some 5),(.mov (.t 24)),none⟩,.b,[],[]⟩]) (.seq (.reg [⟨⟨(some 25),(.call 3 23 []),none⟩,.b,[],[]⟩,⟨⟨(some 6),(.mov (.t 25)),none⟩,.b,[],[]⟩]) (.seq (.cutN ⟨[5,8,26,27,28,29,30,31,32,33,34,35,36,37,38,39,40,41,42],[26,27,28,29,30,31,32,33],⟨[],[(5,.v .s)],[]⟩⟩ (.seq (.reg [⟨⟨(some 26),(.fad 0 (.t 1)),none⟩,.b,[],[]⟩,⟨⟨(some 27),(.load false 1 (.t 26)),none⟩,.b,[],[]⟩,⟨⟨(some 28),(.call 4 24 [(.t 27)]),none⟩,.b,[],[]⟩,⟨⟨(some 29),(.len (.t 28)),none⟩,.b,[],[]⟩,⟨⟨(some 30),(.mov (.c (.v (.int .i64 0)))),none⟩,.b,[],[]⟩]) (.blk 0 (.loop ⟨[5,8,30,31,32,33,34,35,36,37,38,39,40,41,42],[26,27,28,29,30,31,32,33],⟨[],[(5,.v .s),(30,.v (.i .i64))],[]⟩⟩ (.seq (.reg [⟨⟨(some 31),(.bin .lss (.t 30) (.t 29)),none⟩,.b,[],[]⟩]) (.seq (.cond (.t 31) .skip (.exit 0)) (.seq (.blk 1 (.seq (.reg [⟨⟨(some 32),(.iad 1 (.t 28) (.t 30)),none⟩,.b,[],[]⟩,⟨⟨(some 33),(.load false 1 (.t 32)),none⟩,.b,[],[]⟩,⟨⟨(some 8),(.mov (.t 33)),none⟩,.b,[],[]⟩]) (.reg [⟨⟨(some 34),(.mov (.t 5)),none⟩,.b,[],[]⟩,⟨⟨(some 35),(.mov (.t 6)),none⟩,.b,[],[]⟩,⟨⟨(some 36),(.mov (.t 8)),none⟩,.b,[],[]⟩,⟨⟨(some 37),(.lkp false .s (.agg [(.v .nilFunc),(.v .nilFunc),(.v .nilFunc)]) (.t 35) (.t 36)),none⟩,.b,[],[]⟩,⟨⟨(some 38),(.fld false 1 1 (.t 37)),none⟩,.b,[],[]⟩,⟨⟨(some 39),(.load true 15 (.t 1)),none⟩,.b,[],[]⟩,⟨⟨(some 40),(.callv 5 (.t 38) [(.t 39)]),none⟩,.b,[],[]⟩,⟨⟨(some 41),(.bin .add (.t 34) (.t 40)),none⟩,.b,[],[]⟩,⟨⟨(some 5),(.mov (.t 41)),none⟩,.b,[],[]⟩]))) (.reg [⟨⟨(some 42),(.bin .add (.t 30) (.c (.v (.int .i64 1)))),none⟩,.b,[],[]⟩,⟨⟨(some 30),(.mov (.t 42)),none⟩,.b,[],[]⟩])))))))) (.seq (.reg [⟨⟨(some 43),(.mov (.t 5)),none⟩,.b,[],[]⟩,⟨⟨(some 44),(.call 6 25 [(.t 43)]),none⟩,.b,[],[]⟩,⟨⟨(some 45),(.ext (.t 44) 0),none⟩,.b,[],[]⟩,⟨⟨(some 46),(.ext (.t 44) 1),none⟩,.b,[],[]⟩,⟨⟨(some 2),(.mov (.t 45)),none⟩,.b,[],[]⟩,⟨⟨(some 3),(.mov (.t 46)),none⟩,.b,[],[]⟩]) .ret)))))),[1,10,24,25,28,40,44],47,[.t 2,.t 3],34⟩
theorem xf10_ok:xf10.ok Try.prog 10:=⟨_,_,Try.func10,rfl,by kernel_rfl,rfl,by kernel_rfl,rfl,by kernel_rfl,by kernel_rfl⟩
def ff48:FX:=⟨(.seq (.reg [⟨⟨(some 2),(.box 0 15 (.t 0)),none⟩,.b,[],[]⟩,⟨⟨(some 3),(.mov (.c (.v (.string ⟨#[]⟩)))),none⟩,.b,[],[]⟩]) (.seq (.reg [⟨⟨(some 4),(.load false 1 (.t 1)),none⟩,.b,[],[]⟩,⟨⟨(some 5),(.callv 1 (.t 4) [(.t 2)]),none⟩,.b,[],[]⟩,⟨⟨(some 6),(.nilc (.t 5)),none⟩,.b,[],[]⟩,⟨⟨(some 7),(.load false 1 (.t 6)),none⟩,.b,[],[]⟩,⟨⟨(some 8),(.bsl 1 (.v (.int .u64 0)) 1 [(0,(.t 7))]),none⟩,.b,[],[]⟩,⟨⟨(some 9),(.call 2 22 [(.t 8)]),none⟩,.b,[],[]⟩,⟨⟨(some 3),(.mov (.t 9)),none⟩,.b,[],[]⟩]) .ret)),[2,5,9],10,[.t 3],4⟩
theorem ff48_ok:ff48.ok Try.prog 48:=⟨_,_,Try.func48,rfl,by kernel_rfl,rfl,by kernel_rfl,rfl,by kernel_rfl,by kernel_rfl⟩
def ff51:FX:=⟨(.seq (.reg [⟨⟨(some 2),(.mov (.c (.v (.pointer none)))),none⟩,.b,[],[]⟩]) (.seq (.reg [⟨⟨(some 3),(.mov (.t 0)),none⟩,.b,[],[]⟩,⟨⟨(some 4),(.nilc (.t 3)),none⟩,.b,[],[]⟩,⟨⟨(some 5),(.fad 3 (.t 4)),none⟩,.b,[],[]⟩,⟨⟨(some 2),(.mov (.t 5)),none⟩,.b,[],[]⟩]) .ret)),[],6,[.t 2],1⟩
theorem ff51_ok:ff51.ok Try.prog 51:=⟨_,_,Try.func51,rfl,by kernel_rfl,rfl,by kernel_rfl,rfl,by kernel_rfl,by kernel_rfl⟩
def ff52:FX:=⟨(.seq (.reg [⟨⟨(some 2),(.mov (.c (.v (.pointer none)))),none⟩,.b,[],[]⟩]) (.seq (.reg [⟨⟨(some 3),(.mov (.t 0)),none⟩,.b,[],[]⟩,⟨⟨(some 4),(.nilc (.t 3)),none⟩,.b,[],[]⟩,⟨⟨(some 5),(.fad 9 (.t 4)),none⟩,.b,[],[]⟩,⟨⟨(some 2),(.mov (.t 5)),none⟩,.b,[],[]⟩]) .ret)),[],6,[.t 2],1⟩
theorem ff52_ok:ff52.ok Try.prog 52:=⟨_,_,Try.func52,rfl,by kernel_rfl,rfl,by kernel_rfl,rfl,by kernel_rfl,by kernel_rfl⟩
def ff53:FX:=⟨(.seq (.reg [⟨⟨(some 2),(.mov (.c (.v (.pointer none)))),none⟩,.b,[],[]⟩]) (.seq (.reg [⟨⟨(some 3),(.mov (.t 0)),none⟩,.b,[],[]⟩,⟨⟨(some 4),(.nilc (.t 3)),none⟩,.b,[],[]⟩,⟨⟨(some 5),(.fad 10 (.t 4)),none⟩,.b,[],[]⟩,⟨⟨(some 2),(.mov (.t 5)),none⟩,.b,[],[]⟩]) .ret)),[],6,[.t 2],1⟩
theorem ff53_ok:ff53.ok Try.prog 53:=⟨_,_,Try.func53,rfl,by kernel_rfl,rfl,by kernel_rfl,rfl,by kernel_rfl,by kernel_rfl⟩
def ff54:FX:=⟨(.seq (.reg [⟨⟨(some 2),(.mov (.c (.v (.pointer none)))),none⟩,.b,[],[]⟩]) (.seq (.reg [⟨⟨(some 3),(.mov (.t 0)),none⟩,.b,[],[]⟩,⟨⟨(some 4),(.nilc (.t 3)),none⟩,.b,[],[]⟩,⟨⟨(some 5),(.fad 13 (.t 4)),none⟩,.b,[],[]⟩,⟨⟨(some 2),(.mov (.t 5)),none⟩,.b,[],[]⟩]) .ret)),[],6,[.t 2],1⟩
theorem ff54_ok:ff54.ok Try.prog 54:=⟨_,_,Try.func54,rfl,by kernel_rfl,rfl,by kernel_rfl,rfl,by kernel_rfl,by kernel_rfl⟩
def tb10:List PE:=[pe11,pe22,pe24,pe25,pe56,pe60,pe65,pe69,pe73,pe76,pe78]
theorem tb10_ok:PEsOk Try.prog tb10:=⟨pe11_ok,pe22_ok,pe24_ok,pe25_ok,pe56_ok,pe60_ok,pe65_ok,pe69_ok,pe73_ok,pe76_ok,pe78_ok,trivial⟩
def ex10:List EX:=[]
theorem ex10_ok:EXsOk Try.prog ex10:=trivial
def in10:List IN:=[⟨3,23,8,ff23,none⟩,⟨5,48,26,ff48,none⟩,⟨9,46,14,ff46,none⟩,⟨10,46,17,ff46,none⟩,⟨11,46,20,ff46,none⟩,⟨12,46,23,ff46,none⟩,⟨27,51,30,ff51,none⟩,⟨27,52,31,ff52,none⟩,⟨27,53,32,ff53,none⟩,⟨27,54,33,ff54,none⟩]
theorem in10_ok:INsOk Try.prog in10:=⟨ff23_ok,ff48_ok,ff46_ok,ff46_ok,ff46_ok,ff46_ok,ff51_ok,ff52_ok,ff53_ok,ff54_ok,trivial⟩
def F10:DT ((.co (.v (.p (.i .i64) (.p (.i .i64) (.p (.i .i64) (.p (.i .u64) (.p (.i .i64) (.p (.i .u64) (.p (.i .i64) (.p (.sl (.p (.i .i64) (.p (.i .u64) (.i .i64)))) (.p (.sl (.p (.i .u64) (.i .i64))) (.p (.i .u64) (.p (.i .u64) (.p (.i .i64) (.p .s (.p (.i .u64) .b))))))))))))))) .no):Fm).den→Option (DT (.tup (.co (.v .s) (.co (.v (.i .i64)) .no)):Fm).den):=pureT tb10 ex10 in10 9 xf10 _ _ []
def pe10:PE:=⟨10,(.co (.v (.p (.i .i64) (.p (.i .i64) (.p (.i .i64) (.p (.i .u64) (.p (.i .i64) (.p (.i .u64) (.p (.i .i64) (.p (.sl (.p (.i .i64) (.p (.i .u64) (.i .i64)))) (.p (.sl (.p (.i .u64) (.i .i64))) (.p (.i .u64) (.p (.i .u64) (.p (.i .i64) (.p .s (.p (.i .u64) .b))))))))))))))) .no),.tup (.co (.v .s) (.co (.v (.i .i64)) .no)),F10⟩
theorem pe10_ok:pe10.ok Try.prog:=pe_of hm tb10_ok ex10_ok in10_ok xf10_ok (by kernel_rfl) (fun _=>rfl)
def xf34:FX:=⟨(.seq (.reg [⟨⟨(some 4),(.mov (.c (.v (.bool false)))),none⟩,.b,[],[]⟩]) (.seq (.seq (.reg [⟨⟨(some 6),(.mov (.t 0)),none⟩,.b,[],[]⟩,⟨⟨(some 7),(.len (.t 6)),none⟩,.b,[],[]⟩,⟨⟨(some 8),(.mov (.t 1)),none⟩,.b,[],[]⟩,⟨⟨(some 9),(.len (.t 8)),none⟩,.b,[],[]⟩,⟨⟨(some 10),(.bin .neq (.t 7) (.t 9)),none⟩,.b,[],[]⟩]) (.cond (.t 10) (.seq (.reg [⟨⟨(some 4),(.mov (.c (.v (.bool false)))),none⟩,.b,[],[]⟩]) .ret) .skip)) (.seq (.seq (.reg [⟨⟨(some 5),(.mov (.c (.v (.int .i64 0)))),none⟩,.b,[],[]⟩]) (.blk 0 (.loop ⟨[4,5,11,12,13,14,15,16,17,18,19,20,21,22,23,24,25],[],⟨[],[(5,.v (.i .i64))],[]⟩⟩ (.seq (.seq (.reg [⟨⟨(some 11),(.mov (.t 5)),none⟩,.b,[],[]⟩,⟨⟨(some 12),(.mov (.t 0)),none⟩,.b,[],[]⟩,⟨⟨(some 13),(.len (.t 12)),none⟩,.b,[],[]⟩,⟨⟨(some 14),(.bin .lss (.t 11) (.t 13)),none⟩,.b,[],[]⟩]) (.cond (.t 14) .skip (.exit 0))) (.seq (.blk 1 (.seq (.rdr [⟨⟨(some 17),(.mov (.t 0)),none⟩,.b,[],[]⟩,⟨⟨(some 18),(.mov (.t 5)),none⟩,.b,[],[]⟩,⟨⟨(some 19),(.iad 3 (.t 17) (.t 18)),none⟩,.b,[],[]⟩,⟨⟨(some 20),(.load true 3 (.t 19)),none⟩,.b,[],[]⟩,⟨⟨(some 21),(.mov (.t 1)),none⟩,.b,[],[]⟩,⟨⟨(some 22),(.mov (.t 5)),none⟩,.b,[],[]⟩,⟨⟨(some 23),(.iad 3 (.t 21) (.t 22)),none⟩,.b,[],[]⟩,⟨⟨(some 24),(.load true 3 (.t 23)),none⟩,.b,[],[]⟩,⟨⟨(some 25),(.eqA true 3 [(0,.i),(1,.i),(2,.i)] (.t 20) (.t 24)),none⟩,.b,[],[]⟩]) (.cond (.t 25) (.seq (.reg [⟨⟨(some 4),(.mov (.c (.v (.bool false)))),none⟩,.b,[],[]⟩]) .ret) .skip))) (.reg [⟨⟨(some 15),(.mov (.t 5)),none⟩,.b,[],[]⟩,⟨⟨(some 16),(.bin .add (.t 15) (.c (.v (.int .i64 1)))),none⟩,.b,[],[]⟩,⟨⟨(some 5),(.mov (.t 16)),none⟩,.b,[],[]⟩])))))) (.seq (.reg [⟨⟨(some 4),(.mov (.c (.v (.bool true)))),none⟩,.b,[],[]⟩]) .ret)))),[],26,[.t 4],1⟩
theorem xf34_ok:xf34.ok Try.prog 34:=⟨_,_,Try.func34,rfl,by kernel_rfl,rfl,by kernel_rfl,rfl,by kernel_rfl,by kernel_rfl⟩
def tb34:List PE:=[]
theorem tb34_ok:PEsOk Try.prog tb34:=trivial
def ex34:List EX:=[]
theorem ex34_ok:EXsOk Try.prog ex34:=trivial
def in34:List IN:=[]
theorem in34_ok:INsOk Try.prog in34:=trivial
def F34:DT ((.co (.v (.sl (.p (.i .i64) (.p (.i .u64) (.i .i64))))) (.co (.v (.sl (.p (.i .i64) (.p (.i .u64) (.i .i64))))) .no)):Fm).den→Option (DT (.v .b:Fm).den):=pureT tb34 ex34 in34 0 xf34 _ _ []
def pe34:PE:=⟨34,(.co (.v (.sl (.p (.i .i64) (.p (.i .u64) (.i .i64))))) (.co (.v (.sl (.p (.i .i64) (.p (.i .u64) (.i .i64))))) .no)),.v .b,F34⟩
theorem pe34_ok:pe34.ok Try.prog:=pe_of hm tb34_ok ex34_ok in34_ok xf34_ok (by kernel_rfl) (fun _=>rfl)
def xf35:FX:=⟨(.seq (.reg [⟨⟨(some 4),(.mov (.c (.v (.bool false)))),none⟩,.b,[],[]⟩]) (.seq (.seq (.reg [⟨⟨(some 6),(.mov (.t 0)),none⟩,.b,[],[]⟩,⟨⟨(some 7),(.len (.t 6)),none⟩,.b,[],[]⟩,⟨⟨(some 8),(.mov (.t 1)),none⟩,.b,[],[]⟩,⟨⟨(some 9),(.len (.t 8)),none⟩,.b,[],[]⟩,⟨⟨(some 10),(.bin .neq (.t 7) (.t 9)),none⟩,.b,[],[]⟩]) (.cond (.t 10) (.seq (.reg [⟨⟨(some 4),(.mov (.c (.v (.bool false)))),none⟩,.b,[],[]⟩]) .ret) .skip)) (.seq (.seq (.reg [⟨⟨(some 5),(.mov (.c (.v (.int .i64 0)))),none⟩,.b,[],[]⟩]) (.blk 0 (.loop ⟨[4,5,11,12,13,14,15,16,17,18,19,20,21,22,23,24,25],[],⟨[],[(5,.v (.i .i64))],[]⟩⟩ (.seq (.seq (.reg [⟨⟨(some 11),(.mov (.t 5)),none⟩,.b,[],[]⟩,⟨⟨(some 12),(.mov (.t 0)),none⟩,.b,[],[]⟩,⟨⟨(some 13),(.len (.t 12)),none⟩,.b,[],[]⟩,⟨⟨(some 14),(.bin .lss (.t 11) (.t 13)),none⟩,.b,[],[]⟩]) (.cond (.t 14) .skip (.exit 0))) (.seq (.blk 1 (.seq (.rdr [⟨⟨(some 17),(.mov (.t 0)),none⟩,.b,[],[]⟩,⟨⟨(some 18),(.mov (.t 5)),none⟩,.b,[],[]⟩,⟨⟨(some 19),(.iad 2 (.t 17) (.t 18)),none⟩,.b,[],[]⟩,⟨⟨(some 20),(.load true 2 (.t 19)),none⟩,.b,[],[]⟩,⟨⟨(some 21),(.mov (.t 1)),none⟩,.b,[],[]⟩,⟨⟨(some 22),(.mov (.t 5)),none⟩,.b,[],[]⟩,⟨⟨(some 23),(.iad 2 (.t 21) (.t 22)),none⟩,.b,[],[]⟩,⟨⟨(some 24),(.load true 2 (.t 23)),none⟩,.b,[],[]⟩,⟨⟨(some 25),(.eqA true 2 [(0,.i),(1,.i)] (.t 20) (.t 24)),none⟩,.b,[],[]⟩]) (.cond (.t 25) (.seq (.reg [⟨⟨(some 4),(.mov (.c (.v (.bool false)))),none⟩,.b,[],[]⟩]) .ret) .skip))) (.reg [⟨⟨(some 15),(.mov (.t 5)),none⟩,.b,[],[]⟩,⟨⟨(some 16),(.bin .add (.t 15) (.c (.v (.int .i64 1)))),none⟩,.b,[],[]⟩,⟨⟨(some 5),(.mov (.t 16)),none⟩,.b,[],[]⟩])))))) (.seq (.reg [⟨⟨(some 4),(.mov (.c (.v (.bool true)))),none⟩,.b,[],[]⟩]) .ret)))),[],26,[.t 4],1⟩
theorem xf35_ok:xf35.ok Try.prog 35:=⟨_,_,Try.func35,rfl,by kernel_rfl,rfl,by kernel_rfl,rfl,by kernel_rfl,by kernel_rfl⟩
def tb35:List PE:=[]
theorem tb35_ok:PEsOk Try.prog tb35:=trivial
def ex35:List EX:=[]
theorem ex35_ok:EXsOk Try.prog ex35:=trivial
def in35:List IN:=[]
theorem in35_ok:INsOk Try.prog in35:=trivial
def F35:DT ((.co (.v (.sl (.p (.i .u64) (.i .i64)))) (.co (.v (.sl (.p (.i .u64) (.i .i64)))) .no)):Fm).den→Option (DT (.v .b:Fm).den):=pureT tb35 ex35 in35 0 xf35 _ _ []
def pe35:PE:=⟨35,(.co (.v (.sl (.p (.i .u64) (.i .i64)))) (.co (.v (.sl (.p (.i .u64) (.i .i64)))) .no)),.v .b,F35⟩
theorem pe35_ok:pe35.ok Try.prog:=pe_of hm tb35_ok ex35_ok in35_ok xf35_ok (by kernel_rfl) (fun _=>rfl)
def xf14:FX:=⟨(.seq (.reg [⟨⟨(some 2),(.box 0 15 (.t 0)),none⟩,.b,[],[]⟩,⟨⟨(some 3),(.box 1 15 (.t 1)),none⟩,.b,[],[]⟩,⟨⟨(some 4),(.mov (.c (.v (.bool false)))),none⟩,.b,[],[]⟩]) (.seq (.reg [⟨⟨(some 5),(.fad 0 (.t 2)),none⟩,.b,[],[]⟩,⟨⟨(some 6),(.load false 1 (.t 5)),none⟩,.b,[],[]⟩,⟨⟨(some 7),(.fad 0 (.t 3)),none⟩,.b,[],[]⟩,⟨⟨(some 8),(.load false 1 (.t 7)),none⟩,.b,[],[]⟩,⟨⟨(some 9),(.bin .eql (.t 6) (.t 8)),none⟩,.b,[],[]⟩,⟨⟨(some 10),(.mov (.t 9)),none⟩,.b,[],[]⟩,⟨⟨(some 11),(.fad 1 (.t 2)),(some (10,true))⟩,.b,[],[]⟩,⟨⟨(some 12),(.load false 1 (.t 11)),(some (10,true))⟩,.b,[],[]⟩,⟨⟨(some 13),(.fad 1 (.t 3)),(some (10,true))⟩,.b,[],[]⟩,⟨⟨(some 14),(.load false 1 (.t 13)),(some (10,true))⟩,.b,[],[]⟩,⟨⟨(some 15),(.bin .eql (.t 12) (.t 14)),(some (10,true))⟩,.b,[],[]⟩,⟨⟨(some 16),(.pick (.t 10) (.t 15) (.c (.v (.bool false)))),none⟩,.b,[],[]⟩,⟨⟨(some 17),(.mov (.t 16)),none⟩,.b,[],[]⟩,⟨⟨(some 18),(.fad 2 (.t 2)),(some (17,true))⟩,.b,[],[]⟩,⟨⟨(some 19),(.load false 1 (.t 18)),(some (17,true))⟩,.b,[],[]⟩,⟨⟨(some 20),(.fad 2 (.t 3)),(some (17,true))⟩,.b,[],[]⟩,⟨⟨(some 21),(.load false 1 (.t 20)),(some (17,true))⟩,.b,[],[]⟩,⟨⟨(some 22),(.bin .eql (.t 19) (.t 21)),(some (17,true))⟩,.b,[],[]⟩,⟨⟨(some 23),(.pick (.t 17) (.t 22) (.c (.v (.bool false)))),none⟩,.b,[],[]⟩,⟨⟨(some 24),(.mov (.t 23)),none⟩,.b,[],[]⟩,⟨⟨(some 25),(.fad 3 (.t 2)),(some (24,true))⟩,.b,[],[]⟩,⟨⟨(some 26),(.load false 1 (.t 25)),(some (24,true))⟩,.b,[],[]⟩,⟨⟨(some 27),(.fad 3 (.t 3)),(some (24,true))⟩,.b,[],[]⟩,⟨⟨(some 28),(.load false 1 (.t 27)),(some (24,true))⟩,.b,[],[]⟩,⟨⟨(some 29),(.bin .eql (.t 26) (.t 28)),(some (24,true))⟩,.b,[],[]⟩,⟨⟨(some 30),(.pick (.t 24) (.t 29) (.c (.v (.bool false)))),none⟩,.b,[],[]⟩,⟨⟨(some 31),(.mov (.t 30)),none⟩,.b,[],[]⟩,⟨⟨(some 32),(.fad 4 (.t 2)),(some (31,true))⟩,.b,[],[]⟩,⟨⟨(some 33),(.load false 1 (.t 32)),(some (31,true))⟩,.b,[],[]⟩,⟨⟨(some 34),(.fad 4 (.t 3)),(some (31,true))⟩,.b,[],[]⟩,⟨⟨(some 35),(.load false 1 (.t 34)),(some (31,true))⟩,.b,[],[]⟩,⟨⟨(some 36),(.bin .eql (.t 33) (.t 35)),(some (31,true))⟩,.b,[],[]⟩,⟨⟨(some 37),(.pick (.t 31) (.t 36) (.c (.v (.bool false)))),none⟩,.b,[],[]⟩,⟨⟨(some 38),(.mov (.t 37)),none⟩,.b,[],[]⟩,⟨⟨(some 39),(.fad 5 (.t 2)),(some (38,true))⟩,.b,[],[]⟩,⟨⟨(some 40),(.load true 2 (.t 39)),(some (38,true))⟩,.b,[],[]⟩,⟨⟨(some 41),(.fad 5 (.t 3)),(some (38,true))⟩,.b,[],[]⟩,⟨⟨(some 42),(.load true 2 (.t 41)),(some (38,true))⟩,.b,[],[]⟩,⟨⟨(some 43),(.eqA false 2 [(0,.i),(1,.i)] (.t 40) (.t 42)),(some (38,true))⟩,.b,[],[]⟩,⟨⟨(some 44),(.pick (.t 38) (.t 43) (.c (.v (.bool false)))),none⟩,.b,[],[]⟩,⟨⟨(some 45),(.mov (.t 44)),none⟩,.b,[],[]⟩,⟨⟨(some 46),(.fad 7 (.t 2)),(some (45,true))⟩,.b,[],[]⟩,⟨⟨(some 47),(.load false 1 (.t 46)),(some (45,true))⟩,.b,[],[]⟩,⟨⟨(some 48),(.fad 7 (.t 3)),(some (45,true))⟩,.b,[],[]⟩,⟨⟨(some 49),(.load false 1 (.t 48)),(some (45,true))⟩,.b,[],[]⟩,⟨⟨(some 50),(.call 2 34 [(.t 47),(.t 49)]),(some (45,true))⟩,.b,[],[]⟩,⟨⟨(some 51),(.pick (.t 45) (.t 50) (.c (.v (.bool false)))),none⟩,.b,[],[]⟩,⟨⟨(some 52),(.mov (.t 51)),none⟩,.b,[],[]⟩,⟨⟨(some 53),(.fad 8 (.t 2)),(some (52,true))⟩,.b,[],[]⟩,⟨⟨(some 54),(.load false 1 (.t 53)),(some (52,true))⟩,.b,[],[]⟩,⟨⟨(some 55),(.fad 8 (.t 3)),(some (52,true))⟩,.b,[],[]⟩,⟨⟨(some 56),(.load false 1 (.t 55)),(some (52,true))⟩,.b,[],[]⟩,⟨⟨(some 57),(.call 3 35 [(.t 54),(.t 56)]),(some (52,true))⟩,.b,[],[]⟩,⟨⟨(some 58),(.pick (.t 52) (.t 57) (.c (.v (.bool false)))),none⟩,.b,[],[]⟩,⟨⟨(some 59),(.mov (.t 58)),none⟩,.b,[],[]⟩,⟨⟨(some 60),(.fad 9 (.t 2)),(some (59,true))⟩,.b,[],[]⟩,⟨⟨(some 61),(.load false 1 (.t 60)),(some (59,true))⟩,.b,[],[]⟩,⟨⟨(some 62),(.fad 9 (.t 3)),(some (59,true))⟩,.b,[],[]⟩,⟨⟨(some 63),(.load false 1 (.t 62)),(some (59,true))⟩,.b,[],[]⟩,⟨⟨(some 64),(.bin .eql (.t 61) (.t 63)),(some (59,true))⟩,.b,[],[]⟩,⟨⟨(some 65),(.pick (.t 59) (.t 64) (.c (.v (.bool false)))),none⟩,.b,[],[]⟩,⟨⟨(some 66),(.mov (.t 65)),none⟩,.b,[],[]⟩,⟨⟨(some 67),(.fad 10 (.t 2)),(some (66,true))⟩,.b,[],[]⟩,⟨⟨(some 68),(.load false 1 (.t 67)),(some (66,true))⟩,.b,[],[]⟩,⟨⟨(some 69),(.fad 10 (.t 3)),(some (66,true))⟩,.b,[],[]⟩,⟨⟨(some 70),(.load false 1 (.t 69)),(some (66,true))⟩,.b,[],[]⟩,⟨⟨(some 71),(.bin .eql (.t 68) (.t 70)),(some (66,true))⟩,.b,[],[]⟩,⟨⟨(some 72),(.pick (.t 66) (.t 71) (.c (.v (.bool false)))),none⟩,.b,[],[]⟩,⟨⟨(some 73),(.mov (.t 72)),none⟩,.b,[],[]⟩,⟨⟨(some 74),(.fad 11 (.t 2)),(some (73,true))⟩,.b,[],[]⟩,⟨⟨(some 75),(.load false 1 (.t 74)),(some (73,true))⟩,.b,[],[]⟩,⟨⟨(some 76),(.fad 11 (.t 3)),(some (73,true))⟩,.b,[],[]⟩,⟨⟨(some 77),(.load false 1 (.t 76)),(some (73,true))⟩,.b,[],[]⟩,⟨⟨(some 78),(.bin .eql (.t 75) (.t 77)),(some (73,true))⟩,.b,[],[]⟩,⟨⟨(some 79),(.pick (.t 73) (.t 78) (.c (.v (.bool false)))),none⟩,.b,[],[]⟩,⟨⟨(some 80),(.mov (.t 79)),none⟩,.b,[],[]⟩,⟨⟨(some 81),(.fad 12 (.t 2)),(some (80,true))⟩,.b,[],[]⟩,⟨⟨(some 82),(.load false 1 (.t 81)),(some (80,true))⟩,.b,[],[]⟩,⟨⟨(some 83),(.fad 12 (.t 3)),(some (80,true))⟩,.b,[],[]⟩,⟨⟨(some 84),(.load false 1 (.t 83)),(some (80,true))⟩,.b,[],[]⟩,⟨⟨(some 85),(.bin .eql (.t 82) (.t 84)),(some (80,true))⟩,.b,[],[]⟩,⟨⟨(some 86),(.pick (.t 80) (.t 85) (.c (.v (.bool false)))),none⟩,.b,[],[]⟩,⟨⟨(some 87),(.mov (.t 86)),none⟩,.b,[],[]⟩,⟨⟨(some 88),(.fad 13 (.t 2)),(some (87,true))⟩,.b,[],[]⟩,⟨⟨(some 89),(.load false 1 (.t 88)),(some (87,true))⟩,.b,[],[]⟩,⟨⟨(some 90),(.fad 13 (.t 3)),(some (87,true))⟩,.b,[],[]⟩,⟨⟨(some 91),(.load false 1 (.t 90)),(some (87,true))⟩,.b,[],[]⟩,⟨⟨(some 92),(.bin .eql (.t 89) (.t 91)),(some (87,true))⟩,.b,[],[]⟩,⟨⟨(some 93),(.pick (.t 87) (.t 92) (.c (.v (.bool false)))),none⟩,.b,[],[]⟩,⟨⟨(some 94),(.mov (.t 93)),none⟩,.b,[],[]⟩,⟨⟨(some 95),(.fad 14 (.t 2)),(some (94,true))⟩,.b,[],[]⟩,⟨⟨(some 96),(.load false 1 (.t 95)),(some (94,true))⟩,.b,[],[]⟩,⟨⟨(some 97),(.fad 14 (.t 3)),(some (94,true))⟩,.b,[],[]⟩,⟨⟨(some 98),(.load false 1 (.t 97)),(some (94,true))⟩,.b,[],[]⟩,⟨⟨(some 99),(.binB false (.t 96) (.t 98)),(some (94,true))⟩,.b,[],[]⟩,⟨⟨(some 100),(.pick (.t 94) (.t 99) (.c (.v (.bool false)))),none⟩,.b,[],[]⟩,⟨⟨(some 4),(.mov (.t 100)),none⟩,.b,[],[]⟩]) .ret)),[2,3,50,57],101,[.t 4],5⟩
theorem xf14_ok:xf14.ok Try.prog 14:=⟨_,_,Try.func14,rfl,by kernel_rfl,rfl,by kernel_rfl,rfl,by kernel_rfl,by kernel_rfl⟩
def tb14:List PE:=[pe34,pe35]
theorem tb14_ok:PEsOk Try.prog tb14:=⟨pe34_ok,pe35_ok,trivial⟩
def ex14:List EX:=[]
theorem ex14_ok:EXsOk Try.prog ex14:=trivial
def in14:List IN:=[]
theorem in14_ok:INsOk Try.prog in14:=trivial
def F14:DT ((.co (.v (.p (.i .i64) (.p (.i .i64) (.p (.i .i64) (.p (.i .u64) (.p (.i .i64) (.p (.i .u64) (.p (.i .i64) (.p (.sl (.p (.i .i64) (.p (.i .u64) (.i .i64)))) (.p (.sl (.p (.i .u64) (.i .i64))) (.p (.i .u64) (.p (.i .u64) (.p (.i .i64) (.p .s (.p (.i .u64) .b))))))))))))))) (.co (.v (.p (.i .i64) (.p (.i .i64) (.p (.i .i64) (.p (.i .u64) (.p (.i .i64) (.p (.i .u64) (.p (.i .i64) (.p (.sl (.p (.i .i64) (.p (.i .u64) (.i .i64)))) (.p (.sl (.p (.i .u64) (.i .i64))) (.p (.i .u64) (.p (.i .u64) (.p (.i .i64) (.p .s (.p (.i .u64) .b))))))))))))))) .no)):Fm).den→Option (DT (.v .b:Fm).den):=pureT tb14 ex14 in14 0 xf14 _ _ []
def pe14:PE:=⟨14,(.co (.v (.p (.i .i64) (.p (.i .i64) (.p (.i .i64) (.p (.i .u64) (.p (.i .i64) (.p (.i .u64) (.p (.i .i64) (.p (.sl (.p (.i .i64) (.p (.i .u64) (.i .i64)))) (.p (.sl (.p (.i .u64) (.i .i64))) (.p (.i .u64) (.p (.i .u64) (.p (.i .i64) (.p .s (.p (.i .u64) .b))))))))))))))) (.co (.v (.p (.i .i64) (.p (.i .i64) (.p (.i .i64) (.p (.i .u64) (.p (.i .i64) (.p (.i .u64) (.p (.i .i64) (.p (.sl (.p (.i .i64) (.p (.i .u64) (.i .i64)))) (.p (.sl (.p (.i .u64) (.i .i64))) (.p (.i .u64) (.p (.i .u64) (.p (.i .i64) (.p .s (.p (.i .u64) .b))))))))))))))) .no)),.v .b,F14⟩
theorem pe14_ok:pe14.ok Try.prog:=pe_of hm tb14_ok ex14_ok in14_ok xf14_ok (by kernel_rfl) (fun _=>rfl)
def xf38:FX:=⟨(.seq (.reg [⟨⟨(some 2),(.mov (.c (.v (.string ⟨#[]⟩)))),none⟩,.b,[],[]⟩,⟨⟨(some 3),(.mov (.c (.v (.int .i64 0)))),none⟩,.b,[],[]⟩]) (.seq (.reg [⟨⟨(some 5),(.mov (.t 0)),none⟩,.b,[],[]⟩,⟨⟨(some 6),(.lenS (.t 5)),none⟩,.b,[],[]⟩,⟨⟨(some 7),(.bin .sub (.t 6) (.c (.v (.int .i64 4)))),none⟩,.b,[],[]⟩,⟨⟨(some 4),(.mov (.t 7)),none⟩,.b,[],[]⟩]) (.seq (.blk 0 (.seq (.reg [⟨⟨(some 9),(.mov (.t 4)),none⟩,.b,[],[]⟩,⟨⟨(some 10),(.bin .lss (.t 9) (.c (.v (.int .i64 0)))),none⟩,.b,[],[]⟩,⟨⟨(some 8),(.mov (.t 10)),none⟩,.b,[],[]⟩]) (.cond (.t 8) (.seq (.reg [⟨⟨(some 2),(.mov (.c (.v (.string ⟨#[]⟩)))),none⟩,.b,[],[]⟩,⟨⟨(some 3),(.mov (.c (.v (.int .i64 3)))),none⟩,.b,[],[]⟩]) .ret) (.seq (.reg [⟨⟨(some 12),(.mov (.t 4)),none⟩,.b,[],[]⟩,⟨⟨(some 13),(.bin .gtr (.t 12) (.c (.v (.int .i64 4096)))),none⟩,.b,[],[]⟩,⟨⟨(some 11),(.mov (.t 13)),none⟩,.b,[],[]⟩]) (.cond (.t 11) (.seq (.reg [⟨⟨(some 2),(.mov (.c (.v (.string ⟨#[]⟩)))),none⟩,.b,[],[]⟩,⟨⟨(some 3),(.mov (.c (.v (.int .i64 4)))),none⟩,.b,[],[]⟩]) .ret) (.seq (.dr [] [⟨⟨(some 15),(.mov (.t 0)),none⟩,.b,[],[]⟩,⟨⟨(some 16),(.mov (.t 4)),none⟩,.b,[],[]⟩,⟨⟨(some 17),(.slS (.t 15) (some (.t 16)) none),none⟩,.b,[],[]⟩,⟨⟨(some 18),(.mov (.t 0)),none⟩,.b,[],[]⟩,⟨⟨(some 19),(.mov (.t 4)),none⟩,.b,[],[]⟩,⟨⟨(some 20),(.slS (.t 18) none (some (.t 19))),none⟩,.b,[],[]⟩,⟨⟨(some 21),(.callG 0 82 [(.t 20)]),none⟩,.b,[],[]⟩,⟨⟨(some 22),(.callG 1 81 [(.t 21)]),none⟩,.b,[],[]⟩,⟨⟨(some 23),(.bin .neq (.t 17) (.t 22)),none⟩,.b,[],[]⟩,⟨⟨(some 14),(.mov (.t 23)),none⟩,.b,[],[]⟩]) (.cond (.t 14) (.seq (.reg [⟨⟨(some 2),(.mov (.c (.v (.string ⟨#[]⟩)))),none⟩,.b,[],[]⟩,⟨⟨(some 3),(.mov (.c (.v (.int .i64 10)))),none⟩,.b,[],[]⟩]) .ret) .skip))))))) (.seq (.reg [⟨⟨(some 24),(.mov (.t 0)),none⟩,.b,[],[]⟩,⟨⟨(some 25),(.mov (.t 4)),none⟩,.b,[],[]⟩,⟨⟨(some 26),(.slS (.t 24) none (some (.t 25))),none⟩,.b,[],[]⟩,⟨⟨(some 2),(.mov (.t 26)),none⟩,.b,[],[]⟩,⟨⟨(some 3),(.mov (.c (.v (.int .i64 0)))),none⟩,.b,[],[]⟩]) .ret)))),[21,22],27,[.t 2,.t 3],3⟩
theorem xf38_ok:xf38.ok Try.prog 38:=⟨_,_,Try.func38,rfl,by kernel_rfl,rfl,by kernel_rfl,rfl,by kernel_rfl,by kernel_rfl⟩
def tb38:List PE:=[pe81,pe82]
theorem tb38_ok:PEsOk Try.prog tb38:=⟨pe81_ok,pe82_ok,trivial⟩
def ex38:List EX:=[]
theorem ex38_ok:EXsOk Try.prog ex38:=trivial
def in38:List IN:=[]
theorem in38_ok:INsOk Try.prog in38:=trivial
def F38:DT ((.co (.v .s) .no):Fm).den→Option (DT (.tup (.co (.v .s) (.co (.v (.i .i64)) .no)):Fm).den):=pureT tb38 ex38 in38 0 xf38 _ _ []
def pe38:PE:=⟨38,(.co (.v .s) .no),.tup (.co (.v .s) (.co (.v (.i .i64)) .no)),F38⟩
theorem pe38_ok:pe38.ok Try.prog:=pe_of hm tb38_ok ex38_ok in38_ok xf38_ok (by kernel_rfl) (fun _=>rfl)
end
end Go.Proofs.Ytgbcankkfmhcoaa.VL
end
section
namespace Go.Proofs.Ytgbcankkfmhcoaa.VL
open Go
set_option maxRecDepth 100000
set_option linter.unusedVariables false
set_option linter.unusedSectionVars false
variable [Val]
theorem F32_eq (v:((List (Int×(Int×Int)))×(List (Int×(Int×Int))))):F32 v=(cond (((v.1.length:Nat):Int) != ((v.2.length:Nat):Int)) (some false) (loopX (fun (v0:Int)=>(cond (decide (v0 < ((v.1.length:Nat):Int))) (cond (decide ((0:Int)≤v0)) (Option.bind v.1[(Int.toNat v0)]? (fun (v1:(Int×(Int×Int)))=>(cond (decide ((0:Int)≤v0)) (Option.bind v.2[(Int.toNat v0)]? (fun (v2:(Int×(Int×Int)))=>(cond (!((v1.1==v2.1)&&((v1.2.1==v2.2.1)&&((v1.2.2==v2.2.2)&&true)))) (some (.inr false)) (some (.inl (IntKind.wrap IntKind.i64 (v0+(1:Int)))))))) none))) none) (some (.inr true)))) (0:Int))):=by kernel_rfl
theorem F33_eq (v:((List (Int×Int))×(List (Int×Int)))):F33 v=(cond (((v.1.length:Nat):Int) != ((v.2.length:Nat):Int)) (some false) (loopX (fun (v0:Int)=>(cond (decide (v0 < ((v.1.length:Nat):Int))) (cond (decide ((0:Int)≤v0)) (Option.bind v.1[(Int.toNat v0)]? (fun (v1:(Int×Int))=>(cond (decide ((0:Int)≤v0)) (Option.bind v.2[(Int.toNat v0)]? (fun (v2:(Int×Int))=>(cond (!((v1.1==v2.1)&&((v1.2==v2.2)&&true))) (some (.inr false)) (some (.inl (IntKind.wrap IntKind.i64 (v0+(1:Int)))))))) none))) none) (some (.inr true)))) (0:Int))):=by kernel_rfl
theorem F13_eq (v:((Int×(Int×(Int×(Int×(Int×(Int×(Int×((List (Int×(Int×Int)))×((List (Int×Int))×(Int×(Int×(Int×(ByteArray×(Int×Bool))))))))))))))×(Int×(Int×(Int×(Int×(Int×(Int×(Int×((List (Int×(Int×Int)))×((List (Int×Int))×(Int×(Int×(Int×(ByteArray×(Int×Bool)))))))))))))))):F13 v=(cond (v.1.1==v.2.1) (cond (v.1.2.1==v.2.2.1) (cond (v.1.2.2.1==v.2.2.2.1) (cond (v.1.2.2.2.1==v.2.2.2.2.1) (cond (v.1.2.2.2.2.1==v.2.2.2.2.2.1) (cond ((v.1.2.2.2.2.2.1==v.2.2.2.2.2.2.1)&&((v.1.2.2.2.2.2.2.1==v.2.2.2.2.2.2.2.1)&&true)) (Option.bind (F32 (v.1.2.2.2.2.2.2.2.1,v.2.2.2.2.2.2.2.2.1)) (fun (v0:Bool)=>(cond v0 (Option.bind (F33 (v.1.2.2.2.2.2.2.2.2.1,v.2.2.2.2.2.2.2.2.2.1)) (fun (v1:Bool)=>(cond v1 (cond (v.1.2.2.2.2.2.2.2.2.2.1==v.2.2.2.2.2.2.2.2.2.2.1) (cond (v.1.2.2.2.2.2.2.2.2.2.2.1==v.2.2.2.2.2.2.2.2.2.2.2.1) (cond (v.1.2.2.2.2.2.2.2.2.2.2.2.1==v.2.2.2.2.2.2.2.2.2.2.2.2.1) (cond ((ByteArray.toList v.1.2.2.2.2.2.2.2.2.2.2.2.2.1)==(ByteArray.toList v.2.2.2.2.2.2.2.2.2.2.2.2.2.1)) (cond (v.1.2.2.2.2.2.2.2.2.2.2.2.2.2.1==v.2.2.2.2.2.2.2.2.2.2.2.2.2.2.1) (some (v.1.2.2.2.2.2.2.2.2.2.2.2.2.2.2==v.2.2.2.2.2.2.2.2.2.2.2.2.2.2.2)) (some false)) (some false)) (some false)) (some false)) (some false)) (some false)))) (some false)))) (some false)) (some false)) (some false)) (some false)) (some false)) (some false)):=by kernel_rfl
theorem F47_eq (v:(Int×(Int×(Int×(Int×(Int×(Int×(Int×((List (Int×(Int×Int)))×((List (Int×Int))×(Int×(Int×(Int×(ByteArray×(Int×Bool))))))))))))))):F47 v=(some true):=by kernel_rfl
theorem F22_eq (v:(List Int)):F22 v=(loopX (fun (v0:(Int×(List Int)))=>(cond (decide (v0.1 < ((v.length:Nat):Int))) (Option.bind (cond (decide ((0:Int)≤v0.1)) (Option.bind v[(Int.toNat v0.1)]? (fun (v1:Int)=>(Option.bind (cond (decide (v0.2.length=v0.2.length)) (loopX (fun (v2:(Int×(List Int)))=>(cond (decide (v2.1 > (127:Int))) (cond ((decide (v2.2.length=v2.2.length))&&((decide (((((v2.2.length+1):Nat):Int) * (1:Int))≤(70368744177664:Int)))&&(decide ((((v2.2.length+1):Nat):Int)≤(70368744177664:Int))))) (cond (decide ((v2.2.length+1)=(Append.append v2.2 ((IntKind.wrap IntKind.u8 (((BitVec.toNat (BitVec.or (BitVec.ofInt 8 (IntKind.wrap IntKind.u8 v2.1)) (BitVec.ofInt 8 (128:Int)))):Nat):Int))::[])).length)) (some (.inl ((Int.fdiv v2.1 (128:Int)),(Append.append v2.2 ((IntKind.wrap IntKind.u8 (((BitVec.toNat (BitVec.or (BitVec.ofInt 8 (IntKind.wrap IntKind.u8 v2.1)) (BitVec.ofInt 8 (128:Int)))):Nat):Int))::[]))))) none) none) (Option.map (Sum.inr) (cond (decide (v2.2.length=v2.2.length)) (some (v2.1,v2.2)) none)))) (v1,v0.2)) none) (fun (v3:(Int×(List Int)))=>(cond ((decide (v3.2.length=v3.2.length))&&((decide (((((v3.2.length+1):Nat):Int) * (1:Int))≤(70368744177664:Int)))&&(decide ((((v3.2.length+1):Nat):Int)≤(70368744177664:Int))))) (cond (decide ((v3.2.length+1)=(Append.append v3.2 ((IntKind.wrap IntKind.u8 v3.1)::[])).length)) (some (Append.append v3.2 ((IntKind.wrap IntKind.u8 v3.1)::[]))) none) none))))) none) (fun (v4:(List Int))=>(cond (decide (v4.length=v4.length)) (some (.inl ((IntKind.wrap IntKind.i64 (v0.1+(1:Int))),v4))) none))) (Option.map (Sum.inr) (cond (decide ((0+v0.2.length)≤v0.2.length)) (some (ByteArray.mk (Array.mk (List.map (fun (v5:Int)=>(UInt8.ofBitVec (BitVec.ofFin (Fin.mk (Nat.mod (Int.toNat v5) 256) (Nat.mod_lt (Int.toNat v5) (BitVec.ofNat._proof_1 8)))))) (List.take v0.2.length v0.2))))) none)))) ((0:Int),[])):=by kernel_rfl
theorem F85_eq (v:(ByteArray×Int)):F85 v=(joinX (Option.bind (cond (decide (v.2 < (0:Int))) (some true) (some (decide (v.2 > (((ByteArray.size v.1):Nat):Int))))) (fun (v0:Bool)=>(cond v0 (some (.inr ((0:Int),(0:Int),(1:Int)))) (some (.inl ()))))) (fun (v1:Unit)=>(loopX (fun (v2:(Int×Int))=>(cond (decide (v2.2 < (IntKind.wrap IntKind.i64 ((((ByteArray.size v.1):Nat):Int) - v.2)))) (joinX (cond (decide ((0:Int)≤(IntKind.wrap IntKind.i64 (v.2+v2.2)))) (Option.bind v.1[(Int.toNat (IntKind.wrap IntKind.i64 (v.2+v2.2)))]? (fun (v3:UInt8)=>(joinX (Option.bind (cond (decide (v2.2 > (0:Int))) (cond ((((UInt8.toNat v3):Nat):Int)==(0:Int)) (some true) (cond (v2.2==(9:Int)) (some (decide ((((UInt8.toNat v3):Nat):Int) > (1:Int)))) (some false))) (cond (v2.2==(9:Int)) (some (decide ((((UInt8.toNat v3):Nat):Int) > (1:Int)))) (some false))) (fun (v4:Bool)=>(cond v4 (some (.inr (.inr (.inr ((0:Int),(0:Int),(2:Int)))))) (some (.inl ()))))) (fun (v5:Unit)=>(cond (decide ((IntKind.wrap IntKind.i64 ((7:Int) * v2.2)) < (0:Int))) none (cond (decide ((((UInt8.toNat v3):Nat):Int) < (128:Int))) (some (.inr (.inr ((IntKind.wrap IntKind.u64 (((BitVec.toNat (BitVec.or (BitVec.ofInt 64 v2.1) (BitVec.ofInt 64 (IntKind.wrap IntKind.u64 ((IntKind.wrap IntKind.u64 (IntKind.wrap IntKind.u8 (((BitVec.toNat (BitVec.and (BitVec.ofInt 8 (((UInt8.toNat v3):Nat):Int)) (BitVec.ofInt 8 (127:Int)))):Nat):Int))) * (Int.pow (2:Int) (min (Int.toNat (IntKind.wrap IntKind.i64 ((7:Int) * v2.2))) 64))))))):Nat):Int)),(IntKind.wrap IntKind.i64 ((IntKind.wrap IntKind.i64 (v.2+v2.2))+(1:Int))),(0:Int))))) (some (.inl (IntKind.wrap IntKind.u64 (((BitVec.toNat (BitVec.or (BitVec.ofInt 64 v2.1) (BitVec.ofInt 64 (IntKind.wrap IntKind.u64 ((IntKind.wrap IntKind.u64 (IntKind.wrap IntKind.u8 (((BitVec.toNat (BitVec.and (BitVec.ofInt 8 (((UInt8.toNat v3):Nat):Int)) (BitVec.ofInt 8 (127:Int)))):Nat):Int))) * (Int.pow (2:Int) (min (Int.toNat (IntKind.wrap IntKind.i64 ((7:Int) * v2.2))) 64))))))):Nat):Int)))))))))) none) (fun (v6:Int)=>(some (.inl (v6,(IntKind.wrap IntKind.i64 (v2.2+(1:Int)))))))) (some (.inr ((0:Int),(0:Int),(3:Int)))))) ((0:Int),(0:Int))))):=by kernel_rfl
theorem F26_eq (v:Int):F26 v=(cond (decide (v ≥ (0:Int))) (some (decide (v < (64:Int)))) (some false)):=by kernel_rfl
theorem F55_eq (v:(Int×(Int×(Int×(Int×(Int×(Int×(Int×((List (Int×(Int×Int)))×((List (Int×Int))×(Int×(Int×(Int×(ByteArray×(Int×Bool))))))))))))))):F55 v=(Option.bind (F26 v.2.2.2.2.1) (fun (v0:Bool)=>(some v0))):=by kernel_rfl
theorem F59_eq (v:(List (Int×Int))):F59 v=(loopX (fun (v0:Int)=>(cond (decide (v0 < ((v.length:Nat):Int))) (joinX (cond (decide ((0:Int)≤v0)) (Option.bind v[(Int.toNat v0)]? (fun (v1:(Int×Int))=>(Option.bind (cond (decide (v1.2 < (0:Int))) (some true) (some (decide (v1.2 > (3:Int))))) (fun (v2:Bool)=>(cond v2 (some (.inr (.inr (1:Int)))) (some (.inl ()))))))) none) (fun (v3:Unit)=>(some (.inl (IntKind.wrap IntKind.i64 (v0+(1:Int))))))) (some (.inr (0:Int))))) (0:Int)):=by kernel_rfl
theorem F58_eq (v:(Int×(Int×(Int×(Int×(Int×(Int×(Int×((List (Int×(Int×Int)))×((List (Int×Int))×(Int×(Int×(Int×(ByteArray×(Int×Bool))))))))))))))):F58 v=(Option.bind (F59 ((v.2.2.2.2.2.1,v.2.2.2.2.2.2.1)::[])) (fun (v0:Int)=>(some (v0==(0:Int))))):=by kernel_rfl
theorem F87_eq (v:(Int×(Int×Int))):F87 v=(Option.bind (F26 v.1) (fun (v0:Bool)=>(cond (!v0) (some true) (Option.bind (F59 ((v.2.1,v.2.2)::[])) (fun (v1:Int)=>(some (v1 != (0:Int)))))))):=by kernel_rfl
theorem F64_eq (v:(Int×(Int×(Int×(Int×(Int×(Int×(Int×((List (Int×(Int×Int)))×((List (Int×Int))×(Int×(Int×(Int×(ByteArray×(Int×Bool))))))))))))))):F64 v=(cond (decide (((v.2.2.2.2.2.2.2.1.length:Nat):Int)≤(8:Int))) (Option.bind (loopX (fun (v0:Int)=>(cond (decide (v0 < ((v.2.2.2.2.2.2.2.1.length:Nat):Int))) (cond (decide ((0:Int)≤v0)) (Option.bind v.2.2.2.2.2.2.2.1[(Int.toNat v0)]? (fun (v1:(Int×(Int×Int)))=>(Option.bind (F87 (v1.1,v1.2.1,v1.2.2)) (fun (v2:Bool)=>(cond v2 (some (.inr v0)) (some (.inl (IntKind.wrap IntKind.i64 (v0+(1:Int)))))))))) none) (some (.inr (-1:Int))))) (0:Int)) (fun (v3:Int)=>(some (!(decide (v3 ≥ (0:Int))))))) (some false)):=by kernel_rfl
theorem F68_eq (v:(List (Int×Int))):F68 v=(Option.bind (cond (decide (((v.length:Nat):Int) < (1:Int))) (some true) (some (decide (((v.length:Nat):Int) > (64:Int))))) (fun (v0:Bool)=>(cond v0 (some (1:Int)) (Option.bind (F59 v) (fun (v1:Int)=>(some v1)))))):=by kernel_rfl
theorem F67_eq (v:(Int×(Int×(Int×(Int×(Int×(Int×(Int×((List (Int×(Int×Int)))×((List (Int×Int))×(Int×(Int×(Int×(ByteArray×(Int×Bool))))))))))))))):F67 v=(Option.bind (F68 v.2.2.2.2.2.2.2.2.1) (fun (v0:Int)=>(some (v0==(0:Int))))):=by kernel_rfl
theorem F72_eq (v:(Int×(Int×(Int×(Int×(Int×(Int×(Int×((List (Int×(Int×Int)))×((List (Int×Int))×(Int×(Int×(Int×(ByteArray×(Int×Bool))))))))))))))):F72 v=(cond (decide (v.2.2.2.2.2.2.2.2.2.2.2.1 ≥ (0:Int))) (some (decide (v.2.2.2.2.2.2.2.2.2.2.2.1≤(1099511627776:Int)))) (some false)):=by kernel_rfl
theorem F15_eq (v:ByteArray):F15 v=(joinX (loopX (fun (v0:(ByteArray×Nat))=>(cond (decide (v0.2 < (ByteArray.size v0.1))) (Option.bind (cond (decide ((((Utf8.decode v0.1 v0.2).1:Nat):Int) ≥ (97:Int))) (cond (decide ((((Utf8.decode v0.1 v0.2).1:Nat):Int)≤(122:Int))) (some false) (cond (decide ((((Utf8.decode v0.1 v0.2).1:Nat):Int) ≥ (48:Int))) (cond (decide ((((Utf8.decode v0.1 v0.2).1:Nat):Int)≤(57:Int))) (some false) (some (!((((Utf8.decode v0.1 v0.2).1:Nat):Int)==(45:Int))))) (some (!((((Utf8.decode v0.1 v0.2).1:Nat):Int)==(45:Int)))))) (cond (decide ((((Utf8.decode v0.1 v0.2).1:Nat):Int) ≥ (48:Int))) (cond (decide ((((Utf8.decode v0.1 v0.2).1:Nat):Int)≤(57:Int))) (some false) (some (!((((Utf8.decode v0.1 v0.2).1:Nat):Int)==(45:Int))))) (some (!((((Utf8.decode v0.1 v0.2).1:Nat):Int)==(45:Int)))))) (fun (v1:Bool)=>(cond v1 (some (.inr (.inr false))) (some (.inl (v0.1,(v0.2+(Utf8.decode v0.1 v0.2).2))))))) (some (.inr (.inl ()))))) (v,0)) (fun (v2:Unit)=>(cond (!((ByteArray.toList v)==(ByteArray.toList (ByteArray.mk #[])))) (some (decide ((((ByteArray.size v):Nat):Int)≤(20:Int)))) (some false)))):=by kernel_rfl
theorem F75_eq (v:(Int×(Int×(Int×(Int×(Int×(Int×(Int×((List (Int×(Int×Int)))×((List (Int×Int))×(Int×(Int×(Int×(ByteArray×(Int×Bool))))))))))))))):F75 v=(Option.bind (F15 v.2.2.2.2.2.2.2.2.2.2.2.2.1) (fun (v0:Bool)=>(some v0))):=by kernel_rfl
theorem F88_eq (v:ByteArray):F88 v=(cond (decide ((((ByteArray.size v):Nat):Int) > (200:Int))) (some ((ByteArray.mk #[]),(4:Int))) (Option.bind (F22 ((IntKind.wrap IntKind.u64 (((ByteArray.size v):Nat):Int))::[])) (fun (v0:ByteArray)=>(cond (decide (((ByteArray.size v0)+(ByteArray.size v))≤4611686018427387904)) (some ((v0++v),(0:Int))) none)))):=by kernel_rfl
theorem F24_eq (v:Int):F24 v=(cond (v==(1:Int)) (some ((ByteArray.mk #[115,101,113])::((ByteArray.mk #[107])::((ByteArray.mk #[110,101,119,115])::[])))) (cond (v==(2:Int)) (some ((ByteArray.mk #[115,101,113])::((ByteArray.mk #[119,104,111])::((ByteArray.mk #[110,101,119,115])::[])))) (cond (v==(3:Int)) (some ((ByteArray.mk #[115,101,113])::((ByteArray.mk #[119,104,111])::((ByteArray.mk #[107])::((ByteArray.mk #[110,101,119,115])::[]))))) (cond (v==(4:Int)) (some ((ByteArray.mk #[115,101,113])::((ByteArray.mk #[119,104,111])::[]))) (cond (v==(5:Int)) (some ((ByteArray.mk #[116,97,98,108,101])::[])) (cond (v==(6:Int)) (some ((ByteArray.mk #[116,97,98,108,101])::[])) (cond (v==(7:Int)) (some ((ByteArray.mk #[101,112,111,99,104])::((ByteArray.mk #[98,111,111,116])::((ByteArray.mk #[97,115,107,101,100])::[])))) (cond (v==(8:Int)) (some ((ByteArray.mk #[101,112,111,99,104])::((ByteArray.mk #[98,111,111,116])::((ByteArray.mk #[97,115,107,101,100])::[])))) (cond (v==(9:Int)) (some ((ByteArray.mk #[101,112,111,99,104])::((ByteArray.mk #[98,111,111,116])::[]))) (cond (v==(10:Int)) (some ((ByteArray.mk #[98,111,111,116])::((ByteArray.mk #[97,115,107,101,100])::[]))) (cond (v==(11:Int)) (some ((ByteArray.mk #[101,112,111,99,104])::((ByteArray.mk #[98,111,111,116])::((ByteArray.mk #[97,115,107,101,100])::((ByteArray.mk #[116,97,115,107])::((ByteArray.mk #[116,111,107,101,110])::[])))))) (cond (v==(12:Int)) (some ((ByteArray.mk #[116,97,115,107])::((ByteArray.mk #[116,111,107,101,110])::((ByteArray.mk #[103,111,111,100])::[])))) (some []))))))))))))):=by kernel_rfl
theorem F27_eq (v:(Int×(Int×(Int×(Int×(Int×(Int×(Int×((List (Int×(Int×Int)))×((List (Int×Int))×(Int×(Int×(Int×(ByteArray×(Int×Bool))))))))))))))):F27 v=(Option.bind (F24 v.1) (fun (v0:(List ByteArray))=>(loopX (fun (v1:(Int×(Int×(Int×(Int×(Int×(Int×(Int×(Int×((List (Int×(Int×Int)))×((List (Int×Int))×(Int×(Int×(Int×(ByteArray×(Int×Bool))))))))))))))))=>(cond (decide (v1.1 < ((v0.length:Nat):Int))) (Option.bind (cond (decide ((0:Int)≤v1.1)) (Option.bind v0[(Int.toNat v1.1)]? (fun (v2:ByteArray)=>(cond ((ByteArray.toList v2)==(ByteArray.toList (ByteArray.mk #[115,101,113]))) (some (v1.2.1,v1.2.2.1,v1.2.2.2.1,v.2.2.2.1,v1.2.2.2.2.2.1,v1.2.2.2.2.2.2.1,v1.2.2.2.2.2.2.2.1,v1.2.2.2.2.2.2.2.2.1,v1.2.2.2.2.2.2.2.2.2.1,v1.2.2.2.2.2.2.2.2.2.2.1,v1.2.2.2.2.2.2.2.2.2.2.2.1,v1.2.2.2.2.2.2.2.2.2.2.2.2.1,v1.2.2.2.2.2.2.2.2.2.2.2.2.2.1,v1.2.2.2.2.2.2.2.2.2.2.2.2.2.2.1,v1.2.2.2.2.2.2.2.2.2.2.2.2.2.2.2)) (cond ((ByteArray.toList v2)==(ByteArray.toList (ByteArray.mk #[119,104,111]))) (some (v1.2.1,v1.2.2.1,v1.2.2.2.1,v1.2.2.2.2.1,v.2.2.2.2.1,v1.2.2.2.2.2.2.1,v1.2.2.2.2.2.2.2.1,v1.2.2.2.2.2.2.2.2.1,v1.2.2.2.2.2.2.2.2.2.1,v1.2.2.2.2.2.2.2.2.2.2.1,v1.2.2.2.2.2.2.2.2.2.2.2.1,v1.2.2.2.2.2.2.2.2.2.2.2.2.1,v1.2.2.2.2.2.2.2.2.2.2.2.2.2.1,v1.2.2.2.2.2.2.2.2.2.2.2.2.2.2.1,v1.2.2.2.2.2.2.2.2.2.2.2.2.2.2.2)) (cond ((ByteArray.toList v2)==(ByteArray.toList (ByteArray.mk #[107]))) (some (v1.2.1,v1.2.2.1,v1.2.2.2.1,v1.2.2.2.2.1,v1.2.2.2.2.2.1,v.2.2.2.2.2.1,v.2.2.2.2.2.2.1,v1.2.2.2.2.2.2.2.2.1,v1.2.2.2.2.2.2.2.2.2.1,v1.2.2.2.2.2.2.2.2.2.2.1,v1.2.2.2.2.2.2.2.2.2.2.2.1,v1.2.2.2.2.2.2.2.2.2.2.2.2.1,v1.2.2.2.2.2.2.2.2.2.2.2.2.2.1,v1.2.2.2.2.2.2.2.2.2.2.2.2.2.2.1,v1.2.2.2.2.2.2.2.2.2.2.2.2.2.2.2)) (cond ((ByteArray.toList v2)==(ByteArray.toList (ByteArray.mk #[110,101,119,115]))) (some (v1.2.1,v1.2.2.1,v1.2.2.2.1,v1.2.2.2.2.1,v1.2.2.2.2.2.1,v1.2.2.2.2.2.2.1,v1.2.2.2.2.2.2.2.1,v.2.2.2.2.2.2.2.1,v1.2.2.2.2.2.2.2.2.2.1,v1.2.2.2.2.2.2.2.2.2.2.1,v1.2.2.2.2.2.2.2.2.2.2.2.1,v1.2.2.2.2.2.2.2.2.2.2.2.2.1,v1.2.2.2.2.2.2.2.2.2.2.2.2.2.1,v1.2.2.2.2.2.2.2.2.2.2.2.2.2.2.1,v1.2.2.2.2.2.2.2.2.2.2.2.2.2.2.2)) (cond ((ByteArray.toList v2)==(ByteArray.toList (ByteArray.mk #[116,97,98,108,101]))) (some (v1.2.1,v1.2.2.1,v1.2.2.2.1,v1.2.2.2.2.1,v1.2.2.2.2.2.1,v1.2.2.2.2.2.2.1,v1.2.2.2.2.2.2.2.1,v1.2.2.2.2.2.2.2.2.1,v.2.2.2.2.2.2.2.2.1,v1.2.2.2.2.2.2.2.2.2.2.1,v1.2.2.2.2.2.2.2.2.2.2.2.1,v1.2.2.2.2.2.2.2.2.2.2.2.2.1,v1.2.2.2.2.2.2.2.2.2.2.2.2.2.1,v1.2.2.2.2.2.2.2.2.2.2.2.2.2.2.1,v1.2.2.2.2.2.2.2.2.2.2.2.2.2.2.2)) (cond ((ByteArray.toList v2)==(ByteArray.toList (ByteArray.mk #[101,112,111,99,104]))) (some (v1.2.1,v1.2.2.1,v1.2.2.2.1,v1.2.2.2.2.1,v1.2.2.2.2.2.1,v1.2.2.2.2.2.2.1,v1.2.2.2.2.2.2.2.1,v1.2.2.2.2.2.2.2.2.1,v1.2.2.2.2.2.2.2.2.2.1,v.2.2.2.2.2.2.2.2.2.1,v1.2.2.2.2.2.2.2.2.2.2.2.1,v1.2.2.2.2.2.2.2.2.2.2.2.2.1,v1.2.2.2.2.2.2.2.2.2.2.2.2.2.1,v1.2.2.2.2.2.2.2.2.2.2.2.2.2.2.1,v1.2.2.2.2.2.2.2.2.2.2.2.2.2.2.2)) (cond ((ByteArray.toList v2)==(ByteArray.toList (ByteArray.mk #[98,111,111,116]))) (some (v1.2.1,v1.2.2.1,v1.2.2.2.1,v1.2.2.2.2.1,v1.2.2.2.2.2.1,v1.2.2.2.2.2.2.1,v1.2.2.2.2.2.2.2.1,v1.2.2.2.2.2.2.2.2.1,v1.2.2.2.2.2.2.2.2.2.1,v1.2.2.2.2.2.2.2.2.2.2.1,v.2.2.2.2.2.2.2.2.2.2.1,v1.2.2.2.2.2.2.2.2.2.2.2.2.1,v1.2.2.2.2.2.2.2.2.2.2.2.2.2.1,v1.2.2.2.2.2.2.2.2.2.2.2.2.2.2.1,v1.2.2.2.2.2.2.2.2.2.2.2.2.2.2.2)) (cond ((ByteArray.toList v2)==(ByteArray.toList (ByteArray.mk #[97,115,107,101,100]))) (some (v1.2.1,v1.2.2.1,v1.2.2.2.1,v1.2.2.2.2.1,v1.2.2.2.2.2.1,v1.2.2.2.2.2.2.1,v1.2.2.2.2.2.2.2.1,v1.2.2.2.2.2.2.2.2.1,v1.2.2.2.2.2.2.2.2.2.1,v1.2.2.2.2.2.2.2.2.2.2.1,v1.2.2.2.2.2.2.2.2.2.2.2.1,v.2.2.2.2.2.2.2.2.2.2.2.1,v1.2.2.2.2.2.2.2.2.2.2.2.2.2.1,v1.2.2.2.2.2.2.2.2.2.2.2.2.2.2.1,v1.2.2.2.2.2.2.2.2.2.2.2.2.2.2.2)) (cond ((ByteArray.toList v2)==(ByteArray.toList (ByteArray.mk #[116,97,115,107]))) (some (v1.2.1,v1.2.2.1,v1.2.2.2.1,v1.2.2.2.2.1,v1.2.2.2.2.2.1,v1.2.2.2.2.2.2.1,v1.2.2.2.2.2.2.2.1,v1.2.2.2.2.2.2.2.2.1,v1.2.2.2.2.2.2.2.2.2.1,v1.2.2.2.2.2.2.2.2.2.2.1,v1.2.2.2.2.2.2.2.2.2.2.2.1,v1.2.2.2.2.2.2.2.2.2.2.2.2.1,v.2.2.2.2.2.2.2.2.2.2.2.2.1,v1.2.2.2.2.2.2.2.2.2.2.2.2.2.2.1,v1.2.2.2.2.2.2.2.2.2.2.2.2.2.2.2)) (cond ((ByteArray.toList v2)==(ByteArray.toList (ByteArray.mk #[116,111,107,101,110]))) (some (v1.2.1,v1.2.2.1,v1.2.2.2.1,v1.2.2.2.2.1,v1.2.2.2.2.2.1,v1.2.2.2.2.2.2.1,v1.2.2.2.2.2.2.2.1,v1.2.2.2.2.2.2.2.2.1,v1.2.2.2.2.2.2.2.2.2.1,v1.2.2.2.2.2.2.2.2.2.2.1,v1.2.2.2.2.2.2.2.2.2.2.2.1,v1.2.2.2.2.2.2.2.2.2.2.2.2.1,v1.2.2.2.2.2.2.2.2.2.2.2.2.2.1,v.2.2.2.2.2.2.2.2.2.2.2.2.2.1,v1.2.2.2.2.2.2.2.2.2.2.2.2.2.2.2)) (cond ((ByteArray.toList v2)==(ByteArray.toList (ByteArray.mk #[103,111,111,100]))) (some (v1.2.1,v1.2.2.1,v1.2.2.2.1,v1.2.2.2.2.1,v1.2.2.2.2.2.1,v1.2.2.2.2.2.2.1,v1.2.2.2.2.2.2.2.1,v1.2.2.2.2.2.2.2.2.1,v1.2.2.2.2.2.2.2.2.2.1,v1.2.2.2.2.2.2.2.2.2.2.1,v1.2.2.2.2.2.2.2.2.2.2.2.1,v1.2.2.2.2.2.2.2.2.2.2.2.2.1,v1.2.2.2.2.2.2.2.2.2.2.2.2.2.1,v1.2.2.2.2.2.2.2.2.2.2.2.2.2.2.1,v.2.2.2.2.2.2.2.2.2.2.2.2.2.2)) (some (v1.2.1,v1.2.2.1,v1.2.2.2.1,v1.2.2.2.2.1,v1.2.2.2.2.2.1,v1.2.2.2.2.2.2.1,v1.2.2.2.2.2.2.2.1,v1.2.2.2.2.2.2.2.2.1,v1.2.2.2.2.2.2.2.2.2.1,v1.2.2.2.2.2.2.2.2.2.2.1,v1.2.2.2.2.2.2.2.2.2.2.2.1,v1.2.2.2.2.2.2.2.2.2.2.2.2.1,v1.2.2.2.2.2.2.2.2.2.2.2.2.2.1,v1.2.2.2.2.2.2.2.2.2.2.2.2.2.2.1,v1.2.2.2.2.2.2.2.2.2.2.2.2.2.2.2))))))))))))))) none) (fun (v3:(Int×(Int×(Int×(Int×(Int×(Int×(Int×((List (Int×(Int×Int)))×((List (Int×Int))×(Int×(Int×(Int×(ByteArray×(Int×Bool)))))))))))))))=>(some (.inl ((IntKind.wrap IntKind.i64 (v1.1+(1:Int))),v3.1,v3.2.1,v3.2.2.1,v3.2.2.2.1,v3.2.2.2.2.1,v3.2.2.2.2.2.1,v3.2.2.2.2.2.2.1,v3.2.2.2.2.2.2.2.1,v3.2.2.2.2.2.2.2.2.1,v3.2.2.2.2.2.2.2.2.2.1,v3.2.2.2.2.2.2.2.2.2.2.1,v3.2.2.2.2.2.2.2.2.2.2.2.1,v3.2.2.2.2.2.2.2.2.2.2.2.2.1,v3.2.2.2.2.2.2.2.2.2.2.2.2.2.1,v3.2.2.2.2.2.2.2.2.2.2.2.2.2.2))))) (some (.inr (v1.2.1,v1.2.2.1,v1.2.2.2.1,v1.2.2.2.2.1,v1.2.2.2.2.2.1,v1.2.2.2.2.2.2.1,v1.2.2.2.2.2.2.2.1,v1.2.2.2.2.2.2.2.2.1,v1.2.2.2.2.2.2.2.2.2.1,v1.2.2.2.2.2.2.2.2.2.2.1,v1.2.2.2.2.2.2.2.2.2.2.2.1,v1.2.2.2.2.2.2.2.2.2.2.2.2.1,v1.2.2.2.2.2.2.2.2.2.2.2.2.2.1,v1.2.2.2.2.2.2.2.2.2.2.2.2.2.2.1,v1.2.2.2.2.2.2.2.2.2.2.2.2.2.2.2))))) ((0:Int),v.1,v.2.1,v.2.2.1,(0:Int),(0:Int),(0:Int),(0:Int),[],[],(0:Int),(0:Int),(0:Int),(ByteArray.mk #[]),(0:Int),false)))):=by kernel_rfl
theorem F11_eq (v:(Int×(Int×(Int×(Int×(Int×(Int×(Int×((List (Int×(Int×Int)))×((List (Int×Int))×(Int×(Int×(Int×(ByteArray×(Int×Bool))))))))))))))):F11 v=(joinX (Option.bind (cond (decide (v.1 < (1:Int))) (some true) (cond (decide (v.1 > (12:Int))) (some true) (Option.bind (F26 v.2.1) (fun (v0:Bool)=>(cond (!v0) (some true) (Option.bind (F26 v.2.2.1) (fun (v1:Bool)=>(cond (!v1) (some true) (cond (v.2.1==v.2.2.1) (some true) (Option.bind (F27 (v.1,v.2.1,v.2.2.1,v.2.2.2.1,v.2.2.2.2.1,v.2.2.2.2.2.1,v.2.2.2.2.2.2.1,v.2.2.2.2.2.2.2.1,v.2.2.2.2.2.2.2.2.1,v.2.2.2.2.2.2.2.2.2.1,v.2.2.2.2.2.2.2.2.2.2.1,v.2.2.2.2.2.2.2.2.2.2.2.1,v.2.2.2.2.2.2.2.2.2.2.2.2.1,v.2.2.2.2.2.2.2.2.2.2.2.2.2.1,v.2.2.2.2.2.2.2.2.2.2.2.2.2.2)) (fun (v2:(Int×(Int×(Int×(Int×(Int×(Int×(Int×((List (Int×(Int×Int)))×((List (Int×Int))×(Int×(Int×(Int×(ByteArray×(Int×Bool)))))))))))))))=>(Option.bind (F13 ((v.1,v.2.1,v.2.2.1,v.2.2.2.1,v.2.2.2.2.1,v.2.2.2.2.2.1,v.2.2.2.2.2.2.1,v.2.2.2.2.2.2.2.1,v.2.2.2.2.2.2.2.2.1,v.2.2.2.2.2.2.2.2.2.1,v.2.2.2.2.2.2.2.2.2.2.1,v.2.2.2.2.2.2.2.2.2.2.2.1,v.2.2.2.2.2.2.2.2.2.2.2.2.1,v.2.2.2.2.2.2.2.2.2.2.2.2.2.1,v.2.2.2.2.2.2.2.2.2.2.2.2.2.2),v2.1,v2.2.1,v2.2.2.1,v2.2.2.2.1,v2.2.2.2.2.1,v2.2.2.2.2.2.1,v2.2.2.2.2.2.2.1,v2.2.2.2.2.2.2.2.1,v2.2.2.2.2.2.2.2.2.1,v2.2.2.2.2.2.2.2.2.2.1,v2.2.2.2.2.2.2.2.2.2.2.1,v2.2.2.2.2.2.2.2.2.2.2.2.1,v2.2.2.2.2.2.2.2.2.2.2.2.2.1,v2.2.2.2.2.2.2.2.2.2.2.2.2.2.1,v2.2.2.2.2.2.2.2.2.2.2.2.2.2.2)) (fun (v3:Bool)=>(some (!v3))))))))))))))) (fun (v4:Bool)=>(cond v4 (some (.inr (1:Int))) (some (.inl ()))))) (fun (v5:Unit)=>(Option.bind (F24 v.1) (fun (v6:(List ByteArray))=>(loopX (fun (v7:Int)=>(cond (decide (v7 < ((v6.length:Nat):Int))) (cond (decide ((0:Int)≤v7)) (Option.bind v6[(Int.toNat v7)]? (fun (v8:ByteArray)=>(cond ((ByteArray.toList v8)==(ByteArray.toList (ByteArray.mk #[115,101,113]))) (Option.bind (F47 (v.1,v.2.1,v.2.2.1,v.2.2.2.1,v.2.2.2.2.1,v.2.2.2.2.2.1,v.2.2.2.2.2.2.1,v.2.2.2.2.2.2.2.1,v.2.2.2.2.2.2.2.2.1,v.2.2.2.2.2.2.2.2.2.1,v.2.2.2.2.2.2.2.2.2.2.1,v.2.2.2.2.2.2.2.2.2.2.2.1,v.2.2.2.2.2.2.2.2.2.2.2.2.1,v.2.2.2.2.2.2.2.2.2.2.2.2.2.1,v.2.2.2.2.2.2.2.2.2.2.2.2.2.2)) (fun (v9:Bool)=>(cond (!v9) (some (.inr (1:Int))) (some (.inl (IntKind.wrap IntKind.i64 (v7+(1:Int)))))))) (cond ((ByteArray.toList v8)==(ByteArray.toList (ByteArray.mk #[101,112,111,99,104]))) (Option.bind (F47 (v.1,v.2.1,v.2.2.1,v.2.2.2.1,v.2.2.2.2.1,v.2.2.2.2.2.1,v.2.2.2.2.2.2.1,v.2.2.2.2.2.2.2.1,v.2.2.2.2.2.2.2.2.1,v.2.2.2.2.2.2.2.2.2.1,v.2.2.2.2.2.2.2.2.2.2.1,v.2.2.2.2.2.2.2.2.2.2.2.1,v.2.2.2.2.2.2.2.2.2.2.2.2.1,v.2.2.2.2.2.2.2.2.2.2.2.2.2.1,v.2.2.2.2.2.2.2.2.2.2.2.2.2.2)) (fun (v10:Bool)=>(cond (!v10) (some (.inr (1:Int))) (some (.inl (IntKind.wrap IntKind.i64 (v7+(1:Int)))))))) (cond ((ByteArray.toList v8)==(ByteArray.toList (ByteArray.mk #[98,111,111,116]))) (Option.bind (F47 (v.1,v.2.1,v.2.2.1,v.2.2.2.1,v.2.2.2.2.1,v.2.2.2.2.2.1,v.2.2.2.2.2.2.1,v.2.2.2.2.2.2.2.1,v.2.2.2.2.2.2.2.2.1,v.2.2.2.2.2.2.2.2.2.1,v.2.2.2.2.2.2.2.2.2.2.1,v.2.2.2.2.2.2.2.2.2.2.2.1,v.2.2.2.2.2.2.2.2.2.2.2.2.1,v.2.2.2.2.2.2.2.2.2.2.2.2.2.1,v.2.2.2.2.2.2.2.2.2.2.2.2.2.2)) (fun (v11:Bool)=>(cond (!v11) (some (.inr (1:Int))) (some (.inl (IntKind.wrap IntKind.i64 (v7+(1:Int)))))))) (cond ((ByteArray.toList v8)==(ByteArray.toList (ByteArray.mk #[116,111,107,101,110]))) (Option.bind (F47 (v.1,v.2.1,v.2.2.1,v.2.2.2.1,v.2.2.2.2.1,v.2.2.2.2.2.1,v.2.2.2.2.2.2.1,v.2.2.2.2.2.2.2.1,v.2.2.2.2.2.2.2.2.1,v.2.2.2.2.2.2.2.2.2.1,v.2.2.2.2.2.2.2.2.2.2.1,v.2.2.2.2.2.2.2.2.2.2.2.1,v.2.2.2.2.2.2.2.2.2.2.2.2.1,v.2.2.2.2.2.2.2.2.2.2.2.2.2.1,v.2.2.2.2.2.2.2.2.2.2.2.2.2.2)) (fun (v12:Bool)=>(cond (!v12) (some (.inr (1:Int))) (some (.inl (IntKind.wrap IntKind.i64 (v7+(1:Int)))))))) (cond ((ByteArray.toList v8)==(ByteArray.toList (ByteArray.mk #[119,104,111]))) (Option.bind (F55 (v.1,v.2.1,v.2.2.1,v.2.2.2.1,v.2.2.2.2.1,v.2.2.2.2.2.1,v.2.2.2.2.2.2.1,v.2.2.2.2.2.2.2.1,v.2.2.2.2.2.2.2.2.1,v.2.2.2.2.2.2.2.2.2.1,v.2.2.2.2.2.2.2.2.2.2.1,v.2.2.2.2.2.2.2.2.2.2.2.1,v.2.2.2.2.2.2.2.2.2.2.2.2.1,v.2.2.2.2.2.2.2.2.2.2.2.2.2.1,v.2.2.2.2.2.2.2.2.2.2.2.2.2.2)) (fun (v13:Bool)=>(cond (!v13) (some (.inr (1:Int))) (some (.inl (IntKind.wrap IntKind.i64 (v7+(1:Int)))))))) (cond ((ByteArray.toList v8)==(ByteArray.toList (ByteArray.mk #[107]))) (Option.bind (F58 (v.1,v.2.1,v.2.2.1,v.2.2.2.1,v.2.2.2.2.1,v.2.2.2.2.2.1,v.2.2.2.2.2.2.1,v.2.2.2.2.2.2.2.1,v.2.2.2.2.2.2.2.2.1,v.2.2.2.2.2.2.2.2.2.1,v.2.2.2.2.2.2.2.2.2.2.1,v.2.2.2.2.2.2.2.2.2.2.2.1,v.2.2.2.2.2.2.2.2.2.2.2.2.1,v.2.2.2.2.2.2.2.2.2.2.2.2.2.1,v.2.2.2.2.2.2.2.2.2.2.2.2.2.2)) (fun (v14:Bool)=>(cond (!v14) (some (.inr (1:Int))) (some (.inl (IntKind.wrap IntKind.i64 (v7+(1:Int)))))))) (cond ((ByteArray.toList v8)==(ByteArray.toList (ByteArray.mk #[110,101,119,115]))) (Option.bind (F64 (v.1,v.2.1,v.2.2.1,v.2.2.2.1,v.2.2.2.2.1,v.2.2.2.2.2.1,v.2.2.2.2.2.2.1,v.2.2.2.2.2.2.2.1,v.2.2.2.2.2.2.2.2.1,v.2.2.2.2.2.2.2.2.2.1,v.2.2.2.2.2.2.2.2.2.2.1,v.2.2.2.2.2.2.2.2.2.2.2.1,v.2.2.2.2.2.2.2.2.2.2.2.2.1,v.2.2.2.2.2.2.2.2.2.2.2.2.2.1,v.2.2.2.2.2.2.2.2.2.2.2.2.2.2)) (fun (v15:Bool)=>(cond (!v15) (some (.inr (1:Int))) (some (.inl (IntKind.wrap IntKind.i64 (v7+(1:Int)))))))) (cond ((ByteArray.toList v8)==(ByteArray.toList (ByteArray.mk #[116,97,98,108,101]))) (Option.bind (F67 (v.1,v.2.1,v.2.2.1,v.2.2.2.1,v.2.2.2.2.1,v.2.2.2.2.2.1,v.2.2.2.2.2.2.1,v.2.2.2.2.2.2.2.1,v.2.2.2.2.2.2.2.2.1,v.2.2.2.2.2.2.2.2.2.1,v.2.2.2.2.2.2.2.2.2.2.1,v.2.2.2.2.2.2.2.2.2.2.2.1,v.2.2.2.2.2.2.2.2.2.2.2.2.1,v.2.2.2.2.2.2.2.2.2.2.2.2.2.1,v.2.2.2.2.2.2.2.2.2.2.2.2.2.2)) (fun (v16:Bool)=>(cond (!v16) (some (.inr (1:Int))) (some (.inl (IntKind.wrap IntKind.i64 (v7+(1:Int)))))))) (cond ((ByteArray.toList v8)==(ByteArray.toList (ByteArray.mk #[97,115,107,101,100]))) (Option.bind (F72 (v.1,v.2.1,v.2.2.1,v.2.2.2.1,v.2.2.2.2.1,v.2.2.2.2.2.1,v.2.2.2.2.2.2.1,v.2.2.2.2.2.2.2.1,v.2.2.2.2.2.2.2.2.1,v.2.2.2.2.2.2.2.2.2.1,v.2.2.2.2.2.2.2.2.2.2.1,v.2.2.2.2.2.2.2.2.2.2.2.1,v.2.2.2.2.2.2.2.2.2.2.2.2.1,v.2.2.2.2.2.2.2.2.2.2.2.2.2.1,v.2.2.2.2.2.2.2.2.2.2.2.2.2.2)) (fun (v17:Bool)=>(cond (!v17) (some (.inr (1:Int))) (some (.inl (IntKind.wrap IntKind.i64 (v7+(1:Int)))))))) (cond ((ByteArray.toList v8)==(ByteArray.toList (ByteArray.mk #[116,97,115,107]))) (Option.bind (F75 (v.1,v.2.1,v.2.2.1,v.2.2.2.1,v.2.2.2.2.1,v.2.2.2.2.2.1,v.2.2.2.2.2.2.1,v.2.2.2.2.2.2.2.1,v.2.2.2.2.2.2.2.2.1,v.2.2.2.2.2.2.2.2.2.1,v.2.2.2.2.2.2.2.2.2.2.1,v.2.2.2.2.2.2.2.2.2.2.2.1,v.2.2.2.2.2.2.2.2.2.2.2.2.1,v.2.2.2.2.2.2.2.2.2.2.2.2.2.1,v.2.2.2.2.2.2.2.2.2.2.2.2.2.2)) (fun (v18:Bool)=>(cond (!v18) (some (.inr (1:Int))) (some (.inl (IntKind.wrap IntKind.i64 (v7+(1:Int)))))))) (cond ((ByteArray.toList v8)==(ByteArray.toList (ByteArray.mk #[103,111,111,100]))) (Option.bind (F47 (v.1,v.2.1,v.2.2.1,v.2.2.2.1,v.2.2.2.2.1,v.2.2.2.2.2.1,v.2.2.2.2.2.2.1,v.2.2.2.2.2.2.2.1,v.2.2.2.2.2.2.2.2.1,v.2.2.2.2.2.2.2.2.2.1,v.2.2.2.2.2.2.2.2.2.2.1,v.2.2.2.2.2.2.2.2.2.2.2.1,v.2.2.2.2.2.2.2.2.2.2.2.2.1,v.2.2.2.2.2.2.2.2.2.2.2.2.2.1,v.2.2.2.2.2.2.2.2.2.2.2.2.2.2)) (fun (v19:Bool)=>(cond (!v19) (some (.inr (1:Int))) (some (.inl (IntKind.wrap IntKind.i64 (v7+(1:Int)))))))) none))))))))))))) none) (some (.inr (0:Int))))) (0:Int)))))):=by kernel_rfl
theorem F81_eq (v:Int):F81 v=(some (ByteArray.mk (Array.mk ((UInt8.ofBitVec (BitVec.ofFin (Fin.mk (Nat.mod (Int.toNat (IntKind.wrap IntKind.u8 v)) 256) (Nat.mod_lt (Int.toNat (IntKind.wrap IntKind.u8 v)) (BitVec.ofNat._proof_1 8)))))::((UInt8.ofBitVec (BitVec.ofFin (Fin.mk (Nat.mod (Int.toNat (IntKind.wrap IntKind.u8 (Int.fdiv v (256:Int)))) 256) (Nat.mod_lt (Int.toNat (IntKind.wrap IntKind.u8 (Int.fdiv v (256:Int)))) (BitVec.ofNat._proof_1 8)))))::((UInt8.ofBitVec (BitVec.ofFin (Fin.mk (Nat.mod (Int.toNat (IntKind.wrap IntKind.u8 (Int.fdiv v (65536:Int)))) 256) (Nat.mod_lt (Int.toNat (IntKind.wrap IntKind.u8 (Int.fdiv v (65536:Int)))) (BitVec.ofNat._proof_1 8)))))::((UInt8.ofBitVec (BitVec.ofFin (Fin.mk (Nat.mod (Int.toNat (IntKind.wrap IntKind.u8 (Int.fdiv v (16777216:Int)))) 256) (Nat.mod_lt (Int.toNat (IntKind.wrap IntKind.u8 (Int.fdiv v (16777216:Int)))) (BitVec.ofNat._proof_1 8)))))::[]))))))):=by kernel_rfl
theorem F25_eq (v:ByteArray):F25 v=(cond (decide ((((ByteArray.size v):Nat):Int) > (4096:Int))) (some ((ByteArray.mk #[]),(4:Int))) (Option.bind (F82 v) (fun (v0:Int)=>(Option.bind (F81 v0) (fun (v1:ByteArray)=>(cond (decide (((ByteArray.size v)+(ByteArray.size v1))≤4611686018427387904)) (some ((v++v1),(0:Int))) none)))))):=by kernel_rfl
theorem F10_eq (v:(Int×(Int×(Int×(Int×(Int×(Int×(Int×((List (Int×(Int×Int)))×((List (Int×Int))×(Int×(Int×(Int×(ByteArray×(Int×Bool))))))))))))))):F10 v=(Option.bind (F11 (v.1,v.2.1,v.2.2.1,v.2.2.2.1,v.2.2.2.2.1,v.2.2.2.2.2.1,v.2.2.2.2.2.2.1,v.2.2.2.2.2.2.2.1,v.2.2.2.2.2.2.2.2.1,v.2.2.2.2.2.2.2.2.2.1,v.2.2.2.2.2.2.2.2.2.2.1,v.2.2.2.2.2.2.2.2.2.2.2.1,v.2.2.2.2.2.2.2.2.2.2.2.2.1,v.2.2.2.2.2.2.2.2.2.2.2.2.2.1,v.2.2.2.2.2.2.2.2.2.2.2.2.2.2)) (fun (v0:Int)=>(cond (v0 != (0:Int)) (some ((ByteArray.mk #[]),v0)) (Option.bind (F22 ((IntKind.wrap IntKind.u64 v.1)::((IntKind.wrap IntKind.u64 v.2.1)::((IntKind.wrap IntKind.u64 v.2.2.1)::[])))) (fun (v1:ByteArray)=>(Option.bind (Option.bind (F24 v.1) (fun (v2:(List ByteArray))=>(loopX (fun (v3:(ByteArray×Int))=>(cond (decide (v3.2 < ((v2.length:Nat):Int))) (cond (decide ((0:Int)≤v3.2)) (Option.bind v2[(Int.toNat v3.2)]? (fun (v4:ByteArray)=>(cond ((ByteArray.toList v4)==(ByteArray.toList (ByteArray.mk #[115,101,113]))) (Option.bind (F22 (v.2.2.2.1::[])) (fun (v5:ByteArray)=>(cond (decide (((ByteArray.size v3.1)+(ByteArray.size v5))≤4611686018427387904)) (some (.inl ((v3.1++v5),(IntKind.wrap IntKind.i64 (v3.2+(1:Int)))))) none))) (cond ((ByteArray.toList v4)==(ByteArray.toList (ByteArray.mk #[101,112,111,99,104]))) (Option.bind (F22 (v.2.2.2.2.2.2.2.2.2.1::[])) (fun (v6:ByteArray)=>(cond (decide (((ByteArray.size v3.1)+(ByteArray.size v6))≤4611686018427387904)) (some (.inl ((v3.1++v6),(IntKind.wrap IntKind.i64 (v3.2+(1:Int)))))) none))) (cond ((ByteArray.toList v4)==(ByteArray.toList (ByteArray.mk #[98,111,111,116]))) (Option.bind (F22 (v.2.2.2.2.2.2.2.2.2.2.1::[])) (fun (v7:ByteArray)=>(cond (decide (((ByteArray.size v3.1)+(ByteArray.size v7))≤4611686018427387904)) (some (.inl ((v3.1++v7),(IntKind.wrap IntKind.i64 (v3.2+(1:Int)))))) none))) (cond ((ByteArray.toList v4)==(ByteArray.toList (ByteArray.mk #[116,111,107,101,110]))) (Option.bind (F22 (v.2.2.2.2.2.2.2.2.2.2.2.2.2.1::[])) (fun (v8:ByteArray)=>(cond (decide (((ByteArray.size v3.1)+(ByteArray.size v8))≤4611686018427387904)) (some (.inl ((v3.1++v8),(IntKind.wrap IntKind.i64 (v3.2+(1:Int)))))) none))) (cond ((ByteArray.toList v4)==(ByteArray.toList (ByteArray.mk #[119,104,111]))) (Option.bind (F56 (v.1,v.2.1,v.2.2.1,v.2.2.2.1,v.2.2.2.2.1,v.2.2.2.2.2.1,v.2.2.2.2.2.2.1,v.2.2.2.2.2.2.2.1,v.2.2.2.2.2.2.2.2.1,v.2.2.2.2.2.2.2.2.2.1,v.2.2.2.2.2.2.2.2.2.2.1,v.2.2.2.2.2.2.2.2.2.2.2.1,v.2.2.2.2.2.2.2.2.2.2.2.2.1,v.2.2.2.2.2.2.2.2.2.2.2.2.2.1,v.2.2.2.2.2.2.2.2.2.2.2.2.2.2)) (fun (v9:ByteArray)=>(cond (decide (((ByteArray.size v3.1)+(ByteArray.size v9))≤4611686018427387904)) (some (.inl ((v3.1++v9),(IntKind.wrap IntKind.i64 (v3.2+(1:Int)))))) none))) (cond ((ByteArray.toList v4)==(ByteArray.toList (ByteArray.mk #[107]))) (Option.bind (F60 (v.1,v.2.1,v.2.2.1,v.2.2.2.1,v.2.2.2.2.1,v.2.2.2.2.2.1,v.2.2.2.2.2.2.1,v.2.2.2.2.2.2.2.1,v.2.2.2.2.2.2.2.2.1,v.2.2.2.2.2.2.2.2.2.1,v.2.2.2.2.2.2.2.2.2.2.1,v.2.2.2.2.2.2.2.2.2.2.2.1,v.2.2.2.2.2.2.2.2.2.2.2.2.1,v.2.2.2.2.2.2.2.2.2.2.2.2.2.1,v.2.2.2.2.2.2.2.2.2.2.2.2.2.2)) (fun (v10:ByteArray)=>(cond (decide (((ByteArray.size v3.1)+(ByteArray.size v10))≤4611686018427387904)) (some (.inl ((v3.1++v10),(IntKind.wrap IntKind.i64 (v3.2+(1:Int)))))) none))) (cond ((ByteArray.toList v4)==(ByteArray.toList (ByteArray.mk #[110,101,119,115]))) (Option.bind (F65 (v.1,v.2.1,v.2.2.1,v.2.2.2.1,v.2.2.2.2.1,v.2.2.2.2.2.1,v.2.2.2.2.2.2.1,v.2.2.2.2.2.2.2.1,v.2.2.2.2.2.2.2.2.1,v.2.2.2.2.2.2.2.2.2.1,v.2.2.2.2.2.2.2.2.2.2.1,v.2.2.2.2.2.2.2.2.2.2.2.1,v.2.2.2.2.2.2.2.2.2.2.2.2.1,v.2.2.2.2.2.2.2.2.2.2.2.2.2.1,v.2.2.2.2.2.2.2.2.2.2.2.2.2.2)) (fun (v11:ByteArray)=>(cond (decide (((ByteArray.size v3.1)+(ByteArray.size v11))≤4611686018427387904)) (some (.inl ((v3.1++v11),(IntKind.wrap IntKind.i64 (v3.2+(1:Int)))))) none))) (cond ((ByteArray.toList v4)==(ByteArray.toList (ByteArray.mk #[116,97,98,108,101]))) (Option.bind (F69 (v.1,v.2.1,v.2.2.1,v.2.2.2.1,v.2.2.2.2.1,v.2.2.2.2.2.1,v.2.2.2.2.2.2.1,v.2.2.2.2.2.2.2.1,v.2.2.2.2.2.2.2.2.1,v.2.2.2.2.2.2.2.2.2.1,v.2.2.2.2.2.2.2.2.2.2.1,v.2.2.2.2.2.2.2.2.2.2.2.1,v.2.2.2.2.2.2.2.2.2.2.2.2.1,v.2.2.2.2.2.2.2.2.2.2.2.2.2.1,v.2.2.2.2.2.2.2.2.2.2.2.2.2.2)) (fun (v12:ByteArray)=>(cond (decide (((ByteArray.size v3.1)+(ByteArray.size v12))≤4611686018427387904)) (some (.inl ((v3.1++v12),(IntKind.wrap IntKind.i64 (v3.2+(1:Int)))))) none))) (cond ((ByteArray.toList v4)==(ByteArray.toList (ByteArray.mk #[97,115,107,101,100]))) (Option.bind (F73 (v.1,v.2.1,v.2.2.1,v.2.2.2.1,v.2.2.2.2.1,v.2.2.2.2.2.1,v.2.2.2.2.2.2.1,v.2.2.2.2.2.2.2.1,v.2.2.2.2.2.2.2.2.1,v.2.2.2.2.2.2.2.2.2.1,v.2.2.2.2.2.2.2.2.2.2.1,v.2.2.2.2.2.2.2.2.2.2.2.1,v.2.2.2.2.2.2.2.2.2.2.2.2.1,v.2.2.2.2.2.2.2.2.2.2.2.2.2.1,v.2.2.2.2.2.2.2.2.2.2.2.2.2.2)) (fun (v13:ByteArray)=>(cond (decide (((ByteArray.size v3.1)+(ByteArray.size v13))≤4611686018427387904)) (some (.inl ((v3.1++v13),(IntKind.wrap IntKind.i64 (v3.2+(1:Int)))))) none))) (cond ((ByteArray.toList v4)==(ByteArray.toList (ByteArray.mk #[116,97,115,107]))) (Option.bind (F76 (v.1,v.2.1,v.2.2.1,v.2.2.2.1,v.2.2.2.2.1,v.2.2.2.2.2.1,v.2.2.2.2.2.2.1,v.2.2.2.2.2.2.2.1,v.2.2.2.2.2.2.2.2.1,v.2.2.2.2.2.2.2.2.2.1,v.2.2.2.2.2.2.2.2.2.2.1,v.2.2.2.2.2.2.2.2.2.2.2.1,v.2.2.2.2.2.2.2.2.2.2.2.2.1,v.2.2.2.2.2.2.2.2.2.2.2.2.2.1,v.2.2.2.2.2.2.2.2.2.2.2.2.2.2)) (fun (v14:ByteArray)=>(cond (decide (((ByteArray.size v3.1)+(ByteArray.size v14))≤4611686018427387904)) (some (.inl ((v3.1++v14),(IntKind.wrap IntKind.i64 (v3.2+(1:Int)))))) none))) (cond ((ByteArray.toList v4)==(ByteArray.toList (ByteArray.mk #[103,111,111,100]))) (Option.bind (F78 (v.1,v.2.1,v.2.2.1,v.2.2.2.1,v.2.2.2.2.1,v.2.2.2.2.2.1,v.2.2.2.2.2.2.1,v.2.2.2.2.2.2.2.1,v.2.2.2.2.2.2.2.2.1,v.2.2.2.2.2.2.2.2.2.1,v.2.2.2.2.2.2.2.2.2.2.1,v.2.2.2.2.2.2.2.2.2.2.2.1,v.2.2.2.2.2.2.2.2.2.2.2.2.1,v.2.2.2.2.2.2.2.2.2.2.2.2.2.1,v.2.2.2.2.2.2.2.2.2.2.2.2.2.2)) (fun (v15:ByteArray)=>(cond (decide (((ByteArray.size v3.1)+(ByteArray.size v15))≤4611686018427387904)) (some (.inl ((v3.1++v15),(IntKind.wrap IntKind.i64 (v3.2+(1:Int)))))) none))) none))))))))))))) none) (some (.inr v3.1)))) (v1,(0:Int))))) (fun (v16:ByteArray)=>(Option.bind (F25 v16) (fun (v17:(ByteArray×Int))=>(some (v17.1,v17.2))))))))))):=by kernel_rfl
theorem F34_eq (v:((List (Int×(Int×Int)))×(List (Int×(Int×Int))))):F34 v=(cond (((v.1.length:Nat):Int) != ((v.2.length:Nat):Int)) (some false) (loopX (fun (v0:Int)=>(cond (decide (v0 < ((v.1.length:Nat):Int))) (cond (decide ((0:Int)≤v0)) (Option.bind v.1[(Int.toNat v0)]? (fun (v1:(Int×(Int×Int)))=>(cond (decide ((0:Int)≤v0)) (Option.bind v.2[(Int.toNat v0)]? (fun (v2:(Int×(Int×Int)))=>(cond (!((v1.1==v2.1)&&((v1.2.1==v2.2.1)&&((v1.2.2==v2.2.2)&&true)))) (some (.inr false)) (some (.inl (IntKind.wrap IntKind.i64 (v0+(1:Int)))))))) none))) none) (some (.inr true)))) (0:Int))):=by kernel_rfl
theorem F35_eq (v:((List (Int×Int))×(List (Int×Int)))):F35 v=(cond (((v.1.length:Nat):Int) != ((v.2.length:Nat):Int)) (some false) (loopX (fun (v0:Int)=>(cond (decide (v0 < ((v.1.length:Nat):Int))) (cond (decide ((0:Int)≤v0)) (Option.bind v.1[(Int.toNat v0)]? (fun (v1:(Int×Int))=>(cond (decide ((0:Int)≤v0)) (Option.bind v.2[(Int.toNat v0)]? (fun (v2:(Int×Int))=>(cond (!((v1.1==v2.1)&&((v1.2==v2.2)&&true))) (some (.inr false)) (some (.inl (IntKind.wrap IntKind.i64 (v0+(1:Int)))))))) none))) none) (some (.inr true)))) (0:Int))):=by kernel_rfl
theorem F14_eq (v:((Int×(Int×(Int×(Int×(Int×(Int×(Int×((List (Int×(Int×Int)))×((List (Int×Int))×(Int×(Int×(Int×(ByteArray×(Int×Bool))))))))))))))×(Int×(Int×(Int×(Int×(Int×(Int×(Int×((List (Int×(Int×Int)))×((List (Int×Int))×(Int×(Int×(Int×(ByteArray×(Int×Bool)))))))))))))))):F14 v=(cond (v.1.1==v.2.1) (cond (v.1.2.1==v.2.2.1) (cond (v.1.2.2.1==v.2.2.2.1) (cond (v.1.2.2.2.1==v.2.2.2.2.1) (cond (v.1.2.2.2.2.1==v.2.2.2.2.2.1) (cond ((v.1.2.2.2.2.2.1==v.2.2.2.2.2.2.1)&&((v.1.2.2.2.2.2.2.1==v.2.2.2.2.2.2.2.1)&&true)) (Option.bind (F34 (v.1.2.2.2.2.2.2.2.1,v.2.2.2.2.2.2.2.2.1)) (fun (v0:Bool)=>(cond v0 (Option.bind (F35 (v.1.2.2.2.2.2.2.2.2.1,v.2.2.2.2.2.2.2.2.2.1)) (fun (v1:Bool)=>(cond v1 (cond (v.1.2.2.2.2.2.2.2.2.2.1==v.2.2.2.2.2.2.2.2.2.2.1) (cond (v.1.2.2.2.2.2.2.2.2.2.2.1==v.2.2.2.2.2.2.2.2.2.2.2.1) (cond (v.1.2.2.2.2.2.2.2.2.2.2.2.1==v.2.2.2.2.2.2.2.2.2.2.2.2.1) (cond ((ByteArray.toList v.1.2.2.2.2.2.2.2.2.2.2.2.2.1)==(ByteArray.toList v.2.2.2.2.2.2.2.2.2.2.2.2.2.1)) (cond (v.1.2.2.2.2.2.2.2.2.2.2.2.2.2.1==v.2.2.2.2.2.2.2.2.2.2.2.2.2.2.1) (some (v.1.2.2.2.2.2.2.2.2.2.2.2.2.2.2==v.2.2.2.2.2.2.2.2.2.2.2.2.2.2.2)) (some false)) (some false)) (some false)) (some false)) (some false)) (some false)))) (some false)))) (some false)) (some false)) (some false)) (some false)) (some false)) (some false)):=by kernel_rfl
theorem F38_eq (v:ByteArray):F38 v=(cond (decide ((IntKind.wrap IntKind.i64 ((((ByteArray.size v):Nat):Int) - (4:Int))) < (0:Int))) (some ((ByteArray.mk #[]),(3:Int))) (cond (decide ((IntKind.wrap IntKind.i64 ((((ByteArray.size v):Nat):Int) - (4:Int))) > (4096:Int))) (some ((ByteArray.mk #[]),(4:Int))) (cond ((decide ((0:Int)≤(IntKind.wrap IntKind.i64 ((((ByteArray.size v):Nat):Int) - (4:Int)))))&&(decide ((IntKind.wrap IntKind.i64 ((((ByteArray.size v):Nat):Int) - (4:Int)))≤(((ByteArray.size v):Nat):Int)))) (cond ((decide ((0:Int)≤(IntKind.wrap IntKind.i64 ((((ByteArray.size v):Nat):Int) - (4:Int)))))&&(decide ((IntKind.wrap IntKind.i64 ((((ByteArray.size v):Nat):Int) - (4:Int)))≤(((ByteArray.size v):Nat):Int)))) (Option.bind (F82 (ByteArray.extract v 0 (Int.toNat (IntKind.wrap IntKind.i64 ((((ByteArray.size v):Nat):Int) - (4:Int)))))) (fun (v0:Int)=>(Option.bind (F81 v0) (fun (v1:ByteArray)=>(cond (!((ByteArray.toList (ByteArray.extract v (Int.toNat (IntKind.wrap IntKind.i64 ((((ByteArray.size v):Nat):Int) - (4:Int)))) (ByteArray.size v)))==(ByteArray.toList v1))) (some ((ByteArray.mk #[]),(10:Int))) (cond ((decide ((0:Int)≤(IntKind.wrap IntKind.i64 ((((ByteArray.size v):Nat):Int) - (4:Int)))))&&(decide ((IntKind.wrap IntKind.i64 ((((ByteArray.size v):Nat):Int) - (4:Int)))≤(((ByteArray.size v):Nat):Int)))) (some ((ByteArray.extract v 0 (Int.toNat (IntKind.wrap IntKind.i64 ((((ByteArray.size v):Nat):Int) - (4:Int))))),(0:Int))) none)))))) none) none))):=by kernel_rfl
end Go.Proofs.Ytgbcankkfmhcoaa.VL
end
section
namespace Go.Proofs.Ytgbcankkfmhcoaa.VL
open Go
set_option linter.unusedVariables false
set_option linter.unusedSectionVars false
set_option linter.unusedSimpArgs false
set_option maxRecDepth 100000
variable [Val]
theorem F15_ok {s:ByteArray} (hs:s.size≤maxLen):F15 s=some (nmB s):=by
 rw [F15_eq,runes_loop]
 ·unfold nmB
  rw [toList_nil]
  cases (List.range s.size).all (fun i=>okB (s.get! i).toNat)
  ·rfl
  ·simp only [if_true,joinX_l,Bool.true_and]
   by_cases h0:s.size=0
   ·simp [h0]
   ·have e1:decide (1≤s.size)=true:=by rw [decide_eq_true_iff]; omega
    have e2:decide (((s.size:Nat):Int)≤20)=decide (s.size≤20):=by rw [Bool.eq_iff_iff,decide_eq_true_iff,decide_eq_true_iff]; omega
    simp only [h0,decide_false,Bool.not_false,cond_true,e1,e2,Bool.true_and]
 ·intro pos hp
  have:¬ pos < s.size:=by omega
  simp only [this,decide_false,cond_false]
 ·intro pos hp
  simp only [hp,decide_true,cond_true]
  exact rune_cond _ _ _
end Go.Proofs.Ytgbcankkfmhcoaa.VL
end
section
namespace Go.Proofs.Ytgbcankkfmhcoaa.VL
open Go
set_option linter.unusedVariables false
set_option linter.unusedSectionVars false
set_option linter.unusedSimpArgs false
set_option maxRecDepth 100000
variable [Val]
abbrev NW:=Int×(Int×Int)
abbrev KW:=Int×Int
abbrev MB:=Int×(Int×(Int×(Int×(Int×(Int×(Int×(List NW×(List KW×(Int×(Int×(Int×(ByteArray×(Int×Bool)))))))))))))
theorem bytN (a b:Array UInt8) (r:Bool) (h:(a.toList==b.toList)=r):((ByteArray.mk a).toList==(ByteArray.mk b).toList)=r:=by rw [toList_data,toList_data]; exact h
theorem nq:(((ByteArray.mk #[115,101,113]).toList==(ByteArray.mk #[115,101,113]).toList)=true)∧(((ByteArray.mk #[119,104,111]).toList==(ByteArray.mk #[115,101,113]).toList)=false)∧(((ByteArray.mk #[119,104,111]).toList==(ByteArray.mk #[119,104,111]).toList)=true)∧(((ByteArray.mk #[119,104,111]).toList==(ByteArray.mk #[101,112,111,99,104]).toList)=false)∧(((ByteArray.mk #[119,104,111]).toList==(ByteArray.mk #[98,111,111,116]).toList)=false)∧(((ByteArray.mk #[119,104,111]).toList==(ByteArray.mk #[116,111,107,101,110]).toList)=false)∧(((ByteArray.mk #[107]).toList==(ByteArray.mk #[115,101,113]).toList)=false)∧(((ByteArray.mk #[107]).toList==(ByteArray.mk #[119,104,111]).toList)=false)∧(((ByteArray.mk #[107]).toList==(ByteArray.mk #[107]).toList)=true)∧(((ByteArray.mk #[107]).toList==(ByteArray.mk #[101,112,111,99,104]).toList)=false)∧(((ByteArray.mk #[107]).toList==(ByteArray.mk #[98,111,111,116]).toList)=false)∧(((ByteArray.mk #[107]).toList==(ByteArray.mk #[116,111,107,101,110]).toList)=false)∧(((ByteArray.mk #[110,101,119,115]).toList==(ByteArray.mk #[115,101,113]).toList)=false)∧(((ByteArray.mk #[110,101,119,115]).toList==(ByteArray.mk #[119,104,111]).toList)=false)∧(((ByteArray.mk #[110,101,119,115]).toList==(ByteArray.mk #[107]).toList)=false)∧(((ByteArray.mk #[110,101,119,115]).toList==(ByteArray.mk #[110,101,119,115]).toList)=true)∧(((ByteArray.mk #[110,101,119,115]).toList==(ByteArray.mk #[101,112,111,99,104]).toList)=false)∧(((ByteArray.mk #[110,101,119,115]).toList==(ByteArray.mk #[98,111,111,116]).toList)=false)∧(((ByteArray.mk #[110,101,119,115]).toList==(ByteArray.mk #[116,111,107,101,110]).toList)=false)∧(((ByteArray.mk #[116,97,98,108,101]).toList==(ByteArray.mk #[115,101,113]).toList)=false)∧(((ByteArray.mk #[116,97,98,108,101]).toList==(ByteArray.mk #[119,104,111]).toList)=false)∧(((ByteArray.mk #[116,97,98,108,101]).toList==(ByteArray.mk #[107]).toList)=false)∧(((ByteArray.mk #[116,97,98,108,101]).toList==(ByteArray.mk #[110,101,119,115]).toList)=false)∧(((ByteArray.mk #[116,97,98,108,101]).toList==(ByteArray.mk #[116,97,98,108,101]).toList)=true)∧(((ByteArray.mk #[116,97,98,108,101]).toList==(ByteArray.mk #[101,112,111,99,104]).toList)=false)∧(((ByteArray.mk #[116,97,98,108,101]).toList==(ByteArray.mk #[98,111,111,116]).toList)=false)∧(((ByteArray.mk #[116,97,98,108,101]).toList==(ByteArray.mk #[116,111,107,101,110]).toList)=false)∧(((ByteArray.mk #[101,112,111,99,104]).toList==(ByteArray.mk #[115,101,113]).toList)=false)∧(((ByteArray.mk #[101,112,111,99,104]).toList==(ByteArray.mk #[119,104,111]).toList)=false)∧(((ByteArray.mk #[101,112,111,99,104]).toList==(ByteArray.mk #[107]).toList)=false)∧(((ByteArray.mk #[101,112,111,99,104]).toList==(ByteArray.mk #[110,101,119,115]).toList)=false)∧(((ByteArray.mk #[101,112,111,99,104]).toList==(ByteArray.mk #[116,97,98,108,101]).toList)=false)∧(((ByteArray.mk #[101,112,111,99,104]).toList==(ByteArray.mk #[101,112,111,99,104]).toList)=true)∧(((ByteArray.mk #[98,111,111,116]).toList==(ByteArray.mk #[115,101,113]).toList)=false)∧(((ByteArray.mk #[98,111,111,116]).toList==(ByteArray.mk #[119,104,111]).toList)=false)∧(((ByteArray.mk #[98,111,111,116]).toList==(ByteArray.mk #[107]).toList)=false)∧(((ByteArray.mk #[98,111,111,116]).toList==(ByteArray.mk #[110,101,119,115]).toList)=false)∧(((ByteArray.mk #[98,111,111,116]).toList==(ByteArray.mk #[116,97,98,108,101]).toList)=false)∧(((ByteArray.mk #[98,111,111,116]).toList==(ByteArray.mk #[101,112,111,99,104]).toList)=false)∧(((ByteArray.mk #[98,111,111,116]).toList==(ByteArray.mk #[98,111,111,116]).toList)=true)∧(((ByteArray.mk #[97,115,107,101,100]).toList==(ByteArray.mk #[115,101,113]).toList)=false)∧(((ByteArray.mk #[97,115,107,101,100]).toList==(ByteArray.mk #[119,104,111]).toList)=false)∧(((ByteArray.mk #[97,115,107,101,100]).toList==(ByteArray.mk #[107]).toList)=false)∧(((ByteArray.mk #[97,115,107,101,100]).toList==(ByteArray.mk #[110,101,119,115]).toList)=false)∧(((ByteArray.mk #[97,115,107,101,100]).toList==(ByteArray.mk #[116,97,98,108,101]).toList)=false)∧(((ByteArray.mk #[97,115,107,101,100]).toList==(ByteArray.mk #[101,112,111,99,104]).toList)=false)∧(((ByteArray.mk #[97,115,107,101,100]).toList==(ByteArray.mk #[98,111,111,116]).toList)=false)∧(((ByteArray.mk #[97,115,107,101,100]).toList==(ByteArray.mk #[97,115,107,101,100]).toList)=true)∧(((ByteArray.mk #[97,115,107,101,100]).toList==(ByteArray.mk #[116,111,107,101,110]).toList)=false)∧(((ByteArray.mk #[116,97,115,107]).toList==(ByteArray.mk #[115,101,113]).toList)=false)∧(((ByteArray.mk #[116,97,115,107]).toList==(ByteArray.mk #[119,104,111]).toList)=false)∧(((ByteArray.mk #[116,97,115,107]).toList==(ByteArray.mk #[107]).toList)=false)∧(((ByteArray.mk #[116,97,115,107]).toList==(ByteArray.mk #[110,101,119,115]).toList)=false)∧(((ByteArray.mk #[116,97,115,107]).toList==(ByteArray.mk #[116,97,98,108,101]).toList)=false)∧(((ByteArray.mk #[116,97,115,107]).toList==(ByteArray.mk #[101,112,111,99,104]).toList)=false)∧(((ByteArray.mk #[116,97,115,107]).toList==(ByteArray.mk #[98,111,111,116]).toList)=false)∧(((ByteArray.mk #[116,97,115,107]).toList==(ByteArray.mk #[97,115,107,101,100]).toList)=false)∧(((ByteArray.mk #[116,97,115,107]).toList==(ByteArray.mk #[116,97,115,107]).toList)=true)∧(((ByteArray.mk #[116,97,115,107]).toList==(ByteArray.mk #[116,111,107,101,110]).toList)=false)∧(((ByteArray.mk #[116,111,107,101,110]).toList==(ByteArray.mk #[115,101,113]).toList)=false)∧(((ByteArray.mk #[116,111,107,101,110]).toList==(ByteArray.mk #[119,104,111]).toList)=false)∧(((ByteArray.mk #[116,111,107,101,110]).toList==(ByteArray.mk #[107]).toList)=false)∧(((ByteArray.mk #[116,111,107,101,110]).toList==(ByteArray.mk #[110,101,119,115]).toList)=false)∧(((ByteArray.mk #[116,111,107,101,110]).toList==(ByteArray.mk #[116,97,98,108,101]).toList)=false)∧(((ByteArray.mk #[116,111,107,101,110]).toList==(ByteArray.mk #[101,112,111,99,104]).toList)=false)∧(((ByteArray.mk #[116,111,107,101,110]).toList==(ByteArray.mk #[98,111,111,116]).toList)=false)∧(((ByteArray.mk #[116,111,107,101,110]).toList==(ByteArray.mk #[97,115,107,101,100]).toList)=false)∧(((ByteArray.mk #[116,111,107,101,110]).toList==(ByteArray.mk #[116,97,115,107]).toList)=false)∧(((ByteArray.mk #[116,111,107,101,110]).toList==(ByteArray.mk #[116,111,107,101,110]).toList)=true)∧(((ByteArray.mk #[103,111,111,100]).toList==(ByteArray.mk #[115,101,113]).toList)=false)∧(((ByteArray.mk #[103,111,111,100]).toList==(ByteArray.mk #[119,104,111]).toList)=false)∧(((ByteArray.mk #[103,111,111,100]).toList==(ByteArray.mk #[107]).toList)=false)∧(((ByteArray.mk #[103,111,111,100]).toList==(ByteArray.mk #[110,101,119,115]).toList)=false)∧(((ByteArray.mk #[103,111,111,100]).toList==(ByteArray.mk #[116,97,98,108,101]).toList)=false)∧(((ByteArray.mk #[103,111,111,100]).toList==(ByteArray.mk #[101,112,111,99,104]).toList)=false)∧(((ByteArray.mk #[103,111,111,100]).toList==(ByteArray.mk #[98,111,111,116]).toList)=false)∧(((ByteArray.mk #[103,111,111,100]).toList==(ByteArray.mk #[97,115,107,101,100]).toList)=false)∧(((ByteArray.mk #[103,111,111,100]).toList==(ByteArray.mk #[116,97,115,107]).toList)=false)∧(((ByteArray.mk #[103,111,111,100]).toList==(ByteArray.mk #[116,111,107,101,110]).toList)=false)∧(((ByteArray.mk #[103,111,111,100]).toList==(ByteArray.mk #[103,111,111,100]).toList)=true):=⟨bytN _ _ _ rfl,bytN _ _ _ rfl,bytN _ _ _ rfl,bytN _ _ _ rfl,bytN _ _ _ rfl,bytN _ _ _ rfl,bytN _ _ _ rfl,bytN _ _ _ rfl,bytN _ _ _ rfl,bytN _ _ _ rfl,bytN _ _ _ rfl,bytN _ _ _ rfl,bytN _ _ _ rfl,bytN _ _ _ rfl,bytN _ _ _ rfl,bytN _ _ _ rfl,bytN _ _ _ rfl,bytN _ _ _ rfl,bytN _ _ _ rfl,bytN _ _ _ rfl,bytN _ _ _ rfl,bytN _ _ _ rfl,bytN _ _ _ rfl,bytN _ _ _ rfl,bytN _ _ _ rfl,bytN _ _ _ rfl,bytN _ _ _ rfl,bytN _ _ _ rfl,bytN _ _ _ rfl,bytN _ _ _ rfl,bytN _ _ _ rfl,bytN _ _ _ rfl,bytN _ _ _ rfl,bytN _ _ _ rfl,bytN _ _ _ rfl,bytN _ _ _ rfl,bytN _ _ _ rfl,bytN _ _ _ rfl,bytN _ _ _ rfl,bytN _ _ _ rfl,bytN _ _ _ rfl,bytN _ _ _ rfl,bytN _ _ _ rfl,bytN _ _ _ rfl,bytN _ _ _ rfl,bytN _ _ _ rfl,bytN _ _ _ rfl,bytN _ _ _ rfl,bytN _ _ _ rfl,bytN _ _ _ rfl,bytN _ _ _ rfl,bytN _ _ _ rfl,bytN _ _ _ rfl,bytN _ _ _ rfl,bytN _ _ _ rfl,bytN _ _ _ rfl,bytN _ _ _ rfl,bytN _ _ _ rfl,bytN _ _ _ rfl,bytN _ _ _ rfl,bytN _ _ _ rfl,bytN _ _ _ rfl,bytN _ _ _ rfl,bytN _ _ _ rfl,bytN _ _ _ rfl,bytN _ _ _ rfl,bytN _ _ _ rfl,bytN _ _ _ rfl,bytN _ _ _ rfl,bytN _ _ _ rfl,bytN _ _ _ rfl,bytN _ _ _ rfl,bytN _ _ _ rfl,bytN _ _ _ rfl,bytN _ _ _ rfl,bytN _ _ _ rfl,bytN _ _ _ rfl,bytN _ _ _ rfl,bytN _ _ _ rfl,bytN _ _ _ rfl⟩
theorem nw1:IntKind.wrap .i64 ((0:Int)+1)=1∧IntKind.wrap .i64 ((1:Int)+1)=2∧IntKind.wrap .i64 ((2:Int)+1)=3∧IntKind.wrap .i64 ((3:Int)+1)=4∧IntKind.wrap .i64 ((4:Int)+1)=5:=⟨rfl,rfl,rfl,rfl,rfl⟩
theorem ln1 (α:Type) (a:α):(([a]:List α).length:Int)=1:=rfl
theorem ln2 (α:Type) (a b:α):(([a,b]:List α).length:Int)=2:=rfl
theorem ln3 (α:Type) (a b c:α):(([a,b,c]:List α).length:Int)=3:=rfl
theorem ln4 (α:Type) (a b c d:α):(([a,b,c,d]:List α).length:Int)=4:=rfl
theorem ln5 (α:Type) (a b c d e:α):(([a,b,c,d,e]:List α).length:Int)=5:=rfl
theorem tnn:Int.toNat 0=0∧Int.toNat 1=1∧Int.toNat 2=2∧Int.toNat 3=3∧Int.toNat 4=4:=⟨rfl,rfl,rfl,rfl,rfl⟩
theorem lts:((0:Int) < 1)=True∧((0:Int) < 2)=True∧((0:Int) < 3)=True∧((0:Int) < 4)=True∧((0:Int) < 5)=True∧((1:Int) < 2)=True∧((1:Int) < 3)=True∧((1:Int) < 4)=True∧((1:Int) < 5)=True∧((2:Int) < 3)=True∧((2:Int) < 4)=True∧((2:Int) < 5)=True∧((3:Int) < 4)=True∧((3:Int) < 5)=True∧((4:Int) < 5)=True∧((1:Int) < 1)=False∧((2:Int) < 2)=False∧((3:Int) < 3)=False∧((4:Int) < 4)=False∧((5:Int) < 5)=False:=by simp
theorem les:((0:Int)≤1)=True∧((0:Int)≤2)=True∧((0:Int)≤3)=True∧((0:Int)≤4)=True:=by simp
theorem lnn:((1:Nat):Int)=1∧((1+1:Nat):Int)=2∧((1+1+1:Nat):Int)=3∧((1+1+1+1:Nat):Int)=4∧((1+1+1+1+1:Nat):Int)=5:=⟨rfl,rfl,rfl,rfl,rfl⟩
def kindB (k:Int) (n:Nat):Bool:=match n with
 | 0=>decide (1≤k)&&decide (k≤4)
 | 1=>decide (2≤k)&&decide (k≤4)
 | 2=>(k==1) || (k==3)
 | 3=>decide (1≤k)&&decide (k≤3)
 | 4=>(k==5) || (k==6)
 | 5=>(decide (7≤k)&&decide (k≤9)) || (k==11)
 | 6=>decide (7≤k)&&decide (k≤11)
 | 7=>((k==7) || (k==8)) || ((k==10) || (k==11))
 | 8=>(k==11) || (k==12)
 | _=>k==12
theorem has1:F24 1=some [ByteArray.mk #[115,101,113],ByteArray.mk #[107],ByteArray.mk #[110,101,119,115]]:=by rw [F24_eq]; rfl
theorem has2:F24 2=some [ByteArray.mk #[115,101,113],ByteArray.mk #[119,104,111],ByteArray.mk #[110,101,119,115]]:=by rw [F24_eq]; rfl
theorem has3:F24 3=some [ByteArray.mk #[115,101,113],ByteArray.mk #[119,104,111],ByteArray.mk #[107],ByteArray.mk #[110,101,119,115]]:=by rw [F24_eq]; rfl
theorem has4:F24 4=some [ByteArray.mk #[115,101,113],ByteArray.mk #[119,104,111]]:=by rw [F24_eq]; rfl
theorem has5:F24 5=some [ByteArray.mk #[116,97,98,108,101]]:=by rw [F24_eq]; rfl
theorem has6:F24 6=some [ByteArray.mk #[116,97,98,108,101]]:=by rw [F24_eq]; rfl
theorem has7:F24 7=some [ByteArray.mk #[101,112,111,99,104],ByteArray.mk #[98,111,111,116],ByteArray.mk #[97,115,107,101,100]]:=by rw [F24_eq]; rfl
theorem has8:F24 8=some [ByteArray.mk #[101,112,111,99,104],ByteArray.mk #[98,111,111,116],ByteArray.mk #[97,115,107,101,100]]:=by rw [F24_eq]; rfl
theorem has9:F24 9=some [ByteArray.mk #[101,112,111,99,104],ByteArray.mk #[98,111,111,116]]:=by rw [F24_eq]; rfl
theorem has10:F24 10=some [ByteArray.mk #[98,111,111,116],ByteArray.mk #[97,115,107,101,100]]:=by rw [F24_eq]; rfl
theorem has11:F24 11=some [ByteArray.mk #[101,112,111,99,104],ByteArray.mk #[98,111,111,116],ByteArray.mk #[97,115,107,101,100],ByteArray.mk #[116,97,115,107],ByteArray.mk #[116,111,107,101,110]]:=by rw [F24_eq]; rfl
theorem has12:F24 12=some [ByteArray.mk #[116,97,115,107],ByteArray.mk #[116,111,107,101,110],ByteArray.mk #[103,111,111,100]]:=by rw [F24_eq]; rfl
theorem bare1 {fr to sq wh ki ks ep bo ak tn:Int} {nw:List NW} {tb:List KW} {tk:ByteArray} {gd:Bool}:F27 (1,fr,to,sq,wh,ki,ks,nw,tb,ep,bo,ak,tk,tn,gd)=some (1,fr,to,sq,0,ki,ks,nw,[],0,0,0,(⟨#[]⟩:ByteArray),0,false):=by
 rw [F27_eq]
 simp -implicitDefEqProofs only [has1,Option.bind_some]
 rw [loopX_eq]
 simp -implicitDefEqProofs only [lts,les,tnn,lnn,nq,nw1,ln1,ln2,ln3,ln4,ln5,List.getElem?_cons_zero,List.getElem?_cons_succ,eq_self,xs]
 rw [loopX_eq]
 simp -implicitDefEqProofs only [lts,les,tnn,lnn,nq,nw1,ln1,ln2,ln3,ln4,ln5,List.getElem?_cons_zero,List.getElem?_cons_succ,eq_self,xs]
 rw [loopX_eq]
 simp -implicitDefEqProofs only [lts,les,tnn,lnn,nq,nw1,ln1,ln2,ln3,ln4,ln5,List.getElem?_cons_zero,List.getElem?_cons_succ,eq_self,xs]
 rw [loopX_eq]
 simp -implicitDefEqProofs only [lts,les,tnn,lnn,nq,nw1,ln1,ln2,ln3,ln4,ln5,List.getElem?_cons_zero,List.getElem?_cons_succ,eq_self,xs]
theorem bare2 {fr to sq wh ki ks ep bo ak tn:Int} {nw:List NW} {tb:List KW} {tk:ByteArray} {gd:Bool}:F27 (2,fr,to,sq,wh,ki,ks,nw,tb,ep,bo,ak,tk,tn,gd)=some (2,fr,to,sq,wh,0,0,nw,[],0,0,0,(⟨#[]⟩:ByteArray),0,false):=by
 rw [F27_eq]
 simp -implicitDefEqProofs only [has2,Option.bind_some]
 rw [loopX_eq]
 simp -implicitDefEqProofs only [lts,les,tnn,lnn,nq,nw1,ln1,ln2,ln3,ln4,ln5,List.getElem?_cons_zero,List.getElem?_cons_succ,eq_self,xs]
 rw [loopX_eq]
 simp -implicitDefEqProofs only [lts,les,tnn,lnn,nq,nw1,ln1,ln2,ln3,ln4,ln5,List.getElem?_cons_zero,List.getElem?_cons_succ,eq_self,xs]
 rw [loopX_eq]
 simp -implicitDefEqProofs only [lts,les,tnn,lnn,nq,nw1,ln1,ln2,ln3,ln4,ln5,List.getElem?_cons_zero,List.getElem?_cons_succ,eq_self,xs]
 rw [loopX_eq]
 simp -implicitDefEqProofs only [lts,les,tnn,lnn,nq,nw1,ln1,ln2,ln3,ln4,ln5,List.getElem?_cons_zero,List.getElem?_cons_succ,eq_self,xs]
theorem bare3 {fr to sq wh ki ks ep bo ak tn:Int} {nw:List NW} {tb:List KW} {tk:ByteArray} {gd:Bool}:F27 (3,fr,to,sq,wh,ki,ks,nw,tb,ep,bo,ak,tk,tn,gd)=some (3,fr,to,sq,wh,ki,ks,nw,[],0,0,0,(⟨#[]⟩:ByteArray),0,false):=by
 rw [F27_eq]
 simp -implicitDefEqProofs only [has3,Option.bind_some]
 rw [loopX_eq]
 simp -implicitDefEqProofs only [lts,les,tnn,lnn,nq,nw1,ln1,ln2,ln3,ln4,ln5,List.getElem?_cons_zero,List.getElem?_cons_succ,eq_self,xs]
 rw [loopX_eq]
 simp -implicitDefEqProofs only [lts,les,tnn,lnn,nq,nw1,ln1,ln2,ln3,ln4,ln5,List.getElem?_cons_zero,List.getElem?_cons_succ,eq_self,xs]
 rw [loopX_eq]
 simp -implicitDefEqProofs only [lts,les,tnn,lnn,nq,nw1,ln1,ln2,ln3,ln4,ln5,List.getElem?_cons_zero,List.getElem?_cons_succ,eq_self,xs]
 rw [loopX_eq]
 simp -implicitDefEqProofs only [lts,les,tnn,lnn,nq,nw1,ln1,ln2,ln3,ln4,ln5,List.getElem?_cons_zero,List.getElem?_cons_succ,eq_self,xs]
 rw [loopX_eq]
 simp -implicitDefEqProofs only [lts,les,tnn,lnn,nq,nw1,ln1,ln2,ln3,ln4,ln5,List.getElem?_cons_zero,List.getElem?_cons_succ,eq_self,xs]
theorem bare4 {fr to sq wh ki ks ep bo ak tn:Int} {nw:List NW} {tb:List KW} {tk:ByteArray} {gd:Bool}:F27 (4,fr,to,sq,wh,ki,ks,nw,tb,ep,bo,ak,tk,tn,gd)=some (4,fr,to,sq,wh,0,0,[],[],0,0,0,(⟨#[]⟩:ByteArray),0,false):=by
 rw [F27_eq]
 simp -implicitDefEqProofs only [has4,Option.bind_some]
 rw [loopX_eq]
 simp -implicitDefEqProofs only [lts,les,tnn,lnn,nq,nw1,ln1,ln2,ln3,ln4,ln5,List.getElem?_cons_zero,List.getElem?_cons_succ,eq_self,xs]
 rw [loopX_eq]
 simp -implicitDefEqProofs only [lts,les,tnn,lnn,nq,nw1,ln1,ln2,ln3,ln4,ln5,List.getElem?_cons_zero,List.getElem?_cons_succ,eq_self,xs]
 rw [loopX_eq]
 simp -implicitDefEqProofs only [lts,les,tnn,lnn,nq,nw1,ln1,ln2,ln3,ln4,ln5,List.getElem?_cons_zero,List.getElem?_cons_succ,eq_self,xs]
theorem bare5 {fr to sq wh ki ks ep bo ak tn:Int} {nw:List NW} {tb:List KW} {tk:ByteArray} {gd:Bool}:F27 (5,fr,to,sq,wh,ki,ks,nw,tb,ep,bo,ak,tk,tn,gd)=some (5,fr,to,0,0,0,0,[],tb,0,0,0,(⟨#[]⟩:ByteArray),0,false):=by
 rw [F27_eq]
 simp -implicitDefEqProofs only [has5,Option.bind_some]
 rw [loopX_eq]
 simp -implicitDefEqProofs only [lts,les,tnn,lnn,nq,nw1,ln1,ln2,ln3,ln4,ln5,List.getElem?_cons_zero,List.getElem?_cons_succ,eq_self,xs]
 rw [loopX_eq]
 simp -implicitDefEqProofs only [lts,les,tnn,lnn,nq,nw1,ln1,ln2,ln3,ln4,ln5,List.getElem?_cons_zero,List.getElem?_cons_succ,eq_self,xs]
theorem bare6 {fr to sq wh ki ks ep bo ak tn:Int} {nw:List NW} {tb:List KW} {tk:ByteArray} {gd:Bool}:F27 (6,fr,to,sq,wh,ki,ks,nw,tb,ep,bo,ak,tk,tn,gd)=some (6,fr,to,0,0,0,0,[],tb,0,0,0,(⟨#[]⟩:ByteArray),0,false):=by
 rw [F27_eq]
 simp -implicitDefEqProofs only [has6,Option.bind_some]
 rw [loopX_eq]
 simp -implicitDefEqProofs only [lts,les,tnn,lnn,nq,nw1,ln1,ln2,ln3,ln4,ln5,List.getElem?_cons_zero,List.getElem?_cons_succ,eq_self,xs]
 rw [loopX_eq]
 simp -implicitDefEqProofs only [lts,les,tnn,lnn,nq,nw1,ln1,ln2,ln3,ln4,ln5,List.getElem?_cons_zero,List.getElem?_cons_succ,eq_self,xs]
theorem bare7 {fr to sq wh ki ks ep bo ak tn:Int} {nw:List NW} {tb:List KW} {tk:ByteArray} {gd:Bool}:F27 (7,fr,to,sq,wh,ki,ks,nw,tb,ep,bo,ak,tk,tn,gd)=some (7,fr,to,0,0,0,0,[],[],ep,bo,ak,(⟨#[]⟩:ByteArray),0,false):=by
 rw [F27_eq]
 simp -implicitDefEqProofs only [has7,Option.bind_some]
 rw [loopX_eq]
 simp -implicitDefEqProofs only [lts,les,tnn,lnn,nq,nw1,ln1,ln2,ln3,ln4,ln5,List.getElem?_cons_zero,List.getElem?_cons_succ,eq_self,xs]
 rw [loopX_eq]
 simp -implicitDefEqProofs only [lts,les,tnn,lnn,nq,nw1,ln1,ln2,ln3,ln4,ln5,List.getElem?_cons_zero,List.getElem?_cons_succ,eq_self,xs]
 rw [loopX_eq]
 simp -implicitDefEqProofs only [lts,les,tnn,lnn,nq,nw1,ln1,ln2,ln3,ln4,ln5,List.getElem?_cons_zero,List.getElem?_cons_succ,eq_self,xs]
 rw [loopX_eq]
 simp -implicitDefEqProofs only [lts,les,tnn,lnn,nq,nw1,ln1,ln2,ln3,ln4,ln5,List.getElem?_cons_zero,List.getElem?_cons_succ,eq_self,xs]
theorem bare8 {fr to sq wh ki ks ep bo ak tn:Int} {nw:List NW} {tb:List KW} {tk:ByteArray} {gd:Bool}:F27 (8,fr,to,sq,wh,ki,ks,nw,tb,ep,bo,ak,tk,tn,gd)=some (8,fr,to,0,0,0,0,[],[],ep,bo,ak,(⟨#[]⟩:ByteArray),0,false):=by
 rw [F27_eq]
 simp -implicitDefEqProofs only [has8,Option.bind_some]
 rw [loopX_eq]
 simp -implicitDefEqProofs only [lts,les,tnn,lnn,nq,nw1,ln1,ln2,ln3,ln4,ln5,List.getElem?_cons_zero,List.getElem?_cons_succ,eq_self,xs]
 rw [loopX_eq]
 simp -implicitDefEqProofs only [lts,les,tnn,lnn,nq,nw1,ln1,ln2,ln3,ln4,ln5,List.getElem?_cons_zero,List.getElem?_cons_succ,eq_self,xs]
 rw [loopX_eq]
 simp -implicitDefEqProofs only [lts,les,tnn,lnn,nq,nw1,ln1,ln2,ln3,ln4,ln5,List.getElem?_cons_zero,List.getElem?_cons_succ,eq_self,xs]
 rw [loopX_eq]
 simp -implicitDefEqProofs only [lts,les,tnn,lnn,nq,nw1,ln1,ln2,ln3,ln4,ln5,List.getElem?_cons_zero,List.getElem?_cons_succ,eq_self,xs]
theorem bare9 {fr to sq wh ki ks ep bo ak tn:Int} {nw:List NW} {tb:List KW} {tk:ByteArray} {gd:Bool}:F27 (9,fr,to,sq,wh,ki,ks,nw,tb,ep,bo,ak,tk,tn,gd)=some (9,fr,to,0,0,0,0,[],[],ep,bo,0,(⟨#[]⟩:ByteArray),0,false):=by
 rw [F27_eq]
 simp -implicitDefEqProofs only [has9,Option.bind_some]
 rw [loopX_eq]
 simp -implicitDefEqProofs only [lts,les,tnn,lnn,nq,nw1,ln1,ln2,ln3,ln4,ln5,List.getElem?_cons_zero,List.getElem?_cons_succ,eq_self,xs]
 rw [loopX_eq]
 simp -implicitDefEqProofs only [lts,les,tnn,lnn,nq,nw1,ln1,ln2,ln3,ln4,ln5,List.getElem?_cons_zero,List.getElem?_cons_succ,eq_self,xs]
 rw [loopX_eq]
 simp -implicitDefEqProofs only [lts,les,tnn,lnn,nq,nw1,ln1,ln2,ln3,ln4,ln5,List.getElem?_cons_zero,List.getElem?_cons_succ,eq_self,xs]
theorem bare10 {fr to sq wh ki ks ep bo ak tn:Int} {nw:List NW} {tb:List KW} {tk:ByteArray} {gd:Bool}:F27 (10,fr,to,sq,wh,ki,ks,nw,tb,ep,bo,ak,tk,tn,gd)=some (10,fr,to,0,0,0,0,[],[],0,bo,ak,(⟨#[]⟩:ByteArray),0,false):=by
 rw [F27_eq]
 simp -implicitDefEqProofs only [has10,Option.bind_some]
 rw [loopX_eq]
 simp -implicitDefEqProofs only [lts,les,tnn,lnn,nq,nw1,ln1,ln2,ln3,ln4,ln5,List.getElem?_cons_zero,List.getElem?_cons_succ,eq_self,xs]
 rw [loopX_eq]
 simp -implicitDefEqProofs only [lts,les,tnn,lnn,nq,nw1,ln1,ln2,ln3,ln4,ln5,List.getElem?_cons_zero,List.getElem?_cons_succ,eq_self,xs]
 rw [loopX_eq]
 simp -implicitDefEqProofs only [lts,les,tnn,lnn,nq,nw1,ln1,ln2,ln3,ln4,ln5,List.getElem?_cons_zero,List.getElem?_cons_succ,eq_self,xs]
theorem bare11 {fr to sq wh ki ks ep bo ak tn:Int} {nw:List NW} {tb:List KW} {tk:ByteArray} {gd:Bool}:F27 (11,fr,to,sq,wh,ki,ks,nw,tb,ep,bo,ak,tk,tn,gd)=some (11,fr,to,0,0,0,0,[],[],ep,bo,ak,tk,tn,false):=by
 rw [F27_eq]
 simp -implicitDefEqProofs only [has11,Option.bind_some]
 rw [loopX_eq]
 simp -implicitDefEqProofs only [lts,les,tnn,lnn,nq,nw1,ln1,ln2,ln3,ln4,ln5,List.getElem?_cons_zero,List.getElem?_cons_succ,eq_self,xs]
 rw [loopX_eq]
 simp -implicitDefEqProofs only [lts,les,tnn,lnn,nq,nw1,ln1,ln2,ln3,ln4,ln5,List.getElem?_cons_zero,List.getElem?_cons_succ,eq_self,xs]
 rw [loopX_eq]
 simp -implicitDefEqProofs only [lts,les,tnn,lnn,nq,nw1,ln1,ln2,ln3,ln4,ln5,List.getElem?_cons_zero,List.getElem?_cons_succ,eq_self,xs]
 rw [loopX_eq]
 simp -implicitDefEqProofs only [lts,les,tnn,lnn,nq,nw1,ln1,ln2,ln3,ln4,ln5,List.getElem?_cons_zero,List.getElem?_cons_succ,eq_self,xs]
 rw [loopX_eq]
 simp -implicitDefEqProofs only [lts,les,tnn,lnn,nq,nw1,ln1,ln2,ln3,ln4,ln5,List.getElem?_cons_zero,List.getElem?_cons_succ,eq_self,xs]
 rw [loopX_eq]
 simp -implicitDefEqProofs only [lts,les,tnn,lnn,nq,nw1,ln1,ln2,ln3,ln4,ln5,List.getElem?_cons_zero,List.getElem?_cons_succ,eq_self,xs]
theorem bare12 {fr to sq wh ki ks ep bo ak tn:Int} {nw:List NW} {tb:List KW} {tk:ByteArray} {gd:Bool}:F27 (12,fr,to,sq,wh,ki,ks,nw,tb,ep,bo,ak,tk,tn,gd)=some (12,fr,to,0,0,0,0,[],[],0,0,0,tk,tn,gd):=by
 rw [F27_eq]
 simp -implicitDefEqProofs only [has12,Option.bind_some]
 rw [loopX_eq]
 simp -implicitDefEqProofs only [lts,les,tnn,lnn,nq,nw1,ln1,ln2,ln3,ln4,ln5,List.getElem?_cons_zero,List.getElem?_cons_succ,eq_self,xs]
 rw [loopX_eq]
 simp -implicitDefEqProofs only [lts,les,tnn,lnn,nq,nw1,ln1,ln2,ln3,ln4,ln5,List.getElem?_cons_zero,List.getElem?_cons_succ,eq_self,xs]
 rw [loopX_eq]
 simp -implicitDefEqProofs only [lts,les,tnn,lnn,nq,nw1,ln1,ln2,ln3,ln4,ln5,List.getElem?_cons_zero,List.getElem?_cons_succ,eq_self,xs]
 rw [loopX_eq]
 simp -implicitDefEqProofs only [lts,les,tnn,lnn,nq,nw1,ln1,ln2,ln3,ln4,ln5,List.getElem?_cons_zero,List.getElem?_cons_succ,eq_self,xs]
theorem eqNW (a b:List NW) (ha:a.length≤1000):F32 (a,b)=some (decide (a=b)):=by
 rw [F32_eq]
 by_cases hl:a.length=b.length
 ·have e:(((a.length:Nat):Int) != ((b.length:Nat):Int))=false:=by rw [hl]; exact bne_self_eq_false _
  simp -implicitDefEqProofs only [e,eq_self,xs]
  refine loop_same a b hl rfl ?_ ?_
  ·simp -implicitDefEqProofs only [not_lt_self,eq_self,xs]
  ·intro i x y hi hx hy
   have q1:((i:Nat):Int) < ((a.length:Nat):Int):=by omega
   have q2:(0:Int)≤(i:Int):=by omega
   simp -implicitDefEqProofs only [q1,q2,hx,hy,w1 (show i≤9223372036854775806 by omega),eq_self,xs]
   obtain ⟨x1,x2,x3⟩:=x
   obtain ⟨y1,y2,y3⟩:=y
   by_cases h1:x1=y1
   ·by_cases h2:x2=y2
    ·by_cases h3:x3=y3
     ·subst h1 h2 h3
      rw [if_pos rfl]; simp
     ·have e3:(x3==y3)=false:=beq_eq_false_iff_ne.2 h3
      rw [if_neg (by simp [h3])]; simp [h1,h2,e3]
    ·have e2:(x2==y2)=false:=beq_eq_false_iff_ne.2 h2
     rw [if_neg (by simp [h2])]; simp [h1,e2]
   ·have e1:(x1==y1)=false:=beq_eq_false_iff_ne.2 h1
    rw [if_neg (by simp [h1])]; simp [e1]
 ·have e:(((a.length:Nat):Int) != ((b.length:Nat):Int))=true:=by rw [bne_iff_ne]; omega
  simp -implicitDefEqProofs only [e,eq_self,xs]
  rw [decide_eq_false (fun h=>hl (by rw [h]))]
theorem eqKW (a b:List KW) (ha:a.length≤1000):F33 (a,b)=some (decide (a=b)):=by
 rw [F33_eq]
 by_cases hl:a.length=b.length
 ·have e:(((a.length:Nat):Int) != ((b.length:Nat):Int))=false:=by rw [hl]; exact bne_self_eq_false _
  simp -implicitDefEqProofs only [e,eq_self,xs]
  refine loop_same a b hl rfl ?_ ?_
  ·simp -implicitDefEqProofs only [not_lt_self,eq_self,xs]
  ·intro i x y hi hx hy
   have q1:((i:Nat):Int) < ((a.length:Nat):Int):=by omega
   have q2:(0:Int)≤(i:Int):=by omega
   simp -implicitDefEqProofs only [q1,q2,hx,hy,w1 (show i≤9223372036854775806 by omega),eq_self,xs]
   obtain ⟨x1,x2⟩:=x
   obtain ⟨y1,y2⟩:=y
   by_cases h1:x1=y1
   ·by_cases h2:x2=y2
    ·subst h1 h2
     rw [if_pos rfl]; simp
    ·have e2:(x2==y2)=false:=beq_eq_false_iff_ne.2 h2
     rw [if_neg (by simp [h2])]; simp [h1,e2]
   ·have e1:(x1==y1)=false:=beq_eq_false_iff_ne.2 h1
    rw [if_neg (by simp [h1])]; simp [e1]
 ·have e:(((a.length:Nat):Int) != ((b.length:Nat):Int))=true:=by rw [bne_iff_ne]; omega
  simp -implicitDefEqProofs only [e,eq_self,xs]
  rw [decide_eq_false (fun h=>hl (by rw [h]))]
theorem reqNW (a b:List NW):F34 (a,b)=F32 (a,b):=(F34_eq (a,b)).trans (F32_eq (a,b)).symm
theorem reqKW (a b:List KW):F35 (a,b)=F33 (a,b):=(F35_eq (a,b)).trans (F33_eq (a,b)).symm
theorem rsame_eq (a b:MB):F14 (a,b)=F13 (a,b):=by
 have h1:=reqNW a.2.2.2.2.2.2.2.1 b.2.2.2.2.2.2.2.1
 have h2:=reqKW a.2.2.2.2.2.2.2.2.1 b.2.2.2.2.2.2.2.2.1
 rw [F14_eq,F13_eq]
 simp only [h1,h2]
theorem c1 (a b:Bool):cond a (some b) (some false)=some (a&&b):=by cases a<;>rfl
def sameB (m n:MB):Bool:=(m.1==n.1)&&((m.2.1==n.2.1)&&((m.2.2.1==n.2.2.1)&&((m.2.2.2.1==n.2.2.2.1)&&((m.2.2.2.2.1==n.2.2.2.2.1)&&((m.2.2.2.2.2.1==n.2.2.2.2.2.1)&&((m.2.2.2.2.2.2.1==n.2.2.2.2.2.2.1)&&(decide (m.2.2.2.2.2.2.2.1=n.2.2.2.2.2.2.2.1)&&(decide (m.2.2.2.2.2.2.2.2.1=n.2.2.2.2.2.2.2.2.1)&&((m.2.2.2.2.2.2.2.2.2.1==n.2.2.2.2.2.2.2.2.2.1)&&((m.2.2.2.2.2.2.2.2.2.2.1==n.2.2.2.2.2.2.2.2.2.2.1)&&((m.2.2.2.2.2.2.2.2.2.2.2.1==n.2.2.2.2.2.2.2.2.2.2.2.1)&&((m.2.2.2.2.2.2.2.2.2.2.2.2.1.toList==n.2.2.2.2.2.2.2.2.2.2.2.2.1.toList)&&((m.2.2.2.2.2.2.2.2.2.2.2.2.2.1==n.2.2.2.2.2.2.2.2.2.2.2.2.2.1)&&((m.2.2.2.2.2.2.2.2.2.2.2.2.2.2==n.2.2.2.2.2.2.2.2.2.2.2.2.2.2)))))))))))))))
theorem same_ok (m n:MB) (hw:m.2.2.2.2.2.2.2.1.length≤1000) (ht:m.2.2.2.2.2.2.2.2.1.length≤1000):F13 (m,n)=some (sameB m n):=by
 have h1:=eqNW m.2.2.2.2.2.2.2.1 n.2.2.2.2.2.2.2.1 hw
 have h2:=eqKW m.2.2.2.2.2.2.2.2.1 n.2.2.2.2.2.2.2.2.1 ht
 rw [F13_eq]
 simp only [h1,h2,Option.bind_some,c1,Bool.and_true]
 unfold sameB
 simp only [Bool.and_assoc]
def bareM (m:MB):MB:=(m.1,(m.2.1,(m.2.2.1,(if kindB m.1 0=true then m.2.2.2.1 else 0,(if kindB m.1 1=true then m.2.2.2.2.1 else 0,(if kindB m.1 2=true then m.2.2.2.2.2.1 else 0,(if kindB m.1 2=true then m.2.2.2.2.2.2.1 else 0,(if kindB m.1 3=true then m.2.2.2.2.2.2.2.1 else [],(if kindB m.1 4=true then m.2.2.2.2.2.2.2.2.1 else [],(if kindB m.1 5=true then m.2.2.2.2.2.2.2.2.2.1 else 0,(if kindB m.1 6=true then m.2.2.2.2.2.2.2.2.2.2.1 else 0,(if kindB m.1 7=true then m.2.2.2.2.2.2.2.2.2.2.2.1 else 0,(if kindB m.1 8=true then m.2.2.2.2.2.2.2.2.2.2.2.2.1 else (⟨#[]⟩:ByteArray),(if kindB m.1 8=true then m.2.2.2.2.2.2.2.2.2.2.2.2.2.1 else 0,if kindB m.1 9=true then m.2.2.2.2.2.2.2.2.2.2.2.2.2.2 else false))))))))))))))
def nodeB (n:Int):Bool:=decide (0≤n)&&decide (n≤63)
def knowB (s:Int):Bool:=decide (0≤s)&&decide (s≤3)
def tickB (n:Int):Bool:=decide (0≤n)&&decide (n≤1099511627776)
def tellB (x:NW):Bool:=nodeB x.1&&knowB x.2.2
def newsB (l:List NW):Bool:=decide (l.length≤8)&&l.all tellB
def tabB (l:List KW):Bool:=(decide (1≤l.length)&&decide (l.length≤64))&&l.all (fun x=>knowB x.2)
def partsB (m:MB):Bool:=(!kindB m.1 1 || nodeB m.2.2.2.2.1)&&((!kindB m.1 2 || knowB m.2.2.2.2.2.2.1)&&((!kindB m.1 3 || newsB m.2.2.2.2.2.2.2.1)&&((!kindB m.1 4 || tabB m.2.2.2.2.2.2.2.2.1)&&((!kindB m.1 7 || tickB m.2.2.2.2.2.2.2.2.2.2.2.1)&&(!kindB m.1 8 || nmB m.2.2.2.2.2.2.2.2.2.2.2.2.1)))))
def msgB (m:MB):Bool:=(decide (1≤m.1)&&decide (m.1≤12))&&((nodeB m.2.1&&nodeB m.2.2.1)&&(!(m.2.1==m.2.2.1)&&(sameB m (bareM m)&&partsB m)))
theorem node_ok (n:Int):F26 n=some (nodeB n):=by
 rw [F26_eq]
 unfold nodeB
 have e:decide (n < 64)=decide (n≤63):=by rw [Bool.eq_iff_iff,decide_eq_true_iff,decide_eq_true_iff]; omega
 rw [e]
 show cond (decide (0≤n)) _ _=_
 cases decide (0≤n)<;>rfl
theorem know_ok (l:List KW) (hl:l.length≤1000):F59 l=some (if l.all (fun x=>knowB x.2)=true then 0 else 1):=by
 rw [F59_eq]
 refine loop_list l (fun x=>knowB x.2) (1:Int) 0 rfl ?_ ?_
 ·simp -implicitDefEqProofs only [not_lt_self,eq_self,xs]
 ·intro i x hi hx
  have q1:((i:Nat):Int) < ((l.length:Nat):Int):=by omega
  have q2:(0:Int)≤(i:Int):=by omega
  simp -implicitDefEqProofs only [q1,q2,hx,w1 (show i≤9223372036854775806 by omega),dlt x.2 0,dgt x.2 3,eq_self,xs]
  unfold knowB
  cases decide (0≤x.2)<;>cases decide (x.2≤3)<;>rfl
theorem know1_ok (i s:Int):F59 [(i,s)]=some (if knowB s=true then 0 else 1):=by
 rw [know_ok [(i,s)] (by simp)]
 simp
theorem tabl_ok (l:List KW) (hl:l.length≤1000):F68 l=some (if tabB l=true then 0 else 1):=by
 rw [F68_eq]
 have e1:decide (((l.length:Nat):Int) < 1)=!decide (1≤l.length):=by rw [Bool.eq_iff_iff,Bool.not_eq_true',decide_eq_true_iff,decide_eq_false_iff_not]; omega
 have e2:decide (((l.length:Nat):Int) > 64)=!decide (l.length≤64):=by rw [Bool.eq_iff_iff,Bool.not_eq_true',decide_eq_true_iff,decide_eq_false_iff_not]; omega
 simp -implicitDefEqProofs only [e1,e2,know_ok l hl,eq_self,xs]
 unfold tabB
 cases decide (1≤l.length)<;>cases decide (l.length≤64)<;>cases (l.all fun x=>knowB x.2)<;>rfl
theorem new1_ok (x:NW):F87 (x.1,x.2.1,x.2.2)=some (!tellB x):=by
 rw [F87_eq]
 simp -implicitDefEqProofs only [node_ok x.1,know1_ok x.2.1 x.2.2,neq1,eq_self,xs]
 unfold tellB
 cases nodeB x.1<;>rfl
theorem news_ok (m:MB) (hw:m.2.2.2.2.2.2.2.1.length≤1000):F64 m=some (newsB m.2.2.2.2.2.2.2.1):=by
 rw [F64_eq]
 generalize m.2.2.2.2.2.2.2.1=l at *
 have e2:decide (((l.length:Nat):Int)≤8)=decide (l.length≤8):=by rw [Bool.eq_iff_iff,decide_eq_true_iff,decide_eq_true_iff]; omega
 rw [e2]
 unfold newsB
 cases decide (l.length≤8)
 ·rfl
 simp -implicitDefEqProofs only [eq_self,xs]
 rw [loop_first (s0:=(0:Int)) l (fun k=>!tellB k) (fun i=>(i:Int)) (-1:Int) rfl]
 rotate_left
 ·simp -implicitDefEqProofs only [not_lt_self,eq_self,xs]
 ·intro i x hi hx
  have q1:((i:Nat):Int) < ((l.length:Nat):Int):=by omega
  have q2:(0:Int)≤(i:Int):=by omega
  simp -implicitDefEqProofs only [q1,q2,hx,new1_ok x,w1 (show i≤9223372036854775806 by omega),eq_self,xs]
  cases tellB x<;>rfl
 cases hg:l.all tellB
 ·have ha:l.any (fun k=>!tellB k)=true:=by
   rw [List.any_eq_true]
   rw [List.all_eq_false] at hg
   obtain ⟨x,hx,hq⟩:=hg
   exact ⟨x,hx,by simpa using hq⟩
  have q:(((l.findIdx (fun k=>!tellB k):Nat):Int) ≥ 0):=by omega
  simp -implicitDefEqProofs only [ha,q,eq_self,xs]
 ·have ha:l.any (fun k=>!tellB k)=false:=by
   rw [List.any_eq_false]
   rw [List.all_eq_true] at hg
   intro x hx; rw [hg x hx]; decide
  have qm:¬ ((-1:Int) ≥ 0):=by omega
  simp -implicitDefEqProofs only [ha,qm,eq_self,xs]
theorem check1 {fr to sq wh ki ks ep bo ak tn:Int} {nw:List NW} {tb:List KW} {tk:ByteArray} {gd:Bool} (hw:nw.length≤1000) (ht:tb.length≤1000) (hk:tk.size≤maxLen):F11 (1,fr,to,sq,wh,ki,ks,nw,tb,ep,bo,ak,tk,tn,gd)=some (if msgB (1,fr,to,sq,wh,ki,ks,nw,tb,ep,bo,ak,tk,tn,gd)=true then 0 else 1):=by
 rw [F11_eq]
 have hb:=bare1 (fr:=fr) (to:=to) (sq:=sq) (wh:=wh) (ki:=ki) (ks:=ks) (nw:=nw) (tb:=tb) (ep:=ep) (bo:=bo) (ak:=ak) (tk:=tk) (tn:=tn) (gd:=gd)
 have hbm:bareM (1,fr,to,sq,wh,ki,ks,nw,tb,ep,bo,ak,tk,tn,gd)=(1,fr,to,sq,0,ki,ks,nw,[],0,0,0,(⟨#[]⟩:ByteArray),0,false):=rfl
 have hs:=same_ok (1,fr,to,sq,wh,ki,ks,nw,tb,ep,bo,ak,tk,tn,gd) (bareM (1,fr,to,sq,wh,ki,ks,nw,tb,ep,bo,ak,tk,tn,gd)) hw ht
 rw [hbm] at hs
 have k1:¬ ((1:Int) < 1):=by decide
 have k2:¬ ((1:Int) > 12):=by decide
 simp -implicitDefEqProofs only [node_ok fr,node_ok to,hb,hs,k1,k2,eq_self,xs]
 unfold msgB
 rw [hbm]
 have kk1:decide ((1:Int)≤1)=true:=rfl
 have kk2:decide ((1:Int)≤12)=true:=rfl
 simp -implicitDefEqProofs only [kk1,kk2,eq_self,xs]
 cases nodeB fr
 ·simp -implicitDefEqProofs only [eq_self,xs]
 cases nodeB to
 ·simp -implicitDefEqProofs only [eq_self,xs]
 cases (fr==to)
 rotate_left
 ·simp -implicitDefEqProofs only [eq_self,xs]
 simp -implicitDefEqProofs only [eq_self,xs]
 generalize sameB _ _=sb
 cases sb
 ·simp -implicitDefEqProofs only [eq_self,xs]
 simp -implicitDefEqProofs only [has1,eq_self,xs]
 have pa_seq:=F47_eq (1,fr,to,sq,wh,ki,ks,nw,tb,ep,bo,ak,tk,tn,gd)
 have pa_k:F58 (1,fr,to,sq,wh,ki,ks,nw,tb,ep,bo,ak,tk,tn,gd)=some (knowB ks):=by rw [F58_eq]; simp -implicitDefEqProofs only [know1_ok ki ks,eqq,eq_self,xs]
 have pa_news:F64 (1,fr,to,sq,wh,ki,ks,nw,tb,ep,bo,ak,tk,tn,gd)=some (newsB nw):=news_ok (1,fr,to,sq,wh,ki,ks,nw,tb,ep,bo,ak,tk,tn,gd) hw
 have hp:partsB (1,fr,to,sq,wh,ki,ks,nw,tb,ep,bo,ak,tk,tn,gd)=((!kindB 1 1 || nodeB wh)&&((!kindB 1 2 || knowB ks)&&((!kindB 1 3 || newsB nw)&&((!kindB 1 4 || tabB tb)&&((!kindB 1 7 || tickB ak)&&((!kindB 1 8 || nmB tk))))))):=rfl
 rw [hp]
 have kb1:kindB 1 1=false:=rfl
 have kb2:kindB 1 2=true:=rfl
 have kb3:kindB 1 3=true:=rfl
 have kb4:kindB 1 4=false:=rfl
 have kb7:kindB 1 7=false:=rfl
 have kb8:kindB 1 8=false:=rfl
 rw [loopX_eq]
 simp -implicitDefEqProofs only [lts,les,tnn,lnn,nq,nw1,ln1,ln2,ln3,ln4,ln5,List.getElem?_cons_zero,List.getElem?_cons_succ,pa_seq,pa_k,pa_news,kb1,kb2,kb3,kb4,kb7,kb8,eq_self,xs]
 rw [loopX_eq]
 simp -implicitDefEqProofs only [lts,les,tnn,lnn,nq,nw1,ln1,ln2,ln3,ln4,ln5,List.getElem?_cons_zero,List.getElem?_cons_succ,pa_seq,pa_k,pa_news,kb1,kb2,kb3,kb4,kb7,kb8,eq_self,xs]
 cases knowB ks
 ·simp -implicitDefEqProofs only [eq_self,xs]
 simp -implicitDefEqProofs only [eq_self,xs]
 rw [loopX_eq]
 simp -implicitDefEqProofs only [lts,les,tnn,lnn,nq,nw1,ln1,ln2,ln3,ln4,ln5,List.getElem?_cons_zero,List.getElem?_cons_succ,pa_seq,pa_k,pa_news,kb1,kb2,kb3,kb4,kb7,kb8,eq_self,xs]
 cases newsB nw
 ·simp -implicitDefEqProofs only [eq_self,xs]
 simp -implicitDefEqProofs only [eq_self,xs]
 rw [loopX_eq]
 simp -implicitDefEqProofs only [lts,les,tnn,lnn,nq,nw1,ln1,ln2,ln3,ln4,ln5,List.getElem?_cons_zero,List.getElem?_cons_succ,pa_seq,pa_k,pa_news,kb1,kb2,kb3,kb4,kb7,kb8,eq_self,xs]
theorem check2 {fr to sq wh ki ks ep bo ak tn:Int} {nw:List NW} {tb:List KW} {tk:ByteArray} {gd:Bool} (hw:nw.length≤1000) (ht:tb.length≤1000) (hk:tk.size≤maxLen):F11 (2,fr,to,sq,wh,ki,ks,nw,tb,ep,bo,ak,tk,tn,gd)=some (if msgB (2,fr,to,sq,wh,ki,ks,nw,tb,ep,bo,ak,tk,tn,gd)=true then 0 else 1):=by
 rw [F11_eq]
 have hb:=bare2 (fr:=fr) (to:=to) (sq:=sq) (wh:=wh) (ki:=ki) (ks:=ks) (nw:=nw) (tb:=tb) (ep:=ep) (bo:=bo) (ak:=ak) (tk:=tk) (tn:=tn) (gd:=gd)
 have hbm:bareM (2,fr,to,sq,wh,ki,ks,nw,tb,ep,bo,ak,tk,tn,gd)=(2,fr,to,sq,wh,0,0,nw,[],0,0,0,(⟨#[]⟩:ByteArray),0,false):=rfl
 have hs:=same_ok (2,fr,to,sq,wh,ki,ks,nw,tb,ep,bo,ak,tk,tn,gd) (bareM (2,fr,to,sq,wh,ki,ks,nw,tb,ep,bo,ak,tk,tn,gd)) hw ht
 rw [hbm] at hs
 have k1:¬ ((2:Int) < 1):=by decide
 have k2:¬ ((2:Int) > 12):=by decide
 simp -implicitDefEqProofs only [node_ok fr,node_ok to,hb,hs,k1,k2,eq_self,xs]
 unfold msgB
 rw [hbm]
 have kk1:decide ((1:Int)≤2)=true:=rfl
 have kk2:decide ((2:Int)≤12)=true:=rfl
 simp -implicitDefEqProofs only [kk1,kk2,eq_self,xs]
 cases nodeB fr
 ·simp -implicitDefEqProofs only [eq_self,xs]
 cases nodeB to
 ·simp -implicitDefEqProofs only [eq_self,xs]
 cases (fr==to)
 rotate_left
 ·simp -implicitDefEqProofs only [eq_self,xs]
 simp -implicitDefEqProofs only [eq_self,xs]
 generalize sameB _ _=sb
 cases sb
 ·simp -implicitDefEqProofs only [eq_self,xs]
 simp -implicitDefEqProofs only [has2,eq_self,xs]
 have pa_seq:=F47_eq (2,fr,to,sq,wh,ki,ks,nw,tb,ep,bo,ak,tk,tn,gd)
 have pa_who:F55 (2,fr,to,sq,wh,ki,ks,nw,tb,ep,bo,ak,tk,tn,gd)=some (nodeB wh):=by rw [F55_eq]; simp -implicitDefEqProofs only [node_ok wh,eq_self,xs]
 have pa_news:F64 (2,fr,to,sq,wh,ki,ks,nw,tb,ep,bo,ak,tk,tn,gd)=some (newsB nw):=news_ok (2,fr,to,sq,wh,ki,ks,nw,tb,ep,bo,ak,tk,tn,gd) hw
 have hp:partsB (2,fr,to,sq,wh,ki,ks,nw,tb,ep,bo,ak,tk,tn,gd)=((!kindB 2 1 || nodeB wh)&&((!kindB 2 2 || knowB ks)&&((!kindB 2 3 || newsB nw)&&((!kindB 2 4 || tabB tb)&&((!kindB 2 7 || tickB ak)&&((!kindB 2 8 || nmB tk))))))):=rfl
 rw [hp]
 have kb1:kindB 2 1=true:=rfl
 have kb2:kindB 2 2=false:=rfl
 have kb3:kindB 2 3=true:=rfl
 have kb4:kindB 2 4=false:=rfl
 have kb7:kindB 2 7=false:=rfl
 have kb8:kindB 2 8=false:=rfl
 rw [loopX_eq]
 simp -implicitDefEqProofs only [lts,les,tnn,lnn,nq,nw1,ln1,ln2,ln3,ln4,ln5,List.getElem?_cons_zero,List.getElem?_cons_succ,pa_seq,pa_who,pa_news,kb1,kb2,kb3,kb4,kb7,kb8,eq_self,xs]
 rw [loopX_eq]
 simp -implicitDefEqProofs only [lts,les,tnn,lnn,nq,nw1,ln1,ln2,ln3,ln4,ln5,List.getElem?_cons_zero,List.getElem?_cons_succ,pa_seq,pa_who,pa_news,kb1,kb2,kb3,kb4,kb7,kb8,eq_self,xs]
 cases nodeB wh
 ·simp -implicitDefEqProofs only [eq_self,xs]
 simp -implicitDefEqProofs only [eq_self,xs]
 rw [loopX_eq]
 simp -implicitDefEqProofs only [lts,les,tnn,lnn,nq,nw1,ln1,ln2,ln3,ln4,ln5,List.getElem?_cons_zero,List.getElem?_cons_succ,pa_seq,pa_who,pa_news,kb1,kb2,kb3,kb4,kb7,kb8,eq_self,xs]
 cases newsB nw
 ·simp -implicitDefEqProofs only [eq_self,xs]
 simp -implicitDefEqProofs only [eq_self,xs]
 rw [loopX_eq]
 simp -implicitDefEqProofs only [lts,les,tnn,lnn,nq,nw1,ln1,ln2,ln3,ln4,ln5,List.getElem?_cons_zero,List.getElem?_cons_succ,pa_seq,pa_who,pa_news,kb1,kb2,kb3,kb4,kb7,kb8,eq_self,xs]
theorem check3 {fr to sq wh ki ks ep bo ak tn:Int} {nw:List NW} {tb:List KW} {tk:ByteArray} {gd:Bool} (hw:nw.length≤1000) (ht:tb.length≤1000) (hk:tk.size≤maxLen):F11 (3,fr,to,sq,wh,ki,ks,nw,tb,ep,bo,ak,tk,tn,gd)=some (if msgB (3,fr,to,sq,wh,ki,ks,nw,tb,ep,bo,ak,tk,tn,gd)=true then 0 else 1):=by
 rw [F11_eq]
 have hb:=bare3 (fr:=fr) (to:=to) (sq:=sq) (wh:=wh) (ki:=ki) (ks:=ks) (nw:=nw) (tb:=tb) (ep:=ep) (bo:=bo) (ak:=ak) (tk:=tk) (tn:=tn) (gd:=gd)
 have hbm:bareM (3,fr,to,sq,wh,ki,ks,nw,tb,ep,bo,ak,tk,tn,gd)=(3,fr,to,sq,wh,ki,ks,nw,[],0,0,0,(⟨#[]⟩:ByteArray),0,false):=rfl
 have hs:=same_ok (3,fr,to,sq,wh,ki,ks,nw,tb,ep,bo,ak,tk,tn,gd) (bareM (3,fr,to,sq,wh,ki,ks,nw,tb,ep,bo,ak,tk,tn,gd)) hw ht
 rw [hbm] at hs
 have k1:¬ ((3:Int) < 1):=by decide
 have k2:¬ ((3:Int) > 12):=by decide
 simp -implicitDefEqProofs only [node_ok fr,node_ok to,hb,hs,k1,k2,eq_self,xs]
 unfold msgB
 rw [hbm]
 have kk1:decide ((1:Int)≤3)=true:=rfl
 have kk2:decide ((3:Int)≤12)=true:=rfl
 simp -implicitDefEqProofs only [kk1,kk2,eq_self,xs]
 cases nodeB fr
 ·simp -implicitDefEqProofs only [eq_self,xs]
 cases nodeB to
 ·simp -implicitDefEqProofs only [eq_self,xs]
 cases (fr==to)
 rotate_left
 ·simp -implicitDefEqProofs only [eq_self,xs]
 simp -implicitDefEqProofs only [eq_self,xs]
 generalize sameB _ _=sb
 cases sb
 ·simp -implicitDefEqProofs only [eq_self,xs]
 simp -implicitDefEqProofs only [has3,eq_self,xs]
 have pa_seq:=F47_eq (3,fr,to,sq,wh,ki,ks,nw,tb,ep,bo,ak,tk,tn,gd)
 have pa_who:F55 (3,fr,to,sq,wh,ki,ks,nw,tb,ep,bo,ak,tk,tn,gd)=some (nodeB wh):=by rw [F55_eq]; simp -implicitDefEqProofs only [node_ok wh,eq_self,xs]
 have pa_k:F58 (3,fr,to,sq,wh,ki,ks,nw,tb,ep,bo,ak,tk,tn,gd)=some (knowB ks):=by rw [F58_eq]; simp -implicitDefEqProofs only [know1_ok ki ks,eqq,eq_self,xs]
 have pa_news:F64 (3,fr,to,sq,wh,ki,ks,nw,tb,ep,bo,ak,tk,tn,gd)=some (newsB nw):=news_ok (3,fr,to,sq,wh,ki,ks,nw,tb,ep,bo,ak,tk,tn,gd) hw
 have hp:partsB (3,fr,to,sq,wh,ki,ks,nw,tb,ep,bo,ak,tk,tn,gd)=((!kindB 3 1 || nodeB wh)&&((!kindB 3 2 || knowB ks)&&((!kindB 3 3 || newsB nw)&&((!kindB 3 4 || tabB tb)&&((!kindB 3 7 || tickB ak)&&((!kindB 3 8 || nmB tk))))))):=rfl
 rw [hp]
 have kb1:kindB 3 1=true:=rfl
 have kb2:kindB 3 2=true:=rfl
 have kb3:kindB 3 3=true:=rfl
 have kb4:kindB 3 4=false:=rfl
 have kb7:kindB 3 7=false:=rfl
 have kb8:kindB 3 8=false:=rfl
 rw [loopX_eq]
 simp -implicitDefEqProofs only [lts,les,tnn,lnn,nq,nw1,ln1,ln2,ln3,ln4,ln5,List.getElem?_cons_zero,List.getElem?_cons_succ,pa_seq,pa_who,pa_k,pa_news,kb1,kb2,kb3,kb4,kb7,kb8,eq_self,xs]
 rw [loopX_eq]
 simp -implicitDefEqProofs only [lts,les,tnn,lnn,nq,nw1,ln1,ln2,ln3,ln4,ln5,List.getElem?_cons_zero,List.getElem?_cons_succ,pa_seq,pa_who,pa_k,pa_news,kb1,kb2,kb3,kb4,kb7,kb8,eq_self,xs]
 cases nodeB wh
 ·simp -implicitDefEqProofs only [eq_self,xs]
 simp -implicitDefEqProofs only [eq_self,xs]
 rw [loopX_eq]
 simp -implicitDefEqProofs only [lts,les,tnn,lnn,nq,nw1,ln1,ln2,ln3,ln4,ln5,List.getElem?_cons_zero,List.getElem?_cons_succ,pa_seq,pa_who,pa_k,pa_news,kb1,kb2,kb3,kb4,kb7,kb8,eq_self,xs]
 cases knowB ks
 ·simp -implicitDefEqProofs only [eq_self,xs]
 simp -implicitDefEqProofs only [eq_self,xs]
 rw [loopX_eq]
 simp -implicitDefEqProofs only [lts,les,tnn,lnn,nq,nw1,ln1,ln2,ln3,ln4,ln5,List.getElem?_cons_zero,List.getElem?_cons_succ,pa_seq,pa_who,pa_k,pa_news,kb1,kb2,kb3,kb4,kb7,kb8,eq_self,xs]
 cases newsB nw
 ·simp -implicitDefEqProofs only [eq_self,xs]
 simp -implicitDefEqProofs only [eq_self,xs]
 rw [loopX_eq]
 simp -implicitDefEqProofs only [lts,les,tnn,lnn,nq,nw1,ln1,ln2,ln3,ln4,ln5,List.getElem?_cons_zero,List.getElem?_cons_succ,pa_seq,pa_who,pa_k,pa_news,kb1,kb2,kb3,kb4,kb7,kb8,eq_self,xs]
theorem check4 {fr to sq wh ki ks ep bo ak tn:Int} {nw:List NW} {tb:List KW} {tk:ByteArray} {gd:Bool} (hw:nw.length≤1000) (ht:tb.length≤1000) (hk:tk.size≤maxLen):F11 (4,fr,to,sq,wh,ki,ks,nw,tb,ep,bo,ak,tk,tn,gd)=some (if msgB (4,fr,to,sq,wh,ki,ks,nw,tb,ep,bo,ak,tk,tn,gd)=true then 0 else 1):=by
 rw [F11_eq]
 have hb:=bare4 (fr:=fr) (to:=to) (sq:=sq) (wh:=wh) (ki:=ki) (ks:=ks) (nw:=nw) (tb:=tb) (ep:=ep) (bo:=bo) (ak:=ak) (tk:=tk) (tn:=tn) (gd:=gd)
 have hbm:bareM (4,fr,to,sq,wh,ki,ks,nw,tb,ep,bo,ak,tk,tn,gd)=(4,fr,to,sq,wh,0,0,[],[],0,0,0,(⟨#[]⟩:ByteArray),0,false):=rfl
 have hs:=same_ok (4,fr,to,sq,wh,ki,ks,nw,tb,ep,bo,ak,tk,tn,gd) (bareM (4,fr,to,sq,wh,ki,ks,nw,tb,ep,bo,ak,tk,tn,gd)) hw ht
 rw [hbm] at hs
 have k1:¬ ((4:Int) < 1):=by decide
 have k2:¬ ((4:Int) > 12):=by decide
 simp -implicitDefEqProofs only [node_ok fr,node_ok to,hb,hs,k1,k2,eq_self,xs]
 unfold msgB
 rw [hbm]
 have kk1:decide ((1:Int)≤4)=true:=rfl
 have kk2:decide ((4:Int)≤12)=true:=rfl
 simp -implicitDefEqProofs only [kk1,kk2,eq_self,xs]
 cases nodeB fr
 ·simp -implicitDefEqProofs only [eq_self,xs]
 cases nodeB to
 ·simp -implicitDefEqProofs only [eq_self,xs]
 cases (fr==to)
 rotate_left
 ·simp -implicitDefEqProofs only [eq_self,xs]
 simp -implicitDefEqProofs only [eq_self,xs]
 generalize sameB _ _=sb
 cases sb
 ·simp -implicitDefEqProofs only [eq_self,xs]
 simp -implicitDefEqProofs only [has4,eq_self,xs]
 have pa_seq:=F47_eq (4,fr,to,sq,wh,ki,ks,nw,tb,ep,bo,ak,tk,tn,gd)
 have pa_who:F55 (4,fr,to,sq,wh,ki,ks,nw,tb,ep,bo,ak,tk,tn,gd)=some (nodeB wh):=by rw [F55_eq]; simp -implicitDefEqProofs only [node_ok wh,eq_self,xs]
 have hp:partsB (4,fr,to,sq,wh,ki,ks,nw,tb,ep,bo,ak,tk,tn,gd)=((!kindB 4 1 || nodeB wh)&&((!kindB 4 2 || knowB ks)&&((!kindB 4 3 || newsB nw)&&((!kindB 4 4 || tabB tb)&&((!kindB 4 7 || tickB ak)&&((!kindB 4 8 || nmB tk))))))):=rfl
 rw [hp]
 have kb1:kindB 4 1=true:=rfl
 have kb2:kindB 4 2=false:=rfl
 have kb3:kindB 4 3=false:=rfl
 have kb4:kindB 4 4=false:=rfl
 have kb7:kindB 4 7=false:=rfl
 have kb8:kindB 4 8=false:=rfl
 rw [loopX_eq]
 simp -implicitDefEqProofs only [lts,les,tnn,lnn,nq,nw1,ln1,ln2,ln3,ln4,ln5,List.getElem?_cons_zero,List.getElem?_cons_succ,pa_seq,pa_who,kb1,kb2,kb3,kb4,kb7,kb8,eq_self,xs]
 rw [loopX_eq]
 simp -implicitDefEqProofs only [lts,les,tnn,lnn,nq,nw1,ln1,ln2,ln3,ln4,ln5,List.getElem?_cons_zero,List.getElem?_cons_succ,pa_seq,pa_who,kb1,kb2,kb3,kb4,kb7,kb8,eq_self,xs]
 cases nodeB wh
 ·simp -implicitDefEqProofs only [eq_self,xs]
 simp -implicitDefEqProofs only [eq_self,xs]
 rw [loopX_eq]
 simp -implicitDefEqProofs only [lts,les,tnn,lnn,nq,nw1,ln1,ln2,ln3,ln4,ln5,List.getElem?_cons_zero,List.getElem?_cons_succ,pa_seq,pa_who,kb1,kb2,kb3,kb4,kb7,kb8,eq_self,xs]
theorem check5 {fr to sq wh ki ks ep bo ak tn:Int} {nw:List NW} {tb:List KW} {tk:ByteArray} {gd:Bool} (hw:nw.length≤1000) (ht:tb.length≤1000) (hk:tk.size≤maxLen):F11 (5,fr,to,sq,wh,ki,ks,nw,tb,ep,bo,ak,tk,tn,gd)=some (if msgB (5,fr,to,sq,wh,ki,ks,nw,tb,ep,bo,ak,tk,tn,gd)=true then 0 else 1):=by
 rw [F11_eq]
 have hb:=bare5 (fr:=fr) (to:=to) (sq:=sq) (wh:=wh) (ki:=ki) (ks:=ks) (nw:=nw) (tb:=tb) (ep:=ep) (bo:=bo) (ak:=ak) (tk:=tk) (tn:=tn) (gd:=gd)
 have hbm:bareM (5,fr,to,sq,wh,ki,ks,nw,tb,ep,bo,ak,tk,tn,gd)=(5,fr,to,0,0,0,0,[],tb,0,0,0,(⟨#[]⟩:ByteArray),0,false):=rfl
 have hs:=same_ok (5,fr,to,sq,wh,ki,ks,nw,tb,ep,bo,ak,tk,tn,gd) (bareM (5,fr,to,sq,wh,ki,ks,nw,tb,ep,bo,ak,tk,tn,gd)) hw ht
 rw [hbm] at hs
 have k1:¬ ((5:Int) < 1):=by decide
 have k2:¬ ((5:Int) > 12):=by decide
 simp -implicitDefEqProofs only [node_ok fr,node_ok to,hb,hs,k1,k2,eq_self,xs]
 unfold msgB
 rw [hbm]
 have kk1:decide ((1:Int)≤5)=true:=rfl
 have kk2:decide ((5:Int)≤12)=true:=rfl
 simp -implicitDefEqProofs only [kk1,kk2,eq_self,xs]
 cases nodeB fr
 ·simp -implicitDefEqProofs only [eq_self,xs]
 cases nodeB to
 ·simp -implicitDefEqProofs only [eq_self,xs]
 cases (fr==to)
 rotate_left
 ·simp -implicitDefEqProofs only [eq_self,xs]
 simp -implicitDefEqProofs only [eq_self,xs]
 generalize sameB _ _=sb
 cases sb
 ·simp -implicitDefEqProofs only [eq_self,xs]
 simp -implicitDefEqProofs only [has5,eq_self,xs]
 have pa_table:F67 (5,fr,to,sq,wh,ki,ks,nw,tb,ep,bo,ak,tk,tn,gd)=some (tabB tb):=by rw [F67_eq]; simp -implicitDefEqProofs only [tabl_ok tb ht,eqq,eq_self,xs]
 have hp:partsB (5,fr,to,sq,wh,ki,ks,nw,tb,ep,bo,ak,tk,tn,gd)=((!kindB 5 1 || nodeB wh)&&((!kindB 5 2 || knowB ks)&&((!kindB 5 3 || newsB nw)&&((!kindB 5 4 || tabB tb)&&((!kindB 5 7 || tickB ak)&&((!kindB 5 8 || nmB tk))))))):=rfl
 rw [hp]
 have kb1:kindB 5 1=false:=rfl
 have kb2:kindB 5 2=false:=rfl
 have kb3:kindB 5 3=false:=rfl
 have kb4:kindB 5 4=true:=rfl
 have kb7:kindB 5 7=false:=rfl
 have kb8:kindB 5 8=false:=rfl
 rw [loopX_eq]
 simp -implicitDefEqProofs only [lts,les,tnn,lnn,nq,nw1,ln1,ln2,ln3,ln4,ln5,List.getElem?_cons_zero,List.getElem?_cons_succ,pa_table,kb1,kb2,kb3,kb4,kb7,kb8,eq_self,xs]
 cases tabB tb
 ·simp -implicitDefEqProofs only [eq_self,xs]
 simp -implicitDefEqProofs only [eq_self,xs]
 rw [loopX_eq]
 simp -implicitDefEqProofs only [lts,les,tnn,lnn,nq,nw1,ln1,ln2,ln3,ln4,ln5,List.getElem?_cons_zero,List.getElem?_cons_succ,pa_table,kb1,kb2,kb3,kb4,kb7,kb8,eq_self,xs]
theorem check6 {fr to sq wh ki ks ep bo ak tn:Int} {nw:List NW} {tb:List KW} {tk:ByteArray} {gd:Bool} (hw:nw.length≤1000) (ht:tb.length≤1000) (hk:tk.size≤maxLen):F11 (6,fr,to,sq,wh,ki,ks,nw,tb,ep,bo,ak,tk,tn,gd)=some (if msgB (6,fr,to,sq,wh,ki,ks,nw,tb,ep,bo,ak,tk,tn,gd)=true then 0 else 1):=by
 rw [F11_eq]
 have hb:=bare6 (fr:=fr) (to:=to) (sq:=sq) (wh:=wh) (ki:=ki) (ks:=ks) (nw:=nw) (tb:=tb) (ep:=ep) (bo:=bo) (ak:=ak) (tk:=tk) (tn:=tn) (gd:=gd)
 have hbm:bareM (6,fr,to,sq,wh,ki,ks,nw,tb,ep,bo,ak,tk,tn,gd)=(6,fr,to,0,0,0,0,[],tb,0,0,0,(⟨#[]⟩:ByteArray),0,false):=rfl
 have hs:=same_ok (6,fr,to,sq,wh,ki,ks,nw,tb,ep,bo,ak,tk,tn,gd) (bareM (6,fr,to,sq,wh,ki,ks,nw,tb,ep,bo,ak,tk,tn,gd)) hw ht
 rw [hbm] at hs
 have k1:¬ ((6:Int) < 1):=by decide
 have k2:¬ ((6:Int) > 12):=by decide
 simp -implicitDefEqProofs only [node_ok fr,node_ok to,hb,hs,k1,k2,eq_self,xs]
 unfold msgB
 rw [hbm]
 have kk1:decide ((1:Int)≤6)=true:=rfl
 have kk2:decide ((6:Int)≤12)=true:=rfl
 simp -implicitDefEqProofs only [kk1,kk2,eq_self,xs]
 cases nodeB fr
 ·simp -implicitDefEqProofs only [eq_self,xs]
 cases nodeB to
 ·simp -implicitDefEqProofs only [eq_self,xs]
 cases (fr==to)
 rotate_left
 ·simp -implicitDefEqProofs only [eq_self,xs]
 simp -implicitDefEqProofs only [eq_self,xs]
 generalize sameB _ _=sb
 cases sb
 ·simp -implicitDefEqProofs only [eq_self,xs]
 simp -implicitDefEqProofs only [has6,eq_self,xs]
 have pa_table:F67 (6,fr,to,sq,wh,ki,ks,nw,tb,ep,bo,ak,tk,tn,gd)=some (tabB tb):=by rw [F67_eq]; simp -implicitDefEqProofs only [tabl_ok tb ht,eqq,eq_self,xs]
 have hp:partsB (6,fr,to,sq,wh,ki,ks,nw,tb,ep,bo,ak,tk,tn,gd)=((!kindB 6 1 || nodeB wh)&&((!kindB 6 2 || knowB ks)&&((!kindB 6 3 || newsB nw)&&((!kindB 6 4 || tabB tb)&&((!kindB 6 7 || tickB ak)&&((!kindB 6 8 || nmB tk))))))):=rfl
 rw [hp]
 have kb1:kindB 6 1=false:=rfl
 have kb2:kindB 6 2=false:=rfl
 have kb3:kindB 6 3=false:=rfl
 have kb4:kindB 6 4=true:=rfl
 have kb7:kindB 6 7=false:=rfl
 have kb8:kindB 6 8=false:=rfl
 rw [loopX_eq]
 simp -implicitDefEqProofs only [lts,les,tnn,lnn,nq,nw1,ln1,ln2,ln3,ln4,ln5,List.getElem?_cons_zero,List.getElem?_cons_succ,pa_table,kb1,kb2,kb3,kb4,kb7,kb8,eq_self,xs]
 cases tabB tb
 ·simp -implicitDefEqProofs only [eq_self,xs]
 simp -implicitDefEqProofs only [eq_self,xs]
 rw [loopX_eq]
 simp -implicitDefEqProofs only [lts,les,tnn,lnn,nq,nw1,ln1,ln2,ln3,ln4,ln5,List.getElem?_cons_zero,List.getElem?_cons_succ,pa_table,kb1,kb2,kb3,kb4,kb7,kb8,eq_self,xs]
theorem check7 {fr to sq wh ki ks ep bo ak tn:Int} {nw:List NW} {tb:List KW} {tk:ByteArray} {gd:Bool} (hw:nw.length≤1000) (ht:tb.length≤1000) (hk:tk.size≤maxLen):F11 (7,fr,to,sq,wh,ki,ks,nw,tb,ep,bo,ak,tk,tn,gd)=some (if msgB (7,fr,to,sq,wh,ki,ks,nw,tb,ep,bo,ak,tk,tn,gd)=true then 0 else 1):=by
 rw [F11_eq]
 have hb:=bare7 (fr:=fr) (to:=to) (sq:=sq) (wh:=wh) (ki:=ki) (ks:=ks) (nw:=nw) (tb:=tb) (ep:=ep) (bo:=bo) (ak:=ak) (tk:=tk) (tn:=tn) (gd:=gd)
 have hbm:bareM (7,fr,to,sq,wh,ki,ks,nw,tb,ep,bo,ak,tk,tn,gd)=(7,fr,to,0,0,0,0,[],[],ep,bo,ak,(⟨#[]⟩:ByteArray),0,false):=rfl
 have hs:=same_ok (7,fr,to,sq,wh,ki,ks,nw,tb,ep,bo,ak,tk,tn,gd) (bareM (7,fr,to,sq,wh,ki,ks,nw,tb,ep,bo,ak,tk,tn,gd)) hw ht
 rw [hbm] at hs
 have k1:¬ ((7:Int) < 1):=by decide
 have k2:¬ ((7:Int) > 12):=by decide
 simp -implicitDefEqProofs only [node_ok fr,node_ok to,hb,hs,k1,k2,eq_self,xs]
 unfold msgB
 rw [hbm]
 have kk1:decide ((1:Int)≤7)=true:=rfl
 have kk2:decide ((7:Int)≤12)=true:=rfl
 simp -implicitDefEqProofs only [kk1,kk2,eq_self,xs]
 cases nodeB fr
 ·simp -implicitDefEqProofs only [eq_self,xs]
 cases nodeB to
 ·simp -implicitDefEqProofs only [eq_self,xs]
 cases (fr==to)
 rotate_left
 ·simp -implicitDefEqProofs only [eq_self,xs]
 simp -implicitDefEqProofs only [eq_self,xs]
 generalize sameB _ _=sb
 cases sb
 ·simp -implicitDefEqProofs only [eq_self,xs]
 simp -implicitDefEqProofs only [has7,eq_self,xs]
 have pa_epoch:=F47_eq (7,fr,to,sq,wh,ki,ks,nw,tb,ep,bo,ak,tk,tn,gd)
 have pa_boot:=F47_eq (7,fr,to,sq,wh,ki,ks,nw,tb,ep,bo,ak,tk,tn,gd)
 have pa_asked:F72 (7,fr,to,sq,wh,ki,ks,nw,tb,ep,bo,ak,tk,tn,gd)=some (tickB ak):=by rw [F72_eq]; exact c1 (decide (0≤ak)) (decide (ak≤1099511627776))
 have hp:partsB (7,fr,to,sq,wh,ki,ks,nw,tb,ep,bo,ak,tk,tn,gd)=((!kindB 7 1 || nodeB wh)&&((!kindB 7 2 || knowB ks)&&((!kindB 7 3 || newsB nw)&&((!kindB 7 4 || tabB tb)&&((!kindB 7 7 || tickB ak)&&((!kindB 7 8 || nmB tk))))))):=rfl
 rw [hp]
 have kb1:kindB 7 1=false:=rfl
 have kb2:kindB 7 2=false:=rfl
 have kb3:kindB 7 3=false:=rfl
 have kb4:kindB 7 4=false:=rfl
 have kb7:kindB 7 7=true:=rfl
 have kb8:kindB 7 8=false:=rfl
 rw [loopX_eq]
 simp -implicitDefEqProofs only [lts,les,tnn,lnn,nq,nw1,ln1,ln2,ln3,ln4,ln5,List.getElem?_cons_zero,List.getElem?_cons_succ,pa_epoch,pa_boot,pa_asked,kb1,kb2,kb3,kb4,kb7,kb8,eq_self,xs]
 rw [loopX_eq]
 simp -implicitDefEqProofs only [lts,les,tnn,lnn,nq,nw1,ln1,ln2,ln3,ln4,ln5,List.getElem?_cons_zero,List.getElem?_cons_succ,pa_epoch,pa_boot,pa_asked,kb1,kb2,kb3,kb4,kb7,kb8,eq_self,xs]
 rw [loopX_eq]
 simp -implicitDefEqProofs only [lts,les,tnn,lnn,nq,nw1,ln1,ln2,ln3,ln4,ln5,List.getElem?_cons_zero,List.getElem?_cons_succ,pa_epoch,pa_boot,pa_asked,kb1,kb2,kb3,kb4,kb7,kb8,eq_self,xs]
 cases tickB ak
 ·simp -implicitDefEqProofs only [eq_self,xs]
 simp -implicitDefEqProofs only [eq_self,xs]
 rw [loopX_eq]
 simp -implicitDefEqProofs only [lts,les,tnn,lnn,nq,nw1,ln1,ln2,ln3,ln4,ln5,List.getElem?_cons_zero,List.getElem?_cons_succ,pa_epoch,pa_boot,pa_asked,kb1,kb2,kb3,kb4,kb7,kb8,eq_self,xs]
theorem check8 {fr to sq wh ki ks ep bo ak tn:Int} {nw:List NW} {tb:List KW} {tk:ByteArray} {gd:Bool} (hw:nw.length≤1000) (ht:tb.length≤1000) (hk:tk.size≤maxLen):F11 (8,fr,to,sq,wh,ki,ks,nw,tb,ep,bo,ak,tk,tn,gd)=some (if msgB (8,fr,to,sq,wh,ki,ks,nw,tb,ep,bo,ak,tk,tn,gd)=true then 0 else 1):=by
 rw [F11_eq]
 have hb:=bare8 (fr:=fr) (to:=to) (sq:=sq) (wh:=wh) (ki:=ki) (ks:=ks) (nw:=nw) (tb:=tb) (ep:=ep) (bo:=bo) (ak:=ak) (tk:=tk) (tn:=tn) (gd:=gd)
 have hbm:bareM (8,fr,to,sq,wh,ki,ks,nw,tb,ep,bo,ak,tk,tn,gd)=(8,fr,to,0,0,0,0,[],[],ep,bo,ak,(⟨#[]⟩:ByteArray),0,false):=rfl
 have hs:=same_ok (8,fr,to,sq,wh,ki,ks,nw,tb,ep,bo,ak,tk,tn,gd) (bareM (8,fr,to,sq,wh,ki,ks,nw,tb,ep,bo,ak,tk,tn,gd)) hw ht
 rw [hbm] at hs
 have k1:¬ ((8:Int) < 1):=by decide
 have k2:¬ ((8:Int) > 12):=by decide
 simp -implicitDefEqProofs only [node_ok fr,node_ok to,hb,hs,k1,k2,eq_self,xs]
 unfold msgB
 rw [hbm]
 have kk1:decide ((1:Int)≤8)=true:=rfl
 have kk2:decide ((8:Int)≤12)=true:=rfl
 simp -implicitDefEqProofs only [kk1,kk2,eq_self,xs]
 cases nodeB fr
 ·simp -implicitDefEqProofs only [eq_self,xs]
 cases nodeB to
 ·simp -implicitDefEqProofs only [eq_self,xs]
 cases (fr==to)
 rotate_left
 ·simp -implicitDefEqProofs only [eq_self,xs]
 simp -implicitDefEqProofs only [eq_self,xs]
 generalize sameB _ _=sb
 cases sb
 ·simp -implicitDefEqProofs only [eq_self,xs]
 simp -implicitDefEqProofs only [has8,eq_self,xs]
 have pa_epoch:=F47_eq (8,fr,to,sq,wh,ki,ks,nw,tb,ep,bo,ak,tk,tn,gd)
 have pa_boot:=F47_eq (8,fr,to,sq,wh,ki,ks,nw,tb,ep,bo,ak,tk,tn,gd)
 have pa_asked:F72 (8,fr,to,sq,wh,ki,ks,nw,tb,ep,bo,ak,tk,tn,gd)=some (tickB ak):=by rw [F72_eq]; exact c1 (decide (0≤ak)) (decide (ak≤1099511627776))
 have hp:partsB (8,fr,to,sq,wh,ki,ks,nw,tb,ep,bo,ak,tk,tn,gd)=((!kindB 8 1 || nodeB wh)&&((!kindB 8 2 || knowB ks)&&((!kindB 8 3 || newsB nw)&&((!kindB 8 4 || tabB tb)&&((!kindB 8 7 || tickB ak)&&((!kindB 8 8 || nmB tk))))))):=rfl
 rw [hp]
 have kb1:kindB 8 1=false:=rfl
 have kb2:kindB 8 2=false:=rfl
 have kb3:kindB 8 3=false:=rfl
 have kb4:kindB 8 4=false:=rfl
 have kb7:kindB 8 7=true:=rfl
 have kb8:kindB 8 8=false:=rfl
 rw [loopX_eq]
 simp -implicitDefEqProofs only [lts,les,tnn,lnn,nq,nw1,ln1,ln2,ln3,ln4,ln5,List.getElem?_cons_zero,List.getElem?_cons_succ,pa_epoch,pa_boot,pa_asked,kb1,kb2,kb3,kb4,kb7,kb8,eq_self,xs]
 rw [loopX_eq]
 simp -implicitDefEqProofs only [lts,les,tnn,lnn,nq,nw1,ln1,ln2,ln3,ln4,ln5,List.getElem?_cons_zero,List.getElem?_cons_succ,pa_epoch,pa_boot,pa_asked,kb1,kb2,kb3,kb4,kb7,kb8,eq_self,xs]
 rw [loopX_eq]
 simp -implicitDefEqProofs only [lts,les,tnn,lnn,nq,nw1,ln1,ln2,ln3,ln4,ln5,List.getElem?_cons_zero,List.getElem?_cons_succ,pa_epoch,pa_boot,pa_asked,kb1,kb2,kb3,kb4,kb7,kb8,eq_self,xs]
 cases tickB ak
 ·simp -implicitDefEqProofs only [eq_self,xs]
 simp -implicitDefEqProofs only [eq_self,xs]
 rw [loopX_eq]
 simp -implicitDefEqProofs only [lts,les,tnn,lnn,nq,nw1,ln1,ln2,ln3,ln4,ln5,List.getElem?_cons_zero,List.getElem?_cons_succ,pa_epoch,pa_boot,pa_asked,kb1,kb2,kb3,kb4,kb7,kb8,eq_self,xs]
theorem check9 {fr to sq wh ki ks ep bo ak tn:Int} {nw:List NW} {tb:List KW} {tk:ByteArray} {gd:Bool} (hw:nw.length≤1000) (ht:tb.length≤1000) (hk:tk.size≤maxLen):F11 (9,fr,to,sq,wh,ki,ks,nw,tb,ep,bo,ak,tk,tn,gd)=some (if msgB (9,fr,to,sq,wh,ki,ks,nw,tb,ep,bo,ak,tk,tn,gd)=true then 0 else 1):=by
 rw [F11_eq]
 have hb:=bare9 (fr:=fr) (to:=to) (sq:=sq) (wh:=wh) (ki:=ki) (ks:=ks) (nw:=nw) (tb:=tb) (ep:=ep) (bo:=bo) (ak:=ak) (tk:=tk) (tn:=tn) (gd:=gd)
 have hbm:bareM (9,fr,to,sq,wh,ki,ks,nw,tb,ep,bo,ak,tk,tn,gd)=(9,fr,to,0,0,0,0,[],[],ep,bo,0,(⟨#[]⟩:ByteArray),0,false):=rfl
 have hs:=same_ok (9,fr,to,sq,wh,ki,ks,nw,tb,ep,bo,ak,tk,tn,gd) (bareM (9,fr,to,sq,wh,ki,ks,nw,tb,ep,bo,ak,tk,tn,gd)) hw ht
 rw [hbm] at hs
 have k1:¬ ((9:Int) < 1):=by decide
 have k2:¬ ((9:Int) > 12):=by decide
 simp -implicitDefEqProofs only [node_ok fr,node_ok to,hb,hs,k1,k2,eq_self,xs]
 unfold msgB
 rw [hbm]
 have kk1:decide ((1:Int)≤9)=true:=rfl
 have kk2:decide ((9:Int)≤12)=true:=rfl
 simp -implicitDefEqProofs only [kk1,kk2,eq_self,xs]
 cases nodeB fr
 ·simp -implicitDefEqProofs only [eq_self,xs]
 cases nodeB to
 ·simp -implicitDefEqProofs only [eq_self,xs]
 cases (fr==to)
 rotate_left
 ·simp -implicitDefEqProofs only [eq_self,xs]
 simp -implicitDefEqProofs only [eq_self,xs]
 generalize sameB _ _=sb
 cases sb
 ·simp -implicitDefEqProofs only [eq_self,xs]
 simp -implicitDefEqProofs only [has9,eq_self,xs]
 have pa_epoch:=F47_eq (9,fr,to,sq,wh,ki,ks,nw,tb,ep,bo,ak,tk,tn,gd)
 have pa_boot:=F47_eq (9,fr,to,sq,wh,ki,ks,nw,tb,ep,bo,ak,tk,tn,gd)
 have hp:partsB (9,fr,to,sq,wh,ki,ks,nw,tb,ep,bo,ak,tk,tn,gd)=((!kindB 9 1 || nodeB wh)&&((!kindB 9 2 || knowB ks)&&((!kindB 9 3 || newsB nw)&&((!kindB 9 4 || tabB tb)&&((!kindB 9 7 || tickB ak)&&((!kindB 9 8 || nmB tk))))))):=rfl
 rw [hp]
 have kb1:kindB 9 1=false:=rfl
 have kb2:kindB 9 2=false:=rfl
 have kb3:kindB 9 3=false:=rfl
 have kb4:kindB 9 4=false:=rfl
 have kb7:kindB 9 7=false:=rfl
 have kb8:kindB 9 8=false:=rfl
 rw [loopX_eq]
 simp -implicitDefEqProofs only [lts,les,tnn,lnn,nq,nw1,ln1,ln2,ln3,ln4,ln5,List.getElem?_cons_zero,List.getElem?_cons_succ,pa_epoch,pa_boot,kb1,kb2,kb3,kb4,kb7,kb8,eq_self,xs]
 rw [loopX_eq]
 simp -implicitDefEqProofs only [lts,les,tnn,lnn,nq,nw1,ln1,ln2,ln3,ln4,ln5,List.getElem?_cons_zero,List.getElem?_cons_succ,pa_epoch,pa_boot,kb1,kb2,kb3,kb4,kb7,kb8,eq_self,xs]
 rw [loopX_eq]
 simp -implicitDefEqProofs only [lts,les,tnn,lnn,nq,nw1,ln1,ln2,ln3,ln4,ln5,List.getElem?_cons_zero,List.getElem?_cons_succ,pa_epoch,pa_boot,kb1,kb2,kb3,kb4,kb7,kb8,eq_self,xs]
theorem check10 {fr to sq wh ki ks ep bo ak tn:Int} {nw:List NW} {tb:List KW} {tk:ByteArray} {gd:Bool} (hw:nw.length≤1000) (ht:tb.length≤1000) (hk:tk.size≤maxLen):F11 (10,fr,to,sq,wh,ki,ks,nw,tb,ep,bo,ak,tk,tn,gd)=some (if msgB (10,fr,to,sq,wh,ki,ks,nw,tb,ep,bo,ak,tk,tn,gd)=true then 0 else 1):=by
 rw [F11_eq]
 have hb:=bare10 (fr:=fr) (to:=to) (sq:=sq) (wh:=wh) (ki:=ki) (ks:=ks) (nw:=nw) (tb:=tb) (ep:=ep) (bo:=bo) (ak:=ak) (tk:=tk) (tn:=tn) (gd:=gd)
 have hbm:bareM (10,fr,to,sq,wh,ki,ks,nw,tb,ep,bo,ak,tk,tn,gd)=(10,fr,to,0,0,0,0,[],[],0,bo,ak,(⟨#[]⟩:ByteArray),0,false):=rfl
 have hs:=same_ok (10,fr,to,sq,wh,ki,ks,nw,tb,ep,bo,ak,tk,tn,gd) (bareM (10,fr,to,sq,wh,ki,ks,nw,tb,ep,bo,ak,tk,tn,gd)) hw ht
 rw [hbm] at hs
 have k1:¬ ((10:Int) < 1):=by decide
 have k2:¬ ((10:Int) > 12):=by decide
 simp -implicitDefEqProofs only [node_ok fr,node_ok to,hb,hs,k1,k2,eq_self,xs]
 unfold msgB
 rw [hbm]
 have kk1:decide ((1:Int)≤10)=true:=rfl
 have kk2:decide ((10:Int)≤12)=true:=rfl
 simp -implicitDefEqProofs only [kk1,kk2,eq_self,xs]
 cases nodeB fr
 ·simp -implicitDefEqProofs only [eq_self,xs]
 cases nodeB to
 ·simp -implicitDefEqProofs only [eq_self,xs]
 cases (fr==to)
 rotate_left
 ·simp -implicitDefEqProofs only [eq_self,xs]
 simp -implicitDefEqProofs only [eq_self,xs]
 generalize sameB _ _=sb
 cases sb
 ·simp -implicitDefEqProofs only [eq_self,xs]
 simp -implicitDefEqProofs only [has10,eq_self,xs]
 have pa_boot:=F47_eq (10,fr,to,sq,wh,ki,ks,nw,tb,ep,bo,ak,tk,tn,gd)
 have pa_asked:F72 (10,fr,to,sq,wh,ki,ks,nw,tb,ep,bo,ak,tk,tn,gd)=some (tickB ak):=by rw [F72_eq]; exact c1 (decide (0≤ak)) (decide (ak≤1099511627776))
 have hp:partsB (10,fr,to,sq,wh,ki,ks,nw,tb,ep,bo,ak,tk,tn,gd)=((!kindB 10 1 || nodeB wh)&&((!kindB 10 2 || knowB ks)&&((!kindB 10 3 || newsB nw)&&((!kindB 10 4 || tabB tb)&&((!kindB 10 7 || tickB ak)&&((!kindB 10 8 || nmB tk))))))):=rfl
 rw [hp]
 have kb1:kindB 10 1=false:=rfl
 have kb2:kindB 10 2=false:=rfl
 have kb3:kindB 10 3=false:=rfl
 have kb4:kindB 10 4=false:=rfl
 have kb7:kindB 10 7=true:=rfl
 have kb8:kindB 10 8=false:=rfl
 rw [loopX_eq]
 simp -implicitDefEqProofs only [lts,les,tnn,lnn,nq,nw1,ln1,ln2,ln3,ln4,ln5,List.getElem?_cons_zero,List.getElem?_cons_succ,pa_boot,pa_asked,kb1,kb2,kb3,kb4,kb7,kb8,eq_self,xs]
 rw [loopX_eq]
 simp -implicitDefEqProofs only [lts,les,tnn,lnn,nq,nw1,ln1,ln2,ln3,ln4,ln5,List.getElem?_cons_zero,List.getElem?_cons_succ,pa_boot,pa_asked,kb1,kb2,kb3,kb4,kb7,kb8,eq_self,xs]
 cases tickB ak
 ·simp -implicitDefEqProofs only [eq_self,xs]
 simp -implicitDefEqProofs only [eq_self,xs]
 rw [loopX_eq]
 simp -implicitDefEqProofs only [lts,les,tnn,lnn,nq,nw1,ln1,ln2,ln3,ln4,ln5,List.getElem?_cons_zero,List.getElem?_cons_succ,pa_boot,pa_asked,kb1,kb2,kb3,kb4,kb7,kb8,eq_self,xs]
theorem check11 {fr to sq wh ki ks ep bo ak tn:Int} {nw:List NW} {tb:List KW} {tk:ByteArray} {gd:Bool} (hw:nw.length≤1000) (ht:tb.length≤1000) (hk:tk.size≤maxLen):F11 (11,fr,to,sq,wh,ki,ks,nw,tb,ep,bo,ak,tk,tn,gd)=some (if msgB (11,fr,to,sq,wh,ki,ks,nw,tb,ep,bo,ak,tk,tn,gd)=true then 0 else 1):=by
 rw [F11_eq]
 have hb:=bare11 (fr:=fr) (to:=to) (sq:=sq) (wh:=wh) (ki:=ki) (ks:=ks) (nw:=nw) (tb:=tb) (ep:=ep) (bo:=bo) (ak:=ak) (tk:=tk) (tn:=tn) (gd:=gd)
 have hbm:bareM (11,fr,to,sq,wh,ki,ks,nw,tb,ep,bo,ak,tk,tn,gd)=(11,fr,to,0,0,0,0,[],[],ep,bo,ak,tk,tn,false):=rfl
 have hs:=same_ok (11,fr,to,sq,wh,ki,ks,nw,tb,ep,bo,ak,tk,tn,gd) (bareM (11,fr,to,sq,wh,ki,ks,nw,tb,ep,bo,ak,tk,tn,gd)) hw ht
 rw [hbm] at hs
 have k1:¬ ((11:Int) < 1):=by decide
 have k2:¬ ((11:Int) > 12):=by decide
 simp -implicitDefEqProofs only [node_ok fr,node_ok to,hb,hs,k1,k2,eq_self,xs]
 unfold msgB
 rw [hbm]
 have kk1:decide ((1:Int)≤11)=true:=rfl
 have kk2:decide ((11:Int)≤12)=true:=rfl
 simp -implicitDefEqProofs only [kk1,kk2,eq_self,xs]
 cases nodeB fr
 ·simp -implicitDefEqProofs only [eq_self,xs]
 cases nodeB to
 ·simp -implicitDefEqProofs only [eq_self,xs]
 cases (fr==to)
 rotate_left
 ·simp -implicitDefEqProofs only [eq_self,xs]
 simp -implicitDefEqProofs only [eq_self,xs]
 generalize sameB _ _=sb
 cases sb
 ·simp -implicitDefEqProofs only [eq_self,xs]
 simp -implicitDefEqProofs only [has11,eq_self,xs]
 have pa_epoch:=F47_eq (11,fr,to,sq,wh,ki,ks,nw,tb,ep,bo,ak,tk,tn,gd)
 have pa_boot:=F47_eq (11,fr,to,sq,wh,ki,ks,nw,tb,ep,bo,ak,tk,tn,gd)
 have pa_asked:F72 (11,fr,to,sq,wh,ki,ks,nw,tb,ep,bo,ak,tk,tn,gd)=some (tickB ak):=by rw [F72_eq]; exact c1 (decide (0≤ak)) (decide (ak≤1099511627776))
 have pa_task:F75 (11,fr,to,sq,wh,ki,ks,nw,tb,ep,bo,ak,tk,tn,gd)=some (nmB tk):=by rw [F75_eq]; simp -implicitDefEqProofs only [F15_ok hk,eq_self,xs]
 have pa_token:=F47_eq (11,fr,to,sq,wh,ki,ks,nw,tb,ep,bo,ak,tk,tn,gd)
 have hp:partsB (11,fr,to,sq,wh,ki,ks,nw,tb,ep,bo,ak,tk,tn,gd)=((!kindB 11 1 || nodeB wh)&&((!kindB 11 2 || knowB ks)&&((!kindB 11 3 || newsB nw)&&((!kindB 11 4 || tabB tb)&&((!kindB 11 7 || tickB ak)&&((!kindB 11 8 || nmB tk))))))):=rfl
 rw [hp]
 have kb1:kindB 11 1=false:=rfl
 have kb2:kindB 11 2=false:=rfl
 have kb3:kindB 11 3=false:=rfl
 have kb4:kindB 11 4=false:=rfl
 have kb7:kindB 11 7=true:=rfl
 have kb8:kindB 11 8=true:=rfl
 rw [loopX_eq]
 simp -implicitDefEqProofs only [lts,les,tnn,lnn,nq,nw1,ln1,ln2,ln3,ln4,ln5,List.getElem?_cons_zero,List.getElem?_cons_succ,pa_epoch,pa_boot,pa_asked,pa_task,pa_token,kb1,kb2,kb3,kb4,kb7,kb8,eq_self,xs]
 rw [loopX_eq]
 simp -implicitDefEqProofs only [lts,les,tnn,lnn,nq,nw1,ln1,ln2,ln3,ln4,ln5,List.getElem?_cons_zero,List.getElem?_cons_succ,pa_epoch,pa_boot,pa_asked,pa_task,pa_token,kb1,kb2,kb3,kb4,kb7,kb8,eq_self,xs]
 rw [loopX_eq]
 simp -implicitDefEqProofs only [lts,les,tnn,lnn,nq,nw1,ln1,ln2,ln3,ln4,ln5,List.getElem?_cons_zero,List.getElem?_cons_succ,pa_epoch,pa_boot,pa_asked,pa_task,pa_token,kb1,kb2,kb3,kb4,kb7,kb8,eq_self,xs]
 cases tickB ak
 ·simp -implicitDefEqProofs only [eq_self,xs]
 simp -implicitDefEqProofs only [eq_self,xs]
 rw [loopX_eq]
 simp -implicitDefEqProofs only [lts,les,tnn,lnn,nq,nw1,ln1,ln2,ln3,ln4,ln5,List.getElem?_cons_zero,List.getElem?_cons_succ,pa_epoch,pa_boot,pa_asked,pa_task,pa_token,kb1,kb2,kb3,kb4,kb7,kb8,eq_self,xs]
 cases nmB tk
 ·simp -implicitDefEqProofs only [eq_self,xs]
 simp -implicitDefEqProofs only [eq_self,xs]
 rw [loopX_eq]
 simp -implicitDefEqProofs only [lts,les,tnn,lnn,nq,nw1,ln1,ln2,ln3,ln4,ln5,List.getElem?_cons_zero,List.getElem?_cons_succ,pa_epoch,pa_boot,pa_asked,pa_task,pa_token,kb1,kb2,kb3,kb4,kb7,kb8,eq_self,xs]
 rw [loopX_eq]
 simp -implicitDefEqProofs only [lts,les,tnn,lnn,nq,nw1,ln1,ln2,ln3,ln4,ln5,List.getElem?_cons_zero,List.getElem?_cons_succ,pa_epoch,pa_boot,pa_asked,pa_task,pa_token,kb1,kb2,kb3,kb4,kb7,kb8,eq_self,xs]
theorem check12 {fr to sq wh ki ks ep bo ak tn:Int} {nw:List NW} {tb:List KW} {tk:ByteArray} {gd:Bool} (hw:nw.length≤1000) (ht:tb.length≤1000) (hk:tk.size≤maxLen):F11 (12,fr,to,sq,wh,ki,ks,nw,tb,ep,bo,ak,tk,tn,gd)=some (if msgB (12,fr,to,sq,wh,ki,ks,nw,tb,ep,bo,ak,tk,tn,gd)=true then 0 else 1):=by
 rw [F11_eq]
 have hb:=bare12 (fr:=fr) (to:=to) (sq:=sq) (wh:=wh) (ki:=ki) (ks:=ks) (nw:=nw) (tb:=tb) (ep:=ep) (bo:=bo) (ak:=ak) (tk:=tk) (tn:=tn) (gd:=gd)
 have hbm:bareM (12,fr,to,sq,wh,ki,ks,nw,tb,ep,bo,ak,tk,tn,gd)=(12,fr,to,0,0,0,0,[],[],0,0,0,tk,tn,gd):=rfl
 have hs:=same_ok (12,fr,to,sq,wh,ki,ks,nw,tb,ep,bo,ak,tk,tn,gd) (bareM (12,fr,to,sq,wh,ki,ks,nw,tb,ep,bo,ak,tk,tn,gd)) hw ht
 rw [hbm] at hs
 have k1:¬ ((12:Int) < 1):=by decide
 have k2:¬ ((12:Int) > 12):=by decide
 simp -implicitDefEqProofs only [node_ok fr,node_ok to,hb,hs,k1,k2,eq_self,xs]
 unfold msgB
 rw [hbm]
 have kk1:decide ((1:Int)≤12)=true:=rfl
 have kk2:decide ((12:Int)≤12)=true:=rfl
 simp -implicitDefEqProofs only [kk1,kk2,eq_self,xs]
 cases nodeB fr
 ·simp -implicitDefEqProofs only [eq_self,xs]
 cases nodeB to
 ·simp -implicitDefEqProofs only [eq_self,xs]
 cases (fr==to)
 rotate_left
 ·simp -implicitDefEqProofs only [eq_self,xs]
 simp -implicitDefEqProofs only [eq_self,xs]
 generalize sameB _ _=sb
 cases sb
 ·simp -implicitDefEqProofs only [eq_self,xs]
 simp -implicitDefEqProofs only [has12,eq_self,xs]
 have pa_task:F75 (12,fr,to,sq,wh,ki,ks,nw,tb,ep,bo,ak,tk,tn,gd)=some (nmB tk):=by rw [F75_eq]; simp -implicitDefEqProofs only [F15_ok hk,eq_self,xs]
 have pa_token:=F47_eq (12,fr,to,sq,wh,ki,ks,nw,tb,ep,bo,ak,tk,tn,gd)
 have pa_good:=F47_eq (12,fr,to,sq,wh,ki,ks,nw,tb,ep,bo,ak,tk,tn,gd)
 have hp:partsB (12,fr,to,sq,wh,ki,ks,nw,tb,ep,bo,ak,tk,tn,gd)=((!kindB 12 1 || nodeB wh)&&((!kindB 12 2 || knowB ks)&&((!kindB 12 3 || newsB nw)&&((!kindB 12 4 || tabB tb)&&((!kindB 12 7 || tickB ak)&&((!kindB 12 8 || nmB tk))))))):=rfl
 rw [hp]
 have kb1:kindB 12 1=false:=rfl
 have kb2:kindB 12 2=false:=rfl
 have kb3:kindB 12 3=false:=rfl
 have kb4:kindB 12 4=false:=rfl
 have kb7:kindB 12 7=false:=rfl
 have kb8:kindB 12 8=true:=rfl
 rw [loopX_eq]
 simp -implicitDefEqProofs only [lts,les,tnn,lnn,nq,nw1,ln1,ln2,ln3,ln4,ln5,List.getElem?_cons_zero,List.getElem?_cons_succ,pa_task,pa_token,pa_good,kb1,kb2,kb3,kb4,kb7,kb8,eq_self,xs]
 cases nmB tk
 ·simp -implicitDefEqProofs only [eq_self,xs]
 simp -implicitDefEqProofs only [eq_self,xs]
 rw [loopX_eq]
 simp -implicitDefEqProofs only [lts,les,tnn,lnn,nq,nw1,ln1,ln2,ln3,ln4,ln5,List.getElem?_cons_zero,List.getElem?_cons_succ,pa_task,pa_token,pa_good,kb1,kb2,kb3,kb4,kb7,kb8,eq_self,xs]
 rw [loopX_eq]
 simp -implicitDefEqProofs only [lts,les,tnn,lnn,nq,nw1,ln1,ln2,ln3,ln4,ln5,List.getElem?_cons_zero,List.getElem?_cons_succ,pa_task,pa_token,pa_good,kb1,kb2,kb3,kb4,kb7,kb8,eq_self,xs]
 rw [loopX_eq]
 simp -implicitDefEqProofs only [lts,les,tnn,lnn,nq,nw1,ln1,ln2,ln3,ln4,ln5,List.getElem?_cons_zero,List.getElem?_cons_succ,pa_task,pa_token,pa_good,kb1,kb2,kb3,kb4,kb7,kb8,eq_self,xs]
theorem check_ok (m:MB) (hw:m.2.2.2.2.2.2.2.1.length≤1000) (ht:m.2.2.2.2.2.2.2.2.1.length≤1000) (hk:m.2.2.2.2.2.2.2.2.2.2.2.2.1.size≤maxLen):F11 m=some (if msgB m=true then 0 else 1):=by
 obtain ⟨k,fr,to,sq,wh,ki,ks,nw,tb,ep,bo,ak,tk,tn,gd⟩:=m
 by_cases k1:k < 1
 ·rw [F11_eq]
  unfold msgB
  have e:decide ((1:Int)≤k)=false:=by rw [decide_eq_false_iff_not]; omega
  simp -implicitDefEqProofs only [k1,e,eq_self,xs]
 by_cases k2:k > 12
 ·rw [F11_eq]
  unfold msgB
  have e:decide (k≤12)=false:=by rw [decide_eq_false_iff_not]; omega
  simp -implicitDefEqProofs only [k1,k2,e,eq_self,xs]
 have hk12:k=1∨k=2∨k=3∨k=4∨k=5∨k=6∨k=7∨k=8∨k=9∨k=10∨k=11∨k=12:=by omega
 rcases hk12 with rfl | rfl | rfl | rfl | rfl | rfl | rfl | rfl | rfl | rfl | rfl | rfl
 ·exact check1 hw ht hk
 ·exact check2 hw ht hk
 ·exact check3 hw ht hk
 ·exact check4 hw ht hk
 ·exact check5 hw ht hk
 ·exact check6 hw ht hk
 ·exact check7 hw ht hk
 ·exact check8 hw ht hk
 ·exact check9 hw ht hk
 ·exact check10 hw ht hk
 ·exact check11 hw ht hk
 ·exact check12 hw ht hk
end Go.Proofs.Ytgbcankkfmhcoaa.VL
end
section
namespace Go.Proofs.Ytgbcankkfmhcoaa.VL
open Go
set_option linter.unusedVariables false
set_option linter.unusedSectionVars false
set_option linter.unusedSimpArgs false
set_option maxRecDepth 100000
variable [Val]
theorem bad_write {x:MB} (hw:x.2.2.2.2.2.2.2.1.length≤1000) (ht:x.2.2.2.2.2.2.2.2.1.length≤1000) (hk:x.2.2.2.2.2.2.2.2.2.2.2.2.1.size≤maxLen) (h:msgB x=false):F10 x=some (ByteArray.mk #[],1)∧F11 x=some 1:=by
 have c:=check_ok x hw ht hk
 rw [h,if_neg (by decide)] at c
 refine ⟨?_,c⟩
 rw [F10_eq]
 obtain ⟨k,fr,to,sq,wh,ki,ks,nw,tb,ep,bo,ak,tk,tn,gd⟩:=x
 simp only [c,Option.bind_some,nz1,cond_true]
end Go.Proofs.Ytgbcankkfmhcoaa.VL
end
section
namespace Go.Proofs.Ytgbcankkfmhcoaa.VL
open Go
set_option maxRecDepth 100000
set_option linter.unusedVariables false
set_option linter.unusedSectionVars false
variable [Val]
theorem F65_eq (v:(Int×(Int×(Int×(Int×(Int×(Int×(Int×((List (Int×(Int×Int)))×((List (Int×Int))×(Int×(Int×(Int×(ByteArray×(Int×Bool))))))))))))))):F65 v=(Option.bind (F22 ((IntKind.wrap IntKind.u64 ((v.2.2.2.2.2.2.2.1.length:Nat):Int))::[])) (fun (v0:ByteArray)=>(loopX (fun (v1:(ByteArray×Int))=>(cond (decide (v1.2 < ((v.2.2.2.2.2.2.2.1.length:Nat):Int))) (cond (decide ((0:Int)≤v1.2)) (Option.bind v.2.2.2.2.2.2.2.1[(Int.toNat v1.2)]? (fun (v2:(Int×(Int×Int)))=>(Option.bind (F22 ((IntKind.wrap IntKind.u64 v2.1)::[])) (fun (v3:ByteArray)=>(Option.bind (F61 (v2.2.1,v2.2.2)) (fun (v4:ByteArray)=>(cond (decide (((ByteArray.size v3)+(ByteArray.size v4))≤4611686018427387904)) (cond (decide (((ByteArray.size v1.1)+(ByteArray.size (v3++v4)))≤4611686018427387904)) (some (.inl ((v1.1++(v3++v4)),(IntKind.wrap IntKind.i64 (v1.2+(1:Int)))))) none) none))))))) none) (some (.inr v1.1)))) (v0,(0:Int))))):=by kernel_rfl
theorem F69_eq (v:(Int×(Int×(Int×(Int×(Int×(Int×(Int×((List (Int×(Int×Int)))×((List (Int×Int))×(Int×(Int×(Int×(ByteArray×(Int×Bool))))))))))))))):F69 v=(Option.bind (F22 ((IntKind.wrap IntKind.u64 ((v.2.2.2.2.2.2.2.2.1.length:Nat):Int))::[])) (fun (v0:ByteArray)=>(loopX (fun (v1:(ByteArray×Int))=>(cond (decide (v1.2 < ((v.2.2.2.2.2.2.2.2.1.length:Nat):Int))) (cond (decide ((0:Int)≤v1.2)) (Option.bind v.2.2.2.2.2.2.2.2.1[(Int.toNat v1.2)]? (fun (v2:(Int×Int))=>(Option.bind (F61 (v2.1,v2.2)) (fun (v3:ByteArray)=>(cond (decide (((ByteArray.size v1.1)+(ByteArray.size v3))≤4611686018427387904)) (some (.inl ((v1.1++v3),(IntKind.wrap IntKind.i64 (v1.2+(1:Int)))))) none))))) none) (some (.inr v1.1)))) (v0,(0:Int))))):=by kernel_rfl
theorem F61_eq (v:(Int×Int)):F61 v=(Option.bind (F22 (v.1::((IntKind.wrap IntKind.u64 v.2)::[]))) (fun (v0:ByteArray)=>(some v0))):=by kernel_rfl
theorem F76_eq (v:(Int×(Int×(Int×(Int×(Int×(Int×(Int×((List (Int×(Int×Int)))×((List (Int×Int))×(Int×(Int×(Int×(ByteArray×(Int×Bool))))))))))))))):F76 v=(Option.bind (F88 v.2.2.2.2.2.2.2.2.2.2.2.2.1) (fun (v0:(ByteArray×Int))=>(cond (v0.2 != (0:Int)) (some (ByteArray.mk #[])) (some v0.1)))):=by kernel_rfl
theorem F79_eq (v:Bool):F79 v=(cond v (some (1:Int)) (some (0:Int))):=by kernel_rfl
theorem F56_eq (v:(Int×(Int×(Int×(Int×(Int×(Int×(Int×((List (Int×(Int×Int)))×((List (Int×Int))×(Int×(Int×(Int×(ByteArray×(Int×Bool))))))))))))))):F56 v=(Option.bind (F22 ((IntKind.wrap IntKind.u64 v.2.2.2.2.1)::[])) (fun (v0:ByteArray)=>(some v0))):=by kernel_rfl
theorem F60_eq (v:(Int×(Int×(Int×(Int×(Int×(Int×(Int×((List (Int×(Int×Int)))×((List (Int×Int))×(Int×(Int×(Int×(ByteArray×(Int×Bool))))))))))))))):F60 v=(Option.bind (F61 (v.2.2.2.2.2.1,v.2.2.2.2.2.2.1)) (fun (v0:ByteArray)=>(some v0))):=by kernel_rfl
theorem F73_eq (v:(Int×(Int×(Int×(Int×(Int×(Int×(Int×((List (Int×(Int×Int)))×((List (Int×Int))×(Int×(Int×(Int×(ByteArray×(Int×Bool))))))))))))))):F73 v=(Option.bind (F22 ((IntKind.wrap IntKind.u64 v.2.2.2.2.2.2.2.2.2.2.2.1)::[])) (fun (v0:ByteArray)=>(some v0))):=by kernel_rfl
theorem F78_eq (v:(Int×(Int×(Int×(Int×(Int×(Int×(Int×((List (Int×(Int×Int)))×((List (Int×Int))×(Int×(Int×(Int×(ByteArray×(Int×Bool))))))))))))))):F78 v=(Option.bind (F79 v.2.2.2.2.2.2.2.2.2.2.2.2.2.2) (fun (v0:Int)=>(Option.bind (F22 (v0::[])) (fun (v1:ByteArray)=>(some v1))))):=by kernel_rfl
end Go.Proofs.Ytgbcankkfmhcoaa.VL
end
section
namespace Go.Proofs.Ytgbcankkfmhcoaa.VL
open Go
set_option linter.unusedVariables false
set_option linter.unusedSectionVars false
set_option linter.unusedSimpArgs false
set_option maxRecDepth 100000
variable [Val]
def hiZ (n:Nat):List Int:=if h:n≤127 then [] else ((128+n % 128:Nat):Int)::hiZ (n / 128)
termination_by n
decreasing_by omega
def loZ (n:Nat):Nat:=if h:n≤127 then n else loZ (n / 128)
termination_by n
decreasing_by omega
theorem hiZ_small {n:Nat} (h:n≤127):hiZ n=[]:=by rw [hiZ,dif_pos h]
theorem hiZ_big {n:Nat} (h:¬ n≤127):hiZ n=((128+n % 128:Nat):Int)::hiZ (n / 128):=by rw [hiZ,dif_neg h]
theorem loZ_small {n:Nat} (h:n≤127):loZ n=n:=by rw [loZ,dif_pos h]
theorem loZ_big {n:Nat} (h:¬ n≤127):loZ n=loZ (n / 128):=by rw [loZ,dif_neg h]
def numZ (n:Nat):List Int:=hiZ n++[((loZ n:Nat):Int)]
theorem loZ_le:∀ n:Nat,loZ n≤127:=by
 intro n
 induction n using Nat.strongRecOn with
 | ind n ih =>
  by_cases h:n≤127
  ·rw [loZ_small h]; exact h
  ·rw [loZ_big h]; exact ih _ (by omega)
theorem hiZ_len:∀ (k n:Nat),n < 128 ^ (k+1)→(hiZ n).length≤k:=by
 intro k
 induction k with
 | zero=>intro n h; rw [hiZ_small (by omega)]; exact Nat.le_refl _
 | succ k ih =>
  intro n h
  by_cases hs:n≤127
  ·rw [hiZ_small hs]; exact Nat.zero_le _
  ·rw [hiZ_big hs,List.length_cons]
   have:=ih (n / 128) (by
    rw [Nat.div_lt_iff_lt_mul (by omega)]
    rw [Nat.pow_succ] at h; exact h)
   omega
theorem or_tab:∀ r:Fin 256,IntKind.wrap .u8 (((((BitVec.ofInt 8 ((r.val:Nat):Int)).or (BitVec.ofInt 8 128)).toNat:Nat)):Int)=((128+r.val % 128:Nat):Int):=by decide +kernel
theorem w8 (n:Nat):IntKind.wrap .u8 ((n:Nat):Int)=((n % 256:Nat):Int):=by rw [IntKind.wrap_u8]; omega
theorem or_ok (n:Nat):IntKind.wrap .u8 (((((BitVec.ofInt 8 (IntKind.wrap .u8 ((n:Nat):Int))).or (BitVec.ofInt 8 128)).toNat:Nat)):Int)=((128+n % 128:Nat):Int):=by
 rw [show IntKind.wrap .u8 ((n:Nat):Int)=((n % 256:Nat):Int) from w8 n]
 have:=or_tab ⟨n % 256,Nat.mod_lt _ (by omega)⟩
 simp only at this
 rw [this]; omega
def bI (x:Int):UInt8:=UInt8.ofBitVec (BitVec.ofFin (Fin.mk (Nat.mod (Int.toNat x) 256) (Nat.mod_lt (Int.toNat x) (by decide))))
theorem bI_toNat (x:Int):(bI x).toNat=x.toNat % 256:=rfl
def mkB (l:List UInt8):ByteArray:=ByteArray.mk (Array.mk l)
theorem mkB_size (l:List UInt8):(mkB l).size=l.length:=rfl
theorem mkB_toList (l:List UInt8):(mkB l).toList=l:=by rw [toList_data]; rfl
theorem mkB_app (a b:List UInt8):mkB a++mkB b=mkB (a++b):=by
 apply toList_inj
 rw [toList_data,mkB_toList,ByteArray.data_append]
 simp [mkB]
def numU (x:Int):List UInt8:=(numZ x.toNat).map bI
def numsU (l:List Int):List UInt8:=l.flatMap numU
theorem numU_len {x:Int} (h:x≤18446744073709551615):(numU x).length≤10:=by
 unfold numU numZ
 rw [List.length_map,List.length_append,List.length_singleton]
 have:=hiZ_len 9 x.toNat (by
  have:(128:Nat) ^ 10=1180591620717411303424:=by decide
  omega)
 omega
theorem F22_ok {l:List Int} (hl:l.length≤900) (hr:∀ x ∈ l,0≤x∧x≤18446744073709551615):F22 l=some (mkB (numsU l)):=by
 rw [F22_eq]
 have hlen:∀ i,(((l.take i).flatMap fun x=>numZ x.toNat)).length≤9000:=by
  intro i
  have key:∀ m:List Int,(∀ x ∈ m,x≤18446744073709551615)→(m.flatMap fun x=>numZ x.toNat).length≤10 * m.length:=by
   intro m
   induction m with
   | nil=>intro _; exact Nat.le_refl _
   | cons a r ih =>
    intro h
    have h1:=ih (fun x hx=>h x (by simp [hx]))
    have h2:=numU_len (h a (by simp))
    unfold numU at h2
    rw [List.length_map] at h2
    rw [List.flatMap_cons,List.length_append,List.length_cons]
    omega
  have:=key (l.take i) (fun x hx=>(hr x (List.mem_of_mem_take hx)).2)
  rw [List.length_take] at this
  omega
 rw [loop_detE (s0:=((0:Int),([]:List Int))) l.length (fun i=>(((i:Nat):Int),(l.take i).flatMap fun x=>numZ x.toNat)) (mkB (numsU l)) rfl]
 ·have q:¬ ((l.length:Nat):Int) < ((l.length:Nat):Int):=by omega
  have e:l.take l.length=l:=List.take_length
  rw [e]
  have e2:numsU l=(l.flatMap fun x=>numZ x.toNat).map bI:=by unfold numsU numU; rw [List.map_flatMap]
  generalize (l.flatMap fun x=>numZ x.toNat)=L at *
  simp -implicitDefEqProofs only [q,List.take_length,eq_self,xs]
  rw [e2]
  rfl
 ·intro i hi
  have q1:((i:Nat):Int) < ((l.length:Nat):Int):=by omega
  have q2:(0:Int)≤(i:Int):=by omega
  have g:=List.getElem?_eq_getElem hi
  have hx:=hr l[i] (List.getElem_mem hi)
  have hb:=hlen i
  have tk:((l.take (i+1)).flatMap fun x=>numZ x.toNat)=((l.take i).flatMap fun x=>numZ x.toNat)++numZ (l[i]).toNat:=by
   rw [List.take_succ_eq_append_getElem hi,List.flatMap_append]; simp
  rw [tk]
  generalize ((l.take i).flatMap fun x=>numZ x.toNat)=A at *
  generalize l[i]=x at *
  obtain ⟨n,rfl⟩:∃ n:Nat,x=n:=⟨x.toNat,by omega⟩
  rw [Int.toNat_natCast]
  simp -implicitDefEqProofs only [q1,q2,g,eq_self,xs]
  rw [loopX_spec (ρ:=Int×List Int) (fun s:Int×List Int=>∃ k:Nat,0≤s.1∧s.1.toNat < 128 ^ (k+1)∧s.2.length+k≤20000) (fun s=>s.1.toNat) (fun s=>(((loZ s.1.toNat:Nat):Int),s.2++hiZ s.1.toNat)) ?_ (((n:Nat):Int),A) ⟨9,by omega,by
   have:(128:Nat) ^ 10=1180591620717411303424:=by decide
   simp only [Int.toNat_natCast]
   omega,by simp only; omega⟩]
  rotate_left
  ·rintro ⟨c,B⟩ ⟨k,h0,h1,h2⟩
   simp only at h0 h1 h2
   obtain ⟨c,rfl⟩:∃ m:Nat,c=m:=⟨c.toNat,by omega⟩
   simp only [Int.toNat_natCast] at h1 ⊢
   by_cases hc:c≤127
   ·left
    have p:¬ ((c:Nat):Int) > 127:=by omega
    rw [loZ_small hc,hiZ_small hc,List.append_nil]
    simp -implicitDefEqProofs only [p,eq_self,xs]
   ·right
    have p:((c:Nat):Int) > 127:=by omega
    obtain ⟨k',rfl⟩:∃ k',k=k'+1:=⟨k - 1,by
     rcases k with _ | k
     ·simp at h1; omega
     ·omega⟩
    have b1:((B.length+1:Nat):Int) * 1≤70368744177664:=by omega
    have b2:((B.length+1:Nat):Int)≤70368744177664:=by omega
    have b3:((B.length:Nat):Int)+1≤70368744177664:=by omega
    have eo:=or_ok c
    have ed:Int.fdiv ((c:Nat):Int) 128=((c / 128:Nat):Int):=by
     rw [Int.fdiv_eq_ediv_of_nonneg _ (by omega)]; rfl
    refine ⟨(((c / 128:Nat):Int),B++[((128+c % 128:Nat):Int)]),?_,⟨k',by simp only; omega,?_,by simp only [List.length_append,List.length_singleton]; omega⟩,by simp only [Int.toNat_natCast]; omega,?_⟩
    ·simp -implicitDefEqProofs only [p,eo,ed,Int.mul_one,b1,b2,b3,app_eq,List.length_append,eq_self,xs]
    ·simp only [Int.toNat_natCast]
     rw [Nat.div_lt_iff_lt_mul (by omega)]
     rw [Nat.pow_succ] at h1; exact h1
    ·simp only [Int.toNat_natCast]
     rw [loZ_big hc,hiZ_big hc,List.append_assoc]; rfl
  ·simp only [Int.toNat_natCast]
   have hn:(hiZ n).length≤9:=hiZ_len 9 n (by
    have:(128:Nat) ^ 10=1180591620717411303424:=by decide
    omega)
   have hlo:=loZ_le n
   have ew:IntKind.wrap .u8 ((loZ n:Nat):Int)=((loZ n:Nat):Int):=by rw [w8]; omega
   have hB:(A++hiZ n).length≤10000:=by rw [List.length_append]; omega
   unfold numZ
   rw [← List.append_assoc]
   generalize A++hiZ n=B at *
   have b1:((B.length+1:Nat):Int) * 1≤70368744177664:=by omega
   have b2:((B.length+1:Nat):Int)≤70368744177664:=by omega
   have b3:((B.length:Nat):Int)+1≤70368744177664:=by omega
   simp -implicitDefEqProofs only [ew,Int.mul_one,b1,b2,b3,app_eq,List.length_append,w1 (show i≤9223372036854775806 by omega),eq_self,xs]
theorem numZ_pre:∀ (n m:Nat) (r s:List UInt8),(numZ n).map bI++r=(numZ m).map bI++s→n=m∧r=s:=by
 intro n
 induction n using Nat.strongRecOn with
 | ind n ih =>
  intro m r s h
  by_cases hn:n≤127<;>by_cases hm:m≤127
  ·unfold numZ at h
   rw [hiZ_small hn,hiZ_small hm,loZ_small hn,loZ_small hm] at h
   simp only [List.nil_append,List.map_cons,List.map_nil,List.cons_append,List.cons.injEq] at h
   have:=congrArg UInt8.toNat h.1
   rw [bI_toNat,bI_toNat,Int.toNat_natCast,Int.toNat_natCast] at this
   exact ⟨by omega,h.2⟩
  ·unfold numZ at h
   rw [hiZ_small hn,hiZ_big hm,loZ_small hn] at h
   simp only [List.nil_append,List.map_cons,List.map_nil,List.cons_append,List.cons.injEq] at h
   have:=congrArg UInt8.toNat h.1
   rw [bI_toNat,bI_toNat,Int.toNat_natCast,Int.toNat_natCast] at this
   omega
  ·unfold numZ at h
   rw [hiZ_small hm,hiZ_big hn,loZ_small hm] at h
   simp only [List.nil_append,List.map_cons,List.map_nil,List.cons_append,List.cons.injEq] at h
   have:=congrArg UInt8.toNat h.1
   rw [bI_toNat,bI_toNat,Int.toNat_natCast,Int.toNat_natCast] at this
   omega
  ·have e:∀ c,¬ c≤127→numZ c=((128+c % 128:Nat):Int)::numZ (c / 128):=by
    intro c hc
    unfold numZ
    rw [hiZ_big hc,loZ_big hc]; rfl
   rw [e n hn,e m hm] at h
   simp only [List.map_cons,List.cons_append,List.cons.injEq] at h
   have h1:=congrArg UInt8.toNat h.1
   rw [bI_toNat,bI_toNat,Int.toNat_natCast,Int.toNat_natCast] at h1
   obtain ⟨h2,h3⟩:=ih (n / 128) (by omega) (m / 128) r s h.2
   exact ⟨by omega,h3⟩
theorem numU_pre {x y:Int} {r s:List UInt8} (hx:0≤x) (hy:0≤y) (h:numU x++r=numU y++s):x=y∧r=s:=by
 obtain ⟨a,b⟩:=numZ_pre _ _ _ _ h
 exact ⟨by omega,b⟩
end Go.Proofs.Ytgbcankkfmhcoaa.VL
end
