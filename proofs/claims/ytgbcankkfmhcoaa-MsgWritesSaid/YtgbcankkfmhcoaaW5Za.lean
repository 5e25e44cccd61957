import Derived.Test.YtgbcankkfmhcoaaW5Xr
import Derived.Laws.RangeString
import Derived.Laws.RangeAny
import Derived.Test.YtgbcankkfmhcoaaW5Ya
section
namespace Go.Proofs.Ytgbcankkfmhcoaa.VL
open Go
set_option linter.unusedVariables false
set_option linter.unusedSectionVars false
variable [Val]
theorem wi {x:Int} (h0:-9223372036854775808≤x) (h1:x≤9223372036854775807):IntKind.wrap .i64 x=x:=by rw [IntKind.wrap_i64]; omega
theorem wu {x:Int} (h0:0≤x) (h1:x≤18446744073709551615):IntKind.wrap .u64 x=x:=by
 simp only [IntKind.wrap,IntKind.bits,IntKind.signed]
 have:x % (2 ^ 64:Int)=x:=Int.emod_eq_of_lt h0 (by omega)
 simp only [this,Bool.false_and]
 rfl
theorem app_eq {α:Type} (a b:List α):Append.append a b=a++b:=rfl
theorem joinX_l {α R:Type} (v:α) (k:α→Option R):joinX (some (.inl v)) k=k v:=rfl
theorem loopX_spec {σ ρ:Type} {f:σ→Option (σ ⊕ ρ)} (I:σ→Prop) (m:σ→Nat) (g:σ→ρ)
  (h:∀ s,I s→f s=some (.inr (g s))∨∃ s',f s=some (.inl s')∧I s'∧m s' < m s∧g s'=g s):∀ (s:σ),I s→loopX f s=some (g s):=by
 have key:∀ (n:Nat) (s:σ),m s≤n→I s→loopX f s=some (g s):=by
  intro n
  induction n with
  | zero =>
   intro s hn hs
   rw [loopX_eq]
   rcases h s hs with h1 | ⟨s',h1,h2,h3,h4⟩
   ·rw [h1]
   ·omega
  | succ n ih =>
   intro s hn hs
   rw [loopX_eq]
   rcases h s hs with h1 | ⟨s',h1,h2,h3,h4⟩
   ·rw [h1]
   ·rw [h1]
    simp only
    rw [ih s' (by omega) h2,h4]
 exact fun s hs=>key (m s) s (Nat.le_refl _) hs
theorem loop_all {ρ:Type} {f:Int→Option (Int ⊕ ρ)} {n:Nat} (ok:Nat→Bool) (bad good:ρ) (hend:f (n:Int)=some (.inr good))
  (hstep:∀ i:Nat,i < n→(∀ j,j < i→ok j=true)→f (i:Int)=if ok i=true then some (.inl ((i+1:Nat):Int)) else some (.inr bad)) :
  loopX f (0:Int)=some (if (List.range n).all ok=true then good else bad):=by
 classical
 have key:∀ i:Nat,i≤n→(∀ j,j < i→ok j=true)→loopX f (i:Int)=some (if ∀ j,i≤j→j < n→ok j=true then good else bad):=by
  intro i hi
  generalize hd:n - i=d
  induction d generalizing i with
  | zero =>
   intro ha
   have:i=n:=by omega
   subst this
   rw [loopX_eq,hend,if_pos (fun j h1 h2=>by omega)]
  | succ d ih =>
   intro ha
   rw [loopX_eq,hstep i (by omega) ha]
   by_cases h:ok i=true
   ·rw [if_pos h]
    simp only
    rw [ih (i+1) (by omega) (by omega) (fun j hj=>by
     rcases Nat.lt_or_eq_of_le (Nat.le_of_lt_succ hj) with h1 | h1
     ·exact ha j h1
     ·rw [h1]; exact h)]
    have e:(∀ j,i+1≤j→j < n→ok j=true) ↔ (∀ j,i≤j→j < n→ok j=true):=by
     constructor
     ·intro q j h1 h2
      rcases Nat.lt_or_eq_of_le h1 with h3 | h3
      ·exact q j h3 h2
      ·rw [← h3]; exact h
     ·intro q j h1 h2; exact q j (by omega) h2
    by_cases hq:∀ j,i≤j→j < n→ok j=true
    ·rw [if_pos hq,if_pos (e.2 hq)]
    ·rw [if_neg hq,if_neg (fun q=>hq (e.1 q))]
   ·rw [if_neg h]
    simp only
    rw [if_neg (fun q=>h (q i (Nat.le_refl _) (by omega)))]
 have:=key 0 (Nat.zero_le _) (fun j hj=>by omega)
 have e0:((0:Nat):Int)=0:=rfl
 rw [e0] at this
 rw [this]
 congr 1
 have e:(∀ j,0≤j→j < n→ok j=true) ↔ (List.range n).all ok=true:=by simp [List.all_eq_true]
 by_cases h:(List.range n).all ok=true
 ·rw [if_pos h,if_pos (e.2 h)]
 ·rw [if_neg h,if_neg (fun q=>h (e.1 q))]
theorem xs:(∀ {α:Type} (a b:α),cond true a b=a)∧(∀ {α:Type} (a b:α),cond false a b=b)∧(∀ {α β:Type} (a:α) (f:α→Option β),(some a).bind f=f a)∧(∀ {α β:Type} (a:α) (f:α→β),(some a).map f=some (f a)) ∧
 (∀ {α R:Type} (v:α) (k:α→Option R),joinX (some (.inl v)) k=k v)∧(∀ {α R:Type} (r:R) (k:α→Option R),joinX (some (.inr r)) k=some r)∧(∀ (h:Decidable True),@decide True h=true)∧(∀ (h:Decidable False),@decide False h=false)∧((!true)=false)∧((!false)=true)∧(∀ b:Bool,(b&&true)=b)∧(∀ b:Bool,(true&&b)=b)∧(∀ b:Bool,(b&&b)=b)∧(∀ b:Bool,(false&&b)=false)∧(∀ b:Bool,(b&&false)=false)∧(∀ b:Bool,(true || b)=true)∧(∀ b:Bool,(b || true)=true)∧(∀ b:Bool,(false || b)=b)∧(∀ b:Bool,(b || false)=b)∧(∀ {α:Type} (a b:List α),Append.append a b=a++b)∧(∀ {α:Type} (a b:List α),(a++b).length=a.length+b.length)∧(∀ {α:Type} (a:α) (b:List α),(a::b).length=b.length+1)∧(∀ {α:Type},([]:List α).length=0)∧(∀ n:Nat,0+n=n)∧(∀ n:Nat,n+0=n)∧(∀ n:Nat,((n:Int)).toNat=n)∧(∀ n:Nat,(n≤n)=True)∧(∀ n:Int,(n≤n)=True)∧(∀ {α:Type} (a:List α),a.take a.length=a)∧(∀ {α:Type} (a b:α),(some a).getD b=a)∧(∀ {α:Type} (b:α),(none:Option α).getD b=b)∧(∀ {α:Type} (a b:α),(if True then a else b)=a)∧(∀ {α:Type} (a b:α),(if False then a else b)=b)∧((false=true)=False)∧((true=false)=False):=by
 refine ⟨fun _ _=>rfl,fun _ _=>rfl,fun _ _=>rfl,fun _ _=>rfl,fun _ _=>rfl,fun _ _=>rfl,fun _=>by simp,fun _=>by simp,rfl,rfl,?_,?_,?_,?_,?_,?_,?_,?_,?_,fun _ _=>rfl,fun _ _=>List.length_append,fun _ _=>rfl,rfl,Nat.zero_add,fun _=>rfl,fun _=>rfl,fun _=>eq_true (Nat.le_refl _),fun _=>eq_true (Int.le_refl _),fun _=>List.take_length,fun _ _=>rfl,fun _=>rfl,fun _ _=>by simp,fun _ _=>by simp,by simp,by simp⟩<;>(intro b; cases b<;>rfl)
end Go.Proofs.Ytgbcankkfmhcoaa.VL
end
section
namespace Go.Proofs.Ytgbcankkfmhcoaa.VL
open Go
set_option linter.unusedVariables false
set_option linter.unusedSectionVars false
set_option linter.unusedSimpArgs false
theorem bl_tri:∀ x y:List UInt8,Op.bytesLess x y=true∨x=y∨Op.bytesLess y x=true
 | [],[]=>.inr (.inl rfl)
 | [],_::_=>.inl rfl
 | _::_,[]=>.inr (.inr rfl)
 | a::x,b::y=>by
  simp only [Op.bytesLess,Bool.or_eq_true,decide_eq_true_eq,Bool.and_eq_true,beq_iff_eq,List.cons.injEq]
  rcases Nat.lt_trichotomy a.toNat b.toNat with h | h | h
  ·left; left; rw [UInt8.lt_iff_toNat_lt]; exact h
  ·have h:=UInt8.toNat_inj.1 h
   subst h
   rcases bl_tri x y with h | h | h
   ·exact .inl (.inr ⟨rfl,h⟩)
   ·exact .inr (.inl ⟨rfl,h⟩)
   ·exact .inr (.inr (.inr ⟨rfl,h⟩))
  ·right; right; left; rw [UInt8.lt_iff_toNat_lt]; exact h
theorem toList_loop (s:ByteArray):∀ (n i:Nat) (r:List UInt8),s.size - i=n→i≤s.size→ByteArray.toList.loop s i r=r.reverse++(s.data.toList.drop i):=by
 intro n
 induction n with
 | zero =>
  intro i r h hi
  have:i=s.size:=by omega
  unfold ByteArray.toList.loop
  rw [if_neg (by omega),List.drop_eq_nil_of_le (by rw [Array.length_toList]; show s.size≤i; omega),List.append_nil]
 | succ n ih =>
  intro i r h hi
  unfold ByteArray.toList.loop
  rw [if_pos (by omega),ih (i+1) _ (by omega) (by omega)]
  have hlt:i < s.data.toList.length:=by rw [Array.length_toList]; show i < s.size; omega
  have e:s.get! i=s.data.toList[i]:=by
   show s.data[i]! = _
   rw [getElem!_pos s.data i (by rw [Array.length_toList] at hlt; exact hlt)]
   simp
  rw [List.reverse_cons,List.append_assoc,List.singleton_append,e,List.drop_eq_getElem_cons hlt]
theorem toList_data (s:ByteArray):s.toList=s.data.toList:=by
 have:=toList_loop s (s.size - 0) 0 [] rfl (Nat.zero_le _)
 unfold ByteArray.toList
 rw [this]; simp
theorem toList_inj {a b:ByteArray} (h:a.toList=b.toList):a=b:=by
 rw [toList_data,toList_data] at h
 cases a; cases b
 simp only [ByteArray.mk.injEq]
 exact Array.toList_inj.1 h
theorem toList_len (s:ByteArray):s.toList.length=s.size:=by rw [toList_data,Array.length_toList]; rfl
theorem toList_nil (s:ByteArray):(s.toList==(ByteArray.mk #[]).toList)=decide (s.size=0):=by
 have h0:(ByteArray.mk #[]).toList=[]:=by rw [toList_data]
 rw [h0,Bool.eq_iff_iff,beq_iff_eq,decide_eq_true_iff,← toList_len]
 exact List.length_eq_zero_iff.symm
theorem ba_get {s:ByteArray} {i:Nat} (h:i < s.size):s[(Int.toNat (i:Int))]?=some (s.get! i):=by
 rw [Int.toNat_natCast]
 have e:s.get! i=s[i]'h:=by
  show s.data[i]! = _
  rw [getElem!_pos s.data i h]
  first | done | rfl
 rw [e]
 exact getElem?_pos s i h
variable [Val]
def okB (n:Nat):Bool:=(decide (97≤n)&&decide (n≤122)) || ((decide (48≤n)&&decide (n≤57)) || decide (n=45))
def nmB (s:ByteArray):Bool:=(List.range s.size).all (fun i=>okB (s.get! i).toNat)&&(decide (1≤s.size)&&decide (s.size≤20))
theorem rune_cond (n:Nat) {R:Type} (a b:Option R):(Option.bind (cond (decide ((97:Int)≤(n:Int))) (cond (decide ((n:Int)≤(122:Int))) (some false) (cond (decide ((48:Int)≤(n:Int))) (cond (decide ((n:Int)≤(57:Int))) (some false) (some (!((n:Int)==(45:Int))))) (some (!((n:Int)==(45:Int)))))) (cond (decide ((48:Int)≤(n:Int))) (cond (decide ((n:Int)≤(57:Int))) (some false) (some (!((n:Int)==(45:Int))))) (some (!((n:Int)==(45:Int)))))) (fun (v1:Bool)=>cond v1 a b))=if okB n=true then b else a:=by
 have e45:((n:Int)==(45:Int))=decide (n=45):=by rw [Bool.eq_iff_iff,beq_iff_eq,decide_eq_true_iff]; omega
 have e1:decide ((97:Int)≤(n:Int))=decide (97≤n):=by rw [Bool.eq_iff_iff,decide_eq_true_iff,decide_eq_true_iff]; omega
 have e2:decide ((n:Int)≤(122:Int))=decide (n≤122):=by rw [Bool.eq_iff_iff,decide_eq_true_iff,decide_eq_true_iff]; omega
 have e3:decide ((48:Int)≤(n:Int))=decide (48≤n):=by rw [Bool.eq_iff_iff,decide_eq_true_iff,decide_eq_true_iff]; omega
 have e4:decide ((n:Int)≤(57:Int))=decide (n≤57):=by rw [Bool.eq_iff_iff,decide_eq_true_iff,decide_eq_true_iff]; omega
 rw [e45,e1,e2,e3,e4]
 unfold okB
 cases decide (97≤n)<;>cases decide (n≤122)<;>cases decide (48≤n)<;>cases decide (n≤57)<;>cases decide (n=45)<;>rfl
theorem runes_loop {s:ByteArray} {f:ByteArray×Nat→Option ((ByteArray×Nat) ⊕ (Unit ⊕ Bool))}
  (hend:∀ pos,s.size≤pos→f (s,pos)=some (.inr (.inl ()))) (hstep:∀ pos,pos < s.size→f (s,pos)=if okB (Utf8.decode s pos).1=true then some (.inl (s,pos+(Utf8.decode s pos).2)) else some (.inr (.inr false))) :
  loopX f (s,0)=some (if (List.range s.size).all (fun i=>okB (s.get! i).toNat)=true then .inl () else .inr false):=by
 classical
 have gm:∀ i (h:i < s.size),s.get! i=s[i]'h:=by
  intro i h
  show s.data[i]! = _
  rw [getElem!_pos s.data i h]; rfl
 have:=loopX_spec (f:=f) (fun x=>x.1=s∧∀ j,j < x.2→j < s.size→okB (s.get! j).toNat=true) (fun x=>s.size - x.2) (fun x=>if ∀ j,x.2≤j→j < s.size→okB (s.get! j).toNat=true then .inl () else .inr false) ?_ (s,0) ⟨rfl,fun j hj=>by simp at hj⟩
 ·rw [this]
  have e:(∀ j,0≤j→j < s.size→okB (s.get! j).toNat=true) ↔ (List.range s.size).all (fun i=>okB (s.get! i).toNat)=true:=by simp [List.all_eq_true]
  congr 1
  by_cases h:(List.range s.size).all (fun i=>okB (s.get! i).toNat)=true
  ·rw [if_pos h,if_pos (e.2 h)]
  ·rw [if_neg h,if_neg (fun q=>h (e.1 q))]
 ·rintro ⟨s',pos⟩ ⟨h1,h2⟩
  simp only at h1 h2 ⊢
  subst h1
  by_cases hp:s'.size≤pos
  ·left
   rw [hend pos hp,if_pos (fun j q1 q2=>by omega)]
  ·have hlt:pos < s'.size:=by omega
   rw [hstep pos hlt]
   by_cases ha:(s'[pos]'hlt).toNat < 128
   ·have hd:=decode_ascii s' pos hlt ha
    rw [hd]
    simp only
    rw [← gm pos hlt]
    by_cases hok:okB (s'.get! pos).toNat=true
    ·rw [if_pos hok]
     right
     refine ⟨_,rfl,⟨rfl,fun j hj hj2=>?_⟩,by simp only; omega,?_⟩
     ·rcases Nat.lt_or_eq_of_le (Nat.le_of_lt_succ hj) with q | q
      ·exact h2 j q hj2
      ·rw [q]; exact hok
     ·simp only
      have e:(∀ j,pos+1≤j→j < s'.size→okB (s'.get! j).toNat=true) ↔ (∀ j,pos≤j→j < s'.size→okB (s'.get! j).toNat=true):=by
       constructor
       ·intro q j h1 h2
        rcases Nat.lt_or_eq_of_le h1 with h3 | h3
        ·exact q j h3 h2
        ·rw [← h3]; exact hok
       ·intro q j h1 h2; exact q j (by omega) h2
      by_cases hq:∀ j,pos≤j→j < s'.size→okB (s'.get! j).toNat=true
      ·rw [if_pos hq,if_pos (e.2 hq)]
      ·rw [if_neg hq,if_neg (fun q=>hq (e.1 q))]
    ·rw [if_neg hok]
     left
     rw [if_neg (fun q=>hok (q pos (Nat.le_refl _) hlt))]
   ·have hd:=decode_high s' pos hlt (by omega)
    have hbad:∀ n,128≤n→okB n=false:=by
     intro n hn
     unfold okB
     have a1:decide (n≤122)=false:=by rw [decide_eq_false_iff_not]; omega
     have a2:decide (n≤57)=false:=by rw [decide_eq_false_iff_not]; omega
     have a3:decide (n=45)=false:=by rw [decide_eq_false_iff_not]; omega
     rw [a1,a2,a3]
     cases decide (97≤n)<;>cases decide (48≤n)<;>rfl
    rw [hbad _ hd.1]
    left
    rw [if_neg (by simp),if_neg]
    intro q
    have:=q pos (Nat.le_refl _) hlt
    rw [gm pos hlt,hbad _ (by omega)] at this
    cases this
theorem octets_loop {s:ByteArray} {ρ:Type} {good bad:ρ} {f:Int→Option (Int ⊕ ρ)} (hend:f (s.size:Int)=some (.inr good))
  (hstep:∀ i:Nat,i < s.size→f (i:Int)=if okB (s.get! i).toNat=true then some (.inl ((i+1:Nat):Int)) else some (.inr bad)) :
  loopX f 0=some (if (List.range s.size).all (fun i=>okB (s.get! i).toNat)=true then good else bad) :=
 loop_all _ _ _ hend (fun i hi _=>hstep i hi)
end Go.Proofs.Ytgbcankkfmhcoaa.VL
end
section
namespace Go.Proofs.Ytgbcankkfmhcoaa.VL
open Go
set_option linter.unusedVariables false
set_option linter.unusedSectionVars false
set_option linter.unusedSimpArgs false
structure KOrd (κ:Type) where
 lt:κ→κ→Bool
 irr:∀ a,lt a a=false
 trn:∀ a b c,lt a b=true→lt b c=true→lt a c=true
 tri:∀ a b,lt a b=true∨a=b∨lt b a=true
namespace KOrd
variable {κ α:Type} (O:KOrd κ) (key:α→κ)
def Srt (l:List α):Prop:=l.Pairwise (fun a b=>O.lt (key a) (key b)=true)
def plc (l:List α) (k:κ):Nat:=l.countP (fun x=>O.lt (key x) k)
def put (l:List α) (x:α):List α:=l.filter (fun y=>O.lt (key y) (key x))++x::l.filter (fun y=>O.lt (key x) (key y))
variable {O key}
theorem Srt.tail {a:α} {l:List α} (h:O.Srt key (a::l)):O.Srt key l:=(List.pairwise_cons.1 h).2
theorem Srt.head {a:α} {l:List α} (h:O.Srt key (a::l)):∀ b ∈ l,O.lt (key a) (key b)=true:=(List.pairwise_cons.1 h).1
theorem split {l:List α} (hs:O.Srt key l) (k:κ):l.take (O.plc key l k)=l.filter (fun y=>O.lt (key y) k)∧l.drop (O.plc key l k)=l.filter (fun y=>!O.lt (key y) k):=by
 induction l with
 | nil=>exact ⟨rfl,rfl⟩
 | cons a l ih =>
  obtain ⟨i1,i2⟩:=ih hs.tail
  cases h:O.lt (key a) k with
  | true =>
   have e:O.plc key (a::l) k=O.plc key l k+1:=by unfold plc; simp [List.countP_cons,h]
   rw [e,List.take_succ_cons,List.drop_succ_cons,i1,i2]
   constructor<;>simp [h]
  | false =>
   have hall:∀ b ∈ l,O.lt (key b) k=false:=by
    intro b hb
    rw [Bool.eq_false_iff]; intro hk
    have:=O.trn _ _ _ (hs.head b hb) hk
    rw [h] at this; cases this
   have e:O.plc key (a::l) k=0:=by
    unfold plc
    simp only [List.countP_cons,h,Bool.false_eq_true,if_false,Nat.add_zero,List.countP_eq_zero]
    intro b hb; rw [hall b hb]; decide
   have f1:(a::l).filter (fun y=>O.lt (key y) k)=l.filter (fun y=>O.lt (key y) k):=by simp [h]
   have f2:(a::l).filter (fun y=>!O.lt (key y) k)=a::l.filter (fun y=>!O.lt (key y) k):=by simp [h]
   rw [e,List.take_zero,List.drop_zero,f1,f2]
   refine ⟨?_,?_⟩
   ·symm; rw [List.filter_eq_nil_iff]; intro b hb; rw [hall b hb]; decide
   ·rw [List.filter_eq_self.2]; intro b hb; rw [hall b hb]; rfl
end KOrd
end Go.Proofs.Ytgbcankkfmhcoaa.VL
end
section
namespace Go.Proofs.Ytgbcankkfmhcoaa.VL
open Go
set_option linter.unusedVariables false
set_option linter.unusedSectionVars false
set_option linter.unusedSimpArgs false
def ltN (a b:ByteArray):Bool:=Op.bytesLess a.toList b.toList
theorem tri (a b:ByteArray):ltN a b=true∨a=b∨ltN b a=true:=by
 rcases bl_tri a.toList b.toList with h | h | h
 ·exact .inl h
 ·exact .inr (.inl (toList_inj h))
 ·exact .inr (.inr h)
variable [Val]
theorem not_lt_self (n:Nat):¬ ((n:Nat):Int) < ((n:Nat):Int):=by omega
theorem w1 {i:Nat} (h:i≤9223372036854775806):IntKind.wrap .i64 ((i:Int)+1)=((i+1:Nat):Int):=by rw [wi (by omega) (by omega)]; omega
theorem dlt (a b:Int):decide (a < b)=!decide (b≤a):=by rw [Bool.eq_iff_iff,Bool.not_eq_true',decide_eq_true_iff,decide_eq_false_iff_not]; omega
theorem dgt (a b:Int):decide (a > b)=!decide (a≤b):=by rw [Bool.eq_iff_iff,Bool.not_eq_true',decide_eq_true_iff,decide_eq_false_iff_not]; omega
theorem nz0:((0:Int) != 0)=false:=rfl
theorem nz1:((1:Int) != 0)=true:=rfl
theorem eqq (b:Bool):((if b=true then (0:Int) else 1)==0)=b:=by cases b<;>rfl
theorem neq1 (b:Bool):((if b=true then (0:Int) else 1) != 0)=!b:=by cases b<;>rfl
theorem loop_detE {σ ρ:Type} {f:σ→Option (σ ⊕ ρ)} {s0:σ} (n:Nat) (st:Nat→σ) (r:ρ) (h0:s0=st 0) (hend:f (st n)=some (.inr r)) (hstep:∀ i,i < n→f (st i)=some (.inl (st (i+1)))):loopX f s0=some r:=by
 have key:∀ d i,n - i=d→i≤n→loopX f (st i)=some r:=by
  intro d
  induction d with
  | zero =>
   intro i h1 h2
   have:i=n:=by omega
   subst this; rw [loopX_eq,hend]
  | succ d ih=>intro i h1 h2; rw [loopX_eq,hstep i (by omega)]; exact ih (i+1) (by omega) (by omega)
 rw [h0]; exact key n 0 (by omega) (Nat.zero_le _)
theorem loop_list {α ρ:Type} {f:Int→Option (Int ⊕ ρ)} {s0:Int} (l:List α) (ok:α→Bool) (bad good:ρ) (h0:s0=0) (hend:f (l.length:Int)=some (.inr good))
  (hstep:∀ (i:Nat) (x:α),i < l.length→l[i]?=some x→f (i:Int)=if ok x=true then some (.inl ((i+1:Nat):Int)) else some (.inr bad)) :
  loopX f s0=some (if l.all ok=true then good else bad):=by
 subst h0
 rw [loop_all (n:=l.length) (fun i=>match l[i]? with | some x=>ok x | none=>true) bad good hend ?_]
 ·congr 2
  rw [eq_iff_iff,List.all_eq_true,List.all_eq_true]
  constructor
  ·intro h x hx
   obtain ⟨i,hi,rfl⟩:=List.getElem_of_mem hx
   have:=h i (List.mem_range.2 hi)
   rw [List.getElem?_eq_getElem hi] at this; exact this
  ·intro h i hi
   have hi:=List.mem_range.1 hi
   rw [List.getElem?_eq_getElem hi]; exact h _ (List.getElem_mem hi)
 ·intro i hi _
  rw [hstep i l[i] hi (List.getElem?_eq_getElem hi),List.getElem?_eq_getElem hi]
theorem loop_first {α ρ:Type} {f:Int→Option (Int ⊕ ρ)} {s0:Int} (l:List α) (p:α→Bool) (g:Nat→ρ) (no:ρ) (h0:s0=0) (hend:f (l.length:Int)=some (.inr no))
  (hstep:∀ (i:Nat) (x:α),i < l.length→l[i]?=some x→f (i:Int)=if p x=true then some (.inr (g i)) else some (.inl ((i+1:Nat):Int))) :
  loopX f s0=some (if l.any p=true then g (l.findIdx p) else no):=by
 subst h0
 have key:∀ d i,l.length - i=d→i≤l.length→(∀ j x,j < i→l[j]?=some x→p x=false)→loopX f (i:Int)=some (if l.any p=true then g (l.findIdx p) else no):=by
  intro d
  induction d with
  | zero =>
   intro i h1 h2 h3
   have:i=l.length:=by omega
   subst this
   rw [loopX_eq,hend,if_neg]
   rw [Bool.not_eq_true,List.any_eq_false]
   intro x hx
   obtain ⟨j,hj,rfl⟩:=List.getElem_of_mem hx
   rw [h3 j _ hj (List.getElem?_eq_getElem hj)]; decide
  | succ d ih =>
   intro i h1 h2 h3
   have hi:i < l.length:=by omega
   rw [loopX_eq,hstep i l[i] hi (List.getElem?_eq_getElem hi)]
   by_cases hp:p l[i]=true
   ·rw [if_pos hp]
    have ha:l.any p=true:=List.any_eq_true.2 ⟨_,List.getElem_mem hi,hp⟩
    have hf:l.findIdx p=i:=by
     refine (List.findIdx_eq hi).2 ⟨hp,fun j hj=>?_⟩
     exact h3 j _ hj (List.getElem?_eq_getElem (by omega))
    rw [if_pos ha,hf]
   ·rw [if_neg hp]
    simp only
    refine ih (i+1) (by omega) (by omega) fun j x hj hx=>?_
    rcases Nat.lt_or_eq_of_le (Nat.le_of_lt_succ hj) with q | q
    ·exact h3 j x q hx
    ·subst q
     rw [List.getElem?_eq_getElem hi] at hx
     cases hx
     exact Bool.eq_false_iff.2 hp
 exact key l.length 0 (by omega) (Nat.zero_le _) fun j x hj=>by omega
theorem loop_same {α:Type} [DecidableEq α] {f:Int→Option (Int ⊕ Bool)} {s0:Int} (a b:List α) (hl:a.length=b.length) (h0:s0=0) (hend:f (a.length:Int)=some (.inr true))
  (hstep:∀ (i:Nat) (x y:α),i < a.length→a[i]?=some x→b[i]?=some y→f (i:Int)=if x=y then some (.inl ((i+1:Nat):Int)) else some (.inr false)) :
  loopX f s0=some (decide (a=b)):=by
 have:=loop_list (f:=f) (s0:=s0) (a.zip b) (fun p=>decide (p.1=p.2)) false true h0 (by rw [List.length_zip,← hl,Nat.min_self]; exact hend) (fun i p hi hp=>by
  have hi:i < a.length:=by rw [List.length_zip,← hl,Nat.min_self] at hi; exact hi
  rw [List.getElem?_zip_eq_some] at hp
  rw [hstep i p.1 p.2 hi hp.1 hp.2]
  by_cases he:p.1=p.2<;>simp [he])
 rw [this]
 congr 1
 rw [Bool.eq_iff_iff,decide_eq_true_iff]
 have e:((a.zip b).all fun p=>decide (p.1=p.2))=true ↔ a=b:=by
  rw [List.all_eq_true]
  constructor
  ·intro h
   refine List.ext_getElem hl fun i h1 h2=>?_
   have:=h (a[i],b[i]) (by rw [List.mem_iff_getElem?]; exact ⟨i,by rw [List.getElem?_zip_eq_some]; exact ⟨List.getElem?_eq_getElem h1,List.getElem?_eq_getElem h2⟩⟩)
   simpa using this
  ·rintro rfl p hp
   rw [List.mem_iff_getElem?] at hp
   obtain ⟨i,hi⟩:=hp
   rw [List.getElem?_zip_eq_some] at hi
   have:=hi.1.symm.trans hi.2
   simpa using this
 by_cases h:((a.zip b).all fun p=>decide (p.1=p.2))=true
 ·rw [if_pos h]; simp [e.1 h]
 ·rw [if_neg h]; simp; exact fun q=>h (e.2 q)
end Go.Proofs.Ytgbcankkfmhcoaa.VL
end
section
namespace Go.Proofs.Ytgbcankkfmhcoaa.VL
open Go
set_option linter.unusedVariables false
set_option linter.unusedSectionVars false
set_option linter.unusedSimpArgs false
set_option maxRecDepth 100000
variable [Val]
def rnd1 (c:Int):Int:=IntKind.wrap .u32 ((((BitVec.ofInt 32 (Int.fdiv c 2)).xor (BitVec.ofInt 32 (IntKind.wrap .u32 (3988292384 * (IntKind.wrap .u32 (((BitVec.ofInt 32 c).and (BitVec.ofInt 32 1)).toNat:Nat)))))).toNat:Nat))
def rnds:Nat→Int→Int
 | 0,c=>c
 | k+1,c=>rnd1 (rnds k c)
def tv (i:Nat):Int:=rnds 8 (IntKind.wrap .u32 ((i:Nat):Int))
def crcT:List Int:=(List.range 256).map tv
theorem crcT_len:crcT.length=256:=by unfold crcT; rw [List.length_map,List.length_range]
theorem F90_ok:F90 ()=some crcT:=by
 rw [F90_eq]
 rw [loop_detE (s0:=((0:Int),List.replicate 256 (0:Int))) 256 (fun i=>(((i:Nat):Int),(List.range i).map tv++List.replicate (256 - i) (0:Int))) crcT rfl]
 ·have q:¬ ((256:Nat):Int) < 256:=by omega
  have e:(List.range 256).map tv++List.replicate (256 - 256) (0:Int)=crcT:=by rw [Nat.sub_self,List.replicate_zero,List.append_nil]; rfl
  simp only [e]
  simp -implicitDefEqProofs only [q,crcT_len,eq_self,xs]
 ·intro i hi
  have q:((i:Nat):Int) < 256:=by omega
  have q0:(0:Int)≤((i:Nat):Int):=by omega
  have hl:((List.range i).map tv++List.replicate (256 - i) (0:Int)).length=256:=by rw [List.length_append,List.length_map,List.length_range,List.length_replicate]; omega
  have hset:((List.range i).map tv++List.replicate (256 - i) (0:Int)).set i (tv i)=(List.range (i+1)).map tv++List.replicate (256 - (i+1)) (0:Int):=by
   rw [List.set_append_right _ _ (by rw [List.length_map,List.length_range]; exact Nat.le_refl _),List.length_map,List.length_range,Nat.sub_self]
   rw [show 256 - i=(256 - (i+1))+1 by omega,List.replicate_succ,List.set_cons_zero,List.range_succ,List.map_append,List.append_assoc]
   rfl
  generalize (List.range i).map tv++List.replicate (256 - i) (0:Int)=A at *
  simp -implicitDefEqProofs only [q,eq_self,xs]
  rw [loop_detE (s0:=(IntKind.wrap .u32 ((i:Nat):Int),(0:Int))) 8 (fun k=>(rnds k (IntKind.wrap .u32 ((i:Nat):Int)),((k:Nat):Int))) (tv i) rfl]
  ·have r1:0+i * 1 < A.length:=by omega
   have r2:1 < A.length:=by omega
   have r3:0+i * 1=i:=by omega
   have r4:i < A.length:=by omega
   simp -implicitDefEqProofs only [q,q0,Nat.mul_one,r1,r2,r3,r4,hset,w1 (show i≤9223372036854775806 by omega),eq_self,xs]
  ·have q8:¬ ((8:Nat):Int) < 8:=by omega
   simp -implicitDefEqProofs only [q8,eq_self,xs]
   rfl
  ·intro k hk
   have q8:((k:Nat):Int) < 8:=by omega
   simp -implicitDefEqProofs only [q8,w1 (show k≤9223372036854775806 by omega),eq_self,xs]
   rfl
def idxC (c:Int) (b:UInt8):Int:=IntKind.wrap .u8 ((((BitVec.ofInt 8 (IntKind.wrap .u8 c)).xor (BitVec.ofInt 8 ((b.toNat:Nat):Int))).toNat:Nat))
theorem idxC_range (c:Int) (b:UInt8):0≤idxC c b∧idxC c b < 256:=by
 unfold idxC
 rw [IntKind.wrap_u8]; omega
def stepC (c:Int) (b:UInt8):Int:=IntKind.wrap .u32 ((((BitVec.ofInt 32 (Int.fdiv c 256)).xor (BitVec.ofInt 32 (tv (idxC c b).toNat))).toNat:Nat))
def crcL (l:List UInt8):Int:=l.foldl stepC 4294967295
def crc (l:List UInt8):Int:=IntKind.wrap .u32 ((((BitVec.ofInt 32 4294967295).xor (BitVec.ofInt 32 (crcL l))).toNat:Nat))
theorem F82_ok {s:ByteArray} (hs:s.size≤9223372036854775806):F82 s=some (crc s.toList):=by
 rw [F82_eq]
 have hl:=toList_len s
 have f90:=F90_ok
 have rl:(List.replicate 256 (0:Int)).length=256:=List.length_replicate
 simp -implicitDefEqProofs only [f90,rl,crcT_len,eq_self,xs]
 rw [loop_detE (s0:=((4294967295:Int),(0:Int))) s.size (fun i=>((s.toList.take i).foldl stepC 4294967295,((i:Nat):Int))) (crc s.toList) rfl]
 ·have q:¬ ((s.size:Nat):Int) < ((s.size:Nat):Int):=by omega
  simp -implicitDefEqProofs only [q,eq_self,xs]
  rw [List.take_of_length_le (by omega)]
  rfl
 ·intro i hi
  have q1:((i:Nat):Int) < ((s.size:Nat):Int):=by omega
  have q2:(0:Int)≤(i:Int):=by omega
  have g:s[i]?=some (s.toList[i]'(by omega)):=by
   have:=ba_get hi
   rw [Int.toNat_natCast] at this
   rw [this]
   congr 1
   have h1:i < s.data.size:=hi
   have h2:s.get! i=s.data[i]:=by
    show s.data[i]! = _
    rw [getElem!_pos s.data i h1]
   rw [h2]
   have h3:∀ (l:List UInt8) (e:l=s.data.toList) (hi:i < l.length),s.data[i]=l[i]:=by
    intro l e hi; subst e; simp
   exact h3 _ (toList_data s) _
  have e:(s.toList.take (i+1)).foldl stepC 4294967295=stepC ((s.toList.take i).foldl stepC 4294967295) (s.toList[i]'(by omega)):=by
   rw [List.take_succ_eq_append_getElem (by omega),List.foldl_append]; rfl
  rw [e]
  generalize (s.toList.take i).foldl stepC 4294967295=c at *
  generalize (s.toList[i]'(by omega))=b at *
  have hr:=idxC_range c b
  have hr1:0≤IntKind.wrap .u8 ((((BitVec.ofInt 8 (IntKind.wrap .u8 c)).xor (BitVec.ofInt 8 ((b.toNat:Nat):Int))).toNat:Nat)):=hr.1
  have hr2:IntKind.wrap .u8 ((((BitVec.ofInt 8 (IntKind.wrap .u8 c)).xor (BitVec.ofInt 8 ((b.toNat:Nat):Int))).toNat:Nat)) < 256:=hr.2
  have gt:crcT[(IntKind.wrap .u8 ((((BitVec.ofInt 8 (IntKind.wrap .u8 c)).xor (BitVec.ofInt 8 ((b.toNat:Nat):Int))).toNat:Nat))).toNat]?=some (tv (idxC c b).toNat):=by
   show crcT[(idxC c b).toNat]?=_
   unfold crcT
   rw [List.getElem?_map,List.getElem?_range (by omega)]; rfl
  simp -implicitDefEqProofs only [q1,q2,g,hr1,hr2,Nat.mul_one,gt,w1 (show i≤9223372036854775806 by omega),eq_self,xs]
  rfl
end Go.Proofs.Ytgbcankkfmhcoaa.VL
end
section
namespace Go.Proofs.Ytgbcankkfmhcoaa.VL
open Go
set_option maxRecDepth 100000
set_option linter.unusedVariables false
set_option linter.unusedSectionVars false
variable [Val]
noncomputable section
abbrev tzb1:TT:=(.p (.i .i64) (.p (.i .i64) (.p (.i .i64) (.p (.i .u64) (.p (.i .i64) (.p (.i .u64) (.p (.i .i64) (.p (.sl (.p (.i .i64) (.p (.i .u64) (.i .i64)))) (.p (.sl (.p (.i .u64) (.i .i64))) (.p (.i .u64) (.p (.i .u64) (.p (.i .i64) (.p .s (.p (.i .u64) .b))))))))))))))
abbrev tzb2:TT:=(.p .s (.p (.i .i64) .b))
abbrev fzb1:Fm:=(.co (.v (.i .i64)) (.co (.v (.i .i64)) (.co (.v (.i .i64)) (.co (.v (.i .u64)) (.co (.v (.i .i64)) (.co (.v (.i .u64)) (.co (.v (.i .i64)) (.co (.ow 42 3) (.co (.ow 43 2) (.co (.v (.i .u64)) (.co (.v (.i .u64)) (.co (.v (.i .i64)) (.co (.v .s) (.co (.v (.i .u64)) (.co (.v .b) .no)))))))))))))))
def xf9:FX:=⟨(.seq (.reg [(xi 1 (.box 0 15 (.t 0))),⟨⟨(some 2),(.alloc 1 (.agg [(.v (.int .i64 0)),(.v (.int .i64 0)),(.v (.int .i64 0)),(.v (.int .u64 0)),(.v (.int .i64 0)),(.v (.int .u64 0)),(.v (.int .i64 0)),(.sl true []),(.sl true []),(.v (.int .u64 0)),(.v (.int .u64 0)),(.v (.int .i64 0)),(.v (.string ⟨#[]⟩)),(.v (.int .u64 0)),(.v (.bool false))])),none⟩,.b,[],[]⟩]) (.seq (.cutN ⟨[3,4,5,6,7,8,9,10],[0],⟨[],[],[⟨0,.row (.v tzb1),true⟩]⟩⟩ (.seq (.reg [(xi 3 (.fad 7 (.t 1))),(xi 4 (.load false 1 (.t 3))),(xi 5 (.len (.t 4))),(xi 6 (.bin .gtr (.t 5) (.c (.v (.int .i64 9)))))]) (.cond (.t 6) (.reg [(xi 7 (.fad 7 (.t 1))),(xi 8 (.load false 1 (.t 7))),(xi 9 (.slc 3 (.t 8) none (some (.c (.v (.int .i64 9)))) none)),(xi 10 (.fad 7 (.t 1))),(xz (.store 1 (.t 10) (.t 9)))]) .skip))) (.seq (.cutN ⟨[11,12,13,14,15,16,17,18],[0],⟨[],[],[⟨0,.row (.v tzb1),true⟩]⟩⟩ (.seq (.reg [(xi 11 (.fad 8 (.t 1))),(xi 12 (.load false 1 (.t 11))),(xi 13 (.len (.t 12))),(xi 14 (.bin .gtr (.t 13) (.c (.v (.int .i64 65)))))]) (.cond (.t 14) (.reg [(xi 15 (.fad 8 (.t 1))),(xi 16 (.load false 1 (.t 15))),(xi 17 (.slc 2 (.t 16) none (some (.c (.v (.int .i64 65)))) none)),(xi 18 (.fad 8 (.t 1))),(xz (.store 1 (.t 18) (.t 17)))]) .skip))) (.seq (.seq (.reg [(xi 19 (.fad 12 (.t 1))),(xi 20 (.load false 1 (.t 19))),(xi 21 (.lenS (.t 20))),(xi 22 (.bin .gtr (.t 21) (.c (.v (.int .i64 21)))))]) (.cond (.t 22) (.reg [(xi 23 (.fad 12 (.t 1))),(xi 24 (.load false 1 (.t 23))),(xi 25 (.slS (.t 24) none (some (.c (.v (.int .i64 21)))))),(xi 26 (.fad 12 (.t 1))),(xz (.store 1 (.t 26) (.t 25)))]) .skip)) (.seq (.reg [(xi 27 (.load true 15 (.t 1))),(xz (.store 15 (.t 2) (.t 27)))]) .ret))))),[1,2],28,[.c 2 28 true 15],3⟩
theorem xf9_ok:xf9.ok Try.prog 9:=⟨_,_,Try.func9,rfl,by kernel_rfl,rfl,by kernel_rfl,rfl,by kernel_rfl,by kernel_rfl⟩
def tb9:List PE:=[]
theorem tb9_ok:PEsOk Try.prog tb9:=trivial
def ex9:List EX:=[]
theorem ex9_ok:EXsOk Try.prog ex9:=trivial
def in9:List IN:=[]
theorem in9_ok:INsOk Try.prog in9:=trivial
def F9:DT ((.co (.v tzb1) .no):Fm).den→Option (DT (.v tzb1:Fm).den):=pureT tb9 ex9 in9 0 xf9 _ _ []
def pe9:PE:=⟨9,(.co (.v tzb1) .no),.v tzb1,F9⟩
theorem pe9_ok:pe9.ok Try.prog:=pe_of hm tb9_ok ex9_ok in9_ok xf9_ok (by kernel_rfl) (fun _=>rfl)
def xf32:FX:=⟨(.seq (.reg [(xi 4 (.mov (.c (.v (.bool false)))))]) (.seq (.seq (.reg [(xm 6 0),(xi 7 (.len (.t 6))),(xm 8 1),(xi 9 (.len (.t 8))),(xi 10 (.bin .neq (.t 7) (.t 9)))]) (.cond (.t 10) (.seq (.reg [(xi 4 (.mov (.c (.v (.bool false)))))]) .ret) .skip)) (.seq (.seq (.reg [(xm 11 0),(xi 12 (.len (.t 11))),(xi 13 (.mov (.c (.v (.int .i64 0)))))]) (.blk 0 (.loop ⟨[4,5,13,14,15,16,17,18,19,20,21,22,23,24,25],[],⟨[],[(13,.v (.i .i64))],[]⟩⟩ (.seq (.reg [(xi 14 (.bin .lss (.t 13) (.t 12)))]) (.seq (.cond (.t 14) .skip (.exit 0)) (.seq (.blk 1 (.seq (.reg [(xm 15 13),(xm 5 15)]) (.seq (.rdr [(xm 16 0),(xm 17 5),(xi 18 (.iad 3 (.t 16) (.t 17))),(xi 19 (.load true 3 (.t 18))),(xm 20 1),(xm 21 5),(xi 22 (.iad 3 (.t 20) (.t 21))),(xi 23 (.load true 3 (.t 22))),(xi 24 (.eqA true 3 [(0,.i),(1,.i),(2,.i)] (.t 19) (.t 23)))]) (.cond (.t 24) (.seq (.reg [(xi 4 (.mov (.c (.v (.bool false)))))]) .ret) .skip)))) (.reg [(xi 25 (.bin .add (.t 13) (.c (.v (.int .i64 1))))),(xm 13 25)]))))))) (.seq (.reg [(xi 4 (.mov (.c (.v (.bool true)))))]) .ret)))),[],26,[.t 4],1⟩
theorem xf32_ok:xf32.ok Try.prog 32:=⟨_,_,Try.func32,rfl,by kernel_rfl,rfl,by kernel_rfl,rfl,by kernel_rfl,by kernel_rfl⟩
def tb32:List PE:=[]
theorem tb32_ok:PEsOk Try.prog tb32:=trivial
def ex32:List EX:=[]
theorem ex32_ok:EXsOk Try.prog ex32:=trivial
def in32:List IN:=[]
theorem in32_ok:INsOk Try.prog in32:=trivial
def F32:DT ((.co (.v (.sl (.p (.i .i64) (.p (.i .u64) (.i .i64))))) (.co (.v (.sl (.p (.i .i64) (.p (.i .u64) (.i .i64))))) .no)):Fm).den→Option (DT (.v .b:Fm).den):=pureT tb32 ex32 in32 0 xf32 _ _ []
def pe32:PE:=⟨32,(.co (.v (.sl (.p (.i .i64) (.p (.i .u64) (.i .i64))))) (.co (.v (.sl (.p (.i .i64) (.p (.i .u64) (.i .i64))))) .no)),.v .b,F32⟩
theorem pe32_ok:pe32.ok Try.prog:=pe_of hm tb32_ok ex32_ok in32_ok xf32_ok (by kernel_rfl) (fun _=>rfl)
def xf33:FX:=⟨(.seq (.reg [(xi 4 (.mov (.c (.v (.bool false)))))]) (.seq (.seq (.reg [(xm 6 0),(xi 7 (.len (.t 6))),(xm 8 1),(xi 9 (.len (.t 8))),(xi 10 (.bin .neq (.t 7) (.t 9)))]) (.cond (.t 10) (.seq (.reg [(xi 4 (.mov (.c (.v (.bool false)))))]) .ret) .skip)) (.seq (.seq (.reg [(xm 11 0),(xi 12 (.len (.t 11))),(xi 13 (.mov (.c (.v (.int .i64 0)))))]) (.blk 0 (.loop ⟨[4,5,13,14,15,16,17,18,19,20,21,22,23,24,25],[],⟨[],[(13,.v (.i .i64))],[]⟩⟩ (.seq (.reg [(xi 14 (.bin .lss (.t 13) (.t 12)))]) (.seq (.cond (.t 14) .skip (.exit 0)) (.seq (.blk 1 (.seq (.reg [(xm 15 13),(xm 5 15)]) (.seq (.rdr [(xm 16 0),(xm 17 5),(xi 18 (.iad 2 (.t 16) (.t 17))),(xi 19 (.load true 2 (.t 18))),(xm 20 1),(xm 21 5),(xi 22 (.iad 2 (.t 20) (.t 21))),(xi 23 (.load true 2 (.t 22))),(xi 24 (.eqA true 2 [(0,.i),(1,.i)] (.t 19) (.t 23)))]) (.cond (.t 24) (.seq (.reg [(xi 4 (.mov (.c (.v (.bool false)))))]) .ret) .skip)))) (.reg [(xi 25 (.bin .add (.t 13) (.c (.v (.int .i64 1))))),(xm 13 25)]))))))) (.seq (.reg [(xi 4 (.mov (.c (.v (.bool true)))))]) .ret)))),[],26,[.t 4],1⟩
theorem xf33_ok:xf33.ok Try.prog 33:=⟨_,_,Try.func33,rfl,by kernel_rfl,rfl,by kernel_rfl,rfl,by kernel_rfl,by kernel_rfl⟩
def tb33:List PE:=[]
theorem tb33_ok:PEsOk Try.prog tb33:=trivial
def ex33:List EX:=[]
theorem ex33_ok:EXsOk Try.prog ex33:=trivial
def in33:List IN:=[]
theorem in33_ok:INsOk Try.prog in33:=trivial
def F33:DT ((.co (.v (.sl (.p (.i .u64) (.i .i64)))) (.co (.v (.sl (.p (.i .u64) (.i .i64)))) .no)):Fm).den→Option (DT (.v .b:Fm).den):=pureT tb33 ex33 in33 0 xf33 _ _ []
def pe33:PE:=⟨33,(.co (.v (.sl (.p (.i .u64) (.i .i64)))) (.co (.v (.sl (.p (.i .u64) (.i .i64)))) .no)),.v .b,F33⟩
theorem pe33_ok:pe33.ok Try.prog:=pe_of hm tb33_ok ex33_ok in33_ok xf33_ok (by kernel_rfl) (fun _=>rfl)
def xf13:FX:=⟨(.seq (.reg [(xi 2 (.box 0 15 (.t 0))),(xi 3 (.box 1 15 (.t 1))),(xi 4 (.mov (.c (.v (.bool false)))))]) (.seq (.reg [(xi 5 (.fad 0 (.t 2))),(xi 6 (.load false 1 (.t 5))),(xi 7 (.fad 0 (.t 3))),(xi 8 (.load false 1 (.t 7))),(xi 9 (.bin .eql (.t 6) (.t 8))),(xm 10 9),(xg 11 (.fad 1 (.t 2)) 10 true),(xg 12 (.load false 1 (.t 11)) 10 true),(xg 13 (.fad 1 (.t 3)) 10 true),(xg 14 (.load false 1 (.t 13)) 10 true),(xg 15 (.bin .eql (.t 12) (.t 14)) 10 true),(xi 16 (.pick (.t 10) (.t 15) (.c (.v (.bool false))))),(xm 17 16),(xg 18 (.fad 2 (.t 2)) 17 true),(xg 19 (.load false 1 (.t 18)) 17 true),(xg 20 (.fad 2 (.t 3)) 17 true),(xg 21 (.load false 1 (.t 20)) 17 true),(xg 22 (.bin .eql (.t 19) (.t 21)) 17 true),(xi 23 (.pick (.t 17) (.t 22) (.c (.v (.bool false))))),(xm 24 23),(xg 25 (.fad 3 (.t 2)) 24 true),(xg 26 (.load false 1 (.t 25)) 24 true),(xg 27 (.fad 3 (.t 3)) 24 true),(xg 28 (.load false 1 (.t 27)) 24 true),(xg 29 (.bin .eql (.t 26) (.t 28)) 24 true),(xi 30 (.pick (.t 24) (.t 29) (.c (.v (.bool false))))),(xm 31 30),(xg 32 (.fad 4 (.t 2)) 31 true),(xg 33 (.load false 1 (.t 32)) 31 true),(xg 34 (.fad 4 (.t 3)) 31 true),(xg 35 (.load false 1 (.t 34)) 31 true),(xg 36 (.bin .eql (.t 33) (.t 35)) 31 true),(xi 37 (.pick (.t 31) (.t 36) (.c (.v (.bool false))))),(xm 38 37),(xg 39 (.fad 5 (.t 2)) 38 true),(xg 40 (.load true 2 (.t 39)) 38 true),(xg 41 (.fad 5 (.t 3)) 38 true),(xg 42 (.load true 2 (.t 41)) 38 true),(xg 43 (.eqA false 2 [(0,.i),(1,.i)] (.t 40) (.t 42)) 38 true),(xi 44 (.pick (.t 38) (.t 43) (.c (.v (.bool false))))),(xm 45 44),(xg 46 (.fad 7 (.t 2)) 45 true),(xg 47 (.load false 1 (.t 46)) 45 true),(xg 48 (.fad 7 (.t 3)) 45 true),(xg 49 (.load false 1 (.t 48)) 45 true),(xg 50 (.call 2 32 [(.t 47),(.t 49)]) 45 true),(xi 51 (.pick (.t 45) (.t 50) (.c (.v (.bool false))))),(xm 52 51),(xg 53 (.fad 8 (.t 2)) 52 true),(xg 54 (.load false 1 (.t 53)) 52 true),(xg 55 (.fad 8 (.t 3)) 52 true),(xg 56 (.load false 1 (.t 55)) 52 true),(xg 57 (.call 3 33 [(.t 54),(.t 56)]) 52 true),(xi 58 (.pick (.t 52) (.t 57) (.c (.v (.bool false))))),(xm 59 58),(xg 60 (.fad 9 (.t 2)) 59 true),(xg 61 (.load false 1 (.t 60)) 59 true),(xg 62 (.fad 9 (.t 3)) 59 true),(xg 63 (.load false 1 (.t 62)) 59 true),(xg 64 (.bin .eql (.t 61) (.t 63)) 59 true),(xi 65 (.pick (.t 59) (.t 64) (.c (.v (.bool false))))),(xm 66 65),(xg 67 (.fad 10 (.t 2)) 66 true),(xg 68 (.load false 1 (.t 67)) 66 true),(xg 69 (.fad 10 (.t 3)) 66 true),(xg 70 (.load false 1 (.t 69)) 66 true),(xg 71 (.bin .eql (.t 68) (.t 70)) 66 true),(xi 72 (.pick (.t 66) (.t 71) (.c (.v (.bool false))))),(xm 73 72),(xg 74 (.fad 11 (.t 2)) 73 true),(xg 75 (.load false 1 (.t 74)) 73 true),(xg 76 (.fad 11 (.t 3)) 73 true),(xg 77 (.load false 1 (.t 76)) 73 true),(xg 78 (.bin .eql (.t 75) (.t 77)) 73 true),(xi 79 (.pick (.t 73) (.t 78) (.c (.v (.bool false))))),(xm 80 79),(xg 81 (.fad 12 (.t 2)) 80 true),(xg 82 (.load false 1 (.t 81)) 80 true),(xg 83 (.fad 12 (.t 3)) 80 true),(xg 84 (.load false 1 (.t 83)) 80 true),(xg 85 (.bin .eql (.t 82) (.t 84)) 80 true),(xi 86 (.pick (.t 80) (.t 85) (.c (.v (.bool false))))),(xm 87 86),(xg 88 (.fad 13 (.t 2)) 87 true),(xg 89 (.load false 1 (.t 88)) 87 true),(xg 90 (.fad 13 (.t 3)) 87 true),(xg 91 (.load false 1 (.t 90)) 87 true),(xg 92 (.bin .eql (.t 89) (.t 91)) 87 true),(xi 93 (.pick (.t 87) (.t 92) (.c (.v (.bool false))))),(xm 94 93),(xg 95 (.fad 14 (.t 2)) 94 true),(xg 96 (.load false 1 (.t 95)) 94 true),(xg 97 (.fad 14 (.t 3)) 94 true),(xg 98 (.load false 1 (.t 97)) 94 true),(xg 99 (.binB false (.t 96) (.t 98)) 94 true),(xi 100 (.pick (.t 94) (.t 99) (.c (.v (.bool false))))),(xm 4 100)]) .ret)),[2,3,50,57],101,[.t 4],5⟩
theorem xf13_ok:xf13.ok Try.prog 13:=⟨_,_,Try.func13,rfl,by kernel_rfl,rfl,by kernel_rfl,rfl,by kernel_rfl,by kernel_rfl⟩
def tb13:List PE:=[pe32,pe33]
theorem tb13_ok:PEsOk Try.prog tb13:=⟨pe32_ok,pe33_ok,trivial⟩
def ex13:List EX:=[]
theorem ex13_ok:EXsOk Try.prog ex13:=trivial
def in13:List IN:=[]
theorem in13_ok:INsOk Try.prog in13:=trivial
def F13:DT ((.co (.v tzb1) (.co (.v tzb1) .no)):Fm).den→Option (DT (.v .b:Fm).den):=pureT tb13 ex13 in13 0 xf13 _ _ []
def pe13:PE:=⟨13,(.co (.v tzb1) (.co (.v tzb1) .no)),.v .b,F13⟩
theorem pe13_ok:pe13.ok Try.prog:=pe_of hm tb13_ok ex13_ok in13_ok xf13_ok (by kernel_rfl) (fun _=>rfl)
def xf47:FX:=⟨(.seq (.reg [(xi 1 (.box 0 15 (.t 0))),(xi 2 (.mov (.c (.v (.bool false)))))]) (.seq (.reg [(xi 2 (.mov (.c (.v (.bool true)))))]) .ret)),[1],3,[.t 2],2⟩
theorem xf47_ok:xf47.ok Try.prog 47:=⟨_,_,Try.func47,rfl,by kernel_rfl,rfl,by kernel_rfl,rfl,by kernel_rfl,by kernel_rfl⟩
def tb47:List PE:=[]
theorem tb47_ok:PEsOk Try.prog tb47:=trivial
def ex47:List EX:=[]
theorem ex47_ok:EXsOk Try.prog ex47:=trivial
def in47:List IN:=[]
theorem in47_ok:INsOk Try.prog in47:=trivial
def F47:DT ((.co (.v tzb1) .no):Fm).den→Option (DT (.v .b:Fm).den):=pureT tb47 ex47 in47 0 xf47 _ _ []
def pe47:PE:=⟨47,(.co (.v tzb1) .no),.v .b,F47⟩
theorem pe47_ok:pe47.ok Try.prog:=pe_of hm tb47_ok ex47_ok in47_ok xf47_ok (by kernel_rfl) (fun _=>rfl)
def xf22:FX:=⟨(.seq (.reg [⟨⟨(some 2),(.mov (.c (.v (.string ⟨#[]⟩)))),none⟩,.b,[],[]⟩]) (.seq (.reg [(xi 3 (.mov (.c (.sl true []))))]) (.seq (.seq (.reg [(xm 6 0),(xi 7 (.len (.t 6))),(xi 8 (.mov (.c (.v (.int .i64 0)))))]) (.blk 0 (.loop ⟨[3,5,8,9,10,11,12,13,14,15,16,17,18,19,20,21,22,23,24,25,26,27],[0,1],⟨[],[(3,.ow 0 1),(8,.v (.i .i64))],[⟨0,.rows (.i .u8) 1,false⟩]⟩⟩ (.seq (.reg [(xi 9 (.bin .lss (.t 8) (.t 7)))]) (.seq (.cond (.t 9) .skip (.exit 0)) (.seq (.cutN ⟨[3,5,10,11,12,13,14,15,16,17,18,19,20,21,22,23,24,25,26],[0,1],⟨[],[(3,.ow 0 1)],[⟨0,.rows (.i .u8) 1,false⟩]⟩⟩ (.blk 1 (.seq (.reg [(xi 10 (.iad 1 (.t 6) (.t 8))),(xi 11 (.load false 1 (.t 10))),(xm 5 11)]) (.seq (.cutN ⟨[3,5,12,13,14,15,16,17,18,19,20,21],[0],⟨[],[(3,.ow 0 1),(5,.v (.i .u64))],[⟨0,.rows (.i .u8) 1,false⟩]⟩⟩ (.blk 2 (.loop ⟨[3,5,12,13,14,15,16,17,18,19,20,21],[0],⟨[],[(3,.ow 0 1),(5,.v (.i .u64))],[⟨0,.rows (.i .u8) 1,false⟩]⟩⟩ (.seq (.seq (.reg [(xm 12 5),(xi 13 (.bin .gtr (.t 12) (.c (.v (.int .u64 127)))))]) (.cond (.t 13) .skip (.exit 2))) (.seq (.blk 3 (.reg [(xm 16 3),(xm 17 5),(xi 18 (.conv .u8 (.t 17))),(xi 19 (.bin .or (.t 18) (.c (.v (.int .u8 128))))),(xi 20 (.bsl 1 (.v (.int .u8 0)) 1 [(0,(.t 19))])),⟨⟨(some 21),(.app 0 1 1 (.v (.int .u8 0)) (.t 16) (.t 20)),none⟩,(.i .u8),[],[]⟩,(xm 3 21)])) (.reg [(xm 14 5),(xi 15 (.bin .shr (.t 14) (.c (.v (.int .u64 7))))),(xm 5 15)])))))) (.reg [(xm 22 3),(xm 23 5),(xi 24 (.conv .u8 (.t 23))),(xi 25 (.bsl 1 (.v (.int .u8 0)) 1 [(0,(.t 24))])),⟨⟨(some 26),(.app 1 1 1 (.v (.int .u8 0)) (.t 22) (.t 25)),none⟩,(.i .u8),[],[]⟩,(xm 3 26)]))))) (.reg [(xi 27 (.bin .add (.t 8) (.c (.v (.int .i64 1))))),(xm 8 27)]))))))) (.seq (.reg [(xm 28 3),(xi 29 (.bts (.t 28))),(xm 2 29)]) .ret)))),[21,26],30,[.t 2],3⟩
theorem xf22_ok:xf22.ok Try.prog 22:=⟨_,_,Try.func22,rfl,by kernel_rfl,rfl,by kernel_rfl,rfl,by kernel_rfl,by kernel_rfl⟩
def tb22:List PE:=[]
theorem tb22_ok:PEsOk Try.prog tb22:=trivial
def ex22:List EX:=[]
theorem ex22_ok:EXsOk Try.prog ex22:=trivial
def in22:List IN:=[]
theorem in22_ok:INsOk Try.prog in22:=trivial
def F22:DT ((.co (.v (.sl (.i .u64))) .no):Fm).den→Option (DT (.v .s:Fm).den):=pureT tb22 ex22 in22 0 xf22 _ _ []
def pe22:PE:=⟨22,(.co (.v (.sl (.i .u64))) .no),.v .s,F22⟩
theorem pe22_ok:pe22.ok Try.prog:=pe_of hm tb22_ok ex22_ok in22_ok xf22_ok (by kernel_rfl) (fun _=>rfl)
def xf85:FX:=⟨(.seq (.reg [(xi 4 (.mov (.c (.v (.int .u64 0))))),(xi 5 (.mov (.c (.v (.int .i64 0))))),(xi 6 (.mov (.c (.v (.int .i64 0)))))]) (.seq (.cut ⟨[4,5,6,10,11,12,13,14,15,16,17],[],⟨[],[],[]⟩⟩ (.seq (.cutN ⟨[10,11,12,13,14,15,16,17],[],⟨[],[(17,.v .b)],[]⟩⟩ (.reg [(xm 10 1),(xi 11 (.bin .lss (.t 10) (.c (.v (.int .i64 0))))),(xm 12 11),(xg 13 (.mov (.t 1)) 12 false),(xg 14 (.mov (.t 0)) 12 false),(xg 15 (.lenS (.t 14)) 12 false),(xg 16 (.bin .gtr (.t 13) (.t 15)) 12 false),(xi 17 (.pick (.t 12) (.c (.v (.bool true))) (.t 16)))])) (.cond (.t 17) (.seq (.reg [(xi 4 (.mov (.c (.v (.int .u64 0))))),(xi 5 (.mov (.c (.v (.int .i64 0))))),(xi 6 (.mov (.c (.v (.int .i64 1)))))]) .ret) .skip))) (.seq (.reg [(xi 7 (.mov (.c (.v (.int .u64 0)))))]) (.seq (.seq (.reg [(xm 18 0),(xi 19 (.lenS (.t 18))),(xm 20 1),(xi 21 (.bin .sub (.t 19) (.t 20))),(xi 22 (.mov (.c (.v (.int .i64 0)))))]) (.blk 0 (.loop ⟨[4,5,6,7,8,9,22,23,24,25,26,27,28,29,30,31,32,33,34,35,36,37,38,39,40,41,42,43,44,45,46,47,48,49,50,51,52,53,54,55,56,57,58,59],[],⟨[],[(7,.v (.i .u64)),(22,.v (.i .i64))],[]⟩⟩ (.seq (.reg [(xi 23 (.bin .lss (.t 22) (.t 21)))]) (.seq (.cond (.t 23) .skip (.exit 0)) (.seq (.cut ⟨[4,5,6,7,8,9,24,25,26,27,28,29,30,31,32,33,34,35,36,37,38,39,40,41,42,43,44,45,46,47,48,49,50,51,52,53,54,55,56,57,58],[],⟨[],[(7,.v (.i .u64))],[]⟩⟩ (.blk 1 (.seq (.reg [(xm 24 22),(xm 8 24)]) (.seq (.reg [(xm 25 0),(xm 26 1),(xm 27 8),(xi 28 (.bin .add (.t 26) (.t 27))),(xi 29 (.ixS (.t 25) (.t 28))),(xm 9 29)]) (.seq (.cut ⟨[4,5,6,30,31,32,33,34,35,36,37,38,39,40,41,42,43],[],⟨[],[],[]⟩⟩ (.seq (.cutN ⟨[30,31,32,33,34,35,36,37,38,39,40,41,42,43],[],⟨[],[(43,.v .b)],[]⟩⟩ (.reg [(xm 30 8),(xi 31 (.bin .gtr (.t 30) (.c (.v (.int .i64 0))))),(xm 32 31),(xg 33 (.mov (.t 9)) 32 true),(xg 34 (.bin .eql (.t 33) (.c (.v (.int .u8 0)))) 32 true),(xi 35 (.pick (.t 32) (.t 34) (.c (.v (.bool false))))),(xm 36 35),(xg 37 (.mov (.t 8)) 36 false),(xg 38 (.bin .eql (.t 37) (.c (.v (.int .i64 9)))) 36 false),(xg 39 (.mov (.t 38)) 36 false),(xg 40 (.mov (.t 9)) 39 true),(xg 41 (.bin .gtr (.t 40) (.c (.v (.int .u8 1)))) 39 true),(xg 42 (.pick (.t 39) (.t 41) (.c (.v (.bool false)))) 36 false),(xi 43 (.pick (.t 36) (.c (.v (.bool true))) (.t 42)))])) (.cond (.t 43) (.seq (.reg [(xi 4 (.mov (.c (.v (.int .u64 0))))),(xi 5 (.mov (.c (.v (.int .i64 0))))),(xi 6 (.mov (.c (.v (.int .i64 2)))))]) .ret) .skip))) (.seq (.reg [(xm 44 7),(xm 45 9),(xi 46 (.bin .and (.t 45) (.c (.v (.int .u8 127))))),(xi 47 (.conv .u64 (.t 46))),(xm 48 8),(xi 49 (.bin .mul (.c (.v (.int .i64 7))) (.t 48))),(xi 50 (.bin .shl (.t 47) (.t 49))),(xi 51 (.bin .or (.t 44) (.t 50))),(xm 7 51)]) (.seq (.reg [(xm 52 9),(xi 53 (.bin .lss (.t 52) (.c (.v (.int .u8 128)))))]) (.cond (.t 53) (.seq (.reg [(xm 54 7),(xm 55 1),(xm 56 8),(xi 57 (.bin .add (.t 55) (.t 56))),(xi 58 (.bin .add (.t 57) (.c (.v (.int .i64 1))))),(xm 4 54),(xm 5 58),(xi 6 (.mov (.c (.v (.int .i64 0)))))]) .ret) .skip)))))))) (.reg [(xi 59 (.bin .add (.t 22) (.c (.v (.int .i64 1))))),(xm 22 59)]))))))) (.seq (.reg [(xi 4 (.mov (.c (.v (.int .u64 0))))),(xi 5 (.mov (.c (.v (.int .i64 0))))),(xi 6 (.mov (.c (.v (.int .i64 3)))))]) .ret))))),[],60,[.t 4,.t 5,.t 6],1⟩
theorem xf85_ok:xf85.ok Try.prog 85:=⟨_,_,Try.func85,rfl,by kernel_rfl,rfl,by kernel_rfl,rfl,by kernel_rfl,by kernel_rfl⟩
def tb85:List PE:=[]
theorem tb85_ok:PEsOk Try.prog tb85:=trivial
def ex85:List EX:=[]
theorem ex85_ok:EXsOk Try.prog ex85:=trivial
def in85:List IN:=[]
theorem in85_ok:INsOk Try.prog in85:=trivial
def F85:DT ((.co (.v .s) (.co (.v (.i .i64)) .no)):Fm).den→Option (DT (.tup (.co (.v (.i .u64)) (.co (.v (.i .i64)) (.co (.v (.i .i64)) .no))):Fm).den):=pureT tb85 ex85 in85 0 xf85 _ _ []
def pe85:PE:=⟨85,(.co (.v .s) (.co (.v (.i .i64)) .no)),.tup (.co (.v (.i .u64)) (.co (.v (.i .i64)) (.co (.v (.i .i64)) .no))),F85⟩
theorem pe85_ok:pe85.ok Try.prog:=pe_of hm tb85_ok ex85_ok in85_ok xf85_ok (by kernel_rfl) (fun _=>rfl)
def xf26:FX:=⟨(.seq (.reg [(xi 2 (.mov (.c (.v (.bool false)))))]) (.seq (.reg [(xm 3 0),(xi 4 (.bin .geq (.t 3) (.c (.v (.int .i64 0))))),(xm 5 4),(xg 6 (.mov (.t 0)) 5 true),(xg 7 (.bin .lss (.t 6) (.c (.v (.int .i64 64)))) 5 true),(xi 8 (.pick (.t 5) (.t 7) (.c (.v (.bool false))))),(xm 2 8)]) .ret)),[],9,[.t 2],1⟩
theorem xf26_ok:xf26.ok Try.prog 26:=⟨_,_,Try.func26,rfl,by kernel_rfl,rfl,by kernel_rfl,rfl,by kernel_rfl,by kernel_rfl⟩
def tb26:List PE:=[]
theorem tb26_ok:PEsOk Try.prog tb26:=trivial
def ex26:List EX:=[]
theorem ex26_ok:EXsOk Try.prog ex26:=trivial
def in26:List IN:=[]
theorem in26_ok:INsOk Try.prog in26:=trivial
def F26:DT ((.co (.v (.i .i64)) .no):Fm).den→Option (DT (.v .b:Fm).den):=pureT tb26 ex26 in26 0 xf26 _ _ []
def pe26:PE:=⟨26,(.co (.v (.i .i64)) .no),.v .b,F26⟩
theorem pe26_ok:pe26.ok Try.prog:=pe_of hm tb26_ok ex26_ok in26_ok xf26_ok (by kernel_rfl) (fun _=>rfl)
def xf55:FX:=⟨(.seq (.reg [(xi 1 (.box 0 15 (.t 0))),(xi 2 (.mov (.c (.v (.bool false)))))]) (.seq (.reg [(xi 3 (.fad 4 (.t 1))),(xi 4 (.load false 1 (.t 3))),(xi 5 (.call 1 26 [(.t 4)])),(xm 2 5)]) .ret)),[1,5],6,[.t 2],3⟩
theorem xf55_ok:xf55.ok Try.prog 55:=⟨_,_,Try.func55,rfl,by kernel_rfl,rfl,by kernel_rfl,rfl,by kernel_rfl,by kernel_rfl⟩
def tb55:List PE:=[pe26]
theorem tb55_ok:PEsOk Try.prog tb55:=⟨pe26_ok,trivial⟩
def ex55:List EX:=[]
theorem ex55_ok:EXsOk Try.prog ex55:=trivial
def in55:List IN:=[]
theorem in55_ok:INsOk Try.prog in55:=trivial
def F55:DT ((.co (.v tzb1) .no):Fm).den→Option (DT (.v .b:Fm).den):=pureT tb55 ex55 in55 0 xf55 _ _ []
def pe55:PE:=⟨55,(.co (.v tzb1) .no),.v .b,F55⟩
theorem pe55_ok:pe55.ok Try.prog:=pe_of hm tb55_ok ex55_ok in55_ok xf55_ok (by kernel_rfl) (fun _=>rfl)
def xf56:FX:=⟨(.seq (.reg [(xi 1 (.box 0 15 (.t 0))),⟨⟨(some 2),(.mov (.c (.v (.string ⟨#[]⟩)))),none⟩,.b,[],[]⟩]) (.seq (.reg [(xi 3 (.fad 4 (.t 1))),(xi 4 (.load false 1 (.t 3))),(xi 5 (.conv .u64 (.t 4))),(xi 6 (.bsl 1 (.v (.int .u64 0)) 1 [(0,(.t 5))])),(xi 7 (.call 1 22 [(.t 6)])),(xm 2 7)]) .ret)),[1,7],8,[.t 2],3⟩
theorem xf56_ok:xf56.ok Try.prog 56:=⟨_,_,Try.func56,rfl,by kernel_rfl,rfl,by kernel_rfl,rfl,by kernel_rfl,by kernel_rfl⟩
def tb56:List PE:=[pe22]
theorem tb56_ok:PEsOk Try.prog tb56:=⟨pe22_ok,trivial⟩
def ex56:List EX:=[]
theorem ex56_ok:EXsOk Try.prog ex56:=trivial
def in56:List IN:=[]
theorem in56_ok:INsOk Try.prog in56:=trivial
def F56:DT ((.co (.v tzb1) .no):Fm).den→Option (DT (.v .s:Fm).den):=pureT tb56 ex56 in56 0 xf56 _ _ []
def pe56:PE:=⟨56,(.co (.v tzb1) .no),.v .s,F56⟩
theorem pe56_ok:pe56.ok Try.prog:=pe_of hm tb56_ok ex56_ok in56_ok xf56_ok (by kernel_rfl) (fun _=>rfl)
def xf59:FX:=⟨(.seq (.reg [(xi 2 (.mov (.c (.v (.int .i64 0)))))]) (.seq (.seq (.reg [(xm 5 0),(xi 6 (.len (.t 5))),(xi 7 (.mov (.c (.v (.int .i64 0)))))]) (.blk 0 (.loop ⟨[2,4,7,8,9,10,11,12,13,14,15,16,17,18,19],[0],⟨[],[(7,.v (.i .i64))],[]⟩⟩ (.seq (.reg [(xi 8 (.bin .lss (.t 7) (.t 6)))]) (.seq (.cond (.t 8) .skip (.exit 0)) (.seq (.cut ⟨[2,4,9,10,11,12,13,14,15,16,17,18],[0],⟨[],[],[]⟩⟩ (.blk 1 (.seq (.reg [(xi 9 (.iad 2 (.t 5) (.t 7))),(xi 10 (.load true 2 (.t 9))),(xi 4 (.alloc 0 (.agg [(.v (.int .u64 0)),(.v (.int .i64 0))]))),(xz (.store 2 (.t 4) (.t 10)))]) (.seq (.cutN ⟨[11,12,13,14,15,16,17,18],[],⟨[],[(18,.v .b)],[]⟩⟩ (.reg [(xi 11 (.fad 1 (.t 4))),(xi 12 (.load false 1 (.t 11))),(xi 13 (.bin .lss (.t 12) (.c (.v (.int .i64 0))))),(xm 14 13),(xg 15 (.fad 1 (.t 4)) 14 false),(xg 16 (.load false 1 (.t 15)) 14 false),(xg 17 (.bin .gtr (.t 16) (.c (.v (.int .i64 3)))) 14 false),(xi 18 (.pick (.t 14) (.c (.v (.bool true))) (.t 17)))])) (.cond (.t 18) (.seq (.reg [(xi 2 (.mov (.c (.v (.int .i64 1)))))]) .ret) .skip))))) (.reg [(xi 19 (.bin .add (.t 7) (.c (.v (.int .i64 1))))),(xm 7 19)]))))))) (.seq (.reg [(xi 2 (.mov (.c (.v (.int .i64 0)))))]) .ret))),[4],20,[.t 2],2⟩
theorem xf59_ok:xf59.ok Try.prog 59:=⟨_,_,Try.func59,rfl,by kernel_rfl,rfl,by kernel_rfl,rfl,by kernel_rfl,by kernel_rfl⟩
def tb59:List PE:=[]
theorem tb59_ok:PEsOk Try.prog tb59:=trivial
def ex59:List EX:=[]
theorem ex59_ok:EXsOk Try.prog ex59:=trivial
def in59:List IN:=[]
theorem in59_ok:INsOk Try.prog in59:=trivial
def F59:DT ((.co (.v (.sl (.p (.i .u64) (.i .i64)))) .no):Fm).den→Option (DT (.v (.i .i64):Fm).den):=pureT tb59 ex59 in59 0 xf59 _ _ []
def pe59:PE:=⟨59,(.co (.v (.sl (.p (.i .u64) (.i .i64)))) .no),.v (.i .i64),F59⟩
theorem pe59_ok:pe59.ok Try.prog:=pe_of hm tb59_ok ex59_ok in59_ok xf59_ok (by kernel_rfl) (fun _=>rfl)
def xf58:FX:=⟨(.seq (.reg [(xi 1 (.box 0 15 (.t 0))),(xi 2 (.mov (.c (.v (.bool false)))))]) (.seq (.reg [(xi 3 (.fad 5 (.t 1))),(xi 4 (.load true 2 (.t 3))),(xi 5 (.bsl 2 (.agg [(.v (.int .u64 0)),(.v (.int .i64 0))]) 1 [(0,(.t 4))])),(xi 6 (.call 1 59 [(.t 5)])),(xi 7 (.bin .eql (.t 6) (.c (.v (.int .i64 0))))),(xm 2 7)]) .ret)),[1,6],8,[.t 2],3⟩
theorem xf58_ok:xf58.ok Try.prog 58:=⟨_,_,Try.func58,rfl,by kernel_rfl,rfl,by kernel_rfl,rfl,by kernel_rfl,by kernel_rfl⟩
def tb58:List PE:=[pe59]
theorem tb58_ok:PEsOk Try.prog tb58:=⟨pe59_ok,trivial⟩
def ex58:List EX:=[]
theorem ex58_ok:EXsOk Try.prog ex58:=trivial
def in58:List IN:=[]
theorem in58_ok:INsOk Try.prog in58:=trivial
def F58:DT ((.co (.v tzb1) .no):Fm).den→Option (DT (.v .b:Fm).den):=pureT tb58 ex58 in58 0 xf58 _ _ []
def pe58:PE:=⟨58,(.co (.v tzb1) .no),.v .b,F58⟩
theorem pe58_ok:pe58.ok Try.prog:=pe_of hm tb58_ok ex58_ok in58_ok xf58_ok (by kernel_rfl) (fun _=>rfl)
def xf61:FX:=⟨(.seq (.reg [(xi 1 (.box 0 2 (.t 0))),⟨⟨(some 2),(.mov (.c (.v (.string ⟨#[]⟩)))),none⟩,.b,[],[]⟩]) (.seq (.reg [(xi 3 (.fad 0 (.t 1))),(xi 4 (.load false 1 (.t 3))),(xi 5 (.fad 1 (.t 1))),(xi 6 (.load false 1 (.t 5))),(xi 7 (.conv .u64 (.t 6))),(xi 8 (.bsl 1 (.v (.int .u64 0)) 2 [(0,(.t 4)),(1,(.t 7))])),(xi 9 (.call 1 22 [(.t 8)])),(xm 2 9)]) .ret)),[1,9],10,[.t 2],3⟩
theorem xf61_ok:xf61.ok Try.prog 61:=⟨_,_,Try.func61,rfl,by kernel_rfl,rfl,by kernel_rfl,rfl,by kernel_rfl,by kernel_rfl⟩
def tb61:List PE:=[pe22]
theorem tb61_ok:PEsOk Try.prog tb61:=⟨pe22_ok,trivial⟩
def ex61:List EX:=[]
theorem ex61_ok:EXsOk Try.prog ex61:=trivial
def in61:List IN:=[]
theorem in61_ok:INsOk Try.prog in61:=trivial
def F61:DT ((.co (.v (.p (.i .u64) (.i .i64))) .no):Fm).den→Option (DT (.v .s:Fm).den):=pureT tb61 ex61 in61 0 xf61 _ _ []
def pe61:PE:=⟨61,(.co (.v (.p (.i .u64) (.i .i64))) .no),.v .s,F61⟩
theorem pe61_ok:pe61.ok Try.prog:=pe_of hm tb61_ok ex61_ok in61_ok xf61_ok (by kernel_rfl) (fun _=>rfl)
def xf60:FX:=⟨(.seq (.reg [(xi 1 (.box 0 15 (.t 0))),⟨⟨(some 2),(.mov (.c (.v (.string ⟨#[]⟩)))),none⟩,.b,[],[]⟩]) (.seq (.reg [(xi 3 (.fad 5 (.t 1))),(xi 4 (.load true 2 (.t 3))),(xi 5 (.call 1 61 [(.t 4)])),(xm 2 5)]) .ret)),[1,5],6,[.t 2],3⟩
theorem xf60_ok:xf60.ok Try.prog 60:=⟨_,_,Try.func60,rfl,by kernel_rfl,rfl,by kernel_rfl,rfl,by kernel_rfl,by kernel_rfl⟩
def tb60:List PE:=[pe61]
theorem tb60_ok:PEsOk Try.prog tb60:=⟨pe61_ok,trivial⟩
def ex60:List EX:=[]
theorem ex60_ok:EXsOk Try.prog ex60:=trivial
def in60:List IN:=[]
theorem in60_ok:INsOk Try.prog in60:=trivial
def F60:DT ((.co (.v tzb1) .no):Fm).den→Option (DT (.v .s:Fm).den):=pureT tb60 ex60 in60 0 xf60 _ _ []
def pe60:PE:=⟨60,(.co (.v tzb1) .no),.v .s,F60⟩
theorem pe60_ok:pe60.ok Try.prog:=pe_of hm tb60_ok ex60_ok in60_ok xf60_ok (by kernel_rfl) (fun _=>rfl)
def xf87:FX:=⟨(.seq (.reg [(xi 1 (.box 0 3 (.t 0))),(xi 2 (.mov (.c (.v (.bool false)))))]) (.seq (.reg [(xi 3 (.fad 0 (.t 1))),(xi 4 (.load false 1 (.t 3))),(xi 5 (.call 1 26 [(.t 4)])),(xi 6 (.un .not (.t 5))),(xm 7 6),(xg 8 (.fad 1 (.t 1)) 7 false),(xg 9 (.load true 2 (.t 8)) 7 false),(xg 10 (.bsl 2 (.agg [(.v (.int .u64 0)),(.v (.int .i64 0))]) 1 [(0,(.t 9))]) 7 false),(xg 11 (.call 2 59 [(.t 10)]) 7 false),(xg 12 (.bin .neq (.t 11) (.c (.v (.int .i64 0)))) 7 false),(xi 13 (.pick (.t 7) (.c (.v (.bool true))) (.t 12))),(xm 2 13)]) .ret)),[1,5,11],14,[.t 2],4⟩
theorem xf87_ok:xf87.ok Try.prog 87:=⟨_,_,Try.func87,rfl,by kernel_rfl,rfl,by kernel_rfl,rfl,by kernel_rfl,by kernel_rfl⟩
def tb87:List PE:=[pe26,pe59]
theorem tb87_ok:PEsOk Try.prog tb87:=⟨pe26_ok,pe59_ok,trivial⟩
def ex87:List EX:=[]
theorem ex87_ok:EXsOk Try.prog ex87:=trivial
def in87:List IN:=[]
theorem in87_ok:INsOk Try.prog in87:=trivial
def F87:DT ((.co (.v (.p (.i .i64) (.p (.i .u64) (.i .i64)))) .no):Fm).den→Option (DT (.v .b:Fm).den):=pureT tb87 ex87 in87 0 xf87 _ _ []
def pe87:PE:=⟨87,(.co (.v (.p (.i .i64) (.p (.i .u64) (.i .i64)))) .no),.v .b,F87⟩
theorem pe87_ok:pe87.ok Try.prog:=pe_of hm tb87_ok ex87_ok in87_ok xf87_ok (by kernel_rfl) (fun _=>rfl)
def xf64:FX:=⟨(.seq (.reg [(xi 1 (.box 0 15 (.t 0))),(xi 2 (.mov (.c (.v (.bool false)))))]) (.seq (.reg [(xi 3 (.fad 7 (.t 1))),(xi 4 (.load false 1 (.t 3))),(xi 5 (.len (.t 4))),(xi 6 (.bin .leq (.t 5) (.c (.v (.int .i64 8))))),(xm 7 6),(xg 8 (.fad 7 (.t 1)) 7 true),(xg 9 (.load false 1 (.t 8)) 7 true),(xg 10 (.call 1 86 [(.t 9),(.c (.clo 87 [] []))]) 7 true),(xg 11 (.un .not (.t 10)) 7 true),(xi 12 (.pick (.t 7) (.t 11) (.c (.v (.bool false))))),(xm 2 12)]) .ret)),[1,10],13,[.t 2],7⟩
theorem xf64_ok:xf64.ok Try.prog 64:=⟨_,_,Try.func64,rfl,by kernel_rfl,rfl,by kernel_rfl,rfl,by kernel_rfl,by kernel_rfl⟩
def ff86:FX:=⟨(.seq (.reg [(xi 4 (.mov (.c (.v (.bool false)))))]) (.seq (.reg [(xm 5 0),(xm 6 1),(xi 7 (.call 0 91 [(.t 5),(.t 6)])),(xi 8 (.bin .geq (.t 7) (.c (.v (.int .i64 0))))),(xm 4 8)]) .ret)),[7],9,[.t 4],2⟩
theorem ff86_ok:ff86.ok Try.prog 86:=⟨_,_,Try.func86,rfl,by kernel_rfl,rfl,by kernel_rfl,rfl,by kernel_rfl,by kernel_rfl⟩
def ff91:FX:=⟨(.seq (.reg [(xi 4 (.mov (.c (.v (.int .i64 0)))))]) (.seq (.seq (.reg [(xm 6 0),(xi 7 (.len (.t 6))),(xi 8 (.mov (.c (.v (.int .i64 0)))))]) (.blk 0 (.loop ⟨[4,5,8,9,10,11,12,13,14,15,16,17,18],[],⟨[],[(8,.v (.i .i64))],[]⟩⟩ (.seq (.reg [(xi 9 (.bin .lss (.t 8) (.t 7)))]) (.seq (.cond (.t 9) .skip (.exit 0)) (.seq (.blk 1 (.seq (.reg [(xm 10 8),(xm 5 10)]) (.seq (.reg [(xm 11 1),(xm 12 0),(xm 13 5),(xi 14 (.iad 3 (.t 12) (.t 13))),(xi 15 (.load true 3 (.t 14))),(xi 16 (.callv 0 (.t 11) [(.t 15)]))]) (.cond (.t 16) (.seq (.reg [(xm 17 5),(xm 4 17)]) .ret) .skip)))) (.reg [(xi 18 (.bin .add (.t 8) (.c (.v (.int .i64 1))))),(xm 8 18)]))))))) (.seq (.reg [(xi 4 (.mov (.c (.v (.int .i64 (-1))))))]) .ret))),[16],19,[.t 4],2⟩
theorem ff91_ok:ff91.ok Try.prog 91:=⟨_,_,Try.func91,rfl,by kernel_rfl,rfl,by kernel_rfl,rfl,by kernel_rfl,by kernel_rfl⟩
def tb64:List PE:=[pe87]
theorem tb64_ok:PEsOk Try.prog tb64:=⟨pe87_ok,trivial⟩
def ex64:List EX:=[]
theorem ex64_ok:EXsOk Try.prog ex64:=trivial
def in64:List IN:=[⟨1,86,3,ff86,none⟩,⟨3,91,5,ff91,some ⟨[0,1,2,3,4,5,6,7,8,9,10,11,12,13,14,15,16,17,18],[5,6],⟨[],[(4,.v (.i .i64))],[]⟩⟩⟩]
theorem in64_ok:INsOk Try.prog in64:=⟨ff86_ok,ff91_ok,trivial⟩
def F64:DT ((.co (.v tzb1) .no):Fm).den→Option (DT (.v .b:Fm).den):=pureT tb64 ex64 in64 9 xf64 _ _ []
def pe64:PE:=⟨64,(.co (.v tzb1) .no),.v .b,F64⟩
theorem pe64_ok:pe64.ok Try.prog:=pe_of hm tb64_ok ex64_ok in64_ok xf64_ok (by kernel_rfl) (fun _=>rfl)
def xf65:FX:=⟨(.seq (.reg [(xi 1 (.box 0 15 (.t 0))),⟨⟨(some 2),(.mov (.c (.v (.string ⟨#[]⟩)))),none⟩,.b,[],[]⟩]) (.seq (.reg [(xi 6 (.fad 7 (.t 1))),(xi 7 (.load false 1 (.t 6))),(xi 8 (.len (.t 7))),(xi 9 (.conv .u64 (.t 8))),(xi 10 (.bsl 1 (.v (.int .u64 0)) 1 [(0,(.t 9))])),(xi 11 (.call 1 22 [(.t 10)])),(xm 3 11)]) (.seq (.seq (.reg [(xi 12 (.fad 7 (.t 1))),(xi 13 (.load false 1 (.t 12))),(xi 14 (.len (.t 13))),(xi 15 (.mov (.c (.v (.int .i64 0)))))]) (.blk 0 (.loop ⟨[3,5,15,16,17,18,19,20,21,22,23,24,25,26,27,28,29,30],[2],⟨[],[(3,.v .s),(15,.v (.i .i64))],[]⟩⟩ (.seq (.reg [(xi 16 (.bin .lss (.t 15) (.t 14)))]) (.seq (.cond (.t 16) .skip (.exit 0)) (.seq (.blk 1 (.seq (.reg [(xi 17 (.iad 3 (.t 13) (.t 15))),(xi 18 (.load true 3 (.t 17))),(xi 5 (.alloc 2 (.agg [(.v (.int .i64 0)),(.v (.int .u64 0)),(.v (.int .i64 0))]))),(xz (.store 3 (.t 5) (.t 18)))]) (.dr [(7,5)] [(xm 19 3),(xi 20 (.fad 0 (.t 5))),(xi 21 (.load false 1 (.t 20))),(xi 22 (.conv .u64 (.t 21))),(xi 23 (.bsl 1 (.v (.int .u64 0)) 1 [(0,(.t 22))])),(xi 24 (.callG 3 22 [(.t 23)])),(xi 25 (.fad 1 (.t 5))),(xi 26 (.load true 2 (.t 25))),(xi 27 (.callG 4 61 [(.t 26)])),(xi 28 (.bin .add (.t 24) (.t 27))),(xi 29 (.bin .add (.t 19) (.t 28))),(xm 3 29)]))) (.reg [(xi 30 (.bin .add (.t 15) (.c (.v (.int .i64 1))))),(xm 15 30)]))))))) (.seq (.reg [(xm 31 3),(xm 2 31)]) .ret)))),[1,11,5,24,27],32,[.t 2],6⟩
theorem xf65_ok:xf65.ok Try.prog 65:=⟨_,_,Try.func65,rfl,by kernel_rfl,rfl,by kernel_rfl,rfl,by kernel_rfl,by kernel_rfl⟩
def tb65:List PE:=[pe22,pe61]
theorem tb65_ok:PEsOk Try.prog tb65:=⟨pe22_ok,pe61_ok,trivial⟩
def ex65:List EX:=[]
theorem ex65_ok:EXsOk Try.prog ex65:=trivial
def in65:List IN:=[]
theorem in65_ok:INsOk Try.prog in65:=trivial
def F65:DT ((.co (.v tzb1) .no):Fm).den→Option (DT (.v .s:Fm).den):=pureT tb65 ex65 in65 0 xf65 _ _ []
def pe65:PE:=⟨65,(.co (.v tzb1) .no),.v .s,F65⟩
theorem pe65_ok:pe65.ok Try.prog:=pe_of hm tb65_ok ex65_ok in65_ok xf65_ok (by kernel_rfl) (fun _=>rfl)
def xf68:FX:=⟨(.seq (.reg [(xi 2 (.mov (.c (.v (.int .i64 0)))))]) (.seq (.seq (.cutN ⟨[3,4,5,6,7,8,9,10],[],⟨[],[(10,.v .b)],[]⟩⟩ (.reg [(xm 3 0),(xi 4 (.len (.t 3))),(xi 5 (.bin .lss (.t 4) (.c (.v (.int .i64 1))))),(xm 6 5),(xg 7 (.mov (.t 0)) 6 false),(xg 8 (.len (.t 7)) 6 false),(xg 9 (.bin .gtr (.t 8) (.c (.v (.int .i64 64)))) 6 false),(xi 10 (.pick (.t 6) (.c (.v (.bool true))) (.t 9)))])) (.cond (.t 10) (.seq (.reg [(xi 2 (.mov (.c (.v (.int .i64 1)))))]) .ret) .skip)) (.seq (.reg [(xm 11 0),(xi 12 (.call 0 59 [(.t 11)])),(xm 2 12)]) .ret))),[12],13,[.t 2],2⟩
theorem xf68_ok:xf68.ok Try.prog 68:=⟨_,_,Try.func68,rfl,by kernel_rfl,rfl,by kernel_rfl,rfl,by kernel_rfl,by kernel_rfl⟩
def tb68:List PE:=[pe59]
theorem tb68_ok:PEsOk Try.prog tb68:=⟨pe59_ok,trivial⟩
def ex68:List EX:=[]
theorem ex68_ok:EXsOk Try.prog ex68:=trivial
def in68:List IN:=[]
theorem in68_ok:INsOk Try.prog in68:=trivial
def F68:DT ((.co (.v (.sl (.p (.i .u64) (.i .i64)))) .no):Fm).den→Option (DT (.v (.i .i64):Fm).den):=pureT tb68 ex68 in68 0 xf68 _ _ []
def pe68:PE:=⟨68,(.co (.v (.sl (.p (.i .u64) (.i .i64)))) .no),.v (.i .i64),F68⟩
theorem pe68_ok:pe68.ok Try.prog:=pe_of hm tb68_ok ex68_ok in68_ok xf68_ok (by kernel_rfl) (fun _=>rfl)
def xf67:FX:=⟨(.seq (.reg [(xi 1 (.box 0 15 (.t 0))),(xi 2 (.mov (.c (.v (.bool false)))))]) (.seq (.reg [(xi 3 (.fad 8 (.t 1))),(xi 4 (.load false 1 (.t 3))),(xi 5 (.call 1 68 [(.t 4)])),(xi 6 (.bin .eql (.t 5) (.c (.v (.int .i64 0))))),(xm 2 6)]) .ret)),[1,5],7,[.t 2],3⟩
theorem xf67_ok:xf67.ok Try.prog 67:=⟨_,_,Try.func67,rfl,by kernel_rfl,rfl,by kernel_rfl,rfl,by kernel_rfl,by kernel_rfl⟩
def tb67:List PE:=[pe68]
theorem tb67_ok:PEsOk Try.prog tb67:=⟨pe68_ok,trivial⟩
def ex67:List EX:=[]
theorem ex67_ok:EXsOk Try.prog ex67:=trivial
def in67:List IN:=[]
theorem in67_ok:INsOk Try.prog in67:=trivial
def F67:DT ((.co (.v tzb1) .no):Fm).den→Option (DT (.v .b:Fm).den):=pureT tb67 ex67 in67 0 xf67 _ _ []
def pe67:PE:=⟨67,(.co (.v tzb1) .no),.v .b,F67⟩
theorem pe67_ok:pe67.ok Try.prog:=pe_of hm tb67_ok ex67_ok in67_ok xf67_ok (by kernel_rfl) (fun _=>rfl)
def xf69:FX:=⟨(.seq (.reg [(xi 1 (.box 0 15 (.t 0))),⟨⟨(some 2),(.mov (.c (.v (.string ⟨#[]⟩)))),none⟩,.b,[],[]⟩]) (.seq (.reg [(xi 6 (.fad 8 (.t 1))),(xi 7 (.load false 1 (.t 6))),(xi 8 (.len (.t 7))),(xi 9 (.conv .u64 (.t 8))),(xi 10 (.bsl 1 (.v (.int .u64 0)) 1 [(0,(.t 9))])),(xi 11 (.call 1 22 [(.t 10)])),(xm 3 11)]) (.seq (.seq (.reg [(xi 12 (.fad 8 (.t 1))),(xi 13 (.load false 1 (.t 12))),(xi 14 (.len (.t 13))),(xi 15 (.mov (.c (.v (.int .i64 0)))))]) (.blk 0 (.loop ⟨[3,5,15,16,17,18,19,20,21,22,23],[2],⟨[],[(3,.v .s),(15,.v (.i .i64))],[]⟩⟩ (.seq (.reg [(xi 16 (.bin .lss (.t 15) (.t 14)))]) (.seq (.cond (.t 16) .skip (.exit 0)) (.seq (.blk 1 (.seq (.reg [(xi 17 (.iad 2 (.t 13) (.t 15))),(xi 18 (.load true 2 (.t 17))),(xi 5 (.alloc 2 (.agg [(.v (.int .u64 0)),(.v (.int .i64 0))]))),(xz (.store 2 (.t 5) (.t 18)))]) (.reg [(xm 19 3),(xi 20 (.load true 2 (.t 5))),(xi 21 (.call 3 61 [(.t 20)])),(xi 22 (.bin .add (.t 19) (.t 21))),(xm 3 22)]))) (.reg [(xi 23 (.bin .add (.t 15) (.c (.v (.int .i64 1))))),(xm 15 23)]))))))) (.seq (.reg [(xm 24 3),(xm 2 24)]) .ret)))),[1,11,5,21],25,[.t 2],5⟩
theorem xf69_ok:xf69.ok Try.prog 69:=⟨_,_,Try.func69,rfl,by kernel_rfl,rfl,by kernel_rfl,rfl,by kernel_rfl,by kernel_rfl⟩
def tb69:List PE:=[pe22,pe61]
theorem tb69_ok:PEsOk Try.prog tb69:=⟨pe22_ok,pe61_ok,trivial⟩
def ex69:List EX:=[]
theorem ex69_ok:EXsOk Try.prog ex69:=trivial
def in69:List IN:=[]
theorem in69_ok:INsOk Try.prog in69:=trivial
def F69:DT ((.co (.v tzb1) .no):Fm).den→Option (DT (.v .s:Fm).den):=pureT tb69 ex69 in69 0 xf69 _ _ []
def pe69:PE:=⟨69,(.co (.v tzb1) .no),.v .s,F69⟩
theorem pe69_ok:pe69.ok Try.prog:=pe_of hm tb69_ok ex69_ok in69_ok xf69_ok (by kernel_rfl) (fun _=>rfl)
def xf72:FX:=⟨(.seq (.reg [(xi 1 (.box 0 15 (.t 0))),(xi 2 (.mov (.c (.v (.bool false)))))]) (.seq (.reg [(xi 3 (.fad 11 (.t 1))),(xi 4 (.load false 1 (.t 3))),(xi 5 (.bin .geq (.t 4) (.c (.v (.int .i64 0))))),(xm 6 5),(xg 7 (.fad 11 (.t 1)) 6 true),(xg 8 (.load false 1 (.t 7)) 6 true),(xg 9 (.bin .leq (.t 8) (.c (.v (.int .i64 1099511627776)))) 6 true),(xi 10 (.pick (.t 6) (.t 9) (.c (.v (.bool false))))),(xm 2 10)]) .ret)),[1],11,[.t 2],2⟩
theorem xf72_ok:xf72.ok Try.prog 72:=⟨_,_,Try.func72,rfl,by kernel_rfl,rfl,by kernel_rfl,rfl,by kernel_rfl,by kernel_rfl⟩
def tb72:List PE:=[]
theorem tb72_ok:PEsOk Try.prog tb72:=trivial
def ex72:List EX:=[]
theorem ex72_ok:EXsOk Try.prog ex72:=trivial
def in72:List IN:=[]
theorem in72_ok:INsOk Try.prog in72:=trivial
def F72:DT ((.co (.v tzb1) .no):Fm).den→Option (DT (.v .b:Fm).den):=pureT tb72 ex72 in72 0 xf72 _ _ []
def pe72:PE:=⟨72,(.co (.v tzb1) .no),.v .b,F72⟩
theorem pe72_ok:pe72.ok Try.prog:=pe_of hm tb72_ok ex72_ok in72_ok xf72_ok (by kernel_rfl) (fun _=>rfl)
def xf73:FX:=⟨(.seq (.reg [(xi 1 (.box 0 15 (.t 0))),⟨⟨(some 2),(.mov (.c (.v (.string ⟨#[]⟩)))),none⟩,.b,[],[]⟩]) (.seq (.reg [(xi 3 (.fad 11 (.t 1))),(xi 4 (.load false 1 (.t 3))),(xi 5 (.conv .u64 (.t 4))),(xi 6 (.bsl 1 (.v (.int .u64 0)) 1 [(0,(.t 5))])),(xi 7 (.call 1 22 [(.t 6)])),(xm 2 7)]) .ret)),[1,7],8,[.t 2],3⟩
theorem xf73_ok:xf73.ok Try.prog 73:=⟨_,_,Try.func73,rfl,by kernel_rfl,rfl,by kernel_rfl,rfl,by kernel_rfl,by kernel_rfl⟩
def tb73:List PE:=[pe22]
theorem tb73_ok:PEsOk Try.prog tb73:=⟨pe22_ok,trivial⟩
def ex73:List EX:=[]
theorem ex73_ok:EXsOk Try.prog ex73:=trivial
def in73:List IN:=[]
theorem in73_ok:INsOk Try.prog in73:=trivial
def F73:DT ((.co (.v tzb1) .no):Fm).den→Option (DT (.v .s:Fm).den):=pureT tb73 ex73 in73 0 xf73 _ _ []
def pe73:PE:=⟨73,(.co (.v tzb1) .no),.v .s,F73⟩
theorem pe73_ok:pe73.ok Try.prog:=pe_of hm tb73_ok ex73_ok in73_ok xf73_ok (by kernel_rfl) (fun _=>rfl)
def xf15:FX:=⟨(.seq (.reg [(xi 2 (.mov (.c (.v (.bool false)))))]) (.seq (.cut ⟨[2,4,5,6,7,8,9,10,11,12,13,14,15,16,17,18,19,20,21,22,23,24,25,26,27,28],[0],⟨[],[],[]⟩⟩ (.seq (.reg [(xm 5 0),(xi 6 (.rngS 0 (.t 5)))]) (.blk 0 (.loop ⟨[2,4,7,8,9,10,11,12,13,14,15,16,17,18,19,20,21,22,23,24,25,26,27,28],[0],⟨[],[],[⟨0,.iter,true⟩]⟩⟩ (.seq (.reg [(xi 7 (.nxtS (.t 6))),(xi 8 (.ext (.t 7) 0))]) (.seq (.cond (.t 8) .skip (.exit 0)) (.blk 1 (.seq (.reg [(xi 9 (.ext (.t 7) 2)),(xm 4 9)]) (.seq (.cutN ⟨[10,11,12,13,14,15,16,17,18,19,20,21,22,23,24,25,26,27,28],[],⟨[],[(28,.v .b)],[]⟩⟩ (.reg [(xm 10 4),(xi 11 (.bin .geq (.t 10) (.c (.v (.int .i32 97))))),(xm 12 11),(xg 13 (.mov (.t 4)) 12 true),(xg 14 (.bin .leq (.t 13) (.c (.v (.int .i32 122)))) 12 true),(xi 15 (.pick (.t 12) (.t 14) (.c (.v (.bool false))))),(xm 16 15),(xg 17 (.mov (.t 4)) 16 false),(xg 18 (.bin .geq (.t 17) (.c (.v (.int .i32 48)))) 16 false),(xg 19 (.mov (.t 18)) 16 false),(xg 20 (.mov (.t 4)) 19 true),(xg 21 (.bin .leq (.t 20) (.c (.v (.int .i32 57)))) 19 true),(xg 22 (.pick (.t 19) (.t 21) (.c (.v (.bool false)))) 16 false),(xi 23 (.pick (.t 16) (.c (.v (.bool true))) (.t 22))),(xm 24 23),(xg 25 (.mov (.t 4)) 24 false),(xg 26 (.bin .eql (.t 25) (.c (.v (.int .i32 45)))) 24 false),(xi 27 (.pick (.t 24) (.c (.v (.bool true))) (.t 26))),(xi 28 (.un .not (.t 27)))])) (.cond (.t 28) (.seq (.reg [(xi 2 (.mov (.c (.v (.bool false)))))]) .ret) .skip)))))))))) (.seq (.reg [(xm 29 0),⟨⟨(some 30),(.bin .neq (.t 29) (.c (.v (.string ⟨#[]⟩)))),none⟩,.b,[],[]⟩,(xm 31 30),(xg 32 (.mov (.t 0)) 31 true),(xg 33 (.lenS (.t 32)) 31 true),(xg 34 (.bin .leq (.t 33) (.c (.v (.int .i64 20)))) 31 true),(xi 35 (.pick (.t 31) (.t 34) (.c (.v (.bool false))))),(xm 2 35)]) .ret))),[6],36,[.t 2],2⟩
theorem xf15_ok:xf15.ok Try.prog 15:=⟨_,_,Try.func15,rfl,by kernel_rfl,rfl,by kernel_rfl,rfl,by kernel_rfl,by kernel_rfl⟩
def tb15:List PE:=[]
theorem tb15_ok:PEsOk Try.prog tb15:=trivial
def ex15:List EX:=[]
theorem ex15_ok:EXsOk Try.prog ex15:=trivial
def in15:List IN:=[]
theorem in15_ok:INsOk Try.prog in15:=trivial
def F15:DT ((.co (.v .s) .no):Fm).den→Option (DT (.v .b:Fm).den):=pureT tb15 ex15 in15 0 xf15 _ _ []
def pe15:PE:=⟨15,(.co (.v .s) .no),.v .b,F15⟩
theorem pe15_ok:pe15.ok Try.prog:=pe_of hm tb15_ok ex15_ok in15_ok xf15_ok (by kernel_rfl) (fun _=>rfl)
def xf75:FX:=⟨(.seq (.reg [(xi 1 (.box 0 15 (.t 0))),(xi 2 (.mov (.c (.v (.bool false)))))]) (.seq (.reg [(xi 3 (.fad 12 (.t 1))),(xi 4 (.load false 1 (.t 3))),(xi 5 (.call 1 15 [(.t 4)])),(xm 2 5)]) .ret)),[1,5],6,[.t 2],3⟩
theorem xf75_ok:xf75.ok Try.prog 75:=⟨_,_,Try.func75,rfl,by kernel_rfl,rfl,by kernel_rfl,rfl,by kernel_rfl,by kernel_rfl⟩
def tb75:List PE:=[pe15]
theorem tb75_ok:PEsOk Try.prog tb75:=⟨pe15_ok,trivial⟩
def ex75:List EX:=[]
theorem ex75_ok:EXsOk Try.prog ex75:=trivial
def in75:List IN:=[]
theorem in75_ok:INsOk Try.prog in75:=trivial
def F75:DT ((.co (.v tzb1) .no):Fm).den→Option (DT (.v .b:Fm).den):=pureT tb75 ex75 in75 0 xf75 _ _ []
def pe75:PE:=⟨75,(.co (.v tzb1) .no),.v .b,F75⟩
theorem pe75_ok:pe75.ok Try.prog:=pe_of hm tb75_ok ex75_ok in75_ok xf75_ok (by kernel_rfl) (fun _=>rfl)
def xf88:FX:=⟨(.seq (.reg [⟨⟨(some 2),(.mov (.c (.v (.string ⟨#[]⟩)))),none⟩,.b,[],[]⟩,(xi 3 (.mov (.c (.v (.int .i64 0)))))]) (.seq (.seq (.reg [(xm 4 0),(xi 5 (.lenS (.t 4))),(xi 6 (.bin .gtr (.t 5) (.c (.v (.int .i64 200)))))]) (.cond (.t 6) (.seq (.reg [⟨⟨(some 2),(.mov (.c (.v (.string ⟨#[]⟩)))),none⟩,.b,[],[]⟩,(xi 3 (.mov (.c (.v (.int .i64 4)))))]) .ret) .skip)) (.seq (.reg [(xm 7 0),(xi 8 (.lenS (.t 7))),(xi 9 (.conv .u64 (.t 8))),(xi 10 (.bsl 1 (.v (.int .u64 0)) 1 [(0,(.t 9))])),(xi 11 (.call 0 22 [(.t 10)])),(xm 12 0),(xi 13 (.bin .add (.t 11) (.t 12))),(xm 2 13),(xi 3 (.mov (.c (.v (.int .i64 0)))))]) .ret))),[11],14,[.t 2,.t 3],2⟩
theorem xf88_ok:xf88.ok Try.prog 88:=⟨_,_,Try.func88,rfl,by kernel_rfl,rfl,by kernel_rfl,rfl,by kernel_rfl,by kernel_rfl⟩
def tb88:List PE:=[pe22]
theorem tb88_ok:PEsOk Try.prog tb88:=⟨pe22_ok,trivial⟩
def ex88:List EX:=[]
theorem ex88_ok:EXsOk Try.prog ex88:=trivial
def in88:List IN:=[]
theorem in88_ok:INsOk Try.prog in88:=trivial
def F88:DT ((.co (.v .s) .no):Fm).den→Option (DT (.tup (.co (.v .s) (.co (.v (.i .i64)) .no)):Fm).den):=pureT tb88 ex88 in88 0 xf88 _ _ []
def pe88:PE:=⟨88,(.co (.v .s) .no),.tup (.co (.v .s) (.co (.v (.i .i64)) .no)),F88⟩
theorem pe88_ok:pe88.ok Try.prog:=pe_of hm tb88_ok ex88_ok in88_ok xf88_ok (by kernel_rfl) (fun _=>rfl)
def xf76:FX:=⟨(.seq (.reg [(xi 1 (.box 0 15 (.t 0))),⟨⟨(some 2),(.mov (.c (.v (.string ⟨#[]⟩)))),none⟩,.b,[],[]⟩]) (.seq (.reg [(xi 6 (.fad 12 (.t 1))),(xi 7 (.load false 1 (.t 6))),(xi 8 (.call 1 88 [(.t 7)])),(xm 5 8),(xi 9 (.ext (.t 5) 0)),(xi 10 (.ext (.t 5) 1)),(xm 3 9),(xm 4 10)]) (.seq (.seq (.reg [(xm 11 4),(xi 12 (.bin .neq (.t 11) (.c (.v (.int .i64 0)))))]) (.cond (.t 12) (.seq (.reg [⟨⟨(some 2),(.mov (.c (.v (.string ⟨#[]⟩)))),none⟩,.b,[],[]⟩]) .ret) .skip)) (.seq (.reg [(xm 13 3),(xm 2 13)]) .ret)))),[1,8],14,[.t 2],3⟩
theorem xf76_ok:xf76.ok Try.prog 76:=⟨_,_,Try.func76,rfl,by kernel_rfl,rfl,by kernel_rfl,rfl,by kernel_rfl,by kernel_rfl⟩
def tb76:List PE:=[pe88]
theorem tb76_ok:PEsOk Try.prog tb76:=⟨pe88_ok,trivial⟩
def ex76:List EX:=[]
theorem ex76_ok:EXsOk Try.prog ex76:=trivial
def in76:List IN:=[]
theorem in76_ok:INsOk Try.prog in76:=trivial
def F76:DT ((.co (.v tzb1) .no):Fm).den→Option (DT (.v .s:Fm).den):=pureT tb76 ex76 in76 0 xf76 _ _ []
def pe76:PE:=⟨76,(.co (.v tzb1) .no),.v .s,F76⟩
theorem pe76_ok:pe76.ok Try.prog:=pe_of hm tb76_ok ex76_ok in76_ok xf76_ok (by kernel_rfl) (fun _=>rfl)
def xf89:FX:=⟨(.seq (.reg [⟨⟨(some 4),(.mov (.c (.v (.string ⟨#[]⟩)))),none⟩,.b,[],[]⟩,(xi 5 (.mov (.c (.v (.int .i64 0))))),(xi 6 (.mov (.c (.v (.int .i64 0)))))]) (.seq (.reg [(xm 11 0),(xm 12 1),(xi 13 (.call 0 85 [(.t 11),(.t 12)])),(xm 10 13),(xi 14 (.ext (.t 10) 0)),(xi 15 (.ext (.t 10) 1)),(xi 16 (.ext (.t 10) 2)),(xm 7 14),(xm 1 15),(xm 8 16)]) (.seq (.blk 0 (.seq (.reg [(xm 18 8),(xi 19 (.bin .neq (.t 18) (.c (.v (.int .i64 0))))),(xm 17 19)]) (.cond (.t 17) (.seq (.reg [(xm 20 8),⟨⟨(some 4),(.mov (.c (.v (.string ⟨#[]⟩)))),none⟩,.b,[],[]⟩,(xi 5 (.mov (.c (.v (.int .i64 0))))),(xm 6 20)]) .ret) (.seq (.reg [(xm 22 7),(xi 23 (.bin .gtr (.t 22) (.c (.v (.int .u64 200))))),(xm 21 23)]) (.cond (.t 21) (.seq (.reg [⟨⟨(some 4),(.mov (.c (.v (.string ⟨#[]⟩)))),none⟩,.b,[],[]⟩,(xi 5 (.mov (.c (.v (.int .i64 0))))),(xi 6 (.mov (.c (.v (.int .i64 4)))))]) .ret) (.seq (.reg [(xm 25 7),(xi 26 (.conv .i64 (.t 25))),(xm 27 0),(xi 28 (.lenS (.t 27))),(xm 29 1),(xi 30 (.bin .sub (.t 28) (.t 29))),(xi 31 (.bin .gtr (.t 26) (.t 30))),(xm 24 31)]) (.cond (.t 24) (.seq (.reg [⟨⟨(some 4),(.mov (.c (.v (.string ⟨#[]⟩)))),none⟩,.b,[],[]⟩,(xi 5 (.mov (.c (.v (.int .i64 0))))),(xi 6 (.mov (.c (.v (.int .i64 3)))))]) .ret) .skip))))))) (.seq (.reg [(xm 32 1),(xm 33 7),(xi 34 (.conv .i64 (.t 33))),(xi 35 (.bin .add (.t 32) (.t 34))),(xm 9 35)]) (.seq (.reg [(xm 36 0),(xm 37 1),(xm 38 9),(xi 39 (.slS (.t 36) (some (.t 37)) (some (.t 38)))),(xm 40 9),(xm 4 39),(xm 5 40),(xi 6 (.mov (.c (.v (.int .i64 0)))))]) .ret))))),[13],41,[.t 4,.t 5,.t 6],2⟩
theorem xf89_ok:xf89.ok Try.prog 89:=⟨_,_,Try.func89,rfl,by kernel_rfl,rfl,by kernel_rfl,rfl,by kernel_rfl,by kernel_rfl⟩
def tb89:List PE:=[pe85]
theorem tb89_ok:PEsOk Try.prog tb89:=⟨pe85_ok,trivial⟩
def ex89:List EX:=[]
theorem ex89_ok:EXsOk Try.prog ex89:=trivial
def in89:List IN:=[]
theorem in89_ok:INsOk Try.prog in89:=trivial
def F89:DT ((.co (.v .s) (.co (.v (.i .i64)) .no)):Fm).den→Option (DT (.tup (.co (.v .s) (.co (.v (.i .i64)) (.co (.v (.i .i64)) .no))):Fm).den):=pureT tb89 ex89 in89 0 xf89 _ _ []
def pe89:PE:=⟨89,(.co (.v .s) (.co (.v (.i .i64)) .no)),.tup (.co (.v .s) (.co (.v (.i .i64)) (.co (.v (.i .i64)) .no))),F89⟩
theorem pe89_ok:pe89.ok Try.prog:=pe_of hm tb89_ok ex89_ok in89_ok xf89_ok (by kernel_rfl) (fun _=>rfl)
def xf79:FX:=⟨(.seq (.reg [(xi 2 (.mov (.c (.v (.int .u64 0)))))]) (.seq (.seq (.reg [(xm 3 0)]) (.cond (.t 3) (.seq (.reg [(xi 2 (.mov (.c (.v (.int .u64 1)))))]) .ret) .skip)) (.seq (.reg [(xi 2 (.mov (.c (.v (.int .u64 0)))))]) .ret))),[],4,[.t 2],1⟩
theorem xf79_ok:xf79.ok Try.prog 79:=⟨_,_,Try.func79,rfl,by kernel_rfl,rfl,by kernel_rfl,rfl,by kernel_rfl,by kernel_rfl⟩
def tb79:List PE:=[]
theorem tb79_ok:PEsOk Try.prog tb79:=trivial
def ex79:List EX:=[]
theorem ex79_ok:EXsOk Try.prog ex79:=trivial
def in79:List IN:=[]
theorem in79_ok:INsOk Try.prog in79:=trivial
def F79:DT ((.co (.v .b) .no):Fm).den→Option (DT (.v (.i .u64):Fm).den):=pureT tb79 ex79 in79 0 xf79 _ _ []
def pe79:PE:=⟨79,(.co (.v .b) .no),.v (.i .u64),F79⟩
theorem pe79_ok:pe79.ok Try.prog:=pe_of hm tb79_ok ex79_ok in79_ok xf79_ok (by kernel_rfl) (fun _=>rfl)
def xf78:FX:=⟨(.seq (.reg [(xi 1 (.box 0 15 (.t 0))),⟨⟨(some 2),(.mov (.c (.v (.string ⟨#[]⟩)))),none⟩,.b,[],[]⟩]) (.seq (.reg [(xi 3 (.fad 14 (.t 1))),(xi 4 (.load false 1 (.t 3))),(xi 5 (.call 1 79 [(.t 4)])),(xi 6 (.bsl 1 (.v (.int .u64 0)) 1 [(0,(.t 5))])),(xi 7 (.call 2 22 [(.t 6)])),(xm 2 7)]) .ret)),[1,5,7],8,[.t 2],4⟩
theorem xf78_ok:xf78.ok Try.prog 78:=⟨_,_,Try.func78,rfl,by kernel_rfl,rfl,by kernel_rfl,rfl,by kernel_rfl,by kernel_rfl⟩
def tb78:List PE:=[pe22,pe79]
theorem tb78_ok:PEsOk Try.prog tb78:=⟨pe22_ok,pe79_ok,trivial⟩
def ex78:List EX:=[]
theorem ex78_ok:EXsOk Try.prog ex78:=trivial
def in78:List IN:=[]
theorem in78_ok:INsOk Try.prog in78:=trivial
def F78:DT ((.co (.v tzb1) .no):Fm).den→Option (DT (.v .s:Fm).den):=pureT tb78 ex78 in78 0 xf78 _ _ []
def pe78:PE:=⟨78,(.co (.v tzb1) .no),.v .s,F78⟩
theorem pe78_ok:pe78.ok Try.prog:=pe_of hm tb78_ok ex78_ok in78_ok xf78_ok (by kernel_rfl) (fun _=>rfl)
def xf24:FX:=⟨(.seq (.reg [(xi 2 (.mov (.c (.sl true []))))]) (.seq (.reg [(xi 3 (.mkm 0)),⟨⟨(some 4),(.bsl 1 (.v (.string ⟨#[]⟩)) 3 [(0,(.c (.v (.string ⟨#[115,101,113]⟩)))),(1,(.c (.v (.string ⟨#[107]⟩)))),(2,(.c (.v (.string ⟨#[110,101,119,115]⟩))))]),none⟩,.b,[],[]⟩,(xz (.mup .i (.t 3) (.c (.v (.int .i64 1))) (.t 4))),⟨⟨(some 5),(.bsl 1 (.v (.string ⟨#[]⟩)) 3 [(0,(.c (.v (.string ⟨#[115,101,113]⟩)))),(1,(.c (.v (.string ⟨#[119,104,111]⟩)))),(2,(.c (.v (.string ⟨#[110,101,119,115]⟩))))]),none⟩,.b,[],[]⟩,(xz (.mup .i (.t 3) (.c (.v (.int .i64 2))) (.t 5))),⟨⟨(some 6),(.bsl 1 (.v (.string ⟨#[]⟩)) 4 [(0,(.c (.v (.string ⟨#[115,101,113]⟩)))),(1,(.c (.v (.string ⟨#[119,104,111]⟩)))),(2,(.c (.v (.string ⟨#[107]⟩)))),(3,(.c (.v (.string ⟨#[110,101,119,115]⟩))))]),none⟩,.b,[],[]⟩,(xz (.mup .i (.t 3) (.c (.v (.int .i64 3))) (.t 6))),⟨⟨(some 7),(.bsl 1 (.v (.string ⟨#[]⟩)) 2 [(0,(.c (.v (.string ⟨#[115,101,113]⟩)))),(1,(.c (.v (.string ⟨#[119,104,111]⟩))))]),none⟩,.b,[],[]⟩,(xz (.mup .i (.t 3) (.c (.v (.int .i64 4))) (.t 7))),⟨⟨(some 8),(.bsl 1 (.v (.string ⟨#[]⟩)) 1 [(0,(.c (.v (.string ⟨#[116,97,98,108,101]⟩))))]),none⟩,.b,[],[]⟩,(xz (.mup .i (.t 3) (.c (.v (.int .i64 5))) (.t 8))),⟨⟨(some 9),(.bsl 1 (.v (.string ⟨#[]⟩)) 1 [(0,(.c (.v (.string ⟨#[116,97,98,108,101]⟩))))]),none⟩,.b,[],[]⟩,(xz (.mup .i (.t 3) (.c (.v (.int .i64 6))) (.t 9))),⟨⟨(some 10),(.bsl 1 (.v (.string ⟨#[]⟩)) 3 [(0,(.c (.v (.string ⟨#[101,112,111,99,104]⟩)))),(1,(.c (.v (.string ⟨#[98,111,111,116]⟩)))),(2,(.c (.v (.string ⟨#[97,115,107,101,100]⟩))))]),none⟩,.b,[],[]⟩,(xz (.mup .i (.t 3) (.c (.v (.int .i64 7))) (.t 10))),⟨⟨(some 11),(.bsl 1 (.v (.string ⟨#[]⟩)) 3 [(0,(.c (.v (.string ⟨#[101,112,111,99,104]⟩)))),(1,(.c (.v (.string ⟨#[98,111,111,116]⟩)))),(2,(.c (.v (.string ⟨#[97,115,107,101,100]⟩))))]),none⟩,.b,[],[]⟩,(xz (.mup .i (.t 3) (.c (.v (.int .i64 8))) (.t 11))),⟨⟨(some 12),(.bsl 1 (.v (.string ⟨#[]⟩)) 2 [(0,(.c (.v (.string ⟨#[101,112,111,99,104]⟩)))),(1,(.c (.v (.string ⟨#[98,111,111,116]⟩))))]),none⟩,.b,[],[]⟩,(xz (.mup .i (.t 3) (.c (.v (.int .i64 9))) (.t 12))),⟨⟨(some 13),(.bsl 1 (.v (.string ⟨#[]⟩)) 2 [(0,(.c (.v (.string ⟨#[98,111,111,116]⟩)))),(1,(.c (.v (.string ⟨#[97,115,107,101,100]⟩))))]),none⟩,.b,[],[]⟩,(xz (.mup .i (.t 3) (.c (.v (.int .i64 10))) (.t 13))),⟨⟨(some 14),(.bsl 1 (.v (.string ⟨#[]⟩)) 5 [(0,(.c (.v (.string ⟨#[101,112,111,99,104]⟩)))),(1,(.c (.v (.string ⟨#[98,111,111,116]⟩)))),(2,(.c (.v (.string ⟨#[97,115,107,101,100]⟩)))),(3,(.c (.v (.string ⟨#[116,97,115,107]⟩)))),(4,(.c (.v (.string ⟨#[116,111,107,101,110]⟩))))]),none⟩,.b,[],[]⟩,(xz (.mup .i (.t 3) (.c (.v (.int .i64 11))) (.t 14))),⟨⟨(some 15),(.bsl 1 (.v (.string ⟨#[]⟩)) 3 [(0,(.c (.v (.string ⟨#[116,97,115,107]⟩)))),(1,(.c (.v (.string ⟨#[116,111,107,101,110]⟩)))),(2,(.c (.v (.string ⟨#[103,111,111,100]⟩))))]),none⟩,.b,[],[]⟩,(xz (.mup .i (.t 3) (.c (.v (.int .i64 12))) (.t 15))),(xm 16 3),(xm 17 0),(xi 18 (.lkp false .i (.sl true []) (.t 16) (.t 17))),(xm 2 18)]) .ret)),[3],19,[.t 2],2⟩
theorem xf24_ok:xf24.ok Try.prog 24:=⟨_,_,Try.func24,rfl,by kernel_rfl,rfl,by kernel_rfl,rfl,by kernel_rfl,by kernel_rfl⟩
def tb24:List PE:=[]
theorem tb24_ok:PEsOk Try.prog tb24:=trivial
def ex24:List EX:=[]
theorem ex24_ok:EXsOk Try.prog ex24:=trivial
def in24:List IN:=[]
theorem in24_ok:INsOk Try.prog in24:=trivial
def F24:DT ((.co (.v (.i .i64)) .no):Fm).den→Option (DT (.v (.sl .s):Fm).den):=pureT tb24 ex24 in24 0 xf24 _ _ []
def pe24:PE:=⟨24,(.co (.v (.i .i64)) .no),.v (.sl .s),F24⟩
theorem pe24_ok:pe24.ok Try.prog:=pe_of hm tb24_ok ex24_ok in24_ok xf24_ok (by kernel_rfl) (fun _=>rfl)
def xf27:FX:=⟨(.seq (.reg [(xi 1 (.box 0 15 (.t 0))),⟨⟨(some 2),(.alloc 1 (.agg [(.v (.int .i64 0)),(.v (.int .i64 0)),(.v (.int .i64 0)),(.v (.int .u64 0)),(.v (.int .i64 0)),(.v (.int .u64 0)),(.v (.int .i64 0)),(.sl true []),(.sl true []),(.v (.int .u64 0)),(.v (.int .u64 0)),(.v (.int .i64 0)),(.v (.string ⟨#[]⟩)),(.v (.int .u64 0)),(.v (.bool false))])),none⟩,.b,[],[]⟩]) (.seq (.reg [(xi 6 (.fad 0 (.t 1))),(xi 7 (.load false 1 (.t 6))),(xi 8 (.fad 1 (.t 1))),(xi 9 (.load false 1 (.t 8))),(xi 10 (.fad 2 (.t 1))),(xi 11 (.load false 1 (.t 10))),⟨⟨(some 12),(.bld [(.v (.int .i64 0)),(.v (.int .i64 0)),(.v (.int .i64 0)),(.v (.int .u64 0)),(.v (.int .i64 0)),(.v (.int .u64 0)),(.v (.int .i64 0)),(.sl true []),(.sl true []),(.v (.int .u64 0)),(.v (.int .u64 0)),(.v (.int .i64 0)),(.v (.string ⟨#[]⟩)),(.v (.int .u64 0)),(.v (.bool false))] [(0,1,(.t 7)),(1,1,(.t 9)),(2,1,(.t 11))]),none⟩,.b,[],[]⟩,⟨⟨(some 3),(.alloc 2 (.agg [(.v (.int .i64 0)),(.v (.int .i64 0)),(.v (.int .i64 0)),(.v (.int .u64 0)),(.v (.int .i64 0)),(.v (.int .u64 0)),(.v (.int .i64 0)),(.sl true []),(.sl true []),(.v (.int .u64 0)),(.v (.int .u64 0)),(.v (.int .i64 0)),(.v (.string ⟨#[]⟩)),(.v (.int .u64 0)),(.v (.bool false))])),none⟩,.b,[],[]⟩,(xz (.store 15 (.t 3) (.t 12)))]) (.seq (.seq (.reg [(xi 13 (.fad 0 (.t 1))),(xi 14 (.load false 1 (.t 13))),(xi 15 (.call 3 24 [(.t 14)])),(xi 16 (.len (.t 15))),(xi 17 (.mov (.c (.v (.int .i64 0)))))]) (.blk 0 (.loop ⟨[5,17,18,19,20,21,22,23,24,25,26,27,28,29,30,31,32,33,34,35,36,37,38,39,40,41,42,43,44,45,46,47,48,49,50,51,52,53,54,55,56,57,58,59,60,61,62,63,64,65,66,67,68,69,70,71,72,73,74,75,76,77],[2],⟨[],[(17,.v (.i .i64))],[⟨2,.row (.v tzb1),true⟩]⟩⟩ (.seq (.reg [(xi 18 (.bin .lss (.t 17) (.t 16)))]) (.seq (.cond (.t 18) .skip (.exit 0)) (.seq (.cutN ⟨[5,19,20,21,22,23,24,25,26,27,28,29,30,31,32,33,34,35,36,37,38,39,40,41,42,43,44,45,46,47,48,49,50,51,52,53,54,55,56,57,58,59,60,61,62,63,64,65,66,67,68,69,70,71,72,73,74,75,76],[2],⟨[],[],[⟨2,.row (.v tzb1),true⟩]⟩⟩ (.blk 1 (.seq (.reg [(xi 19 (.iad 1 (.t 15) (.t 17))),(xi 20 (.load false 1 (.t 19))),(xm 5 20)]) (.seq (.reg [(xm 21 5)]) (.blk 2 (.seq (.reg [⟨⟨(some 23),(.bin .eql (.t 21) (.c (.v (.string ⟨#[115,101,113]⟩)))),none⟩,.b,[],[]⟩,(xm 22 23)]) (.cond (.t 22) (.reg [(xi 24 (.fad 3 (.t 1))),(xi 25 (.load false 1 (.t 24))),(xi 26 (.fad 3 (.t 3))),(xz (.store 1 (.t 26) (.t 25)))]) (.seq (.reg [⟨⟨(some 28),(.bin .eql (.t 21) (.c (.v (.string ⟨#[119,104,111]⟩)))),none⟩,.b,[],[]⟩,(xm 27 28)]) (.cond (.t 27) (.reg [(xi 29 (.fad 4 (.t 1))),(xi 30 (.load false 1 (.t 29))),(xi 31 (.fad 4 (.t 3))),(xz (.store 1 (.t 31) (.t 30)))]) (.seq (.reg [⟨⟨(some 33),(.bin .eql (.t 21) (.c (.v (.string ⟨#[107]⟩)))),none⟩,.b,[],[]⟩,(xm 32 33)]) (.cond (.t 32) (.reg [(xi 34 (.fad 5 (.t 1))),(xi 35 (.load true 2 (.t 34))),(xi 36 (.fad 5 (.t 3))),(xz (.store 2 (.t 36) (.t 35)))]) (.seq (.reg [⟨⟨(some 38),(.bin .eql (.t 21) (.c (.v (.string ⟨#[110,101,119,115]⟩)))),none⟩,.b,[],[]⟩,(xm 37 38)]) (.cond (.t 37) (.reg [(xi 39 (.fad 7 (.t 1))),(xi 40 (.load false 1 (.t 39))),(xi 41 (.fad 7 (.t 3))),(xz (.store 1 (.t 41) (.t 40)))]) (.seq (.reg [⟨⟨(some 43),(.bin .eql (.t 21) (.c (.v (.string ⟨#[116,97,98,108,101]⟩)))),none⟩,.b,[],[]⟩,(xm 42 43)]) (.cond (.t 42) (.reg [(xi 44 (.fad 8 (.t 1))),(xi 45 (.load false 1 (.t 44))),(xi 46 (.fad 8 (.t 3))),(xz (.store 1 (.t 46) (.t 45)))]) (.seq (.reg [⟨⟨(some 48),(.bin .eql (.t 21) (.c (.v (.string ⟨#[101,112,111,99,104]⟩)))),none⟩,.b,[],[]⟩,(xm 47 48)]) (.cond (.t 47) (.reg [(xi 49 (.fad 9 (.t 1))),(xi 50 (.load false 1 (.t 49))),(xi 51 (.fad 9 (.t 3))),(xz (.store 1 (.t 51) (.t 50)))]) (.seq (.reg [⟨⟨(some 53),(.bin .eql (.t 21) (.c (.v (.string ⟨#[98,111,111,116]⟩)))),none⟩,.b,[],[]⟩,(xm 52 53)]) (.cond (.t 52) (.reg [(xi 54 (.fad 10 (.t 1))),(xi 55 (.load false 1 (.t 54))),(xi 56 (.fad 10 (.t 3))),(xz (.store 1 (.t 56) (.t 55)))]) (.seq (.reg [⟨⟨(some 58),(.bin .eql (.t 21) (.c (.v (.string ⟨#[97,115,107,101,100]⟩)))),none⟩,.b,[],[]⟩,(xm 57 58)]) (.cond (.t 57) (.reg [(xi 59 (.fad 11 (.t 1))),(xi 60 (.load false 1 (.t 59))),(xi 61 (.fad 11 (.t 3))),(xz (.store 1 (.t 61) (.t 60)))]) (.seq (.reg [⟨⟨(some 63),(.bin .eql (.t 21) (.c (.v (.string ⟨#[116,97,115,107]⟩)))),none⟩,.b,[],[]⟩,(xm 62 63)]) (.cond (.t 62) (.reg [(xi 64 (.fad 12 (.t 1))),(xi 65 (.load false 1 (.t 64))),(xi 66 (.fad 12 (.t 3))),(xz (.store 1 (.t 66) (.t 65)))]) (.seq (.reg [⟨⟨(some 68),(.bin .eql (.t 21) (.c (.v (.string ⟨#[116,111,107,101,110]⟩)))),none⟩,.b,[],[]⟩,(xm 67 68)]) (.cond (.t 67) (.reg [(xi 69 (.fad 13 (.t 1))),(xi 70 (.load false 1 (.t 69))),(xi 71 (.fad 13 (.t 3))),(xz (.store 1 (.t 71) (.t 70)))]) (.seq (.reg [⟨⟨(some 73),(.bin .eql (.t 21) (.c (.v (.string ⟨#[103,111,111,100]⟩)))),none⟩,.b,[],[]⟩,(xm 72 73)]) (.cond (.t 72) (.reg [(xi 74 (.fad 14 (.t 1))),(xi 75 (.load false 1 (.t 74))),(xi 76 (.fad 14 (.t 3))),(xz (.store 1 (.t 76) (.t 75)))]) .skip))))))))))))))))))))))))))) (.reg [(xi 77 (.bin .add (.t 17) (.c (.v (.int .i64 1))))),(xm 17 77)]))))))) (.seq (.reg [(xi 78 (.load true 15 (.t 3))),(xz (.store 15 (.t 2) (.t 78)))]) .ret)))),[1,2,3,15],79,[.c 2 28 true 15],5⟩
theorem xf27_ok:xf27.ok Try.prog 27:=⟨_,_,Try.func27,rfl,by kernel_rfl,rfl,by kernel_rfl,rfl,by kernel_rfl,by kernel_rfl⟩
def tb27:List PE:=[pe24]
theorem tb27_ok:PEsOk Try.prog tb27:=⟨pe24_ok,trivial⟩
def ex27:List EX:=[]
theorem ex27_ok:EXsOk Try.prog ex27:=trivial
def in27:List IN:=[]
theorem in27_ok:INsOk Try.prog in27:=trivial
def F27:DT ((.co (.v tzb1) .no):Fm).den→Option (DT (.v tzb1:Fm).den):=pureT tb27 ex27 in27 0 xf27 _ _ []
def pe27:PE:=⟨27,(.co (.v tzb1) .no),.v tzb1,F27⟩
theorem pe27_ok:pe27.ok Try.prog:=pe_of hm tb27_ok ex27_ok in27_ok xf27_ok (by kernel_rfl) (fun _=>rfl)
def xf11:FX:=⟨(.seq (.reg [(xi 1 (.box 0 15 (.t 0))),(xi 2 (.mov (.c (.v (.int .i64 0)))))]) (.seq (.cut ⟨[2,6,7,8,9,10,11,12,13,14,15,16,17,18,19,20,21,22,23,24,25,26,27,28,29,30,31,32,33,34,35,36,37,38,39],[],⟨[],[],[]⟩⟩ (.seq (.cutN ⟨[6,7,8,9,10,11,12,13,14,15,16,17,18,19,20,21,22,23,24,25,26,27,28,29,30,31,32,33,34,35,36,37,38,39],[],⟨[],[(39,.v .b)],[]⟩⟩ (.dr [(28,30)] [(xi 6 (.fad 0 (.t 1))),(xi 7 (.load false 1 (.t 6))),(xi 8 (.bin .lss (.t 7) (.c (.v (.int .i64 1))))),(xm 9 8),(xg 10 (.fad 0 (.t 1)) 9 false),(xg 11 (.load false 1 (.t 10)) 9 false),(xg 12 (.bin .gtr (.t 11) (.c (.v (.int .i64 12)))) 9 false),(xi 13 (.pick (.t 9) (.c (.v (.bool true))) (.t 12))),(xm 14 13),(xg 15 (.fad 1 (.t 1)) 14 false),(xg 16 (.load false 1 (.t 15)) 14 false),(xg 17 (.callG 1 26 [(.t 16)]) 14 false),(xg 18 (.un .not (.t 17)) 14 false),(xi 19 (.pick (.t 14) (.c (.v (.bool true))) (.t 18))),(xm 20 19),(xg 21 (.fad 2 (.t 1)) 20 false),(xg 22 (.load false 1 (.t 21)) 20 false),(xg 23 (.callG 2 26 [(.t 22)]) 20 false),(xg 24 (.un .not (.t 23)) 20 false),(xi 25 (.pick (.t 20) (.c (.v (.bool true))) (.t 24))),(xm 26 25),(xg 27 (.fad 1 (.t 1)) 26 false),(xg 28 (.load false 1 (.t 27)) 26 false),(xg 29 (.fad 2 (.t 1)) 26 false),(xg 30 (.load false 1 (.t 29)) 26 false),(xg 31 (.bin .eql (.t 28) (.t 30)) 26 false),(xi 32 (.pick (.t 26) (.c (.v (.bool true))) (.t 31))),(xm 33 32),(xg 34 (.load true 15 (.t 1)) 33 false),(xg 35 (.load true 15 (.t 1)) 33 false),(xg 36 (.callG 3 27 [(.t 35)]) 33 false),(xg 37 (.callG 4 13 [(.t 34),(.t 36)]) 33 false),(xg 38 (.un .not (.t 37)) 33 false),(xi 39 (.pick (.t 33) (.c (.v (.bool true))) (.t 38)))])) (.cond (.t 39) (.seq (.reg [(xi 2 (.mov (.c (.v (.int .i64 1)))))]) .ret) .skip))) (.seq (.reg [(xi 40 (.call 5 23 [])),(xm 3 40)]) (.seq (.seq (.reg [(xi 41 (.fad 0 (.t 1))),(xi 42 (.load false 1 (.t 41))),(xi 43 (.call 6 24 [(.t 42)])),(xi 44 (.len (.t 43))),(xi 45 (.mov (.c (.v (.int .i64 0)))))]) (.blk 0 (.loop ⟨[2,5,45,46,47,48,49,50,51,52,53,54,55,56],[],⟨[],[(45,.v (.i .i64))],[]⟩⟩ (.seq (.reg [(xi 46 (.bin .lss (.t 45) (.t 44)))]) (.seq (.cond (.t 46) .skip (.exit 0)) (.seq (.blk 1 (.seq (.reg [(xi 47 (.iad 1 (.t 43) (.t 45))),(xi 48 (.load false 1 (.t 47))),(xm 5 48)]) (.seq (.reg [(xm 49 3),(xm 50 5),(xi 51 (.lkp false .s (.agg [(.v .nilFunc),(.v .nilFunc),(.v .nilFunc)]) (.t 49) (.t 50))),(xi 52 (.fld false 0 1 (.t 51))),(xi 53 (.load true 15 (.t 1))),(xi 54 (.callv 7 (.t 52) [(.t 53)])),(xi 55 (.un .not (.t 54)))]) (.cond (.t 55) (.seq (.reg [(xi 2 (.mov (.c (.v (.int .i64 1)))))]) .ret) .skip)))) (.reg [(xi 56 (.bin .add (.t 45) (.c (.v (.int .i64 1))))),(xm 45 56)]))))))) (.seq (.reg [(xi 2 (.mov (.c (.v (.int .i64 0)))))]) .ret))))),[1,17,23,36,37,40,43,54],57,[.t 2],27⟩
theorem xf11_ok:xf11.ok Try.prog 11:=⟨_,_,Try.func11,rfl,by kernel_rfl,rfl,by kernel_rfl,rfl,by kernel_rfl,by kernel_rfl⟩
def ff23:FX:=⟨(.seq (.reg [(xi 0 (.mov (.c (.v (.map none)))))]) (.seq (.reg [(xi 1 (.mov (.c (.clo 46 [] []))))]) (.seq (.reg [(xi 2 (.mkm 0)),(xm 3 1),(xi 4 (.callv 1 (.t 3) [(.c (.clo 51 [] []))])),⟨⟨none,(.mup .s (.t 2) (.c (.v (.string ⟨#[115,101,113]⟩))) (.t 4)),none⟩,.b,[],[]⟩,(xm 5 1),(xi 6 (.callv 2 (.t 5) [(.c (.clo 52 [] []))])),⟨⟨none,(.mup .s (.t 2) (.c (.v (.string ⟨#[101,112,111,99,104]⟩))) (.t 6)),none⟩,.b,[],[]⟩,(xm 7 1),(xi 8 (.callv 3 (.t 7) [(.c (.clo 53 [] []))])),⟨⟨none,(.mup .s (.t 2) (.c (.v (.string ⟨#[98,111,111,116]⟩))) (.t 8)),none⟩,.b,[],[]⟩,(xm 9 1),(xi 10 (.callv 4 (.t 9) [(.c (.clo 54 [] []))])),⟨⟨none,(.mup .s (.t 2) (.c (.v (.string ⟨#[116,111,107,101,110]⟩))) (.t 10)),none⟩,.b,[],[]⟩,(xi 11 (.bld [(.v .nilFunc),(.v .nilFunc),(.v .nilFunc)] [(0,1,(.c (.clo 55 [] []))),(1,1,(.c (.clo 56 [] []))),(2,1,(.c (.clo 57 [] [])))])),⟨⟨none,(.mup .s (.t 2) (.c (.v (.string ⟨#[119,104,111]⟩))) (.t 11)),none⟩,.b,[],[]⟩,(xi 12 (.bld [(.v .nilFunc),(.v .nilFunc),(.v .nilFunc)] [(0,1,(.c (.clo 58 [] []))),(1,1,(.c (.clo 60 [] []))),(2,1,(.c (.clo 62 [] [])))])),⟨⟨none,(.mup .s (.t 2) (.c (.v (.string ⟨#[107]⟩))) (.t 12)),none⟩,.b,[],[]⟩,(xi 13 (.bld [(.v .nilFunc),(.v .nilFunc),(.v .nilFunc)] [(0,1,(.c (.clo 64 [] []))),(1,1,(.c (.clo 65 [] []))),(2,1,(.c (.clo 66 [] [])))])),⟨⟨none,(.mup .s (.t 2) (.c (.v (.string ⟨#[110,101,119,115]⟩))) (.t 13)),none⟩,.b,[],[]⟩,(xi 14 (.bld [(.v .nilFunc),(.v .nilFunc),(.v .nilFunc)] [(0,1,(.c (.clo 67 [] []))),(1,1,(.c (.clo 69 [] []))),(2,1,(.c (.clo 70 [] [])))])),⟨⟨none,(.mup .s (.t 2) (.c (.v (.string ⟨#[116,97,98,108,101]⟩))) (.t 14)),none⟩,.b,[],[]⟩,(xi 15 (.bld [(.v .nilFunc),(.v .nilFunc),(.v .nilFunc)] [(0,1,(.c (.clo 72 [] []))),(1,1,(.c (.clo 73 [] []))),(2,1,(.c (.clo 74 [] [])))])),⟨⟨none,(.mup .s (.t 2) (.c (.v (.string ⟨#[97,115,107,101,100]⟩))) (.t 15)),none⟩,.b,[],[]⟩,(xi 16 (.bld [(.v .nilFunc),(.v .nilFunc),(.v .nilFunc)] [(0,1,(.c (.clo 75 [] []))),(1,1,(.c (.clo 76 [] []))),(2,1,(.c (.clo 77 [] [])))])),⟨⟨none,(.mup .s (.t 2) (.c (.v (.string ⟨#[116,97,115,107]⟩))) (.t 16)),none⟩,.b,[],[]⟩,(xi 17 (.bld [(.v .nilFunc),(.v .nilFunc),(.v .nilFunc)] [(0,1,(.c (.clo 47 [] []))),(1,1,(.c (.clo 78 [] []))),(2,1,(.c (.clo 80 [] [])))])),⟨⟨none,(.mup .s (.t 2) (.c (.v (.string ⟨#[103,111,111,100]⟩))) (.t 17)),none⟩,.b,[],[]⟩,(xm 18 2),(xm 0 18)]) .ret))),[2,4,6,8,10],19,[.t 0],6⟩
theorem ff23_ok:ff23.ok Try.prog 23:=⟨_,_,Try.func23,rfl,by kernel_rfl,rfl,by kernel_rfl,rfl,by kernel_rfl,by kernel_rfl⟩
def ff46:FX:=⟨(.seq (.reg [(xi 1 (.box 0 1 (.t 0))),(xi 2 (.alloc 1 (.agg [(.v .nilFunc),(.v .nilFunc),(.v .nilFunc)])))]) (.seq (.reg [(xi 3 (.fn 48 [] [(.t 1)])),(xi 4 (.fn 49 [] [(.t 1)])),(xi 5 (.bld [(.v .nilFunc),(.v .nilFunc),(.v .nilFunc)] [(0,1,(.c (.clo 47 [] []))),(1,1,(.t 3)),(2,1,(.t 4))])),(xz (.store 3 (.t 2) (.t 5)))]) .ret)),[1,2],6,[.c 2 57 true 3],3⟩
theorem ff46_ok:ff46.ok Try.prog 46:=⟨_,_,Try.func46,rfl,by kernel_rfl,rfl,by kernel_rfl,rfl,by kernel_rfl,by kernel_rfl⟩
def tb11:List PE:=[pe13,pe24,pe26,pe27,pe47,pe55,pe58,pe64,pe67,pe72,pe75]
theorem tb11_ok:PEsOk Try.prog tb11:=⟨pe13_ok,pe24_ok,pe26_ok,pe27_ok,pe47_ok,pe55_ok,pe58_ok,pe64_ok,pe67_ok,pe72_ok,pe75_ok,trivial⟩
def ex11:List EX:=[]
theorem ex11_ok:EXsOk Try.prog ex11:=trivial
def in11:List IN:=[⟨5,23,9,ff23,none⟩,⟨10,46,15,ff46,none⟩,⟨11,46,18,ff46,none⟩,⟨12,46,21,ff46,none⟩,⟨13,46,24,ff46,none⟩]
theorem in11_ok:INsOk Try.prog in11:=⟨ff23_ok,ff46_ok,ff46_ok,ff46_ok,ff46_ok,trivial⟩
def F11:DT ((.co (.v tzb1) .no):Fm).den→Option (DT (.v (.i .i64):Fm).den):=pureT tb11 ex11 in11 9 xf11 _ _ []
def pe11:PE:=⟨11,(.co (.v tzb1) .no),.v (.i .i64),F11⟩
theorem pe11_ok:pe11.ok Try.prog:=pe_of hm tb11_ok ex11_ok in11_ok xf11_ok (by kernel_rfl) (fun _=>rfl)
def xf81:FX:=⟨(.seq (.reg [⟨⟨(some 2),(.mov (.c (.v (.string ⟨#[]⟩)))),none⟩,.b,[],[]⟩]) (.seq (.reg [(xm 3 0),(xi 4 (.conv .u8 (.t 3))),(xm 5 0),(xi 6 (.bin .shr (.t 5) (.c (.v (.int .u64 8))))),(xi 7 (.conv .u8 (.t 6))),(xm 8 0),(xi 9 (.bin .shr (.t 8) (.c (.v (.int .u64 16))))),(xi 10 (.conv .u8 (.t 9))),(xm 11 0),(xi 12 (.bin .shr (.t 11) (.c (.v (.int .u64 24))))),(xi 13 (.conv .u8 (.t 12))),(xi 14 (.bsl 1 (.v (.int .u8 0)) 4 [(0,(.t 4)),(1,(.t 7)),(2,(.t 10)),(3,(.t 13))])),(xi 15 (.bts (.t 14))),(xm 2 15)]) .ret)),[],16,[.t 2],1⟩
theorem xf81_ok:xf81.ok Try.prog 81:=⟨_,_,Try.func81,rfl,by kernel_rfl,rfl,by kernel_rfl,rfl,by kernel_rfl,by kernel_rfl⟩
def tb81:List PE:=[]
theorem tb81_ok:PEsOk Try.prog tb81:=trivial
def ex81:List EX:=[]
theorem ex81_ok:EXsOk Try.prog ex81:=trivial
def in81:List IN:=[]
theorem in81_ok:INsOk Try.prog in81:=trivial
def F81:DT ((.co (.v (.i .u32)) .no):Fm).den→Option (DT (.v .s:Fm).den):=pureT tb81 ex81 in81 0 xf81 _ _ []
def pe81:PE:=⟨81,(.co (.v (.i .u32)) .no),.v .s,F81⟩
theorem pe81_ok:pe81.ok Try.prog:=pe_of hm tb81_ok ex81_ok in81_ok xf81_ok (by kernel_rfl) (fun _=>rfl)
def xf25:FX:=⟨(.seq (.reg [⟨⟨(some 2),(.mov (.c (.v (.string ⟨#[]⟩)))),none⟩,.b,[],[]⟩,(xi 3 (.mov (.c (.v (.int .i64 0)))))]) (.seq (.seq (.reg [(xm 4 0),(xi 5 (.lenS (.t 4))),(xi 6 (.bin .gtr (.t 5) (.c (.v (.int .i64 4096)))))]) (.cond (.t 6) (.seq (.reg [⟨⟨(some 2),(.mov (.c (.v (.string ⟨#[]⟩)))),none⟩,.b,[],[]⟩,(xi 3 (.mov (.c (.v (.int .i64 4)))))]) .ret) .skip)) (.seq (.reg [(xm 7 0),(xm 8 0),(xi 9 (.call 0 82 [(.t 8)])),(xi 10 (.call 1 81 [(.t 9)])),(xi 11 (.bin .add (.t 7) (.t 10))),(xm 2 11),(xi 3 (.mov (.c (.v (.int .i64 0)))))]) .ret))),[9,10],12,[.t 2,.t 3],3⟩
theorem xf25_ok:xf25.ok Try.prog 25:=⟨_,_,Try.func25,rfl,by kernel_rfl,rfl,by kernel_rfl,rfl,by kernel_rfl,by kernel_rfl⟩
def tb25:List PE:=[pe81,pe82]
theorem tb25_ok:PEsOk Try.prog tb25:=⟨pe81_ok,pe82_ok,trivial⟩
def ex25:List EX:=[]
theorem ex25_ok:EXsOk Try.prog ex25:=trivial
def in25:List IN:=[]
theorem in25_ok:INsOk Try.prog in25:=trivial
def F25:DT ((.co (.v .s) .no):Fm).den→Option (DT (.tup (.co (.v .s) (.co (.v (.i .i64)) .no)):Fm).den):=pureT tb25 ex25 in25 0 xf25 _ _ []
def pe25:PE:=⟨25,(.co (.v .s) .no),.tup (.co (.v .s) (.co (.v (.i .i64)) .no)),F25⟩
theorem pe25_ok:pe25.ok Try.prog:=pe_of hm tb25_ok ex25_ok in25_ok xf25_ok (by kernel_rfl) (fun _=>rfl)
def xf10:FX:=⟨(.seq (.reg [(xi 1 (.box 0 15 (.t 0))),⟨⟨(some 2),(.mov (.c (.v (.string ⟨#[]⟩)))),none⟩,.b,[],[]⟩,(xi 3 (.mov (.c (.v (.int .i64 0)))))]) (.seq (.seq (.reg [(xi 9 (.load true 15 (.t 1))),(xi 10 (.call 1 11 [(.t 9)])),(xm 4 10)]) (.seq (.reg [(xm 11 4),(xi 12 (.bin .neq (.t 11) (.c (.v (.int .i64 0)))))]) (.cond (.t 12) (.seq (.reg [(xm 13 4),⟨⟨(some 2),(.mov (.c (.v (.string ⟨#[]⟩)))),none⟩,.b,[],[]⟩,(xm 3 13)]) .ret) .skip))) (.seq (.reg [(xi 14 (.fad 0 (.t 1))),(xi 15 (.load false 1 (.t 14))),(xi 16 (.conv .u64 (.t 15))),(xi 17 (.fad 1 (.t 1))),(xi 18 (.load false 1 (.t 17))),(xi 19 (.conv .u64 (.t 18))),(xi 20 (.fad 2 (.t 1))),(xi 21 (.load false 1 (.t 20))),(xi 22 (.conv .u64 (.t 21))),(xi 23 (.bsl 1 (.v (.int .u64 0)) 3 [(0,(.t 16)),(1,(.t 19)),(2,(.t 22))])),(xi 24 (.call 2 22 [(.t 23)])),(xm 5 24)]) (.seq (.reg [(xi 25 (.call 3 23 [])),(xm 6 25)]) (.seq (.cutN ⟨[5,8,26,27,28,29,30,31,32,33,34,35,36,37,38,39,40,41,42],[26,27,28,29,30,31,32,33],⟨[],[(5,.v .s)],[]⟩⟩ (.seq (.reg [(xi 26 (.fad 0 (.t 1))),(xi 27 (.load false 1 (.t 26))),(xi 28 (.call 4 24 [(.t 27)])),(xi 29 (.len (.t 28))),(xi 30 (.mov (.c (.v (.int .i64 0)))))]) (.blk 0 (.loop ⟨[5,8,30,31,32,33,34,35,36,37,38,39,40,41,42],[26,27,28,29,30,31,32,33],⟨[],[(5,.v .s),(30,.v (.i .i64))],[]⟩⟩ (.seq (.reg [(xi 31 (.bin .lss (.t 30) (.t 29)))]) (.seq (.cond (.t 31) .skip (.exit 0)) (.seq (.blk 1 (.seq (.reg [(xi 32 (.iad 1 (.t 28) (.t 30))),(xi 33 (.load false 1 (.t 32))),(xm 8 33)]) (.reg [(xm 34 5),(xm 35 6),(xm 36 8),(xi 37 (.lkp false .s (.agg [(.v .nilFunc),(.v .nilFunc),(.v .nilFunc)]) (.t 35) (.t 36))),(xi 38 (.fld false 1 1 (.t 37))),(xi 39 (.load true 15 (.t 1))),(xi 40 (.callv 5 (.t 38) [(.t 39)])),(xi 41 (.bin .add (.t 34) (.t 40))),(xm 5 41)]))) (.reg [(xi 42 (.bin .add (.t 30) (.c (.v (.int .i64 1))))),(xm 30 42)])))))))) (.seq (.reg [(xm 43 5),(xi 44 (.call 6 25 [(.t 43)])),(xi 45 (.ext (.t 44) 0)),(xi 46 (.ext (.t 44) 1)),(xm 2 45),(xm 3 46)]) .ret)))))),[1,10,24,25,28,40,44],47,[.t 2,.t 3],34⟩
theorem xf10_ok:xf10.ok Try.prog 10:=⟨_,_,Try.func10,rfl,by kernel_rfl,rfl,by kernel_rfl,rfl,by kernel_rfl,by kernel_rfl⟩
def ff48:FX:=⟨(.seq (.reg [(xi 2 (.box 0 15 (.t 0))),⟨⟨(some 3),(.mov (.c (.v (.string ⟨#[]⟩)))),none⟩,.b,[],[]⟩]) (.seq (.reg [(xi 4 (.load false 1 (.t 1))),(xi 5 (.callv 1 (.t 4) [(.t 2)])),(xi 6 (.nilc (.t 5))),(xi 7 (.load false 1 (.t 6))),(xi 8 (.bsl 1 (.v (.int .u64 0)) 1 [(0,(.t 7))])),(xi 9 (.call 2 22 [(.t 8)])),(xm 3 9)]) .ret)),[2,5,9],10,[.t 3],4⟩
theorem ff48_ok:ff48.ok Try.prog 48:=⟨_,_,Try.func48,rfl,by kernel_rfl,rfl,by kernel_rfl,rfl,by kernel_rfl,by kernel_rfl⟩
def ff51:FX:=⟨(.seq (.reg [(xi 2 (.mov (.c (.v (.pointer none)))))]) (.seq (.reg [(xm 3 0),(xi 4 (.nilc (.t 3))),(xi 5 (.fad 3 (.t 4))),(xm 2 5)]) .ret)),[],6,[.t 2],1⟩
theorem ff51_ok:ff51.ok Try.prog 51:=⟨_,_,Try.func51,rfl,by kernel_rfl,rfl,by kernel_rfl,rfl,by kernel_rfl,by kernel_rfl⟩
def ff52:FX:=⟨(.seq (.reg [(xi 2 (.mov (.c (.v (.pointer none)))))]) (.seq (.reg [(xm 3 0),(xi 4 (.nilc (.t 3))),(xi 5 (.fad 9 (.t 4))),(xm 2 5)]) .ret)),[],6,[.t 2],1⟩
theorem ff52_ok:ff52.ok Try.prog 52:=⟨_,_,Try.func52,rfl,by kernel_rfl,rfl,by kernel_rfl,rfl,by kernel_rfl,by kernel_rfl⟩
def ff53:FX:=⟨(.seq (.reg [(xi 2 (.mov (.c (.v (.pointer none)))))]) (.seq (.reg [(xm 3 0),(xi 4 (.nilc (.t 3))),(xi 5 (.fad 10 (.t 4))),(xm 2 5)]) .ret)),[],6,[.t 2],1⟩
theorem ff53_ok:ff53.ok Try.prog 53:=⟨_,_,Try.func53,rfl,by kernel_rfl,rfl,by kernel_rfl,rfl,by kernel_rfl,by kernel_rfl⟩
def ff54:FX:=⟨(.seq (.reg [(xi 2 (.mov (.c (.v (.pointer none)))))]) (.seq (.reg [(xm 3 0),(xi 4 (.nilc (.t 3))),(xi 5 (.fad 13 (.t 4))),(xm 2 5)]) .ret)),[],6,[.t 2],1⟩
theorem ff54_ok:ff54.ok Try.prog 54:=⟨_,_,Try.func54,rfl,by kernel_rfl,rfl,by kernel_rfl,rfl,by kernel_rfl,by kernel_rfl⟩
def tb10:List PE:=[pe11,pe22,pe24,pe25,pe56,pe60,pe65,pe69,pe73,pe76,pe78]
theorem tb10_ok:PEsOk Try.prog tb10:=⟨pe11_ok,pe22_ok,pe24_ok,pe25_ok,pe56_ok,pe60_ok,pe65_ok,pe69_ok,pe73_ok,pe76_ok,pe78_ok,trivial⟩
def ex10:List EX:=[]
theorem ex10_ok:EXsOk Try.prog ex10:=trivial
def in10:List IN:=[⟨3,23,8,ff23,none⟩,⟨5,48,26,ff48,none⟩,⟨9,46,14,ff46,none⟩,⟨10,46,17,ff46,none⟩,⟨11,46,20,ff46,none⟩,⟨12,46,23,ff46,none⟩,⟨27,51,30,ff51,none⟩,⟨27,52,31,ff52,none⟩,⟨27,53,32,ff53,none⟩,⟨27,54,33,ff54,none⟩]
theorem in10_ok:INsOk Try.prog in10:=⟨ff23_ok,ff48_ok,ff46_ok,ff46_ok,ff46_ok,ff46_ok,ff51_ok,ff52_ok,ff53_ok,ff54_ok,trivial⟩
def F10:DT ((.co (.v tzb1) .no):Fm).den→Option (DT (.tup (.co (.v .s) (.co (.v (.i .i64)) .no)):Fm).den):=pureT tb10 ex10 in10 9 xf10 _ _ []
def pe10:PE:=⟨10,(.co (.v tzb1) .no),.tup (.co (.v .s) (.co (.v (.i .i64)) .no)),F10⟩
theorem pe10_ok:pe10.ok Try.prog:=pe_of hm tb10_ok ex10_ok in10_ok xf10_ok (by kernel_rfl) (fun _=>rfl)
def xf34:FX:=⟨(.seq (.reg [(xi 4 (.mov (.c (.v (.bool false)))))]) (.seq (.seq (.reg [(xm 6 0),(xi 7 (.len (.t 6))),(xm 8 1),(xi 9 (.len (.t 8))),(xi 10 (.bin .neq (.t 7) (.t 9)))]) (.cond (.t 10) (.seq (.reg [(xi 4 (.mov (.c (.v (.bool false)))))]) .ret) .skip)) (.seq (.seq (.reg [(xi 5 (.mov (.c (.v (.int .i64 0)))))]) (.blk 0 (.loop ⟨[4,5,11,12,13,14,15,16,17,18,19,20,21,22,23,24,25],[],⟨[],[(5,.v (.i .i64))],[]⟩⟩ (.seq (.seq (.reg [(xm 11 5),(xm 12 0),(xi 13 (.len (.t 12))),(xi 14 (.bin .lss (.t 11) (.t 13)))]) (.cond (.t 14) .skip (.exit 0))) (.seq (.blk 1 (.seq (.rdr [(xm 17 0),(xm 18 5),(xi 19 (.iad 3 (.t 17) (.t 18))),(xi 20 (.load true 3 (.t 19))),(xm 21 1),(xm 22 5),(xi 23 (.iad 3 (.t 21) (.t 22))),(xi 24 (.load true 3 (.t 23))),(xi 25 (.eqA true 3 [(0,.i),(1,.i),(2,.i)] (.t 20) (.t 24)))]) (.cond (.t 25) (.seq (.reg [(xi 4 (.mov (.c (.v (.bool false)))))]) .ret) .skip))) (.reg [(xm 15 5),(xi 16 (.bin .add (.t 15) (.c (.v (.int .i64 1))))),(xm 5 16)])))))) (.seq (.reg [(xi 4 (.mov (.c (.v (.bool true)))))]) .ret)))),[],26,[.t 4],1⟩
theorem xf34_ok:xf34.ok Try.prog 34:=⟨_,_,Try.func34,rfl,by kernel_rfl,rfl,by kernel_rfl,rfl,by kernel_rfl,by kernel_rfl⟩
def tb34:List PE:=[]
theorem tb34_ok:PEsOk Try.prog tb34:=trivial
def ex34:List EX:=[]
theorem ex34_ok:EXsOk Try.prog ex34:=trivial
def in34:List IN:=[]
theorem in34_ok:INsOk Try.prog in34:=trivial
def F34:DT ((.co (.v (.sl (.p (.i .i64) (.p (.i .u64) (.i .i64))))) (.co (.v (.sl (.p (.i .i64) (.p (.i .u64) (.i .i64))))) .no)):Fm).den→Option (DT (.v .b:Fm).den):=pureT tb34 ex34 in34 0 xf34 _ _ []
def pe34:PE:=⟨34,(.co (.v (.sl (.p (.i .i64) (.p (.i .u64) (.i .i64))))) (.co (.v (.sl (.p (.i .i64) (.p (.i .u64) (.i .i64))))) .no)),.v .b,F34⟩
theorem pe34_ok:pe34.ok Try.prog:=pe_of hm tb34_ok ex34_ok in34_ok xf34_ok (by kernel_rfl) (fun _=>rfl)
def xf35:FX:=⟨(.seq (.reg [(xi 4 (.mov (.c (.v (.bool false)))))]) (.seq (.seq (.reg [(xm 6 0),(xi 7 (.len (.t 6))),(xm 8 1),(xi 9 (.len (.t 8))),(xi 10 (.bin .neq (.t 7) (.t 9)))]) (.cond (.t 10) (.seq (.reg [(xi 4 (.mov (.c (.v (.bool false)))))]) .ret) .skip)) (.seq (.seq (.reg [(xi 5 (.mov (.c (.v (.int .i64 0)))))]) (.blk 0 (.loop ⟨[4,5,11,12,13,14,15,16,17,18,19,20,21,22,23,24,25],[],⟨[],[(5,.v (.i .i64))],[]⟩⟩ (.seq (.seq (.reg [(xm 11 5),(xm 12 0),(xi 13 (.len (.t 12))),(xi 14 (.bin .lss (.t 11) (.t 13)))]) (.cond (.t 14) .skip (.exit 0))) (.seq (.blk 1 (.seq (.rdr [(xm 17 0),(xm 18 5),(xi 19 (.iad 2 (.t 17) (.t 18))),(xi 20 (.load true 2 (.t 19))),(xm 21 1),(xm 22 5),(xi 23 (.iad 2 (.t 21) (.t 22))),(xi 24 (.load true 2 (.t 23))),(xi 25 (.eqA true 2 [(0,.i),(1,.i)] (.t 20) (.t 24)))]) (.cond (.t 25) (.seq (.reg [(xi 4 (.mov (.c (.v (.bool false)))))]) .ret) .skip))) (.reg [(xm 15 5),(xi 16 (.bin .add (.t 15) (.c (.v (.int .i64 1))))),(xm 5 16)])))))) (.seq (.reg [(xi 4 (.mov (.c (.v (.bool true)))))]) .ret)))),[],26,[.t 4],1⟩
theorem xf35_ok:xf35.ok Try.prog 35:=⟨_,_,Try.func35,rfl,by kernel_rfl,rfl,by kernel_rfl,rfl,by kernel_rfl,by kernel_rfl⟩
def tb35:List PE:=[]
theorem tb35_ok:PEsOk Try.prog tb35:=trivial
def ex35:List EX:=[]
theorem ex35_ok:EXsOk Try.prog ex35:=trivial
def in35:List IN:=[]
theorem in35_ok:INsOk Try.prog in35:=trivial
def F35:DT ((.co (.v (.sl (.p (.i .u64) (.i .i64)))) (.co (.v (.sl (.p (.i .u64) (.i .i64)))) .no)):Fm).den→Option (DT (.v .b:Fm).den):=pureT tb35 ex35 in35 0 xf35 _ _ []
def pe35:PE:=⟨35,(.co (.v (.sl (.p (.i .u64) (.i .i64)))) (.co (.v (.sl (.p (.i .u64) (.i .i64)))) .no)),.v .b,F35⟩
theorem pe35_ok:pe35.ok Try.prog:=pe_of hm tb35_ok ex35_ok in35_ok xf35_ok (by kernel_rfl) (fun _=>rfl)
def xf14:FX:=⟨(.seq (.reg [(xi 2 (.box 0 15 (.t 0))),(xi 3 (.box 1 15 (.t 1))),(xi 4 (.mov (.c (.v (.bool false)))))]) (.seq (.reg [(xi 5 (.fad 0 (.t 2))),(xi 6 (.load false 1 (.t 5))),(xi 7 (.fad 0 (.t 3))),(xi 8 (.load false 1 (.t 7))),(xi 9 (.bin .eql (.t 6) (.t 8))),(xm 10 9),(xg 11 (.fad 1 (.t 2)) 10 true),(xg 12 (.load false 1 (.t 11)) 10 true),(xg 13 (.fad 1 (.t 3)) 10 true),(xg 14 (.load false 1 (.t 13)) 10 true),(xg 15 (.bin .eql (.t 12) (.t 14)) 10 true),(xi 16 (.pick (.t 10) (.t 15) (.c (.v (.bool false))))),(xm 17 16),(xg 18 (.fad 2 (.t 2)) 17 true),(xg 19 (.load false 1 (.t 18)) 17 true),(xg 20 (.fad 2 (.t 3)) 17 true),(xg 21 (.load false 1 (.t 20)) 17 true),(xg 22 (.bin .eql (.t 19) (.t 21)) 17 true),(xi 23 (.pick (.t 17) (.t 22) (.c (.v (.bool false))))),(xm 24 23),(xg 25 (.fad 3 (.t 2)) 24 true),(xg 26 (.load false 1 (.t 25)) 24 true),(xg 27 (.fad 3 (.t 3)) 24 true),(xg 28 (.load false 1 (.t 27)) 24 true),(xg 29 (.bin .eql (.t 26) (.t 28)) 24 true),(xi 30 (.pick (.t 24) (.t 29) (.c (.v (.bool false))))),(xm 31 30),(xg 32 (.fad 4 (.t 2)) 31 true),(xg 33 (.load false 1 (.t 32)) 31 true),(xg 34 (.fad 4 (.t 3)) 31 true),(xg 35 (.load false 1 (.t 34)) 31 true),(xg 36 (.bin .eql (.t 33) (.t 35)) 31 true),(xi 37 (.pick (.t 31) (.t 36) (.c (.v (.bool false))))),(xm 38 37),(xg 39 (.fad 5 (.t 2)) 38 true),(xg 40 (.load true 2 (.t 39)) 38 true),(xg 41 (.fad 5 (.t 3)) 38 true),(xg 42 (.load true 2 (.t 41)) 38 true),(xg 43 (.eqA false 2 [(0,.i),(1,.i)] (.t 40) (.t 42)) 38 true),(xi 44 (.pick (.t 38) (.t 43) (.c (.v (.bool false))))),(xm 45 44),(xg 46 (.fad 7 (.t 2)) 45 true),(xg 47 (.load false 1 (.t 46)) 45 true),(xg 48 (.fad 7 (.t 3)) 45 true),(xg 49 (.load false 1 (.t 48)) 45 true),(xg 50 (.call 2 34 [(.t 47),(.t 49)]) 45 true),(xi 51 (.pick (.t 45) (.t 50) (.c (.v (.bool false))))),(xm 52 51),(xg 53 (.fad 8 (.t 2)) 52 true),(xg 54 (.load false 1 (.t 53)) 52 true),(xg 55 (.fad 8 (.t 3)) 52 true),(xg 56 (.load false 1 (.t 55)) 52 true),(xg 57 (.call 3 35 [(.t 54),(.t 56)]) 52 true),(xi 58 (.pick (.t 52) (.t 57) (.c (.v (.bool false))))),(xm 59 58),(xg 60 (.fad 9 (.t 2)) 59 true),(xg 61 (.load false 1 (.t 60)) 59 true),(xg 62 (.fad 9 (.t 3)) 59 true),(xg 63 (.load false 1 (.t 62)) 59 true),(xg 64 (.bin .eql (.t 61) (.t 63)) 59 true),(xi 65 (.pick (.t 59) (.t 64) (.c (.v (.bool false))))),(xm 66 65),(xg 67 (.fad 10 (.t 2)) 66 true),(xg 68 (.load false 1 (.t 67)) 66 true),(xg 69 (.fad 10 (.t 3)) 66 true),(xg 70 (.load false 1 (.t 69)) 66 true),(xg 71 (.bin .eql (.t 68) (.t 70)) 66 true),(xi 72 (.pick (.t 66) (.t 71) (.c (.v (.bool false))))),(xm 73 72),(xg 74 (.fad 11 (.t 2)) 73 true),(xg 75 (.load false 1 (.t 74)) 73 true),(xg 76 (.fad 11 (.t 3)) 73 true),(xg 77 (.load false 1 (.t 76)) 73 true),(xg 78 (.bin .eql (.t 75) (.t 77)) 73 true),(xi 79 (.pick (.t 73) (.t 78) (.c (.v (.bool false))))),(xm 80 79),(xg 81 (.fad 12 (.t 2)) 80 true),(xg 82 (.load false 1 (.t 81)) 80 true),(xg 83 (.fad 12 (.t 3)) 80 true),(xg 84 (.load false 1 (.t 83)) 80 true),(xg 85 (.bin .eql (.t 82) (.t 84)) 80 true),(xi 86 (.pick (.t 80) (.t 85) (.c (.v (.bool false))))),(xm 87 86),(xg 88 (.fad 13 (.t 2)) 87 true),(xg 89 (.load false 1 (.t 88)) 87 true),(xg 90 (.fad 13 (.t 3)) 87 true),(xg 91 (.load false 1 (.t 90)) 87 true),(xg 92 (.bin .eql (.t 89) (.t 91)) 87 true),(xi 93 (.pick (.t 87) (.t 92) (.c (.v (.bool false))))),(xm 94 93),(xg 95 (.fad 14 (.t 2)) 94 true),(xg 96 (.load false 1 (.t 95)) 94 true),(xg 97 (.fad 14 (.t 3)) 94 true),(xg 98 (.load false 1 (.t 97)) 94 true),(xg 99 (.binB false (.t 96) (.t 98)) 94 true),(xi 100 (.pick (.t 94) (.t 99) (.c (.v (.bool false))))),(xm 4 100)]) .ret)),[2,3,50,57],101,[.t 4],5⟩
theorem xf14_ok:xf14.ok Try.prog 14:=⟨_,_,Try.func14,rfl,by kernel_rfl,rfl,by kernel_rfl,rfl,by kernel_rfl,by kernel_rfl⟩
def tb14:List PE:=[pe34,pe35]
theorem tb14_ok:PEsOk Try.prog tb14:=⟨pe34_ok,pe35_ok,trivial⟩
def ex14:List EX:=[]
theorem ex14_ok:EXsOk Try.prog ex14:=trivial
def in14:List IN:=[]
theorem in14_ok:INsOk Try.prog in14:=trivial
def F14:DT ((.co (.v tzb1) (.co (.v tzb1) .no)):Fm).den→Option (DT (.v .b:Fm).den):=pureT tb14 ex14 in14 0 xf14 _ _ []
def pe14:PE:=⟨14,(.co (.v tzb1) (.co (.v tzb1) .no)),.v .b,F14⟩
theorem pe14_ok:pe14.ok Try.prog:=pe_of hm tb14_ok ex14_ok in14_ok xf14_ok (by kernel_rfl) (fun _=>rfl)
def xf16:FX:=⟨(.seq (.reg [(xi 2 (.mov (.c (.v (.bool false)))))]) (.seq (.cut ⟨[2,3,4,5,6,7,8,9,10,11,12,13,14,15,16,17,18,19,20,21,22,23,24,25,26,27,28,29,30,31,32],[],⟨[],[],[]⟩⟩ (.seq (.reg [(xi 3 (.mov (.c (.v (.int .i64 0)))))]) (.blk 0 (.loop ⟨[2,3,4,5,6,7,8,9,10,11,12,13,14,15,16,17,18,19,20,21,22,23,24,25,26,27,28,29,30,31,32],[],⟨[],[(3,.v (.i .i64))],[]⟩⟩ (.seq (.seq (.reg [(xm 5 3),(xm 6 0),(xi 7 (.lenS (.t 6))),(xi 8 (.bin .lss (.t 5) (.t 7)))]) (.cond (.t 8) .skip (.exit 0))) (.seq (.cut ⟨[2,4,11,12,13,14,15,16,17,18,19,20,21,22,23,24,25,26,27,28,29,30,31,32],[],⟨[],[],[]⟩⟩ (.blk 1 (.seq (.reg [(xm 11 0),(xm 12 3),(xi 13 (.ixS (.t 11) (.t 12))),(xm 4 13)]) (.seq (.cutN ⟨[14,15,16,17,18,19,20,21,22,23,24,25,26,27,28,29,30,31,32],[],⟨[],[(32,.v .b)],[]⟩⟩ (.reg [(xm 14 4),(xi 15 (.bin .leq (.c (.v (.int .u8 97))) (.t 14))),(xm 16 15),(xg 17 (.mov (.t 4)) 16 true),(xg 18 (.bin .leq (.t 17) (.c (.v (.int .u8 122)))) 16 true),(xi 19 (.pick (.t 16) (.t 18) (.c (.v (.bool false))))),(xm 20 19),(xg 21 (.mov (.t 4)) 20 false),(xg 22 (.bin .leq (.c (.v (.int .u8 48))) (.t 21)) 20 false),(xg 23 (.mov (.t 22)) 20 false),(xg 24 (.mov (.t 4)) 23 true),(xg 25 (.bin .leq (.t 24) (.c (.v (.int .u8 57)))) 23 true),(xg 26 (.pick (.t 23) (.t 25) (.c (.v (.bool false)))) 20 false),(xi 27 (.pick (.t 20) (.c (.v (.bool true))) (.t 26))),(xm 28 27),(xg 29 (.mov (.t 4)) 28 false),(xg 30 (.bin .eql (.t 29) (.c (.v (.int .u8 45)))) 28 false),(xi 31 (.pick (.t 28) (.c (.v (.bool true))) (.t 30))),(xi 32 (.un .not (.t 31)))])) (.cond (.t 32) (.seq (.reg [(xi 2 (.mov (.c (.v (.bool false)))))]) .ret) .skip))))) (.reg [(xm 9 3),(xi 10 (.bin .add (.t 9) (.c (.v (.int .i64 1))))),(xm 3 10)]))))))) (.seq (.reg [(xm 33 0),(xi 34 (.lenS (.t 33))),(xi 35 (.bin .leq (.c (.v (.int .i64 1))) (.t 34))),(xm 36 35),(xg 37 (.mov (.t 0)) 36 true),(xg 38 (.lenS (.t 37)) 36 true),(xg 39 (.bin .leq (.t 38) (.c (.v (.int .i64 20)))) 36 true),(xi 40 (.pick (.t 36) (.t 39) (.c (.v (.bool false))))),(xm 2 40)]) .ret))),[],41,[.t 2],1⟩
theorem xf16_ok:xf16.ok Try.prog 16:=⟨_,_,Try.func16,rfl,by kernel_rfl,rfl,by kernel_rfl,rfl,by kernel_rfl,by kernel_rfl⟩
def tb16:List PE:=[]
theorem tb16_ok:PEsOk Try.prog tb16:=trivial
def ex16:List EX:=[]
theorem ex16_ok:EXsOk Try.prog ex16:=trivial
def in16:List IN:=[]
theorem in16_ok:INsOk Try.prog in16:=trivial
def F16:DT ((.co (.v .s) .no):Fm).den→Option (DT (.v .b:Fm).den):=pureT tb16 ex16 in16 0 xf16 _ _ []
def pe16:PE:=⟨16,(.co (.v .s) .no),.v .b,F16⟩
theorem pe16_ok:pe16.ok Try.prog:=pe_of hm tb16_ok ex16_ok in16_ok xf16_ok (by kernel_rfl) (fun _=>rfl)
def xf28:FX:=⟨(.seq (.reg [(xi 2 (.mov (.c (.v (.bool false)))))]) (.seq (.reg [(xm 3 0),(xi 4 (.bin .leq (.c (.v (.int .i64 0))) (.t 3))),(xm 5 4),(xg 6 (.mov (.t 0)) 5 true),(xg 7 (.bin .leq (.t 6) (.c (.v (.int .i64 63)))) 5 true),(xi 8 (.pick (.t 5) (.t 7) (.c (.v (.bool false))))),(xm 2 8)]) .ret)),[],9,[.t 2],1⟩
theorem xf28_ok:xf28.ok Try.prog 28:=⟨_,_,Try.func28,rfl,by kernel_rfl,rfl,by kernel_rfl,rfl,by kernel_rfl,by kernel_rfl⟩
def tb28:List PE:=[]
theorem tb28_ok:PEsOk Try.prog tb28:=trivial
def ex28:List EX:=[]
theorem ex28_ok:EXsOk Try.prog ex28:=trivial
def in28:List IN:=[]
theorem in28_ok:INsOk Try.prog in28:=trivial
def F28:DT ((.co (.v (.i .i64)) .no):Fm).den→Option (DT (.v .b:Fm).den):=pureT tb28 ex28 in28 0 xf28 _ _ []
def pe28:PE:=⟨28,(.co (.v (.i .i64)) .no),.v .b,F28⟩
theorem pe28_ok:pe28.ok Try.prog:=pe_of hm tb28_ok ex28_ok in28_ok xf28_ok (by kernel_rfl) (fun _=>rfl)
def xf29:FX:=⟨(.seq (.reg [(xi 1 (.box 0 15 (.t 0))),⟨⟨(some 2),(.alloc 1 (.agg [(.v (.int .i64 0)),(.v (.int .i64 0)),(.v (.int .i64 0)),(.v (.int .u64 0)),(.v (.int .i64 0)),(.v (.int .u64 0)),(.v (.int .i64 0)),(.sl true []),(.sl true []),(.v (.int .u64 0)),(.v (.int .u64 0)),(.v (.int .i64 0)),(.v (.string ⟨#[]⟩)),(.v (.int .u64 0)),(.v (.bool false))])),none⟩,.b,[],[]⟩]) (.seq (.reg [(xi 5 (.fad 0 (.t 1))),(xi 6 (.load false 1 (.t 5))),(xi 7 (.fad 1 (.t 1))),(xi 8 (.load false 1 (.t 7))),(xi 9 (.fad 2 (.t 1))),(xi 10 (.load false 1 (.t 9))),⟨⟨(some 11),(.bld [(.v (.int .i64 0)),(.v (.int .i64 0)),(.v (.int .i64 0)),(.v (.int .u64 0)),(.v (.int .i64 0)),(.v (.int .u64 0)),(.v (.int .i64 0)),(.sl true []),(.sl true []),(.v (.int .u64 0)),(.v (.int .u64 0)),(.v (.int .i64 0)),(.v (.string ⟨#[]⟩)),(.v (.int .u64 0)),(.v (.bool false))] [(0,1,(.t 6)),(1,1,(.t 8)),(2,1,(.t 10))]),none⟩,.b,[],[]⟩,⟨⟨(some 3),(.alloc 2 (.agg [(.v (.int .i64 0)),(.v (.int .i64 0)),(.v (.int .i64 0)),(.v (.int .u64 0)),(.v (.int .i64 0)),(.v (.int .u64 0)),(.v (.int .i64 0)),(.sl true []),(.sl true []),(.v (.int .u64 0)),(.v (.int .u64 0)),(.v (.int .i64 0)),(.v (.string ⟨#[]⟩)),(.v (.int .u64 0)),(.v (.bool false))])),none⟩,.b,[],[]⟩,(xz (.store 15 (.t 3) (.t 11)))]) (.seq (.reg [(xi 12 (.fad 0 (.t 1))),(xi 13 (.load false 1 (.t 12))),(xm 4 13)]) (.seq (.cutN ⟨[14,15,16,17,18,19,20,21,22],[2],⟨[],[],[⟨2,.row (.agg (.co (.v (.i .i64)) (.co (.v (.i .i64)) (.co (.v (.i .i64)) (.co (.v (.i .u64)) (.co (.v (.i .i64)) (.co (.v (.i .u64)) (.co (.v (.i .i64)) (.co (.nil) (.co (.nil) (.co (.v (.i .u64)) (.co (.v (.i .u64)) (.co (.v (.i .i64)) (.co (.v .s) (.co (.v (.i .u64)) (.co (.v .b) .no)))))))))))))))),true⟩]⟩⟩ (.seq (.cutN ⟨[14,15,16,17,18,19],[],⟨[],[(19,.v .b)],[]⟩⟩ (.reg [(xm 14 4),(xi 15 (.bin .geq (.t 14) (.c (.v (.int .i64 1))))),(xm 16 15),(xg 17 (.mov (.t 4)) 16 true),(xg 18 (.bin .leq (.t 17) (.c (.v (.int .i64 4)))) 16 true),(xi 19 (.pick (.t 16) (.t 18) (.c (.v (.bool false)))))])) (.cond (.t 19) (.reg [(xi 20 (.fad 3 (.t 1))),(xi 21 (.load false 1 (.t 20))),(xi 22 (.fad 3 (.t 3))),(xz (.store 1 (.t 22) (.t 21)))]) .skip))) (.seq (.cutN ⟨[23,24,25,26,27,28,29,30,31],[2],⟨[],[],[⟨2,.row (.agg (.co (.v (.i .i64)) (.co (.v (.i .i64)) (.co (.v (.i .i64)) (.co (.v (.i .u64)) (.co (.v (.i .i64)) (.co (.v (.i .u64)) (.co (.v (.i .i64)) (.co (.nil) (.co (.nil) (.co (.v (.i .u64)) (.co (.v (.i .u64)) (.co (.v (.i .i64)) (.co (.v .s) (.co (.v (.i .u64)) (.co (.v .b) .no)))))))))))))))),true⟩]⟩⟩ (.seq (.cutN ⟨[23,24,25,26,27,28],[],⟨[],[(28,.v .b)],[]⟩⟩ (.reg [(xm 23 4),(xi 24 (.bin .geq (.t 23) (.c (.v (.int .i64 2))))),(xm 25 24),(xg 26 (.mov (.t 4)) 25 true),(xg 27 (.bin .leq (.t 26) (.c (.v (.int .i64 4)))) 25 true),(xi 28 (.pick (.t 25) (.t 27) (.c (.v (.bool false)))))])) (.cond (.t 28) (.reg [(xi 29 (.fad 4 (.t 1))),(xi 30 (.load false 1 (.t 29))),(xi 31 (.fad 4 (.t 3))),(xz (.store 1 (.t 31) (.t 30)))]) .skip))) (.seq (.cutN ⟨[32,33,34,35,36,37,38,39,40],[2],⟨[],[],[⟨2,.row (.agg (.co (.v (.i .i64)) (.co (.v (.i .i64)) (.co (.v (.i .i64)) (.co (.v (.i .u64)) (.co (.v (.i .i64)) (.co (.v (.i .u64)) (.co (.v (.i .i64)) (.co (.nil) (.co (.nil) (.co (.v (.i .u64)) (.co (.v (.i .u64)) (.co (.v (.i .i64)) (.co (.v .s) (.co (.v (.i .u64)) (.co (.v .b) .no)))))))))))))))),true⟩]⟩⟩ (.seq (.cutN ⟨[32,33,34,35,36,37],[],⟨[],[(37,.v .b)],[]⟩⟩ (.reg [(xm 32 4),(xi 33 (.bin .eql (.t 32) (.c (.v (.int .i64 1))))),(xm 34 33),(xg 35 (.mov (.t 4)) 34 false),(xg 36 (.bin .eql (.t 35) (.c (.v (.int .i64 3)))) 34 false),(xi 37 (.pick (.t 34) (.c (.v (.bool true))) (.t 36)))])) (.cond (.t 37) (.reg [(xi 38 (.fad 5 (.t 1))),(xi 39 (.load true 2 (.t 38))),(xi 40 (.fad 5 (.t 3))),(xz (.store 2 (.t 40) (.t 39)))]) .skip))) (.seq (.cutN ⟨[41,42,43,44,45,46,47,48,49],[2],⟨[],[],[⟨2,.row (.agg (.co (.v (.i .i64)) (.co (.v (.i .i64)) (.co (.v (.i .i64)) (.co (.v (.i .u64)) (.co (.v (.i .i64)) (.co (.v (.i .u64)) (.co (.v (.i .i64)) (.co (.v (.sl (.p (.i .i64) (.p (.i .u64) (.i .i64))))) (.co (.nil) (.co (.v (.i .u64)) (.co (.v (.i .u64)) (.co (.v (.i .i64)) (.co (.v .s) (.co (.v (.i .u64)) (.co (.v .b) .no)))))))))))))))),true⟩]⟩⟩ (.seq (.cutN ⟨[41,42,43,44,45,46],[],⟨[],[(46,.v .b)],[]⟩⟩ (.reg [(xm 41 4),(xi 42 (.bin .geq (.t 41) (.c (.v (.int .i64 1))))),(xm 43 42),(xg 44 (.mov (.t 4)) 43 true),(xg 45 (.bin .leq (.t 44) (.c (.v (.int .i64 3)))) 43 true),(xi 46 (.pick (.t 43) (.t 45) (.c (.v (.bool false)))))])) (.cond (.t 46) (.reg [(xi 47 (.fad 7 (.t 1))),(xi 48 (.load false 1 (.t 47))),(xi 49 (.fad 7 (.t 3))),(xz (.store 1 (.t 49) (.t 48)))]) .skip))) (.seq (.cutN ⟨[50,51,52,53,54,55,56,57,58],[2],⟨[],[],[⟨2,.row (.v tzb1),true⟩]⟩⟩ (.seq (.cutN ⟨[50,51,52,53,54,55],[],⟨[],[(55,.v .b)],[]⟩⟩ (.reg [(xm 50 4),(xi 51 (.bin .eql (.t 50) (.c (.v (.int .i64 5))))),(xm 52 51),(xg 53 (.mov (.t 4)) 52 false),(xg 54 (.bin .eql (.t 53) (.c (.v (.int .i64 6)))) 52 false),(xi 55 (.pick (.t 52) (.c (.v (.bool true))) (.t 54)))])) (.cond (.t 55) (.reg [(xi 56 (.fad 8 (.t 1))),(xi 57 (.load false 1 (.t 56))),(xi 58 (.fad 8 (.t 3))),(xz (.store 1 (.t 58) (.t 57)))]) .skip))) (.seq (.cutN ⟨[59,60,61,62,63,64,65,66,67,68,69,70,71],[2],⟨[],[],[⟨2,.row (.v tzb1),true⟩]⟩⟩ (.seq (.cutN ⟨[59,60,61,62,63,64,65,66,67,68],[],⟨[],[(68,.v .b)],[]⟩⟩ (.reg [(xm 59 4),(xi 60 (.bin .geq (.t 59) (.c (.v (.int .i64 7))))),(xm 61 60),(xg 62 (.mov (.t 4)) 61 true),(xg 63 (.bin .leq (.t 62) (.c (.v (.int .i64 9)))) 61 true),(xi 64 (.pick (.t 61) (.t 63) (.c (.v (.bool false))))),(xm 65 64),(xg 66 (.mov (.t 4)) 65 false),(xg 67 (.bin .eql (.t 66) (.c (.v (.int .i64 11)))) 65 false),(xi 68 (.pick (.t 65) (.c (.v (.bool true))) (.t 67)))])) (.cond (.t 68) (.reg [(xi 69 (.fad 9 (.t 1))),(xi 70 (.load false 1 (.t 69))),(xi 71 (.fad 9 (.t 3))),(xz (.store 1 (.t 71) (.t 70)))]) .skip))) (.seq (.cutN ⟨[72,73,74,75,76,77,78,79,80],[2],⟨[],[],[⟨2,.row (.v tzb1),true⟩]⟩⟩ (.seq (.cutN ⟨[72,73,74,75,76,77],[],⟨[],[(77,.v .b)],[]⟩⟩ (.reg [(xm 72 4),(xi 73 (.bin .geq (.t 72) (.c (.v (.int .i64 7))))),(xm 74 73),(xg 75 (.mov (.t 4)) 74 true),(xg 76 (.bin .leq (.t 75) (.c (.v (.int .i64 11)))) 74 true),(xi 77 (.pick (.t 74) (.t 76) (.c (.v (.bool false)))))])) (.cond (.t 77) (.reg [(xi 78 (.fad 10 (.t 1))),(xi 79 (.load false 1 (.t 78))),(xi 80 (.fad 10 (.t 3))),(xz (.store 1 (.t 80) (.t 79)))]) .skip))) (.seq (.cutN ⟨[81,82,83,84,85,86,87,88,89,90,91,92,93,94,95,96,97],[2],⟨[],[],[⟨2,.row (.v tzb1),true⟩]⟩⟩ (.seq (.cutN ⟨[81,82,83,84,85,86,87,88,89,90,91,92,93,94],[],⟨[],[(94,.v .b)],[]⟩⟩ (.reg [(xm 81 4),(xi 82 (.bin .eql (.t 81) (.c (.v (.int .i64 7))))),(xm 83 82),(xg 84 (.mov (.t 4)) 83 false),(xg 85 (.bin .eql (.t 84) (.c (.v (.int .i64 8)))) 83 false),(xi 86 (.pick (.t 83) (.c (.v (.bool true))) (.t 85))),(xm 87 86),(xg 88 (.mov (.t 4)) 87 false),(xg 89 (.bin .eql (.t 88) (.c (.v (.int .i64 10)))) 87 false),(xi 90 (.pick (.t 87) (.c (.v (.bool true))) (.t 89))),(xm 91 90),(xg 92 (.mov (.t 4)) 91 false),(xg 93 (.bin .eql (.t 92) (.c (.v (.int .i64 11)))) 91 false),(xi 94 (.pick (.t 91) (.c (.v (.bool true))) (.t 93)))])) (.cond (.t 94) (.reg [(xi 95 (.fad 11 (.t 1))),(xi 96 (.load false 1 (.t 95))),(xi 97 (.fad 11 (.t 3))),(xz (.store 1 (.t 97) (.t 96)))]) .skip))) (.seq (.cutN ⟨[98,99,100,101,102,103,104,105,106,107,108,109],[2],⟨[],[],[⟨2,.row (.v tzb1),true⟩]⟩⟩ (.seq (.cutN ⟨[98,99,100,101,102,103],[],⟨[],[(103,.v .b)],[]⟩⟩ (.reg [(xm 98 4),(xi 99 (.bin .eql (.t 98) (.c (.v (.int .i64 11))))),(xm 100 99),(xg 101 (.mov (.t 4)) 100 false),(xg 102 (.bin .eql (.t 101) (.c (.v (.int .i64 12)))) 100 false),(xi 103 (.pick (.t 100) (.c (.v (.bool true))) (.t 102)))])) (.cond (.t 103) (.seq (.reg [(xi 104 (.fad 12 (.t 1))),(xi 105 (.load false 1 (.t 104))),(xi 106 (.fad 12 (.t 3))),(xz (.store 1 (.t 106) (.t 105)))]) (.reg [(xi 107 (.fad 13 (.t 1))),(xi 108 (.load false 1 (.t 107))),(xi 109 (.fad 13 (.t 3))),(xz (.store 1 (.t 109) (.t 108)))])) .skip))) (.seq (.seq (.reg [(xm 110 4),(xi 111 (.bin .eql (.t 110) (.c (.v (.int .i64 12)))))]) (.cond (.t 111) (.reg [(xi 112 (.fad 14 (.t 1))),(xi 113 (.load false 1 (.t 112))),(xi 114 (.fad 14 (.t 3))),(xz (.store 1 (.t 114) (.t 113)))]) .skip)) (.seq (.reg [(xi 115 (.load true 15 (.t 3))),(xz (.store 15 (.t 2) (.t 115)))]) .ret)))))))))))))),[1,2,3],116,[.c 2 28 true 15],4⟩
theorem xf29_ok:xf29.ok Try.prog 29:=⟨_,_,Try.func29,rfl,by kernel_rfl,rfl,by kernel_rfl,rfl,by kernel_rfl,by kernel_rfl⟩
def tb29:List PE:=[]
theorem tb29_ok:PEsOk Try.prog tb29:=trivial
def ex29:List EX:=[]
theorem ex29_ok:EXsOk Try.prog ex29:=trivial
def in29:List IN:=[]
theorem in29_ok:INsOk Try.prog in29:=trivial
def F29:DT ((.co (.v tzb1) .no):Fm).den→Option (DT (.v tzb1:Fm).den):=pureT tb29 ex29 in29 0 xf29 _ _ []
def pe29:PE:=⟨29,(.co (.v tzb1) .no),.v tzb1,F29⟩
theorem pe29_ok:pe29.ok Try.prog:=pe_of hm tb29_ok ex29_ok in29_ok xf29_ok (by kernel_rfl) (fun _=>rfl)
def xf30:FX:=⟨(.seq (.reg [(xi 1 (.box 0 2 (.t 0))),(xi 2 (.mov (.c (.v (.bool false)))))]) (.seq (.reg [(xi 3 (.fad 1 (.t 1))),(xi 4 (.load false 1 (.t 3))),(xi 5 (.bin .leq (.c (.v (.int .i64 0))) (.t 4))),(xm 6 5),(xg 7 (.fad 1 (.t 1)) 6 true),(xg 8 (.load false 1 (.t 7)) 6 true),(xg 9 (.bin .leq (.t 8) (.c (.v (.int .i64 3)))) 6 true),(xi 10 (.pick (.t 6) (.t 9) (.c (.v (.bool false))))),(xm 2 10)]) .ret)),[1],11,[.t 2],2⟩
theorem xf30_ok:xf30.ok Try.prog 30:=⟨_,_,Try.func30,rfl,by kernel_rfl,rfl,by kernel_rfl,rfl,by kernel_rfl,by kernel_rfl⟩
def tb30:List PE:=[]
theorem tb30_ok:PEsOk Try.prog tb30:=trivial
def ex30:List EX:=[]
theorem ex30_ok:EXsOk Try.prog ex30:=trivial
def in30:List IN:=[]
theorem in30_ok:INsOk Try.prog in30:=trivial
def F30:DT ((.co (.v (.p (.i .u64) (.i .i64))) .no):Fm).den→Option (DT (.v .b:Fm).den):=pureT tb30 ex30 in30 0 xf30 _ _ []
def pe30:PE:=⟨30,(.co (.v (.p (.i .u64) (.i .i64))) .no),.v .b,F30⟩
theorem pe30_ok:pe30.ok Try.prog:=pe_of hm tb30_ok ex30_ok in30_ok xf30_ok (by kernel_rfl) (fun _=>rfl)
def xf31:FX:=⟨(.seq (.reg [(xi 2 (.mov (.c (.v (.bool false)))))]) (.seq (.cut ⟨[2,3,4,5,6,7,8,9,10,11,12,13,14,15],[],⟨[],[],[]⟩⟩ (.seq (.reg [(xi 3 (.mov (.c (.v (.int .i64 0)))))]) (.blk 0 (.loop ⟨[2,3,4,5,6,7,8,9,10,11,12,13,14,15],[],⟨[],[(3,.v (.i .i64))],[]⟩⟩ (.seq (.seq (.reg [(xm 4 3),(xm 5 0),(xi 6 (.len (.t 5))),(xi 7 (.bin .lss (.t 4) (.t 6)))]) (.cond (.t 7) .skip (.exit 0))) (.seq (.blk 1 (.seq (.reg [(xm 10 0),(xm 11 3),(xi 12 (.iad 2 (.t 10) (.t 11))),(xi 13 (.load true 2 (.t 12))),(xi 14 (.call 0 30 [(.t 13)])),(xi 15 (.un .not (.t 14)))]) (.cond (.t 15) (.seq (.reg [(xi 2 (.mov (.c (.v (.bool false)))))]) .ret) .skip))) (.reg [(xm 8 3),(xi 9 (.bin .add (.t 8) (.c (.v (.int .i64 1))))),(xm 3 9)]))))))) (.seq (.reg [(xm 16 0),(xi 17 (.len (.t 16))),(xi 18 (.bin .leq (.c (.v (.int .i64 1))) (.t 17))),(xm 19 18),(xg 20 (.mov (.t 0)) 19 true),(xg 21 (.len (.t 20)) 19 true),(xg 22 (.bin .leq (.t 21) (.c (.v (.int .i64 64)))) 19 true),(xi 23 (.pick (.t 19) (.t 22) (.c (.v (.bool false))))),(xm 2 23)]) .ret))),[14],24,[.t 2],2⟩
theorem xf31_ok:xf31.ok Try.prog 31:=⟨_,_,Try.func31,rfl,by kernel_rfl,rfl,by kernel_rfl,rfl,by kernel_rfl,by kernel_rfl⟩
def tb31:List PE:=[pe30]
theorem tb31_ok:PEsOk Try.prog tb31:=⟨pe30_ok,trivial⟩
def ex31:List EX:=[]
theorem ex31_ok:EXsOk Try.prog ex31:=trivial
def in31:List IN:=[]
theorem in31_ok:INsOk Try.prog in31:=trivial
def F31:DT ((.co (.v (.sl (.p (.i .u64) (.i .i64)))) .no):Fm).den→Option (DT (.v .b:Fm).den):=pureT tb31 ex31 in31 0 xf31 _ _ []
def pe31:PE:=⟨31,(.co (.v (.sl (.p (.i .u64) (.i .i64)))) .no),.v .b,F31⟩
theorem pe31_ok:pe31.ok Try.prog:=pe_of hm tb31_ok ex31_ok in31_ok xf31_ok (by kernel_rfl) (fun _=>rfl)
def xf12:FX:=⟨(.seq (.reg [(xi 1 (.box 0 15 (.t 0))),(xi 2 (.mov (.c (.v (.bool false)))))]) (.seq (.cut ⟨[2,4,5,6,7,8,9,10,11,12,13,14,15,16,17,18,19,20,21,22,23,24,25,26,27,28,29,30,31,32,33,34,35,36,37,38,39,40,41,42,43,44,45,46,47,48,49,50,51,52,53,54,55,56,57,58,59,60,61,62,63,64,65],[],⟨[],[],[]⟩⟩ (.seq (.cutN ⟨[4,5,6,7,8,9,10,11,12,13,14,15,16,17,18,19,20,21,22,23,24,25,26,27,28,29,30,31,32,33,34,35,36,37,38,39,40,41,42,43,44,45,46,47,48,49,50,51,52,53,54,55,56,57,58,59,60,61,62,63,64,65],[],⟨[],[(65,.v .b)],[]⟩⟩ (.dr [(28,30)] [(xi 4 (.fad 0 (.t 1))),(xi 5 (.load false 1 (.t 4))),(xi 6 (.bin .lss (.t 5) (.c (.v (.int .i64 1))))),(xm 7 6),(xg 8 (.fad 0 (.t 1)) 7 false),(xg 9 (.load false 1 (.t 8)) 7 false),(xg 10 (.bin .gtr (.t 9) (.c (.v (.int .i64 12)))) 7 false),(xi 11 (.pick (.t 7) (.c (.v (.bool true))) (.t 10))),(xm 12 11),(xg 13 (.fad 1 (.t 1)) 12 false),(xg 14 (.load false 1 (.t 13)) 12 false),(xg 15 (.callG 1 28 [(.t 14)]) 12 false),(xg 16 (.un .not (.t 15)) 12 false),(xi 17 (.pick (.t 12) (.c (.v (.bool true))) (.t 16))),(xm 18 17),(xg 19 (.fad 2 (.t 1)) 18 false),(xg 20 (.load false 1 (.t 19)) 18 false),(xg 21 (.callG 2 28 [(.t 20)]) 18 false),(xg 22 (.un .not (.t 21)) 18 false),(xi 23 (.pick (.t 18) (.c (.v (.bool true))) (.t 22))),(xm 24 23),(xg 25 (.fad 1 (.t 1)) 24 false),(xg 26 (.load false 1 (.t 25)) 24 false),(xg 27 (.fad 2 (.t 1)) 24 false),(xg 28 (.load false 1 (.t 27)) 24 false),(xg 29 (.bin .eql (.t 26) (.t 28)) 24 false),(xi 30 (.pick (.t 24) (.c (.v (.bool true))) (.t 29))),(xm 31 30),(xg 32 (.load true 15 (.t 1)) 31 false),(xg 33 (.load true 15 (.t 1)) 31 false),(xg 34 (.callG 3 29 [(.t 33)]) 31 false),(xg 35 (.callG 4 14 [(.t 32),(.t 34)]) 31 false),(xg 36 (.un .not (.t 35)) 31 false),(xi 37 (.pick (.t 31) (.c (.v (.bool true))) (.t 36))),(xm 38 37),(xg 39 (.fad 4 (.t 1)) 38 false),(xg 40 (.load false 1 (.t 39)) 38 false),(xg 41 (.callG 5 28 [(.t 40)]) 38 false),(xg 42 (.un .not (.t 41)) 38 false),(xi 43 (.pick (.t 38) (.c (.v (.bool true))) (.t 42))),(xm 44 43),(xg 45 (.fad 5 (.t 1)) 44 false),(xg 46 (.load true 2 (.t 45)) 44 false),(xg 47 (.callG 6 30 [(.t 46)]) 44 false),(xg 48 (.un .not (.t 47)) 44 false),(xi 49 (.pick (.t 44) (.c (.v (.bool true))) (.t 48))),(xm 50 49),(xg 51 (.fad 7 (.t 1)) 50 false),(xg 52 (.load false 1 (.t 51)) 50 false),(xg 53 (.len (.t 52)) 50 false),(xg 54 (.bin .gtr (.t 53) (.c (.v (.int .i64 8)))) 50 false),(xi 55 (.pick (.t 50) (.c (.v (.bool true))) (.t 54))),(xm 56 55),(xg 57 (.fad 11 (.t 1)) 56 false),(xg 58 (.load false 1 (.t 57)) 56 false),(xg 59 (.bin .lss (.t 58) (.c (.v (.int .i64 0)))) 56 false),(xi 60 (.pick (.t 56) (.c (.v (.bool true))) (.t 59))),(xm 61 60),(xg 62 (.fad 11 (.t 1)) 61 false),(xg 63 (.load false 1 (.t 62)) 61 false),(xg 64 (.bin .gtr (.t 63) (.c (.v (.int .i64 1099511627776)))) 61 false),(xi 65 (.pick (.t 61) (.c (.v (.bool true))) (.t 64)))])) (.cond (.t 65) (.seq (.reg [(xi 2 (.mov (.c (.v (.bool false)))))]) .ret) .skip))) (.seq (.cut ⟨[2,3,66,67,68,69,70,71,72,73,74,75,76,77,78,79,80,81,82,83,84,85,86,87,88,89,90],[],⟨[],[],[]⟩⟩ (.seq (.reg [(xi 3 (.mov (.c (.v (.int .i64 0)))))]) (.blk 0 (.loop ⟨[2,3,66,67,68,69,70,71,72,73,74,75,76,77,78,79,80,81,82,83,84,85,86,87,88,89,90],[],⟨[],[(3,.v (.i .i64))],[]⟩⟩ (.seq (.seq (.reg [(xm 66 3),(xi 67 (.fad 7 (.t 1))),(xi 68 (.load false 1 (.t 67))),(xi 69 (.len (.t 68))),(xi 70 (.bin .lss (.t 66) (.t 69)))]) (.cond (.t 70) .skip (.exit 0))) (.seq (.cut ⟨[2,73,74,75,76,77,78,79,80,81,82,83,84,85,86,87,88,89,90],[],⟨[],[],[]⟩⟩ (.blk 1 (.seq (.cutN ⟨[73,74,75,76,77,78,79,80,81,82,83,84,85,86,87,88,89,90],[],⟨[],[(90,.v .b)],[]⟩⟩ (.reg [(xi 73 (.fad 7 (.t 1))),(xi 74 (.load false 1 (.t 73))),(xm 75 3),(xi 76 (.iad 3 (.t 74) (.t 75))),(xi 77 (.fad 0 (.t 76))),(xi 78 (.load false 1 (.t 77))),(xi 79 (.call 7 28 [(.t 78)])),(xi 80 (.un .not (.t 79))),(xm 81 80),(xg 82 (.fad 7 (.t 1)) 81 false),(xg 83 (.load false 1 (.t 82)) 81 false),(xg 84 (.mov (.t 3)) 81 false),(xg 85 (.iad 3 (.t 83) (.t 84)) 81 false),(xg 86 (.fad 1 (.t 85)) 81 false),(xg 87 (.load true 2 (.t 86)) 81 false),(xg 88 (.call 8 30 [(.t 87)]) 81 false),(xg 89 (.un .not (.t 88)) 81 false),(xi 90 (.pick (.t 81) (.c (.v (.bool true))) (.t 89)))])) (.cond (.t 90) (.seq (.reg [(xi 2 (.mov (.c (.v (.bool false)))))]) .ret) .skip)))) (.reg [(xm 71 3),(xi 72 (.bin .add (.t 71) (.c (.v (.int .i64 1))))),(xm 3 72)]))))))) (.seq (.cut ⟨[2,91,92,93,94,95,96,97,98,99,100,101,102,103,104],[],⟨[],[],[]⟩⟩ (.seq (.cutN ⟨[91,92,93,94,95,96,97,98,99,100,101,102,103,104],[],⟨[],[(104,.v .b)],[]⟩⟩ (.reg [(xi 91 (.fad 0 (.t 1))),(xi 92 (.load false 1 (.t 91))),(xi 93 (.bin .eql (.t 92) (.c (.v (.int .i64 5))))),(xm 94 93),(xg 95 (.fad 0 (.t 1)) 94 false),(xg 96 (.load false 1 (.t 95)) 94 false),(xg 97 (.bin .eql (.t 96) (.c (.v (.int .i64 6)))) 94 false),(xi 98 (.pick (.t 94) (.c (.v (.bool true))) (.t 97))),(xm 99 98),(xg 100 (.fad 8 (.t 1)) 99 true),(xg 101 (.load false 1 (.t 100)) 99 true),(xg 102 (.call 9 31 [(.t 101)]) 99 true),(xg 103 (.un .not (.t 102)) 99 true),(xi 104 (.pick (.t 99) (.t 103) (.c (.v (.bool false)))))])) (.cond (.t 104) (.seq (.reg [(xi 2 (.mov (.c (.v (.bool false)))))]) .ret) .skip))) (.seq (.reg [(xi 105 (.fad 0 (.t 1))),(xi 106 (.load false 1 (.t 105))),(xi 107 (.bin .lss (.t 106) (.c (.v (.int .i64 11))))),(xm 108 107),(xg 109 (.fad 12 (.t 1)) 108 false),(xg 110 (.load false 1 (.t 109)) 108 false),(xg 111 (.call 10 16 [(.t 110)]) 108 false),(xi 112 (.pick (.t 108) (.c (.v (.bool true))) (.t 111))),(xm 2 112)]) .ret))))),[1,15,21,34,35,41,47,79,88,102,111],113,[.t 2],12⟩
theorem xf12_ok:xf12.ok Try.prog 12:=⟨_,_,Try.func12,rfl,by kernel_rfl,rfl,by kernel_rfl,rfl,by kernel_rfl,by kernel_rfl⟩
def tb12:List PE:=[pe14,pe16,pe28,pe29,pe30,pe31]
theorem tb12_ok:PEsOk Try.prog tb12:=⟨pe14_ok,pe16_ok,pe28_ok,pe29_ok,pe30_ok,pe31_ok,trivial⟩
def ex12:List EX:=[]
theorem ex12_ok:EXsOk Try.prog ex12:=trivial
def in12:List IN:=[]
theorem in12_ok:INsOk Try.prog in12:=trivial
def F12:DT ((.co (.v tzb1) .no):Fm).den→Option (DT (.v .b:Fm).den):=pureT tb12 ex12 in12 0 xf12 _ _ []
def pe12:PE:=⟨12,(.co (.v tzb1) .no),.v .b,F12⟩
theorem pe12_ok:pe12.ok Try.prog:=pe_of hm tb12_ok ex12_ok in12_ok xf12_ok (by kernel_rfl) (fun _=>rfl)
def xf38:FX:=⟨(.seq (.reg [⟨⟨(some 2),(.mov (.c (.v (.string ⟨#[]⟩)))),none⟩,.b,[],[]⟩,(xi 3 (.mov (.c (.v (.int .i64 0)))))]) (.seq (.reg [(xm 5 0),(xi 6 (.lenS (.t 5))),(xi 7 (.bin .sub (.t 6) (.c (.v (.int .i64 4))))),(xm 4 7)]) (.seq (.blk 0 (.seq (.reg [(xm 9 4),(xi 10 (.bin .lss (.t 9) (.c (.v (.int .i64 0))))),(xm 8 10)]) (.cond (.t 8) (.seq (.reg [⟨⟨(some 2),(.mov (.c (.v (.string ⟨#[]⟩)))),none⟩,.b,[],[]⟩,(xi 3 (.mov (.c (.v (.int .i64 3)))))]) .ret) (.seq (.reg [(xm 12 4),(xi 13 (.bin .gtr (.t 12) (.c (.v (.int .i64 4096))))),(xm 11 13)]) (.cond (.t 11) (.seq (.reg [⟨⟨(some 2),(.mov (.c (.v (.string ⟨#[]⟩)))),none⟩,.b,[],[]⟩,(xi 3 (.mov (.c (.v (.int .i64 4)))))]) .ret) (.seq (.dr [] [(xm 15 0),(xm 16 4),(xi 17 (.slS (.t 15) (some (.t 16)) none)),(xm 18 0),(xm 19 4),(xi 20 (.slS (.t 18) none (some (.t 19)))),(xi 21 (.callG 0 82 [(.t 20)])),(xi 22 (.callG 1 81 [(.t 21)])),(xi 23 (.bin .neq (.t 17) (.t 22))),(xm 14 23)]) (.cond (.t 14) (.seq (.reg [⟨⟨(some 2),(.mov (.c (.v (.string ⟨#[]⟩)))),none⟩,.b,[],[]⟩,(xi 3 (.mov (.c (.v (.int .i64 10)))))]) .ret) .skip))))))) (.seq (.reg [(xm 24 0),(xm 25 4),(xi 26 (.slS (.t 24) none (some (.t 25)))),(xm 2 26),(xi 3 (.mov (.c (.v (.int .i64 0)))))]) .ret)))),[21,22],27,[.t 2,.t 3],3⟩
theorem xf38_ok:xf38.ok Try.prog 38:=⟨_,_,Try.func38,rfl,by kernel_rfl,rfl,by kernel_rfl,rfl,by kernel_rfl,by kernel_rfl⟩
def tb38:List PE:=[pe81,pe82]
theorem tb38_ok:PEsOk Try.prog tb38:=⟨pe81_ok,pe82_ok,trivial⟩
def ex38:List EX:=[]
theorem ex38_ok:EXsOk Try.prog ex38:=trivial
def in38:List IN:=[]
theorem in38_ok:INsOk Try.prog in38:=trivial
def F38:DT ((.co (.v .s) .no):Fm).den→Option (DT (.tup (.co (.v .s) (.co (.v (.i .i64)) .no)):Fm).den):=pureT tb38 ex38 in38 0 xf38 _ _ []
def pe38:PE:=⟨38,(.co (.v .s) .no),.tup (.co (.v .s) (.co (.v (.i .i64)) .no)),F38⟩
theorem pe38_ok:pe38.ok Try.prog:=pe_of hm tb38_ok ex38_ok in38_ok xf38_ok (by kernel_rfl) (fun _=>rfl)
def xf36:FX:=⟨(.seq (.reg [⟨⟨(some 0),(.alloc 0 (.agg [(.v (.int .i64 0)),(.v (.int .i64 0)),(.v (.int .i64 0)),(.v (.int .u64 0)),(.v (.int .i64 0)),(.v (.int .u64 0)),(.v (.int .i64 0)),(.sl true []),(.sl true []),(.v (.int .u64 0)),(.v (.int .u64 0)),(.v (.int .i64 0)),(.v (.string ⟨#[]⟩)),(.v (.int .u64 0)),(.v (.bool false))])),none⟩,.b,[],[]⟩]) (.seq (.reg [⟨⟨(some 1),(.bld [(.v (.int .i64 0)),(.v (.int .i64 0)),(.v (.int .i64 0)),(.v (.int .u64 0)),(.v (.int .i64 0)),(.v (.int .u64 0)),(.v (.int .i64 0)),(.sl true []),(.sl true []),(.v (.int .u64 0)),(.v (.int .u64 0)),(.v (.int .i64 0)),(.v (.string ⟨#[]⟩)),(.v (.int .u64 0)),(.v (.bool false))] [(0,1,(.c (.v (.int .i64 4)))),(1,1,(.c (.v (.int .i64 1)))),(2,1,(.c (.v (.int .i64 2)))),(3,1,(.c (.v (.int .u64 5)))),(4,1,(.c (.v (.int .i64 3))))]),none⟩,.b,[],[]⟩,(xz (.store 15 (.t 0) (.t 1)))]) .ret)),[0],2,[.c 0 28 true 15],2⟩
theorem xf36_ok:xf36.ok Try.prog 36:=⟨_,_,Try.func36,rfl,by kernel_rfl,rfl,by kernel_rfl,rfl,by kernel_rfl,by kernel_rfl⟩
def tb36:List PE:=[]
theorem tb36_ok:PEsOk Try.prog tb36:=trivial
def ex36:List EX:=[]
theorem ex36_ok:EXsOk Try.prog ex36:=trivial
def in36:List IN:=[]
theorem in36_ok:INsOk Try.prog in36:=trivial
def F36:DT (.no:Fm).den→Option (DT (.v tzb1:Fm).den):=pureT tb36 ex36 in36 0 xf36 _ _ []
def pe36:PE:=⟨36,.no,.v tzb1,F36⟩
theorem pe36_ok:pe36.ok Try.prog:=pe_of hm tb36_ok ex36_ok in36_ok xf36_ok (by kernel_rfl) (fun _=>rfl)
def xf83:FX:=⟨(.seq (.reg [(xi 2 (.mov (.c (.v (.int .u32 0)))))]) (.seq (.reg [(xi 3 (.mov (.c (.v (.int .u32 4294967295)))))]) (.seq (.seq (.reg [(xi 4 (.mov (.c (.v (.int .i64 0)))))]) (.blk 0 (.loop ⟨[3,4,5,6,7,8,9,10,11,12,13,14,15,16,17,18,19,20,21,22,23,24,25,26,27,28,29,30],[],⟨[],[(3,.v (.i .u32)),(4,.v (.i .i64))],[]⟩⟩ (.seq (.seq (.reg [(xm 7 4),(xm 8 0),(xi 9 (.lenS (.t 8))),(xi 10 (.bin .lss (.t 7) (.t 9)))]) (.cond (.t 10) .skip (.exit 0))) (.seq (.cutN ⟨[3,5,6,13,14,15,16,17,18,19,20,21,22,23,24,25,26,27,28,29,30],[],⟨[],[(3,.v (.i .u32))],[]⟩⟩ (.blk 1 (.seq (.reg [(xm 13 3),(xm 14 0),(xm 15 4),(xi 16 (.ixS (.t 14) (.t 15))),(xi 17 (.conv .u32 (.t 16))),(xi 18 (.bin .xor (.t 13) (.t 17))),(xm 3 18)]) (.seq (.reg [(xi 5 (.mov (.c (.v (.int .i64 0)))))]) (.blk 2 (.loop ⟨[3,5,6,19,20,21,22,23,24,25,26,27,28,29,30],[],⟨[],[(3,.v (.i .u32)),(5,.v (.i .i64))],[]⟩⟩ (.seq (.seq (.reg [(xm 19 5),(xi 20 (.bin .lss (.t 19) (.c (.v (.int .i64 8)))))]) (.cond (.t 20) .skip (.exit 2))) (.seq (.cutN ⟨[3,6,23,24,25,26,27,28,29,30],[],⟨[],[(3,.v (.i .u32))],[]⟩⟩ (.blk 3 (.seq (.reg [(xm 23 3),(xi 24 (.bin .rem (.t 23) (.c (.v (.int .u32 2))))),(xm 6 24)]) (.seq (.reg [(xm 25 3),(xi 26 (.bin .quo (.t 25) (.c (.v (.int .u32 2))))),(xm 3 26)]) (.seq (.reg [(xm 27 6),(xi 28 (.bin .eql (.t 27) (.c (.v (.int .u32 1)))))]) (.cond (.t 28) (.reg [(xm 29 3),(xi 30 (.bin .xor (.t 29) (.c (.v (.int .u32 3988292384))))),(xm 3 30)]) .skip)))))) (.reg [(xm 21 5),(xi 22 (.bin .add (.t 21) (.c (.v (.int .i64 1))))),(xm 5 22)]))))))))) (.reg [(xm 11 4),(xi 12 (.bin .add (.t 11) (.c (.v (.int .i64 1))))),(xm 4 12)])))))) (.seq (.reg [(xm 31 3),(xi 32 (.bin .sub (.c (.v (.int .u32 4294967295))) (.t 31))),(xm 2 32)]) .ret)))),[],33,[.t 2],1⟩
theorem xf83_ok:xf83.ok Try.prog 83:=⟨_,_,Try.func83,rfl,by kernel_rfl,rfl,by kernel_rfl,rfl,by kernel_rfl,by kernel_rfl⟩
def tb83:List PE:=[]
theorem tb83_ok:PEsOk Try.prog tb83:=trivial
def ex83:List EX:=[]
theorem ex83_ok:EXsOk Try.prog ex83:=trivial
def in83:List IN:=[]
theorem in83_ok:INsOk Try.prog in83:=trivial
def F83:DT ((.co (.v .s) .no):Fm).den→Option (DT (.v (.i .u32):Fm).den):=pureT tb83 ex83 in83 0 xf83 _ _ []
def pe83:PE:=⟨83,(.co (.v .s) .no),.v (.i .u32),F83⟩
theorem pe83_ok:pe83.ok Try.prog:=pe_of hm tb83_ok ex83_ok in83_ok xf83_ok (by kernel_rfl) (fun _=>rfl)
def xf37:FX:=⟨(.seq (.reg [⟨⟨(some 2),(.mov (.c (.v (.string ⟨#[]⟩)))),none⟩,.b,[],[]⟩]) (.seq (.reg [(xm 5 0),(xi 6 (.call 0 83 [(.t 5)])),(xm 3 6)]) (.seq (.seq (.reg [(xi 4 (.mov (.c (.v (.int .i64 0)))))]) (.blk 0 (.loop ⟨[0,3,4,7,8,9,10,11,12,13,14,15,16,17,18,19],[],⟨[],[(0,.v .s),(3,.v (.i .u32)),(4,.v (.i .i64))],[]⟩⟩ (.seq (.seq (.reg [(xm 7 4),(xi 8 (.bin .lss (.t 7) (.c (.v (.int .i64 4)))))]) (.cond (.t 8) .skip (.exit 0))) (.seq (.blk 1 (.seq (.reg [(xm 11 0),(xm 12 3),(xi 13 (.bin .rem (.t 12) (.c (.v (.int .u32 256))))),(xi 14 (.conv .u8 (.t 13))),(xi 15 (.bsl 1 (.v (.int .u8 0)) 1 [(0,(.t 14))])),(xi 16 (.bts (.t 15))),(xi 17 (.bin .add (.t 11) (.t 16))),(xm 0 17)]) (.reg [(xm 18 3),(xi 19 (.bin .quo (.t 18) (.c (.v (.int .u32 256))))),(xm 3 19)]))) (.reg [(xm 9 4),(xi 10 (.bin .add (.t 9) (.c (.v (.int .i64 1))))),(xm 4 10)])))))) (.seq (.reg [(xm 20 0),(xm 2 20)]) .ret)))),[6],21,[.t 2],2⟩
theorem xf37_ok:xf37.ok Try.prog 37:=⟨_,_,Try.func37,rfl,by kernel_rfl,rfl,by kernel_rfl,rfl,by kernel_rfl,by kernel_rfl⟩
def tb37:List PE:=[pe83]
theorem tb37_ok:PEsOk Try.prog tb37:=⟨pe83_ok,trivial⟩
def ex37:List EX:=[]
theorem ex37_ok:EXsOk Try.prog ex37:=trivial
def in37:List IN:=[]
theorem in37_ok:INsOk Try.prog in37:=trivial
def F37:DT ((.co (.v .s) .no):Fm).den→Option (DT (.v .s:Fm).den):=pureT tb37 ex37 in37 0 xf37 _ _ []
def pe37:PE:=⟨37,(.co (.v .s) .no),.v .s,F37⟩
theorem pe37_ok:pe37.ok Try.prog:=pe_of hm tb37_ok ex37_ok in37_ok xf37_ok (by kernel_rfl) (fun _=>rfl)
def xf42:FX:=⟨(.seq (.reg [⟨⟨(some 2),(.mov (.c (.v (.string ⟨#[]⟩)))),none⟩,.b,[],[]⟩]) (.seq (.seq (.reg [(xm 3 0),(xi 4 (.bin .lss (.t 3) (.c (.v (.int .u64 128)))))]) (.cond (.t 4) (.seq (.reg [(xm 5 0),(xi 6 (.conv .u8 (.t 5))),(xi 7 (.bsl 1 (.v (.int .u8 0)) 1 [(0,(.t 6))])),(xi 8 (.bts (.t 7))),(xm 2 8)]) .ret) .skip)) (.seq (.dr [] [(xm 9 0),(xi 10 (.bin .rem (.t 9) (.c (.v (.int .u64 128))))),(xi 11 (.bin .add (.t 10) (.c (.v (.int .u64 128))))),(xi 12 (.conv .u8 (.t 11))),(xi 13 (.bsl 1 (.v (.int .u8 0)) 1 [(0,(.t 12))])),(xi 14 (.bts (.t 13))),(xm 15 0),(xi 16 (.bin .quo (.t 15) (.c (.v (.int .u64 128))))),(xi 17 (.call 0 42 [(.t 16)])),(xi 18 (.bin .add (.t 14) (.t 17))),(xm 2 18)]) .ret))),[17],19,[.t 2],2⟩
theorem xf42_ok:xf42.ok Try.prog 42:=⟨_,_,Try.func42,rfl,by kernel_rfl,rfl,by kernel_rfl,rfl,by kernel_rfl,by kernel_rfl⟩
def tb42 (F:DT ((.co (.v (.i .u64)) .no):Fm).den→Option (DT (.v .s:Fm).den)):List PE:=[⟨42,(.co (.v (.i .u64)) .no),.v .s,F⟩]
theorem tb42_ok {F:DT ((.co (.v (.i .u64)) .no):Fm).den→Option (DT (.v .s:Fm).den)} (h:(⟨42,(.co (.v (.i .u64)) .no),.v .s,F⟩:PE).ok Try.prog):PEsOk Try.prog (tb42 F):=⟨h,trivial⟩
def ex42:List EX:=[]
theorem ex42_ok:EXsOk Try.prog ex42:=trivial
def in42:List IN:=[]
theorem in42_ok:INsOk Try.prog in42:=trivial
def G42 (F:DT ((.co (.v (.i .u64)) .no):Fm).den→Option (DT (.v .s:Fm).den)):DT ((.co (.v (.i .u64)) .no):Fm).den→Option (DT (.v .s:Fm).den):=pureT (tb42 F) ex42 in42 0 xf42 _ _ []
def K42:Nat→DT ((.co (.v (.i .u64)) .no):Fm).den→Option (DT (.v .s:Fm).den)
 | 0=>fun _=>none
 | k+1=>G42 (K42 k)
theorem k42_ok:∀ k,(⟨42,(.co (.v (.i .u64)) .no),.v .s,K42 k⟩:PE).ok Try.prog
 | 0=>⟨rfl,rfl,rfl,rfl,rfl,fun v y h=>by cases h⟩
 | k+1=>pe_of hm (tb42_ok (k42_ok k)) ex42_ok in42_ok xf42_ok (by kernel_rfl) (fun _=>rfl)
def F42:DT ((.co (.v (.i .u64)) .no):Fm).den→Option (DT (.v .s:Fm).den):=K42 12
def pe42:PE:=⟨42,(.co (.v (.i .u64)) .no),.v .s,F42⟩
theorem pe42_ok:pe42.ok Try.prog:=k42_ok 12
def xf40:FX:=⟨(.seq (.reg [⟨⟨(some 2),(.mov (.c (.v (.string ⟨#[]⟩)))),none⟩,.b,[],[]⟩]) (.seq (.reg [⟨⟨(some 3),(.mov (.c (.v (.string ⟨#[]⟩)))),none⟩,.b,[],[]⟩]) (.seq (.seq (.reg [(xi 4 (.mov (.c (.v (.int .i64 0)))))]) (.blk 0 (.loop ⟨[3,4,5,6,7,8,9,10,11,12,13,14,15,16,17],[],⟨[],[(3,.v .s),(4,.v (.i .i64))],[]⟩⟩ (.seq (.seq (.reg [(xm 5 4),(xm 6 0),(xi 7 (.len (.t 6))),(xi 8 (.bin .lss (.t 5) (.t 7)))]) (.cond (.t 8) .skip (.exit 0))) (.seq (.blk 1 (.reg [(xm 11 3),(xm 12 0),(xm 13 4),(xi 14 (.iad 1 (.t 12) (.t 13))),(xi 15 (.load false 1 (.t 14))),(xi 16 (.call 0 42 [(.t 15)])),(xi 17 (.bin .add (.t 11) (.t 16))),(xm 3 17)])) (.reg [(xm 9 4),(xi 10 (.bin .add (.t 9) (.c (.v (.int .i64 1))))),(xm 4 10)])))))) (.seq (.reg [(xm 18 3),(xm 2 18)]) .ret)))),[16],19,[.t 2],2⟩
theorem xf40_ok:xf40.ok Try.prog 40:=⟨_,_,Try.func40,rfl,by kernel_rfl,rfl,by kernel_rfl,rfl,by kernel_rfl,by kernel_rfl⟩
def tb40:List PE:=[pe42]
theorem tb40_ok:PEsOk Try.prog tb40:=⟨pe42_ok,trivial⟩
def ex40:List EX:=[]
theorem ex40_ok:EXsOk Try.prog ex40:=trivial
def in40:List IN:=[]
theorem in40_ok:INsOk Try.prog in40:=trivial
def F40:DT ((.co (.v (.sl (.i .u64))) .no):Fm).den→Option (DT (.v .s:Fm).den):=pureT tb40 ex40 in40 0 xf40 _ _ []
def pe40:PE:=⟨40,(.co (.v (.sl (.i .u64))) .no),.v .s,F40⟩
theorem pe40_ok:pe40.ok Try.prog:=pe_of hm tb40_ok ex40_ok in40_ok xf40_ok (by kernel_rfl) (fun _=>rfl)
def xf41:FX:=⟨(.seq (.reg [⟨⟨(some 2),(.mov (.c (.v (.string ⟨#[]⟩)))),none⟩,.b,[],[]⟩]) (.seq (.reg [(xm 3 0),(xi 4 (.lenS (.t 3))),(xi 5 (.conv .u64 (.t 4))),(xi 6 (.call 0 42 [(.t 5)])),(xm 7 0),(xi 8 (.bin .add (.t 6) (.t 7))),(xm 2 8)]) .ret)),[6],9,[.t 2],2⟩
theorem xf41_ok:xf41.ok Try.prog 41:=⟨_,_,Try.func41,rfl,by kernel_rfl,rfl,by kernel_rfl,rfl,by kernel_rfl,by kernel_rfl⟩
def tb41:List PE:=[pe42]
theorem tb41_ok:PEsOk Try.prog tb41:=⟨pe42_ok,trivial⟩
def ex41:List EX:=[]
theorem ex41_ok:EXsOk Try.prog ex41:=trivial
def in41:List IN:=[]
theorem in41_ok:INsOk Try.prog in41:=trivial
def F41:DT ((.co (.v .s) .no):Fm).den→Option (DT (.v .s:Fm).den):=pureT tb41 ex41 in41 0 xf41 _ _ []
def pe41:PE:=⟨41,(.co (.v .s) .no),.v .s,F41⟩
theorem pe41_ok:pe41.ok Try.prog:=pe_of hm tb41_ok ex41_ok in41_ok xf41_ok (by kernel_rfl) (fun _=>rfl)
def xf19:FX:=⟨(.seq (.reg [(xi 1 (.box 0 15 (.t 0))),⟨⟨(some 2),(.mov (.c (.v (.string ⟨#[]⟩)))),none⟩,.b,[],[]⟩]) (.seq (.reg [(xi 8 (.fad 0 (.t 1))),(xi 9 (.load false 1 (.t 8))),(xi 10 (.conv .u64 (.t 9))),(xi 11 (.fad 1 (.t 1))),(xi 12 (.load false 1 (.t 11))),(xi 13 (.conv .u64 (.t 12))),(xi 14 (.fad 2 (.t 1))),(xi 15 (.load false 1 (.t 14))),(xi 16 (.conv .u64 (.t 15))),(xi 17 (.bsl 1 (.v (.int .u64 0)) 3 [(0,(.t 10)),(1,(.t 13)),(2,(.t 16))])),(xm 3 17)]) (.seq (.reg [(xi 18 (.fad 0 (.t 1))),(xi 19 (.load false 1 (.t 18))),(xm 4 19)]) (.seq (.seq (.reg [(xm 20 4),(xi 21 (.bin .leq (.t 20) (.c (.v (.int .i64 4)))))]) (.cond (.t 21) (.reg [(xm 22 3),(xi 23 (.fad 3 (.t 1))),(xi 24 (.load false 1 (.t 23))),(xi 25 (.bsl 1 (.v (.int .u64 0)) 1 [(0,(.t 24))])),⟨⟨(some 26),(.app 1 1 8 (.v (.int .u64 0)) (.t 22) (.t 25)),none⟩,(.i .u64),[],[]⟩,(xm 3 26)]) .skip)) (.seq (.seq (.cutN ⟨[27,28,29,30,31,32],[],⟨[],[(32,.v .b)],[]⟩⟩ (.reg [(xm 27 4),(xi 28 (.bin .geq (.t 27) (.c (.v (.int .i64 2))))),(xm 29 28),(xg 30 (.mov (.t 4)) 29 true),(xg 31 (.bin .leq (.t 30) (.c (.v (.int .i64 4)))) 29 true),(xi 32 (.pick (.t 29) (.t 31) (.c (.v (.bool false)))))])) (.cond (.t 32) (.reg [(xm 33 3),(xi 34 (.fad 4 (.t 1))),(xi 35 (.load false 1 (.t 34))),(xi 36 (.conv .u64 (.t 35))),(xi 37 (.bsl 1 (.v (.int .u64 0)) 1 [(0,(.t 36))])),⟨⟨(some 38),(.app 2 1 8 (.v (.int .u64 0)) (.t 33) (.t 37)),none⟩,(.i .u64),[],[]⟩,(xm 3 38)]) .skip)) (.seq (.seq (.cutN ⟨[39,40,41,42,43,44],[],⟨[],[(44,.v .b)],[]⟩⟩ (.reg [(xm 39 4),(xi 40 (.bin .eql (.t 39) (.c (.v (.int .i64 1))))),(xm 41 40),(xg 42 (.mov (.t 4)) 41 false),(xg 43 (.bin .eql (.t 42) (.c (.v (.int .i64 3)))) 41 false),(xi 44 (.pick (.t 41) (.c (.v (.bool true))) (.t 43)))])) (.cond (.t 44) (.reg [(xm 45 3),(xi 46 (.fad 5 (.t 1))),(xi 47 (.fad 0 (.t 46))),(xi 48 (.load false 1 (.t 47))),(xi 49 (.fad 5 (.t 1))),(xi 50 (.fad 1 (.t 49))),(xi 51 (.load false 1 (.t 50))),(xi 52 (.conv .u64 (.t 51))),(xi 53 (.bsl 1 (.v (.int .u64 0)) 2 [(0,(.t 48)),(1,(.t 52))])),⟨⟨(some 54),(.app 3 1 8 (.v (.int .u64 0)) (.t 45) (.t 53)),none⟩,(.i .u64),[],[]⟩,(xm 3 54)]) .skip)) (.seq (.seq (.reg [(xm 55 4),(xi 56 (.bin .leq (.t 55) (.c (.v (.int .i64 3)))))]) (.cond (.t 56) (.seq (.reg [(xm 57 3),(xi 58 (.fad 7 (.t 1))),(xi 59 (.load false 1 (.t 58))),(xi 60 (.len (.t 59))),(xi 61 (.conv .u64 (.t 60))),(xi 62 (.bsl 1 (.v (.int .u64 0)) 1 [(0,(.t 61))])),⟨⟨(some 63),(.app 4 1 8 (.v (.int .u64 0)) (.t 57) (.t 62)),none⟩,(.i .u64),[],[]⟩,(xm 3 63)]) (.seq (.reg [(xi 5 (.mov (.c (.v (.int .i64 0)))))]) (.blk 0 (.loop ⟨[3,5,64,65,66,67,68,69,70,71,72,73,74,75,76,77,78,79,80,81,82,83,84,85,86,87,88,89,90,91,92,93,94,95],[1,5],⟨[],[(3,.ow 1 1),(5,.v (.i .i64))],[⟨1,.rows (.i .u64) 1,false⟩]⟩⟩ (.seq (.seq (.reg [(xm 64 5),(xi 65 (.fad 7 (.t 1))),(xi 66 (.load false 1 (.t 65))),(xi 67 (.len (.t 66))),(xi 68 (.bin .lss (.t 64) (.t 67)))]) (.cond (.t 68) .skip (.exit 0))) (.seq (.blk 1 (.rdr [(xm 71 3),(xi 72 (.fad 7 (.t 1))),(xi 73 (.load false 1 (.t 72))),(xm 74 5),(xi 75 (.iad 3 (.t 73) (.t 74))),(xi 76 (.fad 0 (.t 75))),(xi 77 (.load false 1 (.t 76))),(xi 78 (.conv .u64 (.t 77))),(xi 79 (.fad 7 (.t 1))),(xi 80 (.load false 1 (.t 79))),(xm 81 5),(xi 82 (.iad 3 (.t 80) (.t 81))),(xi 83 (.fad 1 (.t 82))),(xi 84 (.fad 0 (.t 83))),(xi 85 (.load false 1 (.t 84))),(xi 86 (.fad 7 (.t 1))),(xi 87 (.load false 1 (.t 86))),(xm 88 5),(xi 89 (.iad 3 (.t 87) (.t 88))),(xi 90 (.fad 1 (.t 89))),(xi 91 (.fad 1 (.t 90))),(xi 92 (.load false 1 (.t 91))),(xi 93 (.conv .u64 (.t 92))),(xi 94 (.bsl 1 (.v (.int .u64 0)) 3 [(0,(.t 78)),(1,(.t 85)),(2,(.t 93))])),⟨⟨(some 95),(.app 5 1 8 (.v (.int .u64 0)) (.t 71) (.t 94)),none⟩,(.i .u64),[],[]⟩,(xm 3 95)])) (.reg [(xm 69 5),(xi 70 (.bin .add (.t 69) (.c (.v (.int .i64 1))))),(xm 5 70)]))))))) .skip)) (.seq (.seq (.cutN ⟨[96,97,98,99,100,101],[],⟨[],[(101,.v .b)],[]⟩⟩ (.reg [(xm 96 4),(xi 97 (.bin .eql (.t 96) (.c (.v (.int .i64 5))))),(xm 98 97),(xg 99 (.mov (.t 4)) 98 false),(xg 100 (.bin .eql (.t 99) (.c (.v (.int .i64 6)))) 98 false),(xi 101 (.pick (.t 98) (.c (.v (.bool true))) (.t 100)))])) (.cond (.t 101) (.seq (.reg [(xm 102 3),(xi 103 (.fad 8 (.t 1))),(xi 104 (.load false 1 (.t 103))),(xi 105 (.len (.t 104))),(xi 106 (.conv .u64 (.t 105))),(xi 107 (.bsl 1 (.v (.int .u64 0)) 1 [(0,(.t 106))])),⟨⟨(some 108),(.app 6 1 8 (.v (.int .u64 0)) (.t 102) (.t 107)),none⟩,(.i .u64),[],[]⟩,(xm 3 108)]) (.seq (.reg [(xi 6 (.mov (.c (.v (.int .i64 0)))))]) (.blk 2 (.loop ⟨[3,6,109,110,111,112,113,114,115,116,117,118,119,120,121,122,123,124,125,126,127,128,129,130,131],[6,7],⟨[],[(3,.ow 6 1),(6,.v (.i .i64))],[⟨6,.rows (.i .u64) 1,false⟩]⟩⟩ (.seq (.seq (.reg [(xm 109 6),(xi 110 (.fad 8 (.t 1))),(xi 111 (.load false 1 (.t 110))),(xi 112 (.len (.t 111))),(xi 113 (.bin .lss (.t 109) (.t 112)))]) (.cond (.t 113) .skip (.exit 2))) (.seq (.blk 3 (.rdr [(xm 116 3),(xi 117 (.fad 8 (.t 1))),(xi 118 (.load false 1 (.t 117))),(xm 119 6),(xi 120 (.iad 2 (.t 118) (.t 119))),(xi 121 (.fad 0 (.t 120))),(xi 122 (.load false 1 (.t 121))),(xi 123 (.fad 8 (.t 1))),(xi 124 (.load false 1 (.t 123))),(xm 125 6),(xi 126 (.iad 2 (.t 124) (.t 125))),(xi 127 (.fad 1 (.t 126))),(xi 128 (.load false 1 (.t 127))),(xi 129 (.conv .u64 (.t 128))),(xi 130 (.bsl 1 (.v (.int .u64 0)) 2 [(0,(.t 122)),(1,(.t 129))])),⟨⟨(some 131),(.app 7 1 8 (.v (.int .u64 0)) (.t 116) (.t 130)),none⟩,(.i .u64),[],[]⟩,(xm 3 131)])) (.reg [(xm 114 6),(xi 115 (.bin .add (.t 114) (.c (.v (.int .i64 1))))),(xm 6 115)]))))))) .skip)) (.seq (.seq (.cutN ⟨[132,133,134,135,136,137,138,139,140,141],[],⟨[],[(141,.v .b)],[]⟩⟩ (.reg [(xm 132 4),(xi 133 (.bin .geq (.t 132) (.c (.v (.int .i64 7))))),(xm 134 133),(xg 135 (.mov (.t 4)) 134 true),(xg 136 (.bin .leq (.t 135) (.c (.v (.int .i64 9)))) 134 true),(xi 137 (.pick (.t 134) (.t 136) (.c (.v (.bool false))))),(xm 138 137),(xg 139 (.mov (.t 4)) 138 false),(xg 140 (.bin .eql (.t 139) (.c (.v (.int .i64 11)))) 138 false),(xi 141 (.pick (.t 138) (.c (.v (.bool true))) (.t 140)))])) (.cond (.t 141) (.reg [(xm 142 3),(xi 143 (.fad 9 (.t 1))),(xi 144 (.load false 1 (.t 143))),(xi 145 (.bsl 1 (.v (.int .u64 0)) 1 [(0,(.t 144))])),⟨⟨(some 146),(.app 8 1 8 (.v (.int .u64 0)) (.t 142) (.t 145)),none⟩,(.i .u64),[],[]⟩,(xm 3 146)]) .skip)) (.seq (.seq (.cutN ⟨[147,148,149,150,151,152],[],⟨[],[(152,.v .b)],[]⟩⟩ (.reg [(xm 147 4),(xi 148 (.bin .geq (.t 147) (.c (.v (.int .i64 7))))),(xm 149 148),(xg 150 (.mov (.t 4)) 149 true),(xg 151 (.bin .leq (.t 150) (.c (.v (.int .i64 11)))) 149 true),(xi 152 (.pick (.t 149) (.t 151) (.c (.v (.bool false)))))])) (.cond (.t 152) (.reg [(xm 153 3),(xi 154 (.fad 10 (.t 1))),(xi 155 (.load false 1 (.t 154))),(xi 156 (.bsl 1 (.v (.int .u64 0)) 1 [(0,(.t 155))])),⟨⟨(some 157),(.app 9 1 8 (.v (.int .u64 0)) (.t 153) (.t 156)),none⟩,(.i .u64),[],[]⟩,(xm 3 157)]) .skip)) (.seq (.seq (.cutN ⟨[158,159,160,161,162,163,164,165,166,167,168,169,170,171],[],⟨[],[(171,.v .b)],[]⟩⟩ (.reg [(xm 158 4),(xi 159 (.bin .eql (.t 158) (.c (.v (.int .i64 7))))),(xm 160 159),(xg 161 (.mov (.t 4)) 160 false),(xg 162 (.bin .eql (.t 161) (.c (.v (.int .i64 8)))) 160 false),(xi 163 (.pick (.t 160) (.c (.v (.bool true))) (.t 162))),(xm 164 163),(xg 165 (.mov (.t 4)) 164 false),(xg 166 (.bin .eql (.t 165) (.c (.v (.int .i64 10)))) 164 false),(xi 167 (.pick (.t 164) (.c (.v (.bool true))) (.t 166))),(xm 168 167),(xg 169 (.mov (.t 4)) 168 false),(xg 170 (.bin .eql (.t 169) (.c (.v (.int .i64 11)))) 168 false),(xi 171 (.pick (.t 168) (.c (.v (.bool true))) (.t 170)))])) (.cond (.t 171) (.reg [(xm 172 3),(xi 173 (.fad 11 (.t 1))),(xi 174 (.load false 1 (.t 173))),(xi 175 (.conv .u64 (.t 174))),(xi 176 (.bsl 1 (.v (.int .u64 0)) 1 [(0,(.t 175))])),⟨⟨(some 177),(.app 10 1 8 (.v (.int .u64 0)) (.t 172) (.t 176)),none⟩,(.i .u64),[],[]⟩,(xm 3 177)]) .skip)) (.seq (.reg [(xm 178 3),(xi 179 (.call 11 40 [(.t 178)])),(xm 7 179)]) (.seq (.cutN ⟨[7,180,181,182,183,184,185,186,187,188,189,190],[],⟨[],[(7,.v .s)],[]⟩⟩ (.seq (.reg [(xm 180 4),(xi 181 (.bin .geq (.t 180) (.c (.v (.int .i64 11)))))]) (.cond (.t 181) (.dr [(5,3)] [(xm 182 7),(xi 183 (.fad 12 (.t 1))),(xi 184 (.load false 1 (.t 183))),(xi 185 (.callG 12 41 [(.t 184)])),(xi 186 (.fad 13 (.t 1))),(xi 187 (.load false 1 (.t 186))),(xi 188 (.callG 13 42 [(.t 187)])),(xi 189 (.bin .add (.t 185) (.t 188))),(xi 190 (.bin .add (.t 182) (.t 189))),(xm 7 190)]) .skip))) (.seq (.cutN ⟨[7,191,192,193,194,195,196,197,198],[],⟨[],[(7,.v .s)],[]⟩⟩ (.seq (.cutN ⟨[191,192,193,194,195,196],[],⟨[],[(196,.v .b)],[]⟩⟩ (.reg [(xm 191 4),(xi 192 (.bin .eql (.t 191) (.c (.v (.int .i64 12))))),(xm 193 192),(xg 194 (.fad 14 (.t 1)) 193 true),(xg 195 (.load false 1 (.t 194)) 193 true),(xi 196 (.pick (.t 193) (.t 195) (.c (.v (.bool false)))))])) (.cond (.t 196) (.reg [(xm 197 7),⟨⟨(some 198),(.bin .add (.t 197) (.c (.v (.string ⟨#[1]⟩)))),none⟩,.b,[],[]⟩,(xm 7 198)]) .skip))) (.seq (.seq (.cutN ⟨[199,200,201,202,203,204,205],[],⟨[],[(205,.v .b)],[]⟩⟩ (.reg [(xm 199 4),(xi 200 (.bin .eql (.t 199) (.c (.v (.int .i64 12))))),(xm 201 200),(xg 202 (.fad 14 (.t 1)) 201 true),(xg 203 (.load false 1 (.t 202)) 201 true),(xg 204 (.un .not (.t 203)) 201 true),(xi 205 (.pick (.t 201) (.t 204) (.c (.v (.bool false)))))])) (.cond (.t 205) (.reg [(xm 206 7),⟨⟨(some 207),(.bin .add (.t 206) (.c (.v (.string ⟨#[0]⟩)))),none⟩,.b,[],[]⟩,(xm 7 207)]) .skip)) (.seq (.reg [(xm 208 7),(xi 209 (.call 14 37 [(.t 208)])),(xm 2 209)]) .ret)))))))))))))))),[1,26,38,54,63,95,108,131,146,157,177,179,185,188,209],210,[.t 2],16⟩
theorem xf19_ok:xf19.ok Try.prog 19:=⟨_,_,Try.func19,rfl,by kernel_rfl,rfl,by kernel_rfl,rfl,by kernel_rfl,by kernel_rfl⟩
def tb19:List PE:=[pe37,pe40,pe41,pe42]
theorem tb19_ok:PEsOk Try.prog tb19:=⟨pe37_ok,pe40_ok,pe41_ok,pe42_ok,trivial⟩
def ex19:List EX:=[]
theorem ex19_ok:EXsOk Try.prog ex19:=trivial
def in19:List IN:=[]
theorem in19_ok:INsOk Try.prog in19:=trivial
def F19:DT ((.co (.v tzb1) .no):Fm).den→Option (DT (.v .s:Fm).den):=pureT tb19 ex19 in19 0 xf19 _ _ []
def pe19:PE:=⟨19,(.co (.v tzb1) .no),.v .s,F19⟩
theorem pe19_ok:pe19.ok Try.prog:=pe_of hm tb19_ok ex19_ok in19_ok xf19_ok (by kernel_rfl) (fun _=>rfl)
def xf18:FX:=⟨(.seq (.reg [⟨⟨(some 2),(.alloc 0 (.agg [(.v (.int .i64 0)),(.v (.int .i64 0)),(.v (.int .i64 0)),(.v (.int .u64 0)),(.v (.int .i64 0)),(.v (.int .u64 0)),(.v (.int .i64 0)),(.sl true []),(.sl true []),(.v (.int .u64 0)),(.v (.int .u64 0)),(.v (.int .i64 0)),(.v (.string ⟨#[]⟩)),(.v (.int .u64 0)),(.v (.bool false))])),none⟩,.b,[],[]⟩,(xi 3 (.mov (.c (.v (.int .i64 0)))))]) (.seq (.reg [(xm 11 0),(xi 12 (.call 1 38 [(.t 11)])),(xm 10 12),(xi 13 (.ext (.t 10) 0)),(xi 14 (.ext (.t 10) 1)),(xm 0 13),(xm 4 14)]) (.seq (.seq (.reg [(xm 15 4),(xi 16 (.bin .neq (.t 15) (.c (.v (.int .i64 0)))))]) (.cond (.t 16) (.seq (.reg [⟨⟨(some 17),(.bld [(.v (.int .i64 0)),(.v (.int .i64 0)),(.v (.int .i64 0)),(.v (.int .u64 0)),(.v (.int .i64 0)),(.v (.int .u64 0)),(.v (.int .i64 0)),(.sl true []),(.sl true []),(.v (.int .u64 0)),(.v (.int .u64 0)),(.v (.int .i64 0)),(.v (.string ⟨#[]⟩)),(.v (.int .u64 0)),(.v (.bool false))] []),none⟩,.b,[],[]⟩,(xm 18 4),(xz (.store 15 (.t 2) (.t 17))),(xm 3 18)]) .ret) .skip)) (.seq (.reg [(xm 19 0),⟨⟨(some 20),(.bld [(.v (.string ⟨#[]⟩)),(.v (.int .i64 0)),(.v (.bool false))] [(0,1,(.t 19)),(2,1,(.c (.v (.bool true))))]),none⟩,.b,[],[]⟩,(xi 21 (.box 2 3 (.t 20))),(xm 5 21)]) (.seq (.reg [(xm 22 5),(xi 23 (.call 3 39 [(.t 22)])),(xm 24 5),(xi 25 (.call 4 39 [(.t 24)])),(xm 26 5),(xi 27 (.call 5 39 [(.t 26)])),⟨⟨(some 28),(.bld [(.v (.int .i64 0)),(.v (.int .i64 0)),(.v (.int .i64 0)),(.v (.int .u64 0)),(.v (.int .i64 0)),(.v (.int .u64 0)),(.v (.int .i64 0)),(.sl true []),(.sl true []),(.v (.int .u64 0)),(.v (.int .u64 0)),(.v (.int .i64 0)),(.v (.string ⟨#[]⟩)),(.v (.int .u64 0)),(.v (.bool false))] [(0,1,(.t 23)),(1,1,(.t 25)),(2,1,(.t 27))]),none⟩,.b,[],[]⟩,⟨⟨(some 6),(.alloc 6 (.agg [(.v (.int .i64 0)),(.v (.int .i64 0)),(.v (.int .i64 0)),(.v (.int .u64 0)),(.v (.int .i64 0)),(.v (.int .u64 0)),(.v (.int .i64 0)),(.sl true []),(.sl true []),(.v (.int .u64 0)),(.v (.int .u64 0)),(.v (.int .i64 0)),(.v (.string ⟨#[]⟩)),(.v (.int .u64 0)),(.v (.bool false))])),none⟩,.b,[],[]⟩,(xz (.store 15 (.t 6) (.t 28)))]) (.seq (.reg [(xi 29 (.call 7 23 [])),(xm 7 29)]) (.seq (.cutN ⟨[9,30,31,32,33,34,35,36,37,38,39,40,41,42,43,44],[2,6,42,43,44,45,46,47,48,49,50,51,52,53,54,55,56,57,58,59,60,61,62,63,64,65,66,67,68,69,70,71,72,73,74,75,76,77,78,79,80,81,82,83,84,85,86,87,88,89,90,91,92,93,94,95,96,97,98,99,100,101,102,103,104,105,106,107,108,109,110,111,112,113,114,115,116,117,118,119,120,121,122,123,124,125,126,127,128,129],⟨[],[],[⟨2,.row (.v tzb2),true⟩,⟨6,.row (.agg fzb1),true⟩,⟨42,.rows (.p (.i .i64) (.p (.i .u64) (.i .i64))) 3,false⟩,⟨43,.rows (.p (.i .u64) (.i .i64)) 2,false⟩]⟩⟩ (.seq (.reg [(xi 30 (.fad 0 (.t 6))),(xi 31 (.load false 1 (.t 30))),(xi 32 (.call 8 24 [(.t 31)])),(xi 33 (.len (.t 32))),(xi 34 (.mov (.c (.v (.int .i64 0)))))]) (.blk 0 (.loop ⟨[9,34,35,36,37,38,39,40,41,42,43,44],[2,6,42,43,44,45,46,47,48,49,50,51,52,53,54,55,56,57,58,59,60,61,62,63,64,65,66,67,68,69,70,71,72,73,74,75,76,77,78,79,80,81,82,83,84,85,86,87,88,89,90,91,92,93,94,95,96,97,98,99,100,101,102,103,104,105,106,107,108,109,110,111,112,113,114,115,116,117,118,119,120,121,122,123,124,125,126,127,128,129],⟨[],[(34,.v (.i .i64))],[⟨2,.row (.v tzb2),true⟩,⟨6,.row (.agg fzb1),true⟩,⟨42,.rows (.p (.i .i64) (.p (.i .u64) (.i .i64))) 3,false⟩,⟨43,.rows (.p (.i .u64) (.i .i64)) 2,false⟩]⟩⟩ (.seq (.reg [(xi 35 (.bin .lss (.t 34) (.t 33)))]) (.seq (.cond (.t 35) .skip (.exit 0)) (.seq (.blk 1 (.seq (.reg [(xi 36 (.iad 1 (.t 32) (.t 34))),(xi 37 (.load false 1 (.t 36))),(xm 9 37)]) (.reg [(xm 38 7),(xm 39 9),(xi 40 (.lkp false .s (.agg [(.v .nilFunc),(.v .nilFunc),(.v .nilFunc)]) (.t 38) (.t 39))),(xi 41 (.fld false 2 1 (.t 40))),(xm 42 5),(xi 43 (.callv 9 (.t 41) [(.t 42),(.t 6)]))]))) (.reg [(xi 44 (.bin .add (.t 34) (.c (.v (.int .i64 1))))),(xm 34 44)])))))))) (.seq (.seq (.cutN ⟨[45,46,47,48,49,50,51,52,53,54,55,56,57,58,59,60,61,62,63],[],⟨[],[(63,.v .b)],[]⟩⟩ (.reg [(xm 45 5),(xi 46 (.nilc (.t 45))),(xi 47 (.fad 2 (.t 46))),(xi 48 (.load false 1 (.t 47))),(xi 49 (.un .not (.t 48))),(xm 50 49),(xg 51 (.mov (.t 5)) 50 false),(xg 52 (.nilc (.t 51)) 50 false),(xg 53 (.fad 1 (.t 52)) 50 false),(xg 54 (.load false 1 (.t 53)) 50 false),(xg 55 (.mov (.t 0)) 50 false),(xg 56 (.lenS (.t 55)) 50 false),(xg 57 (.bin .neq (.t 54) (.t 56)) 50 false),(xi 58 (.pick (.t 50) (.c (.v (.bool true))) (.t 57))),(xm 59 58),(xg 60 (.load true 15 (.t 6)) 59 false),(xg 61 (.call 10 11 [(.t 60)]) 59 false),(xg 62 (.bin .neq (.t 61) (.c (.v (.int .i64 0)))) 59 false),(xi 63 (.pick (.t 59) (.c (.v (.bool true))) (.t 62)))])) (.cond (.t 63) (.seq (.reg [⟨⟨(some 64),(.bld [(.v (.int .i64 0)),(.v (.int .i64 0)),(.v (.int .i64 0)),(.v (.int .u64 0)),(.v (.int .i64 0)),(.v (.int .u64 0)),(.v (.int .i64 0)),(.sl true []),(.sl true []),(.v (.int .u64 0)),(.v (.int .u64 0)),(.v (.int .i64 0)),(.v (.string ⟨#[]⟩)),(.v (.int .u64 0)),(.v (.bool false))] []),none⟩,.b,[],[]⟩,(xz (.store 15 (.t 2) (.t 64))),(xi 3 (.mov (.c (.v (.int .i64 2)))))]) .ret) .skip)) (.seq (.reg [(xi 65 (.load true 15 (.t 6))),(xz (.store 15 (.t 2) (.t 65))),(xi 3 (.mov (.c (.v (.int .i64 0)))))]) .ret))))))))),[2,12,21,23,25,27,6,29,32,43,61],66,[.c 2 28 true 15,.t 3],130⟩
theorem xf18_ok:xf18.ok Try.prog 18:=⟨_,_,Try.func18,rfl,by kernel_rfl,rfl,by kernel_rfl,rfl,by kernel_rfl,by kernel_rfl⟩
def ff39:FX:=⟨(.seq (.reg [(xi 2 (.mov (.c (.v (.int .i64 0)))))]) (.seq (.reg [(xm 4 0),(xi 5 (.call 0 50 [(.t 4)])),(xm 3 5)]) (.seq (.seq (.reg [(xm 6 3),(xi 7 (.bin .gtr (.t 6) (.c (.v (.int .u64 1048576)))))]) (.cond (.t 7) (.seq (.reg [(xm 8 0),(xi 9 (.nilc (.t 8))),(xi 10 (.fad 2 (.t 9))),(xz (.store 1 (.t 10) (.c (.v (.bool false)))))]) (.seq (.reg [(xi 2 (.mov (.c (.v (.int .i64 0)))))]) .ret)) .skip)) (.seq (.reg [(xm 11 3),(xi 12 (.conv .i64 (.t 11))),(xm 2 12)]) .ret)))),[5],13,[.t 2],2⟩
theorem ff39_ok:ff39.ok Try.prog 39:=⟨_,_,Try.func39,rfl,by kernel_rfl,rfl,by kernel_rfl,rfl,by kernel_rfl,by kernel_rfl⟩
def ff49:FX:=⟨(.reg [(xi 5 (.load false 1 (.t 2))),(xm 6 1),(xi 7 (.callv 0 (.t 5) [(.t 6)])),(xm 8 0),(xi 9 (.call 1 50 [(.t 8)])),(xi 10 (.nilc (.t 7))),(xz (.store 1 (.t 10) (.t 9)))]),[7,9],11,[],3⟩
theorem ff49_ok:ff49.ok Try.prog 49:=⟨_,_,Try.func49,rfl,by kernel_rfl,rfl,by kernel_rfl,rfl,by kernel_rfl,by kernel_rfl⟩
def ff57:FX:=⟨(.reg [(xm 4 1),(xm 5 0),(xi 6 (.call 0 39 [(.t 5)])),(xi 7 (.nilc (.t 4))),(xi 8 (.fad 4 (.t 7))),(xz (.store 1 (.t 8) (.t 6)))]),[6],9,[],2⟩
theorem ff57_ok:ff57.ok Try.prog 57:=⟨_,_,Try.func57,rfl,by kernel_rfl,rfl,by kernel_rfl,rfl,by kernel_rfl,by kernel_rfl⟩
def ff62:FX:=⟨(.reg [(xm 4 1),(xm 5 0),(xi 6 (.call 0 63 [(.t 5)])),(xi 7 (.nilc (.t 4))),(xi 8 (.fad 5 (.t 7))),(xz (.store 2 (.t 8) (.t 6)))]),[6],9,[],2⟩
theorem ff62_ok:ff62.ok Try.prog 62:=⟨_,_,Try.func62,rfl,by kernel_rfl,rfl,by kernel_rfl,rfl,by kernel_rfl,by kernel_rfl⟩
def ff66:FX:=⟨(.seq (.reg [(xm 5 0),(xi 6 (.call 0 71 [(.t 5),(.c (.v (.int .i64 8)))])),(xi 7 (.mov (.c (.v (.int .i64 0)))))]) (.blk 0 (.loop ⟨[4,7,8,9,10,11,12,13,14,15,16,17,18,19,20,21,22,23,24],[2,6,42,74,82,83,84,85,86,87,88,89,90,91,92,93,94,95],⟨[],[(7,.v (.i .i64))],[⟨2,.row (.v tzb2),true⟩,⟨6,.row (.agg fzb1),true⟩,⟨42,.rows (.p (.i .i64) (.p (.i .u64) (.i .i64))) 3,false⟩]⟩⟩ (.seq (.reg [(xi 8 (.bin .lss (.t 7) (.t 6)))]) (.seq (.cond (.t 8) .skip (.exit 0)) (.seq (.blk 1 (.seq (.reg [(xm 9 0),(xi 10 (.call 1 39 [(.t 9)])),(xm 4 10)]) (.dr [(4,7)] [(xm 11 1),(xm 12 1),(xi 13 (.nilc (.t 12))),(xi 14 (.fad 7 (.t 13))),(xi 15 (.load false 1 (.t 14))),(xm 16 4),(xm 17 0),⟨⟨(some 18),(.callG 2 63 [(.t 17)]),none⟩,.b,[],[2,86,87,88,89,90,91,92,93,94,95]⟩,(xi 19 (.bld [(.v (.int .i64 0)),(.v (.int .u64 0)),(.v (.int .i64 0))] [(0,1,(.t 16)),(1,2,(.t 18))])),(xi 20 (.bsl 3 (.agg [(.v (.int .i64 0)),(.v (.int .u64 0)),(.v (.int .i64 0))]) 1 [(0,(.t 19))])),⟨⟨(some 21),(.app 3 3 24 (.agg [(.v (.int .i64 0)),(.v (.int .u64 0)),(.v (.int .i64 0))]) (.t 15) (.t 20)),none⟩,(.p (.i .i64) (.p (.i .u64) (.i .i64))),[],[]⟩,(xi 22 (.nilc (.t 11))),(xi 23 (.fad 7 (.t 22))),(xz (.store 1 (.t 23) (.t 21)))]))) (.reg [(xi 24 (.bin .add (.t 7) (.c (.v (.int .i64 1))))),(xm 7 24)]))))))),[6,10,18,21],25,[],5⟩
theorem ff66_ok:ff66.ok Try.prog 66:=⟨_,_,Try.func66,rfl,by kernel_rfl,rfl,by kernel_rfl,rfl,by kernel_rfl,by kernel_rfl⟩
def ff70:FX:=⟨(.seq (.reg [(xm 4 0),(xi 5 (.call 0 71 [(.t 4),(.c (.v (.int .i64 64)))])),(xi 6 (.mov (.c (.v (.int .i64 0)))))]) (.blk 0 (.loop ⟨[6,7,8,9,10,11,12,13,14,15,16,17,18,19],[2,6,43,98,106,107,108,109,110,111,112,113,114,115],⟨[],[(6,.v (.i .i64))],[⟨2,.row (.v tzb2),true⟩,⟨6,.row (.agg fzb1),true⟩,⟨43,.rows (.p (.i .u64) (.i .i64)) 2,false⟩]⟩⟩ (.seq (.reg [(xi 7 (.bin .lss (.t 6) (.t 5)))]) (.seq (.cond (.t 7) .skip (.exit 0)) (.seq (.blk 1 (.dr [(4,6)] [(xm 8 1),(xm 9 1),(xi 10 (.nilc (.t 9))),(xi 11 (.fad 8 (.t 10))),(xi 12 (.load false 1 (.t 11))),(xm 13 0),⟨⟨(some 14),(.callG 1 63 [(.t 13)]),none⟩,.b,[],[2,106,107,108,109,110,111,112,113,114,115]⟩,(xi 15 (.bsl 2 (.agg [(.v (.int .u64 0)),(.v (.int .i64 0))]) 1 [(0,(.t 14))])),⟨⟨(some 16),(.app 2 2 16 (.agg [(.v (.int .u64 0)),(.v (.int .i64 0))]) (.t 12) (.t 15)),none⟩,(.p (.i .u64) (.i .i64)),[],[]⟩,(xi 17 (.nilc (.t 8))),(xi 18 (.fad 8 (.t 17))),(xz (.store 1 (.t 18) (.t 16)))])) (.reg [(xi 19 (.bin .add (.t 6) (.c (.v (.int .i64 1))))),(xm 6 19)]))))))),[5,14,16],20,[],4⟩
theorem ff70_ok:ff70.ok Try.prog 70:=⟨_,_,Try.func70,rfl,by kernel_rfl,rfl,by kernel_rfl,rfl,by kernel_rfl,by kernel_rfl⟩
def ff74:FX:=⟨(.reg [(xm 4 1),(xm 5 0),(xi 6 (.call 0 50 [(.t 5)])),(xi 7 (.conv .i64 (.t 6))),(xi 8 (.nilc (.t 4))),(xi 9 (.fad 11 (.t 8))),(xz (.store 1 (.t 9) (.t 7)))]),[6],10,[],2⟩
theorem ff74_ok:ff74.ok Try.prog 74:=⟨_,_,Try.func74,rfl,by kernel_rfl,rfl,by kernel_rfl,rfl,by kernel_rfl,by kernel_rfl⟩
def ff77:FX:=⟨(.seq (.dr [] [(xm 8 0),(xi 9 (.nilc (.t 8))),(xi 10 (.fad 0 (.t 9))),(xi 11 (.load false 1 (.t 10))),(xm 12 0),(xi 13 (.nilc (.t 12))),(xi 14 (.fad 1 (.t 13))),(xi 15 (.load false 1 (.t 14))),(xi 16 (.callG 0 89 [(.t 11),(.t 15)])),(xm 7 16),(xi 17 (.ext (.t 7) 0)),(xi 18 (.ext (.t 7) 1)),(xi 19 (.ext (.t 7) 2)),(xm 4 17),(xm 5 18),(xm 6 19)]) (.seq (.seq (.reg [(xm 20 6),(xi 21 (.bin .neq (.t 20) (.c (.v (.int .i64 0)))))]) (.cond (.t 21) (.seq (.reg [(xm 22 0),(xi 23 (.nilc (.t 22))),(xi 24 (.fad 2 (.t 23))),(xz (.store 1 (.t 24) (.c (.v (.bool false)))))]) .ret) .skip)) (.reg [(xm 25 1),(xm 26 0),(xm 27 4),(xm 28 5),(xi 29 (.nilc (.t 25))),(xi 30 (.fad 12 (.t 29))),(xz (.store 1 (.t 30) (.t 27))),(xi 31 (.nilc (.t 26))),(xi 32 (.fad 1 (.t 31))),(xz (.store 1 (.t 32) (.t 28)))]))),[16],33,[],2⟩
theorem ff77_ok:ff77.ok Try.prog 77:=⟨_,_,Try.func77,rfl,by kernel_rfl,rfl,by kernel_rfl,rfl,by kernel_rfl,by kernel_rfl⟩
def ff80:FX:=⟨(.reg [(xm 4 1),(xm 5 0),(xi 6 (.call 0 71 [(.t 5),(.c (.v (.int .i64 1)))])),(xi 7 (.bin .eql (.t 6) (.c (.v (.int .i64 1))))),(xi 8 (.nilc (.t 4))),(xi 9 (.fad 14 (.t 8))),(xz (.store 1 (.t 9) (.t 7)))]),[6],10,[],2⟩
theorem ff80_ok:ff80.ok Try.prog 80:=⟨_,_,Try.func80,rfl,by kernel_rfl,rfl,by kernel_rfl,rfl,by kernel_rfl,by kernel_rfl⟩
def ff50:FX:=⟨(.seq (.reg [(xi 2 (.mov (.c (.v (.int .u64 0)))))]) (.seq (.dr [] [(xm 7 0),(xi 8 (.nilc (.t 7))),(xi 9 (.fad 0 (.t 8))),(xi 10 (.load false 1 (.t 9))),(xm 11 0),(xi 12 (.nilc (.t 11))),(xi 13 (.fad 1 (.t 12))),(xi 14 (.load false 1 (.t 13))),(xi 15 (.callG 0 85 [(.t 10),(.t 14)])),(xm 6 15),(xi 16 (.ext (.t 6) 0)),(xi 17 (.ext (.t 6) 1)),(xi 18 (.ext (.t 6) 2)),(xm 3 16),(xm 4 17),(xm 5 18)]) (.seq (.seq (.reg [(xm 19 5),(xi 20 (.bin .neq (.t 19) (.c (.v (.int .i64 0)))))]) (.cond (.t 20) (.seq (.reg [(xm 21 0),(xi 22 (.nilc (.t 21))),(xi 23 (.fad 2 (.t 22))),(xz (.store 1 (.t 23) (.c (.v (.bool false)))))]) (.seq (.reg [(xi 2 (.mov (.c (.v (.int .u64 0)))))]) .ret)) .skip)) (.seq (.reg [(xm 24 0),(xm 25 4),(xi 26 (.nilc (.t 24))),(xi 27 (.fad 1 (.t 26))),(xz (.store 1 (.t 27) (.t 25)))]) (.seq (.reg [(xm 28 3),(xm 2 28)]) .ret))))),[15],29,[.t 2],2⟩
theorem ff50_ok:ff50.ok Try.prog 50:=⟨_,_,Try.func50,rfl,by kernel_rfl,rfl,by kernel_rfl,rfl,by kernel_rfl,by kernel_rfl⟩
def ff63:FX:=⟨(.seq (.reg [(xi 2 (.alloc 0 (.agg [(.v (.int .u64 0)),(.v (.int .i64 0))])))]) (.seq (.reg [(xm 4 0),(xi 5 (.call 1 50 [(.t 4)])),(xm 3 5)]) (.seq (.reg [(xm 6 3),(xm 7 0),(xi 8 (.call 2 39 [(.t 7)])),(xi 9 (.bld [(.v (.int .u64 0)),(.v (.int .i64 0))] [(0,1,(.t 6)),(1,1,(.t 8))])),(xz (.store 2 (.t 2) (.t 9)))]) .ret))),[2,5,8],10,[.c 2 24 true 2],4⟩
theorem ff63_ok:ff63.ok Try.prog 63:=⟨_,_,Try.func63,rfl,by kernel_rfl,rfl,by kernel_rfl,rfl,by kernel_rfl,by kernel_rfl⟩
def ff71:FX:=⟨(.seq (.reg [(xi 4 (.mov (.c (.v (.int .i64 0)))))]) (.seq (.reg [(xm 6 0),(xi 7 (.call 0 39 [(.t 6)])),(xm 5 7)]) (.seq (.seq (.reg [(xm 8 5),(xm 9 1),(xi 10 (.bin .gtr (.t 8) (.t 9)))]) (.cond (.t 10) (.seq (.reg [(xm 11 0),(xi 12 (.nilc (.t 11))),(xi 13 (.fad 2 (.t 12))),(xz (.store 1 (.t 13) (.c (.v (.bool false)))))]) (.seq (.reg [(xi 4 (.mov (.c (.v (.int .i64 0)))))]) .ret)) .skip)) (.seq (.reg [(xm 14 5),(xm 4 14)]) .ret)))),[7],15,[.t 4],2⟩
theorem ff71_ok:ff71.ok Try.prog 71:=⟨_,_,Try.func71,rfl,by kernel_rfl,rfl,by kernel_rfl,rfl,by kernel_rfl,by kernel_rfl⟩
def tb18:List PE:=[pe11,pe24,pe38,pe85,pe89]
theorem tb18_ok:PEsOk Try.prog tb18:=⟨pe11_ok,pe24_ok,pe38_ok,pe85_ok,pe89_ok,trivial⟩
def ex18:List EX:=[]
theorem ex18_ok:EXsOk Try.prog ex18:=trivial
def in18:List IN:=[⟨3,39,12,ff39,some ⟨[0,1,2,3,4,5,6,7,8,9,10,11,12],[2,12,13,14,15],⟨[],[(2,.v (.i .i64))],[⟨2,.row (.v tzb2),true⟩]⟩⟩⟩,⟨4,39,16,ff39,some ⟨[0,1,2,3,4,5,6,7,8,9,10,11,12],[2,16,17,18,19],⟨[],[(2,.v (.i .i64))],[⟨2,.row (.v tzb2),true⟩]⟩⟩⟩,⟨5,39,20,ff39,some ⟨[0,1,2,3,4,5,6,7,8,9,10,11,12],[2,20,21,22,23],⟨[],[(2,.v (.i .i64))],[⟨2,.row (.v tzb2),true⟩]⟩⟩⟩,⟨7,23,24,ff23,none⟩,⟨9,49,44,ff49,none⟩,⟨9,57,53,ff57,none⟩,⟨9,62,59,ff62,none⟩,⟨9,66,71,ff66,none⟩,⟨9,70,96,ff70,none⟩,⟨9,74,116,ff74,none⟩,⟨9,77,120,ff77,some ⟨[0,1,2,3,4,5,6,7,8,9,10,11,12,13,14,15,16,17,18,19,20,21,22,23,24,25,26,27,28,29,30,31,32],[2,6,120,121],⟨[],[],[⟨2,.row (.v tzb2),true⟩,⟨6,.row (.agg fzb1),true⟩]⟩⟩⟩,⟨9,80,122,ff80,none⟩,⟨12,50,14,ff50,some ⟨[0,1,2,3,4,5,6,7,8,9,10,11,12,13,14,15,16,17,18,19,20,21,22,23,24,25,26,27,28],[2,14,15],⟨[],[(2,.v (.i .u64))],[⟨2,.row (.v tzb2),true⟩]⟩⟩⟩,⟨16,50,18,ff50,some ⟨[0,1,2,3,4,5,6,7,8,9,10,11,12,13,14,15,16,17,18,19,20,21,22,23,24,25,26,27,28],[2,18,19],⟨[],[(2,.v (.i .u64))],[⟨2,.row (.v tzb2),true⟩]⟩⟩⟩,⟨20,50,22,ff50,some ⟨[0,1,2,3,4,5,6,7,8,9,10,11,12,13,14,15,16,17,18,19,20,21,22,23,24,25,26,27,28],[2,22,23],⟨[],[(2,.v (.i .u64))],[⟨2,.row (.v tzb2),true⟩]⟩⟩⟩,⟨25,46,30,ff46,none⟩,⟨26,46,33,ff46,none⟩,⟨27,46,36,ff46,none⟩,⟨28,46,39,ff46,none⟩,⟨44,51,47,ff51,none⟩,⟨44,52,50,ff52,none⟩,⟨44,53,51,ff53,none⟩,⟨44,54,52,ff54,none⟩,⟨45,50,48,ff50,some ⟨[0,1,2,3,4,5,6,7,8,9,10,11,12,13,14,15,16,17,18,19,20,21,22,23,24,25,26,27,28],[2,48,49],⟨[],[(2,.v (.i .u64))],[⟨2,.row (.v tzb2),true⟩]⟩⟩⟩,⟨53,39,55,ff39,some ⟨[0,1,2,3,4,5,6,7,8,9,10,11,12],[2,55,56,57,58],⟨[],[(2,.v (.i .i64))],[⟨2,.row (.v tzb2),true⟩]⟩⟩⟩,⟨55,50,57,ff50,some ⟨[0,1,2,3,4,5,6,7,8,9,10,11,12,13,14,15,16,17,18,19,20,21,22,23,24,25,26,27,28],[2,57,58],⟨[],[(2,.v (.i .u64))],[⟨2,.row (.v tzb2),true⟩]⟩⟩⟩,⟨59,63,61,ff63,none⟩,⟨62,50,65,ff50,some ⟨[0,1,2,3,4,5,6,7,8,9,10,11,12,13,14,15,16,17,18,19,20,21,22,23,24,25,26,27,28],[2,65,66],⟨[],[(2,.v (.i .u64))],[⟨2,.row (.v tzb2),true⟩]⟩⟩⟩,⟨63,39,67,ff39,some ⟨[0,1,2,3,4,5,6,7,8,9,10,11,12],[2,67,68,69,70],⟨[],[(2,.v (.i .i64))],[⟨2,.row (.v tzb2),true⟩]⟩⟩⟩,⟨67,50,69,ff50,some ⟨[0,1,2,3,4,5,6,7,8,9,10,11,12,13,14,15,16,17,18,19,20,21,22,23,24,25,26,27,28],[2,69,70],⟨[],[(2,.v (.i .u64))],[⟨2,.row (.v tzb2),true⟩]⟩⟩⟩,⟨71,71,76,ff71,some ⟨[0,1,2,3,4,5,6,7,8,9,10,11,12,13,14],[2,76,77,78,79,80,81],⟨[],[(4,.v (.i .i64))],[⟨2,.row (.v tzb2),true⟩]⟩⟩⟩,⟨72,39,82,ff39,some ⟨[0,1,2,3,4,5,6,7,8,9,10,11,12],[2,82,83,84,85],⟨[],[(2,.v (.i .i64))],[⟨2,.row (.v tzb2),true⟩]⟩⟩⟩,⟨73,63,86,ff63,some ⟨[0,1,2,3,4,5,6,7,8,9],[2,86,87,88,89,90,91,92,93,94,95],⟨[],[(2,.ptr 86 0)],[⟨2,.row (.v tzb2),true⟩,⟨86,.row (.v (.p (.i .u64) (.i .i64))),false⟩]⟩⟩⟩,⟨76,39,78,ff39,some ⟨[0,1,2,3,4,5,6,7,8,9,10,11,12],[2,78,79,80,81],⟨[],[(2,.v (.i .i64))],[⟨2,.row (.v tzb2),true⟩]⟩⟩⟩,⟨78,50,80,ff50,some ⟨[0,1,2,3,4,5,6,7,8,9,10,11,12,13,14,15,16,17,18,19,20,21,22,23,24,25,26,27,28],[2,80,81],⟨[],[(2,.v (.i .u64))],[⟨2,.row (.v tzb2),true⟩]⟩⟩⟩,⟨82,50,84,ff50,some ⟨[0,1,2,3,4,5,6,7,8,9,10,11,12,13,14,15,16,17,18,19,20,21,22,23,24,25,26,27,28],[2,84,85],⟨[],[(2,.v (.i .u64))],[⟨2,.row (.v tzb2),true⟩]⟩⟩⟩,⟨87,50,90,ff50,some ⟨[0,1,2,3,4,5,6,7,8,9,10,11,12,13,14,15,16,17,18,19,20,21,22,23,24,25,26,27,28],[2,90,91],⟨[],[(2,.v (.i .u64))],[⟨2,.row (.v tzb2),true⟩]⟩⟩⟩,⟨88,39,92,ff39,some ⟨[0,1,2,3,4,5,6,7,8,9,10,11,12],[2,92,93,94,95],⟨[],[(2,.v (.i .i64))],[⟨2,.row (.v tzb2),true⟩]⟩⟩⟩,⟨92,50,94,ff50,some ⟨[0,1,2,3,4,5,6,7,8,9,10,11,12,13,14,15,16,17,18,19,20,21,22,23,24,25,26,27,28],[2,94,95],⟨[],[(2,.v (.i .u64))],[⟨2,.row (.v tzb2),true⟩]⟩⟩⟩,⟨96,71,100,ff71,some ⟨[0,1,2,3,4,5,6,7,8,9,10,11,12,13,14],[2,100,101,102,103,104,105],⟨[],[(4,.v (.i .i64))],[⟨2,.row (.v tzb2),true⟩]⟩⟩⟩,⟨97,63,106,ff63,some ⟨[0,1,2,3,4,5,6,7,8,9],[2,106,107,108,109,110,111,112,113,114,115],⟨[],[(2,.ptr 106 0)],[⟨2,.row (.v tzb2),true⟩,⟨106,.row (.v (.p (.i .u64) (.i .i64))),false⟩]⟩⟩⟩,⟨100,39,102,ff39,some ⟨[0,1,2,3,4,5,6,7,8,9,10,11,12],[2,102,103,104,105],⟨[],[(2,.v (.i .i64))],[⟨2,.row (.v tzb2),true⟩]⟩⟩⟩,⟨102,50,104,ff50,some ⟨[0,1,2,3,4,5,6,7,8,9,10,11,12,13,14,15,16,17,18,19,20,21,22,23,24,25,26,27,28],[2,104,105],⟨[],[(2,.v (.i .u64))],[⟨2,.row (.v tzb2),true⟩]⟩⟩⟩,⟨107,50,110,ff50,some ⟨[0,1,2,3,4,5,6,7,8,9,10,11,12,13,14,15,16,17,18,19,20,21,22,23,24,25,26,27,28],[2,110,111],⟨[],[(2,.v (.i .u64))],[⟨2,.row (.v tzb2),true⟩]⟩⟩⟩,⟨108,39,112,ff39,some ⟨[0,1,2,3,4,5,6,7,8,9,10,11,12],[2,112,113,114,115],⟨[],[(2,.v (.i .i64))],[⟨2,.row (.v tzb2),true⟩]⟩⟩⟩,⟨112,50,114,ff50,some ⟨[0,1,2,3,4,5,6,7,8,9,10,11,12,13,14,15,16,17,18,19,20,21,22,23,24,25,26,27,28],[2,114,115],⟨[],[(2,.v (.i .u64))],[⟨2,.row (.v tzb2),true⟩]⟩⟩⟩,⟨116,50,118,ff50,some ⟨[0,1,2,3,4,5,6,7,8,9,10,11,12,13,14,15,16,17,18,19,20,21,22,23,24,25,26,27,28],[2,118,119],⟨[],[(2,.v (.i .u64))],[⟨2,.row (.v tzb2),true⟩]⟩⟩⟩,⟨122,71,124,ff71,some ⟨[0,1,2,3,4,5,6,7,8,9,10,11,12,13,14],[2,124,125,126,127,128,129],⟨[],[(4,.v (.i .i64))],[⟨2,.row (.v tzb2),true⟩]⟩⟩⟩,⟨124,39,126,ff39,some ⟨[0,1,2,3,4,5,6,7,8,9,10,11,12],[2,126,127,128,129],⟨[],[(2,.v (.i .i64))],[⟨2,.row (.v tzb2),true⟩]⟩⟩⟩,⟨126,50,128,ff50,some ⟨[0,1,2,3,4,5,6,7,8,9,10,11,12,13,14,15,16,17,18,19,20,21,22,23,24,25,26,27,28],[2,128,129],⟨[],[(2,.v (.i .u64))],[⟨2,.row (.v tzb2),true⟩]⟩⟩⟩]
theorem in18_ok:INsOk Try.prog in18:=⟨ff39_ok,ff39_ok,ff39_ok,ff23_ok,ff49_ok,ff57_ok,ff62_ok,ff66_ok,ff70_ok,ff74_ok,ff77_ok,ff80_ok,ff50_ok,ff50_ok,ff50_ok,ff46_ok,ff46_ok,ff46_ok,ff46_ok,ff51_ok,ff52_ok,ff53_ok,ff54_ok,ff50_ok,ff39_ok,ff50_ok,ff63_ok,ff50_ok,ff39_ok,ff50_ok,ff71_ok,ff39_ok,ff63_ok,ff39_ok,ff50_ok,ff50_ok,ff50_ok,ff39_ok,ff50_ok,ff71_ok,ff63_ok,ff39_ok,ff50_ok,ff50_ok,ff39_ok,ff50_ok,ff50_ok,ff71_ok,ff39_ok,ff50_ok,trivial⟩
def F18:DT ((.co (.v .s) .no):Fm).den→Option (DT (.tup (.co (.v tzb1) (.co (.v (.i .i64)) .no)):Fm).den):=pureT tb18 ex18 in18 9 xf18 _ _ [42,43]
def pe18:PE:=⟨18,(.co (.v .s) .no),.tup (.co (.v tzb1) (.co (.v (.i .i64)) .no)),F18⟩
theorem pe18_ok:pe18.ok Try.prog:=pe_of hm tb18_ok ex18_ok in18_ok xf18_ok (by kernel_rfl) (fun _=>rfl)
def xf17:FX:=⟨(.seq (.reg [(xi 0 (.mov (.c (.v (.bool false)))))]) (.seq (.reg [(xi 7 (.call 0 36 [])),(xi 8 (.call 1 10 [(.t 7)])),(xm 6 8),(xi 9 (.ext (.t 6) 0)),(xi 10 (.ext (.t 6) 1)),(xm 1 9),(xm 2 10)]) (.seq (.reg [(xi 11 (.call 2 36 [])),⟨⟨(some 3),(.alloc 3 (.agg [(.v (.int .i64 0)),(.v (.int .i64 0)),(.v (.int .i64 0)),(.v (.int .u64 0)),(.v (.int .i64 0)),(.v (.int .u64 0)),(.v (.int .i64 0)),(.sl true []),(.sl true []),(.v (.int .u64 0)),(.v (.int .u64 0)),(.v (.int .i64 0)),(.v (.string ⟨#[]⟩)),(.v (.int .u64 0)),(.v (.bool false))])),none⟩,.b,[],[]⟩,(xz (.store 15 (.t 3) (.t 11)))]) (.seq (.reg [(xi 12 (.fad 2 (.t 3))),(xz (.store 1 (.t 12) (.c (.v (.int .i64 1)))))]) (.seq (.reg [⟨⟨(some 14),(.call 4 18 [(.c (.v (.string ⟨#[4,1,2,5,3]⟩)))]),none⟩,.b,[],[]⟩,(xm 13 14),(xi 15 (.ext (.t 13) 0)),(xi 16 (.ext (.t 13) 1)),⟨⟨(some 4),(.alloc 5 (.agg [(.v (.int .i64 0)),(.v (.int .i64 0)),(.v (.int .i64 0)),(.v (.int .u64 0)),(.v (.int .i64 0)),(.v (.int .u64 0)),(.v (.int .i64 0)),(.sl true []),(.sl true []),(.v (.int .u64 0)),(.v (.int .u64 0)),(.v (.int .i64 0)),(.v (.string ⟨#[]⟩)),(.v (.int .u64 0)),(.v (.bool false))])),none⟩,.b,[],[]⟩,(xz (.store 15 (.t 4) (.t 15))),(xm 5 16)]) (.seq (.reg [(xm 17 1),⟨⟨(some 18),(.call 6 37 [(.c (.v (.string ⟨#[4,1,2,5,3]⟩)))]),none⟩,.b,[],[]⟩,(xi 19 (.bin .eql (.t 17) (.t 18))),(xm 20 19),(xg 21 (.mov (.t 1)) 20 true),(xg 22 (.lenS (.t 21)) 20 true),(xg 23 (.bin .eql (.t 22) (.c (.v (.int .i64 9)))) 20 true),(xi 24 (.pick (.t 20) (.t 23) (.c (.v (.bool false))))),(xm 25 24),(xg 26 (.mov (.t 2)) 25 true),(xg 27 (.bin .eql (.t 26) (.c (.v (.int .i64 0)))) 25 true),(xi 28 (.pick (.t 25) (.t 27) (.c (.v (.bool false))))),(xm 29 28),(xg 30 (.load true 15 (.t 3)) 29 true),(xg 31 (.call 7 11 [(.t 30)]) 29 true),(xg 32 (.bin .eql (.t 31) (.c (.v (.int .i64 1)))) 29 true),(xi 33 (.pick (.t 29) (.t 32) (.c (.v (.bool false))))),(xm 34 33),(xg 35 (.mov (.t 5)) 34 true),(xg 36 (.bin .eql (.t 35) (.c (.v (.int .i64 10)))) 34 true),(xi 37 (.pick (.t 34) (.t 36) (.c (.v (.bool false))))),(xm 38 37),(xi 39 (.pick (.t 38) (.c (.v (.bool true))) (.c (.v (.bool false))))),(xm 40 39),(xi 41 (.pick (.t 40) (.c (.v (.bool true))) (.c (.v (.bool false))))),(xm 42 41),(xi 43 (.pick (.t 42) (.c (.v (.bool true))) (.c (.v (.bool false))))),(xm 44 43),(xi 45 (.pick (.t 44) (.c (.v (.bool true))) (.c (.v (.bool false))))),(xm 46 45),(xi 47 (.pick (.t 46) (.c (.v (.bool true))) (.c (.v (.bool false))))),(xm 48 47),(xi 49 (.pick (.t 48) (.c (.v (.bool true))) (.c (.v (.bool false))))),(xm 50 49),(xi 51 (.pick (.t 50) (.c (.v (.bool true))) (.c (.v (.bool false))))),(xm 52 51),(xi 53 (.pick (.t 52) (.c (.v (.bool true))) (.c (.v (.bool false))))),(xm 54 53),(xi 55 (.pick (.t 54) (.c (.v (.bool true))) (.c (.v (.bool false))))),(xm 56 55),(xi 57 (.pick (.t 56) (.c (.v (.bool true))) (.c (.v (.bool false))))),(xm 58 57),(xi 59 (.pick (.t 58) (.c (.v (.bool true))) (.c (.v (.bool false))))),(xm 60 59),(xi 61 (.pick (.t 60) (.c (.v (.bool true))) (.c (.v (.bool false))))),(xm 62 61),(xi 63 (.pick (.t 62) (.c (.v (.bool true))) (.c (.v (.bool false))))),(xm 0 63)]) .ret)))))),[7,8,11,3,14,4,18,31],64,[.t 0],9⟩
theorem xf17_ok:xf17.ok Try.prog 17:=⟨_,_,Try.func17,rfl,by kernel_rfl,rfl,by kernel_rfl,rfl,by kernel_rfl,by kernel_rfl⟩
def tb17:List PE:=[pe10,pe11,pe18,pe36,pe37]
theorem tb17_ok:PEsOk Try.prog tb17:=⟨pe10_ok,pe11_ok,pe18_ok,pe36_ok,pe37_ok,trivial⟩
def ex17:List EX:=[]
theorem ex17_ok:EXsOk Try.prog ex17:=trivial
def in17:List IN:=[]
theorem in17_ok:INsOk Try.prog in17:=trivial
def F17:DT (.no:Fm).den→Option (DT (.v .b:Fm).den):=pureT tb17 ex17 in17 0 xf17 _ _ []
def pe17:PE:=⟨17,.no,.v .b,F17⟩
theorem pe17_ok:pe17.ok Try.prog:=pe_of hm tb17_ok ex17_ok in17_ok xf17_ok (by kernel_rfl) (fun _=>rfl)
def xf3:FX:=⟨(.seq (.reg [(xi 3 (.box 0 15 (.t 0))),(xi 4 (.box 1 15 (.t 1))),(xi 6 (.mov (.c (.v (.bool false)))))]) (.seq (.dr [(2,1)] [(xi 11 (.load true 15 (.t 3))),(xi 12 (.callG 2 9 [(.t 11)])),(xi 13 (.load true 15 (.t 4))),(xi 14 (.callG 3 9 [(.t 13)])),(xz (.store 15 (.t 3) (.t 12))),(xz (.store 15 (.t 4) (.t 14)))]) (.seq (.reg [(xi 16 (.load true 15 (.t 3))),(xi 17 (.call 4 10 [(.t 16)])),(xm 15 17),(xi 18 (.ext (.t 15) 0)),(xi 19 (.ext (.t 15) 1)),(xm 7 18),(xm 8 19)]) (.seq (.cut ⟨[6,20,21,22,23,24,25,26,27,28,29,30,31,32,33,34,35,36,37,38,39,40,41],[],⟨[],[],[]⟩⟩ (.seq (.cutN ⟨[20,21,22,23,24,25,26,27,28,29,30,31,32,33,34,35,36,37,38,39,40,41],[],⟨[],[(41,.v .b)],[]⟩⟩ (.dr [(3,1),(10,9),(11,9)] [(xi 20 (.load true 15 (.t 3))),(xi 21 (.callG 5 11 [(.t 20)])),(xi 22 (.bin .eql (.t 21) (.c (.v (.int .i64 0))))),(xi 23 (.load true 15 (.t 3))),(xi 24 (.callG 6 12 [(.t 23)])),(xi 25 (.binB true (.t 22) (.t 24))),(xm 26 25),(xg 27 (.load true 15 (.t 3)) 26 false),(xg 28 (.load true 15 (.t 4)) 26 false),(xg 29 (.callG 7 13 [(.t 27),(.t 28)]) 26 false),(xg 30 (.load true 15 (.t 3)) 26 false),(xg 31 (.load true 15 (.t 4)) 26 false),(xg 32 (.callG 8 14 [(.t 30),(.t 31)]) 26 false),(xg 33 (.binB true (.t 29) (.t 32)) 26 false),(xi 34 (.pick (.t 26) (.c (.v (.bool true))) (.t 33))),(xm 35 34),(xg 36 (.mov (.t 2)) 35 false),(xg 37 (.callG 9 15 [(.t 36)]) 35 false),(xg 38 (.mov (.t 2)) 35 false),(xg 39 (.callG 10 16 [(.t 38)]) 35 false),(xg 40 (.binB true (.t 37) (.t 39)) 35 false),(xi 41 (.pick (.t 35) (.c (.v (.bool true))) (.t 40)))])) (.cond (.t 41) (.seq (.reg [(xi 6 (.mov (.c (.v (.bool false)))))]) .ret) .skip))) (.seq (.seq (.reg [(xi 42 (.load true 15 (.t 3))),(xi 43 (.call 11 12 [(.t 42)])),(xi 44 (.un .not (.t 43)))]) (.cond (.t 44) (.seq (.reg [(xm 45 7),⟨⟨(some 46),(.bin .eql (.t 45) (.c (.v (.string ⟨#[]⟩)))),none⟩,.b,[],[]⟩,(xm 47 46),(xg 48 (.mov (.t 8)) 47 true),(xg 49 (.bin .eql (.t 48) (.c (.v (.int .i64 1)))) 47 true),(xi 50 (.pick (.t 47) (.t 49) (.c (.v (.bool false))))),(xm 51 50),(xg 52 (.call 12 17 []) 51 true),(xi 53 (.pick (.t 51) (.t 52) (.c (.v (.bool false))))),(xm 6 53)]) .ret) .skip)) (.seq (.reg [(xm 55 7),(xi 56 (.call 13 18 [(.t 55)])),(xm 54 56),(xi 57 (.ext (.t 54) 0)),(xi 58 (.ext (.t 54) 1)),⟨⟨(some 9),(.alloc 14 (.agg [(.v (.int .i64 0)),(.v (.int .i64 0)),(.v (.int .i64 0)),(.v (.int .u64 0)),(.v (.int .i64 0)),(.v (.int .u64 0)),(.v (.int .i64 0)),(.sl true []),(.sl true []),(.v (.int .u64 0)),(.v (.int .u64 0)),(.v (.int .i64 0)),(.v (.string ⟨#[]⟩)),(.v (.int .u64 0)),(.v (.bool false))])),none⟩,.b,[],[]⟩,(xz (.store 15 (.t 9) (.t 57))),(xm 10 58)]) (.seq (.reg [(xm 59 7),(xi 60 (.load true 15 (.t 3))),(xi 61 (.call 15 19 [(.t 60)])),(xi 62 (.bin .eql (.t 59) (.t 61))),(xm 63 62),(xg 64 (.mov (.t 8)) 63 true),(xg 65 (.bin .eql (.t 64) (.c (.v (.int .i64 0)))) 63 true),(xi 66 (.pick (.t 63) (.t 65) (.c (.v (.bool false))))),(xm 67 66),(xg 68 (.load true 15 (.t 9)) 67 true),(xg 69 (.load true 15 (.t 3)) 67 true),(xg 70 (.call 16 14 [(.t 68),(.t 69)]) 67 true),(xi 71 (.pick (.t 67) (.t 70) (.c (.v (.bool false))))),(xm 72 71),(xg 73 (.mov (.t 10)) 72 true),(xg 74 (.bin .eql (.t 73) (.c (.v (.int .i64 0)))) 72 true),(xi 75 (.pick (.t 72) (.t 74) (.c (.v (.bool false))))),(xm 76 75),(xg 77 (.call 17 17 []) 76 true),(xi 78 (.pick (.t 76) (.t 77) (.c (.v (.bool false))))),(xm 6 78)]) .ret))))))),[3,4,12,14,17,21,24,29,32,37,39,43,52,56,9,61,70,77],79,[.t 6],19⟩
theorem xf3_ok:xf3.ok Try.prog 3:=⟨_,_,Try.func3,rfl,by kernel_rfl,rfl,by kernel_rfl,rfl,by kernel_rfl,by kernel_rfl⟩
def tb3:List PE:=[pe9,pe10,pe11,pe12,pe13,pe14,pe15,pe16,pe17,pe18,pe19]
theorem tb3_ok:PEsOk Try.prog tb3:=⟨pe9_ok,pe10_ok,pe11_ok,pe12_ok,pe13_ok,pe14_ok,pe15_ok,pe16_ok,pe17_ok,pe18_ok,pe19_ok,trivial⟩
def ex3:List EX:=[]
theorem ex3_ok:EXsOk Try.prog ex3:=trivial
def in3:List IN:=[]
theorem in3_ok:INsOk Try.prog in3:=trivial
def F3:DT ((.co (.v tzb1) (.co (.v tzb1) (.co (.v .s) .no))):Fm).den→Option (DT (.v .b:Fm).den):=pureT tb3 ex3 in3 0 xf3 _ _ []
def pe3:PE:=⟨3,(.co (.v tzb1) (.co (.v tzb1) (.co (.v .s) .no))),.v .b,F3⟩
theorem pe3_ok:pe3.ok Try.prog:=pe_of hm tb3_ok ex3_ok in3_ok xf3_ok (by kernel_rfl) (fun _=>rfl)
end
end Go.Proofs.Ytgbcankkfmhcoaa.VL
end
section
namespace Go.Proofs.Ytgbcankkfmhcoaa.VL
open Go
set_option maxRecDepth 100000
set_option linter.unusedVariables false
set_option linter.unusedSectionVars false
variable [Val]
abbrev tya1:Type:=(Int×(Int×(Int×(Int×(Int×(Int×(Int×((List (Int×(Int×Int)))×((List (Int×Int))×(Int×(Int×(Int×(ByteArray×(Int×Bool))))))))))))))
abbrev tya2:Type:=(Int×(ByteArray×(Int×Bool)))
theorem F9_eq (v:tya1):F9 v=(Option.bind (cond (decide (((v.2.2.2.2.2.2.2.1.length:Nat):Int) > (9:Int))) (cond (decide ((9:Int)≤((v.2.2.2.2.2.2.2.1.length:Nat):Int))) (some (v.1,v.2.1,v.2.2.1,v.2.2.2.1,v.2.2.2.2.1,v.2.2.2.2.2.1,v.2.2.2.2.2.2.1,(List.take 9 v.2.2.2.2.2.2.2.1),v.2.2.2.2.2.2.2.2)) none) (some v)) (fun (v0:tya1)=>(Option.bind (cond (decide (((v0.2.2.2.2.2.2.2.2.1.length:Nat):Int) > (65:Int))) (cond (decide ((65:Int)≤((v0.2.2.2.2.2.2.2.2.1.length:Nat):Int))) (some (v0.1,v0.2.1,v0.2.2.1,v0.2.2.2.1,v0.2.2.2.2.1,v0.2.2.2.2.2.1,v0.2.2.2.2.2.2.1,v0.2.2.2.2.2.2.2.1,(List.take 65 v0.2.2.2.2.2.2.2.2.1),v0.2.2.2.2.2.2.2.2.2)) none) (some v0)) (fun (v1:tya1)=>(cond (decide ((((ByteArray.size v1.2.2.2.2.2.2.2.2.2.2.2.2.1):Nat):Int) > (21:Int))) (cond (decide ((21:Int)≤(((ByteArray.size v1.2.2.2.2.2.2.2.2.2.2.2.2.1):Nat):Int))) (some (v1.1,v1.2.1,v1.2.2.1,v1.2.2.2.1,v1.2.2.2.2.1,v1.2.2.2.2.2.1,v1.2.2.2.2.2.2.1,v1.2.2.2.2.2.2.2.1,v1.2.2.2.2.2.2.2.2.1,v1.2.2.2.2.2.2.2.2.2.1,v1.2.2.2.2.2.2.2.2.2.2.1,v1.2.2.2.2.2.2.2.2.2.2.2.1,(ByteArray.extract v1.2.2.2.2.2.2.2.2.2.2.2.2.1 0 21),v1.2.2.2.2.2.2.2.2.2.2.2.2.2)) none) (some v1)))))):=by kernel_rfl
theorem F32_eq (v:((List (Int×(Int×Int)))×(List (Int×(Int×Int))))):F32 v=(cond (((v.1.length:Nat):Int) != ((v.2.length:Nat):Int)) (some false) (loopX (fun (v0:Int)=>(cond (decide (v0 < ((v.1.length:Nat):Int))) (cond (decide ((0:Int)≤v0)) (Option.bind v.1[(Int.toNat v0)]? (fun (v1:(Int×(Int×Int)))=>(cond (decide ((0:Int)≤v0)) (Option.bind v.2[(Int.toNat v0)]? (fun (v2:(Int×(Int×Int)))=>(cond (!((v1.1==v2.1)&&((v1.2.1==v2.2.1)&&((v1.2.2==v2.2.2)&&true)))) (some (.inr false)) (some (.inl (IntKind.wrap .i64 (v0+(1:Int)))))))) none))) none) (some (.inr true)))) (0:Int))):=by kernel_rfl
theorem F33_eq (v:((List (Int×Int))×(List (Int×Int)))):F33 v=(cond (((v.1.length:Nat):Int) != ((v.2.length:Nat):Int)) (some false) (loopX (fun (v0:Int)=>(cond (decide (v0 < ((v.1.length:Nat):Int))) (cond (decide ((0:Int)≤v0)) (Option.bind v.1[(Int.toNat v0)]? (fun (v1:(Int×Int))=>(cond (decide ((0:Int)≤v0)) (Option.bind v.2[(Int.toNat v0)]? (fun (v2:(Int×Int))=>(cond (!((v1.1==v2.1)&&((v1.2==v2.2)&&true))) (some (.inr false)) (some (.inl (IntKind.wrap .i64 (v0+(1:Int)))))))) none))) none) (some (.inr true)))) (0:Int))):=by kernel_rfl
theorem F13_eq (v:(tya1×tya1)):F13 v=(cond (v.1.1==v.2.1) (cond (v.1.2.1==v.2.2.1) (cond (v.1.2.2.1==v.2.2.2.1) (cond (v.1.2.2.2.1==v.2.2.2.2.1) (cond (v.1.2.2.2.2.1==v.2.2.2.2.2.1) (cond ((v.1.2.2.2.2.2.1==v.2.2.2.2.2.2.1)&&((v.1.2.2.2.2.2.2.1==v.2.2.2.2.2.2.2.1)&&true)) (Option.bind (F32 (v.1.2.2.2.2.2.2.2.1,v.2.2.2.2.2.2.2.2.1)) (fun (v0:Bool)=>(cond v0 (Option.bind (F33 (v.1.2.2.2.2.2.2.2.2.1,v.2.2.2.2.2.2.2.2.2.1)) (fun (v1:Bool)=>(cond v1 (cond (v.1.2.2.2.2.2.2.2.2.2.1==v.2.2.2.2.2.2.2.2.2.2.1) (cond (v.1.2.2.2.2.2.2.2.2.2.2.1==v.2.2.2.2.2.2.2.2.2.2.2.1) (cond (v.1.2.2.2.2.2.2.2.2.2.2.2.1==v.2.2.2.2.2.2.2.2.2.2.2.2.1) (cond ((ByteArray.toList v.1.2.2.2.2.2.2.2.2.2.2.2.2.1)==(ByteArray.toList v.2.2.2.2.2.2.2.2.2.2.2.2.2.1)) (cond (v.1.2.2.2.2.2.2.2.2.2.2.2.2.2.1==v.2.2.2.2.2.2.2.2.2.2.2.2.2.2.1) (some (v.1.2.2.2.2.2.2.2.2.2.2.2.2.2.2==v.2.2.2.2.2.2.2.2.2.2.2.2.2.2.2)) (some false)) (some false)) (some false)) (some false)) (some false)) (some false)))) (some false)))) (some false)) (some false)) (some false)) (some false)) (some false)) (some false)):=by kernel_rfl
theorem F47_eq (v:tya1):F47 v=(some true):=by kernel_rfl
theorem F22_eq (v:(List Int)):F22 v=(loopX (fun (v0:(Int×(List Int)))=>(cond (decide (v0.1 < ((v.length:Nat):Int))) (Option.bind (cond (decide ((0:Int)≤v0.1)) (Option.bind v[(Int.toNat v0.1)]? (fun (v1:Int)=>(Option.bind (cond (decide (v0.2.length=v0.2.length)) (loopX (fun (v2:(Int×(List Int)))=>(cond (decide (v2.1 > (127:Int))) (cond ((decide (v2.2.length=v2.2.length))&&((decide (((((v2.2.length+1):Nat):Int) * (1:Int))≤(70368744177664:Int)))&&(decide ((((v2.2.length+1):Nat):Int)≤(70368744177664:Int))))) (cond (decide ((v2.2.length+1)=(Append.append v2.2 ((IntKind.wrap .u8 (((BitVec.toNat (BitVec.or (BitVec.ofInt 8 (IntKind.wrap .u8 v2.1)) (BitVec.ofInt 8 (128:Int)))):Nat):Int))::[])).length)) (some (.inl ((Int.fdiv v2.1 (128:Int)),(Append.append v2.2 ((IntKind.wrap .u8 (((BitVec.toNat (BitVec.or (BitVec.ofInt 8 (IntKind.wrap .u8 v2.1)) (BitVec.ofInt 8 (128:Int)))):Nat):Int))::[]))))) none) none) (Option.map (Sum.inr) (cond (decide (v2.2.length=v2.2.length)) (some v2) none)))) (v1,v0.2)) none) (fun (v3:(Int×(List Int)))=>(cond ((decide (v3.2.length=v3.2.length))&&((decide (((((v3.2.length+1):Nat):Int) * (1:Int))≤(70368744177664:Int)))&&(decide ((((v3.2.length+1):Nat):Int)≤(70368744177664:Int))))) (cond (decide ((v3.2.length+1)=(Append.append v3.2 ((IntKind.wrap .u8 v3.1)::[])).length)) (some (Append.append v3.2 ((IntKind.wrap .u8 v3.1)::[]))) none) none))))) none) (fun (v4:(List Int))=>(cond (decide (v4.length=v4.length)) (some (.inl ((IntKind.wrap .i64 (v0.1+(1:Int))),v4))) none))) (Option.map (Sum.inr) (cond (decide ((0+v0.2.length)≤v0.2.length)) (some (ByteArray.mk (Array.mk (List.map (fun (v5:Int)=>(UInt8.ofBitVec (BitVec.ofFin (Fin.mk (Nat.mod (Int.toNat v5) 256) (Nat.mod_lt (Int.toNat v5) (BitVec.ofNat._proof_1 8)))))) (List.take v0.2.length v0.2))))) none)))) ((0:Int),[])):=by kernel_rfl
theorem F85_eq (v:(ByteArray×Int)):F85 v=(joinX (Option.bind (cond (decide (v.2 < (0:Int))) (some true) (some (decide (v.2 > (((ByteArray.size v.1):Nat):Int))))) (fun (v0:Bool)=>(cond v0 (some (.inr ((0:Int),(0:Int),(1:Int)))) (some (.inl ()))))) (fun (v1:Unit)=>(loopX (fun (v2:(Int×Int))=>(cond (decide (v2.2 < (IntKind.wrap .i64 ((((ByteArray.size v.1):Nat):Int) - v.2)))) (joinX (cond (decide ((0:Int)≤(IntKind.wrap .i64 (v.2+v2.2)))) (Option.bind v.1[(Int.toNat (IntKind.wrap .i64 (v.2+v2.2)))]? (fun (v3:UInt8)=>(joinX (Option.bind (cond (decide (v2.2 > (0:Int))) (cond ((((UInt8.toNat v3):Nat):Int)==(0:Int)) (some true) (cond (v2.2==(9:Int)) (some (decide ((((UInt8.toNat v3):Nat):Int) > (1:Int)))) (some false))) (cond (v2.2==(9:Int)) (some (decide ((((UInt8.toNat v3):Nat):Int) > (1:Int)))) (some false))) (fun (v4:Bool)=>(cond v4 (some (.inr (.inr (.inr ((0:Int),(0:Int),(2:Int)))))) (some (.inl ()))))) (fun (v5:Unit)=>(cond (decide ((IntKind.wrap .i64 ((7:Int) * v2.2)) < (0:Int))) none (cond (decide ((((UInt8.toNat v3):Nat):Int) < (128:Int))) (some (.inr (.inr ((IntKind.wrap .u64 (((BitVec.toNat (BitVec.or (BitVec.ofInt 64 v2.1) (BitVec.ofInt 64 (IntKind.wrap .u64 ((IntKind.wrap .u64 (IntKind.wrap .u8 (((BitVec.toNat (BitVec.and (BitVec.ofInt 8 (((UInt8.toNat v3):Nat):Int)) (BitVec.ofInt 8 (127:Int)))):Nat):Int))) * (Int.pow (2:Int) (min (Int.toNat (IntKind.wrap .i64 ((7:Int) * v2.2))) 64))))))):Nat):Int)),(IntKind.wrap .i64 ((IntKind.wrap .i64 (v.2+v2.2))+(1:Int))),(0:Int))))) (some (.inl (IntKind.wrap .u64 (((BitVec.toNat (BitVec.or (BitVec.ofInt 64 v2.1) (BitVec.ofInt 64 (IntKind.wrap .u64 ((IntKind.wrap .u64 (IntKind.wrap .u8 (((BitVec.toNat (BitVec.and (BitVec.ofInt 8 (((UInt8.toNat v3):Nat):Int)) (BitVec.ofInt 8 (127:Int)))):Nat):Int))) * (Int.pow (2:Int) (min (Int.toNat (IntKind.wrap .i64 ((7:Int) * v2.2))) 64))))))):Nat):Int)))))))))) none) (fun (v6:Int)=>(some (.inl (v6,(IntKind.wrap .i64 (v2.2+(1:Int)))))))) (some (.inr ((0:Int),(0:Int),(3:Int)))))) ((0:Int),(0:Int))))):=by kernel_rfl
theorem F26_eq (v:Int):F26 v=(cond (decide (v ≥ (0:Int))) (some (decide (v < (64:Int)))) (some false)):=by kernel_rfl
theorem F55_eq (v:tya1):F55 v=(Option.bind (F26 v.2.2.2.2.1) (fun (v0:Bool)=>(some v0))):=by kernel_rfl
theorem F56_eq (v:tya1):F56 v=(Option.bind (F22 ((IntKind.wrap .u64 v.2.2.2.2.1)::[])) (fun (v0:ByteArray)=>(some v0))):=by kernel_rfl
theorem F59_eq (v:(List (Int×Int))):F59 v=(loopX (fun (v0:Int)=>(cond (decide (v0 < ((v.length:Nat):Int))) (joinX (cond (decide ((0:Int)≤v0)) (Option.bind v[(Int.toNat v0)]? (fun (v1:(Int×Int))=>(Option.bind (cond (decide (v1.2 < (0:Int))) (some true) (some (decide (v1.2 > (3:Int))))) (fun (v2:Bool)=>(cond v2 (some (.inr (.inr (1:Int)))) (some (.inl ()))))))) none) (fun (v3:Unit)=>(some (.inl (IntKind.wrap .i64 (v0+(1:Int))))))) (some (.inr (0:Int))))) (0:Int)):=by kernel_rfl
theorem F58_eq (v:tya1):F58 v=(Option.bind (F59 ((v.2.2.2.2.2.1,v.2.2.2.2.2.2.1)::[])) (fun (v0:Int)=>(some (v0==(0:Int))))):=by kernel_rfl
theorem F61_eq (v:(Int×Int)):F61 v=(Option.bind (F22 (v.1::((IntKind.wrap .u64 v.2)::[]))) (fun (v0:ByteArray)=>(some v0))):=by kernel_rfl
theorem F60_eq (v:tya1):F60 v=(Option.bind (F61 (v.2.2.2.2.2.1,v.2.2.2.2.2.2.1)) (fun (v0:ByteArray)=>(some v0))):=by kernel_rfl
theorem F87_eq (v:(Int×(Int×Int))):F87 v=(Option.bind (F26 v.1) (fun (v0:Bool)=>(cond (!v0) (some true) (Option.bind (F59 (v.2::[])) (fun (v1:Int)=>(some (v1 != (0:Int)))))))):=by kernel_rfl
theorem F64_eq (v:tya1):F64 v=(cond (decide (((v.2.2.2.2.2.2.2.1.length:Nat):Int)≤(8:Int))) (Option.bind (loopX (fun (v0:Int)=>(cond (decide (v0 < ((v.2.2.2.2.2.2.2.1.length:Nat):Int))) (cond (decide ((0:Int)≤v0)) (Option.bind v.2.2.2.2.2.2.2.1[(Int.toNat v0)]? (fun (v1:(Int×(Int×Int)))=>(Option.bind (F87 v1) (fun (v2:Bool)=>(cond v2 (some (.inr v0)) (some (.inl (IntKind.wrap .i64 (v0+(1:Int)))))))))) none) (some (.inr (-1:Int))))) (0:Int)) (fun (v3:Int)=>(some (!(decide (v3 ≥ (0:Int))))))) (some false)):=by kernel_rfl
theorem F65_eq (v:tya1):F65 v=(Option.bind (F22 ((IntKind.wrap .u64 ((v.2.2.2.2.2.2.2.1.length:Nat):Int))::[])) (fun (v0:ByteArray)=>(loopX (fun (v1:(ByteArray×Int))=>(cond (decide (v1.2 < ((v.2.2.2.2.2.2.2.1.length:Nat):Int))) (cond (decide ((0:Int)≤v1.2)) (Option.bind v.2.2.2.2.2.2.2.1[(Int.toNat v1.2)]? (fun (v2:(Int×(Int×Int)))=>(Option.bind (F22 ((IntKind.wrap .u64 v2.1)::[])) (fun (v3:ByteArray)=>(Option.bind (F61 v2.2) (fun (v4:ByteArray)=>(cond (decide (((ByteArray.size v3)+(ByteArray.size v4))≤4611686018427387904)) (cond (decide (((ByteArray.size v1.1)+(ByteArray.size (v3++v4)))≤4611686018427387904)) (some (.inl ((v1.1++(v3++v4)),(IntKind.wrap .i64 (v1.2+(1:Int)))))) none) none))))))) none) (some (.inr v1.1)))) (v0,(0:Int))))):=by kernel_rfl
theorem F68_eq (v:(List (Int×Int))):F68 v=(Option.bind (cond (decide (((v.length:Nat):Int) < (1:Int))) (some true) (some (decide (((v.length:Nat):Int) > (64:Int))))) (fun (v0:Bool)=>(cond v0 (some (1:Int)) (Option.bind (F59 v) (fun (v1:Int)=>(some v1)))))):=by kernel_rfl
theorem F67_eq (v:tya1):F67 v=(Option.bind (F68 v.2.2.2.2.2.2.2.2.1) (fun (v0:Int)=>(some (v0==(0:Int))))):=by kernel_rfl
theorem F69_eq (v:tya1):F69 v=(Option.bind (F22 ((IntKind.wrap .u64 ((v.2.2.2.2.2.2.2.2.1.length:Nat):Int))::[])) (fun (v0:ByteArray)=>(loopX (fun (v1:(ByteArray×Int))=>(cond (decide (v1.2 < ((v.2.2.2.2.2.2.2.2.1.length:Nat):Int))) (cond (decide ((0:Int)≤v1.2)) (Option.bind v.2.2.2.2.2.2.2.2.1[(Int.toNat v1.2)]? (fun (v2:(Int×Int))=>(Option.bind (F61 v2) (fun (v3:ByteArray)=>(cond (decide (((ByteArray.size v1.1)+(ByteArray.size v3))≤4611686018427387904)) (some (.inl ((v1.1++v3),(IntKind.wrap .i64 (v1.2+(1:Int)))))) none))))) none) (some (.inr v1.1)))) (v0,(0:Int))))):=by kernel_rfl
theorem F72_eq (v:tya1):F72 v=(cond (decide (v.2.2.2.2.2.2.2.2.2.2.2.1 ≥ (0:Int))) (some (decide (v.2.2.2.2.2.2.2.2.2.2.2.1≤(1099511627776:Int)))) (some false)):=by kernel_rfl
theorem F73_eq (v:tya1):F73 v=(Option.bind (F22 ((IntKind.wrap .u64 v.2.2.2.2.2.2.2.2.2.2.2.1)::[])) (fun (v0:ByteArray)=>(some v0))):=by kernel_rfl
theorem F15_eq (v:ByteArray):F15 v=(joinX (loopX (fun (v0:(ByteArray×Nat))=>(cond (decide (v0.2 < (ByteArray.size v0.1))) (Option.bind (cond (decide ((((Utf8.decode v0.1 v0.2).1:Nat):Int) ≥ (97:Int))) (cond (decide ((((Utf8.decode v0.1 v0.2).1:Nat):Int)≤(122:Int))) (some false) (cond (decide ((((Utf8.decode v0.1 v0.2).1:Nat):Int) ≥ (48:Int))) (cond (decide ((((Utf8.decode v0.1 v0.2).1:Nat):Int)≤(57:Int))) (some false) (some (!((((Utf8.decode v0.1 v0.2).1:Nat):Int)==(45:Int))))) (some (!((((Utf8.decode v0.1 v0.2).1:Nat):Int)==(45:Int)))))) (cond (decide ((((Utf8.decode v0.1 v0.2).1:Nat):Int) ≥ (48:Int))) (cond (decide ((((Utf8.decode v0.1 v0.2).1:Nat):Int)≤(57:Int))) (some false) (some (!((((Utf8.decode v0.1 v0.2).1:Nat):Int)==(45:Int))))) (some (!((((Utf8.decode v0.1 v0.2).1:Nat):Int)==(45:Int)))))) (fun (v1:Bool)=>(cond v1 (some (.inr (.inr false))) (some (.inl (v0.1,(v0.2+(Utf8.decode v0.1 v0.2).2))))))) (some (.inr (.inl ()))))) (v,0)) (fun (v2:Unit)=>(cond (!((ByteArray.toList v)==(ByteArray.toList (ByteArray.mk #[])))) (some (decide ((((ByteArray.size v):Nat):Int)≤(20:Int)))) (some false)))):=by kernel_rfl
theorem F75_eq (v:tya1):F75 v=(Option.bind (F15 v.2.2.2.2.2.2.2.2.2.2.2.2.1) (fun (v0:Bool)=>(some v0))):=by kernel_rfl
theorem F88_eq (v:ByteArray):F88 v=(cond (decide ((((ByteArray.size v):Nat):Int) > (200:Int))) (some ((ByteArray.mk #[]),(4:Int))) (Option.bind (F22 ((IntKind.wrap .u64 (((ByteArray.size v):Nat):Int))::[])) (fun (v0:ByteArray)=>(cond (decide (((ByteArray.size v0)+(ByteArray.size v))≤4611686018427387904)) (some ((v0++v),(0:Int))) none)))):=by kernel_rfl
theorem F76_eq (v:tya1):F76 v=(Option.bind (F88 v.2.2.2.2.2.2.2.2.2.2.2.2.1) (fun (v0:(ByteArray×Int))=>(cond (v0.2 != (0:Int)) (some (ByteArray.mk #[])) (some v0.1)))):=by kernel_rfl
theorem F89_eq (v:(ByteArray×Int)):F89 v=(Option.bind (F85 v) (fun (v0:(Int×(Int×Int)))=>(cond (v0.2.2 != (0:Int)) (some ((ByteArray.mk #[]),(0:Int),v0.2.2)) (cond (decide (v0.1 > (200:Int))) (some ((ByteArray.mk #[]),(0:Int),(4:Int))) (cond (decide ((IntKind.wrap .i64 v0.1) > (IntKind.wrap .i64 ((((ByteArray.size v.1):Nat):Int) - v0.2.1)))) (some ((ByteArray.mk #[]),(0:Int),(3:Int))) (cond ((decide ((0:Int)≤v0.2.1))&&((decide (v0.2.1≤(IntKind.wrap .i64 (v0.2.1+(IntKind.wrap .i64 v0.1)))))&&(decide ((IntKind.wrap .i64 (v0.2.1+(IntKind.wrap .i64 v0.1)))≤(((ByteArray.size v.1):Nat):Int))))) (some ((ByteArray.extract v.1 (Int.toNat v0.2.1) (Int.toNat (IntKind.wrap .i64 (v0.2.1+(IntKind.wrap .i64 v0.1))))),(IntKind.wrap .i64 (v0.2.1+(IntKind.wrap .i64 v0.1))),(0:Int))) none)))))):=by kernel_rfl
theorem F79_eq (v:Bool):F79 v=(cond v (some (1:Int)) (some (0:Int))):=by kernel_rfl
theorem F78_eq (v:tya1):F78 v=(Option.bind (F79 v.2.2.2.2.2.2.2.2.2.2.2.2.2.2) (fun (v0:Int)=>(Option.bind (F22 (v0::[])) (fun (v1:ByteArray)=>(some v1))))):=by kernel_rfl
theorem F24_eq (v:Int):F24 v=(cond (v==(1:Int)) (some ((ByteArray.mk #[115,101,113])::((ByteArray.mk #[107])::((ByteArray.mk #[110,101,119,115])::[])))) (cond (v==(2:Int)) (some ((ByteArray.mk #[115,101,113])::((ByteArray.mk #[119,104,111])::((ByteArray.mk #[110,101,119,115])::[])))) (cond (v==(3:Int)) (some ((ByteArray.mk #[115,101,113])::((ByteArray.mk #[119,104,111])::((ByteArray.mk #[107])::((ByteArray.mk #[110,101,119,115])::[]))))) (cond (v==(4:Int)) (some ((ByteArray.mk #[115,101,113])::((ByteArray.mk #[119,104,111])::[]))) (cond (v==(5:Int)) (some ((ByteArray.mk #[116,97,98,108,101])::[])) (cond (v==(6:Int)) (some ((ByteArray.mk #[116,97,98,108,101])::[])) (cond (v==(7:Int)) (some ((ByteArray.mk #[101,112,111,99,104])::((ByteArray.mk #[98,111,111,116])::((ByteArray.mk #[97,115,107,101,100])::[])))) (cond (v==(8:Int)) (some ((ByteArray.mk #[101,112,111,99,104])::((ByteArray.mk #[98,111,111,116])::((ByteArray.mk #[97,115,107,101,100])::[])))) (cond (v==(9:Int)) (some ((ByteArray.mk #[101,112,111,99,104])::((ByteArray.mk #[98,111,111,116])::[]))) (cond (v==(10:Int)) (some ((ByteArray.mk #[98,111,111,116])::((ByteArray.mk #[97,115,107,101,100])::[]))) (cond (v==(11:Int)) (some ((ByteArray.mk #[101,112,111,99,104])::((ByteArray.mk #[98,111,111,116])::((ByteArray.mk #[97,115,107,101,100])::((ByteArray.mk #[116,97,115,107])::((ByteArray.mk #[116,111,107,101,110])::[])))))) (cond (v==(12:Int)) (some ((ByteArray.mk #[116,97,115,107])::((ByteArray.mk #[116,111,107,101,110])::((ByteArray.mk #[103,111,111,100])::[])))) (some []))))))))))))):=by kernel_rfl
theorem F27_eq (v:tya1):F27 v=(Option.bind (F24 v.1) (fun (v0:(List ByteArray))=>(loopX (fun (v1:(Int×tya1))=>(cond (decide (v1.1 < ((v0.length:Nat):Int))) (Option.bind (cond (decide ((0:Int)≤v1.1)) (Option.bind v0[(Int.toNat v1.1)]? (fun (v2:ByteArray)=>(cond ((ByteArray.toList v2)==(ByteArray.toList (ByteArray.mk #[115,101,113]))) (some (v1.2.1,v1.2.2.1,v1.2.2.2.1,v.2.2.2.1,v1.2.2.2.2.2)) (cond ((ByteArray.toList v2)==(ByteArray.toList (ByteArray.mk #[119,104,111]))) (some (v1.2.1,v1.2.2.1,v1.2.2.2.1,v1.2.2.2.2.1,v.2.2.2.2.1,v1.2.2.2.2.2.2)) (cond ((ByteArray.toList v2)==(ByteArray.toList (ByteArray.mk #[107]))) (some (v1.2.1,v1.2.2.1,v1.2.2.2.1,v1.2.2.2.2.1,v1.2.2.2.2.2.1,v.2.2.2.2.2.1,v.2.2.2.2.2.2.1,v1.2.2.2.2.2.2.2.2)) (cond ((ByteArray.toList v2)==(ByteArray.toList (ByteArray.mk #[110,101,119,115]))) (some (v1.2.1,v1.2.2.1,v1.2.2.2.1,v1.2.2.2.2.1,v1.2.2.2.2.2.1,v1.2.2.2.2.2.2.1,v1.2.2.2.2.2.2.2.1,v.2.2.2.2.2.2.2.1,v1.2.2.2.2.2.2.2.2.2)) (cond ((ByteArray.toList v2)==(ByteArray.toList (ByteArray.mk #[116,97,98,108,101]))) (some (v1.2.1,v1.2.2.1,v1.2.2.2.1,v1.2.2.2.2.1,v1.2.2.2.2.2.1,v1.2.2.2.2.2.2.1,v1.2.2.2.2.2.2.2.1,v1.2.2.2.2.2.2.2.2.1,v.2.2.2.2.2.2.2.2.1,v1.2.2.2.2.2.2.2.2.2.2)) (cond ((ByteArray.toList v2)==(ByteArray.toList (ByteArray.mk #[101,112,111,99,104]))) (some (v1.2.1,v1.2.2.1,v1.2.2.2.1,v1.2.2.2.2.1,v1.2.2.2.2.2.1,v1.2.2.2.2.2.2.1,v1.2.2.2.2.2.2.2.1,v1.2.2.2.2.2.2.2.2.1,v1.2.2.2.2.2.2.2.2.2.1,v.2.2.2.2.2.2.2.2.2.1,v1.2.2.2.2.2.2.2.2.2.2.2)) (cond ((ByteArray.toList v2)==(ByteArray.toList (ByteArray.mk #[98,111,111,116]))) (some (v1.2.1,v1.2.2.1,v1.2.2.2.1,v1.2.2.2.2.1,v1.2.2.2.2.2.1,v1.2.2.2.2.2.2.1,v1.2.2.2.2.2.2.2.1,v1.2.2.2.2.2.2.2.2.1,v1.2.2.2.2.2.2.2.2.2.1,v1.2.2.2.2.2.2.2.2.2.2.1,v.2.2.2.2.2.2.2.2.2.2.1,v1.2.2.2.2.2.2.2.2.2.2.2.2)) (cond ((ByteArray.toList v2)==(ByteArray.toList (ByteArray.mk #[97,115,107,101,100]))) (some (v1.2.1,v1.2.2.1,v1.2.2.2.1,v1.2.2.2.2.1,v1.2.2.2.2.2.1,v1.2.2.2.2.2.2.1,v1.2.2.2.2.2.2.2.1,v1.2.2.2.2.2.2.2.2.1,v1.2.2.2.2.2.2.2.2.2.1,v1.2.2.2.2.2.2.2.2.2.2.1,v1.2.2.2.2.2.2.2.2.2.2.2.1,v.2.2.2.2.2.2.2.2.2.2.2.1,v1.2.2.2.2.2.2.2.2.2.2.2.2.2)) (cond ((ByteArray.toList v2)==(ByteArray.toList (ByteArray.mk #[116,97,115,107]))) (some (v1.2.1,v1.2.2.1,v1.2.2.2.1,v1.2.2.2.2.1,v1.2.2.2.2.2.1,v1.2.2.2.2.2.2.1,v1.2.2.2.2.2.2.2.1,v1.2.2.2.2.2.2.2.2.1,v1.2.2.2.2.2.2.2.2.2.1,v1.2.2.2.2.2.2.2.2.2.2.1,v1.2.2.2.2.2.2.2.2.2.2.2.1,v1.2.2.2.2.2.2.2.2.2.2.2.2.1,v.2.2.2.2.2.2.2.2.2.2.2.2.1,v1.2.2.2.2.2.2.2.2.2.2.2.2.2.2)) (cond ((ByteArray.toList v2)==(ByteArray.toList (ByteArray.mk #[116,111,107,101,110]))) (some (v1.2.1,v1.2.2.1,v1.2.2.2.1,v1.2.2.2.2.1,v1.2.2.2.2.2.1,v1.2.2.2.2.2.2.1,v1.2.2.2.2.2.2.2.1,v1.2.2.2.2.2.2.2.2.1,v1.2.2.2.2.2.2.2.2.2.1,v1.2.2.2.2.2.2.2.2.2.2.1,v1.2.2.2.2.2.2.2.2.2.2.2.1,v1.2.2.2.2.2.2.2.2.2.2.2.2.1,v1.2.2.2.2.2.2.2.2.2.2.2.2.2.1,v.2.2.2.2.2.2.2.2.2.2.2.2.2.1,v1.2.2.2.2.2.2.2.2.2.2.2.2.2.2.2)) (cond ((ByteArray.toList v2)==(ByteArray.toList (ByteArray.mk #[103,111,111,100]))) (some (v1.2.1,v1.2.2.1,v1.2.2.2.1,v1.2.2.2.2.1,v1.2.2.2.2.2.1,v1.2.2.2.2.2.2.1,v1.2.2.2.2.2.2.2.1,v1.2.2.2.2.2.2.2.2.1,v1.2.2.2.2.2.2.2.2.2.1,v1.2.2.2.2.2.2.2.2.2.2.1,v1.2.2.2.2.2.2.2.2.2.2.2.1,v1.2.2.2.2.2.2.2.2.2.2.2.2.1,v1.2.2.2.2.2.2.2.2.2.2.2.2.2.1,v1.2.2.2.2.2.2.2.2.2.2.2.2.2.2.1,v.2.2.2.2.2.2.2.2.2.2.2.2.2.2)) (some v1.2)))))))))))))) none) (fun (v3:tya1)=>(some (.inl ((IntKind.wrap .i64 (v1.1+(1:Int))),v3))))) (some (.inr v1.2)))) ((0:Int),v.1,v.2.1,v.2.2.1,(0:Int),(0:Int),(0:Int),(0:Int),[],[],(0:Int),(0:Int),(0:Int),(ByteArray.mk #[]),(0:Int),false)))):=by kernel_rfl
theorem F11_eq (v:tya1):F11 v=(joinX (Option.bind (cond (decide (v.1 < (1:Int))) (some true) (cond (decide (v.1 > (12:Int))) (some true) (Option.bind (F26 v.2.1) (fun (v0:Bool)=>(cond (!v0) (some true) (Option.bind (F26 v.2.2.1) (fun (v1:Bool)=>(cond (!v1) (some true) (cond (v.2.1==v.2.2.1) (some true) (Option.bind (F27 v) (fun (v2:tya1)=>(Option.bind (F13 (v,v2)) (fun (v3:Bool)=>(some (!v3))))))))))))))) (fun (v4:Bool)=>(cond v4 (some (.inr (1:Int))) (some (.inl ()))))) (fun (v5:Unit)=>(Option.bind (F24 v.1) (fun (v6:(List ByteArray))=>(loopX (fun (v7:Int)=>(cond (decide (v7 < ((v6.length:Nat):Int))) (cond (decide ((0:Int)≤v7)) (Option.bind v6[(Int.toNat v7)]? (fun (v8:ByteArray)=>(cond ((ByteArray.toList v8)==(ByteArray.toList (ByteArray.mk #[115,101,113]))) (Option.bind (F47 v) (fun (v9:Bool)=>(cond (!v9) (some (.inr (1:Int))) (some (.inl (IntKind.wrap .i64 (v7+(1:Int)))))))) (cond ((ByteArray.toList v8)==(ByteArray.toList (ByteArray.mk #[101,112,111,99,104]))) (Option.bind (F47 v) (fun (v10:Bool)=>(cond (!v10) (some (.inr (1:Int))) (some (.inl (IntKind.wrap .i64 (v7+(1:Int)))))))) (cond ((ByteArray.toList v8)==(ByteArray.toList (ByteArray.mk #[98,111,111,116]))) (Option.bind (F47 v) (fun (v11:Bool)=>(cond (!v11) (some (.inr (1:Int))) (some (.inl (IntKind.wrap .i64 (v7+(1:Int)))))))) (cond ((ByteArray.toList v8)==(ByteArray.toList (ByteArray.mk #[116,111,107,101,110]))) (Option.bind (F47 v) (fun (v12:Bool)=>(cond (!v12) (some (.inr (1:Int))) (some (.inl (IntKind.wrap .i64 (v7+(1:Int)))))))) (cond ((ByteArray.toList v8)==(ByteArray.toList (ByteArray.mk #[119,104,111]))) (Option.bind (F55 v) (fun (v13:Bool)=>(cond (!v13) (some (.inr (1:Int))) (some (.inl (IntKind.wrap .i64 (v7+(1:Int)))))))) (cond ((ByteArray.toList v8)==(ByteArray.toList (ByteArray.mk #[107]))) (Option.bind (F58 v) (fun (v14:Bool)=>(cond (!v14) (some (.inr (1:Int))) (some (.inl (IntKind.wrap .i64 (v7+(1:Int)))))))) (cond ((ByteArray.toList v8)==(ByteArray.toList (ByteArray.mk #[110,101,119,115]))) (Option.bind (F64 v) (fun (v15:Bool)=>(cond (!v15) (some (.inr (1:Int))) (some (.inl (IntKind.wrap .i64 (v7+(1:Int)))))))) (cond ((ByteArray.toList v8)==(ByteArray.toList (ByteArray.mk #[116,97,98,108,101]))) (Option.bind (F67 v) (fun (v16:Bool)=>(cond (!v16) (some (.inr (1:Int))) (some (.inl (IntKind.wrap .i64 (v7+(1:Int)))))))) (cond ((ByteArray.toList v8)==(ByteArray.toList (ByteArray.mk #[97,115,107,101,100]))) (Option.bind (F72 v) (fun (v17:Bool)=>(cond (!v17) (some (.inr (1:Int))) (some (.inl (IntKind.wrap .i64 (v7+(1:Int)))))))) (cond ((ByteArray.toList v8)==(ByteArray.toList (ByteArray.mk #[116,97,115,107]))) (Option.bind (F75 v) (fun (v18:Bool)=>(cond (!v18) (some (.inr (1:Int))) (some (.inl (IntKind.wrap .i64 (v7+(1:Int)))))))) (cond ((ByteArray.toList v8)==(ByteArray.toList (ByteArray.mk #[103,111,111,100]))) (Option.bind (F47 v) (fun (v19:Bool)=>(cond (!v19) (some (.inr (1:Int))) (some (.inl (IntKind.wrap .i64 (v7+(1:Int)))))))) none))))))))))))) none) (some (.inr (0:Int))))) (0:Int)))))):=by kernel_rfl
theorem F81_eq (v:Int):F81 v=(some (ByteArray.mk (Array.mk ((UInt8.ofBitVec (BitVec.ofFin (Fin.mk (Nat.mod (Int.toNat (IntKind.wrap .u8 v)) 256) (Nat.mod_lt (Int.toNat (IntKind.wrap .u8 v)) (BitVec.ofNat._proof_1 8)))))::((UInt8.ofBitVec (BitVec.ofFin (Fin.mk (Nat.mod (Int.toNat (IntKind.wrap .u8 (Int.fdiv v (256:Int)))) 256) (Nat.mod_lt (Int.toNat (IntKind.wrap .u8 (Int.fdiv v (256:Int)))) (BitVec.ofNat._proof_1 8)))))::((UInt8.ofBitVec (BitVec.ofFin (Fin.mk (Nat.mod (Int.toNat (IntKind.wrap .u8 (Int.fdiv v (65536:Int)))) 256) (Nat.mod_lt (Int.toNat (IntKind.wrap .u8 (Int.fdiv v (65536:Int)))) (BitVec.ofNat._proof_1 8)))))::((UInt8.ofBitVec (BitVec.ofFin (Fin.mk (Nat.mod (Int.toNat (IntKind.wrap .u8 (Int.fdiv v (16777216:Int)))) 256) (Nat.mod_lt (Int.toNat (IntKind.wrap .u8 (Int.fdiv v (16777216:Int)))) (BitVec.ofNat._proof_1 8)))))::[]))))))):=by kernel_rfl
theorem F25_eq (v:ByteArray):F25 v=(cond (decide ((((ByteArray.size v):Nat):Int) > (4096:Int))) (some ((ByteArray.mk #[]),(4:Int))) (Option.bind (F82 v) (fun (v0:Int)=>(Option.bind (F81 v0) (fun (v1:ByteArray)=>(cond (decide (((ByteArray.size v)+(ByteArray.size v1))≤4611686018427387904)) (some ((v++v1),(0:Int))) none)))))):=by kernel_rfl
theorem F10_eq (v:tya1):F10 v=(Option.bind (F11 v) (fun (v0:Int)=>(cond (v0 != (0:Int)) (some ((ByteArray.mk #[]),v0)) (Option.bind (F22 ((IntKind.wrap .u64 v.1)::((IntKind.wrap .u64 v.2.1)::((IntKind.wrap .u64 v.2.2.1)::[])))) (fun (v1:ByteArray)=>(Option.bind (Option.bind (F24 v.1) (fun (v2:(List ByteArray))=>(loopX (fun (v3:(ByteArray×Int))=>(cond (decide (v3.2 < ((v2.length:Nat):Int))) (cond (decide ((0:Int)≤v3.2)) (Option.bind v2[(Int.toNat v3.2)]? (fun (v4:ByteArray)=>(cond ((ByteArray.toList v4)==(ByteArray.toList (ByteArray.mk #[115,101,113]))) (Option.bind (F22 (v.2.2.2.1::[])) (fun (v5:ByteArray)=>(cond (decide (((ByteArray.size v3.1)+(ByteArray.size v5))≤4611686018427387904)) (some (.inl ((v3.1++v5),(IntKind.wrap .i64 (v3.2+(1:Int)))))) none))) (cond ((ByteArray.toList v4)==(ByteArray.toList (ByteArray.mk #[101,112,111,99,104]))) (Option.bind (F22 (v.2.2.2.2.2.2.2.2.2.1::[])) (fun (v6:ByteArray)=>(cond (decide (((ByteArray.size v3.1)+(ByteArray.size v6))≤4611686018427387904)) (some (.inl ((v3.1++v6),(IntKind.wrap .i64 (v3.2+(1:Int)))))) none))) (cond ((ByteArray.toList v4)==(ByteArray.toList (ByteArray.mk #[98,111,111,116]))) (Option.bind (F22 (v.2.2.2.2.2.2.2.2.2.2.1::[])) (fun (v7:ByteArray)=>(cond (decide (((ByteArray.size v3.1)+(ByteArray.size v7))≤4611686018427387904)) (some (.inl ((v3.1++v7),(IntKind.wrap .i64 (v3.2+(1:Int)))))) none))) (cond ((ByteArray.toList v4)==(ByteArray.toList (ByteArray.mk #[116,111,107,101,110]))) (Option.bind (F22 (v.2.2.2.2.2.2.2.2.2.2.2.2.2.1::[])) (fun (v8:ByteArray)=>(cond (decide (((ByteArray.size v3.1)+(ByteArray.size v8))≤4611686018427387904)) (some (.inl ((v3.1++v8),(IntKind.wrap .i64 (v3.2+(1:Int)))))) none))) (cond ((ByteArray.toList v4)==(ByteArray.toList (ByteArray.mk #[119,104,111]))) (Option.bind (F56 v) (fun (v9:ByteArray)=>(cond (decide (((ByteArray.size v3.1)+(ByteArray.size v9))≤4611686018427387904)) (some (.inl ((v3.1++v9),(IntKind.wrap .i64 (v3.2+(1:Int)))))) none))) (cond ((ByteArray.toList v4)==(ByteArray.toList (ByteArray.mk #[107]))) (Option.bind (F60 v) (fun (v10:ByteArray)=>(cond (decide (((ByteArray.size v3.1)+(ByteArray.size v10))≤4611686018427387904)) (some (.inl ((v3.1++v10),(IntKind.wrap .i64 (v3.2+(1:Int)))))) none))) (cond ((ByteArray.toList v4)==(ByteArray.toList (ByteArray.mk #[110,101,119,115]))) (Option.bind (F65 v) (fun (v11:ByteArray)=>(cond (decide (((ByteArray.size v3.1)+(ByteArray.size v11))≤4611686018427387904)) (some (.inl ((v3.1++v11),(IntKind.wrap .i64 (v3.2+(1:Int)))))) none))) (cond ((ByteArray.toList v4)==(ByteArray.toList (ByteArray.mk #[116,97,98,108,101]))) (Option.bind (F69 v) (fun (v12:ByteArray)=>(cond (decide (((ByteArray.size v3.1)+(ByteArray.size v12))≤4611686018427387904)) (some (.inl ((v3.1++v12),(IntKind.wrap .i64 (v3.2+(1:Int)))))) none))) (cond ((ByteArray.toList v4)==(ByteArray.toList (ByteArray.mk #[97,115,107,101,100]))) (Option.bind (F73 v) (fun (v13:ByteArray)=>(cond (decide (((ByteArray.size v3.1)+(ByteArray.size v13))≤4611686018427387904)) (some (.inl ((v3.1++v13),(IntKind.wrap .i64 (v3.2+(1:Int)))))) none))) (cond ((ByteArray.toList v4)==(ByteArray.toList (ByteArray.mk #[116,97,115,107]))) (Option.bind (F76 v) (fun (v14:ByteArray)=>(cond (decide (((ByteArray.size v3.1)+(ByteArray.size v14))≤4611686018427387904)) (some (.inl ((v3.1++v14),(IntKind.wrap .i64 (v3.2+(1:Int)))))) none))) (cond ((ByteArray.toList v4)==(ByteArray.toList (ByteArray.mk #[103,111,111,100]))) (Option.bind (F78 v) (fun (v15:ByteArray)=>(cond (decide (((ByteArray.size v3.1)+(ByteArray.size v15))≤4611686018427387904)) (some (.inl ((v3.1++v15),(IntKind.wrap .i64 (v3.2+(1:Int)))))) none))) none))))))))))))) none) (some (.inr v3.1)))) (v1,(0:Int))))) (fun (v16:ByteArray)=>(Option.bind (F25 v16) (fun (v17:(ByteArray×Int))=>(some v17)))))))))):=by kernel_rfl
theorem F34_eq (v:((List (Int×(Int×Int)))×(List (Int×(Int×Int))))):F34 v=(cond (((v.1.length:Nat):Int) != ((v.2.length:Nat):Int)) (some false) (loopX (fun (v0:Int)=>(cond (decide (v0 < ((v.1.length:Nat):Int))) (cond (decide ((0:Int)≤v0)) (Option.bind v.1[(Int.toNat v0)]? (fun (v1:(Int×(Int×Int)))=>(cond (decide ((0:Int)≤v0)) (Option.bind v.2[(Int.toNat v0)]? (fun (v2:(Int×(Int×Int)))=>(cond (!((v1.1==v2.1)&&((v1.2.1==v2.2.1)&&((v1.2.2==v2.2.2)&&true)))) (some (.inr false)) (some (.inl (IntKind.wrap .i64 (v0+(1:Int)))))))) none))) none) (some (.inr true)))) (0:Int))):=by kernel_rfl
theorem F35_eq (v:((List (Int×Int))×(List (Int×Int)))):F35 v=(cond (((v.1.length:Nat):Int) != ((v.2.length:Nat):Int)) (some false) (loopX (fun (v0:Int)=>(cond (decide (v0 < ((v.1.length:Nat):Int))) (cond (decide ((0:Int)≤v0)) (Option.bind v.1[(Int.toNat v0)]? (fun (v1:(Int×Int))=>(cond (decide ((0:Int)≤v0)) (Option.bind v.2[(Int.toNat v0)]? (fun (v2:(Int×Int))=>(cond (!((v1.1==v2.1)&&((v1.2==v2.2)&&true))) (some (.inr false)) (some (.inl (IntKind.wrap .i64 (v0+(1:Int)))))))) none))) none) (some (.inr true)))) (0:Int))):=by kernel_rfl
theorem F14_eq (v:(tya1×tya1)):F14 v=(cond (v.1.1==v.2.1) (cond (v.1.2.1==v.2.2.1) (cond (v.1.2.2.1==v.2.2.2.1) (cond (v.1.2.2.2.1==v.2.2.2.2.1) (cond (v.1.2.2.2.2.1==v.2.2.2.2.2.1) (cond ((v.1.2.2.2.2.2.1==v.2.2.2.2.2.2.1)&&((v.1.2.2.2.2.2.2.1==v.2.2.2.2.2.2.2.1)&&true)) (Option.bind (F34 (v.1.2.2.2.2.2.2.2.1,v.2.2.2.2.2.2.2.2.1)) (fun (v0:Bool)=>(cond v0 (Option.bind (F35 (v.1.2.2.2.2.2.2.2.2.1,v.2.2.2.2.2.2.2.2.2.1)) (fun (v1:Bool)=>(cond v1 (cond (v.1.2.2.2.2.2.2.2.2.2.1==v.2.2.2.2.2.2.2.2.2.2.1) (cond (v.1.2.2.2.2.2.2.2.2.2.2.1==v.2.2.2.2.2.2.2.2.2.2.2.1) (cond (v.1.2.2.2.2.2.2.2.2.2.2.2.1==v.2.2.2.2.2.2.2.2.2.2.2.2.1) (cond ((ByteArray.toList v.1.2.2.2.2.2.2.2.2.2.2.2.2.1)==(ByteArray.toList v.2.2.2.2.2.2.2.2.2.2.2.2.2.1)) (cond (v.1.2.2.2.2.2.2.2.2.2.2.2.2.2.1==v.2.2.2.2.2.2.2.2.2.2.2.2.2.2.1) (some (v.1.2.2.2.2.2.2.2.2.2.2.2.2.2.2==v.2.2.2.2.2.2.2.2.2.2.2.2.2.2.2)) (some false)) (some false)) (some false)) (some false)) (some false)) (some false)))) (some false)))) (some false)) (some false)) (some false)) (some false)) (some false)) (some false)):=by kernel_rfl
theorem F16_eq (v:ByteArray):F16 v=(joinX (loopX (fun (v0:Int)=>(cond (decide (v0 < (((ByteArray.size v):Nat):Int))) (joinX (cond (decide ((0:Int)≤v0)) (Option.bind v[(Int.toNat v0)]? (fun (v1:UInt8)=>(Option.bind (cond (decide ((97:Int)≤(((UInt8.toNat v1):Nat):Int))) (cond (decide ((((UInt8.toNat v1):Nat):Int)≤(122:Int))) (some false) (cond (decide ((48:Int)≤(((UInt8.toNat v1):Nat):Int))) (cond (decide ((((UInt8.toNat v1):Nat):Int)≤(57:Int))) (some false) (some (!((((UInt8.toNat v1):Nat):Int)==(45:Int))))) (some (!((((UInt8.toNat v1):Nat):Int)==(45:Int)))))) (cond (decide ((48:Int)≤(((UInt8.toNat v1):Nat):Int))) (cond (decide ((((UInt8.toNat v1):Nat):Int)≤(57:Int))) (some false) (some (!((((UInt8.toNat v1):Nat):Int)==(45:Int))))) (some (!((((UInt8.toNat v1):Nat):Int)==(45:Int)))))) (fun (v2:Bool)=>(cond v2 (some (.inr (.inr (.inr false)))) (some (.inl ()))))))) none) (fun (v3:Unit)=>(some (.inl (IntKind.wrap .i64 (v0+(1:Int))))))) (some (.inr (.inl ()))))) (0:Int)) (fun (v4:Unit)=>(cond (decide ((1:Int)≤(((ByteArray.size v):Nat):Int))) (some (decide ((((ByteArray.size v):Nat):Int)≤(20:Int)))) (some false)))):=by kernel_rfl
theorem F28_eq (v:Int):F28 v=(cond (decide ((0:Int)≤v)) (some (decide (v≤(63:Int)))) (some false)):=by kernel_rfl
theorem F29_eq (v:tya1):F29 v=(Option.bind (Option.bind (cond (decide (v.1 ≥ (1:Int))) (some (decide (v.1≤(4:Int)))) (some false)) (fun (v0:Bool)=>(cond v0 (some (v.1,v.2.1,v.2.2.1,v.2.2.2.1,(0:Int),(0:Int),(0:Int),(0:Int),(0:Int),(0:Int),(ByteArray.mk #[]),(0:Int),false)) (some (v.1,v.2.1,v.2.2.1,(0:Int),(0:Int),(0:Int),(0:Int),(0:Int),(0:Int),(0:Int),(ByteArray.mk #[]),(0:Int),false))))) (fun (v1:(Int×(Int×(Int×(Int×(Int×(Int×(Int×(Int×(Int×tya2))))))))))=>(Option.bind (Option.bind (cond (decide (v.1 ≥ (2:Int))) (some (decide (v.1≤(4:Int)))) (some false)) (fun (v2:Bool)=>(cond v2 (some (v1.1,v1.2.1,v1.2.2.1,v1.2.2.2.1,v.2.2.2.2.1,v1.2.2.2.2.2)) (some v1)))) (fun (v3:(Int×(Int×(Int×(Int×(Int×(Int×(Int×(Int×(Int×tya2))))))))))=>(Option.bind (Option.bind (cond (v.1==(1:Int)) (some true) (some (v.1==(3:Int)))) (fun (v4:Bool)=>(cond v4 (some (v3.1,v3.2.1,v3.2.2.1,v3.2.2.2.1,v3.2.2.2.2.1,v.2.2.2.2.2.1,v.2.2.2.2.2.2.1,v3.2.2.2.2.2.2.2)) (some v3)))) (fun (v5:(Int×(Int×(Int×(Int×(Int×(Int×(Int×(Int×(Int×tya2))))))))))=>(Option.bind (Option.bind (cond (decide (v.1 ≥ (1:Int))) (some (decide (v.1≤(3:Int)))) (some false)) (fun (v6:Bool)=>(cond v6 (some (v5.1,v5.2.1,v5.2.2.1,v5.2.2.2.1,v5.2.2.2.2.1,v5.2.2.2.2.2.1,v5.2.2.2.2.2.2.1,v.2.2.2.2.2.2.2.1,v5.2.2.2.2.2.2.2)) (some (v5.1,v5.2.1,v5.2.2.1,v5.2.2.2.1,v5.2.2.2.2.1,v5.2.2.2.2.2.1,v5.2.2.2.2.2.2.1,[],v5.2.2.2.2.2.2.2))))) (fun (v7:(Int×(Int×(Int×(Int×(Int×(Int×(Int×((List (Int×(Int×Int)))×(Int×(Int×tya2)))))))))))=>(Option.bind (Option.bind (cond (v.1==(5:Int)) (some true) (some (v.1==(6:Int)))) (fun (v8:Bool)=>(cond v8 (some (v7.1,v7.2.1,v7.2.2.1,v7.2.2.2.1,v7.2.2.2.2.1,v7.2.2.2.2.2.1,v7.2.2.2.2.2.2.1,v7.2.2.2.2.2.2.2.1,v.2.2.2.2.2.2.2.2.1,v7.2.2.2.2.2.2.2.2)) (some (v7.1,v7.2.1,v7.2.2.1,v7.2.2.2.1,v7.2.2.2.2.1,v7.2.2.2.2.2.1,v7.2.2.2.2.2.2.1,v7.2.2.2.2.2.2.2.1,[],v7.2.2.2.2.2.2.2.2))))) (fun (v9:tya1)=>(Option.bind (Option.bind (cond (decide (v.1 ≥ (7:Int))) (cond (decide (v.1≤(9:Int))) (some true) (some (v.1==(11:Int)))) (some (v.1==(11:Int)))) (fun (v10:Bool)=>(cond v10 (some (v9.1,v9.2.1,v9.2.2.1,v9.2.2.2.1,v9.2.2.2.2.1,v9.2.2.2.2.2.1,v9.2.2.2.2.2.2.1,v9.2.2.2.2.2.2.2.1,v9.2.2.2.2.2.2.2.2.1,v.2.2.2.2.2.2.2.2.2.1,v9.2.2.2.2.2.2.2.2.2.2)) (some v9)))) (fun (v11:tya1)=>(Option.bind (Option.bind (cond (decide (v.1 ≥ (7:Int))) (some (decide (v.1≤(11:Int)))) (some false)) (fun (v12:Bool)=>(cond v12 (some (v11.1,v11.2.1,v11.2.2.1,v11.2.2.2.1,v11.2.2.2.2.1,v11.2.2.2.2.2.1,v11.2.2.2.2.2.2.1,v11.2.2.2.2.2.2.2.1,v11.2.2.2.2.2.2.2.2.1,v11.2.2.2.2.2.2.2.2.2.1,v.2.2.2.2.2.2.2.2.2.2.1,v11.2.2.2.2.2.2.2.2.2.2.2)) (some v11)))) (fun (v13:tya1)=>(Option.bind (Option.bind (cond (v.1==(7:Int)) (some true) (cond (v.1==(8:Int)) (some true) (cond (v.1==(10:Int)) (some true) (some (v.1==(11:Int)))))) (fun (v14:Bool)=>(cond v14 (some (v13.1,v13.2.1,v13.2.2.1,v13.2.2.2.1,v13.2.2.2.2.1,v13.2.2.2.2.2.1,v13.2.2.2.2.2.2.1,v13.2.2.2.2.2.2.2.1,v13.2.2.2.2.2.2.2.2.1,v13.2.2.2.2.2.2.2.2.2.1,v13.2.2.2.2.2.2.2.2.2.2.1,v.2.2.2.2.2.2.2.2.2.2.2.1,v13.2.2.2.2.2.2.2.2.2.2.2.2)) (some v13)))) (fun (v15:tya1)=>(Option.bind (Option.bind (cond (v.1==(11:Int)) (some true) (some (v.1==(12:Int)))) (fun (v16:Bool)=>(cond v16 (some (v15.1,v15.2.1,v15.2.2.1,v15.2.2.2.1,v15.2.2.2.2.1,v15.2.2.2.2.2.1,v15.2.2.2.2.2.2.1,v15.2.2.2.2.2.2.2.1,v15.2.2.2.2.2.2.2.2.1,v15.2.2.2.2.2.2.2.2.2.1,v15.2.2.2.2.2.2.2.2.2.2.1,v15.2.2.2.2.2.2.2.2.2.2.2.1,v.2.2.2.2.2.2.2.2.2.2.2.2.1,v.2.2.2.2.2.2.2.2.2.2.2.2.2.1,v15.2.2.2.2.2.2.2.2.2.2.2.2.2.2)) (some v15)))) (fun (v17:tya1)=>(cond (v.1==(12:Int)) (some (v17.1,v17.2.1,v17.2.2.1,v17.2.2.2.1,v17.2.2.2.2.1,v17.2.2.2.2.2.1,v17.2.2.2.2.2.2.1,v17.2.2.2.2.2.2.2.1,v17.2.2.2.2.2.2.2.2.1,v17.2.2.2.2.2.2.2.2.2.1,v17.2.2.2.2.2.2.2.2.2.2.1,v17.2.2.2.2.2.2.2.2.2.2.2.1,v17.2.2.2.2.2.2.2.2.2.2.2.2.1,v17.2.2.2.2.2.2.2.2.2.2.2.2.2.1,v.2.2.2.2.2.2.2.2.2.2.2.2.2.2)) (some v17)))))))))))))))))))):=by kernel_rfl
theorem F30_eq (v:(Int×Int)):F30 v=(cond (decide ((0:Int)≤v.2)) (some (decide (v.2≤(3:Int)))) (some false)):=by kernel_rfl
theorem F31_eq (v:(List (Int×Int))):F31 v=(joinX (loopX (fun (v0:Int)=>(cond (decide (v0 < ((v.length:Nat):Int))) (cond (decide ((0:Int)≤v0)) (Option.bind v[(Int.toNat v0)]? (fun (v1:(Int×Int))=>(Option.bind (F30 v1) (fun (v2:Bool)=>(cond (!v2) (some (.inr (.inr false))) (some (.inl (IntKind.wrap .i64 (v0+(1:Int)))))))))) none) (some (.inr (.inl ()))))) (0:Int)) (fun (v3:Unit)=>(cond (decide ((1:Int)≤((v.length:Nat):Int))) (some (decide (((v.length:Nat):Int)≤(64:Int)))) (some false)))):=by kernel_rfl
theorem F12_eq (v:tya1):F12 v=(joinX (Option.bind (cond (decide (v.1 < (1:Int))) (some true) (cond (decide (v.1 > (12:Int))) (some true) (Option.bind (F28 v.2.1) (fun (v0:Bool)=>(cond (!v0) (some true) (Option.bind (F28 v.2.2.1) (fun (v1:Bool)=>(cond (!v1) (some true) (cond (v.2.1==v.2.2.1) (some true) (Option.bind (F29 v) (fun (v2:tya1)=>(Option.bind (F14 (v,v2)) (fun (v3:Bool)=>(cond (!v3) (some true) (Option.bind (F28 v.2.2.2.2.1) (fun (v4:Bool)=>(cond (!v4) (some true) (Option.bind (F30 (v.2.2.2.2.2.1,v.2.2.2.2.2.2.1)) (fun (v5:Bool)=>(cond (!v5) (some true) (cond (decide (((v.2.2.2.2.2.2.2.1.length:Nat):Int) > (8:Int))) (some true) (cond (decide (v.2.2.2.2.2.2.2.2.2.2.2.1 < (0:Int))) (some true) (some (decide (v.2.2.2.2.2.2.2.2.2.2.2.1 > (1099511627776:Int)))))))))))))))))))))))))) (fun (v6:Bool)=>(cond v6 (some (.inr false)) (some (.inl ()))))) (fun (v7:Unit)=>(joinX (loopX (fun (v8:Int)=>(cond (decide (v8 < ((v.2.2.2.2.2.2.2.1.length:Nat):Int))) (joinX (Option.bind (cond (decide ((0:Int)≤v8)) (Option.bind v.2.2.2.2.2.2.2.1[(Int.toNat v8)]? (fun (v9:(Int×(Int×Int)))=>(Option.bind (F28 v9.1) (fun (v10:Bool)=>(cond (!v10) (some true) (cond (decide ((0:Int)≤v8)) (Option.bind v.2.2.2.2.2.2.2.1[(Int.toNat v8)]? (fun (v11:(Int×(Int×Int)))=>(Option.bind (F30 v11.2) (fun (v12:Bool)=>(some (!v12)))))) none)))))) none) (fun (v13:Bool)=>(cond v13 (some (.inr (.inr (.inr false)))) (some (.inl ()))))) (fun (v14:Unit)=>(some (.inl (IntKind.wrap .i64 (v8+(1:Int))))))) (some (.inr (.inl ()))))) (0:Int)) (fun (v15:Unit)=>(joinX (Option.bind (cond (v.1==(5:Int)) (Option.bind (F31 v.2.2.2.2.2.2.2.2.1) (fun (v16:Bool)=>(some (!v16)))) (cond (v.1==(6:Int)) (Option.bind (F31 v.2.2.2.2.2.2.2.2.1) (fun (v17:Bool)=>(some (!v17)))) (some false))) (fun (v18:Bool)=>(cond v18 (some (.inr false)) (some (.inl ()))))) (fun (v19:Unit)=>(cond (decide (v.1 < (11:Int))) (some true) (Option.bind (F16 v.2.2.2.2.2.2.2.2.2.2.2.2.1) (fun (v20:Bool)=>(some v20)))))))))):=by kernel_rfl
theorem F38_eq (v:ByteArray):F38 v=(cond (decide ((IntKind.wrap .i64 ((((ByteArray.size v):Nat):Int) - (4:Int))) < (0:Int))) (some ((ByteArray.mk #[]),(3:Int))) (cond (decide ((IntKind.wrap .i64 ((((ByteArray.size v):Nat):Int) - (4:Int))) > (4096:Int))) (some ((ByteArray.mk #[]),(4:Int))) (cond ((decide ((0:Int)≤(IntKind.wrap .i64 ((((ByteArray.size v):Nat):Int) - (4:Int)))))&&(decide ((IntKind.wrap .i64 ((((ByteArray.size v):Nat):Int) - (4:Int)))≤(((ByteArray.size v):Nat):Int)))) (cond ((decide ((0:Int)≤(IntKind.wrap .i64 ((((ByteArray.size v):Nat):Int) - (4:Int)))))&&(decide ((IntKind.wrap .i64 ((((ByteArray.size v):Nat):Int) - (4:Int)))≤(((ByteArray.size v):Nat):Int)))) (Option.bind (F82 (ByteArray.extract v 0 (Int.toNat (IntKind.wrap .i64 ((((ByteArray.size v):Nat):Int) - (4:Int)))))) (fun (v0:Int)=>(Option.bind (F81 v0) (fun (v1:ByteArray)=>(cond (!((ByteArray.toList (ByteArray.extract v (Int.toNat (IntKind.wrap .i64 ((((ByteArray.size v):Nat):Int) - (4:Int)))) (ByteArray.size v)))==(ByteArray.toList v1))) (some ((ByteArray.mk #[]),(10:Int))) (cond ((decide ((0:Int)≤(IntKind.wrap .i64 ((((ByteArray.size v):Nat):Int) - (4:Int)))))&&(decide ((IntKind.wrap .i64 ((((ByteArray.size v):Nat):Int) - (4:Int)))≤(((ByteArray.size v):Nat):Int)))) (some ((ByteArray.extract v 0 (Int.toNat (IntKind.wrap .i64 ((((ByteArray.size v):Nat):Int) - (4:Int))))),(0:Int))) none)))))) none) none))):=by kernel_rfl
theorem F36_eq (v:Unit):F36 v=(some ((4:Int),(1:Int),(2:Int),(5:Int),(3:Int),(0:Int),(0:Int),[],[],(0:Int),(0:Int),(0:Int),(ByteArray.mk #[]),(0:Int),false)):=by kernel_rfl
theorem F83_eq (v:ByteArray):F83 v=(loopX (fun (v0:(Int×Int))=>(cond (decide (v0.2 < (((ByteArray.size v):Nat):Int))) (Option.bind (cond (decide ((0:Int)≤v0.2)) (Option.bind v[(Int.toNat v0.2)]? (fun (v1:UInt8)=>(loopX (fun (v2:(Int×Int))=>(cond (decide (v2.2 < (8:Int))) (Option.bind (cond ((Int.tmod v2.1 (2:Int))==(1:Int)) (some (IntKind.wrap .u32 (((BitVec.toNat (BitVec.xor (BitVec.ofInt 32 (IntKind.wrap .u32 (Int.tdiv v2.1 (2:Int)))) (BitVec.ofInt 32 (3988292384:Int)))):Nat):Int))) (some (IntKind.wrap .u32 (Int.tdiv v2.1 (2:Int))))) (fun (v3:Int)=>(some (.inl (v3,(IntKind.wrap .i64 (v2.2+(1:Int)))))))) (some (.inr v2.1)))) ((IntKind.wrap .u32 (((BitVec.toNat (BitVec.xor (BitVec.ofInt 32 v0.1) (BitVec.ofInt 32 (IntKind.wrap .u32 (((UInt8.toNat v1):Nat):Int))))):Nat):Int)),(0:Int))))) none) (fun (v4:Int)=>(some (.inl (v4,(IntKind.wrap .i64 (v0.2+(1:Int)))))))) (some (.inr (IntKind.wrap .u32 ((4294967295:Int) - v0.1)))))) ((4294967295:Int),(0:Int))):=by kernel_rfl
theorem F40_eq (v:(List Int)):F40 v=(loopX (fun (v0:(ByteArray×Int))=>(cond (decide (v0.2 < ((v.length:Nat):Int))) (cond (decide ((0:Int)≤v0.2)) (Option.bind v[(Int.toNat v0.2)]? (fun (v1:Int)=>(Option.bind (F42 v1) (fun (v2:ByteArray)=>(cond (decide (((ByteArray.size v0.1)+(ByteArray.size v2))≤4611686018427387904)) (some (.inl ((v0.1++v2),(IntKind.wrap .i64 (v0.2+(1:Int)))))) none))))) none) (some (.inr v0.1)))) ((ByteArray.mk #[]),(0:Int))):=by kernel_rfl
theorem F41_eq (v:ByteArray):F41 v=(Option.bind (F42 (IntKind.wrap .u64 (((ByteArray.size v):Nat):Int))) (fun (v0:ByteArray)=>(cond (decide (((ByteArray.size v0)+(ByteArray.size v))≤4611686018427387904)) (some (v0++v)) none))):=by kernel_rfl
theorem F17_eq (v:Unit):F17 v=(Option.bind (F36 ()) (fun (v0:tya1)=>(Option.bind (F10 v0) (fun (v1:(ByteArray×Int))=>(Option.bind (F36 ()) (fun (v2:tya1)=>(Option.bind (F18 (ByteArray.mk #[4,1,2,5,3])) (fun (v3:(tya1×Int))=>(Option.bind (F37 (ByteArray.mk #[4,1,2,5,3])) (fun (v4:ByteArray)=>(cond ((ByteArray.toList v1.1)==(ByteArray.toList v4)) (cond ((((ByteArray.size v1.1):Nat):Int)==(9:Int)) (cond (v1.2==(0:Int)) (Option.bind (F11 (v2.1,v2.2.1,(1:Int),v2.2.2.2)) (fun (v5:Int)=>(cond (v5==(1:Int)) (some (cond (cond (cond (cond (cond (cond (cond (cond (cond (cond (cond (cond (cond (v3.2==(10:Int)) true false) true false) true false) true false) true false) true false) true false) true false) true false) true false) true false) true false) true false)) (some false)))) (some false)) (some false)) (some false)))))))))))):=by kernel_rfl
theorem F3_eq (v:(tya1×(tya1×ByteArray))):F3 v=(Option.bind (F9 v.1) (fun (v0:tya1)=>(Option.bind (F9 v.2.1) (fun (v1:tya1)=>(Option.bind (F10 v0) (fun (v2:(ByteArray×Int))=>(joinX (Option.bind (Option.bind (F11 v0) (fun (v3:Int)=>(Option.bind (F12 v0) (fun (v4:Bool)=>(cond (!((v3==(0:Int))==v4)) (some true) (Option.bind (F13 (v0,v1)) (fun (v5:Bool)=>(Option.bind (F14 (v0,v1)) (fun (v6:Bool)=>(cond (!(v5==v6)) (some true) (Option.bind (F15 v.2.2) (fun (v7:Bool)=>(Option.bind (F16 v.2.2) (fun (v8:Bool)=>(some (!(v7==v8))))))))))))))))) (fun (v9:Bool)=>(cond v9 (some (.inr false)) (some (.inl ()))))) (fun (v10:Unit)=>(Option.bind (F12 v0) (fun (v11:Bool)=>(cond (!v11) (cond ((ByteArray.toList v2.1)==(ByteArray.toList (ByteArray.mk #[]))) (cond (v2.2==(1:Int)) (Option.bind (F17 ()) (fun (v12:Bool)=>(some v12))) (some false)) (some false)) (Option.bind (F18 v2.1) (fun (v13:(tya1×Int))=>(Option.bind (F19 v0) (fun (v14:ByteArray)=>(cond ((ByteArray.toList v2.1)==(ByteArray.toList v14)) (cond (v2.2==(0:Int)) (Option.bind (F14 (v13.1,v0)) (fun (v15:Bool)=>(cond v15 (cond (v13.2==(0:Int)) (Option.bind (F17 ()) (fun (v16:Bool)=>(some v16))) (some false)) (some false)))) (some false)) (some false))))))))))))))))):=by kernel_rfl
theorem F18_eq (v:ByteArray):F18 v=(Option.bind (F38 v) (fun (v0:(ByteArray×Int))=>(cond (v0.2 != (0:Int)) (some (((0:Int),(0:Int),(0:Int),(0:Int),(0:Int),(0:Int),(0:Int),[],[],(0:Int),(0:Int),(0:Int),(ByteArray.mk #[]),(0:Int),false),v0.2)) (Option.bind (Option.bind (Option.bind (F85 (v0.1,(0:Int))) (fun (v1:(Int×(Int×Int)))=>(cond (v1.2.2 != (0:Int)) (some ((0:Int),v0.1,(0:Int),false)) (some (v1.1,v0.1,v1.2.1,true))))) (fun (v2:tya2)=>(cond (decide (v2.1 > (1048576:Int))) (some ((0:Int),v2.2.1,v2.2.2.1,false)) (some ((IntKind.wrap .i64 v2.1),v2.2))))) (fun (v3:tya2)=>(Option.bind (Option.bind (Option.bind (F85 (v3.2.1,v3.2.2.1)) (fun (v4:(Int×(Int×Int)))=>(cond (v4.2.2 != (0:Int)) (some ((0:Int),v3.2.1,v3.2.2.1,false)) (some (v4.1,v3.2.1,v4.2.1,v3.2.2.2))))) (fun (v5:tya2)=>(cond (decide (v5.1 > (1048576:Int))) (some ((0:Int),v5.2.1,v5.2.2.1,false)) (some ((IntKind.wrap .i64 v5.1),v5.2))))) (fun (v6:tya2)=>(Option.bind (Option.bind (Option.bind (F85 (v6.2.1,v6.2.2.1)) (fun (v7:(Int×(Int×Int)))=>(cond (v7.2.2 != (0:Int)) (some ((0:Int),v6.2.1,v6.2.2.1,false)) (some (v7.1,v6.2.1,v7.2.1,v6.2.2.2))))) (fun (v8:tya2)=>(cond (decide (v8.1 > (1048576:Int))) (some ((0:Int),v8.2.1,v8.2.2.1,false)) (some ((IntKind.wrap .i64 v8.1),v8.2))))) (fun (v9:tya2)=>(Option.bind (Option.bind (F24 v3.1) (fun (v10:(List ByteArray))=>(loopX (fun (v11:(Int×((ByteArray×(Int×Bool))×((Int×(Int×(Int×(Int×(Int×(Int×(Int×(Int×(Int×tya2)))))))))×((List (Int×(Int×Int)))×(List (Int×Int)))))))=>(cond (decide (v11.1 < ((v10.length:Nat):Int))) (cond (decide ((0:Int)≤v11.1)) (Option.bind v10[(Int.toNat v11.1)]? (fun (v12:ByteArray)=>(cond ((ByteArray.toList v12)==(ByteArray.toList (ByteArray.mk #[115,101,113]))) (Option.bind (Option.bind (F85 (v11.2.1.1,v11.2.1.2.1)) (fun (v13:(Int×(Int×Int)))=>(cond (v13.2.2 != (0:Int)) (some ((0:Int),v11.2.1.1,v11.2.1.2.1,false)) (some (v13.1,v11.2.1.1,v13.2.1,v11.2.1.2.2))))) (fun (v14:tya2)=>(cond (decide (v11.2.2.2.1.length=v11.2.2.2.1.length)) (cond (decide (v11.2.2.2.2.length=v11.2.2.2.2.length)) (some (.inl ((IntKind.wrap .i64 (v11.1+(1:Int))),v14.2,(v11.2.2.1.1,v11.2.2.1.2.1,v11.2.2.1.2.2.1,v14.1,v11.2.2.1.2.2.2.2),v11.2.2.2))) none) none))) (cond ((ByteArray.toList v12)==(ByteArray.toList (ByteArray.mk #[101,112,111,99,104]))) (Option.bind (Option.bind (F85 (v11.2.1.1,v11.2.1.2.1)) (fun (v15:(Int×(Int×Int)))=>(cond (v15.2.2 != (0:Int)) (some ((0:Int),v11.2.1.1,v11.2.1.2.1,false)) (some (v15.1,v11.2.1.1,v15.2.1,v11.2.1.2.2))))) (fun (v16:tya2)=>(cond (decide (v11.2.2.2.1.length=v11.2.2.2.1.length)) (cond (decide (v11.2.2.2.2.length=v11.2.2.2.2.length)) (some (.inl ((IntKind.wrap .i64 (v11.1+(1:Int))),v16.2,(v11.2.2.1.1,v11.2.2.1.2.1,v11.2.2.1.2.2.1,v11.2.2.1.2.2.2.1,v11.2.2.1.2.2.2.2.1,v11.2.2.1.2.2.2.2.2.1,v11.2.2.1.2.2.2.2.2.2.1,v16.1,v11.2.2.1.2.2.2.2.2.2.2.2),v11.2.2.2))) none) none))) (cond ((ByteArray.toList v12)==(ByteArray.toList (ByteArray.mk #[98,111,111,116]))) (Option.bind (Option.bind (F85 (v11.2.1.1,v11.2.1.2.1)) (fun (v17:(Int×(Int×Int)))=>(cond (v17.2.2 != (0:Int)) (some ((0:Int),v11.2.1.1,v11.2.1.2.1,false)) (some (v17.1,v11.2.1.1,v17.2.1,v11.2.1.2.2))))) (fun (v18:tya2)=>(cond (decide (v11.2.2.2.1.length=v11.2.2.2.1.length)) (cond (decide (v11.2.2.2.2.length=v11.2.2.2.2.length)) (some (.inl ((IntKind.wrap .i64 (v11.1+(1:Int))),v18.2,(v11.2.2.1.1,v11.2.2.1.2.1,v11.2.2.1.2.2.1,v11.2.2.1.2.2.2.1,v11.2.2.1.2.2.2.2.1,v11.2.2.1.2.2.2.2.2.1,v11.2.2.1.2.2.2.2.2.2.1,v11.2.2.1.2.2.2.2.2.2.2.1,v18.1,v11.2.2.1.2.2.2.2.2.2.2.2.2),v11.2.2.2))) none) none))) (cond ((ByteArray.toList v12)==(ByteArray.toList (ByteArray.mk #[116,111,107,101,110]))) (Option.bind (Option.bind (F85 (v11.2.1.1,v11.2.1.2.1)) (fun (v19:(Int×(Int×Int)))=>(cond (v19.2.2 != (0:Int)) (some ((0:Int),v11.2.1.1,v11.2.1.2.1,false)) (some (v19.1,v11.2.1.1,v19.2.1,v11.2.1.2.2))))) (fun (v20:tya2)=>(cond (decide (v11.2.2.2.1.length=v11.2.2.2.1.length)) (cond (decide (v11.2.2.2.2.length=v11.2.2.2.2.length)) (some (.inl ((IntKind.wrap .i64 (v11.1+(1:Int))),v20.2,(v11.2.2.1.1,v11.2.2.1.2.1,v11.2.2.1.2.2.1,v11.2.2.1.2.2.2.1,v11.2.2.1.2.2.2.2.1,v11.2.2.1.2.2.2.2.2.1,v11.2.2.1.2.2.2.2.2.2.1,v11.2.2.1.2.2.2.2.2.2.2.1,v11.2.2.1.2.2.2.2.2.2.2.2.1,v11.2.2.1.2.2.2.2.2.2.2.2.2.1,v11.2.2.1.2.2.2.2.2.2.2.2.2.2.1,v20.1,v11.2.2.1.2.2.2.2.2.2.2.2.2.2.2.2),v11.2.2.2))) none) none))) (cond ((ByteArray.toList v12)==(ByteArray.toList (ByteArray.mk #[119,104,111]))) (Option.bind (Option.bind (Option.bind (F85 (v11.2.1.1,v11.2.1.2.1)) (fun (v21:(Int×(Int×Int)))=>(cond (v21.2.2 != (0:Int)) (some ((0:Int),v11.2.1.1,v11.2.1.2.1,false)) (some (v21.1,v11.2.1.1,v21.2.1,v11.2.1.2.2))))) (fun (v22:tya2)=>(cond (decide (v22.1 > (1048576:Int))) (some ((0:Int),v22.2.1,v22.2.2.1,false)) (some ((IntKind.wrap .i64 v22.1),v22.2))))) (fun (v23:tya2)=>(cond (decide (v11.2.2.2.1.length=v11.2.2.2.1.length)) (cond (decide (v11.2.2.2.2.length=v11.2.2.2.2.length)) (some (.inl ((IntKind.wrap .i64 (v11.1+(1:Int))),v23.2,(v11.2.2.1.1,v11.2.2.1.2.1,v11.2.2.1.2.2.1,v11.2.2.1.2.2.2.1,v23.1,v11.2.2.1.2.2.2.2.2),v11.2.2.2))) none) none))) (cond ((ByteArray.toList v12)==(ByteArray.toList (ByteArray.mk #[107]))) (Option.bind (Option.bind (F85 (v11.2.1.1,v11.2.1.2.1)) (fun (v24:(Int×(Int×Int)))=>(cond (v24.2.2 != (0:Int)) (some ((0:Int),v11.2.1.1,v11.2.1.2.1,false)) (some (v24.1,v11.2.1.1,v24.2.1,v11.2.1.2.2))))) (fun (v25:tya2)=>(Option.bind (Option.bind (Option.bind (F85 (v25.2.1,v25.2.2.1)) (fun (v26:(Int×(Int×Int)))=>(cond (v26.2.2 != (0:Int)) (some ((0:Int),v25.2.1,v25.2.2.1,false)) (some (v26.1,v25.2.1,v26.2.1,v25.2.2.2))))) (fun (v27:tya2)=>(cond (decide (v27.1 > (1048576:Int))) (some ((0:Int),v27.2.1,v27.2.2.1,false)) (some ((IntKind.wrap .i64 v27.1),v27.2))))) (fun (v28:tya2)=>(cond (decide (v11.2.2.2.1.length=v11.2.2.2.1.length)) (cond (decide (v11.2.2.2.2.length=v11.2.2.2.2.length)) (some (.inl ((IntKind.wrap .i64 (v11.1+(1:Int))),v28.2,(v11.2.2.1.1,v11.2.2.1.2.1,v11.2.2.1.2.2.1,v11.2.2.1.2.2.2.1,v11.2.2.1.2.2.2.2.1,v25.1,v28.1,v11.2.2.1.2.2.2.2.2.2.2),v11.2.2.2))) none) none))))) (cond ((ByteArray.toList v12)==(ByteArray.toList (ByteArray.mk #[110,101,119,115]))) (Option.bind (Option.bind (Option.bind (Option.bind (F85 (v11.2.1.1,v11.2.1.2.1)) (fun (v29:(Int×(Int×Int)))=>(cond (v29.2.2 != (0:Int)) (some ((0:Int),v11.2.1.1,v11.2.1.2.1,false)) (some (v29.1,v11.2.1.1,v29.2.1,v11.2.1.2.2))))) (fun (v30:tya2)=>(cond (decide (v30.1 > (1048576:Int))) (some ((0:Int),v30.2.1,v30.2.2.1,false)) (some ((IntKind.wrap .i64 v30.1),v30.2))))) (fun (v31:tya2)=>(cond (decide (v31.1 > (8:Int))) (some ((0:Int),v31.2.1,v31.2.2.1,false)) (some v31)))) (fun (v32:tya2)=>(cond (decide (v11.2.2.2.1.length=v11.2.2.2.1.length)) (cond (decide (v11.2.2.2.2.length=v11.2.2.2.2.length)) (loopX (fun (v33:(Int×((ByteArray×(Int×Bool))×((Int×(Int×(Int×(Int×(Int×(Int×(Int×(Int×(Int×tya2)))))))))×(List (Int×(Int×Int)))))))=>(cond (decide (v33.1 < v32.1)) (Option.bind (Option.bind (Option.bind (F85 (v33.2.1.1,v33.2.1.2.1)) (fun (v34:(Int×(Int×Int)))=>(cond (v34.2.2 != (0:Int)) (some ((0:Int),v33.2.1.1,v33.2.1.2.1,false)) (some (v34.1,v33.2.1.1,v34.2.1,v33.2.1.2.2))))) (fun (v35:tya2)=>(cond (decide (v35.1 > (1048576:Int))) (some ((0:Int),v35.2.1,v35.2.2.1,false)) (some ((IntKind.wrap .i64 v35.1),v35.2))))) (fun (v36:tya2)=>(Option.bind (Option.bind (Option.bind (F85 (v36.2.1,v36.2.2.1)) (fun (v37:(Int×(Int×Int)))=>(cond (v37.2.2 != (0:Int)) (some ((0:Int),v36.2.1,v36.2.2.1,false)) (some (v37.1,v36.2.1,v37.2.1,v36.2.2.2))))) (fun (v38:tya2)=>(Option.bind (Option.bind (Option.bind (F85 (v38.2.1,v38.2.2.1)) (fun (v39:(Int×(Int×Int)))=>(cond (v39.2.2 != (0:Int)) (some ((0:Int),v38.2.1,v38.2.2.1,false)) (some (v39.1,v38.2.1,v39.2.1,v38.2.2.2))))) (fun (v40:tya2)=>(cond (decide (v40.1 > (1048576:Int))) (some ((0:Int),v40.2.1,v40.2.2.1,false)) (some ((IntKind.wrap .i64 v40.1),v40.2))))) (fun (v41:tya2)=>(some (v41.2,v38.1,v41.1)))))) (fun (v42:((ByteArray×(Int×Bool))×(Int×Int)))=>(cond ((decide ((0+v33.2.2.2.length)≤v33.2.2.2.length))&&((decide (((((v33.2.2.2.length+1):Nat):Int) * (24:Int))≤(70368744177664:Int)))&&(decide ((((v33.2.2.2.length+1):Nat):Int)≤(70368744177664:Int))))) (cond (decide (((0+v33.2.2.2.length)+1)≤v33.2.2.2.length)) (cond (decide ((v33.2.2.2.length+1)=(Append.append (Append.append (List.take (0+v33.2.2.2.length) v33.2.2.2) ((v36.1,v42.2)::[])) (List.drop ((0+v33.2.2.2.length)+1) v33.2.2.2)).length)) (cond (decide (v11.2.2.2.2.length=v11.2.2.2.2.length)) (some (.inl ((IntKind.wrap .i64 (v33.1+(1:Int))),v42.1,v33.2.2.1,(Append.append (Append.append (List.take (0+v33.2.2.2.length) v33.2.2.2) ((v36.1,v42.2)::[])) (List.drop ((0+v33.2.2.2.length)+1) v33.2.2.2))))) none) none) (cond (decide ((v33.2.2.2.length+1)=(Append.append (List.take v33.2.2.2.length v33.2.2.2) ((v36.1,v42.2)::[])).length)) (cond (decide (v11.2.2.2.2.length=v11.2.2.2.2.length)) (some (.inl ((IntKind.wrap .i64 (v33.1+(1:Int))),v42.1,v33.2.2.1,(Append.append (List.take v33.2.2.2.length v33.2.2.2) ((v36.1,v42.2)::[]))))) none) none)) none))))) (Option.map (Sum.inr) (cond (decide (v33.2.2.2.length=v33.2.2.2.length)) (cond (decide (v11.2.2.2.2.length=v11.2.2.2.2.length)) (some (.inl ((IntKind.wrap .i64 (v11.1+(1:Int))),v33.2.1,v33.2.2.1,v33.2.2.2,v11.2.2.2.2))) none) none)))) ((0:Int),v32.2,v11.2.2.1,v11.2.2.2.1)) none) none))) (cond ((ByteArray.toList v12)==(ByteArray.toList (ByteArray.mk #[116,97,98,108,101]))) (Option.bind (Option.bind (Option.bind (Option.bind (F85 (v11.2.1.1,v11.2.1.2.1)) (fun (v43:(Int×(Int×Int)))=>(cond (v43.2.2 != (0:Int)) (some ((0:Int),v11.2.1.1,v11.2.1.2.1,false)) (some (v43.1,v11.2.1.1,v43.2.1,v11.2.1.2.2))))) (fun (v44:tya2)=>(cond (decide (v44.1 > (1048576:Int))) (some ((0:Int),v44.2.1,v44.2.2.1,false)) (some ((IntKind.wrap .i64 v44.1),v44.2))))) (fun (v45:tya2)=>(cond (decide (v45.1 > (64:Int))) (some ((0:Int),v45.2.1,v45.2.2.1,false)) (some v45)))) (fun (v46:tya2)=>(cond (decide (v11.2.2.2.1.length=v11.2.2.2.1.length)) (cond (decide (v11.2.2.2.2.length=v11.2.2.2.2.length)) (loopX (fun (v47:(Int×((ByteArray×(Int×Bool))×((Int×(Int×(Int×(Int×(Int×(Int×(Int×(Int×(Int×tya2)))))))))×(List (Int×Int))))))=>(cond (decide (v47.1 < v46.1)) (Option.bind (Option.bind (Option.bind (F85 (v47.2.1.1,v47.2.1.2.1)) (fun (v48:(Int×(Int×Int)))=>(cond (v48.2.2 != (0:Int)) (some ((0:Int),v47.2.1.1,v47.2.1.2.1,false)) (some (v48.1,v47.2.1.1,v48.2.1,v47.2.1.2.2))))) (fun (v49:tya2)=>(Option.bind (Option.bind (Option.bind (F85 (v49.2.1,v49.2.2.1)) (fun (v50:(Int×(Int×Int)))=>(cond (v50.2.2 != (0:Int)) (some ((0:Int),v49.2.1,v49.2.2.1,false)) (some (v50.1,v49.2.1,v50.2.1,v49.2.2.2))))) (fun (v51:tya2)=>(cond (decide (v51.1 > (1048576:Int))) (some ((0:Int),v51.2.1,v51.2.2.1,false)) (some ((IntKind.wrap .i64 v51.1),v51.2))))) (fun (v52:tya2)=>(some (v52.2,v49.1,v52.1)))))) (fun (v53:((ByteArray×(Int×Bool))×(Int×Int)))=>(cond ((decide ((0+v47.2.2.2.length)≤v47.2.2.2.length))&&((decide (((((v47.2.2.2.length+1):Nat):Int) * (16:Int))≤(70368744177664:Int)))&&(decide ((((v47.2.2.2.length+1):Nat):Int)≤(70368744177664:Int))))) (cond (decide (((0+v47.2.2.2.length)+1)≤v47.2.2.2.length)) (cond (decide (v11.2.2.2.1.length=v11.2.2.2.1.length)) (cond (decide ((v47.2.2.2.length+1)=(Append.append (Append.append (List.take (0+v47.2.2.2.length) v47.2.2.2) (v53.2::[])) (List.drop ((0+v47.2.2.2.length)+1) v47.2.2.2)).length)) (some (.inl ((IntKind.wrap .i64 (v47.1+(1:Int))),v53.1,v47.2.2.1,(Append.append (Append.append (List.take (0+v47.2.2.2.length) v47.2.2.2) (v53.2::[])) (List.drop ((0+v47.2.2.2.length)+1) v47.2.2.2))))) none) none) (cond (decide (v11.2.2.2.1.length=v11.2.2.2.1.length)) (cond (decide ((v47.2.2.2.length+1)=(Append.append (List.take v47.2.2.2.length v47.2.2.2) (v53.2::[])).length)) (some (.inl ((IntKind.wrap .i64 (v47.1+(1:Int))),v53.1,v47.2.2.1,(Append.append (List.take v47.2.2.2.length v47.2.2.2) (v53.2::[]))))) none) none)) none))) (Option.map (Sum.inr) (cond (decide (v11.2.2.2.1.length=v11.2.2.2.1.length)) (cond (decide (v47.2.2.2.length=v47.2.2.2.length)) (some (.inl ((IntKind.wrap .i64 (v11.1+(1:Int))),v47.2.1,v47.2.2.1,v11.2.2.2.1,v47.2.2.2))) none) none)))) ((0:Int),v46.2,v11.2.2.1,v11.2.2.2.2)) none) none))) (cond ((ByteArray.toList v12)==(ByteArray.toList (ByteArray.mk #[97,115,107,101,100]))) (Option.bind (Option.bind (F85 (v11.2.1.1,v11.2.1.2.1)) (fun (v54:(Int×(Int×Int)))=>(cond (v54.2.2 != (0:Int)) (some ((0:Int),v11.2.1.1,v11.2.1.2.1,false)) (some (v54.1,v11.2.1.1,v54.2.1,v11.2.1.2.2))))) (fun (v55:tya2)=>(cond (decide (v11.2.2.2.1.length=v11.2.2.2.1.length)) (cond (decide (v11.2.2.2.2.length=v11.2.2.2.2.length)) (some (.inl ((IntKind.wrap .i64 (v11.1+(1:Int))),v55.2,(v11.2.2.1.1,v11.2.2.1.2.1,v11.2.2.1.2.2.1,v11.2.2.1.2.2.2.1,v11.2.2.1.2.2.2.2.1,v11.2.2.1.2.2.2.2.2.1,v11.2.2.1.2.2.2.2.2.2.1,v11.2.2.1.2.2.2.2.2.2.2.1,v11.2.2.1.2.2.2.2.2.2.2.2.1,(IntKind.wrap .i64 v55.1),v11.2.2.1.2.2.2.2.2.2.2.2.2.2),v11.2.2.2))) none) none))) (cond ((ByteArray.toList v12)==(ByteArray.toList (ByteArray.mk #[116,97,115,107]))) (Option.bind (Option.bind (F89 (v11.2.1.1,v11.2.1.2.1)) (fun (v56:(ByteArray×(Int×Int)))=>(cond (v56.2.2 != (0:Int)) (cond (decide (v11.2.2.2.1.length=v11.2.2.2.1.length)) (cond (decide (v11.2.2.2.2.length=v11.2.2.2.2.length)) (some ((v11.2.1.1,v11.2.1.2.1,false),v11.2.2.1)) none) none) (cond (decide (v11.2.2.2.1.length=v11.2.2.2.1.length)) (cond (decide (v11.2.2.2.2.length=v11.2.2.2.2.length)) (some ((v11.2.1.1,v56.2.1,v11.2.1.2.2),v11.2.2.1.1,v11.2.2.1.2.1,v11.2.2.1.2.2.1,v11.2.2.1.2.2.2.1,v11.2.2.1.2.2.2.2.1,v11.2.2.1.2.2.2.2.2.1,v11.2.2.1.2.2.2.2.2.2.1,v11.2.2.1.2.2.2.2.2.2.2.1,v11.2.2.1.2.2.2.2.2.2.2.2.1,v11.2.2.1.2.2.2.2.2.2.2.2.2.1,v56.1,v11.2.2.1.2.2.2.2.2.2.2.2.2.2.2)) none) none)))) (fun (v57:((ByteArray×(Int×Bool))×(Int×(Int×(Int×(Int×(Int×(Int×(Int×(Int×(Int×tya2)))))))))))=>(cond (decide (v11.2.2.2.1.length=v11.2.2.2.1.length)) (cond (decide (v11.2.2.2.2.length=v11.2.2.2.2.length)) (some (.inl ((IntKind.wrap .i64 (v11.1+(1:Int))),v57.1,v57.2,v11.2.2.2))) none) none))) (cond ((ByteArray.toList v12)==(ByteArray.toList (ByteArray.mk #[103,111,111,100]))) (Option.bind (Option.bind (Option.bind (Option.bind (F85 (v11.2.1.1,v11.2.1.2.1)) (fun (v58:(Int×(Int×Int)))=>(cond (v58.2.2 != (0:Int)) (some ((0:Int),v11.2.1.1,v11.2.1.2.1,false)) (some (v58.1,v11.2.1.1,v58.2.1,v11.2.1.2.2))))) (fun (v59:tya2)=>(cond (decide (v59.1 > (1048576:Int))) (some ((0:Int),v59.2.1,v59.2.2.1,false)) (some ((IntKind.wrap .i64 v59.1),v59.2))))) (fun (v60:tya2)=>(cond (decide (v60.1 > (1:Int))) (some ((0:Int),v60.2.1,v60.2.2.1,false)) (some v60)))) (fun (v61:tya2)=>(cond (decide (v11.2.2.2.1.length=v11.2.2.2.1.length)) (cond (decide (v11.2.2.2.2.length=v11.2.2.2.2.length)) (some (.inl ((IntKind.wrap .i64 (v11.1+(1:Int))),v61.2,(v11.2.2.1.1,v11.2.2.1.2.1,v11.2.2.1.2.2.1,v11.2.2.1.2.2.2.1,v11.2.2.1.2.2.2.2.1,v11.2.2.1.2.2.2.2.2.1,v11.2.2.1.2.2.2.2.2.2.1,v11.2.2.1.2.2.2.2.2.2.2.1,v11.2.2.1.2.2.2.2.2.2.2.2.1,v11.2.2.1.2.2.2.2.2.2.2.2.2.1,v11.2.2.1.2.2.2.2.2.2.2.2.2.2.1,v11.2.2.1.2.2.2.2.2.2.2.2.2.2.2.1,(v61.1==(1:Int))),v11.2.2.2))) none) none))) none))))))))))))) none) (Option.map (Sum.inr) (cond (decide (v11.2.2.2.1.length=v11.2.2.2.1.length)) (cond (decide (v11.2.2.2.2.length=v11.2.2.2.2.length)) (some v11.2) none) none)))) ((0:Int),v9.2,(v3.1,v6.1,v9.1,(0:Int),(0:Int),(0:Int),(0:Int),(0:Int),(0:Int),(0:Int),(ByteArray.mk #[]),(0:Int),false),[],[])))) (fun (v62:((ByteArray×(Int×Bool))×((Int×(Int×(Int×(Int×(Int×(Int×(Int×(Int×(Int×tya2)))))))))×((List (Int×(Int×Int)))×(List (Int×Int))))))=>(Option.bind (cond (!v62.1.2.2) (some true) (cond (v62.1.2.1 != (((ByteArray.size v0.1):Nat):Int)) (some true) (cond (decide ((0+v62.2.2.1.length)≤v62.2.2.1.length)) (cond (decide ((0+v62.2.2.2.length)≤v62.2.2.2.length)) (Option.bind (F11 (v62.2.1.1,v62.2.1.2.1,v62.2.1.2.2.1,v62.2.1.2.2.2.1,v62.2.1.2.2.2.2.1,v62.2.1.2.2.2.2.2.1,v62.2.1.2.2.2.2.2.2.1,(List.take v62.2.2.1.length v62.2.2.1),(List.take v62.2.2.2.length v62.2.2.2),v62.2.1.2.2.2.2.2.2.2)) (fun (v63:Int)=>(some (v63 != (0:Int))))) none) none))) (fun (v64:Bool)=>(cond v64 (some (((0:Int),(0:Int),(0:Int),(0:Int),(0:Int),(0:Int),(0:Int),[],[],(0:Int),(0:Int),(0:Int),(ByteArray.mk #[]),(0:Int),false),(2:Int))) (cond (decide ((0+v62.2.2.1.length)≤v62.2.2.1.length)) (cond (decide ((0+v62.2.2.2.length)≤v62.2.2.2.length)) (some ((v62.2.1.1,v62.2.1.2.1,v62.2.1.2.2.1,v62.2.1.2.2.2.1,v62.2.1.2.2.2.2.1,v62.2.1.2.2.2.2.2.1,v62.2.1.2.2.2.2.2.2.1,(List.take v62.2.2.1.length v62.2.2.1),(List.take v62.2.2.2.length v62.2.2.2),v62.2.1.2.2.2.2.2.2.2),(0:Int))) none) none))))))))))))))):=by kernel_rfl
end Go.Proofs.Ytgbcankkfmhcoaa.VL
end
section
namespace Go.Proofs.Ytgbcankkfmhcoaa.VL
open Go
set_option linter.unusedVariables false
set_option linter.unusedSectionVars false
set_option linter.unusedSimpArgs false
set_option maxRecDepth 100000
variable [Val]
theorem sz_ok {s:ByteArray} (h:s.size≤maxLen):s.size≤9223372036854775807:=Nat.le_trans h (by decide)
theorem F15_ok {s:ByteArray} (hs:s.size≤maxLen):F15 s=some (nmB s):=by
 rw [F15_eq,runes_loop]
 ·unfold nmB
  rw [toList_nil]
  cases (List.range s.size).all (fun i=>okB (s.get! i).toNat)
  ·rfl
  ·simp only [if_true,joinX_l,Bool.true_and]
   by_cases h0:s.size=0
   ·simp [h0]
   ·have e1:decide (1≤s.size)=true:=by rw [decide_eq_true_iff]; omega
    have e2:decide (((s.size:Nat):Int)≤20)=decide (s.size≤20):=by rw [Bool.eq_iff_iff,decide_eq_true_iff,decide_eq_true_iff]; omega
    simp only [h0,decide_false,Bool.not_false,cond_true,e1,e2,Bool.true_and]
 ·intro pos hp
  have:¬ pos < s.size:=by omega
  simp only [this,decide_false,cond_false]
 ·intro pos hp
  simp only [hp,decide_true,cond_true]
  exact rune_cond _ _ _
theorem F16_ok {s:ByteArray} (hs:s.size≤maxLen):F16 s=some (nmB s):=by
 rw [F16_eq,octets_loop (good:=Sum.inl ()) (bad:=Sum.inr false)]
 ·unfold nmB
  cases (List.range s.size).all (fun i=>okB (s.get! i).toNat)
  ·rfl
  ·simp only [if_true,joinX_l,Bool.true_and]
   have e1:decide ((1:Int)≤((s.size:Nat):Int))=decide (1≤s.size):=by rw [Bool.eq_iff_iff,decide_eq_true_iff,decide_eq_true_iff]; omega
   have e2:decide (((s.size:Nat):Int)≤20)=decide (s.size≤20):=by rw [Bool.eq_iff_iff,decide_eq_true_iff,decide_eq_true_iff]; omega
   rw [e1,e2]
   cases decide (1≤s.size)<;>rfl
 ·have:¬ (s.size:Int) < (s.size:Int):=by omega
  simp only [this,decide_false,cond_false]
 ·intro i hi
  have h1:(i:Int) < (s.size:Int):=by omega
  have h2:(0:Int)≤(i:Int):=by omega
  have hw:IntKind.wrap .i64 ((i:Int)+1)=((i+1:Nat):Int):=w1 (by have:=sz_ok hs; omega)
  simp only [h1,h2,decide_true,cond_true,ba_get hi,Option.bind_some,hw]
  rw [rune_cond]
  split<;>rfl
end Go.Proofs.Ytgbcankkfmhcoaa.VL
end
