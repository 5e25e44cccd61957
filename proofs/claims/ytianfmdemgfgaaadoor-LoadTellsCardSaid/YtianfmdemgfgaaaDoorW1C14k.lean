import Derived.Test.YtianfmdemgfgaaaDoorW1Yw
section
namespace Go.Proofs.YtianfmdemgfgaaaDoor.VL
open Go
set_option linter.unusedVariables false
set_option linter.unusedSectionVars false
set_option linter.unusedSimpArgs false
set_option maxRecDepth 100000
variable [Val]
theorem sz_ok {s:ByteArray} (h:s.size≤maxLen):s.size≤9223372036854775807:=Nat.le_trans h (by decide)
theorem F39_ok {s:ByteArray} (hs:s.size≤maxLen):F39 s=some (nmB s):=by
 rw [F39_eq,runes_loop]
 ·unfold nmB
  rw [toList_nil]
  cases (List.range s.size).all (fun i=>okB (s.get! i).toNat)
  ·rfl
  ·simp only [if_true,joinX_l,Bool.true_and]
   by_cases h0:s.size=0
   ·simp [h0]
   ·have e1:decide (1≤s.size)=true:=by rw [decide_eq_true_iff]; omega
    have e2:decide (((s.size:Nat):Int)≤20)=decide (s.size≤20):=by rw [Bool.eq_iff_iff,decide_eq_true_iff,decide_eq_true_iff]; omega
    simp only [h0,decide_false,Bool.not_false,cond_true,e1,e2,Bool.true_and]
 ·intro pos hp
  have:¬ pos < s.size:=by omega
  simp only [this,decide_false,cond_false]
 ·intro pos hp
  simp only [hp,decide_true,cond_true]
  exact rune_cond _ _ _
theorem F40_ok {s:ByteArray} (hs:s.size≤maxLen):F40 s=some (nmB s):=by
 rw [F40_eq,octets_loop (good:=Sum.inl ()) (bad:=Sum.inr false)]
 ·unfold nmB
  cases (List.range s.size).all (fun i=>okB (s.get! i).toNat)
  ·rfl
  ·simp only [if_true,joinX_l,Bool.true_and]
   have e1:decide ((1:Int)≤((s.size:Nat):Int))=decide (1≤s.size):=by rw [Bool.eq_iff_iff,decide_eq_true_iff,decide_eq_true_iff]; omega
   have e2:decide (((s.size:Nat):Int)≤20)=decide (s.size≤20):=by rw [Bool.eq_iff_iff,decide_eq_true_iff,decide_eq_true_iff]; omega
   rw [e1,e2]
   cases decide (1≤s.size)<;>rfl
 ·have:¬ (s.size:Int) < (s.size:Int):=by omega
  simp only [this,decide_false,cond_false]
 ·intro i hi
  have h1:(i:Int) < (s.size:Int):=by omega
  have h2:(0:Int)≤(i:Int):=by omega
  have hw:IntKind.wrap .i64 ((i:Int)+1)=((i+1:Nat):Int):=w1 (by have:=sz_ok hs; omega)
  simp only [h1,h2,decide_true,cond_true,ba_get hi,Option.bind_some,hw]
  rw [rune_cond]
  split<;>rfl
def bndN (t n:Nat):Nat:=(5 * t+4 * n - 1) / (4 * n)
theorem F13_ok {t n:Int}:F13 (t,n)=some (if (0≤t∧t≤100)∧1≤n∧n≤64 then (((bndN t.toNat n.toNat:Nat):Int),0) else (0,1)):=by
 rw [F13_eq]
 by_cases h1:t < 0
 ·rw [if_neg (by omega)]
  simp -implicitDefEqProofs only [h1,eq_self,xs]
 by_cases h2:t > 100
 ·rw [if_neg (by omega)]
  simp -implicitDefEqProofs only [h1,h2,eq_self,xs]
 by_cases h3:n < 1
 ·rw [if_neg (by omega)]
  simp -implicitDefEqProofs only [h1,h2,h3,eq_self,xs]
 by_cases h4:n > 64
 ·rw [if_neg (by omega)]
  simp -implicitDefEqProofs only [h1,h2,h3,h4,eq_self,xs]
 rw [if_pos (by omega)]
 obtain ⟨a,rfl⟩:∃ a:Nat,t=a:=⟨t.toNat,by omega⟩
 obtain ⟨b,rfl⟩:∃ b:Nat,n=b:=⟨n.toNat,by omega⟩
 have e1:IntKind.wrap .i64 (4 * ((b:Nat):Int))=((4 * b:Nat):Int):=by rw [wi (by omega) (by omega)]; omega
 have e2:IntKind.wrap .i64 (5 * ((a:Nat):Int))=((5 * a:Nat):Int):=by rw [wi (by omega) (by omega)]; omega
 have e3:IntKind.wrap .i64 (((5 * a:Nat):Int)+((4 * b:Nat):Int))=((5 * a+4 * b:Nat):Int):=by rw [wi (by omega) (by omega)]; omega
 have e4:IntKind.wrap .i64 (((5 * a+4 * b:Nat):Int) - 1)=((5 * a+4 * b - 1:Nat):Int):=by rw [wi (by omega) (by omega)]; omega
 have e5:¬ ((4 * b:Nat):Int)=0:=by omega
 have hd:(5 * a+4 * b - 1) / (4 * b)≤5 * a+4 * b - 1:=Nat.div_le_self _ _
 have e6:IntKind.wrap .i64 (Int.tdiv ((5 * a+4 * b - 1:Nat):Int) ((4 * b:Nat):Int))=((bndN a b:Nat):Int):=by
  rw [Int.tdiv_eq_ediv_of_nonneg (by omega),← Int.natCast_ediv]
  unfold bndN
  generalize (5 * a+4 * b - 1) / (4 * b)=D at *
  exact wi (by omega) (by omega)
 simp -implicitDefEqProofs only [h1,h2,h3,h4,e1,e2,e3,e4,e5,e6,eq_self,xs]
theorem bndN_ge {t n:Nat} (hn:1≤n):5 * t≤4 * n * bndN t n:=by
 unfold bndN
 have:=Nat.div_add_mod (5 * t+4 * n - 1) (4 * n)
 have:=Nat.mod_lt (5 * t+4 * n - 1) (show 4 * n > 0 by omega)
 omega
theorem bndN_le {k t n:Nat} (hn:1≤n) (h:5 * t≤4 * n * k):bndN t n≤k:=by
 unfold bndN
 rw [Nat.div_le_iff_le_mul (by omega)]
 have e:4 * n * k=k * (4 * n):=Nat.mul_comm _ _
 omega
theorem F21_ok {t n:Nat} (ht:t≤100) (hn:1≤n∧n≤64):F21 (((t:Nat):Int),((n:Nat):Int))=some ((bndN t n:Nat):Int):=by
 rw [F21_eq]
 have e1:IntKind.wrap .i64 (4 * ((n:Nat):Int))=((4 * n:Nat):Int):=by rw [wi (by omega) (by omega)]; omega
 have e2:IntKind.wrap .i64 (5 * ((t:Nat):Int))=((5 * t:Nat):Int):=by rw [wi (by omega) (by omega)]; omega
 have hk:bndN t n≤125:=bndN_le hn.1 (by
  have:4 * n * 125=500 * n:=by omega
  omega)
 simp only [e1,e2]
 refine loop_detE (s0:=(0:Int)) (bndN t n) (fun i=>((i:Nat):Int)) _ rfl ?_ ?_
 ·have h:=bndN_ge (t:=t) hn.1
  have e:IntKind.wrap .i64 (((4 * n:Nat):Int) * ((bndN t n:Nat):Int))=((4 * n * bndN t n:Nat):Int):=by
   rw [← Int.natCast_mul]
   have:4 * n * bndN t n≤256 * 125:=Nat.mul_le_mul (by omega) hk
   exact wi (by omega) (by omega)
  have q:¬ ((4 * n * bndN t n:Nat):Int) < ((5 * t:Nat):Int):=by omega
  simp -implicitDefEqProofs only [e,q,eq_self,xs]
 ·intro i hi
  have e:IntKind.wrap .i64 (((4 * n:Nat):Int) * ((i:Nat):Int))=((4 * n * i:Nat):Int):=by
   rw [← Int.natCast_mul]
   have:4 * n * i≤256 * 125:=Nat.mul_le_mul (by omega) (by omega)
   exact wi (by omega) (by omega)
  have q:((4 * n * i:Nat):Int) < ((5 * t:Nat):Int):=by
   rcases Nat.lt_or_ge (4 * n * i) (5 * t) with h | h
   ·omega
   ·exact absurd (bndN_le hn.1 h) (by omega)
  simp -implicitDefEqProofs only [e,q,w1 (show i≤9223372036854775806 by omega),eq_self,xs]
def tskP (l:List ByteArray):Prop:=l.length≤100∧(∀ s ∈ l,nmB s=true)∧l.Pairwise (fun a b=>ltN a b=true)
def tskA (l:List ByteArray) (i:Nat):Bool:=match l[i]? with
 | some p=>nmB p&&(decide (i=0) || (match l[i - 1]? with | some q=>ltN q p | none=>false))
 | none=>true
theorem ltN_trans {a b c:ByteArray} (h:ltN a b=true) (k:ltN b c=true):ltN a c=true:=bl_trans h k
theorem tskA_iff {l:List ByteArray}:(List.range l.length).all (tskA l)=true ↔ (∀ s ∈ l,nmB s=true)∧l.Pairwise (fun a b=>ltN a b=true):=by
 rw [List.all_eq_true]
 have h':(∀ i ∈ List.range l.length,tskA l i=true) ↔ ∀ (i:Nat) (hi:i < l.length),nmB l[i]=true∧(i=0∨ltN (l[i - 1]'(by omega)) l[i]=true):=by
  constructor
  ·intro h i hi
   have:=h i (List.mem_range.2 hi)
   unfold tskA at this
   rw [List.getElem?_eq_getElem hi,List.getElem?_eq_getElem (show i - 1 < l.length by omega)] at this
   simpa only [Bool.and_eq_true,Bool.or_eq_true,decide_eq_true_iff] using this
  ·intro h i hi
   have hi:=List.mem_range.1 hi
   have:=h i hi
   unfold tskA
   rw [List.getElem?_eq_getElem hi,List.getElem?_eq_getElem (show i - 1 < l.length by omega)]
   simpa only [Bool.and_eq_true,Bool.or_eq_true,decide_eq_true_iff] using this
 rw [h']
 constructor
 ·intro h
  refine ⟨fun p hp=>?_,?_⟩
  ·obtain ⟨i,hi,rfl⟩:=List.getElem_of_mem hp
   exact (h i hi).1
  ·refine (pw_adj (R:=fun a b=>ltN a b=true) (fun a b c=>ltN_trans)).1 fun i hi=>?_
   rcases (h (i+1) hi).2 with q | q
   ·omega
   ·exact q
 ·rintro ⟨h1,h2⟩ i hi
  refine ⟨h1 _ (List.getElem_mem hi),?_⟩
  by_cases h0:i=0
  ·exact .inl h0
  ·right
   have:=(pw_adj (R:=fun a b=>ltN a b=true) (fun a b c=>ltN_trans)).2 h2 (i - 1) (by omega)
   have e:i - 1+1=i:=by omega
   simpa only [e] using this
theorem tskA_bad {l:List ByteArray} {i:Nat} (hi:i < l.length) (h:nmB l[i]=false):tskA l i=false:=by unfold tskA; rw [List.getElem?_eq_getElem hi]; simp only [h,Bool.false_and]
theorem tskA_0 {l:List ByteArray} (hi:0 < l.length) (h:nmB l[0]=true):tskA l 0=true:=by unfold tskA; rw [List.getElem?_eq_getElem hi]; simp only [h,decide_true,Bool.true_or,Bool.and_self]
theorem tskA_s {l:List ByteArray} {k:Nat} (hi:k+1 < l.length) (h:nmB l[k+1]=true):tskA l (k+1)=ltN l[k] l[k+1]:=by
 unfold tskA
 rw [List.getElem?_eq_getElem hi]
 have e1:decide (k+1=0)=false:=decide_eq_false (by omega)
 have e2:k+1 - 1=k:=rfl
 simp only [h,e1,e2,List.getElem?_eq_getElem (show k < l.length by omega),Bool.false_or,Bool.true_and]
theorem bl_le (a b:ByteArray):(Op.bytesLess a.toList b.toList || (a.toList==b.toList))=!Op.bytesLess b.toList a.toList:=by
 rcases tri a b with h | h | h
 ·have h':Op.bytesLess a.toList b.toList=true:=h
  rw [h',bl_asymm h']; rfl
 ·subst h
  rw [bl_irrefl]; simp
 ·have h':Op.bytesLess b.toList a.toList=true:=h
  have e:(a.toList==b.toList)=false:=by
   rw [beq_eq_false_iff_ne]
   intro e
   rw [e,bl_irrefl] at h'
   cases h'
  rw [h',bl_asymm h',e]; rfl
open Classical in
theorem F25_ok {l:List ByteArray} (hs:∀ s ∈ l,s.size≤maxLen):F25 l=some (if tskP l then 0 else 1):=by
 rw [F25_eq]
 by_cases hlen:l.length≤100
 ·have q0:¬ ((l.length:Nat):Int) > 100:=by omega
  rw [decide_eq_false q0,cond_false]
  rw [loop_all (n:=l.length) (tskA l) (1:Int) 0]
  ·congr 1
   by_cases h:(List.range l.length).all (tskA l)=true
   ·rw [if_pos h,if_pos ⟨hlen,tskA_iff.1 h⟩]
   ·rw [if_neg h,if_neg (fun q=>h (tskA_iff.2 q.2))]
  ·have q:¬ ((l.length:Nat):Int) < ((l.length:Nat):Int):=by omega
   simp -implicitDefEqProofs only [q,eq_self,xs]
  ·intro i hi _
   have q1:((i:Nat):Int) < ((l.length:Nat):Int):=by omega
   have q2:(0:Int)≤(i:Int):=by omega
   have g:=List.getElem?_eq_getElem hi
   have f:=F39_ok (hs _ (List.getElem_mem hi))
   cases hn:nmB l[i]
   ·rw [tskA_bad hi hn]
    rw [hn] at f
    simp -implicitDefEqProofs only [q1,q2,g,f,eq_self,xs]
   ·rw [hn] at f
    by_cases hi0:i=0
    ·subst hi0
     rw [tskA_0 hi hn]
     have q3:¬ ((0:Nat):Int) > 0:=by omega
     simp -implicitDefEqProofs only [q1,q2,q3,g,f,w1 (show 0≤9223372036854775806 by omega),eq_self,xs]
    ·obtain ⟨k,rfl⟩:∃ k,i=k+1:=⟨i - 1,by omega⟩
     have gk:=List.getElem?_eq_getElem (show k < l.length by omega)
     rw [tskA_s hi hn]
     have q3:((k+1:Nat):Int) > 0:=by omega
     have ww:IntKind.wrap .i64 (((k+1:Nat):Int) - 1)=((k:Nat):Int):=by rw [wi (by omega) (by omega)]; omega
     have q4:(0:Int)≤(k:Int):=by omega
     have t:Int.toNat ((k+1:Nat):Int)=k+1:=Int.toNat_natCast _
     have ww2:=w1 (show k+1≤9223372036854775806 by omega)
     have c:Op.bytesLess l[k].toList l[k+1].toList=ltN l[k] l[k+1]:=rfl
     cases hc:ltN l[k] l[k+1]
     ·rw [hc] at c
      simp -implicitDefEqProofs only [q1,q2,q3,q4,ww,t,g,gk,f,c,eq_self,xs]
     ·rw [hc] at c
      simp -implicitDefEqProofs only [q1,q2,q3,q4,ww,t,g,gk,f,c,ww2,eq_self,xs]
 ·have q0:((l.length:Nat):Int) > 100:=by omega
  rw [decide_eq_true q0,cond_true,if_neg (fun h=>hlen h.1)]
open Classical in
theorem F26_ok {l:List ByteArray} (hl:l.length≤9223372036854775806) (hs:∀ s ∈ l,s.size≤maxLen):F26 l=some (decide (tskP l)):=by
 rw [F26_eq]
 rw [loop_all (n:=l.length) (tskA l) false (decide (l.length≤100))]
 ·congr 1
  by_cases h:(List.range l.length).all (tskA l)=true
  ·rw [if_pos h]
   have:=tskA_iff.1 h
   rw [Bool.eq_iff_iff,decide_eq_true_iff,decide_eq_true_iff]
   exact ⟨fun a=>⟨a,this⟩,fun a=>a.1⟩
  ·rw [if_neg h]
   exact (decide_eq_false (fun q=>h (tskA_iff.2 q.2))).symm
 ·have q:¬ ((l.length:Nat):Int) < ((l.length:Nat):Int):=by omega
  have e:decide (((l.length:Nat):Int)≤100)=decide (l.length≤100):=by rw [Bool.eq_iff_iff,decide_eq_true_iff,decide_eq_true_iff]; omega
  simp -implicitDefEqProofs only [q,e,eq_self,xs]
 ·intro i hi _
  have q1:((i:Nat):Int) < ((l.length:Nat):Int):=by omega
  have q2:(0:Int)≤(i:Int):=by omega
  have g:=List.getElem?_eq_getElem hi
  have f:=F40_ok (hs _ (List.getElem_mem hi))
  cases hn:nmB l[i]
  ·rw [tskA_bad hi hn]
   rw [hn] at f
   simp -implicitDefEqProofs only [q1,q2,g,f,eq_self,xs]
  ·rw [hn] at f
   by_cases hi0:i=0
   ·subst hi0
    rw [tskA_0 hi hn]
    have q3:¬ ((0:Nat):Int) > 0:=by omega
    simp -implicitDefEqProofs only [q1,q2,q3,g,f,w1 (show 0≤9223372036854775806 by omega),eq_self,xs]
   ·obtain ⟨k,rfl⟩:∃ k,i=k+1:=⟨i - 1,by omega⟩
    have gk:=List.getElem?_eq_getElem (show k < l.length by omega)
    rw [tskA_s hi hn]
    have q3:((k+1:Nat):Int) > 0:=by omega
    have ww:IntKind.wrap .i64 (((k+1:Nat):Int) - 1)=((k:Nat):Int):=by rw [wi (by omega) (by omega)]; omega
    have q4:(0:Int)≤(k:Int):=by omega
    have t:Int.toNat ((k+1:Nat):Int)=k+1:=Int.toNat_natCast _
    have ww2:=w1 (show k+1≤9223372036854775806 by omega)
    have c:=bl_le l[k+1] l[k]
    have c2:Op.bytesLess l[k].toList l[k+1].toList=ltN l[k] l[k+1]:=rfl
    cases hc:ltN l[k] l[k+1]
    ·rw [c2,hc] at c
     simp -implicitDefEqProofs only [q1,q2,q3,q4,ww,t,g,gk,f,c,eq_self,xs]
    ·rw [c2,hc] at c
     simp -implicitDefEqProofs only [q1,q2,q3,q4,ww,t,g,gk,f,c,ww2,eq_self,xs]
theorem nmB_size {s:ByteArray} (h:nmB s=true):s.size≤20:=by
 unfold nmB at h
 simp only [Bool.and_eq_true,decide_eq_true_iff] at h
 exact h.2.2
theorem tskP.size {l:List ByteArray} (h:tskP l):∀ s ∈ l,s.size≤20:=fun s hs=>nmB_size (h.2.1 s hs)
abbrev PU:=ByteArray×Int
def cntN (l:List PU) (n:Int):Nat:=l.countP (fun p=>p.2==n)
theorem cntN_snoc (l:List PU) (p:PU) (n:Int):cntN (l++[p]) n=cntN l n+(if p.2=n then 1 else 0):=by
 unfold cntN
 rw [List.countP_append,List.countP_singleton]
 by_cases h:p.2=n
 ·simp [h]
 ·simp [h]
theorem cntN_le (l:List PU) (n:Int):cntN l n≤l.length:=List.countP_le_length
theorem F16_ok {l:List PU} (n:Int) (hl:l.length≤9223372036854775806):F16 (l,n)=some ((cntN l n:Nat):Int):=by
 rw [F16_eq]
 refine loop_detE (s0:=((0:Int),(0:Int))) l.length (fun i=>(((cntN (l.take i) n:Nat):Int),((i:Nat):Int))) _ rfl ?_ ?_
 ·have q:¬ ((l.length:Nat):Int) < ((l.length:Nat):Int):=by omega
  simp -implicitDefEqProofs only [q,eq_self,xs]
 ·intro i hi
  have q1:((i:Nat):Int) < ((l.length:Nat):Int):=by omega
  have q2:(0:Int)≤(i:Int):=by omega
  have g:=List.getElem?_eq_getElem hi
  have e:=cntN_snoc (l.take i) l[i] n
  rw [← List.take_succ_eq_append_getElem hi] at e
  have hc:=cntN_le (l.take i) n
  rw [List.length_take] at hc
  rw [e]
  by_cases h:l[i].2=n
  ·have b:(l[i].2==n)=true:=beq_iff_eq.2 h
   rw [if_pos h]
   simp -implicitDefEqProofs only [q1,q2,g,b,w1 (show i≤9223372036854775806 by omega),w1 (show cntN (l.take i) n≤9223372036854775806 by omega),eq_self,xs]
  ·have b:(l[i].2==n)=false:=beq_eq_false_iff_ne.2 h
   rw [if_neg h]
   simp -implicitDefEqProofs only [q1,q2,g,b,w1 (show i≤9223372036854775806 by omega),eq_self,xs]
theorem F17_ok {a b:List PU} (ha:a.length≤9223372036854775806):F17 (a,b)=some (decide (a=b)):=by
 rw [F17_eq]
 by_cases hl:a.length=b.length
 ·have e:(((a.length:Nat):Int) != ((b.length:Nat):Int))=false:=by rw [hl]; exact bne_self_eq_false _
  simp -implicitDefEqProofs only [e,eq_self,xs]
  refine loop_same a b hl rfl ?_ ?_
  ·simp -implicitDefEqProofs only [not_lt_self,eq_self,xs]
  ·intro i x y hi hx hy
   have q1:((i:Nat):Int) < ((a.length:Nat):Int):=by omega
   have q2:(0:Int)≤(i:Int):=by omega
   obtain ⟨x1,x2⟩:=x
   obtain ⟨y1,y2⟩:=y
   by_cases h1:x1=y1
   ·by_cases h2:x2=y2
    ·subst h1 h2
     have b1:(x1.toList==x1.toList)=true:=beq_self_eq_true _
     have b2:(x2==x2)=true:=beq_self_eq_true _
     simp -implicitDefEqProofs only [q1,q2,hx,hy,b1,b2,w1 (show i≤9223372036854775806 by omega),eq_self,xs]
    ·have b2:(x2==y2)=false:=beq_eq_false_iff_ne.2 h2
     rw [if_neg (fun h=>h2 (congrArg Prod.snd h))]
     simp -implicitDefEqProofs only [q1,q2,hx,hy,b2,eq_self,xs]
   ·have b1:(x1.toList==y1.toList)=false:=beq_eq_false_iff_ne.2 (fun h=>h1 (toList_inj h))
    rw [if_neg (fun h=>h1 (congrArg Prod.fst h))]
    simp -implicitDefEqProofs only [q1,q2,hx,hy,b1,eq_self,xs]
 ·have e:(((a.length:Nat):Int) != ((b.length:Nat):Int))=true:=by rw [bne_iff_ne]; omega
  simp -implicitDefEqProofs only [e,eq_self,xs]
  rw [decide_eq_false (fun h=>hl (by rw [h]))]
theorem F19_ok (l:List ByteArray):∃ t:List ByteArray,F19 l=some t∧t.length≤101∧∀ s ∈ t,s.size≤21:=by
 rw [F19_eq]
 refine loop_ex (fun x:Int×List ByteArray=>∃ (i:Nat) (t:List ByteArray),x=(((i:Nat):Int),t)∧i≤l.length∧i≤101∧t.length=i∧∀ s ∈ t,s.size≤21) (fun x=>101 - x.1.toNat) _ ?_ _ ⟨0,[],rfl,by omega,by omega,rfl,by simp⟩
 rintro _ ⟨i,t,rfl,h1,h2,h3,h4⟩
 by_cases hi:i < l.length
 ·have q1:((i:Nat):Int) < ((l.length:Nat):Int):=by omega
  by_cases h:i < 101
  ·right
   have q2:((i:Nat):Int) < 101:=by omega
   have q3:(0:Int)≤(i:Int):=by omega
   have g:=List.getElem?_eq_getElem hi
   generalize l[i]=s at *
   obtain ⟨s',hs,hc⟩:∃ s':ByteArray,s'.size≤21∧(cond (decide (((s.size:Nat):Int) > 21)) (cond (decide ((21:Int)≤((s.size:Nat):Int))) (some (s.extract 0 21)) none) (some s))=some s':=by
    by_cases hq:((s.size:Nat):Int) > 21
    ·have hq2:(21:Int)≤((s.size:Nat):Int):=by omega
     exact ⟨s.extract 0 21,by rw [ByteArray.size_extract]; omega,by simp -implicitDefEqProofs only [hq,hq2,eq_self,xs]⟩
    ·exact ⟨s,by omega,by simp -implicitDefEqProofs only [hq,eq_self,xs]⟩
   have p1:((t.length+1:Nat):Int) * 16≤70368744177664:=by omega
   have p2:((t.length+1:Nat):Int)≤70368744177664:=by omega
   refine ⟨(((i+1:Nat):Int),t++[s']),?_,⟨i+1,_,rfl,by omega,by omega,by rw [List.length_append,h3]; rfl,fun x hx=>?_⟩,by simp only [Int.toNat_natCast]; omega⟩
   ·simp -implicitDefEqProofs only [q1,q2,q3,g,p1,p2,w1 (show i≤9223372036854775806 by omega),eq_self,xs]
    simp only [hc,Option.bind_some]
   ·rcases List.mem_append.1 hx with hx | hx
    ·exact h4 x hx
    ·rw [List.mem_singleton] at hx; subst hx; exact hs
  ·left
   have q2:¬ ((i:Nat):Int) < 101:=by omega
   exact ⟨t,by simp -implicitDefEqProofs only [q1,q2,eq_self,xs],by omega,h4⟩
 ·left
  have q1:¬ ((i:Nat):Int) < ((l.length:Nat):Int):=by omega
  exact ⟨t,by simp -implicitDefEqProofs only [q1,eq_self,xs],by omega,h4⟩
end Go.Proofs.YtianfmdemgfgaaaDoor.VL
end
section
namespace Go.Proofs.YtianfmdemgfgaaaDoor.VL
open Go
set_option linter.unusedVariables false
set_option linter.unusedSectionVars false
set_option linter.unusedSimpArgs false
set_option maxRecDepth 100000
variable [Val]
theorem mget_mput {k:IntKind} {vt:TT} (x y:Int) (v:vt.den):∀ l:List (Int×vt.den),mget (kt:=.i k) (vt:=vt) x (mput (kt:=.i k) (vt:=vt) y v l)=if x=y then some v else mget (kt:=.i k) (vt:=vt) x l
 | []=>by
  show cond (x==y) (some v) none=_
  by_cases h:x=y
  ·subst h; simp
  ·rw [if_neg h]
   have:(x==y)=false:=by rw [beq_eq_false_iff_ne]; exact h
   rw [this]; rfl
 | p::r=>by
  have e1:mput (kt:=.i k) (vt:=vt) y v (p::r)=cond (y==p.1) ((y,v)::r) (p::mput (kt:=.i k) (vt:=vt) y v r):=rfl
  have e2:∀ q r',mget (kt:=.i k) (vt:=vt) x (q::r')=cond (x==q.1) (some q.2) (mget (kt:=.i k) (vt:=vt) x r'):=fun q r'=>rfl
  rw [e1]
  by_cases hy:y=p.1
  ·have:(y==p.1)=true:=by rw [beq_iff_eq]; exact hy
   rw [this,cond_true,e2,e2]
   by_cases h:x=y
   ·subst h; simp
   ·rw [if_neg h]
    have h1:(x==y)=false:=by rw [beq_eq_false_iff_ne]; exact h
    have h2:(x==p.1)=false:=by rw [beq_eq_false_iff_ne,← hy]; exact h
    rw [h1,h2]; rfl
  ·have:(y==p.1)=false:=by rw [beq_eq_false_iff_ne]; exact hy
   rw [this,cond_false,e2,e2,mget_mput x y v r]
   by_cases h:x=y
   ·subst h
    rw [if_pos rfl,if_pos rfl]
    show cond (x==p.1) _ _=_
    rw [this,cond_false]
   ·rw [if_neg h,if_neg h]
def okL (l:List PU):Prop:=(∀ p ∈ l,0≤p.2∧p.2 < 64)∧tskP (l.map Prod.fst)
theorem rng_all {l:List PU}:(List.range l.length).all (fun i=>match l[i]? with | some p=>rngB p.2 | none=>true)=true ↔ ∀ p ∈ l,0≤p.2∧p.2 < 64:=by
 rw [List.all_eq_true]
 constructor
 ·intro h p hp
  obtain ⟨i,hi,rfl⟩:=List.getElem_of_mem hp
  have:=h i (List.mem_range.2 hi)
  rw [List.getElem?_eq_getElem hi] at this
  exact rngB_iff.1 this
 ·intro h i hi
  have hi:=List.mem_range.1 hi
  rw [List.getElem?_eq_getElem hi]
  exact rngB_iff.2 (h _ (List.getElem_mem hi))
theorem snoc_fst {l:List PU} {i:Nat} (hi:i < l.length):(l.take (i+1)).map Prod.fst=(l.take i).map Prod.fst++[l[i].1]:=by
 rw [List.take_succ_eq_append_getElem hi,List.map_append]; rfl
theorem sz_map {l:List PU} (hs:∀ p ∈ l,p.1.size≤maxLen):∀ s ∈ l.map Prod.fst,s.size≤maxLen:=by
 intro s h
 obtain ⟨p,hp,rfl⟩:=List.mem_map.1 h
 exact hs p hp
noncomputable def F24f (l:List PU):Int×List ByteArray→Option ((Int×List ByteArray) ⊕ Int):=(fun (v0:(Int×(List ByteArray)))=>(cond (decide (v0.1 < ((l.length:Nat):Int))) (joinX (cond (decide ((0:Int)≤v0.1)) (Option.bind l[(Int.toNat v0.1)]? (fun (v1:(ByteArray×Int))=>(joinX (Option.bind (cond (decide (v1.2 < (0:Int))) (some true) (some (decide (v1.2 ≥ (64:Int))))) (fun (v2:Bool)=>(cond v2 (some (.inr (.inr (.inr (1:Int))))) (some (.inl ()))))) (fun (v3:Unit)=>(cond ((decide (v0.2.length=v0.2.length))&&((decide (((((v0.2.length+1):Nat):Int) * (16:Int))≤(70368744177664:Int)))&&(decide ((((v0.2.length+1):Nat):Int)≤(70368744177664:Int))))) (cond (decide ((v0.2.length+1)=(Append.append v0.2 (v1.1::[])).length)) (some (.inl (Append.append v0.2 (v1.1::[])))) none) none))))) none) (fun (v4:(List ByteArray))=>(cond (decide (v4.length=v4.length)) (some (.inl ((IntKind.wrap IntKind.i64 (v0.1+(1:Int))),v4))) none))) (Option.map (Sum.inr) (cond (decide ((0+v0.2.length)≤v0.2.length)) (Option.bind (F25 (List.take v0.2.length v0.2)) (fun (v5:Int)=>(some v5))) none))))
noncomputable def F23f (l:List PU):Int×List ByteArray→Option ((Int×List ByteArray) ⊕ Bool):=(fun (v0:(Int×(List ByteArray)))=>(cond (decide (v0.1 < ((l.length:Nat):Int))) (joinX (joinX (Option.bind (cond (decide ((0:Int)≤v0.1)) (Option.bind l[(Int.toNat v0.1)]? (fun (v1:(ByteArray×Int))=>(cond (decide (v1.2 < (0:Int))) (some true) (cond (decide ((0:Int)≤v0.1)) (Option.bind l[(Int.toNat v0.1)]? (fun (v2:(ByteArray×Int))=>(some (decide (v2.2 > (63:Int)))))) none)))) none) (fun (v3:Bool)=>(cond v3 (some (.inr (.inr (.inr false)))) (some (.inl ()))))) (fun (v4:Unit)=>(cond (decide ((0:Int)≤v0.1)) (Option.bind l[(Int.toNat v0.1)]? (fun (v5:(ByteArray×Int))=>(cond ((decide (v0.2.length=v0.2.length))&&((decide (((((v0.2.length+1):Nat):Int) * (16:Int))≤(70368744177664:Int)))&&(decide ((((v0.2.length+1):Nat):Int)≤(70368744177664:Int))))) (cond (decide ((v0.2.length+1)=(Append.append v0.2 (v5.1::[])).length)) (some (.inl (Append.append v0.2 (v5.1::[])))) none) none))) none))) (fun (v6:(List ByteArray))=>(cond (decide (v6.length=v6.length)) (some (.inl ((IntKind.wrap IntKind.i64 (v0.1+(1:Int))),v6))) none))) (Option.map (Sum.inr) (cond (decide ((0+v0.2.length)≤v0.2.length)) (Option.bind (F26 (List.take v0.2.length v0.2)) (fun (v7:Bool)=>(some v7))) none))))
open Classical in
theorem F24_ok {l:List PU} (hl:l.length≤1000) (hs:∀ p ∈ l,p.1.size≤maxLen):F24 l=some (if okL l then 0 else 1):=by
 rw [F24_eq]
 have key:=loop_allS (n:=l.length) (A:=List ByteArray) (ρ:=Int) (f:=(fun (v0:(Int×(List ByteArray)))=>F24f l v0)) (fun i=>(l.take i).map Prod.fst) (fun i=>match l[i]? with | some p=>rngB p.2 | none=>true) 1 (if tskP (l.map Prod.fst) then 0 else 1) ?_ ?_
 ·refine Eq.trans ?_ (key.trans ?_)
  ·rfl
  ·congr 1
   by_cases h:∀ p ∈ l,0≤p.2∧p.2 < 64
   ·rw [if_pos (rng_all.2 h)]
    by_cases h2:tskP (l.map Prod.fst)
    ·rw [if_pos h2,if_pos (show okL l from ⟨h,h2⟩)]
    ·rw [if_neg h2,if_neg (show ¬ okL l from fun q=>h2 q.2)]
   ·rw [if_neg (fun q=>h (rng_all.1 q)),if_neg (show ¬ okL l from fun q=>h q.1)]
 ·have q:¬ ((l.length:Nat):Int) < ((l.length:Nat):Int):=by omega
  have f:=F25_ok (sz_map hs)
  have tl:List.take l.length (l.map Prod.fst)=l.map Prod.fst:=List.take_of_length_le (by rw [List.length_map]; omega)
  unfold F24f
  simp -implicitDefEqProofs only [q,List.take_length,List.length_map,tl,f,eq_self,xs]
 ·intro i hi _
  have q1:((i:Nat):Int) < ((l.length:Nat):Int):=by omega
  have q2:(0:Int)≤(i:Int):=by omega
  have g:=List.getElem?_eq_getElem hi
  have hlen:((l.take i).map Prod.fst).length≤1000:=by rw [List.length_map,List.length_take]; omega
  have e:(match l[i]? with | some p=>rngB p.2 | none=>true)=rngB l[i].2:=by rw [g]
  rw [snoc_fst hi,e]
  generalize (l.take i).map Prod.fst=A at *
  have p1:((A.length+1:Nat):Int) * 16≤70368744177664:=by omega
  have p2:((A.length+1:Nat):Int)≤70368744177664:=by omega
  unfold F24f
  by_cases h0:l[i].2 < 0
  ·rw [show rngB l[i].2=false by rw [Bool.eq_false_iff]; intro h; rw [rngB_iff] at h; omega]
   simp -implicitDefEqProofs only [q1,q2,g,h0,eq_self,xs]
  by_cases h1:l[i].2 ≥ 64
  ·rw [show rngB l[i].2=false by rw [Bool.eq_false_iff]; intro h; rw [rngB_iff] at h; omega]
   simp -implicitDefEqProofs only [q1,q2,g,h0,h1,eq_self,xs]
  rw [rngB_iff.2 (show 0≤l[i].2∧l[i].2 < 64 by omega)]
  simp -implicitDefEqProofs only [q1,q2,g,h0,h1,p1,p2,w1 (show i≤9223372036854775806 by omega),eq_self,xs]
open Classical in
theorem F23_ok {l:List PU} (hl:l.length≤1000) (hs:∀ p ∈ l,p.1.size≤maxLen):F23 l=some (decide (okL l)):=by
 rw [F23_eq]
 have key:=loop_allS (n:=l.length) (A:=List ByteArray) (ρ:=Bool) (f:=(fun (v0:(Int×(List ByteArray)))=>F23f l v0)) (fun i=>(l.take i).map Prod.fst) (fun i=>match l[i]? with | some p=>rngB p.2 | none=>true) false (decide (tskP (l.map Prod.fst))) ?_ ?_
 ·refine Eq.trans ?_ (key.trans ?_)
  ·rfl
  ·congr 1
   by_cases h:∀ p ∈ l,0≤p.2∧p.2 < 64
   ·rw [if_pos (rng_all.2 h),Bool.eq_iff_iff,decide_eq_true_iff,decide_eq_true_iff]
    exact ⟨fun q=>⟨h,q⟩,fun q=>q.2⟩
   ·rw [if_neg (fun q=>h (rng_all.1 q))]
    exact (decide_eq_false (fun q=>h q.1)).symm
 ·have q:¬ ((l.length:Nat):Int) < ((l.length:Nat):Int):=by omega
  have f:=F26_ok (l:=l.map Prod.fst) (by rw [List.length_map]; omega) (sz_map hs)
  have tl:List.take l.length (l.map Prod.fst)=l.map Prod.fst:=List.take_of_length_le (by rw [List.length_map]; omega)
  unfold F23f
  simp -implicitDefEqProofs only [q,List.take_length,List.length_map,tl,f,eq_self,xs]
 ·intro i hi _
  have q1:((i:Nat):Int) < ((l.length:Nat):Int):=by omega
  have q2:(0:Int)≤(i:Int):=by omega
  have g:=List.getElem?_eq_getElem hi
  have hlen:((l.take i).map Prod.fst).length≤1000:=by rw [List.length_map,List.length_take]; omega
  have e:(match l[i]? with | some p=>rngB p.2 | none=>true)=rngB l[i].2:=by rw [g]
  rw [snoc_fst hi,e]
  generalize (l.take i).map Prod.fst=A at *
  have p1:((A.length+1:Nat):Int) * 16≤70368744177664:=by omega
  have p2:((A.length+1:Nat):Int)≤70368744177664:=by omega
  unfold F23f
  by_cases h0:l[i].2 < 0
  ·rw [show rngB l[i].2=false by rw [Bool.eq_false_iff]; intro h; rw [rngB_iff] at h; omega]
   simp -implicitDefEqProofs only [q1,q2,g,h0,eq_self,xs]
  by_cases h1:l[i].2 > 63
  ·rw [show rngB l[i].2=false by rw [Bool.eq_false_iff]; intro h; rw [rngB_iff] at h; omega]
   simp -implicitDefEqProofs only [q1,q2,g,h0,h1,eq_self,xs]
  rw [rngB_iff.2 (show 0≤l[i].2∧l[i].2 < 64 by omega)]
  simp -implicitDefEqProofs only [q1,q2,g,h0,h1,p1,p2,w1 (show i≤9223372036854775806 by omega),eq_self,xs]
theorem F38_ok (a b:ByteArray):F38 (a,b)=some (cmpN a b):=by
 have n:∀ a,F48 a=some false:=by
  intro a
  rw [F48_eq]
  show some (!(a.toList==a.toList))=_
  rw [beq_self_eq_true]; rfl
 rw [F38_eq]
 show Option.bind (F48 a) (fun v0=>Option.bind (F48 b) (fun v1=>cond v0 (cond v1 (some 0) (some (-1))) (cond v1 (some 1) (cond (ltN a b) (some (-1)) (cond (!(ltN a b || eqN a b)) (some 1) (some 0))))))=_
 rw [n,n]
 unfold cmpN
 cases ltN a b<;>cases eqN a b<;>rfl
theorem F37_ok (x:PU) (b:ByteArray):F37 (x,b)=some (cmpN x.1 b):=by
 rw [F37_eq]
 show Option.bind (F38 (x.1,b)) _=_
 rw [F38_ok]; rfl
theorem okL.srt {l:List PU} (h:okL l):nmO.Srt Prod.fst l:=by
 have:=h.2.2.2
 rw [List.pairwise_map] at this
 exact this
open Classical in
theorem F22_ok {l:List PU} (hl:l.length≤1000) (hs:∀ p ∈ l,p.1.size≤maxLen) (nm:ByteArray):F22 (l,nm)=some (if okL l then (match lkn Prod.fst l nm with | some p=>(p.2,(0:Int)) | none=>(0,6)) else (0,1)):=by
 rw [F22_eq,F24_ok hl hs]
 by_cases h:okL l
 ·rw [if_pos h,if_pos h]
  have hs:=h.srt
  simp only [Option.bind_some,nz0,cond_false]
  rw [loop_find hs nm rfl]
  rotate_left
  ·intro i hi
   have q:¬ (i:Int) < (i:Int):=by omega
   simp -implicitDefEqProofs only [q,eq_self,xs]
  ·intro i j m x hij hj hm hml hx
   have q1:(i:Int) < (j:Int):=by omega
   have hmid:=mid (i:=i) (j:=j) (by omega)
   rw [← hm] at hmid
   have q3:(0:Int)≤(m:Int):=by omega
   simp -implicitDefEqProofs only [q1,hmid,q3,hx,F37_ok x nm,cmp_lt,w1 (show m≤9223372036854775806 by omega),eq_self,xs]
   rfl
  ·have hp:=KOrd.plc_le (O:=nmO) (key:=Prod.fst) l nm
   have ha:=lkn_at hs nm
   by_cases hq:nmO.plc Prod.fst l nm < l.length
   ·have q1:((nmO.plc Prod.fst l nm:Nat):Int) < ((l.length:Nat):Int):=by omega
    have q2:(0:Int)≤((nmO.plc Prod.fst l nm:Nat):Int):=by omega
    have g:=List.getElem?_eq_getElem hq
    rw [g] at ha
    simp only at ha
    simp -implicitDefEqProofs only [q1,q2,g,F37_ok l[nmO.plc Prod.fst l nm] nm,cmp_eq,eq_self,xs]
    rw [ha]
    cases eqN (l[nmO.plc Prod.fst l nm]).1 nm<;>rfl
   ·have q1:¬ ((nmO.plc Prod.fst l nm:Nat):Int) < ((l.length:Nat):Int):=by omega
    simp -implicitDefEqProofs only [q1,eq_self,xs]
    rw [ha,List.getElem?_eq_none (by omega)]
 ·rw [if_neg h,if_neg h]
  rfl
def asgW (w:List Int) (most:Nat) (out:List PU) (t:ByteArray):List PU:=match w.find? (fun n=>decide (cntN out n < most)) with
 | some n=>out++[(t,n)]
 | none=>out
def asgL (wk:ByteArray→List Int) (most:Nat) (l:List ByteArray):List PU:=l.foldl (fun out t=>asgW (wk t) most out t) []
theorem asgL_snoc (wk:ByteArray→List Int) (most:Nat) (l:List ByteArray) (t:ByteArray):asgL wk most (l++[t])=asgW (wk t) most (asgL wk most l) t:=by unfold asgL; rw [List.foldl_append]; rfl
theorem asgW_len (w:List Int) (most:Nat) (out:List PU) (t:ByteArray):(asgW w most out t).length≤out.length+1:=by
 unfold asgW
 split
 ·rw [List.length_append]; exact Nat.le_refl _
 ·omega
theorem asgL_len (wk:ByteArray→List Int) (most:Nat):∀ k (l:List ByteArray),l.length=k→(asgL wk most l).length≤k:=by
 intro k
 induction k with
 | zero=>intro l h; rw [List.length_eq_zero_iff.1 h]; exact Nat.le_refl _
 | succ k ih =>
  intro l h
  rcases List.eq_nil_or_concat l with rfl | ⟨m,t,rfl⟩
  ·simp at h
  ·rw [List.concat_eq_append] at h ⊢
   rw [List.length_append] at h
   rw [asgL_snoc]
   have:=ih m (by simpa using h)
   have:=asgW_len (wk t) most (asgL wk most m) t
   omega
abbrev MI:=List (Int×Int)
def gI (n:Int) (m:MI):Int:=(mget (kt:=(TT.i IntKind.i64)) (vt:=(TT.i IntKind.i64)) n m:Option Int).getD 0
theorem gI_put (x y v:Int) (m:MI):gI x (mput (kt:=(TT.i IntKind.i64)) (vt:=(TT.i IntKind.i64)) y v m)=if x=y then v else gI x m:=by
 unfold gI
 rw [mget_mput (k:=.i64) (vt:=.i .i64) x y v m]
 split<;>rfl
noncomputable def inF {R:Type} (w:List Int) (most:Int) (t:ByteArray):Int×(MI×List PU)→Option ((Int×(MI×List PU)) ⊕ ((MI×List PU) ⊕ R)):=fun u=>cond (decide (u.1 < ((w.length:Nat):Int))) (cond (decide ((0:Int)≤u.1)) (Option.bind w[(Int.toNat u.1)]? fun n=>cond (decide (gI n u.2.1 < most)) (cond (decide (((u.2.2.length+1:Nat):Int) * 24≤70368744177664)&&decide (((u.2.2.length+1:Nat):Int)≤70368744177664)) (some (.inr (.inl (mput (kt:=(TT.i IntKind.i64)) (vt:=(TT.i IntKind.i64)) n (IntKind.wrap .i64 (gI n u.2.1+1)) u.2.1,u.2.2++[(t,n)])))) none) (some (.inl (IntKind.wrap .i64 (u.1+1),u.2)))) none) (some (.inr (.inl u.2)))
theorem inF_ok {R:Type} {w:List Int} {most:Nat} {t:ByteArray} {has:MI} {out:List PU} (hw:w.length≤100) (ho:out.length≤1000) (hm:∀ n,gI n has=((cntN out n:Nat):Int)) :
  ∃ r,loopX (inF (R:=R) w ((most:Nat):Int) t) (0,has,out)=some r∧∃ has':MI,r=.inl (has',asgW w most out t)∧∀ n,gI n has'=((cntN (asgW w most out t) n:Nat):Int):=by
 refine loop_ex (fun u:Int×(MI×List PU)=>∃ j:Nat,u=(((j:Nat):Int),has,out)∧j≤w.length∧∀ i (h:i < w.length),i < j→¬ cntN out w[i] < most) (fun u=>w.length - u.1.toNat) _ ?_ _ ⟨0,rfl,by omega,fun i _ h=>by omega⟩
 rintro _ ⟨j,rfl,hj,hno⟩
 by_cases h:j < w.length
 ·have q1:((j:Nat):Int) < ((w.length:Nat):Int):=by omega
  have q2:(0:Int)≤(j:Int):=by omega
  have g:=List.getElem?_eq_getElem h
  have e:=hm w[j]
  have hc:=cntN_le out w[j]
  by_cases hk:cntN out w[j] < most
  ·left
   have hf:w.find? (fun n=>decide (cntN out n < most))=some w[j]:=by
    rw [List.find?_eq_some_iff_getElem]
    exact ⟨decide_eq_true hk,j,h,rfl,fun i hi=>by rw [decide_eq_false (hno i (by omega) hi)]; rfl⟩
   have ha:asgW w most out t=out++[(t,w[j])]:=by unfold asgW; rw [hf]
   rw [ha]
   have q3:((cntN out w[j]:Nat):Int) < ((most:Nat):Int):=by omega
   have p1:((out.length+1:Nat):Int) * 24≤70368744177664:=by omega
   have p2:((out.length+1:Nat):Int)≤70368744177664:=by omega
   refine ⟨_,?_,mput (kt:=(TT.i IntKind.i64)) (vt:=(TT.i IntKind.i64)) w[j] ((cntN out w[j]+1:Nat):Int) has,rfl,fun n=>?_⟩
   ·unfold inF
    simp -implicitDefEqProofs only [q1,q2,g,e,q3,p1,p2,w1 (show cntN out w[j]≤9223372036854775806 by omega),eq_self,xs]
   ·rw [gI_put,cntN_snoc]
    by_cases hn:n=w[j]
    ·subst hn; rw [if_pos rfl,if_pos rfl]
    ·rw [if_neg hn,if_neg (fun q=>hn q.symm),hm]; rfl
  ·right
   have q3:¬ ((cntN out w[j]:Nat):Int) < ((most:Nat):Int):=by omega
   refine ⟨(((j+1:Nat):Int),has,out),?_,⟨j+1,rfl,by omega,fun i hi hij=>?_⟩,by simp only [Int.toNat_natCast]; omega⟩
   ·unfold inF
    simp -implicitDefEqProofs only [q1,q2,g,e,q3,w1 (show j≤9223372036854775806 by omega),eq_self,xs]
   ·rcases Nat.lt_or_ge i j with hlt | hge
    ·exact hno i hi hlt
    ·have:i=j:=by omega
     subst this; exact hk
 ·left
  have q1:¬ ((j:Nat):Int) < ((w.length:Nat):Int):=by omega
  have hf:w.find? (fun n=>decide (cntN out n < most))=none:=by
   rw [List.find?_eq_none]
   intro x hx
   obtain ⟨i,hi,rfl⟩:=List.getElem_of_mem hx
   simpa using hno i hi (by omega)
  have ha:asgW w most out t=out:=by unfold asgW; rw [hf]
  rw [ha]
  exact ⟨_,by unfold inF; simp -implicitDefEqProofs only [q1,eq_self,xs],has,rfl,hm⟩
end Go.Proofs.YtianfmdemgfgaaaDoor.VL
end
section
namespace Go.Proofs.YtianfmdemgfgaaaDoor.VL
open Go
set_option linter.unusedVariables false
set_option linter.unusedSectionVars false
set_option linter.unusedSimpArgs false
set_option maxRecDepth 100000
variable [Val]
theorem ex_some {α:Type} {x:Option α} {y:α} (h:∃ r,x=some r∧r=y):x=some y:=by
 obtain ⟨_,h,rfl⟩:=h
 exact h
abbrev wkF (nodes:List Int) (m:Nat) (t:ByteArray):List Int:=wlk (pts nodes m) (keyH t)
abbrev asg (nodes:List Int) (m:Nat) (l:List ByteArray):List PU:=asgL (wkF nodes m) (bndN l.length nodes.length) l
theorem wk_len {nodes:List Int} (h:nodP nodes) {m:Nat} (hm:1≤m) (t:ByteArray):(wkF nodes m t).length≤64:=by
 rw [(perm_wlk h hm (keyH t)).length_eq]; exact nodP_len h
theorem F12_in {nodes:List Int} {m:Nat} {l:List ByteArray} (hN:nodP nodes) (hne:nodes≠[]) (h1:1≤m) (hm:m≤32) (hT:tskP l):F12 (nodes,((m:Nat):Int),l)=some (asg nodes m l,0):=by
 have hl:nodes.length≤64:=nodP_len hN
 have hl0:nodes.length≠0:=fun h=>hne (List.length_eq_zero_iff.1 h)
 have hs:∀ s ∈ l,s.size≤maxLen:=fun s h=>Nat.le_trans (hT.size s h) (by decide)
 have f29:=F29_pts hN h1 hm
 have f25:=F25_ok hs
 rw [if_pos hT] at f25
 have hT1:=hT.1
 have f13:=F13_ok (t:=((l.length:Nat):Int)) (n:=((nodes.length:Nat):Int))
 rw [if_pos (by omega),Int.toNat_natCast,Int.toNat_natCast] at f13
 have z:(((nodes.length:Nat):Int)==0)=false:=by rw [beq_eq_false_iff_ne]; omega
 rw [F12_eq]
 simp -implicitDefEqProofs only [f29,f25,f13,nz0,z,eq_self,xs]
 refine ex_some (loop_ex (fun u:Int×(MI×List PU)=>∃ (i:Nat) (has:MI),u=(((i:Nat):Int),has,asgL (wkF nodes m) (bndN l.length nodes.length) (l.take i))∧i≤l.length∧∀ n,gI n has=((cntN (asgL (wkF nodes m) (bndN l.length nodes.length) (l.take i)) n:Nat):Int)) (fun u=>l.length - u.1.toNat) (fun r=>r=(asg nodes m l,0)) ?_ ((0:Int),[],[]) ⟨0,[],rfl,by omega,fun n=>rfl⟩)
 rintro _ ⟨i,has,rfl,hi,hg⟩
 by_cases h:i < l.length
 ·right
  have q1:((i:Nat):Int) < ((l.length:Nat):Int):=by omega
  have q2:(0:Int)≤(i:Int):=by omega
  have g:=List.getElem?_eq_getElem h
  have hsz:=hT.size _ (List.getElem_mem h)
  have f30:=F30_pts (key:=l[i]) hN hne h1 hm (by omega)
  have hlen:=asgL_len (wkF nodes m) (bndN l.length nodes.length) i (l.take i) (by rw [List.length_take]; omega)
  have e:asgL (wkF nodes m) (bndN l.length nodes.length) (l.take (i+1))=asgW (wkF nodes m l[i]) (bndN l.length nodes.length) (asgL (wkF nodes m) (bndN l.length nodes.length) (l.take i)) l[i]:=by
   rw [List.take_succ_eq_append_getElem h,asgL_snoc]
  obtain ⟨r,hr,has',rfl,hg'⟩:=inF_ok (R:=(Int×(MI×List PU)) ⊕ (List PU×Int)) (w:=wkF nodes m l[i]) (most:=bndN l.length nodes.length) (t:=l[i]) (Nat.le_trans (wk_len hN h1 _) (by decide)) (by omega) hg
  refine ⟨(((i+1:Nat):Int),has',asgL (wkF nodes m) (bndN l.length nodes.length) (l.take (i+1))),?_,⟨i+1,has',rfl,by omega,by rw [e]; exact hg'⟩,by simp only [Int.toNat_natCast]; omega⟩
  rw [e]
  generalize asgL (wkF nodes m) (bndN l.length nodes.length) (l.take i)=out at *
  dsimp only
  unfold inF gI at hr
  simp -implicitDefEqProofs only [q1,q2,g,f30,nz0,hr,w1 (show i≤9223372036854775806 by omega),eq_self,xs]
 ·left
  have q1:¬ ((i:Nat):Int) < ((l.length:Nat):Int):=by omega
  have:i=l.length:=by omega
  subst this
  rw [List.take_length]
  refine ⟨_,?_,rfl⟩
  simp -implicitDefEqProofs only [q1,eq_self,xs]
theorem F12_bad {nodes:List Int} {sp:Int} {l:List ByteArray} (hn:nodes.length≤9223372036854775806) (hs:∀ s ∈ l,s.size≤maxLen) (h:¬ (nodP nodes∧(1≤sp∧sp≤32)∧tskP l)):F12 (nodes,sp,l)=some ([],1):=by
 have f29:=F29_ok (sp:=sp) hn
 have f25:=F25_ok hs
 rw [F12_eq]
 by_cases h1:nodP nodes∧1≤sp∧sp≤32
 ·rw [if_pos h1] at f29
  rw [if_neg (fun q=>h ⟨h1.1,h1.2,q⟩)] at f25
  simp -implicitDefEqProofs only [f29,f25,nz0,nz1,eq_self,xs]
 ·rw [if_neg h1] at f29
  simp -implicitDefEqProofs only [f29,nz1,eq_self,xs]
theorem F12_none {sp:Int} {l:List ByteArray} (h1:1≤sp∧sp≤32) (hT:tskP l):F12 ([],sp,l)=some ([],6):=by
 have f29:=F29_ok (l:=[]) (sp:=sp) (Nat.zero_le _)
 rw [if_pos ⟨⟨fun x hx=>by simp at hx,List.Pairwise.nil⟩,h1⟩] at f29
 have f25:=F25_ok (fun s h=>Nat.le_trans (hT.size s h) (by decide))
 rw [if_pos hT] at f25
 have z:((((0:Nat)):Int)==0)=true:=rfl
 rw [F12_eq]
 simp -implicitDefEqProofs only [f29,f25,nz0,z,eq_self,xs]
theorem sum_ite {l:List Int} (x:Int):(l.map (fun n=>if x=n then 1 else 0)).sum=l.count x:=by
 induction l with
 | nil=>rfl
 | cons a r ih =>
  rw [List.map_cons,List.sum_cons,ih,List.count_cons]
  by_cases h:x=a
  ·subst h; simp; omega
  ·have:(a==x)=false:=beq_eq_false_iff_ne.2 (fun q=>h q.symm)
   simp [h,this]
theorem sum_add {l:List Int} (f g:Int→Nat):(l.map (fun n=>f n+g n)).sum=(l.map f).sum+(l.map g).sum:=by
 induction l with
 | nil=>rfl
 | cons a r ih=>simp only [List.map_cons,List.sum_cons,ih]; omega
theorem sum_cnt {nodes:List Int} (hd:nodes.Nodup):∀ out:List PU,(nodes.map (cntN out)).sum≤out.length
 | []=>by
  have e:cntN []=fun _=>0:=by funext n; rfl
  rw [e]
  have:∀ l:List Int,(l.map (fun _=>0)).sum=0:=by
   intro l
   induction l with
   | nil=>rfl
   | cons a r ih=>rw [List.map_cons,List.sum_cons,ih]
  rw [this]; exact Nat.zero_le _
 | p::out=>by
  have e:cntN (p::out)=fun n=>cntN out n+(if p.2=n then 1 else 0):=by
   funext n
   unfold cntN
   rw [List.countP_cons]
   by_cases h:p.2=n
   ·simp [h]
   ·simp [h]
  have ih:=sum_cnt hd out
  have hc:=List.nodup_iff_count.1 hd p.2
  rw [e,sum_add,sum_ite,List.length_cons]
  omega
theorem sum_ge {nodes:List Int} {most:Nat} {f:Int→Nat} (h:∀ n ∈ nodes,most≤f n):most * nodes.length≤(nodes.map f).sum:=by
 induction nodes with
 | nil=>simp
 | cons a r ih =>
  have h1:=ih (fun n hn=>h n (List.mem_cons_of_mem _ hn))
  have h2:=h a (List.mem_cons_self ..)
  rw [List.map_cons,List.sum_cons,List.length_cons,Nat.mul_add,Nat.mul_one]
  omega
theorem room {nodes:List Int} (hd:nodes.Nodup) {most:Nat} {out:List PU} (h:out.length < most * nodes.length):∃ n ∈ nodes,cntN out n < most:=by
 apply Classical.byContradiction
 intro hn
 have:=sum_ge (nodes:=nodes) (most:=most) (f:=cntN out) (fun n hm=>by
  rcases Nat.lt_or_ge (cntN out n) most with q | q
  ·exact absurd ⟨n,hm,q⟩ hn
  ·exact q)
 have:=sum_cnt hd out
 omega
theorem asgW_some {w:List Int} {most:Nat} {out:List PU} (t:ByteArray) (h:∃ n ∈ w,cntN out n < most) :
  ∃ (k:Nat) (hk:k < w.length),asgW w most out t=out++[(t,w[k])]∧cntN out w[k] < most∧∀ j (hj:j < w.length),j < k→¬ cntN out w[j] < most:=by
 obtain ⟨n,hn,hc⟩:=h
 cases hf:w.find? (fun n=>decide (cntN out n < most)) with
 | none =>
  rw [List.find?_eq_none] at hf
  exact absurd (decide_eq_true hc) (hf n hn)
 | some x =>
  have ha:asgW w most out t=out++[(t,x)]:=by unfold asgW; rw [hf]
  rw [List.find?_eq_some_iff_getElem] at hf
  obtain ⟨h1,k,hk,rfl,h2⟩:=hf
  refine ⟨k,hk,ha,of_decide_eq_true h1,fun j hj hjk hh=>?_⟩
  have:=h2 j hjk
  rw [decide_eq_true hh] at this
  cases this
structure AS (nodes:List Int) (m most:Nat) (l:List ByteArray) (out:List PU):Prop where
 fst:out.map Prod.fst=l
 le:∀ n,cntN out n≤most
 mem:∀ p ∈ out,p.2 ∈ nodes
 ahead:∀ p ∈ out,∀ (i:Nat) (h:i < (wkF nodes m p.1).length),(∀ j (hj:j < (wkF nodes m p.1).length),j≤i→(wkF nodes m p.1)[j]≠p.2)→cntN out (wkF nodes m p.1)[i]=most
theorem AS.len {nodes:List Int} {m most:Nat} {l:List ByteArray} {out:List PU} (A:AS nodes m most l out):out.length=l.length:=by rw [← A.fst,List.length_map]
theorem asg_ok {nodes:List Int} (hN:nodP nodes) {m:Nat} (hm:1≤m) {most:Nat}:∀ (k:Nat) (l:List ByteArray),l.length=k→k≤most * nodes.length→AS nodes m most l (asgL (wkF nodes m) most l)
 | 0,l,h,_=>by
  rw [List.length_eq_zero_iff.1 h]
  exact ⟨rfl,fun n=>Nat.zero_le _,fun p hp=>by simp [asgL] at hp,fun p hp=>by simp [asgL] at hp⟩
 | k+1,l,h,hc=>by
  rcases List.eq_nil_or_concat l with rfl | ⟨l',t,rfl⟩
  ·simp at h
  rw [List.concat_eq_append] at h ⊢
  rw [List.length_append] at h
  have h':l'.length=k:=by simpa using h
  have A:=asg_ok (most:=most) hN hm k l' h' (by omega)
  have hlen:=A.len
  rw [asgL_snoc]
  generalize asgL (wkF nodes m) most l'=out at *
  obtain ⟨n,hn,hr⟩:=room hN.nodup (most:=most) (out:=out) (by omega)
  obtain ⟨i,hi,e,hlt,hno⟩:=asgW_some (w:=wkF nodes m t) t ⟨n,(mem_wlk hm).2 hn,hr⟩
  rw [e]
  refine ⟨?_,fun x=>?_,fun p hp=>?_,fun p hp j hj hne=>?_⟩
  ·rw [List.map_append,A.fst]; rfl
  ·rw [cntN_snoc]
   have:=A.le x
   by_cases hx:(wkF nodes m t)[i]=x
   ·rw [if_pos hx]; rw [hx] at hlt; omega
   ·rw [if_neg hx]; omega
  ·rcases List.mem_append.1 hp with hp | hp
   ·exact A.mem p hp
   ·rw [List.mem_singleton] at hp
    subst hp
    exact (mem_wlk hm).1 (List.getElem_mem hi)
  ·rw [cntN_snoc]
   rcases List.mem_append.1 hp with hp | hp
   ·have q:=A.ahead p hp j hj hne
    by_cases hx:(wkF nodes m t)[i]=(wkF nodes m p.1)[j]
    ·rw [hx] at hlt; omega
    ·simp only [if_neg hx]; omega
   ·rw [List.mem_singleton] at hp
    subst hp
    simp only at hj hne ⊢
    have hji:j < i:=by
     rcases Nat.lt_or_ge j i with q | q
     ·exact q
     ·exact absurd rfl (hne i hi q)
    have q:=hno j hj hji
    have q2:=A.le (wkF nodes m t)[j]
    have q3:(wkF nodes m t)[i]≠(wkF nodes m t)[j]:=fun hh=>by rw [hh] at hlt; exact q hlt
    rw [if_neg q3]; omega
theorem room_bnd {t n:Nat} (hn:1≤n):t≤bndN t n * n:=by
 have:=bndN_ge (t:=t) hn
 have e:4 * n * bndN t n=4 * (bndN t n * n):=by rw [Nat.mul_assoc,Nat.mul_comm n]
 omega
theorem asg_is {nodes:List Int} (hN:nodP nodes) (hne:nodes≠[]) {m:Nat} (hm:1≤m) (l:List ByteArray):AS nodes m (bndN l.length nodes.length) l (asg nodes m l) :=
 asg_ok hN hm l.length l rfl (room_bnd (by
  have:nodes.length≠0:=fun h=>hne (List.length_eq_zero_iff.1 h)
  omega))
theorem AS.okL {nodes:List Int} (hN:nodP nodes) {m most:Nat} {l:List ByteArray} {out:List PU} (A:AS nodes m most l out) (hT:tskP l):okL out:=⟨fun p hp=>hN.1 _ (A.mem p hp),by rw [A.fst]; exact hT⟩
theorem AS.sz {nodes:List Int} {m most:Nat} {l:List ByteArray} {out:List PU} (A:AS nodes m most l out) (hT:tskP l):∀ p ∈ out,p.1.size≤20:=fun p hp=>hT.size _ (by rw [← A.fst]; exact List.mem_map_of_mem hp)
theorem F27_ok {nodes:List Int} {m:Nat} {l:List ByteArray} (hN:nodP nodes) (hne:nodes≠[]) (h1:1≤m) (hm:m≤32) (hT:tskP l):F27 (nodes,((m:Nat):Int),l)=some (asg nodes m l):=by
 have hl:nodes.length≤64:=nodP_len hN
 have hl0:nodes.length≠0:=fun h=>hne (List.length_eq_zero_iff.1 h)
 have hT1:=hT.1
 have f14:=F14_ok hN h1 hm
 have f21:=F21_ok (t:=l.length) (n:=nodes.length) hT1 (by omega)
 rw [F27_eq]
 simp -implicitDefEqProofs only [f14,eq_self,xs]
 refine loop_detE (s0:=((0:Int),([]:List PU))) l.length (fun i=>(((i:Nat):Int),asgL (wkF nodes m) (bndN l.length nodes.length) (l.take i))) _ rfl ?_ ?_
 ·have q:¬ ((l.length:Nat):Int) < ((l.length:Nat):Int):=by omega
  simp -implicitDefEqProofs only [q,List.take_length,eq_self,xs]
 ·intro i hi
  have q1:((i:Nat):Int) < ((l.length:Nat):Int):=by omega
  have q2:(0:Int)≤(i:Int):=by omega
  have g:=List.getElem?_eq_getElem hi
  have hsz:=hT.size _ (List.getElem_mem hi)
  have f15:=F15_ok (key:=l[i]) (pts_ok hN hm) (pts_ne hne h1) (by omega)
  have hlen:=asgL_len (wkF nodes m) (bndN l.length nodes.length) i (l.take i) (by rw [List.length_take]; omega)
  have hcap:=room_bnd (t:=l.length) (n:=nodes.length) (by omega)
  rw [List.take_succ_eq_append_getElem hi,asgL_snoc]
  generalize asgL (wkF nodes m) (bndN l.length nodes.length) (l.take i)=out at *
  obtain ⟨n,hn,hr⟩:=room hN.nodup (most:=bndN l.length nodes.length) (out:=out) (by omega)
  obtain ⟨k,hk,e,hlt,hno⟩:=asgW_some (w:=wkF nodes m l[i]) l[i] ⟨n,(mem_wlk h1).2 hn,hr⟩
  rw [e]
  have hwl:=wk_len hN h1 l[i]
  have f16:∀ x,F16 (out,x)=some ((cntN out x:Nat):Int):=fun x=>F16_ok x (by omega)
  have hin:loopX (σ:=Int) (ρ:=Int) (fun (v4:Int)=>(cond (decide ((0:Int)≤v4)) (Option.bind (wkF nodes m l[i])[(Int.toNat v4)]? (fun (v5:Int)=>(Option.bind (F16 (out,v5)) (fun (v6:Int)=>(Option.bind (F21 (((l.length:Nat):Int),((nodes.length:Nat):Int))) (fun (v7:Int)=>(cond (decide (v6 ≥ v7)) (some (.inl (IntKind.wrap .i64 (v4+(1:Int))))) (some (.inr v4))))))))) none)) (0:Int)=some ((k:Nat):Int):=by
   refine loop_detE (s0:=(0:Int)) k (fun j=>((j:Nat):Int)) _ rfl ?_ ?_
   ·have p1:(0:Int)≤(k:Int):=by omega
    have gk:=List.getElem?_eq_getElem hk
    have p2:¬ ((cntN out (wkF nodes m l[i])[k]:Nat):Int) ≥ ((bndN l.length nodes.length:Nat):Int):=by omega
    simp -implicitDefEqProofs only [p1,gk,f16 (wkF nodes m l[i])[k],f21,p2,eq_self,xs]
   ·intro j hj
    have p1:(0:Int)≤(j:Int):=by omega
    have gj:=List.getElem?_eq_getElem (show j < (wkF nodes m l[i]).length by omega)
    have:=hno j (by omega) hj
    have p2:((cntN out ((wkF nodes m l[i])[j]'(by omega)):Nat):Int) ≥ ((bndN l.length nodes.length:Nat):Int):=by omega
    simp -implicitDefEqProofs only [p1,gj,f16 ((wkF nodes m l[i])[j]'(by omega)),f21,p2,w1 (show j≤9223372036854775806 by omega),eq_self,xs]
  have gk:=List.getElem?_eq_getElem hk
  have q3:(0:Int)≤(k:Int):=by omega
  have p1:((out.length+1:Nat):Int) * 24≤70368744177664:=by omega
  have p2:((out.length+1:Nat):Int)≤70368744177664:=by omega
  have p3:¬ out.length+1≤out.length:=by omega
  simp -implicitDefEqProofs only [q1,q2,g,f15,hin,gk,q3,p1,p2,p3,List.take_length,w1 (show i≤9223372036854775806 by omega),eq_self,xs]
end Go.Proofs.YtianfmdemgfgaaaDoor.VL
end
section
namespace Go.Proofs.YtianfmdemgfgaaaDoor.VL
open Go
set_option linter.unusedVariables false
set_option linter.unusedSectionVars false
set_option linter.unusedSimpArgs false
set_option maxRecDepth 100000
variable [Val]
structure LG (nodes:List Int) (sp:Int) (L:List ByteArray) (m:Nat):Prop where
 sp:sp=((m:Nat):Int)
 m1:1≤m
 m8:m≤8
 n1:1≤nodes.length
 n6:nodes.length≤6
 l20:L.length≤20
 N:nodP nodes
 T:tskP L
theorem LG.ne {nodes:List Int} {sp:Int} {L:List ByteArray} {m:Nat} (G:LG nodes sp L m):nodes≠[]:=fun h=>by have:=G.n1; rw [h] at this; simp at this
theorem LG.f12 {nodes:List Int} {sp:Int} {L:List ByteArray} {m:Nat} (G:LG nodes sp L m):F12 (nodes,sp,L)=some (asg nodes m L,0):=by
 rw [G.sp]; exact F12_in G.N G.ne G.m1 (by have:=G.m8; omega) G.T
theorem LG.f14 {nodes:List Int} {sp:Int} {L:List ByteArray} {m:Nat} (G:LG nodes sp L m):F14 (nodes,sp)=some (pts nodes m):=by
 rw [G.sp]; exact F14_ok G.N G.m1 (by have:=G.m8; omega)
end Go.Proofs.YtianfmdemgfgaaaDoor.VL
end
section
namespace Go.Proofs.YtianfmdemgfgaaaDoor.VL
open Go
set_option linter.unusedVariables false
set_option linter.unusedSectionVars false
set_option linter.unusedSimpArgs false
set_option maxRecDepth 100000
variable [Val]
def lastP (nm:ByteArray) (l:List PU):Int×Int:=l.foldl (fun acc p=>if eqN p.1 nm=true then (p.2,0) else acc) (0,6)
theorem lastP_snoc (nm:ByteArray) (l:List PU) (p:PU):lastP nm (l++[p])=if eqN p.1 nm=true then (p.2,0) else lastP nm l:=by unfold lastP; rw [List.foldl_append]; rfl
theorem lastP_look {nm:ByteArray} {l:List PU} (hs:nmO.Srt Prod.fst l):lastP nm l=(match lkn Prod.fst l nm with | some p=>(p.2,(0:Int)) | none=>(0,6)):=by
 have key:∀ (k:Nat) (l:List PU),l.length=k→nmO.Srt Prod.fst l→((∀ p ∈ l,eqN p.1 nm=false)→lastP nm l=(0,6))∧∀ p ∈ l,p.1=nm→lastP nm l=(p.2,0):=by
  intro k
  induction k with
  | zero =>
   intro l h _
   rw [List.length_eq_zero_iff.1 h]
   exact ⟨fun _=>rfl,fun p hp=>by simp at hp⟩
  | succ k ih =>
   intro l h hs
   rcases List.eq_nil_or_concat l with rfl | ⟨l',x,rfl⟩
   ·simp at h
   rw [List.concat_eq_append] at h hs ⊢
   rw [List.length_append] at h
   have hs':=List.pairwise_append.1 hs
   obtain ⟨i1,i2⟩:=ih l' (by simpa using h) hs'.1
   rw [lastP_snoc]
   refine ⟨fun hn=>?_,fun p hp e=>?_⟩
   ·rw [hn x (by simp),if_neg (by decide)]
    exact i1 (fun p hp=>hn p (by simp [hp]))
   ·rcases List.mem_append.1 hp with hp | hp
    ·have hlt:=hs'.2.2 p hp x (by simp)
     have hne:eqN x.1 nm=false:=by
      rw [Bool.eq_false_iff]
      intro q
      rw [← e] at q
      have q:=eqN_eq q
      exact KOrd.ne (O:=nmO) hlt q.symm
     rw [hne,if_neg (by decide)]
     exact i2 p hp e
    ·rw [List.mem_singleton] at hp
     subst hp
     rw [e,eqN_refl,if_pos rfl]
 obtain ⟨k1,k2⟩:=key l.length l rfl hs
 cases hl:lkn Prod.fst l nm with
 | none =>
  rw [lkn_look] at hl
  simp only
  refine k1 (fun p hp=>?_)
  rw [Bool.eq_false_iff]
  intro q
  exact KOrd.look_none hl p hp (eqN_eq q)
 | some p =>
  rw [lkn_look] at hl
  obtain ⟨h1,h2⟩:=KOrd.look_some hl
  exact k2 p h1 h2
noncomputable def F7f (v7:List PU) (v15:ByteArray):Int×(Int×Int)→Option ((Int×(Int×Int)) ⊕ (Int×Int)):=(fun (v17:(Int×(Int×Int)))=>(cond (decide (v17.2.2 < ((v7.length:Nat):Int))) (Option.bind (cond (decide ((0:Int)≤v17.2.2)) (Option.bind v7[(Int.toNat v17.2.2)]? (fun (v18:(ByteArray×Int))=>(cond ((ByteArray.toList v18.1)==(ByteArray.toList v15)) (cond (decide ((0:Int)≤v17.2.2)) (Option.bind v7[(Int.toNat v17.2.2)]? (fun (v19:(ByteArray×Int))=>(some (v19.2,(0:Int))))) none) (some (v17.1,v17.2.1))))) none) (fun (v20:(Int×Int))=>(some (.inl (v20.1,v20.2,(IntKind.wrap IntKind.i64 (v17.2.2+(1:Int)))))))) (some (.inr (v17.1,v17.2.1)))))
theorem F7f_ok {l:List PU} (hl:l.length≤1000) (nm:ByteArray):loopX (F7f l nm) (0,6,0)=some (lastP nm l):=by
 refine loop_detE (s0:=((0:Int),(6:Int),(0:Int))) l.length (fun i=>((lastP nm (l.take i)).1,(lastP nm (l.take i)).2,((i:Nat):Int))) _ rfl ?_ ?_
 ·have q:¬ ((l.length:Nat):Int) < ((l.length:Nat):Int):=by omega
  unfold F7f
  simp -implicitDefEqProofs only [q,eq_self,xs]
 ·intro i hi
  have q1:((i:Nat):Int) < ((l.length:Nat):Int):=by omega
  have q2:(0:Int)≤(i:Int):=by omega
  have g:=List.getElem?_eq_getElem hi
  have e:=lastP_snoc nm (l.take i) l[i]
  rw [← List.take_succ_eq_append_getElem hi] at e
  rw [e]
  unfold F7f
  have c:(l[i].1.toList==nm.toList)=eqN l[i].1 nm:=rfl
  cases hc:eqN l[i].1 nm
  ·rw [hc] at c
   simp -implicitDefEqProofs only [q1,q2,g,c,w1 (show i≤9223372036854775806 by omega),eq_self,xs]
  ·rw [hc] at c
   simp -implicitDefEqProofs only [q1,q2,g,c,w1 (show i≤9223372036854775806 by omega),eq_self,xs]
theorem bindS {α β:Type} {x:Option α} {y:α} {f:α→Option β} {r:Option β} (h:x=some y) (k:f y=r):x.bind f=r:=by rw [h]; exact k
theorem joinS {α R:Type} {x:Option (α ⊕ R)} {y:α} {k:α→Option R} {r:Option R} (h:x=some (.inl y)) (h2:k y=r):joinX x k=r:=by rw [h]; exact h2
theorem F7_ok {nodes:List Int} {sp T:Int} {L:List ByteArray} {P:List PU} (hP:∀ p ∈ P,p.1.size≤maxLen):F7 (nodes,sp,L,P,T)=some true:=by
 classical
 have f11:F11 ()=some true:=rfl
 have f18:=F18_ok (l:=nodes)
 obtain ⟨v1,f19,l1,l2⟩:=F19_ok L
 have s1:(nodes.take 65).length≤65:=by rw [List.length_take]; omega
 rw [F7_eq]
 generalize nodes.take 65=v0 at *
 obtain ⟨v4,e4,s4⟩:∃ v4:List Int,(Option.bind (cond (decide (((v0.length:Nat):Int) > (6:Int))) (Option.bind (F20 v0) (fun (v2:Bool)=>(some v2))) (some false)) (fun (v3:Bool)=>(cond v3 (cond (decide ((6:Int)≤((v0.length:Nat):Int))) (some (List.take 6 v0)) none) (some v0))))=some v4∧v4.length≤65:=by
  have f20:=F20_ok (l:=v0) (by omega)
  by_cases h:((v0.length:Nat):Int) > 6
  ·have h2:(6:Int)≤((v0.length:Nat):Int):=by omega
   by_cases hn:nodP v0
   ·rw [if_pos hn] at f20
    exact ⟨v0.take 6,by simp -implicitDefEqProofs only [h,h2,f20,eq_self,xs],by rw [List.length_take]; omega⟩
   ·rw [if_neg hn] at f20
    exact ⟨v0,by simp -implicitDefEqProofs only [h,f20,eq_self,xs],s1⟩
  ·exact ⟨v0,by simp -implicitDefEqProofs only [h,eq_self,xs],s1⟩
 obtain ⟨v6,e6,s6,z6⟩:∃ v6:List ByteArray,(Option.bind (cond (decide (((v1.length:Nat):Int) > (12:Int))) (some (decide (((v1.length:Nat):Int)≤(100:Int)))) (some false)) (fun (v5:Bool)=>(cond v5 (cond (decide ((12:Int)≤((v1.length:Nat):Int))) (some (List.take 12 v1)) none) (some v1))))=some v6∧v6.length≤101∧∀ s ∈ v6,s.size≤21:=by
  by_cases h:((v1.length:Nat):Int) > 12
  ·have h2:(12:Int)≤((v1.length:Nat):Int):=by omega
   by_cases h3:((v1.length:Nat):Int)≤100
   ·exact ⟨v1.take 12,by simp -implicitDefEqProofs only [h,h2,h3,eq_self,xs],by rw [List.length_take]; omega,fun s hs=>l2 s (List.mem_of_mem_take hs)⟩
   ·exact ⟨v1,by simp -implicitDefEqProofs only [h,h3,eq_self,xs],l1,l2⟩
  ·exact ⟨v1,by simp -implicitDefEqProofs only [h,eq_self,xs],l1,l2⟩
 obtain ⟨v7,e7,s7,z7⟩:∃ v7:List PU,(cond (decide (((P.length:Nat):Int) > (101:Int))) (cond (decide ((101:Int)≤((P.length:Nat):Int))) (some (List.take 101 P)) none) (some P))=some v7∧v7.length≤101∧∀ p ∈ v7,p.1.size≤maxLen:=by
  by_cases h:((P.length:Nat):Int) > 101
  ·have h2:(101:Int)≤((P.length:Nat):Int):=by omega
   exact ⟨P.take 101,by simp -implicitDefEqProofs only [h,h2,eq_self,xs],by rw [List.length_take]; omega,fun p hp=>hP p (List.mem_of_mem_take hp)⟩
  ·exact ⟨P,by simp -implicitDefEqProofs only [h,eq_self,xs],by omega,hP⟩
 have f13:=F13_ok (t:=T) (n:=sp)
 obtain ⟨t,et⟩:∃ t:ByteArray,(cond (decide (((v6.length:Nat):Int) > (0:Int))) (Option.bind v6[0]? (fun (v14:ByteArray)=>(some v14))) (some (ByteArray.mk #[])))=some t:=by
  by_cases h:0 < v6.length
  ·have q:((v6.length:Nat):Int) > 0:=by omega
   exact ⟨v6[0],by simp -implicitDefEqProofs only [q,List.getElem?_eq_getElem h,eq_self,xs]⟩
  ·have q:¬ ((v6.length:Nat):Int) > 0:=by omega
   exact ⟨ByteArray.mk #[],by simp -implicitDefEqProofs only [q,eq_self,xs]⟩
 have f22:=F22_ok (by omega) z7 t
 have f23:=F23_ok (by omega) z7
 have f24:=F24_ok (by omega) z7
 have m6:∀ s ∈ v6,s.size≤maxLen:=fun s hs=>Nat.le_trans (z6 s hs) (by decide)
 have f25:=F25_ok m6
 have f26:=F26_ok (by omega) m6
 have fl:=F7f_ok (l:=v7) (by omega) t
 obtain ⟨W,hW1,hW2⟩:∃ W:Int×Int,F22 (v7,t)=some W∧(Option.bind (F23 v7) (fun (v22:Bool)=>(cond (!v22) (some ((0:Int),(1:Int))) (some ((lastP t v7).1,(lastP t v7).2)))))=some W:=by
  by_cases h:okL v7
  ·have el:=lastP_look (nm:=t) h.srt
   rw [if_pos h] at f22
   rw [decide_eq_true h] at f23
   exact ⟨lastP t v7,f22.trans (congrArg some el.symm),by simp -implicitDefEqProofs only [f23,eq_self,xs]⟩
  ·rw [if_neg h] at f22
   rw [decide_eq_false h] at f23
   exact ⟨_,f22,by simp -implicitDefEqProofs only [f23,eq_self,xs]⟩
 have d1:((if okL v7 then (0:Int) else 1)==0)=decide (okL v7):=by by_cases h:okL v7<;>simp [h]
 have d2:((if tskP v6 then (0:Int) else 1)==0)=decide (tskP v6):=by by_cases h:tskP v6<;>simp [h]
 have bb:∀ b:Bool,(b==b)=true:=by decide
 have b1:(W.1 != W.1)=false:=bne_self_eq_false _
 have b2:(W.2 != W.2)=false:=bne_self_eq_false _
 have f20:=F20_ok (l:=v4) (by omega)
 have fin:(Option.bind (F12 (v4,sp,v6)) (fun (v30:List PU×Int)=>(joinX (Option.bind (Option.bind (F20 v4) (fun (v31:Bool)=>(cond (!v31) (some true) (cond (decide (sp < (1:Int))) (some true) (cond (decide (sp > (32:Int))) (some true) (Option.bind (F26 v6) (fun (v32:Bool)=>(some (!v32))))))))) (fun (v33:Bool)=>(cond v33 (cond (((v30.1.length:Nat):Int)==(0:Int)) (cond (v30.2==(1:Int)) (Option.bind (F11 ()) (fun (v34:Bool)=>(some (Sum.inr v34)))) (some (.inr false))) (some (.inr false))) (some (.inl ()))))) (fun (v35:Unit)=>(cond (((v4.length:Nat):Int)==(0:Int)) (cond (((v30.1.length:Nat):Int)==(0:Int)) (cond (v30.2==(6:Int)) (Option.bind (F11 ()) (fun (v36:Bool)=>(some v36))) (some false)) (some false)) (Option.bind (F27 (v4,sp,v6)) (fun (v37:List PU)=>(Option.bind (F17 (v30.1,v37)) (fun (v38:Bool)=>(cond v38 (cond (v30.2==(0:Int)) (Option.bind (F11 ()) (fun (v39:Bool)=>(some v39))) (some false)) (some false)))))))))))=some true:=by
  have z0:((([]:List PU).length:Nat):Int)==0:=rfl
  have z1:((1:Int)==1)=true:=rfl
  have z6:((6:Int)==6)=true:=rfl
  have z00:((0:Int)==0)=true:=rfl
  have z01:((((0:Nat)):Int)==0)=true:=rfl
  by_cases hall:nodP v4∧(1≤sp∧sp≤32)∧tskP v6
  ·obtain ⟨h1,h2,h3⟩:=hall
   obtain ⟨m,rfl⟩:∃ m:Nat,sp=m:=⟨sp.toNat,by omega⟩
   rw [if_pos h1] at f20
   rw [decide_eq_true h3] at f26
   have q1:¬ ((m:Nat):Int) < 1:=by omega
   have q2:¬ ((m:Nat):Int) > 32:=by omega
   by_cases h4:v4=[]
   ·subst h4
    have f12:=F12_none h2 h3
    simp -implicitDefEqProofs only [f12,f20,q1,q2,f26,z01,z6,f11,eq_self,xs]
   ·have f12:=F12_in h1 h4 (m:=m) (by omega) (by omega) h3
    have f27:=F27_ok h1 h4 (m:=m) (by omega) (by omega) h3
    have A:=asg_is h1 h4 (m:=m) (by omega) v6
    have hl:=A.len
    have f17:=F17_ok (a:=asg v4 m v6) (b:=asg v4 m v6) (by omega)
    rw [decide_eq_true rfl] at f17
    have z4:(((v4.length:Nat):Int)==0)=false:=by
     rw [beq_eq_false_iff_ne]
     intro q
     exact h4 (List.length_eq_zero_iff.1 (by omega))
    simp -implicitDefEqProofs only [f12,f20,q1,q2,f26,z4,f27,f17,z00,f11,eq_self,xs]
  ·have f12:=F12_bad (l:=v6) (by omega) m6 hall
   by_cases h1:nodP v4
   ·rw [if_pos h1] at f20
    by_cases h2:sp < 1
    ·simp -implicitDefEqProofs only [f12,f20,h2,z01,z1,f11,eq_self,xs]
    ·by_cases h3:sp > 32
     ·simp -implicitDefEqProofs only [f12,f20,h2,h3,z01,z1,f11,eq_self,xs]
     ·rw [decide_eq_false (fun h=>hall ⟨h1,by omega,h⟩)] at f26
      simp -implicitDefEqProofs only [f12,f20,h2,h3,f26,z01,z1,f11,eq_self,xs]
   ·rw [if_neg h1] at f20
    simp -implicitDefEqProofs only [f12,f20,z01,z1,f11,eq_self,xs]
 refine bindS f18 (bindS f19 (bindS e4 (bindS e6 (bindS e7 ?_))))
 have rest:∀ K:Option Bool,K=some true→(Option.bind (cond (decide (((v6.length:Nat):Int) > (0:Int))) (Option.bind v6[0]? (fun (v14:ByteArray)=>(some v14))) (some (ByteArray.mk #[]))) (fun (v15:ByteArray)=>(Option.bind (F22 (v7,v15)) (fun (v16:(Int×Int))=>(Option.bind (loopX (F7f v7 v15) ((0:Int),(6:Int),(0:Int))) (fun (v21:(Int×Int))=>(Option.bind (Option.bind (F23 v7) (fun (v22:Bool)=>(cond (!v22) (some ((0:Int),(1:Int))) (some (v21.1,v21.2))))) (fun (v23:(Int×Int))=>(joinX (Option.bind (Option.bind (F24 v7) (fun (v24:Int)=>(Option.bind (F23 v7) (fun (v25:Bool)=>(cond (!((v24==(0:Int))==v25)) (some true) (cond (v16.1 != v23.1) (some true) (cond (v16.2 != v23.2) (some true) (Option.bind (F25 v6) (fun (v26:Int)=>(Option.bind (F26 v6) (fun (v27:Bool)=>(some (!((v26==(0:Int))==v27)))))))))))))) (fun (v28:Bool)=>(cond v28 (some (Sum.inr false)) (some (.inl ()))))) (fun (v29:Unit)=>K))))))))))=some true:=by
  intro K hK
  refine bindS et (bindS hW1 (bindS fl (bindS hW2 ?_)))
  simp -implicitDefEqProofs only [f24,f23,d1,bb,b1,b2,f25,f26,d2,hK,eq_self,xs]
 have rest:=rest _ fin
 by_cases hr:(0≤T∧T≤100)∧1≤sp∧sp≤64
 ·rw [if_pos hr] at f13
  obtain ⟨a,rfl⟩:∃ a:Nat,T=a:=⟨T.toNat,by omega⟩
  obtain ⟨b,rfl⟩:∃ b:Nat,sp=b:=⟨sp.toNat,by omega⟩
  have f21:=F21_ok (t:=a) (n:=b) (by omega) (by omega)
  rw [Int.toNat_natCast,Int.toNat_natCast] at f13
  refine bindS f13 ?_
  have q1:¬ ((a:Nat):Int) < 0:=by omega
  have q2:¬ ((a:Nat):Int) > 100:=by omega
  have q3:¬ ((b:Nat):Int) < 1:=by omega
  have q4:¬ ((b:Nat):Int) > 64:=by omega
  have x1:(((bndN a b:Nat):Int) != ((bndN a b:Nat):Int))=false:=bne_self_eq_false _
  refine joinS (y:=()) (bindS (y:=false) (by simp only [q1,q2,q3,q4,decide_false,cond_false]) (bindS (y:=false) (bindS f21 ?_) rfl)) rest
  simp only [x1,nz0,cond_false]
 ·rw [if_neg hr] at f13
  refine bindS f13 ?_
  have x1:((0:Int) != 0)=false:=rfl
  have x2:((1:Int) != 1)=false:=rfl
  have seg:(cond (decide (T < (0:Int))) (some true) (cond (decide (T > (100:Int))) (some true) (cond (decide (sp < (1:Int))) (some true) (some (decide (sp > (64:Int)))))))=some true:=by
   by_cases q1:T < 0
   ·simp -implicitDefEqProofs only [q1,eq_self,xs]
   by_cases q2:T > 100
   ·simp -implicitDefEqProofs only [q1,q2,eq_self,xs]
   by_cases q3:sp < 1
   ·simp -implicitDefEqProofs only [q1,q2,q3,eq_self,xs]
   have q4:sp > 64:=by omega
   simp -implicitDefEqProofs only [q1,q2,q3,q4,eq_self,xs]
  exact joinS (y:=()) (bindS seg rfl) rest
end Go.Proofs.YtianfmdemgfgaaaDoor.VL
end
