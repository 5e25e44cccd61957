import Derived.Test.YtgbcankkfmhcoaaW5C10m
import Derived.Test.YtgbcankkfmhcoaaW5Za
section
namespace Go.Proofs.Ytgbcankkfmhcoaa.VL
open Go
set_option linter.unusedVariables false
set_option linter.unusedSectionVars false
set_option linter.unusedSimpArgs false
set_option maxRecDepth 100000
variable [Val]
theorem F37_r (v:ByteArray):F37 v=(Option.bind (F83 v) (fun (v0:Int)=>(loopX (fun (v1:(ByteArray×(Int×Int)))=>(cond (decide (v1.2.2 < (4:Int))) (cond (decide ((v1.1.size+(mkB [bI (IntKind.wrap .u8 (Int.tmod v1.2.1 (256:Int)))]).size)≤4611686018427387904)) (some (.inl ((v1.1++mkB [bI (IntKind.wrap .u8 (Int.tmod v1.2.1 (256:Int)))]),(IntKind.wrap .u32 (Int.tdiv v1.2.1 (256:Int))),(IntKind.wrap .i64 (v1.2.2+(1:Int)))))) none) (some (.inr v1.1)))) (v,v0,(0:Int))))):=by kernel_rfl
theorem crc_nat (l:List UInt8):∃ n:Nat,crc l=((n:Nat):Int)∧n < 4294967296:=⟨_,crc_bv l,BitVec.isLt _⟩
theorem F37_ok {l:List UInt8} (h:l.length≤100000):F37 (mkB l)=some (mkB (l++four (crc l))):=by
 have f:=F83_ok (s:=mkB l) (by rw [mkB_size]; omega)
 rw [mkB_toList] at f
 obtain ⟨n,e,hn⟩:=crc_nat l
 rw [F37_r,f,e]
 simp only [Option.bind_some]
 have d1:Int.fdiv ((n:Nat):Int) 256=((n / 256:Nat):Int):=by rw [Int.fdiv_eq_ediv_of_nonneg _ (by omega)]; omega
 have d2:Int.fdiv ((n:Nat):Int) 65536=((n / 256 / 256:Nat):Int):=by rw [Int.fdiv_eq_ediv_of_nonneg _ (by omega)]; omega
 have d3:Int.fdiv ((n:Nat):Int) 16777216=((n / 256 / 256 / 256:Nat):Int):=by rw [Int.fdiv_eq_ediv_of_nonneg _ (by omega)]; omega
 have e4:four ((n:Nat):Int)=[bI ((n:Nat):Int),bI ((n / 256:Nat):Int),bI ((n / 256 / 256:Nat):Int),bI ((n / 256 / 256 / 256:Nat):Int)]:=by
  unfold four
  rw [d1,d2,d3]
  simp only [List.cons.injEq,and_true]
  refine ⟨bI_cong ?_,bI_cong ?_,bI_cong ?_,bI_cong ?_⟩<;>rw [w8]<;>omega
 have st:∀ m:Nat,m < 4294967296→bI (IntKind.wrap .u8 (Int.tmod ((m:Nat):Int) 256))=bI ((m:Nat):Int)∧IntKind.wrap .u32 (Int.tdiv ((m:Nat):Int) 256)=((m / 256:Nat):Int):=by
  intro m hm
  rw [Int.tmod_eq_emod_of_nonneg (by omega),Int.tdiv_eq_ediv_of_nonneg (by omega)]
  refine ⟨bI_cong ?_,?_⟩
  ·rw [IntKind.wrap_u8]; omega
  ·rw [IntKind.wrap_u32]; omega
 rw [loop_detE (s0:=(mkB l,((n:Nat):Int),(0:Int))) 4 (fun i=>(mkB (l++(four ((n:Nat):Int)).take i),((n / 256 ^ i:Nat):Int),((i:Nat):Int))) (mkB (l++four ((n:Nat):Int))) (by
  simp only [List.take_zero,List.append_nil,Nat.pow_zero,Nat.div_one]; rfl)]
 ·have q:¬ ((4:Nat):Int) < 4:=by omega
  simp only [q,decide_false,cond_false]
  rfl
 ·intro i hi
  have q:((i:Nat):Int) < 4:=by omega
  have hw:=w1 (show i≤9223372036854775806 by omega)
  have hm:n / 256 ^ i < 4294967296:=Nat.lt_of_le_of_lt (Nat.div_le_self _ _) hn
  obtain ⟨s1,s2⟩:=st _ hm
  have q3:(mkB (l++(four ((n:Nat):Int)).take i)).size+(mkB [bI ((n / 256 ^ i:Nat):Int)]).size≤4611686018427387904:=by
   rw [mkB_size,mkB_size,List.length_append,List.length_take,List.length_singleton]
   have h4:(four ((n:Nat):Int)).length=4:=rfl
   omega
  simp only [s1,s2,q,hw,q3,decide_true,cond_true,mkB_app]
  refine congrArg (fun x=>some (Sum.inl x)) ?_
  rw [Nat.div_div_eq_div_mul,← Nat.pow_succ]
  refine Prod.ext ?_ rfl
  show mkB _=mkB _
  rw [List.append_assoc]
  refine congrArg (fun x=>mkB (l++x)) ?_
  rw [e4]
  rcases (by omega:i=0∨i=1∨i=2∨i=3) with rfl | rfl | rfl | rfl
  ·simp
  ·simp
  ·simp [Nat.div_div_eq_div_mul]
  ·simp [Nat.div_div_eq_div_mul]
end Go.Proofs.Ytgbcankkfmhcoaa.VL
end
section
namespace Go.Proofs.Ytgbcankkfmhcoaa.VL
open Go
set_option maxRecDepth 100000
variable [Val]
noncomputable section
def F19k1 (v:(Int×(Int×(Int×(Int×(Int×(Int×((List (Int×(Int×Int)))×((List (Int×Int))×(Int×(Int×(Int×(ByteArray×(Int×Bool)))))))))))))):Option ByteArray:=(pureT tb19 ex19 in19 0 xf19 _ _ []:DT ((.co (.v (.p (.i .i64) (.p (.i .i64) (.p (.i .i64) (.p (.i .u64) (.p (.i .i64) (.p (.i .u64) (.p (.i .i64) (.p (.sl (.p (.i .i64) (.p (.i .u64) (.i .i64)))) (.p (.sl (.p (.i .u64) (.i .i64))) (.p (.i .u64) (.p (.i .u64) (.p (.i .i64) (.p .s (.p (.i .u64) .b))))))))))))))) .no):Fm).den→Option (DT (.v .s:Fm).den)) ((1:Int),v)
def F19k2 (v:(Int×(Int×(Int×(Int×(Int×(Int×((List (Int×(Int×Int)))×((List (Int×Int))×(Int×(Int×(Int×(ByteArray×(Int×Bool)))))))))))))):Option ByteArray:=(pureT tb19 ex19 in19 0 xf19 _ _ []:DT ((.co (.v (.p (.i .i64) (.p (.i .i64) (.p (.i .i64) (.p (.i .u64) (.p (.i .i64) (.p (.i .u64) (.p (.i .i64) (.p (.sl (.p (.i .i64) (.p (.i .u64) (.i .i64)))) (.p (.sl (.p (.i .u64) (.i .i64))) (.p (.i .u64) (.p (.i .u64) (.p (.i .i64) (.p .s (.p (.i .u64) .b))))))))))))))) .no):Fm).den→Option (DT (.v .s:Fm).den)) ((2:Int),v)
def F19k3 (v:(Int×(Int×(Int×(Int×(Int×(Int×((List (Int×(Int×Int)))×((List (Int×Int))×(Int×(Int×(Int×(ByteArray×(Int×Bool)))))))))))))):Option ByteArray:=(pureT tb19 ex19 in19 0 xf19 _ _ []:DT ((.co (.v (.p (.i .i64) (.p (.i .i64) (.p (.i .i64) (.p (.i .u64) (.p (.i .i64) (.p (.i .u64) (.p (.i .i64) (.p (.sl (.p (.i .i64) (.p (.i .u64) (.i .i64)))) (.p (.sl (.p (.i .u64) (.i .i64))) (.p (.i .u64) (.p (.i .u64) (.p (.i .i64) (.p .s (.p (.i .u64) .b))))))))))))))) .no):Fm).den→Option (DT (.v .s:Fm).den)) ((3:Int),v)
def F19k4 (v:(Int×(Int×(Int×(Int×(Int×(Int×((List (Int×(Int×Int)))×((List (Int×Int))×(Int×(Int×(Int×(ByteArray×(Int×Bool)))))))))))))):Option ByteArray:=(pureT tb19 ex19 in19 0 xf19 _ _ []:DT ((.co (.v (.p (.i .i64) (.p (.i .i64) (.p (.i .i64) (.p (.i .u64) (.p (.i .i64) (.p (.i .u64) (.p (.i .i64) (.p (.sl (.p (.i .i64) (.p (.i .u64) (.i .i64)))) (.p (.sl (.p (.i .u64) (.i .i64))) (.p (.i .u64) (.p (.i .u64) (.p (.i .i64) (.p .s (.p (.i .u64) .b))))))))))))))) .no):Fm).den→Option (DT (.v .s:Fm).den)) ((4:Int),v)
def F19k5 (v:(Int×(Int×(Int×(Int×(Int×(Int×((List (Int×(Int×Int)))×((List (Int×Int))×(Int×(Int×(Int×(ByteArray×(Int×Bool)))))))))))))):Option ByteArray:=(pureT tb19 ex19 in19 0 xf19 _ _ []:DT ((.co (.v (.p (.i .i64) (.p (.i .i64) (.p (.i .i64) (.p (.i .u64) (.p (.i .i64) (.p (.i .u64) (.p (.i .i64) (.p (.sl (.p (.i .i64) (.p (.i .u64) (.i .i64)))) (.p (.sl (.p (.i .u64) (.i .i64))) (.p (.i .u64) (.p (.i .u64) (.p (.i .i64) (.p .s (.p (.i .u64) .b))))))))))))))) .no):Fm).den→Option (DT (.v .s:Fm).den)) ((5:Int),v)
def F19k6 (v:(Int×(Int×(Int×(Int×(Int×(Int×((List (Int×(Int×Int)))×((List (Int×Int))×(Int×(Int×(Int×(ByteArray×(Int×Bool)))))))))))))):Option ByteArray:=(pureT tb19 ex19 in19 0 xf19 _ _ []:DT ((.co (.v (.p (.i .i64) (.p (.i .i64) (.p (.i .i64) (.p (.i .u64) (.p (.i .i64) (.p (.i .u64) (.p (.i .i64) (.p (.sl (.p (.i .i64) (.p (.i .u64) (.i .i64)))) (.p (.sl (.p (.i .u64) (.i .i64))) (.p (.i .u64) (.p (.i .u64) (.p (.i .i64) (.p .s (.p (.i .u64) .b))))))))))))))) .no):Fm).den→Option (DT (.v .s:Fm).den)) ((6:Int),v)
def F19k7 (v:(Int×(Int×(Int×(Int×(Int×(Int×((List (Int×(Int×Int)))×((List (Int×Int))×(Int×(Int×(Int×(ByteArray×(Int×Bool)))))))))))))):Option ByteArray:=(pureT tb19 ex19 in19 0 xf19 _ _ []:DT ((.co (.v (.p (.i .i64) (.p (.i .i64) (.p (.i .i64) (.p (.i .u64) (.p (.i .i64) (.p (.i .u64) (.p (.i .i64) (.p (.sl (.p (.i .i64) (.p (.i .u64) (.i .i64)))) (.p (.sl (.p (.i .u64) (.i .i64))) (.p (.i .u64) (.p (.i .u64) (.p (.i .i64) (.p .s (.p (.i .u64) .b))))))))))))))) .no):Fm).den→Option (DT (.v .s:Fm).den)) ((7:Int),v)
def F19k8 (v:(Int×(Int×(Int×(Int×(Int×(Int×((List (Int×(Int×Int)))×((List (Int×Int))×(Int×(Int×(Int×(ByteArray×(Int×Bool)))))))))))))):Option ByteArray:=(pureT tb19 ex19 in19 0 xf19 _ _ []:DT ((.co (.v (.p (.i .i64) (.p (.i .i64) (.p (.i .i64) (.p (.i .u64) (.p (.i .i64) (.p (.i .u64) (.p (.i .i64) (.p (.sl (.p (.i .i64) (.p (.i .u64) (.i .i64)))) (.p (.sl (.p (.i .u64) (.i .i64))) (.p (.i .u64) (.p (.i .u64) (.p (.i .i64) (.p .s (.p (.i .u64) .b))))))))))))))) .no):Fm).den→Option (DT (.v .s:Fm).den)) ((8:Int),v)
def F19k9 (v:(Int×(Int×(Int×(Int×(Int×(Int×((List (Int×(Int×Int)))×((List (Int×Int))×(Int×(Int×(Int×(ByteArray×(Int×Bool)))))))))))))):Option ByteArray:=(pureT tb19 ex19 in19 0 xf19 _ _ []:DT ((.co (.v (.p (.i .i64) (.p (.i .i64) (.p (.i .i64) (.p (.i .u64) (.p (.i .i64) (.p (.i .u64) (.p (.i .i64) (.p (.sl (.p (.i .i64) (.p (.i .u64) (.i .i64)))) (.p (.sl (.p (.i .u64) (.i .i64))) (.p (.i .u64) (.p (.i .u64) (.p (.i .i64) (.p .s (.p (.i .u64) .b))))))))))))))) .no):Fm).den→Option (DT (.v .s:Fm).den)) ((9:Int),v)
def F19k10 (v:(Int×(Int×(Int×(Int×(Int×(Int×((List (Int×(Int×Int)))×((List (Int×Int))×(Int×(Int×(Int×(ByteArray×(Int×Bool)))))))))))))):Option ByteArray:=(pureT tb19 ex19 in19 0 xf19 _ _ []:DT ((.co (.v (.p (.i .i64) (.p (.i .i64) (.p (.i .i64) (.p (.i .u64) (.p (.i .i64) (.p (.i .u64) (.p (.i .i64) (.p (.sl (.p (.i .i64) (.p (.i .u64) (.i .i64)))) (.p (.sl (.p (.i .u64) (.i .i64))) (.p (.i .u64) (.p (.i .u64) (.p (.i .i64) (.p .s (.p (.i .u64) .b))))))))))))))) .no):Fm).den→Option (DT (.v .s:Fm).den)) ((10:Int),v)
def F19k11 (v:(Int×(Int×(Int×(Int×(Int×(Int×((List (Int×(Int×Int)))×((List (Int×Int))×(Int×(Int×(Int×(ByteArray×(Int×Bool)))))))))))))):Option ByteArray:=(pureT tb19 ex19 in19 0 xf19 _ _ []:DT ((.co (.v (.p (.i .i64) (.p (.i .i64) (.p (.i .i64) (.p (.i .u64) (.p (.i .i64) (.p (.i .u64) (.p (.i .i64) (.p (.sl (.p (.i .i64) (.p (.i .u64) (.i .i64)))) (.p (.sl (.p (.i .u64) (.i .i64))) (.p (.i .u64) (.p (.i .u64) (.p (.i .i64) (.p .s (.p (.i .u64) .b))))))))))))))) .no):Fm).den→Option (DT (.v .s:Fm).den)) ((11:Int),v)
def F19k12 (v:(Int×(Int×(Int×(Int×(Int×(Int×((List (Int×(Int×Int)))×((List (Int×Int))×(Int×(Int×(Int×(ByteArray×(Int×Bool)))))))))))))):Option ByteArray:=(pureT tb19 ex19 in19 0 xf19 _ _ []:DT ((.co (.v (.p (.i .i64) (.p (.i .i64) (.p (.i .i64) (.p (.i .u64) (.p (.i .i64) (.p (.i .u64) (.p (.i .i64) (.p (.sl (.p (.i .i64) (.p (.i .u64) (.i .i64)))) (.p (.sl (.p (.i .u64) (.i .i64))) (.p (.i .u64) (.p (.i .u64) (.p (.i .i64) (.p .s (.p (.i .u64) .b))))))))))))))) .no):Fm).den→Option (DT (.v .s:Fm).den)) ((12:Int),v)
end
end Go.Proofs.Ytgbcankkfmhcoaa.VL
end
section
namespace Go.Proofs.Ytgbcankkfmhcoaa.VL
open Go
set_option maxRecDepth 100000
set_option linter.unusedVariables false
set_option linter.unusedSectionVars false
variable [Val]
theorem F19k1_eq (v:(Int×(Int×(Int×(Int×(Int×(Int×((List (Int×(Int×Int)))×((List (Int×Int))×(Int×(Int×(Int×(ByteArray×(Int×Bool)))))))))))))):F19k1 v=(loopX (fun (v0:(Int×(List Int)))=>(cond (decide (v0.1 < ((v.2.2.2.2.2.2.1.length:Nat):Int))) (cond (decide ((0:Int)≤v0.1)) (Option.bind v.2.2.2.2.2.2.1[(Int.toNat v0.1)]? (fun (v1:(Int×(Int×Int)))=>(cond (decide ((0:Int)≤v0.1)) (Option.bind v.2.2.2.2.2.2.1[(Int.toNat v0.1)]? (fun (v2:(Int×(Int×Int)))=>(cond (decide ((0:Int)≤v0.1)) (Option.bind v.2.2.2.2.2.2.1[(Int.toNat v0.1)]? (fun (v3:(Int×(Int×Int)))=>(cond ((decide ((0+v0.2.length)≤v0.2.length))&&((decide (((((v0.2.length+3):Nat):Int) * (8:Int))≤(70368744177664:Int)))&&(decide ((((v0.2.length+3):Nat):Int)≤(70368744177664:Int))))) (cond (decide (((0+v0.2.length)+3)≤v0.2.length)) (cond (decide ((v0.2.length+3)=(Append.append (Append.append (List.take (0+v0.2.length) v0.2) ((IntKind.wrap IntKind.u64 v1.1)::(v2.2.1::((IntKind.wrap IntKind.u64 v3.2.2)::[])))) (List.drop ((0+v0.2.length)+3) v0.2)).length)) (some (.inl ((IntKind.wrap IntKind.i64 (v0.1+(1:Int))),(Append.append (Append.append (List.take (0+v0.2.length) v0.2) ((IntKind.wrap IntKind.u64 v1.1)::(v2.2.1::((IntKind.wrap IntKind.u64 v3.2.2)::[])))) (List.drop ((0+v0.2.length)+3) v0.2))))) none) (cond (decide ((v0.2.length+3)=(Append.append (List.take v0.2.length v0.2) ((IntKind.wrap IntKind.u64 v1.1)::(v2.2.1::((IntKind.wrap IntKind.u64 v3.2.2)::[])))).length)) (some (.inl ((IntKind.wrap IntKind.i64 (v0.1+(1:Int))),(Append.append (List.take v0.2.length v0.2) ((IntKind.wrap IntKind.u64 v1.1)::(v2.2.1::((IntKind.wrap IntKind.u64 v3.2.2)::[]))))))) none)) none))) none))) none))) none) (Option.map (Sum.inr) (cond (decide ((0+v0.2.length)≤v0.2.length)) (Option.bind (F40 (List.take v0.2.length v0.2)) (fun (v4:ByteArray)=>(Option.bind (F37 v4) (fun (v5:ByteArray)=>(some v5))))) none)))) ((0:Int),((1:Int)::((IntKind.wrap IntKind.u64 v.1)::((IntKind.wrap IntKind.u64 v.2.1)::(v.2.2.1::(v.2.2.2.2.1::((IntKind.wrap IntKind.u64 v.2.2.2.2.2.1)::((IntKind.wrap IntKind.u64 ((v.2.2.2.2.2.2.1.length:Nat):Int))::[]))))))))):=by kernel_rfl
theorem F19k2_eq (v:(Int×(Int×(Int×(Int×(Int×(Int×((List (Int×(Int×Int)))×((List (Int×Int))×(Int×(Int×(Int×(ByteArray×(Int×Bool)))))))))))))):F19k2 v=(loopX (fun (v0:(Int×(List Int)))=>(cond (decide (v0.1 < ((v.2.2.2.2.2.2.1.length:Nat):Int))) (cond (decide ((0:Int)≤v0.1)) (Option.bind v.2.2.2.2.2.2.1[(Int.toNat v0.1)]? (fun (v1:(Int×(Int×Int)))=>(cond (decide ((0:Int)≤v0.1)) (Option.bind v.2.2.2.2.2.2.1[(Int.toNat v0.1)]? (fun (v2:(Int×(Int×Int)))=>(cond (decide ((0:Int)≤v0.1)) (Option.bind v.2.2.2.2.2.2.1[(Int.toNat v0.1)]? (fun (v3:(Int×(Int×Int)))=>(cond ((decide ((0+v0.2.length)≤v0.2.length))&&((decide (((((v0.2.length+3):Nat):Int) * (8:Int))≤(70368744177664:Int)))&&(decide ((((v0.2.length+3):Nat):Int)≤(70368744177664:Int))))) (cond (decide (((0+v0.2.length)+3)≤v0.2.length)) (cond (decide ((v0.2.length+3)=(Append.append (Append.append (List.take (0+v0.2.length) v0.2) ((IntKind.wrap IntKind.u64 v1.1)::(v2.2.1::((IntKind.wrap IntKind.u64 v3.2.2)::[])))) (List.drop ((0+v0.2.length)+3) v0.2)).length)) (some (.inl ((IntKind.wrap IntKind.i64 (v0.1+(1:Int))),(Append.append (Append.append (List.take (0+v0.2.length) v0.2) ((IntKind.wrap IntKind.u64 v1.1)::(v2.2.1::((IntKind.wrap IntKind.u64 v3.2.2)::[])))) (List.drop ((0+v0.2.length)+3) v0.2))))) none) (cond (decide ((v0.2.length+3)=(Append.append (List.take v0.2.length v0.2) ((IntKind.wrap IntKind.u64 v1.1)::(v2.2.1::((IntKind.wrap IntKind.u64 v3.2.2)::[])))).length)) (some (.inl ((IntKind.wrap IntKind.i64 (v0.1+(1:Int))),(Append.append (List.take v0.2.length v0.2) ((IntKind.wrap IntKind.u64 v1.1)::(v2.2.1::((IntKind.wrap IntKind.u64 v3.2.2)::[]))))))) none)) none))) none))) none))) none) (Option.map (Sum.inr) (cond (decide ((0+v0.2.length)≤v0.2.length)) (Option.bind (F40 (List.take v0.2.length v0.2)) (fun (v4:ByteArray)=>(Option.bind (F37 v4) (fun (v5:ByteArray)=>(some v5))))) none)))) ((0:Int),((2:Int)::((IntKind.wrap IntKind.u64 v.1)::((IntKind.wrap IntKind.u64 v.2.1)::(v.2.2.1::((IntKind.wrap IntKind.u64 v.2.2.2.1)::((IntKind.wrap IntKind.u64 ((v.2.2.2.2.2.2.1.length:Nat):Int))::[])))))))):=by kernel_rfl
theorem F19k3_eq (v:(Int×(Int×(Int×(Int×(Int×(Int×((List (Int×(Int×Int)))×((List (Int×Int))×(Int×(Int×(Int×(ByteArray×(Int×Bool)))))))))))))):F19k3 v=(loopX (fun (v0:(Int×(List Int)))=>(cond (decide (v0.1 < ((v.2.2.2.2.2.2.1.length:Nat):Int))) (cond (decide ((0:Int)≤v0.1)) (Option.bind v.2.2.2.2.2.2.1[(Int.toNat v0.1)]? (fun (v1:(Int×(Int×Int)))=>(cond (decide ((0:Int)≤v0.1)) (Option.bind v.2.2.2.2.2.2.1[(Int.toNat v0.1)]? (fun (v2:(Int×(Int×Int)))=>(cond (decide ((0:Int)≤v0.1)) (Option.bind v.2.2.2.2.2.2.1[(Int.toNat v0.1)]? (fun (v3:(Int×(Int×Int)))=>(cond ((decide ((0+v0.2.length)≤v0.2.length))&&((decide (((((v0.2.length+3):Nat):Int) * (8:Int))≤(70368744177664:Int)))&&(decide ((((v0.2.length+3):Nat):Int)≤(70368744177664:Int))))) (cond (decide (((0+v0.2.length)+3)≤v0.2.length)) (cond (decide ((v0.2.length+3)=(Append.append (Append.append (List.take (0+v0.2.length) v0.2) ((IntKind.wrap IntKind.u64 v1.1)::(v2.2.1::((IntKind.wrap IntKind.u64 v3.2.2)::[])))) (List.drop ((0+v0.2.length)+3) v0.2)).length)) (some (.inl ((IntKind.wrap IntKind.i64 (v0.1+(1:Int))),(Append.append (Append.append (List.take (0+v0.2.length) v0.2) ((IntKind.wrap IntKind.u64 v1.1)::(v2.2.1::((IntKind.wrap IntKind.u64 v3.2.2)::[])))) (List.drop ((0+v0.2.length)+3) v0.2))))) none) (cond (decide ((v0.2.length+3)=(Append.append (List.take v0.2.length v0.2) ((IntKind.wrap IntKind.u64 v1.1)::(v2.2.1::((IntKind.wrap IntKind.u64 v3.2.2)::[])))).length)) (some (.inl ((IntKind.wrap IntKind.i64 (v0.1+(1:Int))),(Append.append (List.take v0.2.length v0.2) ((IntKind.wrap IntKind.u64 v1.1)::(v2.2.1::((IntKind.wrap IntKind.u64 v3.2.2)::[]))))))) none)) none))) none))) none))) none) (Option.map (Sum.inr) (cond (decide ((0+v0.2.length)≤v0.2.length)) (Option.bind (F40 (List.take v0.2.length v0.2)) (fun (v4:ByteArray)=>(Option.bind (F37 v4) (fun (v5:ByteArray)=>(some v5))))) none)))) ((0:Int),((3:Int)::((IntKind.wrap IntKind.u64 v.1)::((IntKind.wrap IntKind.u64 v.2.1)::(v.2.2.1::((IntKind.wrap IntKind.u64 v.2.2.2.1)::(v.2.2.2.2.1::((IntKind.wrap IntKind.u64 v.2.2.2.2.2.1)::((IntKind.wrap IntKind.u64 ((v.2.2.2.2.2.2.1.length:Nat):Int))::[])))))))))):=by kernel_rfl
theorem F19k4_eq (v:(Int×(Int×(Int×(Int×(Int×(Int×((List (Int×(Int×Int)))×((List (Int×Int))×(Int×(Int×(Int×(ByteArray×(Int×Bool)))))))))))))):F19k4 v=(Option.bind (F40 ((4:Int)::((IntKind.wrap IntKind.u64 v.1)::((IntKind.wrap IntKind.u64 v.2.1)::(v.2.2.1::((IntKind.wrap IntKind.u64 v.2.2.2.1)::[])))))) (fun (v0:ByteArray)=>(Option.bind (F37 v0) (fun (v1:ByteArray)=>(some v1))))):=by kernel_rfl
theorem F19k5_eq (v:(Int×(Int×(Int×(Int×(Int×(Int×((List (Int×(Int×Int)))×((List (Int×Int))×(Int×(Int×(Int×(ByteArray×(Int×Bool)))))))))))))):F19k5 v=(loopX (fun (v0:(Int×(List Int)))=>(cond (decide (v0.1 < ((v.2.2.2.2.2.2.2.1.length:Nat):Int))) (cond (decide ((0:Int)≤v0.1)) (Option.bind v.2.2.2.2.2.2.2.1[(Int.toNat v0.1)]? (fun (v1:(Int×Int))=>(cond (decide ((0:Int)≤v0.1)) (Option.bind v.2.2.2.2.2.2.2.1[(Int.toNat v0.1)]? (fun (v2:(Int×Int))=>(cond ((decide ((0+v0.2.length)≤v0.2.length))&&((decide (((((v0.2.length+2):Nat):Int) * (8:Int))≤(70368744177664:Int)))&&(decide ((((v0.2.length+2):Nat):Int)≤(70368744177664:Int))))) (cond (decide (((0+v0.2.length)+2)≤v0.2.length)) (cond (decide ((v0.2.length+2)=(Append.append (Append.append (List.take (0+v0.2.length) v0.2) (v1.1::((IntKind.wrap IntKind.u64 v2.2)::[]))) (List.drop ((0+v0.2.length)+2) v0.2)).length)) (some (.inl ((IntKind.wrap IntKind.i64 (v0.1+(1:Int))),(Append.append (Append.append (List.take (0+v0.2.length) v0.2) (v1.1::((IntKind.wrap IntKind.u64 v2.2)::[]))) (List.drop ((0+v0.2.length)+2) v0.2))))) none) (cond (decide ((v0.2.length+2)=(Append.append (List.take v0.2.length v0.2) (v1.1::((IntKind.wrap IntKind.u64 v2.2)::[]))).length)) (some (.inl ((IntKind.wrap IntKind.i64 (v0.1+(1:Int))),(Append.append (List.take v0.2.length v0.2) (v1.1::((IntKind.wrap IntKind.u64 v2.2)::[])))))) none)) none))) none))) none) (Option.map (Sum.inr) (cond (decide ((0+v0.2.length)≤v0.2.length)) (Option.bind (F40 (List.take v0.2.length v0.2)) (fun (v3:ByteArray)=>(Option.bind (F37 v3) (fun (v4:ByteArray)=>(some v4))))) none)))) ((0:Int),((5:Int)::((IntKind.wrap IntKind.u64 v.1)::((IntKind.wrap IntKind.u64 v.2.1)::((IntKind.wrap IntKind.u64 ((v.2.2.2.2.2.2.2.1.length:Nat):Int))::[])))))):=by kernel_rfl
theorem F19k6_eq (v:(Int×(Int×(Int×(Int×(Int×(Int×((List (Int×(Int×Int)))×((List (Int×Int))×(Int×(Int×(Int×(ByteArray×(Int×Bool)))))))))))))):F19k6 v=(loopX (fun (v0:(Int×(List Int)))=>(cond (decide (v0.1 < ((v.2.2.2.2.2.2.2.1.length:Nat):Int))) (cond (decide ((0:Int)≤v0.1)) (Option.bind v.2.2.2.2.2.2.2.1[(Int.toNat v0.1)]? (fun (v1:(Int×Int))=>(cond (decide ((0:Int)≤v0.1)) (Option.bind v.2.2.2.2.2.2.2.1[(Int.toNat v0.1)]? (fun (v2:(Int×Int))=>(cond ((decide ((0+v0.2.length)≤v0.2.length))&&((decide (((((v0.2.length+2):Nat):Int) * (8:Int))≤(70368744177664:Int)))&&(decide ((((v0.2.length+2):Nat):Int)≤(70368744177664:Int))))) (cond (decide (((0+v0.2.length)+2)≤v0.2.length)) (cond (decide ((v0.2.length+2)=(Append.append (Append.append (List.take (0+v0.2.length) v0.2) (v1.1::((IntKind.wrap IntKind.u64 v2.2)::[]))) (List.drop ((0+v0.2.length)+2) v0.2)).length)) (some (.inl ((IntKind.wrap IntKind.i64 (v0.1+(1:Int))),(Append.append (Append.append (List.take (0+v0.2.length) v0.2) (v1.1::((IntKind.wrap IntKind.u64 v2.2)::[]))) (List.drop ((0+v0.2.length)+2) v0.2))))) none) (cond (decide ((v0.2.length+2)=(Append.append (List.take v0.2.length v0.2) (v1.1::((IntKind.wrap IntKind.u64 v2.2)::[]))).length)) (some (.inl ((IntKind.wrap IntKind.i64 (v0.1+(1:Int))),(Append.append (List.take v0.2.length v0.2) (v1.1::((IntKind.wrap IntKind.u64 v2.2)::[])))))) none)) none))) none))) none) (Option.map (Sum.inr) (cond (decide ((0+v0.2.length)≤v0.2.length)) (Option.bind (F40 (List.take v0.2.length v0.2)) (fun (v3:ByteArray)=>(Option.bind (F37 v3) (fun (v4:ByteArray)=>(some v4))))) none)))) ((0:Int),((6:Int)::((IntKind.wrap IntKind.u64 v.1)::((IntKind.wrap IntKind.u64 v.2.1)::((IntKind.wrap IntKind.u64 ((v.2.2.2.2.2.2.2.1.length:Nat):Int))::[])))))):=by kernel_rfl
theorem F19k7_eq (v:(Int×(Int×(Int×(Int×(Int×(Int×((List (Int×(Int×Int)))×((List (Int×Int))×(Int×(Int×(Int×(ByteArray×(Int×Bool)))))))))))))):F19k7 v=(Option.bind (F40 ((7:Int)::((IntKind.wrap IntKind.u64 v.1)::((IntKind.wrap IntKind.u64 v.2.1)::(v.2.2.2.2.2.2.2.2.1::(v.2.2.2.2.2.2.2.2.2.1::((IntKind.wrap IntKind.u64 v.2.2.2.2.2.2.2.2.2.2.1)::[]))))))) (fun (v0:ByteArray)=>(Option.bind (F37 v0) (fun (v1:ByteArray)=>(some v1))))):=by kernel_rfl
theorem F19k8_eq (v:(Int×(Int×(Int×(Int×(Int×(Int×((List (Int×(Int×Int)))×((List (Int×Int))×(Int×(Int×(Int×(ByteArray×(Int×Bool)))))))))))))):F19k8 v=(Option.bind (F40 ((8:Int)::((IntKind.wrap IntKind.u64 v.1)::((IntKind.wrap IntKind.u64 v.2.1)::(v.2.2.2.2.2.2.2.2.1::(v.2.2.2.2.2.2.2.2.2.1::((IntKind.wrap IntKind.u64 v.2.2.2.2.2.2.2.2.2.2.1)::[]))))))) (fun (v0:ByteArray)=>(Option.bind (F37 v0) (fun (v1:ByteArray)=>(some v1))))):=by kernel_rfl
theorem F19k9_eq (v:(Int×(Int×(Int×(Int×(Int×(Int×((List (Int×(Int×Int)))×((List (Int×Int))×(Int×(Int×(Int×(ByteArray×(Int×Bool)))))))))))))):F19k9 v=(Option.bind (F40 ((9:Int)::((IntKind.wrap IntKind.u64 v.1)::((IntKind.wrap IntKind.u64 v.2.1)::(v.2.2.2.2.2.2.2.2.1::(v.2.2.2.2.2.2.2.2.2.1::[])))))) (fun (v0:ByteArray)=>(Option.bind (F37 v0) (fun (v1:ByteArray)=>(some v1))))):=by kernel_rfl
theorem F19k10_eq (v:(Int×(Int×(Int×(Int×(Int×(Int×((List (Int×(Int×Int)))×((List (Int×Int))×(Int×(Int×(Int×(ByteArray×(Int×Bool)))))))))))))):F19k10 v=(Option.bind (F40 ((10:Int)::((IntKind.wrap IntKind.u64 v.1)::((IntKind.wrap IntKind.u64 v.2.1)::(v.2.2.2.2.2.2.2.2.2.1::((IntKind.wrap IntKind.u64 v.2.2.2.2.2.2.2.2.2.2.1)::[])))))) (fun (v0:ByteArray)=>(Option.bind (F37 v0) (fun (v1:ByteArray)=>(some v1))))):=by kernel_rfl
theorem F19k11_eq (v:(Int×(Int×(Int×(Int×(Int×(Int×((List (Int×(Int×Int)))×((List (Int×Int))×(Int×(Int×(Int×(ByteArray×(Int×Bool)))))))))))))):F19k11 v=(Option.bind (F40 ((11:Int)::((IntKind.wrap IntKind.u64 v.1)::((IntKind.wrap IntKind.u64 v.2.1)::(v.2.2.2.2.2.2.2.2.1::(v.2.2.2.2.2.2.2.2.2.1::((IntKind.wrap IntKind.u64 v.2.2.2.2.2.2.2.2.2.2.1)::[]))))))) (fun (v0:ByteArray)=>(Option.bind (Option.bind (F41 v.2.2.2.2.2.2.2.2.2.2.2.1) (fun (v1:ByteArray)=>(Option.bind (F42 v.2.2.2.2.2.2.2.2.2.2.2.2.1) (fun (v2:ByteArray)=>(cond (decide (((ByteArray.size v1)+(ByteArray.size v2))≤4611686018427387904)) (cond (decide (((ByteArray.size v0)+(ByteArray.size (v1++v2)))≤4611686018427387904)) (some (v0++(v1++v2))) none) none))))) (fun (v3:ByteArray)=>(Option.bind (F37 v3) (fun (v4:ByteArray)=>(some v4))))))):=by kernel_rfl
theorem F19k12_eq (v:(Int×(Int×(Int×(Int×(Int×(Int×((List (Int×(Int×Int)))×((List (Int×Int))×(Int×(Int×(Int×(ByteArray×(Int×Bool)))))))))))))):F19k12 v=(Option.bind (F40 ((12:Int)::((IntKind.wrap IntKind.u64 v.1)::((IntKind.wrap IntKind.u64 v.2.1)::[])))) (fun (v0:ByteArray)=>(Option.bind (Option.bind (F41 v.2.2.2.2.2.2.2.2.2.2.2.1) (fun (v1:ByteArray)=>(Option.bind (F42 v.2.2.2.2.2.2.2.2.2.2.2.2.1) (fun (v2:ByteArray)=>(cond (decide (((ByteArray.size v1)+(ByteArray.size v2))≤4611686018427387904)) (cond (decide (((ByteArray.size v0)+(ByteArray.size (v1++v2)))≤4611686018427387904)) (some (v0++(v1++v2))) none) none))))) (fun (v3:ByteArray)=>(Option.bind (cond v.2.2.2.2.2.2.2.2.2.2.2.2.2 (cond (decide (((ByteArray.size v3)+(ByteArray.size (ByteArray.mk #[1])))≤4611686018427387904)) (some (v3++(ByteArray.mk #[1]))) none) (some v3)) (fun (v4:ByteArray)=>(cond (!v.2.2.2.2.2.2.2.2.2.2.2.2.2) (cond (decide (((ByteArray.size v4)+(ByteArray.size (ByteArray.mk #[0])))≤4611686018427387904)) (Option.bind (F37 (v4++(ByteArray.mk #[0]))) (fun (v5:ByteArray)=>(some v5))) none) (Option.bind (F37 v4) (fun (v6:ByteArray)=>(some v6)))))))))):=by kernel_rfl
end Go.Proofs.Ytgbcankkfmhcoaa.VL
end
section
namespace Go.Proofs.Ytgbcankkfmhcoaa.VL
open Go
set_option linter.unusedVariables false
set_option linter.unusedSectionVars false
set_option linter.unusedSimpArgs false
set_option maxRecDepth 100000
variable [Val]
theorem numsU_app (a b:List Int):numsU (a++b)=numsU a++numsU b:=by unfold numsU; rw [List.flatMap_append]
theorem many_loop19 {E:Type} {f:Int×List Int→Option ((Int×List Int) ⊕ ByteArray)} {l:List E} (hl:l.length≤100) (g:E→List Int) (hg:∀ x ∈ l,(g x).length≤3∧∀ y ∈ g x,U64 y) (L0:List Int) (h0:L0.length≤20) (hr:∀ x ∈ L0,U64 x)
  (hend:∀ L,L.length≤320→f (((l.length:Nat):Int),L)=(Option.map Sum.inr (Option.bind (F40 L) fun v4=>Option.bind (F37 v4) fun v5=>some v5)))
  (hstep:∀ (i:Nat) (L:List Int) (h:i < l.length),L.length≤320→f (((i:Nat):Int),L)=some (.inl (((i+1:Nat):Int),L++g l[i]))) :
  loopX f (0,L0)=some (mkB ((numsU L0++l.flatMap fun x=>numsU (g x))++four (crc (numsU L0++l.flatMap fun x=>numsU (g x))))):=by
 have hlen:∀ i,((l.take i).flatMap g).length≤3 * l.length:=by
  intro i
  have key:∀ m:List E,(∀ x ∈ m,(g x).length≤3)→(m.flatMap g).length≤3 * m.length:=by
   intro m
   induction m with
   | nil=>intro _; exact Nat.le_refl _
   | cons a r ih =>
    intro h
    have h1:=ih (fun x hx=>h x (by simp [hx]))
    have h2:=h a (by simp)
    rw [List.flatMap_cons,List.length_append,List.length_cons]
    omega
  have:=key (l.take i) (fun x hx=>(hg x (List.mem_of_mem_take hx)).1)
  rw [List.length_take] at this
  omega
 have hall:∀ x ∈ L0++l.flatMap g,U64 x:=by
  intro x hx
  rcases List.mem_append.1 hx with h | h
  ·exact hr x h
  ·obtain ⟨y,hy,hxy⟩:=List.mem_flatMap.1 h
   exact (hg y hy).2 x hxy
 have hL:=hlen l.length
 rw [List.take_length] at hL
 have e:numsU (L0++l.flatMap g)=numsU L0++l.flatMap fun x=>numsU (g x):=by
  rw [numsU_app]
  congr 1
  unfold numsU
  rw [List.flatMap_assoc]
 have f40:=F40_ok (l:=L0++l.flatMap g) (by rw [List.length_append]; omega) hall
 have hn:=numsU_len hall
 rw [e] at f40 hn
 have hn2:(L0++l.flatMap g).length≤320:=by rw [List.length_append]; omega
 have f37:=F37_ok (l:=numsU L0++l.flatMap fun x=>numsU (g x)) (by omega)
 rw [loop_detE (s0:=((0:Int),L0)) l.length (fun i=>(((i:Nat):Int),L0++(l.take i).flatMap g)) _ (by simp)]
 ·rw [List.take_length,hend _ (by rw [List.length_append]; omega),f40]
  simp only [Option.bind_some,f37,Option.map_some]
 ·intro i hi
  have:=hlen i
  rw [hstep i _ hi (by rw [List.length_append]; omega)]
  refine congrArg (fun x=>some (Sum.inl x)) ?_
  rw [List.take_succ_eq_append_getElem hi,List.flatMap_append,List.append_assoc]
  simp
noncomputable def nwF (l:List NW):Int×List Int→Option ((Int×List Int) ⊕ ByteArray):=(fun (v0:(Int×(List Int)))=>(cond (decide (v0.1 < ((l.length:Nat):Int))) (cond (decide ((0:Int)≤v0.1)) (Option.bind l[(Int.toNat v0.1)]? (fun (v1:(Int×(Int×Int)))=>(cond (decide ((0:Int)≤v0.1)) (Option.bind l[(Int.toNat v0.1)]? (fun (v2:(Int×(Int×Int)))=>(cond (decide ((0:Int)≤v0.1)) (Option.bind l[(Int.toNat v0.1)]? (fun (v3:(Int×(Int×Int)))=>(cond ((decide ((0+v0.2.length)≤v0.2.length))&&((decide (((((v0.2.length+3):Nat):Int) * (8:Int))≤(70368744177664:Int)))&&(decide ((((v0.2.length+3):Nat):Int)≤(70368744177664:Int))))) (cond (decide (((0+v0.2.length)+3)≤v0.2.length)) (cond (decide ((v0.2.length+3)=(Append.append (Append.append (List.take (0+v0.2.length) v0.2) ((IntKind.wrap IntKind.u64 v1.1)::(v2.2.1::((IntKind.wrap IntKind.u64 v3.2.2)::[])))) (List.drop ((0+v0.2.length)+3) v0.2)).length)) (some (.inl ((IntKind.wrap IntKind.i64 (v0.1+(1:Int))),(Append.append (Append.append (List.take (0+v0.2.length) v0.2) ((IntKind.wrap IntKind.u64 v1.1)::(v2.2.1::((IntKind.wrap IntKind.u64 v3.2.2)::[])))) (List.drop ((0+v0.2.length)+3) v0.2))))) none) (cond (decide ((v0.2.length+3)=(Append.append (List.take v0.2.length v0.2) ((IntKind.wrap IntKind.u64 v1.1)::(v2.2.1::((IntKind.wrap IntKind.u64 v3.2.2)::[])))).length)) (some (.inl ((IntKind.wrap IntKind.i64 (v0.1+(1:Int))),(Append.append (List.take v0.2.length v0.2) ((IntKind.wrap IntKind.u64 v1.1)::(v2.2.1::((IntKind.wrap IntKind.u64 v3.2.2)::[]))))))) none)) none))) none))) none))) none) (Option.map (Sum.inr) (cond (decide ((0+v0.2.length)≤v0.2.length)) (Option.bind (F40 (List.take v0.2.length v0.2)) (fun (v4:ByteArray)=>(Option.bind (F37 v4) (fun (v5:ByteArray)=>(some v5))))) none))))
noncomputable def tbF (l:List KW):Int×List Int→Option ((Int×List Int) ⊕ ByteArray):=(fun (v0:(Int×(List Int)))=>(cond (decide (v0.1 < ((l.length:Nat):Int))) (cond (decide ((0:Int)≤v0.1)) (Option.bind l[(Int.toNat v0.1)]? (fun (v1:(Int×Int))=>(cond (decide ((0:Int)≤v0.1)) (Option.bind l[(Int.toNat v0.1)]? (fun (v2:(Int×Int))=>(cond ((decide ((0+v0.2.length)≤v0.2.length))&&((decide (((((v0.2.length+2):Nat):Int) * (8:Int))≤(70368744177664:Int)))&&(decide ((((v0.2.length+2):Nat):Int)≤(70368744177664:Int))))) (cond (decide (((0+v0.2.length)+2)≤v0.2.length)) (cond (decide ((v0.2.length+2)=(Append.append (Append.append (List.take (0+v0.2.length) v0.2) (v1.1::((IntKind.wrap IntKind.u64 v2.2)::[]))) (List.drop ((0+v0.2.length)+2) v0.2)).length)) (some (.inl ((IntKind.wrap IntKind.i64 (v0.1+(1:Int))),(Append.append (Append.append (List.take (0+v0.2.length) v0.2) (v1.1::((IntKind.wrap IntKind.u64 v2.2)::[]))) (List.drop ((0+v0.2.length)+2) v0.2))))) none) (cond (decide ((v0.2.length+2)=(Append.append (List.take v0.2.length v0.2) (v1.1::((IntKind.wrap IntKind.u64 v2.2)::[]))).length)) (some (.inl ((IntKind.wrap IntKind.i64 (v0.1+(1:Int))),(Append.append (List.take v0.2.length v0.2) (v1.1::((IntKind.wrap IntKind.u64 v2.2)::[])))))) none)) none))) none))) none) (Option.map (Sum.inr) (cond (decide ((0+v0.2.length)≤v0.2.length)) (Option.bind (F40 (List.take v0.2.length v0.2)) (fun (v3:ByteArray)=>(Option.bind (F37 v3) (fun (v4:ByteArray)=>(some v4))))) none))))
theorem nwF_ok {l:List NW} (hl:l.length≤8) (hv:∀ x ∈ l,(0≤x.1∧x.1≤63)∧U64 x.2.1∧(0≤x.2.2∧x.2.2≤3)) (L0:List Int) (h0:L0.length≤20) (hr:∀ x ∈ L0,U64 x) :
  loopX (nwF l) (0,L0)=some (mkB ((numsU L0++l.flatMap newO)++four (crc (numsU L0++l.flatMap newO)))):=by
 have e:(fun x:NW=>numsU [x.1,x.2.1,x.2.2])=newO:=by
  funext x
  unfold numsU newO
  simp
 rw [many_loop19 (f:=nwF l) (l:=l) (by omega) (fun x=>[x.1,x.2.1,x.2.2]) (fun x hx=>⟨Nat.le_refl _,fun y hy=>?_⟩) L0 h0 hr,e]
 ·intro L hL
  have q:¬ ((l.length:Nat):Int) < ((l.length:Nat):Int):=by omega
  unfold nwF
  simp -implicitDefEqProofs only [q,eq_self,xs]
 ·intro i L hi hL
  have q1:((i:Nat):Int) < ((l.length:Nat):Int):=by omega
  have q2:(0:Int)≤(i:Int):=by omega
  have g:=List.getElem?_eq_getElem hi
  obtain ⟨v1,v2,v3⟩:=hv l[i] (List.getElem_mem hi)
  generalize l[i]=x at *
  have u1:IntKind.wrap .u64 x.1=x.1:=wu v1.1 (by omega)
  have u3:IntKind.wrap .u64 x.2.2=x.2.2:=wu v3.1 (by omega)
  have p1:(((L.length+3:Nat):Int) * 8)≤70368744177664:=by omega
  have p2:(((L.length+3:Nat):Int))≤70368744177664:=by omega
  have p3:¬ L.length+3≤L.length:=by omega
  unfold nwF
  simp -implicitDefEqProofs only [q1,q2,g,p1,p2,p3,u1,u3,Nat.zero_add,w1 (show i≤9223372036854775806 by omega),eq_self,xs]
 ·obtain ⟨v1,v2,v3⟩:=hv x hx
  simp only [List.mem_cons,List.not_mem_nil,or_false] at hy
  rcases hy with rfl | rfl | rfl
  ·exact ⟨v1.1,by omega⟩
  ·exact v2
  ·exact ⟨v3.1,by omega⟩
theorem tbF_ok {l:List KW} (hl:l.length≤64) (hv:∀ x ∈ l,U64 x.1∧(0≤x.2∧x.2≤3)) (L0:List Int) (h0:L0.length≤20) (hr:∀ x ∈ L0,U64 x) :
  loopX (tbF l) (0,L0)=some (mkB ((numsU L0++l.flatMap tabO)++four (crc (numsU L0++l.flatMap tabO)))):=by
 have e:(fun x:KW=>numsU [x.1,x.2])=tabO:=by
  funext x
  unfold numsU tabO
  simp
 rw [many_loop19 (f:=tbF l) (l:=l) (by omega) (fun x=>[x.1,x.2]) (fun x hx=>⟨Nat.le_succ _,fun y hy=>?_⟩) L0 h0 hr,e]
 ·intro L hL
  have q:¬ ((l.length:Nat):Int) < ((l.length:Nat):Int):=by omega
  unfold tbF
  simp -implicitDefEqProofs only [q,eq_self,xs]
 ·intro i L hi hL
  have q1:((i:Nat):Int) < ((l.length:Nat):Int):=by omega
  have q2:(0:Int)≤(i:Int):=by omega
  have g:=List.getElem?_eq_getElem hi
  obtain ⟨v1,v3⟩:=hv l[i] (List.getElem_mem hi)
  generalize l[i]=x at *
  have u3:IntKind.wrap .u64 x.2=x.2:=wu v3.1 (by omega)
  have p1:(((L.length+2:Nat):Int) * 8)≤70368744177664:=by omega
  have p2:(((L.length+2:Nat):Int))≤70368744177664:=by omega
  have p3:¬ L.length+2≤L.length:=by omega
  unfold tbF
  simp -implicitDefEqProofs only [q1,q2,g,p1,p2,p3,u3,Nat.zero_add,w1 (show i≤9223372036854775806 by omega),eq_self,xs]
 ·obtain ⟨v1,v3⟩:=hv x hx
  simp only [List.mem_cons,List.not_mem_nil,or_false] at hy
  rcases hy with rfl | rfl
  ·exact v1
  ·exact ⟨v3.1,by omega⟩
theorem n01:numU 0=[0]∧numU 1=[1]:=by
 constructor
 ·unfold numU numZ; rw [hiZ_small (by decide),loZ_small (by decide)]; rfl
 ·unfold numU numZ; rw [hiZ_small (by decide),loZ_small (by decide)]; rfl
theorem F19_ok {m:MB} (g:Giv m) (hm:msgB m=true):F19 m=some (mkB (txtO m)):=by
 have h:=may_of hm
 obtain ⟨k,fr,to,sq,wh,ki,ks,nw,tb,ep,bo,ak,tk,tn,gd⟩:=m
 have hk:=h.k
 have u2:U64 fr:=⟨h.fr.1,by have:=h.fr.2; simp only at this; omega⟩
 have u3:U64 to:=⟨h.to.1,by have:=h.to.2; simp only at this; omega⟩
 have u4:U64 sq:=g.sq
 have u5:U64 wh:=⟨h.rwh.1,by have:=h.rwh.2; simp only at this; omega⟩
 have u6:U64 ki:=g.ki
 have u7:U64 ks:=⟨h.rks.1,by have:=h.rks.2; simp only at this; omega⟩
 have u8:U64 ep:=g.ep
 have u9:U64 bo:=g.bo
 have ua:U64 ak:=⟨h.rak.1,by have:=h.rak.2; simp only at this; omega⟩
 have ut:U64 tn:=g.tn
 have un:U64 ((nw.length:Nat):Int):=⟨by omega,by have:=h.rnw.1; simp only at this; omega⟩
 have ub:U64 ((tb.length:Nat):Int):=⟨by omega,by have:=h.rtb.1; simp only at this; omega⟩
 have f40:∀ L:List Int,L.length≤20→(∀ x ∈ L,U64 x)→F40 L=some (mkB (numsU L))∧(numsU L).length≤200:=fun L hL hr=>⟨F40_ok (by omega) hr,by have:=numsU_len hr; omega⟩
 rcases kinds hk with rfl | rfl | rfl | rfl | rfl | rfl | rfl | rfl | rfl | rfl | rfl | rfl
 ·have hU:∀ x ∈ ([(1:Int),fr,to,sq,ki,ks,((nw.length:Nat):Int)]:List Int),U64 x:=by
   intro x hx
   simp only [List.mem_cons,List.not_mem_nil,or_false] at hx
   rcases hx with rfl | rfl | rfl | rfl | rfl | rfl | rfl
   ·exact ⟨by decide,by decide⟩
   ·exact u2
   ·exact u3
   ·exact u4
   ·exact u6
   ·exact u7
   ·exact un
  have hb:numsU [(1:Int),fr,to,sq,ki,ks,((nw.length:Nat):Int)]=numU (1:Int)++(numU fr++(numU to++(numU sq++(numU ki++(numU ks++(numU ((nw.length:Nat):Int))))))):=by
   unfold numsU
   simp
  show F19k1 (fr,to,sq,wh,ki,ks,nw,tb,ep,bo,ak,tk,tn,gd)=_
  rw [F19k1_eq]
  simp only [uw u2,uw u3,uw u4,uw u6,uw u7,uw un]
  have hl:=nwF_ok (l:=nw) h.rnw.1 (fun x hx=>⟨(h.rnw.2 x hx).1,g.nw x hx,(h.rnw.2 x hx).2⟩) [(1:Int),fr,to,sq,ki,ks,((nw.length:Nat):Int)] (by simp only [List.length_cons,List.length_nil]; omega) hU
  refine Eq.trans hl ?_
  have hx:numsU [(1:Int),fr,to,sq,ki,ks,((nw.length:Nat):Int)]++nw.flatMap newO=bodO (1,fr,to,sq,wh,ki,ks,nw,tb,ep,bo,ak,tk,tn,gd):=by
   rw [hb]
   unfold bodO heaO parO
   simp [hasN,pN]
  rw [hx]; rfl
 ·have hU:∀ x ∈ ([(2:Int),fr,to,sq,wh,((nw.length:Nat):Int)]:List Int),U64 x:=by
   intro x hx
   simp only [List.mem_cons,List.not_mem_nil,or_false] at hx
   rcases hx with rfl | rfl | rfl | rfl | rfl | rfl
   ·exact ⟨by decide,by decide⟩
   ·exact u2
   ·exact u3
   ·exact u4
   ·exact u5
   ·exact un
  have hb:numsU [(2:Int),fr,to,sq,wh,((nw.length:Nat):Int)]=numU (2:Int)++(numU fr++(numU to++(numU sq++(numU wh++(numU ((nw.length:Nat):Int)))))):=by
   unfold numsU
   simp
  show F19k2 (fr,to,sq,wh,ki,ks,nw,tb,ep,bo,ak,tk,tn,gd)=_
  rw [F19k2_eq]
  simp only [uw u2,uw u3,uw u4,uw u5,uw un]
  have hl:=nwF_ok (l:=nw) h.rnw.1 (fun x hx=>⟨(h.rnw.2 x hx).1,g.nw x hx,(h.rnw.2 x hx).2⟩) [(2:Int),fr,to,sq,wh,((nw.length:Nat):Int)] (by simp only [List.length_cons,List.length_nil]; omega) hU
  refine Eq.trans hl ?_
  have hx:numsU [(2:Int),fr,to,sq,wh,((nw.length:Nat):Int)]++nw.flatMap newO=bodO (2,fr,to,sq,wh,ki,ks,nw,tb,ep,bo,ak,tk,tn,gd):=by
   rw [hb]
   unfold bodO heaO parO
   simp [hasN,pN]
  rw [hx]; rfl
 ·have hU:∀ x ∈ ([(3:Int),fr,to,sq,wh,ki,ks,((nw.length:Nat):Int)]:List Int),U64 x:=by
   intro x hx
   simp only [List.mem_cons,List.not_mem_nil,or_false] at hx
   rcases hx with rfl | rfl | rfl | rfl | rfl | rfl | rfl | rfl
   ·exact ⟨by decide,by decide⟩
   ·exact u2
   ·exact u3
   ·exact u4
   ·exact u5
   ·exact u6
   ·exact u7
   ·exact un
  have hb:numsU [(3:Int),fr,to,sq,wh,ki,ks,((nw.length:Nat):Int)]=numU (3:Int)++(numU fr++(numU to++(numU sq++(numU wh++(numU ki++(numU ks++(numU ((nw.length:Nat):Int)))))))):=by
   unfold numsU
   simp
  show F19k3 (fr,to,sq,wh,ki,ks,nw,tb,ep,bo,ak,tk,tn,gd)=_
  rw [F19k3_eq]
  simp only [uw u2,uw u3,uw u4,uw u5,uw u6,uw u7,uw un]
  have hl:=nwF_ok (l:=nw) h.rnw.1 (fun x hx=>⟨(h.rnw.2 x hx).1,g.nw x hx,(h.rnw.2 x hx).2⟩) [(3:Int),fr,to,sq,wh,ki,ks,((nw.length:Nat):Int)] (by simp only [List.length_cons,List.length_nil]; omega) hU
  refine Eq.trans hl ?_
  have hx:numsU [(3:Int),fr,to,sq,wh,ki,ks,((nw.length:Nat):Int)]++nw.flatMap newO=bodO (3,fr,to,sq,wh,ki,ks,nw,tb,ep,bo,ak,tk,tn,gd):=by
   rw [hb]
   unfold bodO heaO parO
   simp [hasN,pN]
  rw [hx]; rfl
 ·have hU:∀ x ∈ ([(4:Int),fr,to,sq,wh]:List Int),U64 x:=by
   intro x hx
   simp only [List.mem_cons,List.not_mem_nil,or_false] at hx
   rcases hx with rfl | rfl | rfl | rfl | rfl
   ·exact ⟨by decide,by decide⟩
   ·exact u2
   ·exact u3
   ·exact u4
   ·exact u5
  have hb:numsU [(4:Int),fr,to,sq,wh]=numU (4:Int)++(numU fr++(numU to++(numU sq++(numU wh)))):=by
   unfold numsU
   simp
  show F19k4 (fr,to,sq,wh,ki,ks,nw,tb,ep,bo,ak,tk,tn,gd)=_
  rw [F19k4_eq]
  simp only [uw u2,uw u3,uw u4,uw u5]
  obtain ⟨f1,f2⟩:=f40 [(4:Int),fr,to,sq,wh] (by simp only [List.length_cons,List.length_nil]; omega) hU
  rw [f1]
  simp only [Option.bind_some,F37_ok (show (numsU [(4:Int),fr,to,sq,wh]).length≤100000 by omega)]
  have hx:numsU [(4:Int),fr,to,sq,wh]=bodO (4,fr,to,sq,wh,ki,ks,nw,tb,ep,bo,ak,tk,tn,gd):=by
   rw [hb]
   unfold bodO heaO parO
   simp [hasN,pN]
  rw [hx]; rfl
 ·have hU:∀ x ∈ ([(5:Int),fr,to,((tb.length:Nat):Int)]:List Int),U64 x:=by
   intro x hx
   simp only [List.mem_cons,List.not_mem_nil,or_false] at hx
   rcases hx with rfl | rfl | rfl | rfl
   ·exact ⟨by decide,by decide⟩
   ·exact u2
   ·exact u3
   ·exact ub
  have hb:numsU [(5:Int),fr,to,((tb.length:Nat):Int)]=numU (5:Int)++(numU fr++(numU to++(numU ((tb.length:Nat):Int)))):=by
   unfold numsU
   simp
  show F19k5 (fr,to,sq,wh,ki,ks,nw,tb,ep,bo,ak,tk,tn,gd)=_
  rw [F19k5_eq]
  simp only [uw u2,uw u3,uw ub]
  have hl:=tbF_ok (l:=tb) h.rtb.1 (fun x hx=>⟨g.tb x hx,h.rtb.2 x hx⟩) [(5:Int),fr,to,((tb.length:Nat):Int)] (by simp only [List.length_cons,List.length_nil]; omega) hU
  refine Eq.trans hl ?_
  have hx:numsU [(5:Int),fr,to,((tb.length:Nat):Int)]++tb.flatMap tabO=bodO (5,fr,to,sq,wh,ki,ks,nw,tb,ep,bo,ak,tk,tn,gd):=by
   rw [hb]
   unfold bodO heaO parO
   simp [hasN,pN]
  rw [hx]; rfl
 ·have hU:∀ x ∈ ([(6:Int),fr,to,((tb.length:Nat):Int)]:List Int),U64 x:=by
   intro x hx
   simp only [List.mem_cons,List.not_mem_nil,or_false] at hx
   rcases hx with rfl | rfl | rfl | rfl
   ·exact ⟨by decide,by decide⟩
   ·exact u2
   ·exact u3
   ·exact ub
  have hb:numsU [(6:Int),fr,to,((tb.length:Nat):Int)]=numU (6:Int)++(numU fr++(numU to++(numU ((tb.length:Nat):Int)))):=by
   unfold numsU
   simp
  show F19k6 (fr,to,sq,wh,ki,ks,nw,tb,ep,bo,ak,tk,tn,gd)=_
  rw [F19k6_eq]
  simp only [uw u2,uw u3,uw ub]
  have hl:=tbF_ok (l:=tb) h.rtb.1 (fun x hx=>⟨g.tb x hx,h.rtb.2 x hx⟩) [(6:Int),fr,to,((tb.length:Nat):Int)] (by simp only [List.length_cons,List.length_nil]; omega) hU
  refine Eq.trans hl ?_
  have hx:numsU [(6:Int),fr,to,((tb.length:Nat):Int)]++tb.flatMap tabO=bodO (6,fr,to,sq,wh,ki,ks,nw,tb,ep,bo,ak,tk,tn,gd):=by
   rw [hb]
   unfold bodO heaO parO
   simp [hasN,pN]
  rw [hx]; rfl
 ·have hU:∀ x ∈ ([(7:Int),fr,to,ep,bo,ak]:List Int),U64 x:=by
   intro x hx
   simp only [List.mem_cons,List.not_mem_nil,or_false] at hx
   rcases hx with rfl | rfl | rfl | rfl | rfl | rfl
   ·exact ⟨by decide,by decide⟩
   ·exact u2
   ·exact u3
   ·exact u8
   ·exact u9
   ·exact ua
  have hb:numsU [(7:Int),fr,to,ep,bo,ak]=numU (7:Int)++(numU fr++(numU to++(numU ep++(numU bo++(numU ak))))):=by
   unfold numsU
   simp
  show F19k7 (fr,to,sq,wh,ki,ks,nw,tb,ep,bo,ak,tk,tn,gd)=_
  rw [F19k7_eq]
  simp only [uw u2,uw u3,uw u8,uw u9,uw ua]
  obtain ⟨f1,f2⟩:=f40 [(7:Int),fr,to,ep,bo,ak] (by simp only [List.length_cons,List.length_nil]; omega) hU
  rw [f1]
  simp only [Option.bind_some,F37_ok (show (numsU [(7:Int),fr,to,ep,bo,ak]).length≤100000 by omega)]
  have hx:numsU [(7:Int),fr,to,ep,bo,ak]=bodO (7,fr,to,sq,wh,ki,ks,nw,tb,ep,bo,ak,tk,tn,gd):=by
   rw [hb]
   unfold bodO heaO parO
   simp [hasN,pN]
  rw [hx]; rfl
 ·have hU:∀ x ∈ ([(8:Int),fr,to,ep,bo,ak]:List Int),U64 x:=by
   intro x hx
   simp only [List.mem_cons,List.not_mem_nil,or_false] at hx
   rcases hx with rfl | rfl | rfl | rfl | rfl | rfl
   ·exact ⟨by decide,by decide⟩
   ·exact u2
   ·exact u3
   ·exact u8
   ·exact u9
   ·exact ua
  have hb:numsU [(8:Int),fr,to,ep,bo,ak]=numU (8:Int)++(numU fr++(numU to++(numU ep++(numU bo++(numU ak))))):=by
   unfold numsU
   simp
  show F19k8 (fr,to,sq,wh,ki,ks,nw,tb,ep,bo,ak,tk,tn,gd)=_
  rw [F19k8_eq]
  simp only [uw u2,uw u3,uw u8,uw u9,uw ua]
  obtain ⟨f1,f2⟩:=f40 [(8:Int),fr,to,ep,bo,ak] (by simp only [List.length_cons,List.length_nil]; omega) hU
  rw [f1]
  simp only [Option.bind_some,F37_ok (show (numsU [(8:Int),fr,to,ep,bo,ak]).length≤100000 by omega)]
  have hx:numsU [(8:Int),fr,to,ep,bo,ak]=bodO (8,fr,to,sq,wh,ki,ks,nw,tb,ep,bo,ak,tk,tn,gd):=by
   rw [hb]
   unfold bodO heaO parO
   simp [hasN,pN]
  rw [hx]; rfl
 ·have hU:∀ x ∈ ([(9:Int),fr,to,ep,bo]:List Int),U64 x:=by
   intro x hx
   simp only [List.mem_cons,List.not_mem_nil,or_false] at hx
   rcases hx with rfl | rfl | rfl | rfl | rfl
   ·exact ⟨by decide,by decide⟩
   ·exact u2
   ·exact u3
   ·exact u8
   ·exact u9
  have hb:numsU [(9:Int),fr,to,ep,bo]=numU (9:Int)++(numU fr++(numU to++(numU ep++(numU bo)))):=by
   unfold numsU
   simp
  show F19k9 (fr,to,sq,wh,ki,ks,nw,tb,ep,bo,ak,tk,tn,gd)=_
  rw [F19k9_eq]
  simp only [uw u2,uw u3,uw u8,uw u9]
  obtain ⟨f1,f2⟩:=f40 [(9:Int),fr,to,ep,bo] (by simp only [List.length_cons,List.length_nil]; omega) hU
  rw [f1]
  simp only [Option.bind_some,F37_ok (show (numsU [(9:Int),fr,to,ep,bo]).length≤100000 by omega)]
  have hx:numsU [(9:Int),fr,to,ep,bo]=bodO (9,fr,to,sq,wh,ki,ks,nw,tb,ep,bo,ak,tk,tn,gd):=by
   rw [hb]
   unfold bodO heaO parO
   simp [hasN,pN]
  rw [hx]; rfl
 ·have hU:∀ x ∈ ([(10:Int),fr,to,bo,ak]:List Int),U64 x:=by
   intro x hx
   simp only [List.mem_cons,List.not_mem_nil,or_false] at hx
   rcases hx with rfl | rfl | rfl | rfl | rfl
   ·exact ⟨by decide,by decide⟩
   ·exact u2
   ·exact u3
   ·exact u9
   ·exact ua
  have hb:numsU [(10:Int),fr,to,bo,ak]=numU (10:Int)++(numU fr++(numU to++(numU bo++(numU ak)))):=by
   unfold numsU
   simp
  show F19k10 (fr,to,sq,wh,ki,ks,nw,tb,ep,bo,ak,tk,tn,gd)=_
  rw [F19k10_eq]
  simp only [uw u2,uw u3,uw u9,uw ua]
  obtain ⟨f1,f2⟩:=f40 [(10:Int),fr,to,bo,ak] (by simp only [List.length_cons,List.length_nil]; omega) hU
  rw [f1]
  simp only [Option.bind_some,F37_ok (show (numsU [(10:Int),fr,to,bo,ak]).length≤100000 by omega)]
  have hx:numsU [(10:Int),fr,to,bo,ak]=bodO (10,fr,to,sq,wh,ki,ks,nw,tb,ep,bo,ak,tk,tn,gd):=by
   rw [hb]
   unfold bodO heaO parO
   simp [hasN,pN]
  rw [hx]; rfl
 ·have hU:∀ x ∈ ([(11:Int),fr,to,ep,bo,ak]:List Int),U64 x:=by
   intro x hx
   simp only [List.mem_cons,List.not_mem_nil,or_false] at hx
   rcases hx with rfl | rfl | rfl | rfl | rfl | rfl
   ·exact ⟨by decide,by decide⟩
   ·exact u2
   ·exact u3
   ·exact u8
   ·exact u9
   ·exact ua
  have hb:numsU [(11:Int),fr,to,ep,bo,ak]=numU (11:Int)++(numU fr++(numU to++(numU ep++(numU bo++(numU ak))))):=by
   unfold numsU
   simp
  show F19k11 (fr,to,sq,wh,ki,ks,nw,tb,ep,bo,ak,tk,tn,gd)=_
  rw [F19k11_eq]
  simp only [uw u2,uw u3,uw u8,uw u9,uw ua]
  obtain ⟨f1,f2⟩:=f40 [(11:Int),fr,to,ep,bo,ak] (by simp only [List.length_cons,List.length_nil]; omega) hU
  have ht:tk.size≤200:=by have:=h.rtk; simp only at this; omega
  have f41:=F41_ok (t:=tk) ht
  have f42:=F42_ok ut
  have l1:=numU_len (x:=((tk.size:Nat):Int)) (by omega)
  have l2:=numU_len ut.2
  have l3:=toList_len tk
  have q1:(mkB (numU ((tk.size:Nat):Int)++tk.toList)).size+(mkB (numU tn)).size≤4611686018427387904:=by rw [mkB_size,mkB_size,List.length_append]; omega
  have q2:(mkB (numsU [(11:Int),fr,to,ep,bo,ak])).size+(mkB ((numU ((tk.size:Nat):Int)++tk.toList)++numU tn)).size≤4611686018427387904:=by rw [mkB_size,mkB_size,List.length_append,List.length_append]; omega
  have q3:(numsU [(11:Int),fr,to,ep,bo,ak]++((numU ((tk.size:Nat):Int)++tk.toList)++numU tn)).length≤100000:=by rw [List.length_append,List.length_append,List.length_append]; omega
  simp -implicitDefEqProofs only [f1,f41,f42,q1,q2,mkB_app,F37_ok q3,eq_self,xs]
  have hx:numsU [(11:Int),fr,to,ep,bo,ak]++((numU ((tk.size:Nat):Int)++tk.toList)++numU tn)=bodO (11,fr,to,sq,wh,ki,ks,nw,tb,ep,bo,ak,tk,tn,gd):=by
   rw [hb]
   unfold bodO heaO parO
   simp [hasN,pN]
  rw [hx]; rfl
 ·have hU:∀ x ∈ ([(12:Int),fr,to]:List Int),U64 x:=by
   intro x hx
   simp only [List.mem_cons,List.not_mem_nil,or_false] at hx
   rcases hx with rfl | rfl | rfl
   ·exact ⟨by decide,by decide⟩
   ·exact u2
   ·exact u3
  have hb:numsU [(12:Int),fr,to]=numU (12:Int)++(numU fr++(numU to)):=by
   unfold numsU
   simp
  show F19k12 (fr,to,sq,wh,ki,ks,nw,tb,ep,bo,ak,tk,tn,gd)=_
  rw [F19k12_eq]
  simp only [uw u2,uw u3]
  obtain ⟨f1,f2⟩:=f40 [(12:Int),fr,to] (by simp only [List.length_cons,List.length_nil]; omega) hU
  have ht:tk.size≤200:=by have:=h.rtk; simp only at this; omega
  have f41:=F41_ok (t:=tk) ht
  have f42:=F42_ok ut
  have l1:=numU_len (x:=((tk.size:Nat):Int)) (by omega)
  have l2:=numU_len ut.2
  have l3:=toList_len tk
  have q1:(mkB (numU ((tk.size:Nat):Int)++tk.toList)).size+(mkB (numU tn)).size≤4611686018427387904:=by rw [mkB_size,mkB_size,List.length_append]; omega
  have q2:(mkB (numsU [(12:Int),fr,to])).size+(mkB ((numU ((tk.size:Nat):Int)++tk.toList)++numU tn)).size≤4611686018427387904:=by rw [mkB_size,mkB_size,List.length_append,List.length_append]; omega
  have e1:ByteArray.mk #[1]=mkB [1]:=rfl
  have e0:ByteArray.mk #[0]=mkB [0]:=rfl
  have q30:(numsU [(12:Int),fr,to]++((numU ((tk.size:Nat):Int)++tk.toList)++numU tn)++[(0:UInt8)]).length≤100000:=by rw [List.length_append,List.length_append,List.length_append,List.length_append,List.length_singleton]; omega
  have q40:(mkB (numsU [(12:Int),fr,to]++((numU ((tk.size:Nat):Int)++tk.toList)++numU tn))).size+(mkB [(0:UInt8)]).size≤4611686018427387904:=by rw [mkB_size,mkB_size,List.length_append,List.length_append,List.length_append,List.length_singleton]; omega
  have q31:(numsU [(12:Int),fr,to]++((numU ((tk.size:Nat):Int)++tk.toList)++numU tn)++[(1:UInt8)]).length≤100000:=by rw [List.length_append,List.length_append,List.length_append,List.length_append,List.length_singleton]; omega
  have q41:(mkB (numsU [(12:Int),fr,to]++((numU ((tk.size:Nat):Int)++tk.toList)++numU tn))).size+(mkB [(1:UInt8)]).size≤4611686018427387904:=by rw [mkB_size,mkB_size,List.length_append,List.length_append,List.length_append,List.length_singleton]; omega
  cases gd
  ·simp -implicitDefEqProofs only [f1,f41,f42,q1,q2,mkB_app,e0,e1,q40,q41,F37_ok q30,F37_ok q31,eq_self,xs]
   have hx:numsU [(12:Int),fr,to]++((numU ((tk.size:Nat):Int)++tk.toList)++numU tn)++[(0:UInt8)]=bodO (12,fr,to,sq,wh,ki,ks,nw,tb,ep,bo,ak,tk,tn,false):=by
    rw [hb]
    unfold bodO heaO parO
    simp [hasN,pN,n01]
   rw [hx]; rfl
  ·simp -implicitDefEqProofs only [f1,f41,f42,q1,q2,mkB_app,e0,e1,q40,q41,F37_ok q30,F37_ok q31,eq_self,xs]
   have hx:numsU [(12:Int),fr,to]++((numU ((tk.size:Nat):Int)++tk.toList)++numU tn)++[(1:UInt8)]=bodO (12,fr,to,sq,wh,ki,ks,nw,tb,ep,bo,ak,tk,tn,true):=by
    rw [hb]
    unfold bodO heaO parO
    simp [hasN,pN,n01]
   rw [hx]; rfl
end Go.Proofs.Ytgbcankkfmhcoaa.VL
end
section
namespace Go.Proofs.Ytgbcankkfmhcoaa.VL
open Go
set_option linter.unusedVariables false
set_option linter.unusedSectionVars false
set_option linter.unusedSimpArgs false
set_option maxRecDepth 100000
variable [Val]
structure RI (S:ByteArray) (T:List Nat) (a:Nat) (ok:Bool) (m:MB):Prop where
 ha:a≤S.size
 g:Giv m
 nl:m.2.2.2.2.2.2.2.1.length≤8
 tl:m.2.2.2.2.2.2.2.2.1.length≤64
 tk:m.2.2.2.2.2.2.2.2.2.2.2.2.1.size≤200
 z:∀ j ∈ T,fEq m zeroM j
 c:∀ n:MB,Giv n→msgB n=true→S.toList=bodO n→ok=true∧(m.1=n.1∧m.2.1=n.2.1∧m.2.2.1=n.2.2.1)∧(∀ j,j≤10→j ∉ T→fEq m n j)∧dr S a=(T.filter fun j=>(hasN n.1).contains j).flatMap (pN n)
theorem RI.skip {S:ByteArray} {j:Nat} {T:List Nat} {a:Nat} {ok:Bool} {m:MB} (I:RI S (j::T) a ok m) (h10:j≤10) (hj:j ∉ T) (hb:1≤m.1∧m.1≤12→(hasN m.1).contains j=false):RI S T a ok m:=by
 refine ⟨I.ha,I.g,I.nl,I.tl,I.tk,fun i hi=>I.z i (List.mem_cons_of_mem _ hi),fun n gn hn hs=>?_⟩
 obtain ⟨c1,c2,c3,c4⟩:=I.c n gn hn hs
 have hm:=may_of hn
 have hc:=hb (by rw [c2.1]; exact hm.k)
 rw [c2.1] at hc
 refine ⟨c1,c2,fun i hi hT=>?_,?_⟩
 ·by_cases e:i=j
  ·subst e
   refine fEq_trans (I.z i (List.mem_cons_self ..)) (fEq_symm (may_zero hm hi fun hh=>?_))
   rw [List.contains_iff_mem.2 hh] at hc
   cases hc
  ·exact c3 i hi (by simp only [List.mem_cons,not_or]; exact ⟨e,hT⟩)
 ·rw [c4,List.filter_cons,hc]; rfl
end Go.Proofs.Ytgbcankkfmhcoaa.VL
end
section
namespace Go.Proofs.Ytgbcankkfmhcoaa.VL
open Go
set_option linter.unusedVariables false
set_option linter.unusedSectionVars false
set_option linter.unusedSimpArgs false
set_option maxRecDepth 100000
variable [Val]
def nackM:MB:=(4,1,2,5,3,0,0,[],[],0,0,0,ByteArray.mk #[],0,false)
theorem small1 {n:Nat} (h:n≤127):numU ((n:Nat):Int)=[bI ((n:Nat):Int)]:=by
 unfold numU numZ
 rw [Int.toNat_natCast,hiZ_small h,loZ_small h]; rfl
theorem nack_bod:bodO nackM=[4,1,2,5,3]:=by
 have e4:numU 4=[4]:=small1 (n:=4) (by decide)
 have e1:numU 1=[1]:=small1 (n:=1) (by decide)
 have e2:numU 2=[2]:=small1 (n:=2) (by decide)
 have e5:numU 5=[5]:=small1 (n:=5) (by decide)
 have e3:numU 3=[3]:=small1 (n:=3) (by decide)
 show (numU 4++(numU 1++numU 2))++(numU 5++(numU 3++[]))=_
 rw [e4,e1,e2,e5,e3]; rfl
theorem nack_giv:Giv nackM:=⟨⟨by decide,by decide⟩,⟨by decide,by decide⟩,fun x hx=>by simp [nackM] at hx,fun x hx=>by simp [nackM] at hx,⟨by decide,by decide⟩,⟨by decide,by decide⟩,⟨by decide,by decide⟩⟩
theorem F17_ok:F17 ()=some true:=by
 have m1:msgB nackM=true:=by
  have key:sameB nackM (bareM nackM)=true∧partsB nackM=true:=⟨by simp [nackM,sameB,bareM,kindB],by decide +kernel⟩
  unfold msgB
  rw [key.1,key.2]; rfl
 have w:=write_ok nack_giv m1 (Nat.zero_le _) (Nat.zero_le _) (Nat.zero_le _)
 have c:=check_ok (4,1,1,5,3,0,0,[],[],0,0,0,ByteArray.mk #[],0,false) (Nat.zero_le _) (Nat.zero_le _) (Nat.zero_le _)
 rw [show msgB (4,1,1,5,3,0,0,[],[],0,0,0,ByteArray.mk #[],0,false)=false from rfl] at c
 have r:=(F18_ok (s:=mkB [4,1,2,5,3]) (by show (5:Nat)≤_; omega)).1
 rw [mkB_toList,show openE [4,1,2,5,3]=([],10) by rfl] at r
 have r:=r (by decide)
 have f37:=F37_ok (l:=[4,1,2,5,3]) (by decide)
 have f36:=F36_eq ()
 have et:txtO nackM=[4,1,2,5,3]++four (crc [4,1,2,5,3]):=by unfold txtO; rw [nack_bod]
 rw [et] at w
 rw [F17_eq]
 have eb:ByteArray.mk #[4,1,2,5,3]=mkB [4,1,2,5,3]:=rfl
 have e1:((mkB ([4,1,2,5,3]++four (crc [4,1,2,5,3]))).toList==(mkB ([4,1,2,5,3]++four (crc [4,1,2,5,3]))).toList)=true:=beq_self_eq_true _
 have e2:((((mkB ([4,1,2,5,3]++four (crc [4,1,2,5,3]))).size:Nat):Int)==9)=true:=by rw [mkB_size]; rfl
 generalize mkB ([4,1,2,5,3]++four (crc [4,1,2,5,3]))=T at *
 have w:F10 (4,1,2,5,3,0,0,[],[],0,0,0,ByteArray.mk #[],0,false)=some (T,0):=w
 have c:F11 (4,1,1,5,3,0,0,[],[],0,0,0,ByteArray.mk #[],0,false)=some 1:=c
 simp only [f36,Option.bind_some,eb,w,r,f37,e1,e2,c,cond_true]
 rfl
theorem F3_ok {m o:MB} {nm:ByteArray} (gm:Giv m) (go:Giv o) (hn:nm.size≤maxLen):F3 (m,o,nm)=some true:=by
 obtain ⟨m',fm,l1,l2,l3,g'⟩:=few_giv gm
 obtain ⟨o',fo,o1,o2,o3,g2⟩:=few_giv go
 have f17:=F17_ok
 have c:=check_ok m' (by omega) (by omega) (max21 l3)
 have r:=rmay_ok m' (by omega) (by omega) (max21 l3)
 have s1:=same_ok m' o' (by omega) (by omega)
 have s2:=rsame_eq m' o'
 rw [s1] at s2
 have n1:=F15_ok hn
 have n2:=F16_ok hn
 have bb:∀ b:Bool,(b==b)=true:=by decide
 have q:((if msgB m'=true then (0:Int) else 1)==0)=msgB m':=eqq _
 rw [F3_eq]
 by_cases h:msgB m'=true
 ·rw [h,if_pos rfl] at c
  have w:=write_ok g' h (by omega) (by omega) (max21 l3)
  have rd:=read_ok g' h
  have f19:=F19_ok g' h
  have sm:=rsame_refl m' (by omega) (by omega)
  have e1:((mkB (txtO m')).toList==(mkB (txtO m')).toList)=true:=beq_self_eq_true _
  simp only [fm,fo,w,c,r,show ((0:Int)==0)=true from rfl,show ((1:Int)==0)=false from rfl,bb,s1,s2,n1,n2,Option.bind_some,Bool.not_true,cond_false,joinX_l,h,rd,f19,e1,cond_true,sm,f17]
 ·have h:msgB m'=false:=by simpa using h
  obtain ⟨w,_⟩:=bad_write (by omega) (by omega) (max21 l3) h
  rw [h,if_neg (by decide)] at c
  have e1:((ByteArray.mk #[]).toList==(ByteArray.mk #[]).toList)=true:=beq_self_eq_true _
  simp only [fm,fo,w,c,r,show ((0:Int)==0)=true from rfl,show ((1:Int)==0)=false from rfl,bb,s1,s2,n1,n2,Option.bind_some,Bool.not_true,Bool.not_false,cond_false,joinX_l,h,e1,cond_true,f17,show ((1:Int)==1)=true from rfl]
end Go.Proofs.Ytgbcankkfmhcoaa.VL
end
