import Derived.Test.YtgbcankkfmhcoaaW4Za
import Derived.Test.YtgbcankkfmhcoaaW4C10m
section
namespace Go.Proofs.Ytgbcankkfmhcoaa.VL
open Go
set_option maxRecDepth 100000
variable [Val]
noncomputable section
def F19k1 (v:(Int×(Int×(Int×(Int×(Int×(Int×((List (Int×(Int×Int)))×((List (Int×Int))×(Int×(Int×(Int×(ByteArray×(Int×Bool)))))))))))))):Option ByteArray:=(pureT tb19 ex19 in19 0 xf19 _ _ []:DT ((.co (.v (.p (.i .i64) (.p (.i .i64) (.p (.i .i64) (.p (.i .u64) (.p (.i .i64) (.p (.i .u64) (.p (.i .i64) (.p (.sl (.p (.i .i64) (.p (.i .u64) (.i .i64)))) (.p (.sl (.p (.i .u64) (.i .i64))) (.p (.i .u64) (.p (.i .u64) (.p (.i .i64) (.p .s (.p (.i .u64) .b))))))))))))))) .no):Fm).den→Option (DT (.v .s:Fm).den)) ((1:Int),v)
def F19k2 (v:(Int×(Int×(Int×(Int×(Int×(Int×((List (Int×(Int×Int)))×((List (Int×Int))×(Int×(Int×(Int×(ByteArray×(Int×Bool)))))))))))))):Option ByteArray:=(pureT tb19 ex19 in19 0 xf19 _ _ []:DT ((.co (.v (.p (.i .i64) (.p (.i .i64) (.p (.i .i64) (.p (.i .u64) (.p (.i .i64) (.p (.i .u64) (.p (.i .i64) (.p (.sl (.p (.i .i64) (.p (.i .u64) (.i .i64)))) (.p (.sl (.p (.i .u64) (.i .i64))) (.p (.i .u64) (.p (.i .u64) (.p (.i .i64) (.p .s (.p (.i .u64) .b))))))))))))))) .no):Fm).den→Option (DT (.v .s:Fm).den)) ((2:Int),v)
def F19k3 (v:(Int×(Int×(Int×(Int×(Int×(Int×((List (Int×(Int×Int)))×((List (Int×Int))×(Int×(Int×(Int×(ByteArray×(Int×Bool)))))))))))))):Option ByteArray:=(pureT tb19 ex19 in19 0 xf19 _ _ []:DT ((.co (.v (.p (.i .i64) (.p (.i .i64) (.p (.i .i64) (.p (.i .u64) (.p (.i .i64) (.p (.i .u64) (.p (.i .i64) (.p (.sl (.p (.i .i64) (.p (.i .u64) (.i .i64)))) (.p (.sl (.p (.i .u64) (.i .i64))) (.p (.i .u64) (.p (.i .u64) (.p (.i .i64) (.p .s (.p (.i .u64) .b))))))))))))))) .no):Fm).den→Option (DT (.v .s:Fm).den)) ((3:Int),v)
def F19k4 (v:(Int×(Int×(Int×(Int×(Int×(Int×((List (Int×(Int×Int)))×((List (Int×Int))×(Int×(Int×(Int×(ByteArray×(Int×Bool)))))))))))))):Option ByteArray:=(pureT tb19 ex19 in19 0 xf19 _ _ []:DT ((.co (.v (.p (.i .i64) (.p (.i .i64) (.p (.i .i64) (.p (.i .u64) (.p (.i .i64) (.p (.i .u64) (.p (.i .i64) (.p (.sl (.p (.i .i64) (.p (.i .u64) (.i .i64)))) (.p (.sl (.p (.i .u64) (.i .i64))) (.p (.i .u64) (.p (.i .u64) (.p (.i .i64) (.p .s (.p (.i .u64) .b))))))))))))))) .no):Fm).den→Option (DT (.v .s:Fm).den)) ((4:Int),v)
def F19k5 (v:(Int×(Int×(Int×(Int×(Int×(Int×((List (Int×(Int×Int)))×((List (Int×Int))×(Int×(Int×(Int×(ByteArray×(Int×Bool)))))))))))))):Option ByteArray:=(pureT tb19 ex19 in19 0 xf19 _ _ []:DT ((.co (.v (.p (.i .i64) (.p (.i .i64) (.p (.i .i64) (.p (.i .u64) (.p (.i .i64) (.p (.i .u64) (.p (.i .i64) (.p (.sl (.p (.i .i64) (.p (.i .u64) (.i .i64)))) (.p (.sl (.p (.i .u64) (.i .i64))) (.p (.i .u64) (.p (.i .u64) (.p (.i .i64) (.p .s (.p (.i .u64) .b))))))))))))))) .no):Fm).den→Option (DT (.v .s:Fm).den)) ((5:Int),v)
def F19k6 (v:(Int×(Int×(Int×(Int×(Int×(Int×((List (Int×(Int×Int)))×((List (Int×Int))×(Int×(Int×(Int×(ByteArray×(Int×Bool)))))))))))))):Option ByteArray:=(pureT tb19 ex19 in19 0 xf19 _ _ []:DT ((.co (.v (.p (.i .i64) (.p (.i .i64) (.p (.i .i64) (.p (.i .u64) (.p (.i .i64) (.p (.i .u64) (.p (.i .i64) (.p (.sl (.p (.i .i64) (.p (.i .u64) (.i .i64)))) (.p (.sl (.p (.i .u64) (.i .i64))) (.p (.i .u64) (.p (.i .u64) (.p (.i .i64) (.p .s (.p (.i .u64) .b))))))))))))))) .no):Fm).den→Option (DT (.v .s:Fm).den)) ((6:Int),v)
def F19k7 (v:(Int×(Int×(Int×(Int×(Int×(Int×((List (Int×(Int×Int)))×((List (Int×Int))×(Int×(Int×(Int×(ByteArray×(Int×Bool)))))))))))))):Option ByteArray:=(pureT tb19 ex19 in19 0 xf19 _ _ []:DT ((.co (.v (.p (.i .i64) (.p (.i .i64) (.p (.i .i64) (.p (.i .u64) (.p (.i .i64) (.p (.i .u64) (.p (.i .i64) (.p (.sl (.p (.i .i64) (.p (.i .u64) (.i .i64)))) (.p (.sl (.p (.i .u64) (.i .i64))) (.p (.i .u64) (.p (.i .u64) (.p (.i .i64) (.p .s (.p (.i .u64) .b))))))))))))))) .no):Fm).den→Option (DT (.v .s:Fm).den)) ((7:Int),v)
def F19k8 (v:(Int×(Int×(Int×(Int×(Int×(Int×((List (Int×(Int×Int)))×((List (Int×Int))×(Int×(Int×(Int×(ByteArray×(Int×Bool)))))))))))))):Option ByteArray:=(pureT tb19 ex19 in19 0 xf19 _ _ []:DT ((.co (.v (.p (.i .i64) (.p (.i .i64) (.p (.i .i64) (.p (.i .u64) (.p (.i .i64) (.p (.i .u64) (.p (.i .i64) (.p (.sl (.p (.i .i64) (.p (.i .u64) (.i .i64)))) (.p (.sl (.p (.i .u64) (.i .i64))) (.p (.i .u64) (.p (.i .u64) (.p (.i .i64) (.p .s (.p (.i .u64) .b))))))))))))))) .no):Fm).den→Option (DT (.v .s:Fm).den)) ((8:Int),v)
def F19k9 (v:(Int×(Int×(Int×(Int×(Int×(Int×((List (Int×(Int×Int)))×((List (Int×Int))×(Int×(Int×(Int×(ByteArray×(Int×Bool)))))))))))))):Option ByteArray:=(pureT tb19 ex19 in19 0 xf19 _ _ []:DT ((.co (.v (.p (.i .i64) (.p (.i .i64) (.p (.i .i64) (.p (.i .u64) (.p (.i .i64) (.p (.i .u64) (.p (.i .i64) (.p (.sl (.p (.i .i64) (.p (.i .u64) (.i .i64)))) (.p (.sl (.p (.i .u64) (.i .i64))) (.p (.i .u64) (.p (.i .u64) (.p (.i .i64) (.p .s (.p (.i .u64) .b))))))))))))))) .no):Fm).den→Option (DT (.v .s:Fm).den)) ((9:Int),v)
def F19k10 (v:(Int×(Int×(Int×(Int×(Int×(Int×((List (Int×(Int×Int)))×((List (Int×Int))×(Int×(Int×(Int×(ByteArray×(Int×Bool)))))))))))))):Option ByteArray:=(pureT tb19 ex19 in19 0 xf19 _ _ []:DT ((.co (.v (.p (.i .i64) (.p (.i .i64) (.p (.i .i64) (.p (.i .u64) (.p (.i .i64) (.p (.i .u64) (.p (.i .i64) (.p (.sl (.p (.i .i64) (.p (.i .u64) (.i .i64)))) (.p (.sl (.p (.i .u64) (.i .i64))) (.p (.i .u64) (.p (.i .u64) (.p (.i .i64) (.p .s (.p (.i .u64) .b))))))))))))))) .no):Fm).den→Option (DT (.v .s:Fm).den)) ((10:Int),v)
def F19k11 (v:(Int×(Int×(Int×(Int×(Int×(Int×((List (Int×(Int×Int)))×((List (Int×Int))×(Int×(Int×(Int×(ByteArray×(Int×Bool)))))))))))))):Option ByteArray:=(pureT tb19 ex19 in19 0 xf19 _ _ []:DT ((.co (.v (.p (.i .i64) (.p (.i .i64) (.p (.i .i64) (.p (.i .u64) (.p (.i .i64) (.p (.i .u64) (.p (.i .i64) (.p (.sl (.p (.i .i64) (.p (.i .u64) (.i .i64)))) (.p (.sl (.p (.i .u64) (.i .i64))) (.p (.i .u64) (.p (.i .u64) (.p (.i .i64) (.p .s (.p (.i .u64) .b))))))))))))))) .no):Fm).den→Option (DT (.v .s:Fm).den)) ((11:Int),v)
def F19k12 (v:(Int×(Int×(Int×(Int×(Int×(Int×((List (Int×(Int×Int)))×((List (Int×Int))×(Int×(Int×(Int×(ByteArray×(Int×Bool)))))))))))))):Option ByteArray:=(pureT tb19 ex19 in19 0 xf19 _ _ []:DT ((.co (.v (.p (.i .i64) (.p (.i .i64) (.p (.i .i64) (.p (.i .u64) (.p (.i .i64) (.p (.i .u64) (.p (.i .i64) (.p (.sl (.p (.i .i64) (.p (.i .u64) (.i .i64)))) (.p (.sl (.p (.i .u64) (.i .i64))) (.p (.i .u64) (.p (.i .u64) (.p (.i .i64) (.p .s (.p (.i .u64) .b))))))))))))))) .no):Fm).den→Option (DT (.v .s:Fm).den)) ((12:Int),v)
end
end Go.Proofs.Ytgbcankkfmhcoaa.VL
end
section
namespace Go.Proofs.Ytgbcankkfmhcoaa.VL
open Go
set_option maxRecDepth 100000
set_option linter.unusedVariables false
set_option linter.unusedSectionVars false
variable [Val]
theorem F19k1_eq (v:(Int×(Int×(Int×(Int×(Int×(Int×((List (Int×(Int×Int)))×((List (Int×Int))×(Int×(Int×(Int×(ByteArray×(Int×Bool)))))))))))))):F19k1 v=(loopX (fun (v0:(Int×(List Int)))=>(cond (decide (v0.1 < ((v.2.2.2.2.2.2.1.length:Nat):Int))) (cond (decide ((0:Int)≤v0.1)) (Option.bind v.2.2.2.2.2.2.1[(Int.toNat v0.1)]? (fun (v1:(Int×(Int×Int)))=>(cond (decide ((0:Int)≤v0.1)) (Option.bind v.2.2.2.2.2.2.1[(Int.toNat v0.1)]? (fun (v2:(Int×(Int×Int)))=>(cond (decide ((0:Int)≤v0.1)) (Option.bind v.2.2.2.2.2.2.1[(Int.toNat v0.1)]? (fun (v3:(Int×(Int×Int)))=>(cond ((decide ((0+v0.2.length)≤v0.2.length))&&((decide (((((v0.2.length+3):Nat):Int) * (8:Int))≤(70368744177664:Int)))&&(decide ((((v0.2.length+3):Nat):Int)≤(70368744177664:Int))))) (cond (decide (((0+v0.2.length)+3)≤v0.2.length)) (cond (decide ((v0.2.length+3)=(Append.append (Append.append (List.take (0+v0.2.length) v0.2) ((IntKind.wrap IntKind.u64 v1.1)::(v2.2.1::((IntKind.wrap IntKind.u64 v3.2.2)::[])))) (List.drop ((0+v0.2.length)+3) v0.2)).length)) (some (.inl ((IntKind.wrap IntKind.i64 (v0.1+(1:Int))),(Append.append (Append.append (List.take (0+v0.2.length) v0.2) ((IntKind.wrap IntKind.u64 v1.1)::(v2.2.1::((IntKind.wrap IntKind.u64 v3.2.2)::[])))) (List.drop ((0+v0.2.length)+3) v0.2))))) none) (cond (decide ((v0.2.length+3)=(Append.append (List.take v0.2.length v0.2) ((IntKind.wrap IntKind.u64 v1.1)::(v2.2.1::((IntKind.wrap IntKind.u64 v3.2.2)::[])))).length)) (some (.inl ((IntKind.wrap IntKind.i64 (v0.1+(1:Int))),(Append.append (List.take v0.2.length v0.2) ((IntKind.wrap IntKind.u64 v1.1)::(v2.2.1::((IntKind.wrap IntKind.u64 v3.2.2)::[]))))))) none)) none))) none))) none))) none) (Option.map (Sum.inr) (cond (decide ((0+v0.2.length)≤v0.2.length)) (Option.bind (F40 (List.take v0.2.length v0.2)) (fun (v4:ByteArray)=>(Option.bind (F37 v4) (fun (v5:ByteArray)=>(some v5))))) none)))) ((0:Int),((1:Int)::((IntKind.wrap IntKind.u64 v.1)::((IntKind.wrap IntKind.u64 v.2.1)::(v.2.2.1::(v.2.2.2.2.1::((IntKind.wrap IntKind.u64 v.2.2.2.2.2.1)::((IntKind.wrap IntKind.u64 ((v.2.2.2.2.2.2.1.length:Nat):Int))::[]))))))))):=by kernel_rfl
theorem F19k2_eq (v:(Int×(Int×(Int×(Int×(Int×(Int×((List (Int×(Int×Int)))×((List (Int×Int))×(Int×(Int×(Int×(ByteArray×(Int×Bool)))))))))))))):F19k2 v=(loopX (fun (v0:(Int×(List Int)))=>(cond (decide (v0.1 < ((v.2.2.2.2.2.2.1.length:Nat):Int))) (cond (decide ((0:Int)≤v0.1)) (Option.bind v.2.2.2.2.2.2.1[(Int.toNat v0.1)]? (fun (v1:(Int×(Int×Int)))=>(cond (decide ((0:Int)≤v0.1)) (Option.bind v.2.2.2.2.2.2.1[(Int.toNat v0.1)]? (fun (v2:(Int×(Int×Int)))=>(cond (decide ((0:Int)≤v0.1)) (Option.bind v.2.2.2.2.2.2.1[(Int.toNat v0.1)]? (fun (v3:(Int×(Int×Int)))=>(cond ((decide ((0+v0.2.length)≤v0.2.length))&&((decide (((((v0.2.length+3):Nat):Int) * (8:Int))≤(70368744177664:Int)))&&(decide ((((v0.2.length+3):Nat):Int)≤(70368744177664:Int))))) (cond (decide (((0+v0.2.length)+3)≤v0.2.length)) (cond (decide ((v0.2.length+3)=(Append.append (Append.append (List.take (0+v0.2.length) v0.2) ((IntKind.wrap IntKind.u64 v1.1)::(v2.2.1::((IntKind.wrap IntKind.u64 v3.2.2)::[])))) (List.drop ((0+v0.2.length)+3) v0.2)).length)) (some (.inl ((IntKind.wrap IntKind.i64 (v0.1+(1:Int))),(Append.append (Append.append (List.take (0+v0.2.length) v0.2) ((IntKind.wrap IntKind.u64 v1.1)::(v2.2.1::((IntKind.wrap IntKind.u64 v3.2.2)::[])))) (List.drop ((0+v0.2.length)+3) v0.2))))) none) (cond (decide ((v0.2.length+3)=(Append.append (List.take v0.2.length v0.2) ((IntKind.wrap IntKind.u64 v1.1)::(v2.2.1::((IntKind.wrap IntKind.u64 v3.2.2)::[])))).length)) (some (.inl ((IntKind.wrap IntKind.i64 (v0.1+(1:Int))),(Append.append (List.take v0.2.length v0.2) ((IntKind.wrap IntKind.u64 v1.1)::(v2.2.1::((IntKind.wrap IntKind.u64 v3.2.2)::[]))))))) none)) none))) none))) none))) none) (Option.map (Sum.inr) (cond (decide ((0+v0.2.length)≤v0.2.length)) (Option.bind (F40 (List.take v0.2.length v0.2)) (fun (v4:ByteArray)=>(Option.bind (F37 v4) (fun (v5:ByteArray)=>(some v5))))) none)))) ((0:Int),((2:Int)::((IntKind.wrap IntKind.u64 v.1)::((IntKind.wrap IntKind.u64 v.2.1)::(v.2.2.1::((IntKind.wrap IntKind.u64 v.2.2.2.1)::((IntKind.wrap IntKind.u64 ((v.2.2.2.2.2.2.1.length:Nat):Int))::[])))))))):=by kernel_rfl
theorem F19k3_eq (v:(Int×(Int×(Int×(Int×(Int×(Int×((List (Int×(Int×Int)))×((List (Int×Int))×(Int×(Int×(Int×(ByteArray×(Int×Bool)))))))))))))):F19k3 v=(loopX (fun (v0:(Int×(List Int)))=>(cond (decide (v0.1 < ((v.2.2.2.2.2.2.1.length:Nat):Int))) (cond (decide ((0:Int)≤v0.1)) (Option.bind v.2.2.2.2.2.2.1[(Int.toNat v0.1)]? (fun (v1:(Int×(Int×Int)))=>(cond (decide ((0:Int)≤v0.1)) (Option.bind v.2.2.2.2.2.2.1[(Int.toNat v0.1)]? (fun (v2:(Int×(Int×Int)))=>(cond (decide ((0:Int)≤v0.1)) (Option.bind v.2.2.2.2.2.2.1[(Int.toNat v0.1)]? (fun (v3:(Int×(Int×Int)))=>(cond ((decide ((0+v0.2.length)≤v0.2.length))&&((decide (((((v0.2.length+3):Nat):Int) * (8:Int))≤(70368744177664:Int)))&&(decide ((((v0.2.length+3):Nat):Int)≤(70368744177664:Int))))) (cond (decide (((0+v0.2.length)+3)≤v0.2.length)) (cond (decide ((v0.2.length+3)=(Append.append (Append.append (List.take (0+v0.2.length) v0.2) ((IntKind.wrap IntKind.u64 v1.1)::(v2.2.1::((IntKind.wrap IntKind.u64 v3.2.2)::[])))) (List.drop ((0+v0.2.length)+3) v0.2)).length)) (some (.inl ((IntKind.wrap IntKind.i64 (v0.1+(1:Int))),(Append.append (Append.append (List.take (0+v0.2.length) v0.2) ((IntKind.wrap IntKind.u64 v1.1)::(v2.2.1::((IntKind.wrap IntKind.u64 v3.2.2)::[])))) (List.drop ((0+v0.2.length)+3) v0.2))))) none) (cond (decide ((v0.2.length+3)=(Append.append (List.take v0.2.length v0.2) ((IntKind.wrap IntKind.u64 v1.1)::(v2.2.1::((IntKind.wrap IntKind.u64 v3.2.2)::[])))).length)) (some (.inl ((IntKind.wrap IntKind.i64 (v0.1+(1:Int))),(Append.append (List.take v0.2.length v0.2) ((IntKind.wrap IntKind.u64 v1.1)::(v2.2.1::((IntKind.wrap IntKind.u64 v3.2.2)::[]))))))) none)) none))) none))) none))) none) (Option.map (Sum.inr) (cond (decide ((0+v0.2.length)≤v0.2.length)) (Option.bind (F40 (List.take v0.2.length v0.2)) (fun (v4:ByteArray)=>(Option.bind (F37 v4) (fun (v5:ByteArray)=>(some v5))))) none)))) ((0:Int),((3:Int)::((IntKind.wrap IntKind.u64 v.1)::((IntKind.wrap IntKind.u64 v.2.1)::(v.2.2.1::((IntKind.wrap IntKind.u64 v.2.2.2.1)::(v.2.2.2.2.1::((IntKind.wrap IntKind.u64 v.2.2.2.2.2.1)::((IntKind.wrap IntKind.u64 ((v.2.2.2.2.2.2.1.length:Nat):Int))::[])))))))))):=by kernel_rfl
theorem F19k4_eq (v:(Int×(Int×(Int×(Int×(Int×(Int×((List (Int×(Int×Int)))×((List (Int×Int))×(Int×(Int×(Int×(ByteArray×(Int×Bool)))))))))))))):F19k4 v=(Option.bind (F40 ((4:Int)::((IntKind.wrap IntKind.u64 v.1)::((IntKind.wrap IntKind.u64 v.2.1)::(v.2.2.1::((IntKind.wrap IntKind.u64 v.2.2.2.1)::[])))))) (fun (v0:ByteArray)=>(Option.bind (F37 v0) (fun (v1:ByteArray)=>(some v1))))):=by kernel_rfl
theorem F19k5_eq (v:(Int×(Int×(Int×(Int×(Int×(Int×((List (Int×(Int×Int)))×((List (Int×Int))×(Int×(Int×(Int×(ByteArray×(Int×Bool)))))))))))))):F19k5 v=(loopX (fun (v0:(Int×(List Int)))=>(cond (decide (v0.1 < ((v.2.2.2.2.2.2.2.1.length:Nat):Int))) (cond (decide ((0:Int)≤v0.1)) (Option.bind v.2.2.2.2.2.2.2.1[(Int.toNat v0.1)]? (fun (v1:(Int×Int))=>(cond (decide ((0:Int)≤v0.1)) (Option.bind v.2.2.2.2.2.2.2.1[(Int.toNat v0.1)]? (fun (v2:(Int×Int))=>(cond ((decide ((0+v0.2.length)≤v0.2.length))&&((decide (((((v0.2.length+2):Nat):Int) * (8:Int))≤(70368744177664:Int)))&&(decide ((((v0.2.length+2):Nat):Int)≤(70368744177664:Int))))) (cond (decide (((0+v0.2.length)+2)≤v0.2.length)) (cond (decide ((v0.2.length+2)=(Append.append (Append.append (List.take (0+v0.2.length) v0.2) (v1.1::((IntKind.wrap IntKind.u64 v2.2)::[]))) (List.drop ((0+v0.2.length)+2) v0.2)).length)) (some (.inl ((IntKind.wrap IntKind.i64 (v0.1+(1:Int))),(Append.append (Append.append (List.take (0+v0.2.length) v0.2) (v1.1::((IntKind.wrap IntKind.u64 v2.2)::[]))) (List.drop ((0+v0.2.length)+2) v0.2))))) none) (cond (decide ((v0.2.length+2)=(Append.append (List.take v0.2.length v0.2) (v1.1::((IntKind.wrap IntKind.u64 v2.2)::[]))).length)) (some (.inl ((IntKind.wrap IntKind.i64 (v0.1+(1:Int))),(Append.append (List.take v0.2.length v0.2) (v1.1::((IntKind.wrap IntKind.u64 v2.2)::[])))))) none)) none))) none))) none) (Option.map (Sum.inr) (cond (decide ((0+v0.2.length)≤v0.2.length)) (Option.bind (F40 (List.take v0.2.length v0.2)) (fun (v3:ByteArray)=>(Option.bind (F37 v3) (fun (v4:ByteArray)=>(some v4))))) none)))) ((0:Int),((5:Int)::((IntKind.wrap IntKind.u64 v.1)::((IntKind.wrap IntKind.u64 v.2.1)::((IntKind.wrap IntKind.u64 ((v.2.2.2.2.2.2.2.1.length:Nat):Int))::[])))))):=by kernel_rfl
theorem F19k6_eq (v:(Int×(Int×(Int×(Int×(Int×(Int×((List (Int×(Int×Int)))×((List (Int×Int))×(Int×(Int×(Int×(ByteArray×(Int×Bool)))))))))))))):F19k6 v=(loopX (fun (v0:(Int×(List Int)))=>(cond (decide (v0.1 < ((v.2.2.2.2.2.2.2.1.length:Nat):Int))) (cond (decide ((0:Int)≤v0.1)) (Option.bind v.2.2.2.2.2.2.2.1[(Int.toNat v0.1)]? (fun (v1:(Int×Int))=>(cond (decide ((0:Int)≤v0.1)) (Option.bind v.2.2.2.2.2.2.2.1[(Int.toNat v0.1)]? (fun (v2:(Int×Int))=>(cond ((decide ((0+v0.2.length)≤v0.2.length))&&((decide (((((v0.2.length+2):Nat):Int) * (8:Int))≤(70368744177664:Int)))&&(decide ((((v0.2.length+2):Nat):Int)≤(70368744177664:Int))))) (cond (decide (((0+v0.2.length)+2)≤v0.2.length)) (cond (decide ((v0.2.length+2)=(Append.append (Append.append (List.take (0+v0.2.length) v0.2) (v1.1::((IntKind.wrap IntKind.u64 v2.2)::[]))) (List.drop ((0+v0.2.length)+2) v0.2)).length)) (some (.inl ((IntKind.wrap IntKind.i64 (v0.1+(1:Int))),(Append.append (Append.append (List.take (0+v0.2.length) v0.2) (v1.1::((IntKind.wrap IntKind.u64 v2.2)::[]))) (List.drop ((0+v0.2.length)+2) v0.2))))) none) (cond (decide ((v0.2.length+2)=(Append.append (List.take v0.2.length v0.2) (v1.1::((IntKind.wrap IntKind.u64 v2.2)::[]))).length)) (some (.inl ((IntKind.wrap IntKind.i64 (v0.1+(1:Int))),(Append.append (List.take v0.2.length v0.2) (v1.1::((IntKind.wrap IntKind.u64 v2.2)::[])))))) none)) none))) none))) none) (Option.map (Sum.inr) (cond (decide ((0+v0.2.length)≤v0.2.length)) (Option.bind (F40 (List.take v0.2.length v0.2)) (fun (v3:ByteArray)=>(Option.bind (F37 v3) (fun (v4:ByteArray)=>(some v4))))) none)))) ((0:Int),((6:Int)::((IntKind.wrap IntKind.u64 v.1)::((IntKind.wrap IntKind.u64 v.2.1)::((IntKind.wrap IntKind.u64 ((v.2.2.2.2.2.2.2.1.length:Nat):Int))::[])))))):=by kernel_rfl
theorem F19k7_eq (v:(Int×(Int×(Int×(Int×(Int×(Int×((List (Int×(Int×Int)))×((List (Int×Int))×(Int×(Int×(Int×(ByteArray×(Int×Bool)))))))))))))):F19k7 v=(Option.bind (F40 ((7:Int)::((IntKind.wrap IntKind.u64 v.1)::((IntKind.wrap IntKind.u64 v.2.1)::(v.2.2.2.2.2.2.2.2.1::(v.2.2.2.2.2.2.2.2.2.1::((IntKind.wrap IntKind.u64 v.2.2.2.2.2.2.2.2.2.2.1)::[]))))))) (fun (v0:ByteArray)=>(Option.bind (F37 v0) (fun (v1:ByteArray)=>(some v1))))):=by kernel_rfl
theorem F19k8_eq (v:(Int×(Int×(Int×(Int×(Int×(Int×((List (Int×(Int×Int)))×((List (Int×Int))×(Int×(Int×(Int×(ByteArray×(Int×Bool)))))))))))))):F19k8 v=(Option.bind (F40 ((8:Int)::((IntKind.wrap IntKind.u64 v.1)::((IntKind.wrap IntKind.u64 v.2.1)::(v.2.2.2.2.2.2.2.2.1::(v.2.2.2.2.2.2.2.2.2.1::((IntKind.wrap IntKind.u64 v.2.2.2.2.2.2.2.2.2.2.1)::[]))))))) (fun (v0:ByteArray)=>(Option.bind (F37 v0) (fun (v1:ByteArray)=>(some v1))))):=by kernel_rfl
theorem F19k9_eq (v:(Int×(Int×(Int×(Int×(Int×(Int×((List (Int×(Int×Int)))×((List (Int×Int))×(Int×(Int×(Int×(ByteArray×(Int×Bool)))))))))))))):F19k9 v=(Option.bind (F40 ((9:Int)::((IntKind.wrap IntKind.u64 v.1)::((IntKind.wrap IntKind.u64 v.2.1)::(v.2.2.2.2.2.2.2.2.1::(v.2.2.2.2.2.2.2.2.2.1::[])))))) (fun (v0:ByteArray)=>(Option.bind (F37 v0) (fun (v1:ByteArray)=>(some v1))))):=by kernel_rfl
theorem F19k10_eq (v:(Int×(Int×(Int×(Int×(Int×(Int×((List (Int×(Int×Int)))×((List (Int×Int))×(Int×(Int×(Int×(ByteArray×(Int×Bool)))))))))))))):F19k10 v=(Option.bind (F40 ((10:Int)::((IntKind.wrap IntKind.u64 v.1)::((IntKind.wrap IntKind.u64 v.2.1)::(v.2.2.2.2.2.2.2.2.2.1::((IntKind.wrap IntKind.u64 v.2.2.2.2.2.2.2.2.2.2.1)::[])))))) (fun (v0:ByteArray)=>(Option.bind (F37 v0) (fun (v1:ByteArray)=>(some v1))))):=by kernel_rfl
theorem F19k11_eq (v:(Int×(Int×(Int×(Int×(Int×(Int×((List (Int×(Int×Int)))×((List (Int×Int))×(Int×(Int×(Int×(ByteArray×(Int×Bool)))))))))))))):F19k11 v=(Option.bind (F40 ((11:Int)::((IntKind.wrap IntKind.u64 v.1)::((IntKind.wrap IntKind.u64 v.2.1)::(v.2.2.2.2.2.2.2.2.1::(v.2.2.2.2.2.2.2.2.2.1::((IntKind.wrap IntKind.u64 v.2.2.2.2.2.2.2.2.2.2.1)::[]))))))) (fun (v0:ByteArray)=>(Option.bind (Option.bind (F41 v.2.2.2.2.2.2.2.2.2.2.2.1) (fun (v1:ByteArray)=>(Option.bind (F42 v.2.2.2.2.2.2.2.2.2.2.2.2.1) (fun (v2:ByteArray)=>(cond (decide (((ByteArray.size v1)+(ByteArray.size v2))≤4611686018427387904)) (cond (decide (((ByteArray.size v0)+(ByteArray.size (v1++v2)))≤4611686018427387904)) (some (v0++(v1++v2))) none) none))))) (fun (v3:ByteArray)=>(Option.bind (F37 v3) (fun (v4:ByteArray)=>(some v4))))))):=by kernel_rfl
theorem F19k12_eq (v:(Int×(Int×(Int×(Int×(Int×(Int×((List (Int×(Int×Int)))×((List (Int×Int))×(Int×(Int×(Int×(ByteArray×(Int×Bool)))))))))))))):F19k12 v=(Option.bind (F40 ((12:Int)::((IntKind.wrap IntKind.u64 v.1)::((IntKind.wrap IntKind.u64 v.2.1)::[])))) (fun (v0:ByteArray)=>(Option.bind (Option.bind (F41 v.2.2.2.2.2.2.2.2.2.2.2.1) (fun (v1:ByteArray)=>(Option.bind (F42 v.2.2.2.2.2.2.2.2.2.2.2.2.1) (fun (v2:ByteArray)=>(cond (decide (((ByteArray.size v1)+(ByteArray.size v2))≤4611686018427387904)) (cond (decide (((ByteArray.size v0)+(ByteArray.size (v1++v2)))≤4611686018427387904)) (some (v0++(v1++v2))) none) none))))) (fun (v3:ByteArray)=>(Option.bind (cond v.2.2.2.2.2.2.2.2.2.2.2.2.2 (cond (decide (((ByteArray.size v3)+(ByteArray.size (ByteArray.mk #[1])))≤4611686018427387904)) (some (v3++(ByteArray.mk #[1]))) none) (some v3)) (fun (v4:ByteArray)=>(cond (!v.2.2.2.2.2.2.2.2.2.2.2.2.2) (cond (decide (((ByteArray.size v4)+(ByteArray.size (ByteArray.mk #[0])))≤4611686018427387904)) (Option.bind (F37 (v4++(ByteArray.mk #[0]))) (fun (v5:ByteArray)=>(some v5))) none) (Option.bind (F37 v4) (fun (v6:ByteArray)=>(some v6)))))))))):=by kernel_rfl
end Go.Proofs.Ytgbcankkfmhcoaa.VL
end
section
namespace Go.Proofs.Ytgbcankkfmhcoaa.VL
open Go
set_option linter.unusedVariables false
set_option linter.unusedSectionVars false
set_option linter.unusedSimpArgs false
set_option maxRecDepth 100000
variable [Val]
theorem numsU_app (a b:List Int):numsU (a++b)=numsU a++numsU b:=by unfold numsU; rw [List.flatMap_append]
theorem many_loop19 {E:Type} {f:Int×List Int→Option ((Int×List Int) ⊕ ByteArray)} {l:List E} (hl:l.length≤100) (g:E→List Int) (hg:∀ x ∈ l,(g x).length≤3∧∀ y ∈ g x,U64 y) (L0:List Int) (h0:L0.length≤20) (hr:∀ x ∈ L0,U64 x)
  (hend:∀ L,L.length≤320→f (((l.length:Nat):Int),L)=(Option.map Sum.inr (Option.bind (F40 L) fun v4=>Option.bind (F37 v4) fun v5=>some v5)))
  (hstep:∀ (i:Nat) (L:List Int) (h:i < l.length),L.length≤320→f (((i:Nat):Int),L)=some (.inl (((i+1:Nat):Int),L++g l[i]))) :
  loopX f (0,L0)=some (mkB ((numsU L0++l.flatMap fun x=>numsU (g x))++four (crc (numsU L0++l.flatMap fun x=>numsU (g x))))):=by
 have hlen:∀ i,((l.take i).flatMap g).length≤3 * l.length:=by
  intro i
  have key:∀ m:List E,(∀ x ∈ m,(g x).length≤3)→(m.flatMap g).length≤3 * m.length:=by
   intro m
   induction m with
   | nil=>intro _; exact Nat.le_refl _
   | cons a r ih =>
    intro h
    have h1:=ih (fun x hx=>h x (by simp [hx]))
    have h2:=h a (by simp)
    rw [List.flatMap_cons,List.length_append,List.length_cons]
    omega
  have:=key (l.take i) (fun x hx=>(hg x (List.mem_of_mem_take hx)).1)
  rw [List.length_take] at this
  omega
 have hall:∀ x ∈ L0++l.flatMap g,U64 x:=by
  intro x hx
  rcases List.mem_append.1 hx with h | h
  ·exact hr x h
  ·obtain ⟨y,hy,hxy⟩:=List.mem_flatMap.1 h
   exact (hg y hy).2 x hxy
 have hL:=hlen l.length
 rw [List.take_length] at hL
 have e:numsU (L0++l.flatMap g)=numsU L0++l.flatMap fun x=>numsU (g x):=by
  rw [numsU_app]
  congr 1
  unfold numsU
  rw [List.flatMap_assoc]
 have f40:=F40_ok (l:=L0++l.flatMap g) (by rw [List.length_append]; omega) hall
 have hn:=numsU_len hall
 rw [e] at f40 hn
 have hn2:(L0++l.flatMap g).length≤320:=by rw [List.length_append]; omega
 have f37:=F37_ok (l:=numsU L0++l.flatMap fun x=>numsU (g x)) (by omega)
 rw [loop_detE (s0:=((0:Int),L0)) l.length (fun i=>(((i:Nat):Int),L0++(l.take i).flatMap g)) _ (by simp)]
 ·rw [List.take_length,hend _ (by rw [List.length_append]; omega),f40]
  simp only [Option.bind_some,f37,Option.map_some]
 ·intro i hi
  have:=hlen i
  rw [hstep i _ hi (by rw [List.length_append]; omega)]
  refine congrArg (fun x=>some (Sum.inl x)) ?_
  rw [List.take_succ_eq_append_getElem hi,List.flatMap_append,List.append_assoc]
  simp
noncomputable def nwF (l:List NW):Int×List Int→Option ((Int×List Int) ⊕ ByteArray):=(fun (v0:(Int×(List Int)))=>(cond (decide (v0.1 < ((l.length:Nat):Int))) (cond (decide ((0:Int)≤v0.1)) (Option.bind l[(Int.toNat v0.1)]? (fun (v1:(Int×(Int×Int)))=>(cond (decide ((0:Int)≤v0.1)) (Option.bind l[(Int.toNat v0.1)]? (fun (v2:(Int×(Int×Int)))=>(cond (decide ((0:Int)≤v0.1)) (Option.bind l[(Int.toNat v0.1)]? (fun (v3:(Int×(Int×Int)))=>(cond ((decide ((0+v0.2.length)≤v0.2.length))&&((decide (((((v0.2.length+3):Nat):Int) * (8:Int))≤(70368744177664:Int)))&&(decide ((((v0.2.length+3):Nat):Int)≤(70368744177664:Int))))) (cond (decide (((0+v0.2.length)+3)≤v0.2.length)) (cond (decide ((v0.2.length+3)=(Append.append (Append.append (List.take (0+v0.2.length) v0.2) ((IntKind.wrap IntKind.u64 v1.1)::(v2.2.1::((IntKind.wrap IntKind.u64 v3.2.2)::[])))) (List.drop ((0+v0.2.length)+3) v0.2)).length)) (some (.inl ((IntKind.wrap IntKind.i64 (v0.1+(1:Int))),(Append.append (Append.append (List.take (0+v0.2.length) v0.2) ((IntKind.wrap IntKind.u64 v1.1)::(v2.2.1::((IntKind.wrap IntKind.u64 v3.2.2)::[])))) (List.drop ((0+v0.2.length)+3) v0.2))))) none) (cond (decide ((v0.2.length+3)=(Append.append (List.take v0.2.length v0.2) ((IntKind.wrap IntKind.u64 v1.1)::(v2.2.1::((IntKind.wrap IntKind.u64 v3.2.2)::[])))).length)) (some (.inl ((IntKind.wrap IntKind.i64 (v0.1+(1:Int))),(Append.append (List.take v0.2.length v0.2) ((IntKind.wrap IntKind.u64 v1.1)::(v2.2.1::((IntKind.wrap IntKind.u64 v3.2.2)::[]))))))) none)) none))) none))) none))) none) (Option.map (Sum.inr) (cond (decide ((0+v0.2.length)≤v0.2.length)) (Option.bind (F40 (List.take v0.2.length v0.2)) (fun (v4:ByteArray)=>(Option.bind (F37 v4) (fun (v5:ByteArray)=>(some v5))))) none))))
noncomputable def tbF (l:List KW):Int×List Int→Option ((Int×List Int) ⊕ ByteArray):=(fun (v0:(Int×(List Int)))=>(cond (decide (v0.1 < ((l.length:Nat):Int))) (cond (decide ((0:Int)≤v0.1)) (Option.bind l[(Int.toNat v0.1)]? (fun (v1:(Int×Int))=>(cond (decide ((0:Int)≤v0.1)) (Option.bind l[(Int.toNat v0.1)]? (fun (v2:(Int×Int))=>(cond ((decide ((0+v0.2.length)≤v0.2.length))&&((decide (((((v0.2.length+2):Nat):Int) * (8:Int))≤(70368744177664:Int)))&&(decide ((((v0.2.length+2):Nat):Int)≤(70368744177664:Int))))) (cond (decide (((0+v0.2.length)+2)≤v0.2.length)) (cond (decide ((v0.2.length+2)=(Append.append (Append.append (List.take (0+v0.2.length) v0.2) (v1.1::((IntKind.wrap IntKind.u64 v2.2)::[]))) (List.drop ((0+v0.2.length)+2) v0.2)).length)) (some (.inl ((IntKind.wrap IntKind.i64 (v0.1+(1:Int))),(Append.append (Append.append (List.take (0+v0.2.length) v0.2) (v1.1::((IntKind.wrap IntKind.u64 v2.2)::[]))) (List.drop ((0+v0.2.length)+2) v0.2))))) none) (cond (decide ((v0.2.length+2)=(Append.append (List.take v0.2.length v0.2) (v1.1::((IntKind.wrap IntKind.u64 v2.2)::[]))).length)) (some (.inl ((IntKind.wrap IntKind.i64 (v0.1+(1:Int))),(Append.append (List.take v0.2.length v0.2) (v1.1::((IntKind.wrap IntKind.u64 v2.2)::[])))))) none)) none))) none))) none) (Option.map (Sum.inr) (cond (decide ((0+v0.2.length)≤v0.2.length)) (Option.bind (F40 (List.take v0.2.length v0.2)) (fun (v3:ByteArray)=>(Option.bind (F37 v3) (fun (v4:ByteArray)=>(some v4))))) none))))
theorem nwF_ok {l:List NW} (hl:l.length≤8) (hv:∀ x ∈ l,(0≤x.1∧x.1≤63)∧U64 x.2.1∧(0≤x.2.2∧x.2.2≤3)) (L0:List Int) (h0:L0.length≤20) (hr:∀ x ∈ L0,U64 x) :
  loopX (nwF l) (0,L0)=some (mkB ((numsU L0++l.flatMap newO)++four (crc (numsU L0++l.flatMap newO)))):=by
 have e:(fun x:NW=>numsU [x.1,x.2.1,x.2.2])=newO:=by
  funext x
  unfold numsU newO
  simp
 rw [many_loop19 (f:=nwF l) (l:=l) (by omega) (fun x=>[x.1,x.2.1,x.2.2]) (fun x hx=>⟨Nat.le_refl _,fun y hy=>?_⟩) L0 h0 hr,e]
 ·intro L hL
  have q:¬ ((l.length:Nat):Int) < ((l.length:Nat):Int):=by omega
  unfold nwF
  simp -implicitDefEqProofs only [q,eq_self,xs]
 ·intro i L hi hL
  have q1:((i:Nat):Int) < ((l.length:Nat):Int):=by omega
  have q2:(0:Int)≤(i:Int):=by omega
  have g:=List.getElem?_eq_getElem hi
  obtain ⟨v1,v2,v3⟩:=hv l[i] (List.getElem_mem hi)
  generalize l[i]=x at *
  have u1:IntKind.wrap .u64 x.1=x.1:=wu v1.1 (by omega)
  have u3:IntKind.wrap .u64 x.2.2=x.2.2:=wu v3.1 (by omega)
  have p1:(((L.length+3:Nat):Int) * 8)≤70368744177664:=by omega
  have p2:(((L.length+3:Nat):Int))≤70368744177664:=by omega
  have p3:¬ L.length+3≤L.length:=by omega
  unfold nwF
  simp -implicitDefEqProofs only [q1,q2,g,p1,p2,p3,u1,u3,Nat.zero_add,w1 (show i≤9223372036854775806 by omega),eq_self,xs]
 ·obtain ⟨v1,v2,v3⟩:=hv x hx
  simp only [List.mem_cons,List.not_mem_nil,or_false] at hy
  rcases hy with rfl | rfl | rfl
  ·exact ⟨v1.1,by omega⟩
  ·exact v2
  ·exact ⟨v3.1,by omega⟩
theorem tbF_ok {l:List KW} (hl:l.length≤64) (hv:∀ x ∈ l,U64 x.1∧(0≤x.2∧x.2≤3)) (L0:List Int) (h0:L0.length≤20) (hr:∀ x ∈ L0,U64 x) :
  loopX (tbF l) (0,L0)=some (mkB ((numsU L0++l.flatMap tabO)++four (crc (numsU L0++l.flatMap tabO)))):=by
 have e:(fun x:KW=>numsU [x.1,x.2])=tabO:=by
  funext x
  unfold numsU tabO
  simp
 rw [many_loop19 (f:=tbF l) (l:=l) (by omega) (fun x=>[x.1,x.2]) (fun x hx=>⟨Nat.le_succ _,fun y hy=>?_⟩) L0 h0 hr,e]
 ·intro L hL
  have q:¬ ((l.length:Nat):Int) < ((l.length:Nat):Int):=by omega
  unfold tbF
  simp -implicitDefEqProofs only [q,eq_self,xs]
 ·intro i L hi hL
  have q1:((i:Nat):Int) < ((l.length:Nat):Int):=by omega
  have q2:(0:Int)≤(i:Int):=by omega
  have g:=List.getElem?_eq_getElem hi
  obtain ⟨v1,v3⟩:=hv l[i] (List.getElem_mem hi)
  generalize l[i]=x at *
  have u3:IntKind.wrap .u64 x.2=x.2:=wu v3.1 (by omega)
  have p1:(((L.length+2:Nat):Int) * 8)≤70368744177664:=by omega
  have p2:(((L.length+2:Nat):Int))≤70368744177664:=by omega
  have p3:¬ L.length+2≤L.length:=by omega
  unfold tbF
  simp -implicitDefEqProofs only [q1,q2,g,p1,p2,p3,u3,Nat.zero_add,w1 (show i≤9223372036854775806 by omega),eq_self,xs]
 ·obtain ⟨v1,v3⟩:=hv x hx
  simp only [List.mem_cons,List.not_mem_nil,or_false] at hy
  rcases hy with rfl | rfl
  ·exact v1
  ·exact ⟨v3.1,by omega⟩
theorem n01:numU 0=[0]∧numU 1=[1]:=by
 constructor
 ·unfold numU numZ; rw [hiZ_small (by decide),loZ_small (by decide)]; rfl
 ·unfold numU numZ; rw [hiZ_small (by decide),loZ_small (by decide)]; rfl
theorem F19_ok {m:MB} (g:Giv m) (hm:msgB m=true):F19 m=some (mkB (txtO m)):=by
 have h:=may_of hm
 obtain ⟨k,fr,to,sq,wh,ki,ks,nw,tb,ep,bo,ak,tk,tn,gd⟩:=m
 have hk:=h.k
 have u2:U64 fr:=⟨h.fr.1,by have:=h.fr.2; simp only at this; omega⟩
 have u3:U64 to:=⟨h.to.1,by have:=h.to.2; simp only at this; omega⟩
 have u4:U64 sq:=g.sq
 have u5:U64 wh:=⟨h.rwh.1,by have:=h.rwh.2; simp only at this; omega⟩
 have u6:U64 ki:=g.ki
 have u7:U64 ks:=⟨h.rks.1,by have:=h.rks.2; simp only at this; omega⟩
 have u8:U64 ep:=g.ep
 have u9:U64 bo:=g.bo
 have ua:U64 ak:=⟨h.rak.1,by have:=h.rak.2; simp only at this; omega⟩
 have ut:U64 tn:=g.tn
 have un:U64 ((nw.length:Nat):Int):=⟨by omega,by have:=h.rnw.1; simp only at this; omega⟩
 have ub:U64 ((tb.length:Nat):Int):=⟨by omega,by have:=h.rtb.1; simp only at this; omega⟩
 have f40:∀ L:List Int,L.length≤20→(∀ x ∈ L,U64 x)→F40 L=some (mkB (numsU L))∧(numsU L).length≤200:=fun L hL hr=>⟨F40_ok (by omega) hr,by have:=numsU_len hr; omega⟩
 rcases kinds hk with rfl | rfl | rfl | rfl | rfl | rfl | rfl | rfl | rfl | rfl | rfl | rfl
 ·have hU:∀ x ∈ ([(1:Int),fr,to,sq,ki,ks,((nw.length:Nat):Int)]:List Int),U64 x:=by
   intro x hx
   simp only [List.mem_cons,List.not_mem_nil,or_false] at hx
   rcases hx with rfl | rfl | rfl | rfl | rfl | rfl | rfl
   ·exact ⟨by decide,by decide⟩
   ·exact u2
   ·exact u3
   ·exact u4
   ·exact u6
   ·exact u7
   ·exact un
  have hb:numsU [(1:Int),fr,to,sq,ki,ks,((nw.length:Nat):Int)]=numU (1:Int)++(numU fr++(numU to++(numU sq++(numU ki++(numU ks++(numU ((nw.length:Nat):Int))))))):=by
   unfold numsU
   simp
  show F19k1 (fr,to,sq,wh,ki,ks,nw,tb,ep,bo,ak,tk,tn,gd)=_
  rw [F19k1_eq]
  simp only [uw u2,uw u3,uw u4,uw u6,uw u7,uw un]
  have hl:=nwF_ok (l:=nw) h.rnw.1 (fun x hx=>⟨(h.rnw.2 x hx).1,g.nw x hx,(h.rnw.2 x hx).2⟩) [(1:Int),fr,to,sq,ki,ks,((nw.length:Nat):Int)] (by simp only [List.length_cons,List.length_nil]; omega) hU
  refine Eq.trans hl ?_
  have hx:numsU [(1:Int),fr,to,sq,ki,ks,((nw.length:Nat):Int)]++nw.flatMap newO=bodO (1,fr,to,sq,wh,ki,ks,nw,tb,ep,bo,ak,tk,tn,gd):=by
   rw [hb]
   unfold bodO heaO parO
   simp [hasN,pN]
  rw [hx]; rfl
 ·have hU:∀ x ∈ ([(2:Int),fr,to,sq,wh,((nw.length:Nat):Int)]:List Int),U64 x:=by
   intro x hx
   simp only [List.mem_cons,List.not_mem_nil,or_false] at hx
   rcases hx with rfl | rfl | rfl | rfl | rfl | rfl
   ·exact ⟨by decide,by decide⟩
   ·exact u2
   ·exact u3
   ·exact u4
   ·exact u5
   ·exact un
  have hb:numsU [(2:Int),fr,to,sq,wh,((nw.length:Nat):Int)]=numU (2:Int)++(numU fr++(numU to++(numU sq++(numU wh++(numU ((nw.length:Nat):Int)))))):=by
   unfold numsU
   simp
  show F19k2 (fr,to,sq,wh,ki,ks,nw,tb,ep,bo,ak,tk,tn,gd)=_
  rw [F19k2_eq]
  simp only [uw u2,uw u3,uw u4,uw u5,uw un]
  have hl:=nwF_ok (l:=nw) h.rnw.1 (fun x hx=>⟨(h.rnw.2 x hx).1,g.nw x hx,(h.rnw.2 x hx).2⟩) [(2:Int),fr,to,sq,wh,((nw.length:Nat):Int)] (by simp only [List.length_cons,List.length_nil]; omega) hU
  refine Eq.trans hl ?_
  have hx:numsU [(2:Int),fr,to,sq,wh,((nw.length:Nat):Int)]++nw.flatMap newO=bodO (2,fr,to,sq,wh,ki,ks,nw,tb,ep,bo,ak,tk,tn,gd):=by
   rw [hb]
   unfold bodO heaO parO
   simp [hasN,pN]
  rw [hx]; rfl
 ·have hU:∀ x ∈ ([(3:Int),fr,to,sq,wh,ki,ks,((nw.length:Nat):Int)]:List Int),U64 x:=by
   intro x hx
   simp only [List.mem_cons,List.not_mem_nil,or_false] at hx
   rcases hx with rfl | rfl | rfl | rfl | rfl | rfl | rfl | rfl
   ·exact ⟨by decide,by decide⟩
   ·exact u2
   ·exact u3
   ·exact u4
   ·exact u5
   ·exact u6
   ·exact u7
   ·exact un
  have hb:numsU [(3:Int),fr,to,sq,wh,ki,ks,((nw.length:Nat):Int)]=numU (3:Int)++(numU fr++(numU to++(numU sq++(numU wh++(numU ki++(numU ks++(numU ((nw.length:Nat):Int)))))))):=by
   unfold numsU
   simp
  show F19k3 (fr,to,sq,wh,ki,ks,nw,tb,ep,bo,ak,tk,tn,gd)=_
  rw [F19k3_eq]
  simp only [uw u2,uw u3,uw u4,uw u5,uw u6,uw u7,uw un]
  have hl:=nwF_ok (l:=nw) h.rnw.1 (fun x hx=>⟨(h.rnw.2 x hx).1,g.nw x hx,(h.rnw.2 x hx).2⟩) [(3:Int),fr,to,sq,wh,ki,ks,((nw.length:Nat):Int)] (by simp only [List.length_cons,List.length_nil]; omega) hU
  refine Eq.trans hl ?_
  have hx:numsU [(3:Int),fr,to,sq,wh,ki,ks,((nw.length:Nat):Int)]++nw.flatMap newO=bodO (3,fr,to,sq,wh,ki,ks,nw,tb,ep,bo,ak,tk,tn,gd):=by
   rw [hb]
   unfold bodO heaO parO
   simp [hasN,pN]
  rw [hx]; rfl
 ·have hU:∀ x ∈ ([(4:Int),fr,to,sq,wh]:List Int),U64 x:=by
   intro x hx
   simp only [List.mem_cons,List.not_mem_nil,or_false] at hx
   rcases hx with rfl | rfl | rfl | rfl | rfl
   ·exact ⟨by decide,by decide⟩
   ·exact u2
   ·exact u3
   ·exact u4
   ·exact u5
  have hb:numsU [(4:Int),fr,to,sq,wh]=numU (4:Int)++(numU fr++(numU to++(numU sq++(numU wh)))):=by
   unfold numsU
   simp
  show F19k4 (fr,to,sq,wh,ki,ks,nw,tb,ep,bo,ak,tk,tn,gd)=_
  rw [F19k4_eq]
  simp only [uw u2,uw u3,uw u4,uw u5]
  obtain ⟨f1,f2⟩:=f40 [(4:Int),fr,to,sq,wh] (by simp only [List.length_cons,List.length_nil]; omega) hU
  rw [f1]
  simp only [Option.bind_some,F37_ok (show (numsU [(4:Int),fr,to,sq,wh]).length≤100000 by omega)]
  have hx:numsU [(4:Int),fr,to,sq,wh]=bodO (4,fr,to,sq,wh,ki,ks,nw,tb,ep,bo,ak,tk,tn,gd):=by
   rw [hb]
   unfold bodO heaO parO
   simp [hasN,pN]
  rw [hx]; rfl
 ·have hU:∀ x ∈ ([(5:Int),fr,to,((tb.length:Nat):Int)]:List Int),U64 x:=by
   intro x hx
   simp only [List.mem_cons,List.not_mem_nil,or_false] at hx
   rcases hx with rfl | rfl | rfl | rfl
   ·exact ⟨by decide,by decide⟩
   ·exact u2
   ·exact u3
   ·exact ub
  have hb:numsU [(5:Int),fr,to,((tb.length:Nat):Int)]=numU (5:Int)++(numU fr++(numU to++(numU ((tb.length:Nat):Int)))):=by
   unfold numsU
   simp
  show F19k5 (fr,to,sq,wh,ki,ks,nw,tb,ep,bo,ak,tk,tn,gd)=_
  rw [F19k5_eq]
  simp only [uw u2,uw u3,uw ub]
  have hl:=tbF_ok (l:=tb) h.rtb.1 (fun x hx=>⟨g.tb x hx,h.rtb.2 x hx⟩) [(5:Int),fr,to,((tb.length:Nat):Int)] (by simp only [List.length_cons,List.length_nil]; omega) hU
  refine Eq.trans hl ?_
  have hx:numsU [(5:Int),fr,to,((tb.length:Nat):Int)]++tb.flatMap tabO=bodO (5,fr,to,sq,wh,ki,ks,nw,tb,ep,bo,ak,tk,tn,gd):=by
   rw [hb]
   unfold bodO heaO parO
   simp [hasN,pN]
  rw [hx]; rfl
 ·have hU:∀ x ∈ ([(6:Int),fr,to,((tb.length:Nat):Int)]:List Int),U64 x:=by
   intro x hx
   simp only [List.mem_cons,List.not_mem_nil,or_false] at hx
   rcases hx with rfl | rfl | rfl | rfl
   ·exact ⟨by decide,by decide⟩
   ·exact u2
   ·exact u3
   ·exact ub
  have hb:numsU [(6:Int),fr,to,((tb.length:Nat):Int)]=numU (6:Int)++(numU fr++(numU to++(numU ((tb.length:Nat):Int)))):=by
   unfold numsU
   simp
  show F19k6 (fr,to,sq,wh,ki,ks,nw,tb,ep,bo,ak,tk,tn,gd)=_
  rw [F19k6_eq]
  simp only [uw u2,uw u3,uw ub]
  have hl:=tbF_ok (l:=tb) h.rtb.1 (fun x hx=>⟨g.tb x hx,h.rtb.2 x hx⟩) [(6:Int),fr,to,((tb.length:Nat):Int)] (by simp only [List.length_cons,List.length_nil]; omega) hU
  refine Eq.trans hl ?_
  have hx:numsU [(6:Int),fr,to,((tb.length:Nat):Int)]++tb.flatMap tabO=bodO (6,fr,to,sq,wh,ki,ks,nw,tb,ep,bo,ak,tk,tn,gd):=by
   rw [hb]
   unfold bodO heaO parO
   simp [hasN,pN]
  rw [hx]; rfl
 ·have hU:∀ x ∈ ([(7:Int),fr,to,ep,bo,ak]:List Int),U64 x:=by
   intro x hx
   simp only [List.mem_cons,List.not_mem_nil,or_false] at hx
   rcases hx with rfl | rfl | rfl | rfl | rfl | rfl
   ·exact ⟨by decide,by decide⟩
   ·exact u2
   ·exact u3
   ·exact u8
   ·exact u9
   ·exact ua
  have hb:numsU [(7:Int),fr,to,ep,bo,ak]=numU (7:Int)++(numU fr++(numU to++(numU ep++(numU bo++(numU ak))))):=by
   unfold numsU
   simp
  show F19k7 (fr,to,sq,wh,ki,ks,nw,tb,ep,bo,ak,tk,tn,gd)=_
  rw [F19k7_eq]
  simp only [uw u2,uw u3,uw u8,uw u9,uw ua]
  obtain ⟨f1,f2⟩:=f40 [(7:Int),fr,to,ep,bo,ak] (by simp only [List.length_cons,List.length_nil]; omega) hU
  rw [f1]
  simp only [Option.bind_some,F37_ok (show (numsU [(7:Int),fr,to,ep,bo,ak]).length≤100000 by omega)]
  have hx:numsU [(7:Int),fr,to,ep,bo,ak]=bodO (7,fr,to,sq,wh,ki,ks,nw,tb,ep,bo,ak,tk,tn,gd):=by
   rw [hb]
   unfold bodO heaO parO
   simp [hasN,pN]
  rw [hx]; rfl
 ·have hU:∀ x ∈ ([(8:Int),fr,to,ep,bo,ak]:List Int),U64 x:=by
   intro x hx
   simp only [List.mem_cons,List.not_mem_nil,or_false] at hx
   rcases hx with rfl | rfl | rfl | rfl | rfl | rfl
   ·exact ⟨by decide,by decide⟩
   ·exact u2
   ·exact u3
   ·exact u8
   ·exact u9
   ·exact ua
  have hb:numsU [(8:Int),fr,to,ep,bo,ak]=numU (8:Int)++(numU fr++(numU to++(numU ep++(numU bo++(numU ak))))):=by
   unfold numsU
   simp
  show F19k8 (fr,to,sq,wh,ki,ks,nw,tb,ep,bo,ak,tk,tn,gd)=_
  rw [F19k8_eq]
  simp only [uw u2,uw u3,uw u8,uw u9,uw ua]
  obtain ⟨f1,f2⟩:=f40 [(8:Int),fr,to,ep,bo,ak] (by simp only [List.length_cons,List.length_nil]; omega) hU
  rw [f1]
  simp only [Option.bind_some,F37_ok (show (numsU [(8:Int),fr,to,ep,bo,ak]).length≤100000 by omega)]
  have hx:numsU [(8:Int),fr,to,ep,bo,ak]=bodO (8,fr,to,sq,wh,ki,ks,nw,tb,ep,bo,ak,tk,tn,gd):=by
   rw [hb]
   unfold bodO heaO parO
   simp [hasN,pN]
  rw [hx]; rfl
 ·have hU:∀ x ∈ ([(9:Int),fr,to,ep,bo]:List Int),U64 x:=by
   intro x hx
   simp only [List.mem_cons,List.not_mem_nil,or_false] at hx
   rcases hx with rfl | rfl | rfl | rfl | rfl
   ·exact ⟨by decide,by decide⟩
   ·exact u2
   ·exact u3
   ·exact u8
   ·exact u9
  have hb:numsU [(9:Int),fr,to,ep,bo]=numU (9:Int)++(numU fr++(numU to++(numU ep++(numU bo)))):=by
   unfold numsU
   simp
  show F19k9 (fr,to,sq,wh,ki,ks,nw,tb,ep,bo,ak,tk,tn,gd)=_
  rw [F19k9_eq]
  simp only [uw u2,uw u3,uw u8,uw u9]
  obtain ⟨f1,f2⟩:=f40 [(9:Int),fr,to,ep,bo] (by simp only [List.length_cons,List.length_nil]; omega) hU
  rw [f1]
  simp only [Option.bind_some,F37_ok (show (numsU [(9:Int),fr,to,ep,bo]).length≤100000 by omega)]
  have hx:numsU [(9:Int),fr,to,ep,bo]=bodO (9,fr,to,sq,wh,ki,ks,nw,tb,ep,bo,ak,tk,tn,gd):=by
   rw [hb]
   unfold bodO heaO parO
   simp [hasN,pN]
  rw [hx]; rfl
 ·have hU:∀ x ∈ ([(10:Int),fr,to,bo,ak]:List Int),U64 x:=by
   intro x hx
   simp only [List.mem_cons,List.not_mem_nil,or_false] at hx
   rcases hx with rfl | rfl | rfl | rfl | rfl
   ·exact ⟨by decide,by decide⟩
   ·exact u2
   ·exact u3
   ·exact u9
   ·exact ua
  have hb:numsU [(10:Int),fr,to,bo,ak]=numU (10:Int)++(numU fr++(numU to++(numU bo++(numU ak)))):=by
   unfold numsU
   simp
  show F19k10 (fr,to,sq,wh,ki,ks,nw,tb,ep,bo,ak,tk,tn,gd)=_
  rw [F19k10_eq]
  simp only [uw u2,uw u3,uw u9,uw ua]
  obtain ⟨f1,f2⟩:=f40 [(10:Int),fr,to,bo,ak] (by simp only [List.length_cons,List.length_nil]; omega) hU
  rw [f1]
  simp only [Option.bind_some,F37_ok (show (numsU [(10:Int),fr,to,bo,ak]).length≤100000 by omega)]
  have hx:numsU [(10:Int),fr,to,bo,ak]=bodO (10,fr,to,sq,wh,ki,ks,nw,tb,ep,bo,ak,tk,tn,gd):=by
   rw [hb]
   unfold bodO heaO parO
   simp [hasN,pN]
  rw [hx]; rfl
 ·have hU:∀ x ∈ ([(11:Int),fr,to,ep,bo,ak]:List Int),U64 x:=by
   intro x hx
   simp only [List.mem_cons,List.not_mem_nil,or_false] at hx
   rcases hx with rfl | rfl | rfl | rfl | rfl | rfl
   ·exact ⟨by decide,by decide⟩
   ·exact u2
   ·exact u3
   ·exact u8
   ·exact u9
   ·exact ua
  have hb:numsU [(11:Int),fr,to,ep,bo,ak]=numU (11:Int)++(numU fr++(numU to++(numU ep++(numU bo++(numU ak))))):=by
   unfold numsU
   simp
  show F19k11 (fr,to,sq,wh,ki,ks,nw,tb,ep,bo,ak,tk,tn,gd)=_
  rw [F19k11_eq]
  simp only [uw u2,uw u3,uw u8,uw u9,uw ua]
  obtain ⟨f1,f2⟩:=f40 [(11:Int),fr,to,ep,bo,ak] (by simp only [List.length_cons,List.length_nil]; omega) hU
  have ht:tk.size≤200:=by have:=h.rtk; simp only at this; omega
  have f41:=F41_ok (t:=tk) ht
  have f42:=F42_ok ut
  have l1:=numU_len (x:=((tk.size:Nat):Int)) (by omega)
  have l2:=numU_len ut.2
  have l3:=toList_len tk
  have q1:(mkB (numU ((tk.size:Nat):Int)++tk.toList)).size+(mkB (numU tn)).size≤4611686018427387904:=by rw [mkB_size,mkB_size,List.length_append]; omega
  have q2:(mkB (numsU [(11:Int),fr,to,ep,bo,ak])).size+(mkB ((numU ((tk.size:Nat):Int)++tk.toList)++numU tn)).size≤4611686018427387904:=by rw [mkB_size,mkB_size,List.length_append,List.length_append]; omega
  have q3:(numsU [(11:Int),fr,to,ep,bo,ak]++((numU ((tk.size:Nat):Int)++tk.toList)++numU tn)).length≤100000:=by rw [List.length_append,List.length_append,List.length_append]; omega
  simp -implicitDefEqProofs only [f1,f41,f42,q1,q2,mkB_app,F37_ok q3,eq_self,xs]
  have hx:numsU [(11:Int),fr,to,ep,bo,ak]++((numU ((tk.size:Nat):Int)++tk.toList)++numU tn)=bodO (11,fr,to,sq,wh,ki,ks,nw,tb,ep,bo,ak,tk,tn,gd):=by
   rw [hb]
   unfold bodO heaO parO
   simp [hasN,pN]
  rw [hx]; rfl
 ·have hU:∀ x ∈ ([(12:Int),fr,to]:List Int),U64 x:=by
   intro x hx
   simp only [List.mem_cons,List.not_mem_nil,or_false] at hx
   rcases hx with rfl | rfl | rfl
   ·exact ⟨by decide,by decide⟩
   ·exact u2
   ·exact u3
  have hb:numsU [(12:Int),fr,to]=numU (12:Int)++(numU fr++(numU to)):=by
   unfold numsU
   simp
  show F19k12 (fr,to,sq,wh,ki,ks,nw,tb,ep,bo,ak,tk,tn,gd)=_
  rw [F19k12_eq]
  simp only [uw u2,uw u3]
  obtain ⟨f1,f2⟩:=f40 [(12:Int),fr,to] (by simp only [List.length_cons,List.length_nil]; omega) hU
  have ht:tk.size≤200:=by have:=h.rtk; simp only at this; omega
  have f41:=F41_ok (t:=tk) ht
  have f42:=F42_ok ut
  have l1:=numU_len (x:=((tk.size:Nat):Int)) (by omega)
  have l2:=numU_len ut.2
  have l3:=toList_len tk
  have q1:(mkB (numU ((tk.size:Nat):Int)++tk.toList)).size+(mkB (numU tn)).size≤4611686018427387904:=by rw [mkB_size,mkB_size,List.length_append]; omega
  have q2:(mkB (numsU [(12:Int),fr,to])).size+(mkB ((numU ((tk.size:Nat):Int)++tk.toList)++numU tn)).size≤4611686018427387904:=by rw [mkB_size,mkB_size,List.length_append,List.length_append]; omega
  have e1:ByteArray.mk #[1]=mkB [1]:=rfl
  have e0:ByteArray.mk #[0]=mkB [0]:=rfl
  have q30:(numsU [(12:Int),fr,to]++((numU ((tk.size:Nat):Int)++tk.toList)++numU tn)++[(0:UInt8)]).length≤100000:=by rw [List.length_append,List.length_append,List.length_append,List.length_append,List.length_singleton]; omega
  have q40:(mkB (numsU [(12:Int),fr,to]++((numU ((tk.size:Nat):Int)++tk.toList)++numU tn))).size+(mkB [(0:UInt8)]).size≤4611686018427387904:=by rw [mkB_size,mkB_size,List.length_append,List.length_append,List.length_append,List.length_singleton]; omega
  have q31:(numsU [(12:Int),fr,to]++((numU ((tk.size:Nat):Int)++tk.toList)++numU tn)++[(1:UInt8)]).length≤100000:=by rw [List.length_append,List.length_append,List.length_append,List.length_append,List.length_singleton]; omega
  have q41:(mkB (numsU [(12:Int),fr,to]++((numU ((tk.size:Nat):Int)++tk.toList)++numU tn))).size+(mkB [(1:UInt8)]).size≤4611686018427387904:=by rw [mkB_size,mkB_size,List.length_append,List.length_append,List.length_append,List.length_singleton]; omega
  cases gd
  ·simp -implicitDefEqProofs only [f1,f41,f42,q1,q2,mkB_app,e0,e1,q40,q41,F37_ok q30,F37_ok q31,eq_self,xs]
   have hx:numsU [(12:Int),fr,to]++((numU ((tk.size:Nat):Int)++tk.toList)++numU tn)++[(0:UInt8)]=bodO (12,fr,to,sq,wh,ki,ks,nw,tb,ep,bo,ak,tk,tn,false):=by
    rw [hb]
    unfold bodO heaO parO
    simp [hasN,pN,n01]
   rw [hx]; rfl
  ·simp -implicitDefEqProofs only [f1,f41,f42,q1,q2,mkB_app,e0,e1,q40,q41,F37_ok q30,F37_ok q31,eq_self,xs]
   have hx:numsU [(12:Int),fr,to]++((numU ((tk.size:Nat):Int)++tk.toList)++numU tn)++[(1:UInt8)]=bodO (12,fr,to,sq,wh,ki,ks,nw,tb,ep,bo,ak,tk,tn,true):=by
    rw [hb]
    unfold bodO heaO parO
    simp [hasN,pN,n01]
   rw [hx]; rfl
end Go.Proofs.Ytgbcankkfmhcoaa.VL
end
section
namespace Go.Proofs.Ytgbcankkfmhcoaa.VL
open Go
set_option linter.unusedVariables false
set_option linter.unusedSectionVars false
set_option linter.unusedSimpArgs false
set_option maxRecDepth 100000
variable [Val]
theorem bindS {α β:Type} {x:Option α} {y:α} {f:α→Option β} {r:Option β} (h:x=some y) (k:f y=r):x.bind f=r:=by rw [h]; exact k
structure RI (S:ByteArray) (T:List Nat) (a:Nat) (ok:Bool) (m:MB):Prop where
 ha:a≤S.size
 g:Giv m
 nl:m.2.2.2.2.2.2.2.1.length≤8
 tl:m.2.2.2.2.2.2.2.2.1.length≤64
 tk:m.2.2.2.2.2.2.2.2.2.2.2.2.1.size≤200
 z:∀ j ∈ T,fEq m zeroM j
 c:∀ n:MB,Giv n→msgB n=true→S.toList=bodO n→ok=true∧(m.1=n.1∧m.2.1=n.2.1∧m.2.2.1=n.2.2.1)∧(∀ j,j≤10→j ∉ T→fEq m n j)∧dr S a=(T.filter fun j=>(hasN n.1).contains j).flatMap (pN n)
theorem RI.skip {S:ByteArray} {j:Nat} {T:List Nat} {a:Nat} {ok:Bool} {m:MB} (I:RI S (j::T) a ok m) (h10:j≤10) (hj:j ∉ T) (hb:1≤m.1∧m.1≤12→(hasN m.1).contains j=false):RI S T a ok m:=by
 refine ⟨I.ha,I.g,I.nl,I.tl,I.tk,fun i hi=>I.z i (List.mem_cons_of_mem _ hi),fun n gn hn hs=>?_⟩
 obtain ⟨c1,c2,c3,c4⟩:=I.c n gn hn hs
 have hm:=may_of hn
 have hc:=hb (by rw [c2.1]; exact hm.k)
 rw [c2.1] at hc
 refine ⟨c1,c2,fun i hi hT=>?_,?_⟩
 ·by_cases e:i=j
  ·subst e
   refine fEq_trans (I.z i (List.mem_cons_self ..)) (fEq_symm (may_zero hm hi fun hh=>?_))
   rw [List.contains_iff_mem.2 hh] at hc
   cases hc
  ·exact c3 i hi (by simp only [List.mem_cons,not_or]; exact ⟨e,hT⟩)
 ·rw [c4,List.filter_cons,hc]; rfl
theorem RI.read {S:ByteArray} {j:Nat} {T:List Nat} {a:Nat} {ok:Bool} {m:MB} (I:RI S (j::T) a ok m) (h10:j≤10) (hj:j ∉ T) (hT:∀ i ∈ T,i≤10) (hb:1≤m.1∧m.1≤12→(hasN m.1).contains j=true) {a':Nat} {ok':Bool} {m':MB} (ha:a'≤S.size) (g:Giv m')
  (nl:m'.2.2.2.2.2.2.2.1.length≤8) (tl:m'.2.2.2.2.2.2.2.2.1.length≤64) (tk:m'.2.2.2.2.2.2.2.2.2.2.2.2.1.size≤200) (hk:m'.1=m.1∧m'.2.1=m.2.1∧m'.2.2.1=m.2.2.1) (keep:∀ i,i≤10→i≠j→fEq m' m i)
  (rd:∀ n r,Giv n→May n→dr S a=pN n j++r→ok'=ok∧fEq m' n j∧dr S a'=r):RI S T a' ok' m':=by
 refine ⟨ha,g,nl,tl,tk,fun i hi=>fEq_trans (keep i (hT i hi) (fun e=>hj (e ▸ hi))) (I.z i (List.mem_cons_of_mem _ hi)),fun n gn hn hs=>?_⟩
 obtain ⟨c1,c2,c3,c4⟩:=I.c n gn hn hs
 have hm:=may_of hn
 have hc:=hb (by rw [c2.1]; exact hm.k)
 rw [c2.1] at hc
 rw [List.filter_cons,hc,if_pos rfl,List.flatMap_cons] at c4
 obtain ⟨r1,r2,r3⟩:=rd n _ gn hm c4
 refine ⟨r1.trans c1,⟨hk.1.trans c2.1,hk.2.1.trans c2.2.1,hk.2.2.trans c2.2.2⟩,fun i hi hT'=>?_,r3⟩
 by_cases e:i=j
 ·subst e; exact r2
 ·exact fEq_trans (keep i hi e) (c3 i hi (by simp only [List.mem_cons,not_or]; exact ⟨e,hT'⟩))
theorem sg0 {S:ByteArray} (hs:FitS S) {T:List Nat} {a:Nat} {ok:Bool} {k fr to sq wh ki ks ep bo ak tn:Int} {nw:List NW} {tb:List KW} {tk:ByteArray} {gd:Bool} (I:RI S (0::T) a ok (k,fr,to,sq,wh,ki,ks,nw,tb,ep,bo,ak,tk,tn,gd)) (hj:0 ∉ T) (hT:∀ i ∈ T,i≤10) {b:Bool} (hb:1≤k∧k≤12→b=(hasN k).contains 0) :
  ∃ (a':Nat) (ok':Bool) (x:Int),RI S T a' ok' (k,fr,to,x,wh,ki,ks,nw,tb,ep,bo,ak,tk,tn,gd)∧cond b (Option.bind (F44 ((S,((a:Nat):Int),ok),18446744073709551615)) fun v=>some (v.2,k,fr,to,v.1,wh,ki,ks,ep,bo,ak,tk,tn,gd)) (some ((S,((a:Nat):Int),ok),k,fr,to,sq,wh,ki,ks,ep,bo,ak,tk,tn,gd))=some ((S,((a':Nat):Int),ok'),k,fr,to,x,wh,ki,ks,ep,bo,ak,tk,tn,gd):=by
 cases b with
 | false=>exact ⟨a,ok,sq,I.skip (by decide) hj (fun h=>(hb h).symm),rfl⟩
 | true =>
  obtain ⟨x,a',ok',e,ha',hx,hf⟩:=ref_num hs I.ha ok (most:=18446744073709551615) (by decide) (by decide)
  refine ⟨a',ok',x,I.read (by decide) hj hT (fun h=>(hb h).symm) ha' ⟨hx,I.g.ki,I.g.nw,I.g.tb,I.g.ep,I.g.bo,I.g.tn⟩ I.nl I.tl I.tk ⟨rfl,rfl,rfl⟩ (fun i hi hne=>by
   rcases le10 hi with rfl | rfl | rfl | rfl | rfl | rfl | rfl | rfl | rfl | rfl | rfl<;>first | exact ⟨rfl,rfl⟩ | exact rfl | exact absurd rfl hne) (fun n r gn hn he=>hf _ _ gn.sq he),?_⟩
  ·simp only [cond_true,e,Option.bind_some]
theorem sg4 {S:ByteArray} (hs:FitS S) {T:List Nat} {a:Nat} {ok:Bool} {k fr to sq wh ki ks ep bo ak tn:Int} {nw:List NW} {tb:List KW} {tk:ByteArray} {gd:Bool} (I:RI S (4::T) a ok (k,fr,to,sq,wh,ki,ks,nw,tb,ep,bo,ak,tk,tn,gd)) (hj:4 ∉ T) (hT:∀ i ∈ T,i≤10) {b:Bool} (hb:1≤k∧k≤12→b=(hasN k).contains 4) :
  ∃ (a':Nat) (ok':Bool) (x:Int),RI S T a' ok' (k,fr,to,sq,x,ki,ks,nw,tb,ep,bo,ak,tk,tn,gd)∧cond b (Option.bind (F44 ((S,((a:Nat):Int),ok),63)) fun v=>some (v.2,k,fr,to,sq,(IntKind.wrap .i64 v.1),ki,ks,ep,bo,ak,tk,tn,gd)) (some ((S,((a:Nat):Int),ok),k,fr,to,sq,wh,ki,ks,ep,bo,ak,tk,tn,gd))=some ((S,((a':Nat):Int),ok'),k,fr,to,sq,x,ki,ks,ep,bo,ak,tk,tn,gd):=by
 cases b with
 | false=>exact ⟨a,ok,wh,I.skip (by decide) hj (fun h=>(hb h).symm),rfl⟩
 | true =>
  obtain ⟨x,a',ok',e,ha',hx,hf⟩:=ref_num hs I.ha ok (most:=63) (by decide) (by decide)
  refine ⟨a',ok',x,I.read (by decide) hj hT (fun h=>(hb h).symm) ha' ⟨I.g.sq,I.g.ki,I.g.nw,I.g.tb,I.g.ep,I.g.bo,I.g.tn⟩ I.nl I.tl I.tk ⟨rfl,rfl,rfl⟩ (fun i hi hne=>by
   rcases le10 hi with rfl | rfl | rfl | rfl | rfl | rfl | rfl | rfl | rfl | rfl | rfl<;>first | exact ⟨rfl,rfl⟩ | exact rfl | exact absurd rfl hne) (fun n r gn hn he=>hf _ _ hn.rwh he),?_⟩
  ·simp only [cond_true,e,Option.bind_some,wi (show -9223372036854775808≤x by have:=hx.1; omega) (show x≤9223372036854775807 by have:=hx.2; omega)]
theorem sg1 {S:ByteArray} (hs:FitS S) {T:List Nat} {a:Nat} {ok:Bool} {k fr to sq wh ki ks ep bo ak tn:Int} {nw:List NW} {tb:List KW} {tk:ByteArray} {gd:Bool} (I:RI S (1::T) a ok (k,fr,to,sq,wh,ki,ks,nw,tb,ep,bo,ak,tk,tn,gd)) (hj:1 ∉ T) (hT:∀ i ∈ T,i≤10) {b:Bool} (hb:1≤k∧k≤12→b=(hasN k).contains 1) :
  ∃ (a':Nat) (ok':Bool) (x:Int),RI S T a' ok' (k,fr,to,sq,wh,ki,ks,nw,tb,x,bo,ak,tk,tn,gd)∧cond b (Option.bind (F44 ((S,((a:Nat):Int),ok),18446744073709551615)) fun v=>some (v.2,k,fr,to,sq,wh,ki,ks,v.1,bo,ak,tk,tn,gd)) (some ((S,((a:Nat):Int),ok),k,fr,to,sq,wh,ki,ks,ep,bo,ak,tk,tn,gd))=some ((S,((a':Nat):Int),ok'),k,fr,to,sq,wh,ki,ks,x,bo,ak,tk,tn,gd):=by
 cases b with
 | false=>exact ⟨a,ok,ep,I.skip (by decide) hj (fun h=>(hb h).symm),rfl⟩
 | true =>
  obtain ⟨x,a',ok',e,ha',hx,hf⟩:=ref_num hs I.ha ok (most:=18446744073709551615) (by decide) (by decide)
  refine ⟨a',ok',x,I.read (by decide) hj hT (fun h=>(hb h).symm) ha' ⟨I.g.sq,I.g.ki,I.g.nw,I.g.tb,hx,I.g.bo,I.g.tn⟩ I.nl I.tl I.tk ⟨rfl,rfl,rfl⟩ (fun i hi hne=>by
   rcases le10 hi with rfl | rfl | rfl | rfl | rfl | rfl | rfl | rfl | rfl | rfl | rfl<;>first | exact ⟨rfl,rfl⟩ | exact rfl | exact absurd rfl hne) (fun n r gn hn he=>hf _ _ gn.ep he),?_⟩
  ·simp only [cond_true,e,Option.bind_some]
theorem sg2 {S:ByteArray} (hs:FitS S) {T:List Nat} {a:Nat} {ok:Bool} {k fr to sq wh ki ks ep bo ak tn:Int} {nw:List NW} {tb:List KW} {tk:ByteArray} {gd:Bool} (I:RI S (2::T) a ok (k,fr,to,sq,wh,ki,ks,nw,tb,ep,bo,ak,tk,tn,gd)) (hj:2 ∉ T) (hT:∀ i ∈ T,i≤10) {b:Bool} (hb:1≤k∧k≤12→b=(hasN k).contains 2) :
  ∃ (a':Nat) (ok':Bool) (x:Int),RI S T a' ok' (k,fr,to,sq,wh,ki,ks,nw,tb,ep,x,ak,tk,tn,gd)∧cond b (Option.bind (F44 ((S,((a:Nat):Int),ok),18446744073709551615)) fun v=>some (v.2,k,fr,to,sq,wh,ki,ks,ep,v.1,ak,tk,tn,gd)) (some ((S,((a:Nat):Int),ok),k,fr,to,sq,wh,ki,ks,ep,bo,ak,tk,tn,gd))=some ((S,((a':Nat):Int),ok'),k,fr,to,sq,wh,ki,ks,ep,x,ak,tk,tn,gd):=by
 cases b with
 | false=>exact ⟨a,ok,bo,I.skip (by decide) hj (fun h=>(hb h).symm),rfl⟩
 | true =>
  obtain ⟨x,a',ok',e,ha',hx,hf⟩:=ref_num hs I.ha ok (most:=18446744073709551615) (by decide) (by decide)
  refine ⟨a',ok',x,I.read (by decide) hj hT (fun h=>(hb h).symm) ha' ⟨I.g.sq,I.g.ki,I.g.nw,I.g.tb,I.g.ep,hx,I.g.tn⟩ I.nl I.tl I.tk ⟨rfl,rfl,rfl⟩ (fun i hi hne=>by
   rcases le10 hi with rfl | rfl | rfl | rfl | rfl | rfl | rfl | rfl | rfl | rfl | rfl<;>first | exact ⟨rfl,rfl⟩ | exact rfl | exact absurd rfl hne) (fun n r gn hn he=>hf _ _ gn.bo he),?_⟩
  ·simp only [cond_true,e,Option.bind_some]
theorem sg8 {S:ByteArray} (hs:FitS S) {T:List Nat} {a:Nat} {ok:Bool} {k fr to sq wh ki ks ep bo ak tn:Int} {nw:List NW} {tb:List KW} {tk:ByteArray} {gd:Bool} (I:RI S (8::T) a ok (k,fr,to,sq,wh,ki,ks,nw,tb,ep,bo,ak,tk,tn,gd)) (hj:8 ∉ T) (hT:∀ i ∈ T,i≤10) {b:Bool} (hb:1≤k∧k≤12→b=(hasN k).contains 8) :
  ∃ (a':Nat) (ok':Bool) (x:Int),RI S T a' ok' (k,fr,to,sq,wh,ki,ks,nw,tb,ep,bo,x,tk,tn,gd)∧cond b (Option.bind (F44 ((S,((a:Nat):Int),ok),1099511627776)) fun v=>some (v.2,k,fr,to,sq,wh,ki,ks,ep,bo,(IntKind.wrap .i64 v.1),tk,tn,gd)) (some ((S,((a:Nat):Int),ok),k,fr,to,sq,wh,ki,ks,ep,bo,ak,tk,tn,gd))=some ((S,((a':Nat):Int),ok'),k,fr,to,sq,wh,ki,ks,ep,bo,x,tk,tn,gd):=by
 cases b with
 | false=>exact ⟨a,ok,ak,I.skip (by decide) hj (fun h=>(hb h).symm),rfl⟩
 | true =>
  obtain ⟨x,a',ok',e,ha',hx,hf⟩:=ref_num hs I.ha ok (most:=1099511627776) (by decide) (by decide)
  refine ⟨a',ok',x,I.read (by decide) hj hT (fun h=>(hb h).symm) ha' ⟨I.g.sq,I.g.ki,I.g.nw,I.g.tb,I.g.ep,I.g.bo,I.g.tn⟩ I.nl I.tl I.tk ⟨rfl,rfl,rfl⟩ (fun i hi hne=>by
   rcases le10 hi with rfl | rfl | rfl | rfl | rfl | rfl | rfl | rfl | rfl | rfl | rfl<;>first | exact ⟨rfl,rfl⟩ | exact rfl | exact absurd rfl hne) (fun n r gn hn he=>hf _ _ hn.rak he),?_⟩
  ·simp only [cond_true,e,Option.bind_some,wi (show -9223372036854775808≤x by have:=hx.1; omega) (show x≤9223372036854775807 by have:=hx.2; omega)]
theorem sg3 {S:ByteArray} (hs:FitS S) {T:List Nat} {a:Nat} {ok:Bool} {k fr to sq wh ki ks ep bo ak tn:Int} {nw:List NW} {tb:List KW} {tk:ByteArray} {gd:Bool} (I:RI S (3::T) a ok (k,fr,to,sq,wh,ki,ks,nw,tb,ep,bo,ak,tk,tn,gd)) (hj:3 ∉ T) (hT:∀ i ∈ T,i≤10) {b:Bool} (hb:1≤k∧k≤12→b=(hasN k).contains 3) :
  ∃ (a':Nat) (ok':Bool) (x:Int),RI S T a' ok' (k,fr,to,sq,wh,ki,ks,nw,tb,ep,bo,ak,tk,x,gd)∧cond b (Option.bind (F44 ((S,((a:Nat):Int),ok),18446744073709551615)) fun v=>some (v.2,k,fr,to,sq,wh,ki,ks,ep,bo,ak,tk,v.1,gd)) (some ((S,((a:Nat):Int),ok),k,fr,to,sq,wh,ki,ks,ep,bo,ak,tk,tn,gd))=some ((S,((a':Nat):Int),ok'),k,fr,to,sq,wh,ki,ks,ep,bo,ak,tk,x,gd):=by
 cases b with
 | false=>exact ⟨a,ok,tn,I.skip (by decide) hj (fun h=>(hb h).symm),rfl⟩
 | true =>
  obtain ⟨x,a',ok',e,ha',hx,hf⟩:=ref_num hs I.ha ok (most:=18446744073709551615) (by decide) (by decide)
  refine ⟨a',ok',x,I.read (by decide) hj hT (fun h=>(hb h).symm) ha' ⟨I.g.sq,I.g.ki,I.g.nw,I.g.tb,I.g.ep,I.g.bo,hx⟩ I.nl I.tl I.tk ⟨rfl,rfl,rfl⟩ (fun i hi hne=>by
   rcases le10 hi with rfl | rfl | rfl | rfl | rfl | rfl | rfl | rfl | rfl | rfl | rfl<;>first | exact ⟨rfl,rfl⟩ | exact rfl | exact absurd rfl hne) (fun n r gn hn he=>hf _ _ gn.tn he),?_⟩
  ·simp only [cond_true,e,Option.bind_some]
theorem sg10 {S:ByteArray} (hs:FitS S) {T:List Nat} {a:Nat} {ok:Bool} {k fr to sq wh ki ks ep bo ak tn:Int} {nw:List NW} {tb:List KW} {tk:ByteArray} {gd:Bool} (I:RI S (10::T) a ok (k,fr,to,sq,wh,ki,ks,nw,tb,ep,bo,ak,tk,tn,gd)) (hj:10 ∉ T) (hT:∀ i ∈ T,i≤10) {b:Bool} (hb:1≤k∧k≤12→b=(hasN k).contains 10) :
  ∃ (a':Nat) (ok':Bool) (x:Bool),RI S T a' ok' (k,fr,to,sq,wh,ki,ks,nw,tb,ep,bo,ak,tk,tn,x)∧cond b (Option.bind (F44 ((S,((a:Nat):Int),ok),1)) fun v=>some (v.2,k,fr,to,sq,wh,ki,ks,ep,bo,ak,tk,tn,(v.1==1))) (some ((S,((a:Nat):Int),ok),k,fr,to,sq,wh,ki,ks,ep,bo,ak,tk,tn,gd))=some ((S,((a':Nat):Int),ok'),k,fr,to,sq,wh,ki,ks,ep,bo,ak,tk,tn,x):=by
 cases b with
 | false=>exact ⟨a,ok,gd,I.skip (by decide) hj (fun h=>(hb h).symm),rfl⟩
 | true =>
  obtain ⟨x,a',ok',e,ha',hx,hf⟩:=ref_num hs I.ha ok (most:=1) (by decide) (by decide)
  refine ⟨a',ok',(x==1),I.read (by decide) hj hT (fun h=>(hb h).symm) ha' ⟨I.g.sq,I.g.ki,I.g.nw,I.g.tb,I.g.ep,I.g.bo,I.g.tn⟩ I.nl I.tl I.tk ⟨rfl,rfl,rfl⟩ (fun i hi hne=>by
   rcases le10 hi with rfl | rfl | rfl | rfl | rfl | rfl | rfl | rfl | rfl | rfl | rfl<;>first | exact ⟨rfl,rfl⟩ | exact rfl | exact absurd rfl hne) (fun n r gn hn he=>?_),?_⟩
  ·obtain ⟨h1,h2,h3⟩:=hf (if n.2.2.2.2.2.2.2.2.2.2.2.2.2.2=true then 1 else 0) r (by split<;>omega) he
   refine ⟨h1,?_,h3⟩
   show (x==1)=n.2.2.2.2.2.2.2.2.2.2.2.2.2.2
   rw [h2]
   cases n.2.2.2.2.2.2.2.2.2.2.2.2.2.2<;>rfl
  ·simp only [cond_true,e,Option.bind_some]
theorem sg5 {S:ByteArray} (hs:FitS S) {T:List Nat} {a:Nat} {ok:Bool} {k fr to sq wh ki ks ep bo ak tn:Int} {nw:List NW} {tb:List KW} {tk:ByteArray} {gd:Bool} (I:RI S (5::T) a ok (k,fr,to,sq,wh,ki,ks,nw,tb,ep,bo,ak,tk,tn,gd)) (hj:5 ∉ T) (hT:∀ i ∈ T,i≤10) {b:Bool} (hb:1≤k∧k≤12→b=(hasN k).contains 5) :
  ∃ (a':Nat) (ok':Bool) (x y:Int),RI S T a' ok' (k,fr,to,sq,wh,x,y,nw,tb,ep,bo,ak,tk,tn,gd)∧cond b (Option.bind (F44 ((S,((a:Nat):Int),ok),18446744073709551615)) fun v=>Option.bind (F44 (v.2,3)) fun w=>some (w.2,k,fr,to,sq,wh,v.1,(IntKind.wrap .i64 w.1),ep,bo,ak,tk,tn,gd)) (some ((S,((a:Nat):Int),ok),k,fr,to,sq,wh,ki,ks,ep,bo,ak,tk,tn,gd))=some ((S,((a':Nat):Int),ok'),k,fr,to,sq,wh,x,y,ep,bo,ak,tk,tn,gd):=by
 cases b with
 | false=>exact ⟨a,ok,ki,ks,I.skip (by decide) hj (fun h=>(hb h).symm),rfl⟩
 | true =>
  obtain ⟨x,a1,ok1,e,ha1,hx,hf⟩:=ref_num hs I.ha ok (most:=18446744073709551615) (by decide) (by decide)
  obtain ⟨y,a',ok',e',ha',hy,hg⟩:=ref_num hs ha1 ok1 (most:=3) (by decide) (by decide)
  refine ⟨a',ok',x,y,I.read (by decide) hj hT (fun h=>(hb h).symm) ha' ⟨I.g.sq,hx,I.g.nw,I.g.tb,I.g.ep,I.g.bo,I.g.tn⟩ I.nl I.tl I.tk ⟨rfl,rfl,rfl⟩ (fun i hi hne=>by
   rcases le10 hi with rfl | rfl | rfl | rfl | rfl | rfl | rfl | rfl | rfl | rfl | rfl<;>first | exact ⟨rfl,rfl⟩ | exact rfl | exact absurd rfl hne) (fun n r gn hn he=>?_),?_⟩
  ·have he:dr S a=numU n.2.2.2.2.2.1++(numU n.2.2.2.2.2.2.1++r):=by rw [he]; exact List.append_assoc ..
   obtain ⟨h1,h2,h3⟩:=hf _ _ gn.ki he
   obtain ⟨i1,i2,i3⟩:=hg _ _ hn.rks h3
   exact ⟨i1.trans h1,⟨h2,i2⟩,i3⟩
  ·simp only [cond_true,e,e',Option.bind_some,wi (show -9223372036854775808≤y by have:=hy.1; omega) (show y≤9223372036854775807 by have:=hy.2; omega)]
noncomputable def nwL (n:Int):Int×(RS×(REC×(List NW×List KW)))→Option ((Int×(RS×(REC×(List NW×List KW)))) ⊕ (RS×(REC×(List NW×List KW)))):=fun u=>cond (decide (u.1 < n)) (Option.bind (F44 (u.2.1,63)) fun v=>Option.bind (F44 (v.2,18446744073709551615)) fun w=>Option.bind (F44 (w.2,3)) fun x=>cond (decide (((u.2.2.2.1.length+1:Nat):Int) * 24≤70368744177664)&&decide (((u.2.2.2.1.length+1:Nat):Int)≤70368744177664)) (some (.inl (IntKind.wrap .u64 (u.1+1),x.2,u.2.2.1,u.2.2.2.1++[(IntKind.wrap .i64 v.1,w.1,IntKind.wrap .i64 x.1)],u.2.2.2.2))) none) (some (.inr u.2))
noncomputable def tbL (n:Int):Int×(RS×(REC×List KW))→Option ((Int×(RS×(REC×List KW))) ⊕ (RS×(REC×List KW))):=fun u=>cond (decide (u.1 < n)) (Option.bind (F44 (u.2.1,18446744073709551615)) fun w=>Option.bind (F44 (w.2,3)) fun x=>cond (decide (((u.2.2.2.length+1:Nat):Int) * 16≤70368744177664)&&decide (((u.2.2.2.length+1:Nat):Int)≤70368744177664)) (some (.inl (IntKind.wrap .u64 (u.1+1),x.2,u.2.2.1,u.2.2.2++[(w.1,IntKind.wrap .i64 x.1)]))) none) (some (.inr u.2))
theorem flat_drop {α:Type} {f:α→List UInt8} {L:List α} {c:Nat} (h:c < L.length):(L.drop c).flatMap f=f L[c]++(L.drop (c+1)).flatMap f:=by rw [List.drop_eq_getElem_cons h,List.flatMap_cons]
abbrev NwV (x:NW):Prop:=(0≤x.1∧x.1≤63)∧U64 x.2.1∧(0≤x.2.2∧x.2.2≤3)
abbrev KwV (x:KW):Prop:=U64 x.1∧(0≤x.2∧x.2≤3)
theorem nwL_ok {S:ByteArray} (hs:FitS S) {a:Nat} (ha:a≤S.size) (ok:Bool) (R:REC) {n:Nat} (hn:n≤100) (B:List KW) :
  ∃ x,loopX (nwL ((n:Nat):Int)) (0,(S,((a:Nat):Int),ok),R,[],B)=some x∧∃ (a':Nat) (ok':Bool) (l:List NW),x=((S,((a':Nat):Int),ok'),R,l,B)∧a'≤S.size∧l.length=n∧(∀ x ∈ l,NwV x) ∧
   ∀ (L:List NW) r,L.length=n→(∀ x ∈ L,NwV x)→dr S a=L.flatMap newO++r→ok'=ok∧l=L∧dr S a'=r:=by
 refine loop_ex (fun u:Int×(RS×(REC×(List NW×List KW)))=>∃ (c a':Nat) (ok':Bool) (l:List NW),u=(((c:Nat):Int),(S,((a':Nat):Int),ok'),R,l,B)∧c≤n∧a'≤S.size∧l.length=c∧(∀ x ∈ l,NwV x) ∧
   ∀ (L:List NW) r,L.length=n→(∀ x ∈ L,NwV x)→dr S a=L.flatMap newO++r→ok'=ok∧l=L.take c∧dr S a'=(L.drop c).flatMap newO++r) (fun u=>n - u.1.toNat) _ ?_ _ ⟨0,a,ok,[],rfl,by omega,ha,rfl,fun x hx=>by simp at hx,fun L r _ _ h=>⟨rfl,by simp,by simpa using h⟩⟩
 rintro _ ⟨c,a',ok',l,rfl,hc,ha',hl,hv,hf⟩
 by_cases h:c < n
 ·right
  have q:((c:Nat):Int) < ((n:Nat):Int):=by omega
  obtain ⟨x1,a1,k1,e1,b1,r1,f1⟩:=ref_num hs ha' ok' (most:=63) (by decide) (by decide)
  obtain ⟨x2,a2,k2,e2,b2,r2,f2⟩:=ref_num hs b1 k1 (most:=18446744073709551615) (by decide) (by decide)
  obtain ⟨x3,a3,k3,e3,b3,r3,f3⟩:=ref_num hs b2 k2 (most:=3) (by decide) (by decide)
  have w:IntKind.wrap .u64 (((c:Nat):Int)+1)=((c+1:Nat):Int):=by rw [wu (by omega) (by omega)]; omega
  have w1:IntKind.wrap .i64 x1=x1:=wi (by omega) (by omega)
  have w3:IntKind.wrap .i64 x3=x3:=wi (by omega) (by omega)
  have p1:((l.length+1:Nat):Int) * 24≤70368744177664:=by omega
  have p2:((l.length+1:Nat):Int)≤70368744177664:=by omega
  refine ⟨(((c+1:Nat):Int),(S,((a3:Nat):Int),k3),R,l++[(x1,x2,x3)],B),?_,⟨c+1,a3,k3,_,rfl,h,b3,by rw [List.length_append,hl]; rfl,fun x hx=>?_,fun L r hL hLv he=>?_⟩,by simp only [Int.toNat_natCast]; omega⟩
  ·unfold nwL
   simp -implicitDefEqProofs only [q,e1,e2,e3,w,w1,w3,p1,p2,eq_self,xs]
  ·rcases List.mem_append.1 hx with hx | hx
   ·exact hv x hx
   ·rw [List.mem_singleton] at hx; subst hx; exact ⟨r1,r2,r3⟩
  ·obtain ⟨g1,g2,g3⟩:=hf L r hL hLv he
   have hcl:c < L.length:=by omega
   have hx:=hLv L[c] (List.getElem_mem hcl)
   rw [flat_drop hcl] at g3
   have g3:dr S a'=numU L[c].1++(numU L[c].2.1++(numU L[c].2.2++((L.drop (c+1)).flatMap newO++r))):=by rw [g3]; unfold newO; simp only [List.append_assoc]
   obtain ⟨i1,i2,i3⟩:=f1 _ _ hx.1 g3
   obtain ⟨j1,j2,j3⟩:=f2 _ _ hx.2.1 i3
   obtain ⟨k1,k2,k3⟩:=f3 _ _ hx.2.2 j3
   refine ⟨(k1.trans j1).trans (i1.trans g1),?_,k3⟩
   rw [g2,i2,j2,k2,List.take_succ_eq_append_getElem hcl]
 ·left
  have q:¬ ((c:Nat):Int) < ((n:Nat):Int):=by omega
  have hcn:c=n:=by omega
  subst hcn
  refine ⟨((S,((a':Nat):Int),ok'),R,l,B),?_,a',ok',l,rfl,ha',hl,hv,fun L r hL hLv he=>?_⟩
  ·unfold nwL
   simp -implicitDefEqProofs only [q,eq_self,xs]
  ·obtain ⟨g1,g2,g3⟩:=hf L r hL hLv he
   rw [← hL,List.take_length] at g2
   rw [← hL,List.drop_length] at g3
   exact ⟨g1,g2,g3⟩
theorem tbL_ok {S:ByteArray} (hs:FitS S) {a:Nat} (ha:a≤S.size) (ok:Bool) (R:REC) {n:Nat} (hn:n≤100) :
  ∃ x,loopX (tbL ((n:Nat):Int)) (0,(S,((a:Nat):Int),ok),R,[])=some x∧∃ (a':Nat) (ok':Bool) (l:List KW),x=((S,((a':Nat):Int),ok'),R,l)∧a'≤S.size∧l.length=n∧(∀ x ∈ l,KwV x) ∧
   ∀ (L:List KW) r,L.length=n→(∀ x ∈ L,KwV x)→dr S a=L.flatMap tabO++r→ok'=ok∧l=L∧dr S a'=r:=by
 refine loop_ex (fun u:Int×(RS×(REC×List KW))=>∃ (c a':Nat) (ok':Bool) (l:List KW),u=(((c:Nat):Int),(S,((a':Nat):Int),ok'),R,l)∧c≤n∧a'≤S.size∧l.length=c∧(∀ x ∈ l,KwV x) ∧
   ∀ (L:List KW) r,L.length=n→(∀ x ∈ L,KwV x)→dr S a=L.flatMap tabO++r→ok'=ok∧l=L.take c∧dr S a'=(L.drop c).flatMap tabO++r) (fun u=>n - u.1.toNat) _ ?_ _ ⟨0,a,ok,[],rfl,by omega,ha,rfl,fun x hx=>by simp at hx,fun L r _ _ h=>⟨rfl,by simp,by simpa using h⟩⟩
 rintro _ ⟨c,a',ok',l,rfl,hc,ha',hl,hv,hf⟩
 by_cases h:c < n
 ·right
  have q:((c:Nat):Int) < ((n:Nat):Int):=by omega
  obtain ⟨x2,a2,k2,e2,b2,r2,f2⟩:=ref_num hs ha' ok' (most:=18446744073709551615) (by decide) (by decide)
  obtain ⟨x3,a3,k3,e3,b3,r3,f3⟩:=ref_num hs b2 k2 (most:=3) (by decide) (by decide)
  have w:IntKind.wrap .u64 (((c:Nat):Int)+1)=((c+1:Nat):Int):=by rw [wu (by omega) (by omega)]; omega
  have w3:IntKind.wrap .i64 x3=x3:=wi (by omega) (by omega)
  have p1:((l.length+1:Nat):Int) * 16≤70368744177664:=by omega
  have p2:((l.length+1:Nat):Int)≤70368744177664:=by omega
  refine ⟨(((c+1:Nat):Int),(S,((a3:Nat):Int),k3),R,l++[(x2,x3)]),?_,⟨c+1,a3,k3,_,rfl,h,b3,by rw [List.length_append,hl]; rfl,fun x hx=>?_,fun L r hL hLv he=>?_⟩,by simp only [Int.toNat_natCast]; omega⟩
  ·unfold tbL
   simp -implicitDefEqProofs only [q,e2,e3,w,w3,p1,p2,eq_self,xs]
  ·rcases List.mem_append.1 hx with hx | hx
   ·exact hv x hx
   ·rw [List.mem_singleton] at hx; subst hx; exact ⟨r2,r3⟩
  ·obtain ⟨g1,g2,g3⟩:=hf L r hL hLv he
   have hcl:c < L.length:=by omega
   have hx:=hLv L[c] (List.getElem_mem hcl)
   rw [flat_drop hcl] at g3
   have g3:dr S a'=numU L[c].1++(numU L[c].2++((L.drop (c+1)).flatMap tabO++r)):=by rw [g3]; unfold tabO; simp only [List.append_assoc]
   obtain ⟨j1,j2,j3⟩:=f2 _ _ hx.1 g3
   obtain ⟨k1,k2,k3⟩:=f3 _ _ hx.2 j3
   refine ⟨k1.trans (j1.trans g1),?_,k3⟩
   rw [g2,j2,k2,List.take_succ_eq_append_getElem hcl]
 ·left
  have q:¬ ((c:Nat):Int) < ((n:Nat):Int):=by omega
  have hcn:c=n:=by omega
  subst hcn
  refine ⟨((S,((a':Nat):Int),ok'),R,l),?_,a',ok',l,rfl,ha',hl,hv,fun L r hL hLv he=>?_⟩
  ·unfold tbL
   simp -implicitDefEqProofs only [q,eq_self,xs]
  ·obtain ⟨g1,g2,g3⟩:=hf L r hL hLv he
   rw [← hL,List.take_length] at g2
   rw [← hL,List.drop_length] at g3
   exact ⟨g1,g2,g3⟩
theorem sg6 {S:ByteArray} (hs:FitS S) {T:List Nat} {a:Nat} {ok:Bool} {k fr to sq wh ki ks ep bo ak tn:Int}  {tk:ByteArray} {gd:Bool} (I:RI S (6::T) a ok (k,fr,to,sq,wh,ki,ks,[],[],ep,bo,ak,tk,tn,gd)) (hj:6 ∉ T) (hT:∀ i ∈ T,i≤10) {b:Bool} (hb:1≤k∧k≤12→b=(hasN k).contains 6) :
  ∃ (a':Nat) (ok':Bool) (l:List NW),RI S T a' ok' (k,fr,to,sq,wh,ki,ks,l,[],ep,bo,ak,tk,tn,gd)∧cond b (Option.bind (F44 ((S,((a:Nat):Int),ok),8)) fun v=>loopX (nwL v.1) (0,v.2,(k,fr,to,sq,wh,ki,ks,ep,bo,ak,tk,tn,gd),[],[])) (some ((S,((a:Nat):Int),ok),(k,fr,to,sq,wh,ki,ks,ep,bo,ak,tk,tn,gd),[],[]))=some ((S,((a':Nat):Int),ok'),(k,fr,to,sq,wh,ki,ks,ep,bo,ak,tk,tn,gd),l,[]):=by
 cases b with
 | false=>exact ⟨a,ok,[],I.skip (by decide) hj (fun h=>(hb h).symm),rfl⟩
 | true =>
  obtain ⟨x,a1,ok1,e,ha1,hx,hf⟩:=ref_num hs I.ha ok (most:=8) (by decide) (by decide)
  obtain ⟨c,rfl⟩:∃ c:Nat,x=((c:Nat):Int):=⟨x.toNat,by omega⟩
  obtain ⟨_,e',a',ok',l,rfl,ha',hl,hv,hg⟩:=nwL_ok hs ha1 ok1 (k,fr,to,sq,wh,ki,ks,ep,bo,ak,tk,tn,gd) (n:=c) (by omega) []
  refine ⟨a',ok',l,I.read (by decide) hj hT (fun h=>(hb h).symm) ha' ⟨I.g.sq,I.g.ki,(fun x hx=>(hv x hx).2.1),I.g.tb,I.g.ep,I.g.bo,I.g.tn⟩ (by show l.length≤8; omega) I.tl I.tk ⟨rfl,rfl,rfl⟩ (fun i hi hne=>by
   rcases le10 hi with rfl | rfl | rfl | rfl | rfl | rfl | rfl | rfl | rfl | rfl | rfl<;>first | exact ⟨rfl,rfl⟩ | exact rfl | exact absurd rfl hne) (fun n r gn hn he=>?_),?_⟩
  ·have he:dr S a=numU ((n.2.2.2.2.2.2.2.1.length:Nat):Int)++(n.2.2.2.2.2.2.2.1.flatMap newO++r):=by rw [he]; exact List.append_assoc ..
   obtain ⟨h1,h2,h3⟩:=hf _ _ ⟨by omega,by have:=hn.rnw.1; omega⟩ he
   obtain ⟨i1,i2,i3⟩:=hg _ _ (by omega) (fun x hx=>⟨(hn.rnw.2 x hx).1,gn.nw x hx,(hn.rnw.2 x hx).2⟩) h3
   exact ⟨i1.trans h1,i2,i3⟩
  ·simp only [cond_true,e,Option.bind_some]
   exact e'
theorem sg7 {S:ByteArray} (hs:FitS S) {T:List Nat} {a:Nat} {ok:Bool} {k fr to sq wh ki ks ep bo ak tn:Int} {nw:List NW}  {tk:ByteArray} {gd:Bool} (I:RI S (7::T) a ok (k,fr,to,sq,wh,ki,ks,nw,[],ep,bo,ak,tk,tn,gd)) (hj:7 ∉ T) (hT:∀ i ∈ T,i≤10) {b:Bool} (hb:1≤k∧k≤12→b=(hasN k).contains 7) :
  ∃ (a':Nat) (ok':Bool) (l:List KW),RI S T a' ok' (k,fr,to,sq,wh,ki,ks,nw,l,ep,bo,ak,tk,tn,gd)∧cond b (Option.bind (F44 ((S,((a:Nat):Int),ok),64)) fun v=>loopX (tbL v.1) (0,v.2,(k,fr,to,sq,wh,ki,ks,ep,bo,ak,tk,tn,gd),[])) (some ((S,((a:Nat):Int),ok),(k,fr,to,sq,wh,ki,ks,ep,bo,ak,tk,tn,gd),[]))=some ((S,((a':Nat):Int),ok'),(k,fr,to,sq,wh,ki,ks,ep,bo,ak,tk,tn,gd),l):=by
 cases b with
 | false=>exact ⟨a,ok,[],I.skip (by decide) hj (fun h=>(hb h).symm),rfl⟩
 | true =>
  obtain ⟨x,a1,ok1,e,ha1,hx,hf⟩:=ref_num hs I.ha ok (most:=64) (by decide) (by decide)
  obtain ⟨c,rfl⟩:∃ c:Nat,x=((c:Nat):Int):=⟨x.toNat,by omega⟩
  obtain ⟨_,e',a',ok',l,rfl,ha',hl,hv,hg⟩:=tbL_ok hs ha1 ok1 (k,fr,to,sq,wh,ki,ks,ep,bo,ak,tk,tn,gd) (n:=c) (by omega)
  refine ⟨a',ok',l,I.read (by decide) hj hT (fun h=>(hb h).symm) ha' ⟨I.g.sq,I.g.ki,I.g.nw,(fun x hx=>(hv x hx).1),I.g.ep,I.g.bo,I.g.tn⟩ I.nl (by show l.length≤64; omega) I.tk ⟨rfl,rfl,rfl⟩ (fun i hi hne=>by
   rcases le10 hi with rfl | rfl | rfl | rfl | rfl | rfl | rfl | rfl | rfl | rfl | rfl<;>first | exact ⟨rfl,rfl⟩ | exact rfl | exact absurd rfl hne) (fun n r gn hn he=>?_),?_⟩
  ·have he:dr S a=numU ((n.2.2.2.2.2.2.2.2.1.length:Nat):Int)++(n.2.2.2.2.2.2.2.2.1.flatMap tabO++r):=by rw [he]; exact List.append_assoc ..
   obtain ⟨h1,h2,h3⟩:=hf _ _ ⟨by omega,by have:=hn.rtb.1; omega⟩ he
   obtain ⟨i1,i2,i3⟩:=hg _ _ (by omega) (fun x hx=>⟨gn.tb x hx,hn.rtb.2 x hx⟩) h3
   exact ⟨i1.trans h1,i2,i3⟩
  ·simp only [cond_true,e,Option.bind_some]
   exact e'
theorem ref_text {S:ByteArray} (hs:FitS S) {a:Nat} (ha:a≤S.size) :
  (∃ e:Int,e≠0∧F45 (S,((a:Nat):Int))=some (ByteArray.mk #[],0,e)∧∀ (t r:List UInt8),t.length≤200→dr S a≠numU ((t.length:Nat):Int)++(t++r)) ∨
  ∃ (t:List UInt8) (a':Nat),F45 (S,((a:Nat):Int))=some (mkB t,((a':Nat):Int),0)∧t.length≤200∧a'≤S.size∧∀ (u r:List UInt8),u.length≤200→dr S a=numU ((u.length:Nat):Int)++(u++r)→t=u∧dr S a'=r:=by
 rw [F45_eq]
 simp only [F84_85 ha hs]
 have hA:S.toList=S.toList.take a++dr S a:=(List.take_append_drop a _).symm
 have hal:a=(S.toList.take a).length:=by rw [List.length_take,toList_len]; omega
 have hsz:S.size≤4611686018427387904:=hs
 rcases take_num hs hA hal with ⟨x,r,hx,h1,h2⟩ | ⟨h1,e,he,h2⟩
 ·have h3:dr S (a+(numU x).length)=r:=by
   show S.toList.drop _=_
   rw [← List.drop_drop]
   show List.drop _ (dr S a)=_
   rw [h1,List.drop_left]
  have h4:a+(numU x).length+r.length=S.size:=by
   have:=congrArg List.length h1
   rw [List.length_drop,List.length_append,toList_len] at this
   omega
  by_cases hb:x > 200
  ·refine .inl ⟨4,by decide,?_,fun t r' ht he=>?_⟩
   ·simp -implicitDefEqProofs only [h2,nz0,hb,eq_self,xs]
   ·rw [h1] at he
    obtain ⟨e,_⟩:=numU_pre hx.1 (by omega) he
    omega
  ·obtain ⟨c,rfl⟩:∃ c:Nat,x=((c:Nat):Int):=⟨x.toNat,by have:=hx.1; omega⟩
   have w1:IntKind.wrap .i64 ((c:Nat):Int)=((c:Nat):Int):=wi (by omega) (by omega)
   have w2:IntKind.wrap .i64 (((a+(numU ((c:Nat):Int)).length:Nat):Int)+((c:Nat):Int))=((a+(numU ((c:Nat):Int)).length+c:Nat):Int):=by rw [wi (by omega) (by omega)]; omega
   by_cases hl:((a+(numU ((c:Nat):Int)).length+c:Nat):Int) > ((S.size:Nat):Int)
   ·refine .inl ⟨3,by decide,?_,fun t r' ht he=>?_⟩
    ·simp -implicitDefEqProofs only [h2,nz0,hb,w1,w2,hl,eq_self,xs]
    ·rw [h1] at he
     obtain ⟨e,e'⟩:=numU_pre hx.1 (by omega) he
     have:=congrArg List.length e'
     rw [List.length_append] at this
     omega
   ·have p1:(0:Int)≤((a+(numU ((c:Nat):Int)).length:Nat):Int):=by omega
    have p2:((a+(numU ((c:Nat):Int)).length:Nat):Int)≤((a+(numU ((c:Nat):Int)).length+c:Nat):Int):=by omega
    have p3:((a+(numU ((c:Nat):Int)).length+c:Nat):Int)≤((S.size:Nat):Int):=by omega
    have ex:S.extract (a+(numU ((c:Nat):Int)).length) (a+(numU ((c:Nat):Int)).length+c)=mkB (r.take c):=by
     rw [ext_mk,show S.toList.drop (a+(numU ((c:Nat):Int)).length)=r from h3,Nat.add_sub_cancel_left]
    refine .inr ⟨r.take c,a+(numU ((c:Nat):Int)).length+c,?_,by rw [List.length_take]; omega,?_,fun u r' hu he=>?_⟩
    ·simp -implicitDefEqProofs only [h2,nz0,hb,w1,w2,hl,p1,p2,p3,ex,eq_self,xs]
    ·omega
    ·rw [h1] at he
     obtain ⟨e,e'⟩:=numU_pre hx.1 (by omega) he
     have hc:c=u.length:=by omega
     subst hc
     refine ⟨by rw [e',List.take_left],?_⟩
     show S.toList.drop _=_
     rw [← List.drop_drop,show S.toList.drop (a+(numU ((u.length:Nat):Int)).length)=r from h3,e',List.drop_left]
 ·have q:(e != 0)=true:=by simpa using he
  refine .inl ⟨e,he,?_,fun t r ht hh=>h1 _ _ ⟨by omega,by omega⟩ hh⟩
  simp -implicitDefEqProofs only [h2,q,eq_self,xs]
theorem sg9 {S:ByteArray} (hs:FitS S) {T:List Nat} {a:Nat} {ok:Bool} {k fr to sq wh ki ks ep bo ak tn:Int} {nw:List NW} {tb:List KW} {tk:ByteArray} {gd:Bool} (I:RI S (9::3::T) a ok (k,fr,to,sq,wh,ki,ks,nw,tb,ep,bo,ak,tk,tn,gd)) (hj:9 ∉ (3::T)) (hj3:3 ∉ T) (hT:∀ i ∈ T,i≤10) {b:Bool} (hb:1≤k∧k≤12→b=(hasN k).contains 9∧b=(hasN k).contains 3) :
  (cond b (Option.bind (F45 (S,((a:Nat):Int))) fun v=>cond (v.2.2 != 0) (some (.inr (zeroM,(2:Int)))) (Option.bind (F44 ((S,v.2.1,ok),18446744073709551615)) fun w=>some (.inl ((0,0,0,0,0,0,0,0,0,0,ByteArray.mk #[],0,false),w.2,k,fr,to,sq,wh,ki,ks,ep,bo,ak,v.1,w.1,gd)))) (some (.inl ((0,0,0,0,0,0,0,0,0,0,ByteArray.mk #[],0,false),(S,((a:Nat):Int),ok),k,fr,to,sq,wh,ki,ks,ep,bo,ak,tk,tn,gd)))=(some (.inr (zeroM,2)):Option ((REC×(RS×REC)) ⊕ (MB×Int)))∧∀ n,Giv n→msgB n=true→S.toList≠bodO n) ∨
  ∃ (a':Nat) (ok':Bool) (t:ByteArray) (x:Int),RI S T a' ok' (k,fr,to,sq,wh,ki,ks,nw,tb,ep,bo,ak,t,x,gd)∧cond b (Option.bind (F45 (S,((a:Nat):Int))) fun v=>cond (v.2.2 != 0) (some (.inr (zeroM,(2:Int)))) (Option.bind (F44 ((S,v.2.1,ok),18446744073709551615)) fun w=>some (.inl ((0,0,0,0,0,0,0,0,0,0,ByteArray.mk #[],0,false),w.2,k,fr,to,sq,wh,ki,ks,ep,bo,ak,v.1,w.1,gd)))) (some (.inl ((0,0,0,0,0,0,0,0,0,0,ByteArray.mk #[],0,false),(S,((a:Nat):Int),ok),k,fr,to,sq,wh,ki,ks,ep,bo,ak,tk,tn,gd)))=(some (.inl ((0,0,0,0,0,0,0,0,0,0,ByteArray.mk #[],0,false),(S,((a':Nat):Int),ok'),k,fr,to,sq,wh,ki,ks,ep,bo,ak,t,x,gd)):Option ((REC×(RS×REC)) ⊕ (MB×Int))):=by
 cases b with
 | false=>exact .inr ⟨a,ok,tk,tn,(I.skip (by decide) hj (fun h=>(hb h).1.symm)).skip (by decide) hj3 (fun h=>(hb h).2.symm),rfl⟩
 | true =>
  rcases ref_text hs I.ha with ⟨e,he,h1,h2⟩ | ⟨t,a1,h1,h2,h3,h4⟩
  ·have q:(e != 0)=true:=by simpa using he
   refine .inl ⟨by simp only [cond_true,h1,Option.bind_some,q],fun n gn hn hS=>?_⟩
   obtain ⟨c1,c2,c3,c4⟩:=I.c n gn hn hS
   have hm:=may_of hn
   have hc:=(hb (by have:=hm.k; have:=c2.1; simp only at this; omega)).1
   have c21:=c2.1
   simp only at c21
   rw [← c21,List.filter_cons,← hc,if_pos rfl,List.flatMap_cons] at c4
   refine h2 n.2.2.2.2.2.2.2.2.2.2.2.2.1.toList (((3::T).filter fun j=>(hasN k).contains j).flatMap (pN n)) (by rw [toList_len]; have:=hm.rtk; omega) ?_
   rw [c4,toList_len]; exact List.append_assoc ..
  ·have I1:RI S (3::T) a1 ok (k,fr,to,sq,wh,ki,ks,nw,tb,ep,bo,ak,(mkB t),tn,gd):=by
    refine I.read (by decide) hj (fun i hi=>by rcases List.mem_cons.1 hi with rfl | hi; decide; exact hT i hi) (fun h=>(hb h).1.symm) h3 ⟨I.g.sq,I.g.ki,I.g.nw,I.g.tb,I.g.ep,I.g.bo,I.g.tn⟩ I.nl I.tl (by show t.length≤200; exact h2) ⟨rfl,rfl,rfl⟩ (fun i hi hne=>by
     rcases le10 hi with rfl | rfl | rfl | rfl | rfl | rfl | rfl | rfl | rfl | rfl | rfl<;>first | exact ⟨rfl,rfl⟩ | exact rfl | exact absurd rfl hne) (fun n r gn hn he=>?_)
    have he:dr S a=numU ((n.2.2.2.2.2.2.2.2.2.2.2.2.1.toList.length:Nat):Int)++(n.2.2.2.2.2.2.2.2.2.2.2.2.1.toList++r):=by rw [he,toList_len]; exact List.append_assoc ..
    obtain ⟨i1,i2⟩:=h4 _ _ (by rw [toList_len]; have:=hn.rtk; omega) he
    exact ⟨rfl,by show (mkB t).toList=_; rw [mkB_toList]; exact i1,i2⟩
   obtain ⟨a',ok',x,I2,e2⟩:=sg3 hs I1 hj3 hT (b:=true) (fun h=>(hb h).2)
   simp only [cond_true] at e2
   refine .inr ⟨a',ok',mkB t,x,I2,?_⟩
   simp only [cond_true,h1,Option.bind_some,nz0,cond_false]
   cases hf:F44 ((S,((a1:Nat):Int),ok),18446744073709551615) with
   | none=>rw [hf] at e2; cases e2
   | some w =>
    rw [hf] at e2
    simp only [Option.bind_some,Option.some.injEq,Prod.mk.injEq] at e2 ⊢
    simp only [e2,true_and,and_self]
end Go.Proofs.Ytgbcankkfmhcoaa.VL
end
section
namespace Go.Proofs.Ytgbcankkfmhcoaa.VL
open Go
set_option linter.unusedVariables false
set_option linter.unusedSectionVars false
set_option linter.unusedSimpArgs false
set_option maxRecDepth 100000
variable [Val]
def bj (j:Nat) (k:Int):Bool:=decide (1≤k)&&(hasN k).contains j
theorem bj_in {j:Nat} {k:Int} (h:1≤k∧k≤12):bj j k=(hasN k).contains j:=by unfold bj; rw [decide_eq_true h.1,Bool.true_and]
theorem k13 {k:Int} (h:0≤k∧k≤12):k=0∨k=1∨k=2∨k=3∨k=4∨k=5∨k=6∨k=7∨k=8∨k=9∨k=10∨k=11∨k=12:=by omega
theorem cn0 {k:Int} (h:0≤k∧k≤12):(cond (decide (k ≥ 1)) (some (decide (k≤4))) (some false))=some (bj 0 k):=by rcases k13 h with rfl | rfl | rfl | rfl | rfl | rfl | rfl | rfl | rfl | rfl | rfl | rfl | rfl<;>rfl
theorem cn4 {k:Int} (h:0≤k∧k≤12):(cond (decide (k ≥ 2)) (some (decide (k≤4))) (some false))=some (bj 4 k):=by rcases k13 h with rfl | rfl | rfl | rfl | rfl | rfl | rfl | rfl | rfl | rfl | rfl | rfl | rfl<;>rfl
theorem cn5 {k:Int} (h:0≤k∧k≤12):(cond (k==1) (some true) (some (k==3)))=some (bj 5 k):=by rcases k13 h with rfl | rfl | rfl | rfl | rfl | rfl | rfl | rfl | rfl | rfl | rfl | rfl | rfl<;>rfl
theorem cn6 {k:Int} (h:0≤k∧k≤12):(cond (decide (k ≥ 1)) (some (decide (k≤3))) (some false))=some (bj 6 k):=by rcases k13 h with rfl | rfl | rfl | rfl | rfl | rfl | rfl | rfl | rfl | rfl | rfl | rfl | rfl<;>rfl
theorem cn7 {k:Int} (h:0≤k∧k≤12):(cond (k==5) (some true) (some (k==6)))=some (bj 7 k):=by rcases k13 h with rfl | rfl | rfl | rfl | rfl | rfl | rfl | rfl | rfl | rfl | rfl | rfl | rfl<;>rfl
theorem cn1 {k:Int} (h:0≤k∧k≤12):(cond (decide (k ≥ 7)) (cond (decide (k≤9)) (some true) (some (k==11))) (some (k==11)))=some (bj 1 k):=by rcases k13 h with rfl | rfl | rfl | rfl | rfl | rfl | rfl | rfl | rfl | rfl | rfl | rfl | rfl<;>rfl
theorem cn2 {k:Int} (h:0≤k∧k≤12):(cond (decide (k ≥ 7)) (some (decide (k≤11))) (some false))=some (bj 2 k):=by rcases k13 h with rfl | rfl | rfl | rfl | rfl | rfl | rfl | rfl | rfl | rfl | rfl | rfl | rfl<;>rfl
theorem cn8 {k:Int} (h:0≤k∧k≤12):(cond (k==7) (some true) (cond (k==8) (some true) (cond (k==10) (some true) (some (k==11)))))=some (bj 8 k):=by rcases k13 h with rfl | rfl | rfl | rfl | rfl | rfl | rfl | rfl | rfl | rfl | rfl | rfl | rfl<;>rfl
theorem cn9 {k:Int} (h:0≤k∧k≤12):decide (k ≥ 11)=bj 9 k∧bj 9 k=bj 3 k∧(k==12)=bj 10 k:=by rcases k13 h with rfl | rfl | rfl | rfl | rfl | rfl | rfl | rfl | rfl | rfl | rfl | rfl | rfl<;>exact ⟨rfl,rfl,rfl⟩
def ordL:List Nat:=[0,4,5,6,7,1,2,8,9,3,10]
theorem ordL_ok {k:Int} (h:1≤k∧k≤12):ordL.filter (fun j=>(hasN k).contains j)=hasN k:=by rcases kinds h with rfl | rfl | rfl | rfl | rfl | rfl | rfl | rfl | rfl | rfl | rfl | rfl<;>rfl
theorem open_is {l:List UInt8} (h:(openE l).2=0):l=(openE l).1++four (crc (openE l).1):=by
 unfold openE at h ⊢
 split at h
 ·simp at h
 ·rename_i h1
  split at h
  ·simp at h
  ·rename_i h2
   split at h
   ·rename_i h3
    rw [if_neg h1,if_neg h2,if_pos h3]
    show l=l.take _++four (crc (l.take _))
    rw [← h3,List.take_append_drop]
   ·simp at h
theorem F20_ok {s:ByteArray} (hs:FitS s):F20 s=F18 s:=by
 obtain ⟨g1,g2⟩:=F18_ok hs
 have f43:=F43_ok hs
 by_cases h:(openE s.toList).2=0
 ·have g2:=g2 h
  have hB:=open_is h
  rw [h] at f43
  generalize (openE s.toList).1=B at *
  have hS:FitS (mkB B):=by
   have:=congrArg List.length hB
   rw [toList_len,List.length_append] at this
   show (mkB B).size≤_
   rw [mkB_size]
   have:s.size≤4611686018427387904:=hs
   omega
  have hSB:(mkB B).toList=B:=mkB_toList B
  have g2:(∃ m:MB,Giv m∧msgB m=true∧(mkB B).toList=bodO m∧F18 s=some (m,0))∨((∀ m:MB,Giv m→msgB m=true→(mkB B).toList≠bodO m)∧F18 s=some (zeroM,2)):=by rw [hSB]; exact g2
  have fin:∀ m:MB,Giv m→msgB m=true→((txtO m==s.toList)=true ↔ (mkB B).toList=bodO m):=by
   intro m _ _
   rw [beq_iff_eq,hB,hSB]
   unfold txtO
   exact ⟨fun e=>(List.append_inj' e rfl).1.symm,fun e=>by rw [e]⟩
  generalize mkB B=S at *
  rw [F20_eq]
  simp -implicitDefEqProofs only [f43,nz0,eq_self,xs]
  obtain ⟨x1,a1,k1,e1,b1,r1,f1⟩:=ref_num hS (a:=0) (Nat.zero_le _) true (most:=12) (by decide) (by decide)
  obtain ⟨x2,a2,k2,e2,b2,r2,f2⟩:=ref_num hS b1 k1 (most:=63) (by decide) (by decide)
  obtain ⟨x3,a3,k3,e3,b3,r3,f3⟩:=ref_num hS b2 k2 (most:=63) (by decide) (by decide)
  have w1:IntKind.wrap .i64 x1=x1:=wi (by omega) (by omega)
  have w2:IntKind.wrap .i64 x2=x2:=wi (by omega) (by omega)
  have w3:IntKind.wrap .i64 x3=x3:=wi (by omega) (by omega)
  refine bindS e1 (bindS e2 (bindS e3 ?_))
  simp only [w1,w2,w3]
  have I0:RI S ordL a3 k3 (x1,x2,x3,0,0,0,0,[],[],0,0,0,ByteArray.mk #[],0,false):=by
   refine ⟨b3,?_,Nat.zero_le _,Nat.zero_le _,Nat.zero_le _,fun j hj=>?_,fun n gn hn he=>?_⟩
   ·have u0:U64 0:=⟨by decide,by decide⟩
    exact ⟨u0,u0,fun x hx=>by simp at hx,fun x hx=>by simp at hx,u0,u0,u0⟩
   ·simp only [ordL,List.mem_cons,List.not_mem_nil,or_false] at hj
    rcases hj with rfl | rfl | rfl | rfl | rfl | rfl | rfl | rfl | rfl | rfl | rfl<;>first | exact ⟨rfl,rfl⟩ | exact rfl
   ·have hm:=may_of hn
    have hb:dr S 0=numU n.1++(numU n.2.1++(numU n.2.2.1++parO n)):=by
     show S.toList.drop 0=_
     rw [List.drop_zero,he]
     unfold bodO heaO
     simp only [List.append_assoc]
    obtain ⟨i1,i2,i3⟩:=f1 _ _ ⟨by have:=hm.k; omega,hm.k.2⟩ hb
    obtain ⟨j1,j2,j3⟩:=f2 _ _ hm.fr i3
    obtain ⟨m1,m2,m3⟩:=f3 _ _ hm.to j3
    refine ⟨m1.trans (j1.trans i1),⟨i2,j2,m2⟩,fun j hj hn'=>?_,?_⟩
    ·exfalso
     apply hn'
     rcases le10 hj with rfl | rfl | rfl | rfl | rfl | rfl | rfl | rfl | rfl | rfl | rfl<;>decide
    ·rw [m3,ordL_ok hm.k]; rfl
  have t0:∀ i ∈ ordL,i≤10:=by decide
  obtain ⟨a4,k4,sq,I1,e4⟩:=sg0 hS I0 (by decide) (by decide) (b:=bj 0 x1) (fun h=>bj_in h)
  obtain ⟨a5,k5,wh,I2,e5⟩:=sg4 hS I1 (by decide) (by decide) (b:=bj 4 x1) (fun h=>bj_in h)
  obtain ⟨a6,k6,ki,ks,I3,e6⟩:=sg5 hS I2 (by decide) (by decide) (b:=bj 5 x1) (fun h=>bj_in h)
  obtain ⟨a7,k7,nw,I4,e7⟩:=sg6 hS I3 (by decide) (by decide) (b:=bj 6 x1) (fun h=>bj_in h)
  obtain ⟨a8,k8,tb,I5,e8⟩:=sg7 hS I4 (by decide) (by decide) (b:=bj 7 x1) (fun h=>bj_in h)
  obtain ⟨a9,k9,ep,I6,e9⟩:=sg1 hS I5 (by decide) (by decide) (b:=bj 1 x1) (fun h=>bj_in h)
  obtain ⟨a10,k10,bo,I7,e10⟩:=sg2 hS I6 (by decide) (by decide) (b:=bj 2 x1) (fun h=>bj_in h)
  obtain ⟨a11,k11,ak,I8,e11⟩:=sg8 hS I7 (by decide) (by decide) (b:=bj 8 x1) (fun h=>bj_in h)
  refine bindS (bindS (cn0 r1) e4) (bindS (bindS (cn4 r1) e5) (bindS (bindS (cn5 r1) e6) (bindS (bindS (cn6 r1) e7) (bindS (bindS (cn7 r1) e8) (bindS (bindS (cn1 r1) e9) (bindS (bindS (cn2 r1) e10) (bindS (bindS (cn8 r1) e11) ?_)))))))
  obtain ⟨d1,d2,d3⟩:=cn9 r1
  simp only [d1,d3]
  have gone:(∀ n,Giv n→msgB n=true→S.toList≠bodO n)→F18 s=some (zeroM,2):=by
   intro hh
   rcases g2 with ⟨m,gm,mm,hb,_⟩ | ⟨_,e⟩
   ·exact absurd hb (hh m gm mm)
   ·exact e
  rcases sg9 hS I8 (by decide) (by decide) (by decide) (b:=bj 9 x1) (fun h=>⟨bj_in h,d2.trans (bj_in h)⟩) with ⟨e12,hno⟩ | ⟨a12,k12,tk,tn,I9,e12⟩
  ·rw [gone hno]
   exact (congrArg (fun x=>joinX x _) e12).trans rfl
  ·obtain ⟨a13,k13,gd,I10,e13⟩:=sg10 hS I9 (by decide) (by decide) (b:=bj 10 x1) (fun h=>bj_in h)
   refine (congrArg (fun x=>joinX x _) e12).trans ?_
   simp only [joinX_l]
   refine bindS e13 ?_
   have same:∀ n,Giv n→msgB n=true→S.toList=bodO n→k13=true∧(x1,x2,x3,sq,wh,ki,ks,nw,tb,ep,bo,ak,tk,tn,gd)=n:=by
    intro n gn hn he
    obtain ⟨c1,c2,c3,_⟩:=I10.c n gn hn he
    exact ⟨c1,all_fEq c2 (fun j hj=>c3 j hj (by simp))⟩
   have G:=I10.g
   have l1:=I10.nl
   have l2:=I10.tl
   have l3:=I10.tk
   simp only at l1 l2 l3
   have f12:=rmay_ok (x1,x2,x3,sq,wh,ki,ks,nw,tb,ep,bo,ak,tk,tn,gd) (by show nw.length≤1000; omega) (by show tb.length≤1000; omega) (Nat.le_trans (show tk.size≤200 from l3) (by decide))
   simp only [f12,Option.bind_some]
   have zz:∀ {α:Type} (r:α),r=r:=fun r=>rfl
   cases k13
   ·rw [gone (fun n gn hn he=>by have:=(same n gn hn he).1; cases this)]
    rfl
   ·by_cases hm:msgB (x1,x2,x3,sq,wh,ki,ks,nw,tb,ep,bo,ak,tk,tn,gd)=true
    ·have f19:=F19_ok G hm
     have ff:=fin _ G hm
     simp only [hm,f19,mkB_toList,Option.bind_some,Bool.not_true,cond_false]
     cases hq:(txtO (x1,x2,x3,sq,wh,ki,ks,nw,tb,ep,bo,ak,tk,tn,gd)==s.toList)
     ·rw [gone (fun n gn hn he=>by
       have e:=(same n gn hn he).2
       rw [← e] at he
       rw [ff.2 he] at hq
       cases hq)]
      rfl
     ·have he:=ff.1 hq
      rcases g2 with ⟨m,gm,mm,hb,e⟩ | ⟨hno,_⟩
      ·rw [e,← (same m gm mm hb).2]; rfl
      ·exact absurd he (hno _ G hm)
    ·have hm:msgB (x1,x2,x3,sq,wh,ki,ks,nw,tb,ep,bo,ak,tk,tn,gd)=false:=by simpa using hm
     rw [gone (fun n gn hn he=>by
      have e:=(same n gn hn he).2
      rw [← e,hm] at hn
      cases hn)]
     simp only [hm]
     rfl
 ·rw [g1 h,F20_eq,f43]
  have q:((openE s.toList).2 != 0)=true:=by simpa using h
  simp only [Option.bind_some,q,cond_true]
  rfl
def nackM:MB:=(4,1,2,5,3,0,0,[],[],0,0,0,ByteArray.mk #[],0,false)
theorem small1 {n:Nat} (h:n≤127):numU ((n:Nat):Int)=[bI ((n:Nat):Int)]:=by
 unfold numU numZ
 rw [Int.toNat_natCast,hiZ_small h,loZ_small h]; rfl
theorem nack_bod:bodO nackM=[4,1,2,5,3]:=by
 have e4:numU 4=[4]:=small1 (n:=4) (by decide)
 have e1:numU 1=[1]:=small1 (n:=1) (by decide)
 have e2:numU 2=[2]:=small1 (n:=2) (by decide)
 have e5:numU 5=[5]:=small1 (n:=5) (by decide)
 have e3:numU 3=[3]:=small1 (n:=3) (by decide)
 show (numU 4++(numU 1++numU 2))++(numU 5++(numU 3++[]))=_
 rw [e4,e1,e2,e5,e3]; rfl
theorem nack_giv:Giv nackM:=⟨⟨by decide,by decide⟩,⟨by decide,by decide⟩,fun x hx=>by simp [nackM] at hx,fun x hx=>by simp [nackM] at hx,⟨by decide,by decide⟩,⟨by decide,by decide⟩,⟨by decide,by decide⟩⟩
theorem F17_ok:F17 ()=some true:=by
 have m1:msgB nackM=true:=by
  have key:sameB nackM (bareM nackM)=true∧partsB nackM=true:=⟨by simp [nackM,sameB,bareM,kindB],by decide +kernel⟩
  unfold msgB
  rw [key.1,key.2]; rfl
 have w:=write_ok nack_giv m1 (Nat.zero_le _) (Nat.zero_le _) (Nat.zero_le _)
 have c:=check_ok (4,1,1,5,3,0,0,[],[],0,0,0,ByteArray.mk #[],0,false) (Nat.zero_le _) (Nat.zero_le _) (Nat.zero_le _)
 rw [show msgB (4,1,1,5,3,0,0,[],[],0,0,0,ByteArray.mk #[],0,false)=false from rfl] at c
 have r:=(F18_ok (s:=mkB [4,1,2,5,3]) (by show (5:Nat)≤_; omega)).1
 rw [mkB_toList,show openE [4,1,2,5,3]=([],10) by rfl] at r
 have r:=r (by decide)
 have f37:=F37_ok (l:=[4,1,2,5,3]) (by decide)
 have f36:=F36_eq ()
 have et:txtO nackM=[4,1,2,5,3]++four (crc [4,1,2,5,3]):=by unfold txtO; rw [nack_bod]
 rw [et] at w
 rw [F17_eq]
 have eb:ByteArray.mk #[4,1,2,5,3]=mkB [4,1,2,5,3]:=rfl
 have e1:((mkB ([4,1,2,5,3]++four (crc [4,1,2,5,3]))).toList==(mkB ([4,1,2,5,3]++four (crc [4,1,2,5,3]))).toList)=true:=beq_self_eq_true _
 have e2:((((mkB ([4,1,2,5,3]++four (crc [4,1,2,5,3]))).size:Nat):Int)==9)=true:=by rw [mkB_size]; rfl
 generalize mkB ([4,1,2,5,3]++four (crc [4,1,2,5,3]))=T at *
 have w:F10 (4,1,2,5,3,0,0,[],[],0,0,0,ByteArray.mk #[],0,false)=some (T,0):=w
 have c:F11 (4,1,1,5,3,0,0,[],[],0,0,0,ByteArray.mk #[],0,false)=some 1:=c
 simp only [f36,Option.bind_some,eb,w,r,f37,e1,e2,c,cond_true]
 rfl
theorem F4_ok (s:ByteArray):F4 s=some true:=by
 obtain ⟨t,ht,hft⟩:∃ t:ByteArray,FitS t∧(cond (decide (((s.size:Nat):Int) > 1000)) (cond (decide ((1000:Int)≤((s.size:Nat):Int))) (some (s.extract 0 1000)) none) (some s))=some t:=by
  by_cases h:((s.size:Nat):Int) > 1000
  ·refine ⟨s.extract 0 1000,?_,?_⟩
   ·show (s.extract 0 1000).size≤_
    rw [ext_mk,mkB_size,List.length_take,List.length_drop]; omega
   ·have h2:(1000:Int)≤((s.size:Nat):Int):=by omega
    simp -implicitDefEqProofs only [h,h2,eq_self,xs]
  ·exact ⟨s,by show s.size≤_; omega,by simp -implicitDefEqProofs only [h,eq_self,xs]⟩
 have f20:=F20_ok ht
 obtain ⟨g1,g2⟩:=F18_ok ht
 have f17:=F17_ok
 rw [F4_eq,hft]
 have zz:=rsame_refl zeroM (Nat.zero_le _) (Nat.zero_le _)
 by_cases h:(openE t.toList).2=0
 ·rcases g2 h with ⟨m,gm,mm,hb,e⟩ | ⟨_,e⟩
  ·have hm:=may_of mm
   have l1:=hm.rnw.1
   have l2:=hm.rtb.1
   have sm:=rsame_refl m (by omega) (by omega)
   have w:=write_ok gm mm (by omega) (by omega) (Nat.le_trans hm.rtk (by decide))
   have et:((mkB (txtO m)).toList==t.toList)=true:=by
    rw [mkB_toList,beq_iff_eq,open_is h,hb]; rfl
   simp only [Option.bind_some,f20,e,sm,Bool.not_true,cond_false,nz0,joinX_l,w,et,cond_true,f17,show ((0:Int)==0)=true from rfl]
  ·simp only [Option.bind_some,f20,e,zz,Bool.not_true,cond_false,joinX_l,cond_true,f17,show ((2:Int) != 2)=false from rfl,show ((2:Int) != 0)=true from rfl]
 ·have e:=g1 h
  generalize (openE t.toList).2=x at *
  have q1:(x != x)=false:=by simp
  have q2:(x != 0)=true:=by simpa using h
  simp only [Option.bind_some,f20,e,zz,Bool.not_true,cond_false,joinX_l,cond_true,f17,q1,q2]
end Go.Proofs.Ytgbcankkfmhcoaa.VL
end
