import Derived.Test.YtemdbhdjchkllaaW1Ya
import Derived.Test.YtemdbhdjchkllaaW1Vw
namespace Go.Proofs.Ytemdbhdjchkllaa.VL
open Go
set_option maxRecDepth 100000
theorem at10:(fun o=>cCode Try.prog (slotF [4,10] o) (Try.f10.body.getD .skip))=fun o=>some (ic10.at o):=by kernel_rfl
theorem fi10:FI.ok Try.prog 10 ⟨ic10,[4,10],64,[.t 6,.t 7]⟩:=⟨_,_,Try.func10,rfl,by kernel_rfl,rfl,by kernel_rfl,rfl,at10⟩
theorem at11:(fun o=>cCode Try.prog (slotF [4] o) (Try.f11.body.getD .skip))=fun o=>some (ic11.at o):=by kernel_rfl
theorem fi11:FI.ok Try.prog 11 ⟨ic11,[4],40,[.t 2]⟩:=⟨_,_,Try.func11,rfl,by kernel_rfl,rfl,by kernel_rfl,rfl,at11⟩
theorem at13:(fun o=>cCode Try.prog (slotF [11,41] o) (Try.f13.body.getD .skip))=fun o=>some (ic13.at o):=by kernel_rfl
theorem fi13:FI.ok Try.prog 13 ⟨ic13,[11,41],57,[.t 4,.t 5,.t 6]⟩:=⟨_,_,Try.func13,rfl,by kernel_rfl,rfl,by kernel_rfl,rfl,at13⟩
theorem at14:(fun o=>cCode Try.prog (slotF [3] o) (Try.f14.body.getD .skip))=fun o=>some (ic14.at o):=by kernel_rfl
theorem fi14:FI.ok Try.prog 14 ⟨ic14,[3],86,[.t 0]⟩:=⟨_,_,Try.func14,rfl,by kernel_rfl,rfl,by kernel_rfl,rfl,at14⟩
theorem at16:(fun o=>cCode Try.prog (slotF [] o) (Try.f16.body.getD .skip))=fun o=>some (ic16.at o):=by kernel_rfl
theorem fi16:FI.ok Try.prog 16 ⟨ic16,[],26,[.t 4]⟩:=⟨_,_,Try.func16,rfl,by kernel_rfl,rfl,by kernel_rfl,rfl,at16⟩
theorem at17:(fun o=>cCode Try.prog (slotF [] o) (Try.f17.body.getD .skip))=fun o=>some (ic17.at o):=by kernel_rfl
theorem fi17:FI.ok Try.prog 17 ⟨ic17,[],25,[.t 4,.t 5]⟩:=⟨_,_,Try.func17,rfl,by kernel_rfl,rfl,by kernel_rfl,rfl,at17⟩
theorem at23:(fun o=>cCode Try.prog (slotF [] o) (Try.f23.body.getD .skip))=fun o=>some (ic23.at o):=by kernel_rfl
theorem fi23:FI.ok Try.prog 23 ⟨ic23,[],26,[.t 4]⟩:=⟨_,_,Try.func23,rfl,by kernel_rfl,rfl,by kernel_rfl,rfl,at23⟩
theorem at25:(fun o=>cCode Try.prog (slotF [1] o) (Try.f25.body.getD .skip))=fun o=>some (ic25.at o):=by kernel_rfl
theorem fi25:FI.ok Try.prog 25 ⟨ic25,[1],18,[.t 2]⟩:=⟨_,_,Try.func25,rfl,by kernel_rfl,rfl,by kernel_rfl,rfl,at25⟩
theorem at26:(fun o=>cCode Try.prog (slotF [] o) (Try.f26.body.getD .skip))=fun o=>some (ic26.at o):=by kernel_rfl
theorem fi26:FI.ok Try.prog 26 ⟨ic26,[],9,[.t 2]⟩:=⟨_,_,Try.func26,rfl,by kernel_rfl,rfl,by kernel_rfl,rfl,at26⟩
theorem at27:(fun o=>cCode Try.prog (slotF [] o) (Try.f27.body.getD .skip))=fun o=>some (ic27.at o):=by kernel_rfl
theorem fi27:FI.ok Try.prog 27 ⟨ic27,[],49,[.t 6,.t 7]⟩:=⟨_,_,Try.func27,rfl,by kernel_rfl,rfl,by kernel_rfl,rfl,at27⟩
theorem at28:(fun o=>cCode Try.prog (slotF [2] o) (Try.f28.body.getD .skip))=fun o=>some (ic28.at o):=by kernel_rfl
theorem fi28:FI.ok Try.prog 28 ⟨ic28,[2],10,[.t 4]⟩:=⟨_,_,Try.func28,rfl,by kernel_rfl,rfl,by kernel_rfl,rfl,at28⟩
theorem at29:(fun o=>cCode Try.prog (slotF [] o) (Try.f29.body.getD .skip))=fun o=>some (ic29.at o):=by kernel_rfl
theorem fi29:FI.ok Try.prog 29 ⟨ic29,[],20,[.t 4]⟩:=⟨_,_,Try.func29,rfl,by kernel_rfl,rfl,by kernel_rfl,rfl,at29⟩
theorem at30:(fun o=>cCode Try.prog (slotF [25,40] o) (Try.f30.body.getD .skip))=fun o=>some (ic30.at o):=by kernel_rfl
theorem fi30:FI.ok Try.prog 30 ⟨ic30,[25,40],95,[.t 6]⟩:=⟨_,_,Try.func30,rfl,by kernel_rfl,rfl,by kernel_rfl,rfl,at30⟩
theorem at31:(fun o=>cCode Try.prog (slotF [6] o) (Try.f31.body.getD .skip))=fun o=>some (ic31.at o):=by kernel_rfl
theorem fi31:FI.ok Try.prog 31 ⟨ic31,[6],11,[.t 2]⟩:=⟨_,_,Try.func31,rfl,by kernel_rfl,rfl,by kernel_rfl,rfl,at31⟩
theorem at32:(fun o=>cCode Try.prog (slotF [2,3] o) (Try.f32.body.getD .skip))=fun o=>some (ic32.at o):=by kernel_rfl
theorem fi32:FI.ok Try.prog 32 ⟨ic32,[2,3],32,[.t 4]⟩:=⟨_,_,Try.func32,rfl,by kernel_rfl,rfl,by kernel_rfl,rfl,at32⟩
theorem at33:(fun o=>cCode Try.prog (slotF [] o) (Try.f33.body.getD .skip))=fun o=>some (ic33.at o):=by kernel_rfl
theorem fi33:FI.ok Try.prog 33 ⟨ic33,[],9,[]⟩:=⟨_,_,Try.func33,rfl,by kernel_rfl,rfl,by kernel_rfl,rfl,at33⟩
theorem at34:(fun o=>cCode Try.prog (slotF [2,3] o) (Try.f34.body.getD .skip))=fun o=>some (ic34.at o):=by kernel_rfl
theorem fi34:FI.ok Try.prog 34 ⟨ic34,[2,3],10,[.t 4]⟩:=⟨_,_,Try.func34,rfl,by kernel_rfl,rfl,by kernel_rfl,rfl,at34⟩
theorem at35:(fun o=>cCode Try.prog (slotF [3] o) (Try.f35.body.getD .skip))=fun o=>some (ic35.at o):=by kernel_rfl
theorem fi35:FI.ok Try.prog 35 ⟨ic35,[3],19,[.t 4]⟩:=⟨_,_,Try.func35,rfl,by kernel_rfl,rfl,by kernel_rfl,rfl,at35⟩
theorem at36:(fun o=>cCode Try.prog (slotF [7] o) (Try.f36.body.getD .skip))=fun o=>some (ic36.at o):=by kernel_rfl
theorem fi36:FI.ok Try.prog 36 ⟨ic36,[7],42,[.t 4]⟩:=⟨_,_,Try.func36,rfl,by kernel_rfl,rfl,by kernel_rfl,rfl,at36⟩
theorem at37:(fun o=>cCode Try.prog (slotF [1] o) (Try.f37.body.getD .skip))=fun o=>some (ic37.at o):=by kernel_rfl
theorem fi37:FI.ok Try.prog 37 ⟨ic37,[1],6,[.t 2]⟩:=⟨_,_,Try.func37,rfl,by kernel_rfl,rfl,by kernel_rfl,rfl,at37⟩
theorem at38:(fun o=>cCode Try.prog (slotF [] o) (Try.f38.body.getD .skip))=fun o=>some (ic38.at o):=by kernel_rfl
theorem fi38:FI.ok Try.prog 38 ⟨ic38,[],8,[.t 2]⟩:=⟨_,_,Try.func38,rfl,by kernel_rfl,rfl,by kernel_rfl,rfl,at38⟩
theorem at39:(fun o=>cCode Try.prog (slotF [] o) (Try.f39.body.getD .skip))=fun o=>some (ic39.at o):=by kernel_rfl
theorem fi39:FI.ok Try.prog 39 ⟨ic39,[],26,[.t 4]⟩:=⟨_,_,Try.func39,rfl,by kernel_rfl,rfl,by kernel_rfl,rfl,at39⟩
theorem at40:(fun o=>cCode Try.prog (slotF [4] o) (Try.f40.body.getD .skip))=fun o=>some (ic40.at o):=by kernel_rfl
theorem fi40:FI.ok Try.prog 40 ⟨ic40,[4],20,[.t 2]⟩:=⟨_,_,Try.func40,rfl,by kernel_rfl,rfl,by kernel_rfl,rfl,at40⟩
theorem at41:(fun o=>cCode Try.prog (slotF [] o) (Try.f41.body.getD .skip))=fun o=>some (ic41.at o):=by kernel_rfl
theorem fi41:FI.ok Try.prog 41 ⟨ic41,[],6,[.t 2]⟩:=⟨_,_,Try.func41,rfl,by kernel_rfl,rfl,by kernel_rfl,rfl,at41⟩
theorem at43:(fun o=>cCode Try.prog (slotF [] o) (Try.f43.body.getD .skip))=fun o=>some (ic43.at o):=by kernel_rfl
theorem fi43:FI.ok Try.prog 43 ⟨ic43,[],10,[]⟩:=⟨_,_,Try.func43,rfl,by kernel_rfl,rfl,by kernel_rfl,rfl,at43⟩
theorem at44:(fun o=>cCode Try.prog (slotF [] o) (Try.f44.body.getD .skip))=fun o=>some (ic44.at o):=by kernel_rfl
theorem fi44:FI.ok Try.prog 44 ⟨ic44,[],63,[]⟩:=⟨_,_,Try.func44,rfl,by kernel_rfl,rfl,by kernel_rfl,rfl,at44⟩
theorem at45:(fun o=>cCode Try.prog (slotF [] o) (Try.f45.body.getD .skip))=fun o=>some (ic45.at o):=by kernel_rfl
theorem fi45:FI.ok Try.prog 45 ⟨ic45,[],19,[.t 4]⟩:=⟨_,_,Try.func45,rfl,by kernel_rfl,rfl,by kernel_rfl,rfl,at45⟩
theorem at46:(fun o=>cCode Try.prog (slotF [] o) (Try.f46.body.getD .skip))=fun o=>some (ic46.at o):=by kernel_rfl
theorem fi46:FI.ok Try.prog 46 ⟨ic46,[],19,[.t 2]⟩:=⟨_,_,Try.func46,rfl,by kernel_rfl,rfl,by kernel_rfl,rfl,at46⟩
theorem at47:(fun o=>cCode Try.prog (slotF [] o) (Try.f47.body.getD .skip))=fun o=>some (ic47.at o):=by kernel_rfl
theorem fi47:FI.ok Try.prog 47 ⟨ic47,[],25,[.t 2]⟩:=⟨_,_,Try.func47,rfl,by kernel_rfl,rfl,by kernel_rfl,rfl,at47⟩
theorem at48:(fun o=>cCode Try.prog (slotF [] o) (Try.f48.body.getD .skip))=fun o=>some (ic48.at o):=by kernel_rfl
theorem fi48:FI.ok Try.prog 48 ⟨ic48,[],14,[]⟩:=⟨_,_,Try.func48,rfl,by kernel_rfl,rfl,by kernel_rfl,rfl,at48⟩
theorem at49:(fun o=>cCode Try.prog (slotF [] o) (Try.f49.body.getD .skip))=fun o=>some (ic49.at o):=by kernel_rfl
theorem fi49:FI.ok Try.prog 49 ⟨ic49,[],53,[]⟩:=⟨_,_,Try.func49,rfl,by kernel_rfl,rfl,by kernel_rfl,rfl,at49⟩
theorem at50:(fun o=>cCode Try.prog (slotF [] o) (Try.f50.body.getD .skip))=fun o=>some (ic50.at o):=by kernel_rfl
theorem fi50:FI.ok Try.prog 50 ⟨ic50,[],220,[]⟩:=⟨_,_,Try.func50,rfl,by kernel_rfl,rfl,by kernel_rfl,rfl,at50⟩
theorem at51:(fun o=>cCode Try.prog (slotF [] o) (Try.f51.body.getD .skip))=fun o=>some (ic51.at o):=by kernel_rfl
theorem fi51:FI.ok Try.prog 51 ⟨ic51,[],28,[]⟩:=⟨_,_,Try.func51,rfl,by kernel_rfl,rfl,by kernel_rfl,rfl,at51⟩
theorem at52:(fun o=>cCode Try.prog (slotF [] o) (Try.f52.body.getD .skip))=fun o=>some (ic52.at o):=by kernel_rfl
theorem fi52:FI.ok Try.prog 52 ⟨ic52,[],58,[]⟩:=⟨_,_,Try.func52,rfl,by kernel_rfl,rfl,by kernel_rfl,rfl,at52⟩
theorem at53:(fun o=>cCode Try.prog (slotF [] o) (Try.f53.body.getD .skip))=fun o=>some (ic53.at o):=by kernel_rfl
theorem fi53:FI.ok Try.prog 53 ⟨ic53,[],38,[]⟩:=⟨_,_,Try.func53,rfl,by kernel_rfl,rfl,by kernel_rfl,rfl,at53⟩
def tab:List (Nat×FI):=[(10,⟨ic10,[4,10],64,[.t 6,.t 7]⟩),(11,⟨ic11,[4],40,[.t 2]⟩),(13,⟨ic13,[11,41],57,[.t 4,.t 5,.t 6]⟩),(14,⟨ic14,[3],86,[.t 0]⟩),(16,⟨ic16,[],26,[.t 4]⟩),(17,⟨ic17,[],25,[.t 4,.t 5]⟩),(23,⟨ic23,[],26,[.t 4]⟩),(25,⟨ic25,[1],18,[.t 2]⟩),(26,⟨ic26,[],9,[.t 2]⟩),(27,⟨ic27,[],49,[.t 6,.t 7]⟩),(28,⟨ic28,[2],10,[.t 4]⟩),(29,⟨ic29,[],20,[.t 4]⟩),(30,⟨ic30,[25,40],95,[.t 6]⟩),(31,⟨ic31,[6],11,[.t 2]⟩),(32,⟨ic32,[2,3],32,[.t 4]⟩),(33,⟨ic33,[],9,[]⟩),(34,⟨ic34,[2,3],10,[.t 4]⟩),(35,⟨ic35,[3],19,[.t 4]⟩),(36,⟨ic36,[7],42,[.t 4]⟩),(37,⟨ic37,[1],6,[.t 2]⟩),(38,⟨ic38,[],8,[.t 2]⟩),(39,⟨ic39,[],26,[.t 4]⟩),(40,⟨ic40,[4],20,[.t 2]⟩),(41,⟨ic41,[],6,[.t 2]⟩),(43,⟨ic43,[],10,[]⟩),(44,⟨ic44,[],63,[]⟩),(45,⟨ic45,[],19,[.t 4]⟩),(46,⟨ic46,[],19,[.t 2]⟩),(47,⟨ic47,[],25,[.t 2]⟩),(48,⟨ic48,[],14,[]⟩),(49,⟨ic49,[],53,[]⟩),(50,⟨ic50,[],220,[]⟩),(51,⟨ic51,[],28,[]⟩),(52,⟨ic52,[],58,[]⟩),(53,⟨ic53,[],38,[]⟩)]
theorem tab_ok:TabOk Try.prog tab:=⟨fi10,fi11,fi13,fi14,fi16,fi17,fi23,fi25,fi26,fi27,fi28,fi29,fi30,fi31,fi32,fi33,fi34,fi35,fi36,fi37,fi38,fi39,fi40,fi41,fi43,fi44,fi45,fi46,fi47,fi48,fi49,fi50,fi51,fi52,fi53,trivial⟩
end Go.Proofs.Ytemdbhdjchkllaa.VL
