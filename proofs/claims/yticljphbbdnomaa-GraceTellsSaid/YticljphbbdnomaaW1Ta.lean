import Derived.Test.YticljphbbdnomaaW1Ya
import Derived.Test.YticljphbbdnomaaW1Vw
namespace Go.Proofs.Yticljphbbdnomaa.VL
open Go
set_option maxRecDepth 100000
theorem at3:(fun o=>cCode Try.prog (slotF [3] o) (Try.f3.body.getD .skip))=fun o=>some (ic3.at o):=by kernel_rfl
theorem fi3:FI.ok Try.prog 3 ⟨ic3,[3],132,[.t 6]⟩:=⟨_,_,Try.func3,rfl,by kernel_rfl,rfl,by kernel_rfl,rfl,at3⟩
theorem at4:(fun o=>cCode Try.prog (slotF [19] o) (Try.f4.body.getD .skip))=fun o=>some (ic4.at o):=by kernel_rfl
theorem fi4:FI.ok Try.prog 4 ⟨ic4,[19],163,[.t 2]⟩:=⟨_,_,Try.func4,rfl,by kernel_rfl,rfl,by kernel_rfl,rfl,at4⟩
theorem at5:(fun o=>cCode Try.prog (slotF [24] o) (Try.f5.body.getD .skip))=fun o=>some (ic5.at o):=by kernel_rfl
theorem fi5:FI.ok Try.prog 5 ⟨ic5,[24],142,[.t 4]⟩:=⟨_,_,Try.func5,rfl,by kernel_rfl,rfl,by kernel_rfl,rfl,at5⟩
theorem at6:(fun o=>cCode Try.prog (slotF [2] o) (Try.f6.body.getD .skip))=fun o=>some (ic6.at o):=by kernel_rfl
theorem fi6:FI.ok Try.prog 6 ⟨ic6,[2],130,[.t 4]⟩:=⟨_,_,Try.func6,rfl,by kernel_rfl,rfl,by kernel_rfl,rfl,at6⟩
theorem at7:(fun o=>cCode Try.prog (slotF [2] o) (Try.f7.body.getD .skip))=fun o=>some (ic7.at o):=by kernel_rfl
theorem fi7:FI.ok Try.prog 7 ⟨ic7,[2],159,[.t 4]⟩:=⟨_,_,Try.func7,rfl,by kernel_rfl,rfl,by kernel_rfl,rfl,at7⟩
theorem at8:(fun o=>cCode Try.prog (slotF [1] o) (Try.f8.body.getD .skip))=fun o=>some (ic8.at o):=by kernel_rfl
theorem fi8:FI.ok Try.prog 8 ⟨ic8,[1],289,[.t 2]⟩:=⟨_,_,Try.func8,rfl,by kernel_rfl,rfl,by kernel_rfl,rfl,at8⟩
theorem at9:(fun o=>cCode Try.prog (slotF [3] o) (Try.f9.body.getD .skip))=fun o=>some (ic9.at o):=by kernel_rfl
theorem fi9:FI.ok Try.prog 9 ⟨ic9,[3],49,[.t 6,.t 7]⟩:=⟨_,_,Try.func9,rfl,by kernel_rfl,rfl,by kernel_rfl,rfl,at9⟩
theorem at10:(fun o=>cCode Try.prog (slotF [1] o) (Try.f10.body.getD .skip))=fun o=>some (ic10.at o):=by kernel_rfl
theorem fi10:FI.ok Try.prog 10 ⟨ic10,[1],31,[.t 2]⟩:=⟨_,_,Try.func10,rfl,by kernel_rfl,rfl,by kernel_rfl,rfl,at10⟩
theorem at11:(fun o=>cCode Try.prog (slotF [1] o) (Try.f11.body.getD .skip))=fun o=>some (ic11.at o):=by kernel_rfl
theorem fi11:FI.ok Try.prog 11 ⟨ic11,[1],93,[.t 0]⟩:=⟨_,_,Try.func11,rfl,by kernel_rfl,rfl,by kernel_rfl,rfl,at11⟩
theorem at12:(fun o=>cCode Try.prog (slotF [4,5] o) (Try.f12.body.getD .skip))=fun o=>some (ic12.at o):=by kernel_rfl
theorem fi12:FI.ok Try.prog 12 ⟨ic12,[4,5],19,[.t 6,.t 7]⟩:=⟨_,_,Try.func12,rfl,by kernel_rfl,rfl,by kernel_rfl,rfl,at12⟩
theorem at13:(fun o=>cCode Try.prog (slotF [14,60,64] o) (Try.f13.body.getD .skip))=fun o=>some (ic13.at o):=by kernel_rfl
theorem fi13:FI.ok Try.prog 13 ⟨ic13,[14,60,64],111,[.t 10,.t 11]⟩:=⟨_,_,Try.func13,rfl,by kernel_rfl,rfl,by kernel_rfl,rfl,at13⟩
theorem at14:(fun o=>cCode Try.prog (slotF [4] o) (Try.f14.body.getD .skip))=fun o=>some (ic14.at o):=by kernel_rfl
theorem fi14:FI.ok Try.prog 14 ⟨ic14,[4],44,[.t 2]⟩:=⟨_,_,Try.func14,rfl,by kernel_rfl,rfl,by kernel_rfl,rfl,at14⟩
theorem at15:(fun o=>cCode Try.prog (slotF [] o) (Try.f15.body.getD .skip))=fun o=>some (ic15.at o):=by kernel_rfl
theorem fi15:FI.ok Try.prog 15 ⟨ic15,[],68,[.t 4]⟩:=⟨_,_,Try.func15,rfl,by kernel_rfl,rfl,by kernel_rfl,rfl,at15⟩
theorem at16:(fun o=>cCode Try.prog (slotF [] o) (Try.f16.body.getD .skip))=fun o=>some (ic16.at o):=by kernel_rfl
theorem fi16:FI.ok Try.prog 16 ⟨ic16,[],26,[.t 4]⟩:=⟨_,_,Try.func16,rfl,by kernel_rfl,rfl,by kernel_rfl,rfl,at16⟩
theorem at17:(fun o=>cCode Try.prog (slotF [1] o) (Try.f17.body.getD .skip))=fun o=>some (ic17.at o):=by kernel_rfl
theorem fi17:FI.ok Try.prog 17 ⟨ic17,[1],19,[.t 2]⟩:=⟨_,_,Try.func17,rfl,by kernel_rfl,rfl,by kernel_rfl,rfl,at17⟩
theorem at18:(fun o=>cCode Try.prog (slotF [5,31] o) (Try.f18.body.getD .skip))=fun o=>some (ic18.at o):=by kernel_rfl
theorem fi18:FI.ok Try.prog 18 ⟨ic18,[5,31],33,[.t 2]⟩:=⟨_,_,Try.func18,rfl,by kernel_rfl,rfl,by kernel_rfl,rfl,at18⟩
theorem at19:(fun o=>cCode Try.prog (slotF [4] o) (Try.f19.body.getD .skip))=fun o=>some (ic19.at o):=by kernel_rfl
theorem fi19:FI.ok Try.prog 19 ⟨ic19,[4],60,[.t 2]⟩:=⟨_,_,Try.func19,rfl,by kernel_rfl,rfl,by kernel_rfl,rfl,at19⟩
theorem at20:(fun o=>cCode Try.prog (slotF [5,14,70,55] o) (Try.f20.body.getD .skip))=fun o=>some (ic20.at o):=by kernel_rfl
theorem fi20:FI.ok Try.prog 20 ⟨ic20,[5,14,70,55],74,[.t 8,.t 9,.t 10]⟩:=⟨_,_,Try.func20,rfl,by kernel_rfl,rfl,by kernel_rfl,rfl,at20⟩
theorem at21:(fun o=>cCode Try.prog (slotF [3] o) (Try.f21.body.getD .skip))=fun o=>some (ic21.at o):=by kernel_rfl
theorem fi21:FI.ok Try.prog 21 ⟨ic21,[3],45,[.t 6]⟩:=⟨_,_,Try.func21,rfl,by kernel_rfl,rfl,by kernel_rfl,rfl,at21⟩
theorem at22:(fun o=>cCode Try.prog (slotF [] o) (Try.f22.body.getD .skip))=fun o=>some (ic22.at o):=by kernel_rfl
theorem fi22:FI.ok Try.prog 22 ⟨ic22,[],8,[.t 4]⟩:=⟨_,_,Try.func22,rfl,by kernel_rfl,rfl,by kernel_rfl,rfl,at22⟩
theorem at23:(fun o=>cCode Try.prog (slotF [37] o) (Try.f23.body.getD .skip))=fun o=>some (ic23.at o):=by kernel_rfl
theorem fi23:FI.ok Try.prog 23 ⟨ic23,[37],39,[.t 6]⟩:=⟨_,_,Try.func23,rfl,by kernel_rfl,rfl,by kernel_rfl,rfl,at23⟩
theorem at24:(fun o=>cCode Try.prog (slotF [] o) (Try.f24.body.getD .skip))=fun o=>some (ic24.at o):=by kernel_rfl
theorem fi24:FI.ok Try.prog 24 ⟨ic24,[],9,[.t 2]⟩:=⟨_,_,Try.func24,rfl,by kernel_rfl,rfl,by kernel_rfl,rfl,at24⟩
theorem at25:(fun o=>cCode Try.prog (slotF [12,43,57,104,129,15,87,92,135] o) (Try.f25.body.getD .skip))=fun o=>some (ic25.at o):=by kernel_rfl
theorem fi25:FI.ok Try.prog 25 ⟨ic25,[12,43,57,104,129,15,87,92,135],137,[.t 10]⟩:=⟨_,_,Try.func25,rfl,by kernel_rfl,rfl,by kernel_rfl,rfl,at25⟩
theorem at26:(fun o=>cCode Try.prog (slotF [6,45] o) (Try.f26.body.getD .skip))=fun o=>some (ic26.at o):=by kernel_rfl
theorem fi26:FI.ok Try.prog 26 ⟨ic26,[6,45],47,[.t 10]⟩:=⟨_,_,Try.func26,rfl,by kernel_rfl,rfl,by kernel_rfl,rfl,at26⟩
theorem at27:(fun o=>cCode Try.prog (slotF [] o) (Try.f27.body.getD .skip))=fun o=>some (ic27.at o):=by kernel_rfl
theorem fi27:FI.ok Try.prog 27 ⟨ic27,[],15,[.t 6]⟩:=⟨_,_,Try.func27,rfl,by kernel_rfl,rfl,by kernel_rfl,rfl,at27⟩
theorem at28:(fun o=>cCode Try.prog (slotF [] o) (Try.f28.body.getD .skip))=fun o=>some (ic28.at o):=by kernel_rfl
theorem fi28:FI.ok Try.prog 28 ⟨ic28,[],8,[.t 2]⟩:=⟨_,_,Try.func28,rfl,by kernel_rfl,rfl,by kernel_rfl,rfl,at28⟩
theorem at29:(fun o=>cCode Try.prog (slotF [7] o) (Try.f29.body.getD .skip))=fun o=>some (ic29.at o):=by kernel_rfl
theorem fi29:FI.ok Try.prog 29 ⟨ic29,[7],42,[.t 4]⟩:=⟨_,_,Try.func29,rfl,by kernel_rfl,rfl,by kernel_rfl,rfl,at29⟩
theorem at30:(fun o=>cCode Try.prog (slotF [5] o) (Try.f30.body.getD .skip))=fun o=>some (ic30.at o):=by kernel_rfl
theorem fi30:FI.ok Try.prog 30 ⟨ic30,[5],24,[.t 2]⟩:=⟨_,_,Try.func30,rfl,by kernel_rfl,rfl,by kernel_rfl,rfl,at30⟩
theorem at31:(fun o=>cCode Try.prog (slotF [3] o) (Try.f31.body.getD .skip))=fun o=>some (ic31.at o):=by kernel_rfl
theorem fi31:FI.ok Try.prog 31 ⟨ic31,[3],15,[.t 4]⟩:=⟨_,_,Try.func31,rfl,by kernel_rfl,rfl,by kernel_rfl,rfl,at31⟩
theorem at32:(fun o=>cCode Try.prog (slotF [] o) (Try.f32.body.getD .skip))=fun o=>some (ic32.at o):=by kernel_rfl
theorem fi32:FI.ok Try.prog 32 ⟨ic32,[],5,[.t 2]⟩:=⟨_,_,Try.func32,rfl,by kernel_rfl,rfl,by kernel_rfl,rfl,at32⟩
theorem at33:(fun o=>cCode Try.prog (slotF [] o) (Try.f33.body.getD .skip))=fun o=>some (ic33.at o):=by kernel_rfl
theorem fi33:FI.ok Try.prog 33 ⟨ic33,[],9,[.t 2]⟩:=⟨_,_,Try.func33,rfl,by kernel_rfl,rfl,by kernel_rfl,rfl,at33⟩
theorem at34:(fun o=>cCode Try.prog (slotF [] o) (Try.f34.body.getD .skip))=fun o=>some (ic34.at o):=by kernel_rfl
theorem fi34:FI.ok Try.prog 34 ⟨ic34,[],11,[.t 4,.t 5]⟩:=⟨_,_,Try.func34,rfl,by kernel_rfl,rfl,by kernel_rfl,rfl,at34⟩
theorem at35:(fun o=>cCode Try.prog (slotF [] o) (Try.f35.body.getD .skip))=fun o=>some (ic35.at o):=by kernel_rfl
theorem fi35:FI.ok Try.prog 35 ⟨ic35,[],54,[.t 4,.t 5]⟩:=⟨_,_,Try.func35,rfl,by kernel_rfl,rfl,by kernel_rfl,rfl,at35⟩
theorem at36:(fun o=>cCode Try.prog (slotF [25,40] o) (Try.f36.body.getD .skip))=fun o=>some (ic36.at o):=by kernel_rfl
theorem fi36:FI.ok Try.prog 36 ⟨ic36,[25,40],95,[.t 6]⟩:=⟨_,_,Try.func36,rfl,by kernel_rfl,rfl,by kernel_rfl,rfl,at36⟩
theorem at37:(fun o=>cCode Try.prog (slotF [] o) (Try.f37.body.getD .skip))=fun o=>some (ic37.at o):=by kernel_rfl
theorem fi37:FI.ok Try.prog 37 ⟨ic37,[],32,[.t 2]⟩:=⟨_,_,Try.func37,rfl,by kernel_rfl,rfl,by kernel_rfl,rfl,at37⟩
theorem at38:(fun o=>cCode Try.prog (slotF [] o) (Try.f38.body.getD .skip))=fun o=>some (ic38.at o):=by kernel_rfl
theorem fi38:FI.ok Try.prog 38 ⟨ic38,[],27,[.t 2]⟩:=⟨_,_,Try.func38,rfl,by kernel_rfl,rfl,by kernel_rfl,rfl,at38⟩
theorem at39:(fun o=>cCode Try.prog (slotF [8,9] o) (Try.f39.body.getD .skip))=fun o=>some (ic39.at o):=by kernel_rfl
theorem fi39:FI.ok Try.prog 39 ⟨ic39,[8,9],32,[.t 6]⟩:=⟨_,_,Try.func39,rfl,by kernel_rfl,rfl,by kernel_rfl,rfl,at39⟩
theorem at40:(fun o=>cCode Try.prog (slotF [2,3] o) (Try.f40.body.getD .skip))=fun o=>some (ic40.at o):=by kernel_rfl
theorem fi40:FI.ok Try.prog 40 ⟨ic40,[2,3],31,[.t 4]⟩:=⟨_,_,Try.func40,rfl,by kernel_rfl,rfl,by kernel_rfl,rfl,at40⟩
theorem at41:(fun o=>cCode Try.prog (slotF [] o) (Try.f41.body.getD .skip))=fun o=>some (ic41.at o):=by kernel_rfl
theorem fi41:FI.ok Try.prog 41 ⟨ic41,[],26,[.t 4]⟩:=⟨_,_,Try.func41,rfl,by kernel_rfl,rfl,by kernel_rfl,rfl,at41⟩
theorem at42:(fun o=>cCode Try.prog (slotF [] o) (Try.f42.body.getD .skip))=fun o=>some (ic42.at o):=by kernel_rfl
theorem fi42:FI.ok Try.prog 42 ⟨ic42,[],22,[.t 4]⟩:=⟨_,_,Try.func42,rfl,by kernel_rfl,rfl,by kernel_rfl,rfl,at42⟩
theorem at43:(fun o=>cCode Try.prog (slotF [] o) (Try.f43.body.getD .skip))=fun o=>some (ic43.at o):=by kernel_rfl
theorem fi43:FI.ok Try.prog 43 ⟨ic43,[],19,[.t 2]⟩:=⟨_,_,Try.func43,rfl,by kernel_rfl,rfl,by kernel_rfl,rfl,at43⟩
theorem at44:(fun o=>cCode Try.prog (slotF [] o) (Try.f44.body.getD .skip))=fun o=>some (ic44.at o):=by kernel_rfl
theorem fi44:FI.ok Try.prog 44 ⟨ic44,[],25,[.t 2]⟩:=⟨_,_,Try.func44,rfl,by kernel_rfl,rfl,by kernel_rfl,rfl,at44⟩
theorem at45:(fun o=>cCode Try.prog (slotF [] o) (Try.f45.body.getD .skip))=fun o=>some (ic45.at o):=by kernel_rfl
theorem fi45:FI.ok Try.prog 45 ⟨ic45,[],19,[.t 4]⟩:=⟨_,_,Try.func45,rfl,by kernel_rfl,rfl,by kernel_rfl,rfl,at45⟩
theorem at46:(fun o=>cCode Try.prog (slotF [7] o) (Try.f46.body.getD .skip))=fun o=>some (ic46.at o):=by kernel_rfl
theorem fi46:FI.ok Try.prog 46 ⟨ic46,[7],8,[.t 2]⟩:=⟨_,_,Try.func46,rfl,by kernel_rfl,rfl,by kernel_rfl,rfl,at46⟩
theorem at47:(fun o=>cCode Try.prog (slotF [7] o) (Try.f47.body.getD .skip))=fun o=>some (ic47.at o):=by kernel_rfl
theorem fi47:FI.ok Try.prog 47 ⟨ic47,[7],8,[.t 2]⟩:=⟨_,_,Try.func47,rfl,by kernel_rfl,rfl,by kernel_rfl,rfl,at47⟩
theorem at48:(fun o=>cCode Try.prog (slotF [] o) (Try.f48.body.getD .skip))=fun o=>some (ic48.at o):=by kernel_rfl
theorem fi48:FI.ok Try.prog 48 ⟨ic48,[],49,[.t 6,.t 7]⟩:=⟨_,_,Try.func48,rfl,by kernel_rfl,rfl,by kernel_rfl,rfl,at48⟩
theorem at49:(fun o=>cCode Try.prog (slotF [2] o) (Try.f49.body.getD .skip))=fun o=>some (ic49.at o):=by kernel_rfl
theorem fi49:FI.ok Try.prog 49 ⟨ic49,[2],9,[.t 4]⟩:=⟨_,_,Try.func49,rfl,by kernel_rfl,rfl,by kernel_rfl,rfl,at49⟩
theorem at50:(fun o=>cCode Try.prog (slotF [] o) (Try.f50.body.getD .skip))=fun o=>some (ic50.at o):=by kernel_rfl
theorem fi50:FI.ok Try.prog 50 ⟨ic50,[],20,[.t 4]⟩:=⟨_,_,Try.func50,rfl,by kernel_rfl,rfl,by kernel_rfl,rfl,at50⟩
theorem at51:(fun o=>cCode Try.prog (slotF [] o) (Try.f51.body.getD .skip))=fun o=>some (ic51.at o):=by kernel_rfl
theorem fi51:FI.ok Try.prog 51 ⟨ic51,[],17,[.t 4]⟩:=⟨_,_,Try.func51,rfl,by kernel_rfl,rfl,by kernel_rfl,rfl,at51⟩
theorem at52:(fun o=>cCode Try.prog (slotF [] o) (Try.f52.body.getD .skip))=fun o=>some (ic52.at o):=by kernel_rfl
theorem fi52:FI.ok Try.prog 52 ⟨ic52,[],6,[.t 2]⟩:=⟨_,_,Try.func52,rfl,by kernel_rfl,rfl,by kernel_rfl,rfl,at52⟩
theorem at54:(fun o=>cCode Try.prog (slotF [] o) (Try.f54.body.getD .skip))=fun o=>some (ic54.at o):=by kernel_rfl
theorem fi54:FI.ok Try.prog 54 ⟨ic54,[],10,[]⟩:=⟨_,_,Try.func54,rfl,by kernel_rfl,rfl,by kernel_rfl,rfl,at54⟩
theorem at55:(fun o=>cCode Try.prog (slotF [] o) (Try.f55.body.getD .skip))=fun o=>some (ic55.at o):=by kernel_rfl
theorem fi55:FI.ok Try.prog 55 ⟨ic55,[],31,[.t 2]⟩:=⟨_,_,Try.func55,rfl,by kernel_rfl,rfl,by kernel_rfl,rfl,at55⟩
theorem at56:(fun o=>cCode Try.prog (slotF [] o) (Try.f56.body.getD .skip))=fun o=>some (ic56.at o):=by kernel_rfl
theorem fi56:FI.ok Try.prog 56 ⟨ic56,[],6,[.t 2]⟩:=⟨_,_,Try.func56,rfl,by kernel_rfl,rfl,by kernel_rfl,rfl,at56⟩
theorem at57:(fun o=>cCode Try.prog (slotF [] o) (Try.f57.body.getD .skip))=fun o=>some (ic57.at o):=by kernel_rfl
theorem fi57:FI.ok Try.prog 57 ⟨ic57,[],14,[]⟩:=⟨_,_,Try.func57,rfl,by kernel_rfl,rfl,by kernel_rfl,rfl,at57⟩
theorem at58:(fun o=>cCode Try.prog (slotF [] o) (Try.f58.body.getD .skip))=fun o=>some (ic58.at o):=by kernel_rfl
theorem fi58:FI.ok Try.prog 58 ⟨ic58,[],28,[]⟩:=⟨_,_,Try.func58,rfl,by kernel_rfl,rfl,by kernel_rfl,rfl,at58⟩
def tab:List (Nat×FI):=[(3,⟨ic3,[3],132,[.t 6]⟩),(4,⟨ic4,[19],163,[.t 2]⟩),(5,⟨ic5,[24],142,[.t 4]⟩),(6,⟨ic6,[2],130,[.t 4]⟩),(7,⟨ic7,[2],159,[.t 4]⟩),(8,⟨ic8,[1],289,[.t 2]⟩),(9,⟨ic9,[3],49,[.t 6,.t 7]⟩),(10,⟨ic10,[1],31,[.t 2]⟩),(11,⟨ic11,[1],93,[.t 0]⟩),(12,⟨ic12,[4,5],19,[.t 6,.t 7]⟩),(13,⟨ic13,[14,60,64],111,[.t 10,.t 11]⟩),(14,⟨ic14,[4],44,[.t 2]⟩),(15,⟨ic15,[],68,[.t 4]⟩),(16,⟨ic16,[],26,[.t 4]⟩),(17,⟨ic17,[1],19,[.t 2]⟩),(18,⟨ic18,[5,31],33,[.t 2]⟩),(19,⟨ic19,[4],60,[.t 2]⟩),(20,⟨ic20,[5,14,70,55],74,[.t 8,.t 9,.t 10]⟩),(21,⟨ic21,[3],45,[.t 6]⟩),(22,⟨ic22,[],8,[.t 4]⟩),(23,⟨ic23,[37],39,[.t 6]⟩),(24,⟨ic24,[],9,[.t 2]⟩),(25,⟨ic25,[12,43,57,104,129,15,87,92,135],137,[.t 10]⟩),(26,⟨ic26,[6,45],47,[.t 10]⟩),(27,⟨ic27,[],15,[.t 6]⟩),(28,⟨ic28,[],8,[.t 2]⟩),(29,⟨ic29,[7],42,[.t 4]⟩),(30,⟨ic30,[5],24,[.t 2]⟩),(31,⟨ic31,[3],15,[.t 4]⟩),(32,⟨ic32,[],5,[.t 2]⟩),(33,⟨ic33,[],9,[.t 2]⟩),(34,⟨ic34,[],11,[.t 4,.t 5]⟩),(35,⟨ic35,[],54,[.t 4,.t 5]⟩),(36,⟨ic36,[25,40],95,[.t 6]⟩),(37,⟨ic37,[],32,[.t 2]⟩),(38,⟨ic38,[],27,[.t 2]⟩),(39,⟨ic39,[8,9],32,[.t 6]⟩),(40,⟨ic40,[2,3],31,[.t 4]⟩),(41,⟨ic41,[],26,[.t 4]⟩),(42,⟨ic42,[],22,[.t 4]⟩),(43,⟨ic43,[],19,[.t 2]⟩),(44,⟨ic44,[],25,[.t 2]⟩),(45,⟨ic45,[],19,[.t 4]⟩),(46,⟨ic46,[7],8,[.t 2]⟩),(47,⟨ic47,[7],8,[.t 2]⟩),(48,⟨ic48,[],49,[.t 6,.t 7]⟩),(49,⟨ic49,[2],9,[.t 4]⟩),(50,⟨ic50,[],20,[.t 4]⟩),(51,⟨ic51,[],17,[.t 4]⟩),(52,⟨ic52,[],6,[.t 2]⟩),(54,⟨ic54,[],10,[]⟩),(55,⟨ic55,[],31,[.t 2]⟩),(56,⟨ic56,[],6,[.t 2]⟩),(57,⟨ic57,[],14,[]⟩),(58,⟨ic58,[],28,[]⟩)]
theorem tab_ok:TabOk Try.prog tab:=⟨fi3,fi4,fi5,fi6,fi7,fi8,fi9,fi10,fi11,fi12,fi13,fi14,fi15,fi16,fi17,fi18,fi19,fi20,fi21,fi22,fi23,fi24,fi25,fi26,fi27,fi28,fi29,fi30,fi31,fi32,fi33,fi34,fi35,fi36,fi37,fi38,fi39,fi40,fi41,fi42,fi43,fi44,fi45,fi46,fi47,fi48,fi49,fi50,fi51,fi52,fi54,fi55,fi56,fi57,fi58,trivial⟩
end Go.Proofs.Yticljphbbdnomaa.VL
