import Derived.Test.YtgbcankkfmhcoaaW2Ia
import Derived.Test.YtgbcankkfmhcoaaW2Vw
namespace Go.Proofs.Ytgbcankkfmhcoaa.VL
open Go
set_option maxRecDepth 100000
theorem at10:(fun o=>cCode Try.prog (slotF [1] o) (Try.f10.body.getD .skip))=fun o=>some (ic10.at o):=by kernel_rfl
theorem fi10:FI.ok Try.prog 10 ⟨ic10,[1],47,[.t 2,.t 3]⟩:=⟨_,_,Try.func10,rfl,by kernel_rfl,rfl,by kernel_rfl,rfl,at10⟩
theorem at11:(fun o=>cCode Try.prog (slotF [1] o) (Try.f11.body.getD .skip))=fun o=>some (ic11.at o):=by kernel_rfl
theorem fi11:FI.ok Try.prog 11 ⟨ic11,[1],57,[.t 2]⟩:=⟨_,_,Try.func11,rfl,by kernel_rfl,rfl,by kernel_rfl,rfl,at11⟩
theorem at13:(fun o=>cCode Try.prog (slotF [2,3] o) (Try.f13.body.getD .skip))=fun o=>some (ic13.at o):=by kernel_rfl
theorem fi13:FI.ok Try.prog 13 ⟨ic13,[2,3],101,[.t 4]⟩:=⟨_,_,Try.func13,rfl,by kernel_rfl,rfl,by kernel_rfl,rfl,at13⟩
theorem at17:(fun o=>cCode Try.prog (slotF [3,4] o) (Try.f17.body.getD .skip))=fun o=>some (ic17.at o):=by kernel_rfl
theorem fi17:FI.ok Try.prog 17 ⟨ic17,[3,4],64,[.t 0]⟩:=⟨_,_,Try.func17,rfl,by kernel_rfl,rfl,by kernel_rfl,rfl,at17⟩
theorem at18:(fun o=>cCode Try.prog (slotF [2,21,6] o) (Try.f18.body.getD .skip))=fun o=>some (ic18.at o):=by kernel_rfl
theorem fi18:FI.ok Try.prog 18 ⟨ic18,[2,21,6],66,[.c 2 28 true 15,.t 3]⟩:=⟨_,_,Try.func18,rfl,by kernel_rfl,rfl,by kernel_rfl,rfl,at18⟩
theorem at22:(fun o=>cCode Try.prog (slotF [21,26] o) (Try.f22.body.getD .skip))=fun o=>some (ic22.at o):=by kernel_rfl
theorem fi22:FI.ok Try.prog 22 ⟨ic22,[21,26],30,[.t 2]⟩:=⟨_,_,Try.func22,rfl,by kernel_rfl,rfl,by kernel_rfl,rfl,at22⟩
theorem at23:(fun o=>cCode Try.prog (slotF [2] o) (Try.f23.body.getD .skip))=fun o=>some (ic23.at o):=by kernel_rfl
theorem fi23:FI.ok Try.prog 23 ⟨ic23,[2],19,[.t 0]⟩:=⟨_,_,Try.func23,rfl,by kernel_rfl,rfl,by kernel_rfl,rfl,at23⟩
theorem at24:(fun o=>cCode Try.prog (slotF [3] o) (Try.f24.body.getD .skip))=fun o=>some (ic24.at o):=by kernel_rfl
theorem fi24:FI.ok Try.prog 24 ⟨ic24,[3],19,[.t 2]⟩:=⟨_,_,Try.func24,rfl,by kernel_rfl,rfl,by kernel_rfl,rfl,at24⟩
theorem at25:(fun o=>cCode Try.prog (slotF [] o) (Try.f25.body.getD .skip))=fun o=>some (ic25.at o):=by kernel_rfl
theorem fi25:FI.ok Try.prog 25 ⟨ic25,[],12,[.t 2,.t 3]⟩:=⟨_,_,Try.func25,rfl,by kernel_rfl,rfl,by kernel_rfl,rfl,at25⟩
theorem at26:(fun o=>cCode Try.prog (slotF [] o) (Try.f26.body.getD .skip))=fun o=>some (ic26.at o):=by kernel_rfl
theorem fi26:FI.ok Try.prog 26 ⟨ic26,[],9,[.t 2]⟩:=⟨_,_,Try.func26,rfl,by kernel_rfl,rfl,by kernel_rfl,rfl,at26⟩
theorem at27:(fun o=>cCode Try.prog (slotF [1,2,3] o) (Try.f27.body.getD .skip))=fun o=>some (ic27.at o):=by kernel_rfl
theorem fi27:FI.ok Try.prog 27 ⟨ic27,[1,2,3],79,[.c 2 28 true 15]⟩:=⟨_,_,Try.func27,rfl,by kernel_rfl,rfl,by kernel_rfl,rfl,at27⟩
theorem at32:(fun o=>cCode Try.prog (slotF [] o) (Try.f32.body.getD .skip))=fun o=>some (ic32.at o):=by kernel_rfl
theorem fi32:FI.ok Try.prog 32 ⟨ic32,[],26,[.t 4]⟩:=⟨_,_,Try.func32,rfl,by kernel_rfl,rfl,by kernel_rfl,rfl,at32⟩
theorem at33:(fun o=>cCode Try.prog (slotF [] o) (Try.f33.body.getD .skip))=fun o=>some (ic33.at o):=by kernel_rfl
theorem fi33:FI.ok Try.prog 33 ⟨ic33,[],26,[.t 4]⟩:=⟨_,_,Try.func33,rfl,by kernel_rfl,rfl,by kernel_rfl,rfl,at33⟩
theorem at36:(fun o=>cCode Try.prog (slotF [0] o) (Try.f36.body.getD .skip))=fun o=>some (ic36.at o):=by kernel_rfl
theorem fi36:FI.ok Try.prog 36 ⟨ic36,[0],2,[.c 0 28 true 15]⟩:=⟨_,_,Try.func36,rfl,by kernel_rfl,rfl,by kernel_rfl,rfl,at36⟩
theorem at37:(fun o=>cCode Try.prog (slotF [] o) (Try.f37.body.getD .skip))=fun o=>some (ic37.at o):=by kernel_rfl
theorem fi37:FI.ok Try.prog 37 ⟨ic37,[],21,[.t 2]⟩:=⟨_,_,Try.func37,rfl,by kernel_rfl,rfl,by kernel_rfl,rfl,at37⟩
theorem at38:(fun o=>cCode Try.prog (slotF [] o) (Try.f38.body.getD .skip))=fun o=>some (ic38.at o):=by kernel_rfl
theorem fi38:FI.ok Try.prog 38 ⟨ic38,[],27,[.t 2,.t 3]⟩:=⟨_,_,Try.func38,rfl,by kernel_rfl,rfl,by kernel_rfl,rfl,at38⟩
theorem at39:(fun o=>cCode Try.prog (slotF [] o) (Try.f39.body.getD .skip))=fun o=>some (ic39.at o):=by kernel_rfl
theorem fi39:FI.ok Try.prog 39 ⟨ic39,[],13,[.t 2]⟩:=⟨_,_,Try.func39,rfl,by kernel_rfl,rfl,by kernel_rfl,rfl,at39⟩
theorem at46:(fun o=>cCode Try.prog (slotF [1,2] o) (Try.f46.body.getD .skip))=fun o=>some (ic46.at o):=by kernel_rfl
theorem fi46:FI.ok Try.prog 46 ⟨ic46,[1,2],6,[.c 2 57 true 3]⟩:=⟨_,_,Try.func46,rfl,by kernel_rfl,rfl,by kernel_rfl,rfl,at46⟩
theorem at47:(fun o=>cCode Try.prog (slotF [1] o) (Try.f47.body.getD .skip))=fun o=>some (ic47.at o):=by kernel_rfl
theorem fi47:FI.ok Try.prog 47 ⟨ic47,[1],3,[.t 2]⟩:=⟨_,_,Try.func47,rfl,by kernel_rfl,rfl,by kernel_rfl,rfl,at47⟩
theorem at48:(fun o=>cCode Try.prog (slotF [2] o) (Try.f48.body.getD .skip))=fun o=>some (ic48.at o):=by kernel_rfl
theorem fi48:FI.ok Try.prog 48 ⟨ic48,[2],10,[.t 3]⟩:=⟨_,_,Try.func48,rfl,by kernel_rfl,rfl,by kernel_rfl,rfl,at48⟩
theorem at49:(fun o=>cCode Try.prog (slotF [] o) (Try.f49.body.getD .skip))=fun o=>some (ic49.at o):=by kernel_rfl
theorem fi49:FI.ok Try.prog 49 ⟨ic49,[],11,[]⟩:=⟨_,_,Try.func49,rfl,by kernel_rfl,rfl,by kernel_rfl,rfl,at49⟩
theorem at50:(fun o=>cCode Try.prog (slotF [] o) (Try.f50.body.getD .skip))=fun o=>some (ic50.at o):=by kernel_rfl
theorem fi50:FI.ok Try.prog 50 ⟨ic50,[],29,[.t 2]⟩:=⟨_,_,Try.func50,rfl,by kernel_rfl,rfl,by kernel_rfl,rfl,at50⟩
theorem at51:(fun o=>cCode Try.prog (slotF [] o) (Try.f51.body.getD .skip))=fun o=>some (ic51.at o):=by kernel_rfl
theorem fi51:FI.ok Try.prog 51 ⟨ic51,[],6,[.t 2]⟩:=⟨_,_,Try.func51,rfl,by kernel_rfl,rfl,by kernel_rfl,rfl,at51⟩
theorem at52:(fun o=>cCode Try.prog (slotF [] o) (Try.f52.body.getD .skip))=fun o=>some (ic52.at o):=by kernel_rfl
theorem fi52:FI.ok Try.prog 52 ⟨ic52,[],6,[.t 2]⟩:=⟨_,_,Try.func52,rfl,by kernel_rfl,rfl,by kernel_rfl,rfl,at52⟩
theorem at53:(fun o=>cCode Try.prog (slotF [] o) (Try.f53.body.getD .skip))=fun o=>some (ic53.at o):=by kernel_rfl
theorem fi53:FI.ok Try.prog 53 ⟨ic53,[],6,[.t 2]⟩:=⟨_,_,Try.func53,rfl,by kernel_rfl,rfl,by kernel_rfl,rfl,at53⟩
theorem at54:(fun o=>cCode Try.prog (slotF [] o) (Try.f54.body.getD .skip))=fun o=>some (ic54.at o):=by kernel_rfl
theorem fi54:FI.ok Try.prog 54 ⟨ic54,[],6,[.t 2]⟩:=⟨_,_,Try.func54,rfl,by kernel_rfl,rfl,by kernel_rfl,rfl,at54⟩
theorem at55:(fun o=>cCode Try.prog (slotF [1] o) (Try.f55.body.getD .skip))=fun o=>some (ic55.at o):=by kernel_rfl
theorem fi55:FI.ok Try.prog 55 ⟨ic55,[1],6,[.t 2]⟩:=⟨_,_,Try.func55,rfl,by kernel_rfl,rfl,by kernel_rfl,rfl,at55⟩
theorem at56:(fun o=>cCode Try.prog (slotF [1] o) (Try.f56.body.getD .skip))=fun o=>some (ic56.at o):=by kernel_rfl
theorem fi56:FI.ok Try.prog 56 ⟨ic56,[1],8,[.t 2]⟩:=⟨_,_,Try.func56,rfl,by kernel_rfl,rfl,by kernel_rfl,rfl,at56⟩
theorem at57:(fun o=>cCode Try.prog (slotF [] o) (Try.f57.body.getD .skip))=fun o=>some (ic57.at o):=by kernel_rfl
theorem fi57:FI.ok Try.prog 57 ⟨ic57,[],9,[]⟩:=⟨_,_,Try.func57,rfl,by kernel_rfl,rfl,by kernel_rfl,rfl,at57⟩
theorem at58:(fun o=>cCode Try.prog (slotF [1] o) (Try.f58.body.getD .skip))=fun o=>some (ic58.at o):=by kernel_rfl
theorem fi58:FI.ok Try.prog 58 ⟨ic58,[1],8,[.t 2]⟩:=⟨_,_,Try.func58,rfl,by kernel_rfl,rfl,by kernel_rfl,rfl,at58⟩
theorem at59:(fun o=>cCode Try.prog (slotF [4] o) (Try.f59.body.getD .skip))=fun o=>some (ic59.at o):=by kernel_rfl
theorem fi59:FI.ok Try.prog 59 ⟨ic59,[4],20,[.t 2]⟩:=⟨_,_,Try.func59,rfl,by kernel_rfl,rfl,by kernel_rfl,rfl,at59⟩
theorem at60:(fun o=>cCode Try.prog (slotF [1] o) (Try.f60.body.getD .skip))=fun o=>some (ic60.at o):=by kernel_rfl
theorem fi60:FI.ok Try.prog 60 ⟨ic60,[1],6,[.t 2]⟩:=⟨_,_,Try.func60,rfl,by kernel_rfl,rfl,by kernel_rfl,rfl,at60⟩
theorem at61:(fun o=>cCode Try.prog (slotF [1] o) (Try.f61.body.getD .skip))=fun o=>some (ic61.at o):=by kernel_rfl
theorem fi61:FI.ok Try.prog 61 ⟨ic61,[1],10,[.t 2]⟩:=⟨_,_,Try.func61,rfl,by kernel_rfl,rfl,by kernel_rfl,rfl,at61⟩
theorem at62:(fun o=>cCode Try.prog (slotF [] o) (Try.f62.body.getD .skip))=fun o=>some (ic62.at o):=by kernel_rfl
theorem fi62:FI.ok Try.prog 62 ⟨ic62,[],9,[]⟩:=⟨_,_,Try.func62,rfl,by kernel_rfl,rfl,by kernel_rfl,rfl,at62⟩
theorem at63:(fun o=>cCode Try.prog (slotF [2] o) (Try.f63.body.getD .skip))=fun o=>some (ic63.at o):=by kernel_rfl
theorem fi63:FI.ok Try.prog 63 ⟨ic63,[2],10,[.c 2 24 true 2]⟩:=⟨_,_,Try.func63,rfl,by kernel_rfl,rfl,by kernel_rfl,rfl,at63⟩
theorem at64:(fun o=>cCode Try.prog (slotF [1] o) (Try.f64.body.getD .skip))=fun o=>some (ic64.at o):=by kernel_rfl
theorem fi64:FI.ok Try.prog 64 ⟨ic64,[1],13,[.t 2]⟩:=⟨_,_,Try.func64,rfl,by kernel_rfl,rfl,by kernel_rfl,rfl,at64⟩
theorem at65:(fun o=>cCode Try.prog (slotF [1,5] o) (Try.f65.body.getD .skip))=fun o=>some (ic65.at o):=by kernel_rfl
theorem fi65:FI.ok Try.prog 65 ⟨ic65,[1,5],32,[.t 2]⟩:=⟨_,_,Try.func65,rfl,by kernel_rfl,rfl,by kernel_rfl,rfl,at65⟩
theorem at66:(fun o=>cCode Try.prog (slotF [21] o) (Try.f66.body.getD .skip))=fun o=>some (ic66.at o):=by kernel_rfl
theorem fi66:FI.ok Try.prog 66 ⟨ic66,[21],25,[]⟩:=⟨_,_,Try.func66,rfl,by kernel_rfl,rfl,by kernel_rfl,rfl,at66⟩
theorem at67:(fun o=>cCode Try.prog (slotF [1] o) (Try.f67.body.getD .skip))=fun o=>some (ic67.at o):=by kernel_rfl
theorem fi67:FI.ok Try.prog 67 ⟨ic67,[1],7,[.t 2]⟩:=⟨_,_,Try.func67,rfl,by kernel_rfl,rfl,by kernel_rfl,rfl,at67⟩
theorem at68:(fun o=>cCode Try.prog (slotF [] o) (Try.f68.body.getD .skip))=fun o=>some (ic68.at o):=by kernel_rfl
theorem fi68:FI.ok Try.prog 68 ⟨ic68,[],13,[.t 2]⟩:=⟨_,_,Try.func68,rfl,by kernel_rfl,rfl,by kernel_rfl,rfl,at68⟩
theorem at69:(fun o=>cCode Try.prog (slotF [1,5] o) (Try.f69.body.getD .skip))=fun o=>some (ic69.at o):=by kernel_rfl
theorem fi69:FI.ok Try.prog 69 ⟨ic69,[1,5],25,[.t 2]⟩:=⟨_,_,Try.func69,rfl,by kernel_rfl,rfl,by kernel_rfl,rfl,at69⟩
theorem at70:(fun o=>cCode Try.prog (slotF [16] o) (Try.f70.body.getD .skip))=fun o=>some (ic70.at o):=by kernel_rfl
theorem fi70:FI.ok Try.prog 70 ⟨ic70,[16],20,[]⟩:=⟨_,_,Try.func70,rfl,by kernel_rfl,rfl,by kernel_rfl,rfl,at70⟩
theorem at71:(fun o=>cCode Try.prog (slotF [] o) (Try.f71.body.getD .skip))=fun o=>some (ic71.at o):=by kernel_rfl
theorem fi71:FI.ok Try.prog 71 ⟨ic71,[],15,[.t 4]⟩:=⟨_,_,Try.func71,rfl,by kernel_rfl,rfl,by kernel_rfl,rfl,at71⟩
theorem at72:(fun o=>cCode Try.prog (slotF [1] o) (Try.f72.body.getD .skip))=fun o=>some (ic72.at o):=by kernel_rfl
theorem fi72:FI.ok Try.prog 72 ⟨ic72,[1],11,[.t 2]⟩:=⟨_,_,Try.func72,rfl,by kernel_rfl,rfl,by kernel_rfl,rfl,at72⟩
theorem at73:(fun o=>cCode Try.prog (slotF [1] o) (Try.f73.body.getD .skip))=fun o=>some (ic73.at o):=by kernel_rfl
theorem fi73:FI.ok Try.prog 73 ⟨ic73,[1],8,[.t 2]⟩:=⟨_,_,Try.func73,rfl,by kernel_rfl,rfl,by kernel_rfl,rfl,at73⟩
theorem at74:(fun o=>cCode Try.prog (slotF [] o) (Try.f74.body.getD .skip))=fun o=>some (ic74.at o):=by kernel_rfl
theorem fi74:FI.ok Try.prog 74 ⟨ic74,[],10,[]⟩:=⟨_,_,Try.func74,rfl,by kernel_rfl,rfl,by kernel_rfl,rfl,at74⟩
theorem at75:(fun o=>cCode Try.prog (slotF [1] o) (Try.f75.body.getD .skip))=fun o=>some (ic75.at o):=by kernel_rfl
theorem fi75:FI.ok Try.prog 75 ⟨ic75,[1],6,[.t 2]⟩:=⟨_,_,Try.func75,rfl,by kernel_rfl,rfl,by kernel_rfl,rfl,at75⟩
theorem at76:(fun o=>cCode Try.prog (slotF [1] o) (Try.f76.body.getD .skip))=fun o=>some (ic76.at o):=by kernel_rfl
theorem fi76:FI.ok Try.prog 76 ⟨ic76,[1],14,[.t 2]⟩:=⟨_,_,Try.func76,rfl,by kernel_rfl,rfl,by kernel_rfl,rfl,at76⟩
theorem at77:(fun o=>cCode Try.prog (slotF [] o) (Try.f77.body.getD .skip))=fun o=>some (ic77.at o):=by kernel_rfl
theorem fi77:FI.ok Try.prog 77 ⟨ic77,[],33,[]⟩:=⟨_,_,Try.func77,rfl,by kernel_rfl,rfl,by kernel_rfl,rfl,at77⟩
theorem at78:(fun o=>cCode Try.prog (slotF [1] o) (Try.f78.body.getD .skip))=fun o=>some (ic78.at o):=by kernel_rfl
theorem fi78:FI.ok Try.prog 78 ⟨ic78,[1],8,[.t 2]⟩:=⟨_,_,Try.func78,rfl,by kernel_rfl,rfl,by kernel_rfl,rfl,at78⟩
theorem at79:(fun o=>cCode Try.prog (slotF [] o) (Try.f79.body.getD .skip))=fun o=>some (ic79.at o):=by kernel_rfl
theorem fi79:FI.ok Try.prog 79 ⟨ic79,[],4,[.t 2]⟩:=⟨_,_,Try.func79,rfl,by kernel_rfl,rfl,by kernel_rfl,rfl,at79⟩
theorem at80:(fun o=>cCode Try.prog (slotF [] o) (Try.f80.body.getD .skip))=fun o=>some (ic80.at o):=by kernel_rfl
theorem fi80:FI.ok Try.prog 80 ⟨ic80,[],10,[]⟩:=⟨_,_,Try.func80,rfl,by kernel_rfl,rfl,by kernel_rfl,rfl,at80⟩
theorem at81:(fun o=>cCode Try.prog (slotF [] o) (Try.f81.body.getD .skip))=fun o=>some (ic81.at o):=by kernel_rfl
theorem fi81:FI.ok Try.prog 81 ⟨ic81,[],16,[.t 2]⟩:=⟨_,_,Try.func81,rfl,by kernel_rfl,rfl,by kernel_rfl,rfl,at81⟩
theorem at83:(fun o=>cCode Try.prog (slotF [] o) (Try.f83.body.getD .skip))=fun o=>some (ic83.at o):=by kernel_rfl
theorem fi83:FI.ok Try.prog 83 ⟨ic83,[],33,[.t 2]⟩:=⟨_,_,Try.func83,rfl,by kernel_rfl,rfl,by kernel_rfl,rfl,at83⟩
theorem at85:(fun o=>cCode Try.prog (slotF [] o) (Try.f85.body.getD .skip))=fun o=>some (ic85.at o):=by kernel_rfl
theorem fi85:FI.ok Try.prog 85 ⟨ic85,[],60,[.t 4,.t 5,.t 6]⟩:=⟨_,_,Try.func85,rfl,by kernel_rfl,rfl,by kernel_rfl,rfl,at85⟩
theorem at86:(fun o=>cCode Try.prog (slotF [] o) (Try.f86.body.getD .skip))=fun o=>some (ic86.at o):=by kernel_rfl
theorem fi86:FI.ok Try.prog 86 ⟨ic86,[],9,[.t 4]⟩:=⟨_,_,Try.func86,rfl,by kernel_rfl,rfl,by kernel_rfl,rfl,at86⟩
theorem at87:(fun o=>cCode Try.prog (slotF [1] o) (Try.f87.body.getD .skip))=fun o=>some (ic87.at o):=by kernel_rfl
theorem fi87:FI.ok Try.prog 87 ⟨ic87,[1],14,[.t 2]⟩:=⟨_,_,Try.func87,rfl,by kernel_rfl,rfl,by kernel_rfl,rfl,at87⟩
theorem at88:(fun o=>cCode Try.prog (slotF [] o) (Try.f88.body.getD .skip))=fun o=>some (ic88.at o):=by kernel_rfl
theorem fi88:FI.ok Try.prog 88 ⟨ic88,[],14,[.t 2,.t 3]⟩:=⟨_,_,Try.func88,rfl,by kernel_rfl,rfl,by kernel_rfl,rfl,at88⟩
theorem at89:(fun o=>cCode Try.prog (slotF [] o) (Try.f89.body.getD .skip))=fun o=>some (ic89.at o):=by kernel_rfl
theorem fi89:FI.ok Try.prog 89 ⟨ic89,[],41,[.t 4,.t 5,.t 6]⟩:=⟨_,_,Try.func89,rfl,by kernel_rfl,rfl,by kernel_rfl,rfl,at89⟩
theorem at91:(fun o=>cCode Try.prog (slotF [] o) (Try.f91.body.getD .skip))=fun o=>some (ic91.at o):=by kernel_rfl
theorem fi91:FI.ok Try.prog 91 ⟨ic91,[],19,[.t 4]⟩:=⟨_,_,Try.func91,rfl,by kernel_rfl,rfl,by kernel_rfl,rfl,at91⟩
def tab:List (Nat×FI):=[(10,⟨ic10,[1],47,[.t 2,.t 3]⟩),(11,⟨ic11,[1],57,[.t 2]⟩),(13,⟨ic13,[2,3],101,[.t 4]⟩),(17,⟨ic17,[3,4],64,[.t 0]⟩),(18,⟨ic18,[2,21,6],66,[.c 2 28 true 15,.t 3]⟩),(22,⟨ic22,[21,26],30,[.t 2]⟩),(23,⟨ic23,[2],19,[.t 0]⟩),(24,⟨ic24,[3],19,[.t 2]⟩),(25,⟨ic25,[],12,[.t 2,.t 3]⟩),(26,⟨ic26,[],9,[.t 2]⟩),(27,⟨ic27,[1,2,3],79,[.c 2 28 true 15]⟩),(32,⟨ic32,[],26,[.t 4]⟩),(33,⟨ic33,[],26,[.t 4]⟩),(36,⟨ic36,[0],2,[.c 0 28 true 15]⟩),(37,⟨ic37,[],21,[.t 2]⟩),(38,⟨ic38,[],27,[.t 2,.t 3]⟩),(39,⟨ic39,[],13,[.t 2]⟩),(46,⟨ic46,[1,2],6,[.c 2 57 true 3]⟩),(47,⟨ic47,[1],3,[.t 2]⟩),(48,⟨ic48,[2],10,[.t 3]⟩),(49,⟨ic49,[],11,[]⟩),(50,⟨ic50,[],29,[.t 2]⟩),(51,⟨ic51,[],6,[.t 2]⟩),(52,⟨ic52,[],6,[.t 2]⟩),(53,⟨ic53,[],6,[.t 2]⟩),(54,⟨ic54,[],6,[.t 2]⟩),(55,⟨ic55,[1],6,[.t 2]⟩),(56,⟨ic56,[1],8,[.t 2]⟩),(57,⟨ic57,[],9,[]⟩),(58,⟨ic58,[1],8,[.t 2]⟩),(59,⟨ic59,[4],20,[.t 2]⟩),(60,⟨ic60,[1],6,[.t 2]⟩),(61,⟨ic61,[1],10,[.t 2]⟩),(62,⟨ic62,[],9,[]⟩),(63,⟨ic63,[2],10,[.c 2 24 true 2]⟩),(64,⟨ic64,[1],13,[.t 2]⟩),(65,⟨ic65,[1,5],32,[.t 2]⟩),(66,⟨ic66,[21],25,[]⟩),(67,⟨ic67,[1],7,[.t 2]⟩),(68,⟨ic68,[],13,[.t 2]⟩),(69,⟨ic69,[1,5],25,[.t 2]⟩),(70,⟨ic70,[16],20,[]⟩),(71,⟨ic71,[],15,[.t 4]⟩),(72,⟨ic72,[1],11,[.t 2]⟩),(73,⟨ic73,[1],8,[.t 2]⟩),(74,⟨ic74,[],10,[]⟩),(75,⟨ic75,[1],6,[.t 2]⟩),(76,⟨ic76,[1],14,[.t 2]⟩),(77,⟨ic77,[],33,[]⟩),(78,⟨ic78,[1],8,[.t 2]⟩),(79,⟨ic79,[],4,[.t 2]⟩),(80,⟨ic80,[],10,[]⟩),(81,⟨ic81,[],16,[.t 2]⟩),(83,⟨ic83,[],33,[.t 2]⟩),(85,⟨ic85,[],60,[.t 4,.t 5,.t 6]⟩),(86,⟨ic86,[],9,[.t 4]⟩),(87,⟨ic87,[1],14,[.t 2]⟩),(88,⟨ic88,[],14,[.t 2,.t 3]⟩),(89,⟨ic89,[],41,[.t 4,.t 5,.t 6]⟩),(91,⟨ic91,[],19,[.t 4]⟩)]
theorem tab_ok:TabOk Try.prog tab:=⟨fi10,fi11,fi13,fi17,fi18,fi22,fi23,fi24,fi25,fi26,fi27,fi32,fi33,fi36,fi37,fi38,fi39,fi46,fi47,fi48,fi49,fi50,fi51,fi52,fi53,fi54,fi55,fi56,fi57,fi58,fi59,fi60,fi61,fi62,fi63,fi64,fi65,fi66,fi67,fi68,fi69,fi70,fi71,fi72,fi73,fi74,fi75,fi76,fi77,fi78,fi79,fi80,fi81,fi83,fi85,fi86,fi87,fi88,fi89,fi91,trivial⟩
end Go.Proofs.Ytgbcankkfmhcoaa.VL
