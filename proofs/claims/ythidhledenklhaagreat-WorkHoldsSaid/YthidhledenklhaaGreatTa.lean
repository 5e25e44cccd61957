/- The functions made ready: a table (tab.py). -/
import Derived.Test.YthidhledenklhaaGreatIa
import Derived.Test.YthidhledenklhaaGreatVw
namespace Go.Proofs.YthidhledenklhaaGreat.VL
open Go
set_option maxRecDepth 100000
theorem at3 : (fun o => cCode Tryz.prog (slotF [2, 5, 6, 7, 9, 11, 12, 14, 16, 18] o) (Tryz.f3.body.getD .skip)) = fun o => some (ic3.at o) := by kernel_rfl
theorem fi3 : FI.ok Tryz.prog 3 ⟨ic3, [2, 5, 6, 7, 9, 11, 12, 14, 16, 18], 138, [.t 4]⟩ := ⟨_, _, Tryz.func3, rfl, by kernel_rfl, rfl, by kernel_rfl, rfl, at3⟩
theorem at4 : (fun o => cCode Tryz.prog (slotF [3, 7, 8, 9, 11, 13] o) (Tryz.f4.body.getD .skip)) = fun o => some (ic4.at o) := by kernel_rfl
theorem fi4 : FI.ok Tryz.prog 4 ⟨ic4, [3, 7, 8, 9, 11, 13], 99, [.t 6]⟩ := ⟨_, _, Tryz.func4, rfl, by kernel_rfl, rfl, by kernel_rfl, rfl, at4⟩
theorem at5 : (fun o => cCode Tryz.prog (slotF [2, 6, 32, 33, 11, 12, 13, 16, 18, 25] o) (Tryz.f5.body.getD .skip)) = fun o => some (ic5.at o) := by kernel_rfl
theorem fi5 : FI.ok Tryz.prog 5 ⟨ic5, [2, 6, 32, 33, 11, 12, 13, 16, 18, 25], 206, [.t 4]⟩ := ⟨_, _, Tryz.func5, rfl, by kernel_rfl, rfl, by kernel_rfl, rfl, at5⟩
theorem at6 : (fun o => cCode Tryz.prog (slotF [1, 3, 10, 11, 13, 15, 17, 19] o) (Tryz.f6.body.getD .skip)) = fun o => some (ic6.at o) := by kernel_rfl
theorem fi6 : FI.ok Tryz.prog 6 ⟨ic6, [1, 3, 10, 11, 13, 15, 17, 19], 155, [.t 2]⟩ := ⟨_, _, Tryz.func6, rfl, by kernel_rfl, rfl, by kernel_rfl, rfl, at6⟩
theorem at7 : (fun o => cCode Tryz.prog (slotF [1, 3, 4, 5, 7, 11, 14] o) (Tryz.f7.body.getD .skip)) = fun o => some (ic7.at o) := by kernel_rfl
theorem fi7 : FI.ok Tryz.prog 7 ⟨ic7, [1, 3, 4, 5, 7, 11, 14], 160, [.t 2]⟩ := ⟨_, _, Tryz.func7, rfl, by kernel_rfl, rfl, by kernel_rfl, rfl, at7⟩
theorem at8 : (fun o => cCode Tryz.prog (slotF [1, 2] o) (Tryz.f8.body.getD .skip)) = fun o => some (ic8.at o) := by kernel_rfl
theorem fi8 : FI.ok Tryz.prog 8 ⟨ic8, [1, 2], 20, [.c 2 28 true 3]⟩ := ⟨_, _, Tryz.func8, rfl, by kernel_rfl, rfl, by kernel_rfl, rfl, at8⟩
theorem at9 : (fun o => cCode Tryz.prog (slotF [1, 2] o) (Tryz.f9.body.getD .skip)) = fun o => some (ic9.at o) := by kernel_rfl
theorem fi9 : FI.ok Tryz.prog 9 ⟨ic9, [1, 2], 28, [.c 2 34 true 15]⟩ := ⟨_, _, Tryz.func9, rfl, by kernel_rfl, rfl, by kernel_rfl, rfl, at9⟩
theorem at10 : (fun o => cCode Tryz.prog (slotF [4, 5, 7, 8, 12] o) (Tryz.f10.body.getD .skip)) = fun o => some (ic10.at o) := by kernel_rfl
theorem fi10 : FI.ok Tryz.prog 10 ⟨ic10, [4, 5, 7, 8, 12], 167, [.c 8 28 true 3, .t 9]⟩ := ⟨_, _, Tryz.func10, rfl, by kernel_rfl, rfl, by kernel_rfl, rfl, at10⟩
theorem at11 : (fun o => cCode Tryz.prog (slotF [2, 3] o) (Tryz.f11.body.getD .skip)) = fun o => some (ic11.at o) := by kernel_rfl
theorem fi11 : FI.ok Tryz.prog 11 ⟨ic11, [2, 3], 66, [.t 4]⟩ := ⟨_, _, Tryz.func11, rfl, by kernel_rfl, rfl, by kernel_rfl, rfl, at11⟩
theorem at12 : (fun o => cCode Tryz.prog (slotF [1, 3, 6, 8] o) (Tryz.f12.body.getD .skip)) = fun o => some (ic12.at o) := by kernel_rfl
theorem fi12 : FI.ok Tryz.prog 12 ⟨ic12, [1, 3, 6, 8], 69, [.t 0]⟩ := ⟨_, _, Tryz.func12, rfl, by kernel_rfl, rfl, by kernel_rfl, rfl, at12⟩
theorem at13 : (fun o => cCode Tryz.prog (slotF [1] o) (Tryz.f13.body.getD .skip)) = fun o => some (ic13.at o) := by kernel_rfl
theorem fi13 : FI.ok Tryz.prog 13 ⟨ic13, [1], 44, [.t 2]⟩ := ⟨_, _, Tryz.func13, rfl, by kernel_rfl, rfl, by kernel_rfl, rfl, at13⟩
theorem at14 : (fun o => cCode Tryz.prog (slotF [2] o) (Tryz.f14.body.getD .skip)) = fun o => some (ic14.at o) := by kernel_rfl
theorem fi14 : FI.ok Tryz.prog 14 ⟨ic14, [2], 5, [.c 2 28 true 3]⟩ := ⟨_, _, Tryz.func14, rfl, by kernel_rfl, rfl, by kernel_rfl, rfl, at14⟩
theorem at15 : (fun o => cCode Tryz.prog (slotF [4, 8] o) (Tryz.f15.body.getD .skip)) = fun o => some (ic15.at o) := by kernel_rfl
theorem fi15 : FI.ok Tryz.prog 15 ⟨ic15, [4, 8], 63, [.c 8 28 true 3, .t 9, .t 10]⟩ := ⟨_, _, Tryz.func15, rfl, by kernel_rfl, rfl, by kernel_rfl, rfl, at15⟩
theorem at16 : (fun o => cCode Tryz.prog (slotF [2, 3, 4] o) (Tryz.f16.body.getD .skip)) = fun o => some (ic16.at o) := by kernel_rfl
theorem fi16 : FI.ok Tryz.prog 16 ⟨ic16, [2, 3, 4], 18, [.c 4 28 true 3, .t 5]⟩ := ⟨_, _, Tryz.func16, rfl, by kernel_rfl, rfl, by kernel_rfl, rfl, at16⟩
theorem at17 : (fun o => cCode Tryz.prog (slotF [1, 4] o) (Tryz.f17.body.getD .skip)) = fun o => some (ic17.at o) := by kernel_rfl
theorem fi17 : FI.ok Tryz.prog 17 ⟨ic17, [1, 4], 63, [.t 2]⟩ := ⟨_, _, Tryz.func17, rfl, by kernel_rfl, rfl, by kernel_rfl, rfl, at17⟩
theorem at18 : (fun o => cCode Tryz.prog (slotF [2] o) (Tryz.f18.body.getD .skip)) = fun o => some (ic18.at o) := by kernel_rfl
theorem fi18 : FI.ok Tryz.prog 18 ⟨ic18, [2], 35, [.t 4, .t 5, .t 6]⟩ := ⟨_, _, Tryz.func18, rfl, by kernel_rfl, rfl, by kernel_rfl, rfl, at18⟩
theorem at19 : (fun o => cCode Tryz.prog (slotF [2] o) (Tryz.f19.body.getD .skip)) = fun o => some (ic19.at o) := by kernel_rfl
theorem fi19 : FI.ok Tryz.prog 19 ⟨ic19, [2], 17, [.t 4]⟩ := ⟨_, _, Tryz.func19, rfl, by kernel_rfl, rfl, by kernel_rfl, rfl, at19⟩
theorem at20 : (fun o => cCode Tryz.prog (slotF [4, 5, 7, 8, 175, 182, 193] o) (Tryz.f20.body.getD .skip)) = fun o => some (ic20.at o) := by kernel_rfl
theorem fi20 : FI.ok Tryz.prog 20 ⟨ic20, [4, 5, 7, 8, 175, 182, 193], 206, [.c 8 28 true 3, .t 9]⟩ := ⟨_, _, Tryz.func20, rfl, by kernel_rfl, rfl, by kernel_rfl, rfl, at20⟩
theorem at21 : (fun o => cCode Tryz.prog (slotF [1, 27, 43, 8] o) (Tryz.f21.body.getD .skip)) = fun o => some (ic21.at o) := by kernel_rfl
theorem fi21 : FI.ok Tryz.prog 21 ⟨ic21, [1, 27, 43, 8], 108, [.t 2]⟩ := ⟨_, _, Tryz.func21, rfl, by kernel_rfl, rfl, by kernel_rfl, rfl, at21⟩
theorem at22 : (fun o => cCode Tryz.prog (slotF [2, 3] o) (Tryz.f22.body.getD .skip)) = fun o => some (ic22.at o) := by kernel_rfl
theorem fi22 : FI.ok Tryz.prog 22 ⟨ic22, [2, 3], 24, [.t 4]⟩ := ⟨_, _, Tryz.func22, rfl, by kernel_rfl, rfl, by kernel_rfl, rfl, at22⟩
theorem at23 : (fun o => cCode Tryz.prog (slotF [4, 8, 12] o) (Tryz.f23.body.getD .skip)) = fun o => some (ic23.at o) := by kernel_rfl
theorem fi23 : FI.ok Tryz.prog 23 ⟨ic23, [4, 8, 12], 62, [.c 8 28 true 3, .t 9, .t 10]⟩ := ⟨_, _, Tryz.func23, rfl, by kernel_rfl, rfl, by kernel_rfl, rfl, at23⟩
theorem at24 : (fun o => cCode Tryz.prog (slotF [] o) (Tryz.f24.body.getD .skip)) = fun o => some (ic24.at o) := by kernel_rfl
theorem fi24 : FI.ok Tryz.prog 24 ⟨ic24, [], 9, [.t 2]⟩ := ⟨_, _, Tryz.func24, rfl, by kernel_rfl, rfl, by kernel_rfl, rfl, at24⟩
theorem at25 : (fun o => cCode Tryz.prog (slotF [2, 4, 29] o) (Tryz.f25.body.getD .skip)) = fun o => some (ic25.at o) := by kernel_rfl
theorem fi25 : FI.ok Tryz.prog 25 ⟨ic25, [2, 4, 29], 36, [.c 4 28 true 3]⟩ := ⟨_, _, Tryz.func25, rfl, by kernel_rfl, rfl, by kernel_rfl, rfl, at25⟩
theorem at26 : (fun o => cCode Tryz.prog (slotF [] o) (Tryz.f26.body.getD .skip)) = fun o => some (ic26.at o) := by kernel_rfl
theorem fi26 : FI.ok Tryz.prog 26 ⟨ic26, [], 27, [.t 4]⟩ := ⟨_, _, Tryz.func26, rfl, by kernel_rfl, rfl, by kernel_rfl, rfl, at26⟩
theorem at27 : (fun o => cCode Tryz.prog (slotF [1] o) (Tryz.f27.body.getD .skip)) = fun o => some (ic27.at o) := by kernel_rfl
theorem fi27 : FI.ok Tryz.prog 27 ⟨ic27, [1], 33, [.t 2, .t 3]⟩ := ⟨_, _, Tryz.func27, rfl, by kernel_rfl, rfl, by kernel_rfl, rfl, at27⟩
theorem at28 : (fun o => cCode Tryz.prog (slotF [2] o) (Tryz.f28.body.getD .skip)) = fun o => some (ic28.at o) := by kernel_rfl
theorem fi28 : FI.ok Tryz.prog 28 ⟨ic28, [2], 16, [.t 4]⟩ := ⟨_, _, Tryz.func28, rfl, by kernel_rfl, rfl, by kernel_rfl, rfl, at28⟩
theorem at29 : (fun o => cCode Tryz.prog (slotF [1] o) (Tryz.f29.body.getD .skip)) = fun o => some (ic29.at o) := by kernel_rfl
theorem fi29 : FI.ok Tryz.prog 29 ⟨ic29, [1], 57, [.t 2]⟩ := ⟨_, _, Tryz.func29, rfl, by kernel_rfl, rfl, by kernel_rfl, rfl, at29⟩
theorem at30 : (fun o => cCode Tryz.prog (slotF [1, 2] o) (Tryz.f30.body.getD .skip)) = fun o => some (ic30.at o) := by kernel_rfl
theorem fi30 : FI.ok Tryz.prog 30 ⟨ic30, [1, 2], 6, [.c 2 86 true 2]⟩ := ⟨_, _, Tryz.func30, rfl, by kernel_rfl, rfl, by kernel_rfl, rfl, at30⟩
theorem at31 : (fun o => cCode Tryz.prog (slotF [2] o) (Tryz.f31.body.getD .skip)) = fun o => some (ic31.at o) := by kernel_rfl
theorem fi31 : FI.ok Tryz.prog 31 ⟨ic31, [2], 13, [.t 4, .t 5]⟩ := ⟨_, _, Tryz.func31, rfl, by kernel_rfl, rfl, by kernel_rfl, rfl, at31⟩
theorem at32 : (fun o => cCode Tryz.prog (slotF [1, 2] o) (Tryz.f32.body.getD .skip)) = fun o => some (ic32.at o) := by kernel_rfl
theorem fi32 : FI.ok Tryz.prog 32 ⟨ic32, [1, 2], 6, [.c 2 91 true 2]⟩ := ⟨_, _, Tryz.func32, rfl, by kernel_rfl, rfl, by kernel_rfl, rfl, at32⟩
theorem at33 : (fun o => cCode Tryz.prog (slotF [2] o) (Tryz.f33.body.getD .skip)) = fun o => some (ic33.at o) := by kernel_rfl
theorem fi33 : FI.ok Tryz.prog 33 ⟨ic33, [2], 13, [.t 4, .t 5]⟩ := ⟨_, _, Tryz.func33, rfl, by kernel_rfl, rfl, by kernel_rfl, rfl, at33⟩
theorem at34 : (fun o => cCode Tryz.prog (slotF [2, 3] o) (Tryz.f34.body.getD .skip)) = fun o => some (ic34.at o) := by kernel_rfl
theorem fi34 : FI.ok Tryz.prog 34 ⟨ic34, [2, 3], 31, [.t 4]⟩ := ⟨_, _, Tryz.func34, rfl, by kernel_rfl, rfl, by kernel_rfl, rfl, at34⟩
theorem at35 : (fun o => cCode Tryz.prog (slotF [2, 3] o) (Tryz.f35.body.getD .skip)) = fun o => some (ic35.at o) := by kernel_rfl
theorem fi35 : FI.ok Tryz.prog 35 ⟨ic35, [2, 3], 31, [.t 4]⟩ := ⟨_, _, Tryz.func35, rfl, by kernel_rfl, rfl, by kernel_rfl, rfl, at35⟩
theorem at36 : (fun o => cCode Tryz.prog (slotF [0] o) (Tryz.f36.body.getD .skip)) = fun o => some (ic36.at o) := by kernel_rfl
theorem fi36 : FI.ok Tryz.prog 36 ⟨ic36, [0], 2, [.c 0 23 true 3]⟩ := ⟨_, _, Tryz.func36, rfl, by kernel_rfl, rfl, by kernel_rfl, rfl, at36⟩
theorem at37 : (fun o => cCode Tryz.prog (slotF [0] o) (Tryz.f37.body.getD .skip)) = fun o => some (ic37.at o) := by kernel_rfl
theorem fi37 : FI.ok Tryz.prog 37 ⟨ic37, [0], 2, [.c 0 34 true 15]⟩ := ⟨_, _, Tryz.func37, rfl, by kernel_rfl, rfl, by kernel_rfl, rfl, at37⟩
theorem at38 : (fun o => cCode Tryz.prog (slotF [] o) (Tryz.f38.body.getD .skip)) = fun o => some (ic38.at o) := by kernel_rfl
theorem fi38 : FI.ok Tryz.prog 38 ⟨ic38, [], 19, [.t 4]⟩ := ⟨_, _, Tryz.func38, rfl, by kernel_rfl, rfl, by kernel_rfl, rfl, at38⟩
theorem at39 : (fun o => cCode Tryz.prog (slotF [] o) (Tryz.f39.body.getD .skip)) = fun o => some (ic39.at o) := by kernel_rfl
theorem fi39 : FI.ok Tryz.prog 39 ⟨ic39, [], 24, [.t 8]⟩ := ⟨_, _, Tryz.func39, rfl, by kernel_rfl, rfl, by kernel_rfl, rfl, at39⟩
theorem at40 : (fun o => cCode Tryz.prog (slotF [26] o) (Tryz.f40.body.getD .skip)) = fun o => some (ic40.at o) := by kernel_rfl
theorem fi40 : FI.ok Tryz.prog 40 ⟨ic40, [26], 33, [.t 6]⟩ := ⟨_, _, Tryz.func40, rfl, by kernel_rfl, rfl, by kernel_rfl, rfl, at40⟩
theorem at41 : (fun o => cCode Tryz.prog (slotF [7] o) (Tryz.f41.body.getD .skip)) = fun o => some (ic41.at o) := by kernel_rfl
theorem fi41 : FI.ok Tryz.prog 41 ⟨ic41, [7], 8, [.t 2]⟩ := ⟨_, _, Tryz.func41, rfl, by kernel_rfl, rfl, by kernel_rfl, rfl, at41⟩
theorem at42 : (fun o => cCode Tryz.prog (slotF [7] o) (Tryz.f42.body.getD .skip)) = fun o => some (ic42.at o) := by kernel_rfl
theorem fi42 : FI.ok Tryz.prog 42 ⟨ic42, [7], 42, [.t 4]⟩ := ⟨_, _, Tryz.func42, rfl, by kernel_rfl, rfl, by kernel_rfl, rfl, at42⟩
theorem at43 : (fun o => cCode Tryz.prog (slotF [2] o) (Tryz.f43.body.getD .skip)) = fun o => some (ic43.at o) := by kernel_rfl
theorem fi43 : FI.ok Tryz.prog 43 ⟨ic43, [2], 8, [.t 3]⟩ := ⟨_, _, Tryz.func43, rfl, by kernel_rfl, rfl, by kernel_rfl, rfl, at43⟩
theorem at44 : (fun o => cCode Tryz.prog (slotF [] o) (Tryz.f44.body.getD .skip)) = fun o => some (ic44.at o) := by kernel_rfl
theorem fi44 : FI.ok Tryz.prog 44 ⟨ic44, [], 32, [.t 2]⟩ := ⟨_, _, Tryz.func44, rfl, by kernel_rfl, rfl, by kernel_rfl, rfl, at44⟩
theorem at45 : (fun o => cCode Tryz.prog (slotF [1, 5, 19] o) (Tryz.f45.body.getD .skip)) = fun o => some (ic45.at o) := by kernel_rfl
theorem fi45 : FI.ok Tryz.prog 45 ⟨ic45, [1, 5, 19], 22, [.t 2]⟩ := ⟨_, _, Tryz.func45, rfl, by kernel_rfl, rfl, by kernel_rfl, rfl, at45⟩
theorem at46 : (fun o => cCode Tryz.prog (slotF [1, 5, 19] o) (Tryz.f46.body.getD .skip)) = fun o => some (ic46.at o) := by kernel_rfl
theorem fi46 : FI.ok Tryz.prog 46 ⟨ic46, [1, 5, 19], 22, [.t 2]⟩ := ⟨_, _, Tryz.func46, rfl, by kernel_rfl, rfl, by kernel_rfl, rfl, at46⟩
theorem at47 : (fun o => cCode Tryz.prog (slotF [] o) (Tryz.f47.body.getD .skip)) = fun o => some (ic47.at o) := by kernel_rfl
theorem fi47 : FI.ok Tryz.prog 47 ⟨ic47, [], 9, [.t 4]⟩ := ⟨_, _, Tryz.func47, rfl, by kernel_rfl, rfl, by kernel_rfl, rfl, at47⟩
theorem at48 : (fun o => cCode Tryz.prog (slotF [1] o) (Tryz.f48.body.getD .skip)) = fun o => some (ic48.at o) := by kernel_rfl
theorem fi48 : FI.ok Tryz.prog 48 ⟨ic48, [1], 10, [.t 2]⟩ := ⟨_, _, Tryz.func48, rfl, by kernel_rfl, rfl, by kernel_rfl, rfl, at48⟩
theorem at49 : (fun o => cCode Tryz.prog (slotF [1] o) (Tryz.f49.body.getD .skip)) = fun o => some (ic49.at o) := by kernel_rfl
theorem fi49 : FI.ok Tryz.prog 49 ⟨ic49, [1], 113, [.t 2]⟩ := ⟨_, _, Tryz.func49, rfl, by kernel_rfl, rfl, by kernel_rfl, rfl, at49⟩
theorem at50 : (fun o => cCode Tryz.prog (slotF [26] o) (Tryz.f50.body.getD .skip)) = fun o => some (ic50.at o) := by kernel_rfl
theorem fi50 : FI.ok Tryz.prog 50 ⟨ic50, [26], 28, [.t 4]⟩ := ⟨_, _, Tryz.func50, rfl, by kernel_rfl, rfl, by kernel_rfl, rfl, at50⟩
theorem at51 : (fun o => cCode Tryz.prog (slotF [3, 29, 44, 50] o) (Tryz.f51.body.getD .skip)) = fun o => some (ic51.at o) := by kernel_rfl
theorem fi51 : FI.ok Tryz.prog 51 ⟨ic51, [3, 29, 44, 50], 52, [.t 4]⟩ := ⟨_, _, Tryz.func51, rfl, by kernel_rfl, rfl, by kernel_rfl, rfl, at51⟩
theorem at52 : (fun o => cCode Tryz.prog (slotF [] o) (Tryz.f52.body.getD .skip)) = fun o => some (ic52.at o) := by kernel_rfl
theorem fi52 : FI.ok Tryz.prog 52 ⟨ic52, [], 35, [.t 2]⟩ := ⟨_, _, Tryz.func52, rfl, by kernel_rfl, rfl, by kernel_rfl, rfl, at52⟩
theorem at53 : (fun o => cCode Tryz.prog (slotF [] o) (Tryz.f53.body.getD .skip)) = fun o => some (ic53.at o) := by kernel_rfl
theorem fi53 : FI.ok Tryz.prog 53 ⟨ic53, [], 26, [.t 4]⟩ := ⟨_, _, Tryz.func53, rfl, by kernel_rfl, rfl, by kernel_rfl, rfl, at53⟩
theorem at54 : (fun o => cCode Tryz.prog (slotF [] o) (Tryz.f54.body.getD .skip)) = fun o => some (ic54.at o) := by kernel_rfl
theorem fi54 : FI.ok Tryz.prog 54 ⟨ic54, [], 26, [.t 4]⟩ := ⟨_, _, Tryz.func54, rfl, by kernel_rfl, rfl, by kernel_rfl, rfl, at54⟩
theorem at55 : (fun o => cCode Tryz.prog (slotF [3, 4, 5] o) (Tryz.f55.body.getD .skip)) = fun o => some (ic55.at o) := by kernel_rfl
theorem fi55 : FI.ok Tryz.prog 55 ⟨ic55, [3, 4, 5], 26, [.t 6, .t 7]⟩ := ⟨_, _, Tryz.func55, rfl, by kernel_rfl, rfl, by kernel_rfl, rfl, at55⟩
theorem at56 : (fun o => cCode Tryz.prog (slotF [] o) (Tryz.f56.body.getD .skip)) = fun o => some (ic56.at o) := by kernel_rfl
theorem fi56 : FI.ok Tryz.prog 56 ⟨ic56, [], 9, [.t 2]⟩ := ⟨_, _, Tryz.func56, rfl, by kernel_rfl, rfl, by kernel_rfl, rfl, at56⟩
theorem at57 : (fun o => cCode Tryz.prog (slotF [2, 3] o) (Tryz.f57.body.getD .skip)) = fun o => some (ic57.at o) := by kernel_rfl
theorem fi57 : FI.ok Tryz.prog 57 ⟨ic57, [2, 3], 101, [.t 4]⟩ := ⟨_, _, Tryz.func57, rfl, by kernel_rfl, rfl, by kernel_rfl, rfl, at57⟩
theorem at58 : (fun o => cCode Tryz.prog (slotF [1, 2, 3] o) (Tryz.f58.body.getD .skip)) = fun o => some (ic58.at o) := by kernel_rfl
theorem fi58 : FI.ok Tryz.prog 58 ⟨ic58, [1, 2, 3], 79, [.c 2 34 true 15]⟩ := ⟨_, _, Tryz.func58, rfl, by kernel_rfl, rfl, by kernel_rfl, rfl, at58⟩
theorem at59 : (fun o => cCode Tryz.prog (slotF [2] o) (Tryz.f59.body.getD .skip)) = fun o => some (ic59.at o) := by kernel_rfl
theorem fi59 : FI.ok Tryz.prog 59 ⟨ic59, [2], 19, [.t 0]⟩ := ⟨_, _, Tryz.func59, rfl, by kernel_rfl, rfl, by kernel_rfl, rfl, at59⟩
theorem at60 : (fun o => cCode Tryz.prog (slotF [3] o) (Tryz.f60.body.getD .skip)) = fun o => some (ic60.at o) := by kernel_rfl
theorem fi60 : FI.ok Tryz.prog 60 ⟨ic60, [3], 19, [.t 2]⟩ := ⟨_, _, Tryz.func60, rfl, by kernel_rfl, rfl, by kernel_rfl, rfl, at60⟩
theorem at61 : (fun o => cCode Tryz.prog (slotF [1] o) (Tryz.f61.body.getD .skip)) = fun o => some (ic61.at o) := by kernel_rfl
theorem fi61 : FI.ok Tryz.prog 61 ⟨ic61, [1], 5, [.t 2]⟩ := ⟨_, _, Tryz.func61, rfl, by kernel_rfl, rfl, by kernel_rfl, rfl, at61⟩
theorem at62 : (fun o => cCode Tryz.prog (slotF [] o) (Tryz.f62.body.getD .skip)) = fun o => some (ic62.at o) := by kernel_rfl
theorem fi62 : FI.ok Tryz.prog 62 ⟨ic62, [], 49, [.t 6, .t 7]⟩ := ⟨_, _, Tryz.func62, rfl, by kernel_rfl, rfl, by kernel_rfl, rfl, at62⟩
theorem at63 : (fun o => cCode Tryz.prog (slotF [3] o) (Tryz.f63.body.getD .skip)) = fun o => some (ic63.at o) := by kernel_rfl
theorem fi63 : FI.ok Tryz.prog 63 ⟨ic63, [3], 12, [.t 5]⟩ := ⟨_, _, Tryz.func63, rfl, by kernel_rfl, rfl, by kernel_rfl, rfl, at63⟩
theorem at64 : (fun o => cCode Tryz.prog (slotF [] o) (Tryz.f64.body.getD .skip)) = fun o => some (ic64.at o) := by kernel_rfl
theorem fi64 : FI.ok Tryz.prog 64 ⟨ic64, [], 20, [.t 4]⟩ := ⟨_, _, Tryz.func64, rfl, by kernel_rfl, rfl, by kernel_rfl, rfl, at64⟩
theorem at65 : (fun o => cCode Tryz.prog (slotF [1] o) (Tryz.f65.body.getD .skip)) = fun o => some (ic65.at o) := by kernel_rfl
theorem fi65 : FI.ok Tryz.prog 65 ⟨ic65, [1], 5, [.t 2]⟩ := ⟨_, _, Tryz.func65, rfl, by kernel_rfl, rfl, by kernel_rfl, rfl, at65⟩
theorem at66 : (fun o => cCode Tryz.prog (slotF [] o) (Tryz.f66.body.getD .skip)) = fun o => some (ic66.at o) := by kernel_rfl
theorem fi66 : FI.ok Tryz.prog 66 ⟨ic66, [], 49, [.t 6, .t 7]⟩ := ⟨_, _, Tryz.func66, rfl, by kernel_rfl, rfl, by kernel_rfl, rfl, at66⟩
theorem at67 : (fun o => cCode Tryz.prog (slotF [3] o) (Tryz.f67.body.getD .skip)) = fun o => some (ic67.at o) := by kernel_rfl
theorem fi67 : FI.ok Tryz.prog 67 ⟨ic67, [3], 12, [.t 5]⟩ := ⟨_, _, Tryz.func67, rfl, by kernel_rfl, rfl, by kernel_rfl, rfl, at67⟩
theorem at68 : (fun o => cCode Tryz.prog (slotF [25, 40] o) (Tryz.f68.body.getD .skip)) = fun o => some (ic68.at o) := by kernel_rfl
theorem fi68 : FI.ok Tryz.prog 68 ⟨ic68, [25, 40], 95, [.t 6]⟩ := ⟨_, _, Tryz.func68, rfl, by kernel_rfl, rfl, by kernel_rfl, rfl, at68⟩
theorem at69 : (fun o => cCode Tryz.prog (slotF [7] o) (Tryz.f69.body.getD .skip)) = fun o => some (ic69.at o) := by kernel_rfl
theorem fi69 : FI.ok Tryz.prog 69 ⟨ic69, [7], 8, [.t 2]⟩ := ⟨_, _, Tryz.func69, rfl, by kernel_rfl, rfl, by kernel_rfl, rfl, at69⟩
theorem at70 : (fun o => cCode Tryz.prog (slotF [25, 40] o) (Tryz.f70.body.getD .skip)) = fun o => some (ic70.at o) := by kernel_rfl
theorem fi70 : FI.ok Tryz.prog 70 ⟨ic70, [25, 40], 95, [.t 6]⟩ := ⟨_, _, Tryz.func70, rfl, by kernel_rfl, rfl, by kernel_rfl, rfl, at70⟩
theorem at71 : (fun o => cCode Tryz.prog (slotF [] o) (Tryz.f71.body.getD .skip)) = fun o => some (ic71.at o) := by kernel_rfl
theorem fi71 : FI.ok Tryz.prog 71 ⟨ic71, [], 19, [.t 4]⟩ := ⟨_, _, Tryz.func71, rfl, by kernel_rfl, rfl, by kernel_rfl, rfl, at71⟩
theorem at72 : (fun o => cCode Tryz.prog (slotF [6] o) (Tryz.f72.body.getD .skip)) = fun o => some (ic72.at o) := by kernel_rfl
theorem fi72 : FI.ok Tryz.prog 72 ⟨ic72, [6], 36, [.t 2]⟩ := ⟨_, _, Tryz.func72, rfl, by kernel_rfl, rfl, by kernel_rfl, rfl, at72⟩
theorem at73 : (fun o => cCode Tryz.prog (slotF [] o) (Tryz.f73.body.getD .skip)) = fun o => some (ic73.at o) := by kernel_rfl
theorem fi73 : FI.ok Tryz.prog 73 ⟨ic73, [], 19, [.t 4]⟩ := ⟨_, _, Tryz.func73, rfl, by kernel_rfl, rfl, by kernel_rfl, rfl, at73⟩
theorem at74 : (fun o => cCode Tryz.prog (slotF [] o) (Tryz.f74.body.getD .skip)) = fun o => some (ic74.at o) := by kernel_rfl
theorem fi74 : FI.ok Tryz.prog 74 ⟨ic74, [], 9, [.t 2]⟩ := ⟨_, _, Tryz.func74, rfl, by kernel_rfl, rfl, by kernel_rfl, rfl, at74⟩
theorem at75 : (fun o => cCode Tryz.prog (slotF [2, 3] o) (Tryz.f75.body.getD .skip)) = fun o => some (ic75.at o) := by kernel_rfl
theorem fi75 : FI.ok Tryz.prog 75 ⟨ic75, [2, 3], 101, [.t 4]⟩ := ⟨_, _, Tryz.func75, rfl, by kernel_rfl, rfl, by kernel_rfl, rfl, at75⟩
theorem at76 : (fun o => cCode Tryz.prog (slotF [1, 2, 3] o) (Tryz.f76.body.getD .skip)) = fun o => some (ic76.at o) := by kernel_rfl
theorem fi76 : FI.ok Tryz.prog 76 ⟨ic76, [1, 2, 3], 116, [.c 2 34 true 15]⟩ := ⟨_, _, Tryz.func76, rfl, by kernel_rfl, rfl, by kernel_rfl, rfl, at76⟩
theorem at77 : (fun o => cCode Tryz.prog (slotF [1] o) (Tryz.f77.body.getD .skip)) = fun o => some (ic77.at o) := by kernel_rfl
theorem fi77 : FI.ok Tryz.prog 77 ⟨ic77, [1], 11, [.t 2]⟩ := ⟨_, _, Tryz.func77, rfl, by kernel_rfl, rfl, by kernel_rfl, rfl, at77⟩
theorem at78 : (fun o => cCode Tryz.prog (slotF [] o) (Tryz.f78.body.getD .skip)) = fun o => some (ic78.at o) := by kernel_rfl
theorem fi78 : FI.ok Tryz.prog 78 ⟨ic78, [], 24, [.t 2]⟩ := ⟨_, _, Tryz.func78, rfl, by kernel_rfl, rfl, by kernel_rfl, rfl, at78⟩
theorem at79 : (fun o => cCode Tryz.prog (slotF [] o) (Tryz.f79.body.getD .skip)) = fun o => some (ic79.at o) := by kernel_rfl
theorem fi79 : FI.ok Tryz.prog 79 ⟨ic79, [], 41, [.t 2]⟩ := ⟨_, _, Tryz.func79, rfl, by kernel_rfl, rfl, by kernel_rfl, rfl, at79⟩
theorem at80 : (fun o => cCode Tryz.prog (slotF [] o) (Tryz.f80.body.getD .skip)) = fun o => some (ic80.at o) := by kernel_rfl
theorem fi80 : FI.ok Tryz.prog 80 ⟨ic80, [], 19, [.t 4]⟩ := ⟨_, _, Tryz.func80, rfl, by kernel_rfl, rfl, by kernel_rfl, rfl, at80⟩
theorem at81 : (fun o => cCode Tryz.prog (slotF [] o) (Tryz.f81.body.getD .skip)) = fun o => some (ic81.at o) := by kernel_rfl
theorem fi81 : FI.ok Tryz.prog 81 ⟨ic81, [], 26, [.t 4]⟩ := ⟨_, _, Tryz.func81, rfl, by kernel_rfl, rfl, by kernel_rfl, rfl, at81⟩
theorem at82 : (fun o => cCode Tryz.prog (slotF [] o) (Tryz.f82.body.getD .skip)) = fun o => some (ic82.at o) := by kernel_rfl
theorem fi82 : FI.ok Tryz.prog 82 ⟨ic82, [], 15, [.t 5]⟩ := ⟨_, _, Tryz.func82, rfl, by kernel_rfl, rfl, by kernel_rfl, rfl, at82⟩
theorem at83 : (fun o => cCode Tryz.prog (slotF [] o) (Tryz.f83.body.getD .skip)) = fun o => some (ic83.at o) := by kernel_rfl
theorem fi83 : FI.ok Tryz.prog 83 ⟨ic83, [], 26, [.t 4]⟩ := ⟨_, _, Tryz.func83, rfl, by kernel_rfl, rfl, by kernel_rfl, rfl, at83⟩
theorem at84 : (fun o => cCode Tryz.prog (slotF [] o) (Tryz.f84.body.getD .skip)) = fun o => some (ic84.at o) := by kernel_rfl
theorem fi84 : FI.ok Tryz.prog 84 ⟨ic84, [], 26, [.t 4]⟩ := ⟨_, _, Tryz.func84, rfl, by kernel_rfl, rfl, by kernel_rfl, rfl, at84⟩
theorem at85 : (fun o => cCode Tryz.prog (slotF [1, 2] o) (Tryz.f85.body.getD .skip)) = fun o => some (ic85.at o) := by kernel_rfl
theorem fi85 : FI.ok Tryz.prog 85 ⟨ic85, [1, 2], 6, [.c 2 122 true 3]⟩ := ⟨_, _, Tryz.func85, rfl, by kernel_rfl, rfl, by kernel_rfl, rfl, at85⟩
theorem at86 : (fun o => cCode Tryz.prog (slotF [1] o) (Tryz.f86.body.getD .skip)) = fun o => some (ic86.at o) := by kernel_rfl
theorem fi86 : FI.ok Tryz.prog 86 ⟨ic86, [1], 3, [.t 2]⟩ := ⟨_, _, Tryz.func86, rfl, by kernel_rfl, rfl, by kernel_rfl, rfl, at86⟩
theorem at87 : (fun o => cCode Tryz.prog (slotF [2] o) (Tryz.f87.body.getD .skip)) = fun o => some (ic87.at o) := by kernel_rfl
theorem fi87 : FI.ok Tryz.prog 87 ⟨ic87, [2], 10, [.t 3]⟩ := ⟨_, _, Tryz.func87, rfl, by kernel_rfl, rfl, by kernel_rfl, rfl, at87⟩
theorem at88 : (fun o => cCode Tryz.prog (slotF [21, 26] o) (Tryz.f88.body.getD .skip)) = fun o => some (ic88.at o) := by kernel_rfl
theorem fi88 : FI.ok Tryz.prog 88 ⟨ic88, [21, 26], 30, [.t 2]⟩ := ⟨_, _, Tryz.func88, rfl, by kernel_rfl, rfl, by kernel_rfl, rfl, at88⟩
theorem at89 : (fun o => cCode Tryz.prog (slotF [] o) (Tryz.f89.body.getD .skip)) = fun o => some (ic89.at o) := by kernel_rfl
theorem fi89 : FI.ok Tryz.prog 89 ⟨ic89, [], 11, []⟩ := ⟨_, _, Tryz.func89, rfl, by kernel_rfl, rfl, by kernel_rfl, rfl, at89⟩
theorem at90 : (fun o => cCode Tryz.prog (slotF [] o) (Tryz.f90.body.getD .skip)) = fun o => some (ic90.at o) := by kernel_rfl
theorem fi90 : FI.ok Tryz.prog 90 ⟨ic90, [], 29, [.t 2]⟩ := ⟨_, _, Tryz.func90, rfl, by kernel_rfl, rfl, by kernel_rfl, rfl, at90⟩
theorem at91 : (fun o => cCode Tryz.prog (slotF [] o) (Tryz.f91.body.getD .skip)) = fun o => some (ic91.at o) := by kernel_rfl
theorem fi91 : FI.ok Tryz.prog 91 ⟨ic91, [], 6, [.t 2]⟩ := ⟨_, _, Tryz.func91, rfl, by kernel_rfl, rfl, by kernel_rfl, rfl, at91⟩
theorem at92 : (fun o => cCode Tryz.prog (slotF [] o) (Tryz.f92.body.getD .skip)) = fun o => some (ic92.at o) := by kernel_rfl
theorem fi92 : FI.ok Tryz.prog 92 ⟨ic92, [], 6, [.t 2]⟩ := ⟨_, _, Tryz.func92, rfl, by kernel_rfl, rfl, by kernel_rfl, rfl, at92⟩
theorem at93 : (fun o => cCode Tryz.prog (slotF [] o) (Tryz.f93.body.getD .skip)) = fun o => some (ic93.at o) := by kernel_rfl
theorem fi93 : FI.ok Tryz.prog 93 ⟨ic93, [], 6, [.t 2]⟩ := ⟨_, _, Tryz.func93, rfl, by kernel_rfl, rfl, by kernel_rfl, rfl, at93⟩
theorem at94 : (fun o => cCode Tryz.prog (slotF [] o) (Tryz.f94.body.getD .skip)) = fun o => some (ic94.at o) := by kernel_rfl
theorem fi94 : FI.ok Tryz.prog 94 ⟨ic94, [], 6, [.t 2]⟩ := ⟨_, _, Tryz.func94, rfl, by kernel_rfl, rfl, by kernel_rfl, rfl, at94⟩
theorem at95 : (fun o => cCode Tryz.prog (slotF [1] o) (Tryz.f95.body.getD .skip)) = fun o => some (ic95.at o) := by kernel_rfl
theorem fi95 : FI.ok Tryz.prog 95 ⟨ic95, [1], 6, [.t 2]⟩ := ⟨_, _, Tryz.func95, rfl, by kernel_rfl, rfl, by kernel_rfl, rfl, at95⟩
theorem at96 : (fun o => cCode Tryz.prog (slotF [1] o) (Tryz.f96.body.getD .skip)) = fun o => some (ic96.at o) := by kernel_rfl
theorem fi96 : FI.ok Tryz.prog 96 ⟨ic96, [1], 8, [.t 2]⟩ := ⟨_, _, Tryz.func96, rfl, by kernel_rfl, rfl, by kernel_rfl, rfl, at96⟩
theorem at97 : (fun o => cCode Tryz.prog (slotF [] o) (Tryz.f97.body.getD .skip)) = fun o => some (ic97.at o) := by kernel_rfl
theorem fi97 : FI.ok Tryz.prog 97 ⟨ic97, [], 9, []⟩ := ⟨_, _, Tryz.func97, rfl, by kernel_rfl, rfl, by kernel_rfl, rfl, at97⟩
theorem at98 : (fun o => cCode Tryz.prog (slotF [] o) (Tryz.f98.body.getD .skip)) = fun o => some (ic98.at o) := by kernel_rfl
theorem fi98 : FI.ok Tryz.prog 98 ⟨ic98, [], 13, [.t 2]⟩ := ⟨_, _, Tryz.func98, rfl, by kernel_rfl, rfl, by kernel_rfl, rfl, at98⟩
theorem at99 : (fun o => cCode Tryz.prog (slotF [1] o) (Tryz.f99.body.getD .skip)) = fun o => some (ic99.at o) := by kernel_rfl
theorem fi99 : FI.ok Tryz.prog 99 ⟨ic99, [1], 8, [.t 2]⟩ := ⟨_, _, Tryz.func99, rfl, by kernel_rfl, rfl, by kernel_rfl, rfl, at99⟩
theorem at100 : (fun o => cCode Tryz.prog (slotF [4] o) (Tryz.f100.body.getD .skip)) = fun o => some (ic100.at o) := by kernel_rfl
theorem fi100 : FI.ok Tryz.prog 100 ⟨ic100, [4], 20, [.t 2]⟩ := ⟨_, _, Tryz.func100, rfl, by kernel_rfl, rfl, by kernel_rfl, rfl, at100⟩
theorem at101 : (fun o => cCode Tryz.prog (slotF [1] o) (Tryz.f101.body.getD .skip)) = fun o => some (ic101.at o) := by kernel_rfl
theorem fi101 : FI.ok Tryz.prog 101 ⟨ic101, [1], 6, [.t 2]⟩ := ⟨_, _, Tryz.func101, rfl, by kernel_rfl, rfl, by kernel_rfl, rfl, at101⟩
theorem at102 : (fun o => cCode Tryz.prog (slotF [1] o) (Tryz.f102.body.getD .skip)) = fun o => some (ic102.at o) := by kernel_rfl
theorem fi102 : FI.ok Tryz.prog 102 ⟨ic102, [1], 10, [.t 2]⟩ := ⟨_, _, Tryz.func102, rfl, by kernel_rfl, rfl, by kernel_rfl, rfl, at102⟩
theorem at103 : (fun o => cCode Tryz.prog (slotF [] o) (Tryz.f103.body.getD .skip)) = fun o => some (ic103.at o) := by kernel_rfl
theorem fi103 : FI.ok Tryz.prog 103 ⟨ic103, [], 9, []⟩ := ⟨_, _, Tryz.func103, rfl, by kernel_rfl, rfl, by kernel_rfl, rfl, at103⟩
theorem at104 : (fun o => cCode Tryz.prog (slotF [2] o) (Tryz.f104.body.getD .skip)) = fun o => some (ic104.at o) := by kernel_rfl
theorem fi104 : FI.ok Tryz.prog 104 ⟨ic104, [2], 10, [.c 2 30 true 2]⟩ := ⟨_, _, Tryz.func104, rfl, by kernel_rfl, rfl, by kernel_rfl, rfl, at104⟩
theorem at105 : (fun o => cCode Tryz.prog (slotF [1] o) (Tryz.f105.body.getD .skip)) = fun o => some (ic105.at o) := by kernel_rfl
theorem fi105 : FI.ok Tryz.prog 105 ⟨ic105, [1], 13, [.t 2]⟩ := ⟨_, _, Tryz.func105, rfl, by kernel_rfl, rfl, by kernel_rfl, rfl, at105⟩
theorem at106 : (fun o => cCode Tryz.prog (slotF [1, 5] o) (Tryz.f106.body.getD .skip)) = fun o => some (ic106.at o) := by kernel_rfl
theorem fi106 : FI.ok Tryz.prog 106 ⟨ic106, [1, 5], 32, [.t 2]⟩ := ⟨_, _, Tryz.func106, rfl, by kernel_rfl, rfl, by kernel_rfl, rfl, at106⟩
theorem at107 : (fun o => cCode Tryz.prog (slotF [21] o) (Tryz.f107.body.getD .skip)) = fun o => some (ic107.at o) := by kernel_rfl
theorem fi107 : FI.ok Tryz.prog 107 ⟨ic107, [21], 25, []⟩ := ⟨_, _, Tryz.func107, rfl, by kernel_rfl, rfl, by kernel_rfl, rfl, at107⟩
theorem at108 : (fun o => cCode Tryz.prog (slotF [1] o) (Tryz.f108.body.getD .skip)) = fun o => some (ic108.at o) := by kernel_rfl
theorem fi108 : FI.ok Tryz.prog 108 ⟨ic108, [1], 7, [.t 2]⟩ := ⟨_, _, Tryz.func108, rfl, by kernel_rfl, rfl, by kernel_rfl, rfl, at108⟩
theorem at109 : (fun o => cCode Tryz.prog (slotF [] o) (Tryz.f109.body.getD .skip)) = fun o => some (ic109.at o) := by kernel_rfl
theorem fi109 : FI.ok Tryz.prog 109 ⟨ic109, [], 13, [.t 2]⟩ := ⟨_, _, Tryz.func109, rfl, by kernel_rfl, rfl, by kernel_rfl, rfl, at109⟩
theorem at110 : (fun o => cCode Tryz.prog (slotF [1, 5] o) (Tryz.f110.body.getD .skip)) = fun o => some (ic110.at o) := by kernel_rfl
theorem fi110 : FI.ok Tryz.prog 110 ⟨ic110, [1, 5], 25, [.t 2]⟩ := ⟨_, _, Tryz.func110, rfl, by kernel_rfl, rfl, by kernel_rfl, rfl, at110⟩
theorem at111 : (fun o => cCode Tryz.prog (slotF [16] o) (Tryz.f111.body.getD .skip)) = fun o => some (ic111.at o) := by kernel_rfl
theorem fi111 : FI.ok Tryz.prog 111 ⟨ic111, [16], 20, []⟩ := ⟨_, _, Tryz.func111, rfl, by kernel_rfl, rfl, by kernel_rfl, rfl, at111⟩
theorem at112 : (fun o => cCode Tryz.prog (slotF [] o) (Tryz.f112.body.getD .skip)) = fun o => some (ic112.at o) := by kernel_rfl
theorem fi112 : FI.ok Tryz.prog 112 ⟨ic112, [], 15, [.t 4]⟩ := ⟨_, _, Tryz.func112, rfl, by kernel_rfl, rfl, by kernel_rfl, rfl, at112⟩
theorem at113 : (fun o => cCode Tryz.prog (slotF [1] o) (Tryz.f113.body.getD .skip)) = fun o => some (ic113.at o) := by kernel_rfl
theorem fi113 : FI.ok Tryz.prog 113 ⟨ic113, [1], 11, [.t 2]⟩ := ⟨_, _, Tryz.func113, rfl, by kernel_rfl, rfl, by kernel_rfl, rfl, at113⟩
theorem at114 : (fun o => cCode Tryz.prog (slotF [1] o) (Tryz.f114.body.getD .skip)) = fun o => some (ic114.at o) := by kernel_rfl
theorem fi114 : FI.ok Tryz.prog 114 ⟨ic114, [1], 8, [.t 2]⟩ := ⟨_, _, Tryz.func114, rfl, by kernel_rfl, rfl, by kernel_rfl, rfl, at114⟩
theorem at115 : (fun o => cCode Tryz.prog (slotF [] o) (Tryz.f115.body.getD .skip)) = fun o => some (ic115.at o) := by kernel_rfl
theorem fi115 : FI.ok Tryz.prog 115 ⟨ic115, [], 10, []⟩ := ⟨_, _, Tryz.func115, rfl, by kernel_rfl, rfl, by kernel_rfl, rfl, at115⟩
theorem at116 : (fun o => cCode Tryz.prog (slotF [1] o) (Tryz.f116.body.getD .skip)) = fun o => some (ic116.at o) := by kernel_rfl
theorem fi116 : FI.ok Tryz.prog 116 ⟨ic116, [1], 6, [.t 2]⟩ := ⟨_, _, Tryz.func116, rfl, by kernel_rfl, rfl, by kernel_rfl, rfl, at116⟩
theorem at117 : (fun o => cCode Tryz.prog (slotF [1] o) (Tryz.f117.body.getD .skip)) = fun o => some (ic117.at o) := by kernel_rfl
theorem fi117 : FI.ok Tryz.prog 117 ⟨ic117, [1], 14, [.t 2]⟩ := ⟨_, _, Tryz.func117, rfl, by kernel_rfl, rfl, by kernel_rfl, rfl, at117⟩
theorem at118 : (fun o => cCode Tryz.prog (slotF [] o) (Tryz.f118.body.getD .skip)) = fun o => some (ic118.at o) := by kernel_rfl
theorem fi118 : FI.ok Tryz.prog 118 ⟨ic118, [], 33, []⟩ := ⟨_, _, Tryz.func118, rfl, by kernel_rfl, rfl, by kernel_rfl, rfl, at118⟩
theorem at119 : (fun o => cCode Tryz.prog (slotF [1] o) (Tryz.f119.body.getD .skip)) = fun o => some (ic119.at o) := by kernel_rfl
theorem fi119 : FI.ok Tryz.prog 119 ⟨ic119, [1], 8, [.t 2]⟩ := ⟨_, _, Tryz.func119, rfl, by kernel_rfl, rfl, by kernel_rfl, rfl, at119⟩
theorem at120 : (fun o => cCode Tryz.prog (slotF [] o) (Tryz.f120.body.getD .skip)) = fun o => some (ic120.at o) := by kernel_rfl
theorem fi120 : FI.ok Tryz.prog 120 ⟨ic120, [], 4, [.t 2]⟩ := ⟨_, _, Tryz.func120, rfl, by kernel_rfl, rfl, by kernel_rfl, rfl, at120⟩
theorem at121 : (fun o => cCode Tryz.prog (slotF [] o) (Tryz.f121.body.getD .skip)) = fun o => some (ic121.at o) := by kernel_rfl
theorem fi121 : FI.ok Tryz.prog 121 ⟨ic121, [], 10, []⟩ := ⟨_, _, Tryz.func121, rfl, by kernel_rfl, rfl, by kernel_rfl, rfl, at121⟩
theorem at122 : (fun o => cCode Tryz.prog (slotF [] o) (Tryz.f122.body.getD .skip)) = fun o => some (ic122.at o) := by kernel_rfl
theorem fi122 : FI.ok Tryz.prog 122 ⟨ic122, [], 6, [.t 2]⟩ := ⟨_, _, Tryz.func122, rfl, by kernel_rfl, rfl, by kernel_rfl, rfl, at122⟩
theorem at124 : (fun o => cCode Tryz.prog (slotF [] o) (Tryz.f124.body.getD .skip)) = fun o => some (ic124.at o) := by kernel_rfl
theorem fi124 : FI.ok Tryz.prog 124 ⟨ic124, [], 10, []⟩ := ⟨_, _, Tryz.func124, rfl, by kernel_rfl, rfl, by kernel_rfl, rfl, at124⟩
theorem at126 : (fun o => cCode Tryz.prog (slotF [] o) (Tryz.f126.body.getD .skip)) = fun o => some (ic126.at o) := by kernel_rfl
theorem fi126 : FI.ok Tryz.prog 126 ⟨ic126, [], 10, []⟩ := ⟨_, _, Tryz.func126, rfl, by kernel_rfl, rfl, by kernel_rfl, rfl, at126⟩
theorem at127 : (fun o => cCode Tryz.prog (slotF [] o) (Tryz.f127.body.getD .skip)) = fun o => some (ic127.at o) := by kernel_rfl
theorem fi127 : FI.ok Tryz.prog 127 ⟨ic127, [], 26, [.t 4]⟩ := ⟨_, _, Tryz.func127, rfl, by kernel_rfl, rfl, by kernel_rfl, rfl, at127⟩
theorem at128 : (fun o => cCode Tryz.prog (slotF [] o) (Tryz.f128.body.getD .skip)) = fun o => some (ic128.at o) := by kernel_rfl
theorem fi128 : FI.ok Tryz.prog 128 ⟨ic128, [], 26, [.t 4]⟩ := ⟨_, _, Tryz.func128, rfl, by kernel_rfl, rfl, by kernel_rfl, rfl, at128⟩
theorem at129 : (fun o => cCode Tryz.prog (slotF [] o) (Tryz.f129.body.getD .skip)) = fun o => some (ic129.at o) := by kernel_rfl
theorem fi129 : FI.ok Tryz.prog 129 ⟨ic129, [], 60, [.t 4, .t 5, .t 6]⟩ := ⟨_, _, Tryz.func129, rfl, by kernel_rfl, rfl, by kernel_rfl, rfl, at129⟩
theorem at130 : (fun o => cCode Tryz.prog (slotF [] o) (Tryz.f130.body.getD .skip)) = fun o => some (ic130.at o) := by kernel_rfl
theorem fi130 : FI.ok Tryz.prog 130 ⟨ic130, [], 9, [.t 4]⟩ := ⟨_, _, Tryz.func130, rfl, by kernel_rfl, rfl, by kernel_rfl, rfl, at130⟩
theorem at131 : (fun o => cCode Tryz.prog (slotF [1] o) (Tryz.f131.body.getD .skip)) = fun o => some (ic131.at o) := by kernel_rfl
theorem fi131 : FI.ok Tryz.prog 131 ⟨ic131, [1], 14, [.t 2]⟩ := ⟨_, _, Tryz.func131, rfl, by kernel_rfl, rfl, by kernel_rfl, rfl, at131⟩
theorem at132 : (fun o => cCode Tryz.prog (slotF [] o) (Tryz.f132.body.getD .skip)) = fun o => some (ic132.at o) := by kernel_rfl
theorem fi132 : FI.ok Tryz.prog 132 ⟨ic132, [], 14, [.t 2, .t 3]⟩ := ⟨_, _, Tryz.func132, rfl, by kernel_rfl, rfl, by kernel_rfl, rfl, at132⟩
theorem at133 : (fun o => cCode Tryz.prog (slotF [] o) (Tryz.f133.body.getD .skip)) = fun o => some (ic133.at o) := by kernel_rfl
theorem fi133 : FI.ok Tryz.prog 133 ⟨ic133, [], 41, [.t 4, .t 5, .t 6]⟩ := ⟨_, _, Tryz.func133, rfl, by kernel_rfl, rfl, by kernel_rfl, rfl, at133⟩
theorem at134 : (fun o => cCode Tryz.prog (slotF [] o) (Tryz.f134.body.getD .skip)) = fun o => some (ic134.at o) := by kernel_rfl
theorem fi134 : FI.ok Tryz.prog 134 ⟨ic134, [], 14, []⟩ := ⟨_, _, Tryz.func134, rfl, by kernel_rfl, rfl, by kernel_rfl, rfl, at134⟩
theorem at135 : (fun o => cCode Tryz.prog (slotF [] o) (Tryz.f135.body.getD .skip)) = fun o => some (ic135.at o) := by kernel_rfl
theorem fi135 : FI.ok Tryz.prog 135 ⟨ic135, [], 14, []⟩ := ⟨_, _, Tryz.func135, rfl, by kernel_rfl, rfl, by kernel_rfl, rfl, at135⟩
theorem at136 : (fun o => cCode Tryz.prog (slotF [] o) (Tryz.f136.body.getD .skip)) = fun o => some (ic136.at o) := by kernel_rfl
theorem fi136 : FI.ok Tryz.prog 136 ⟨ic136, [], 19, [.t 4]⟩ := ⟨_, _, Tryz.func136, rfl, by kernel_rfl, rfl, by kernel_rfl, rfl, at136⟩
theorem at137 : (fun o => cCode Tryz.prog (slotF [] o) (Tryz.f137.body.getD .skip)) = fun o => some (ic137.at o) := by kernel_rfl
theorem fi137 : FI.ok Tryz.prog 137 ⟨ic137, [], 28, []⟩ := ⟨_, _, Tryz.func137, rfl, by kernel_rfl, rfl, by kernel_rfl, rfl, at137⟩
theorem at138 : (fun o => cCode Tryz.prog (slotF [] o) (Tryz.f138.body.getD .skip)) = fun o => some (ic138.at o) := by kernel_rfl
theorem fi138 : FI.ok Tryz.prog 138 ⟨ic138, [], 28, []⟩ := ⟨_, _, Tryz.func138, rfl, by kernel_rfl, rfl, by kernel_rfl, rfl, at138⟩
def tab : List (Nat × FI) := [(3, ⟨ic3, [2, 5, 6, 7, 9, 11, 12, 14, 16, 18], 138, [.t 4]⟩), (4, ⟨ic4, [3, 7, 8, 9, 11, 13], 99, [.t 6]⟩), (5, ⟨ic5, [2, 6, 32, 33, 11, 12, 13, 16, 18, 25], 206, [.t 4]⟩), (6, ⟨ic6, [1, 3, 10, 11, 13, 15, 17, 19], 155, [.t 2]⟩), (7, ⟨ic7, [1, 3, 4, 5, 7, 11, 14], 160, [.t 2]⟩), (8, ⟨ic8, [1, 2], 20, [.c 2 28 true 3]⟩), (9, ⟨ic9, [1, 2], 28, [.c 2 34 true 15]⟩), (10, ⟨ic10, [4, 5, 7, 8, 12], 167, [.c 8 28 true 3, .t 9]⟩), (11, ⟨ic11, [2, 3], 66, [.t 4]⟩), (12, ⟨ic12, [1, 3, 6, 8], 69, [.t 0]⟩), (13, ⟨ic13, [1], 44, [.t 2]⟩), (14, ⟨ic14, [2], 5, [.c 2 28 true 3]⟩), (15, ⟨ic15, [4, 8], 63, [.c 8 28 true 3, .t 9, .t 10]⟩), (16, ⟨ic16, [2, 3, 4], 18, [.c 4 28 true 3, .t 5]⟩), (17, ⟨ic17, [1, 4], 63, [.t 2]⟩), (18, ⟨ic18, [2], 35, [.t 4, .t 5, .t 6]⟩), (19, ⟨ic19, [2], 17, [.t 4]⟩), (20, ⟨ic20, [4, 5, 7, 8, 175, 182, 193], 206, [.c 8 28 true 3, .t 9]⟩), (21, ⟨ic21, [1, 27, 43, 8], 108, [.t 2]⟩), (22, ⟨ic22, [2, 3], 24, [.t 4]⟩), (23, ⟨ic23, [4, 8, 12], 62, [.c 8 28 true 3, .t 9, .t 10]⟩), (24, ⟨ic24, [], 9, [.t 2]⟩), (25, ⟨ic25, [2, 4, 29], 36, [.c 4 28 true 3]⟩), (26, ⟨ic26, [], 27, [.t 4]⟩), (27, ⟨ic27, [1], 33, [.t 2, .t 3]⟩), (28, ⟨ic28, [2], 16, [.t 4]⟩), (29, ⟨ic29, [1], 57, [.t 2]⟩), (30, ⟨ic30, [1, 2], 6, [.c 2 86 true 2]⟩), (31, ⟨ic31, [2], 13, [.t 4, .t 5]⟩), (32, ⟨ic32, [1, 2], 6, [.c 2 91 true 2]⟩), (33, ⟨ic33, [2], 13, [.t 4, .t 5]⟩), (34, ⟨ic34, [2, 3], 31, [.t 4]⟩), (35, ⟨ic35, [2, 3], 31, [.t 4]⟩), (36, ⟨ic36, [0], 2, [.c 0 23 true 3]⟩), (37, ⟨ic37, [0], 2, [.c 0 34 true 15]⟩), (38, ⟨ic38, [], 19, [.t 4]⟩), (39, ⟨ic39, [], 24, [.t 8]⟩), (40, ⟨ic40, [26], 33, [.t 6]⟩), (41, ⟨ic41, [7], 8, [.t 2]⟩), (42, ⟨ic42, [7], 42, [.t 4]⟩), (43, ⟨ic43, [2], 8, [.t 3]⟩), (44, ⟨ic44, [], 32, [.t 2]⟩), (45, ⟨ic45, [1, 5, 19], 22, [.t 2]⟩), (46, ⟨ic46, [1, 5, 19], 22, [.t 2]⟩), (47, ⟨ic47, [], 9, [.t 4]⟩), (48, ⟨ic48, [1], 10, [.t 2]⟩), (49, ⟨ic49, [1], 113, [.t 2]⟩), (50, ⟨ic50, [26], 28, [.t 4]⟩), (51, ⟨ic51, [3, 29, 44, 50], 52, [.t 4]⟩), (52, ⟨ic52, [], 35, [.t 2]⟩), (53, ⟨ic53, [], 26, [.t 4]⟩), (54, ⟨ic54, [], 26, [.t 4]⟩), (55, ⟨ic55, [3, 4, 5], 26, [.t 6, .t 7]⟩), (56, ⟨ic56, [], 9, [.t 2]⟩), (57, ⟨ic57, [2, 3], 101, [.t 4]⟩), (58, ⟨ic58, [1, 2, 3], 79, [.c 2 34 true 15]⟩), (59, ⟨ic59, [2], 19, [.t 0]⟩), (60, ⟨ic60, [3], 19, [.t 2]⟩), (61, ⟨ic61, [1], 5, [.t 2]⟩), (62, ⟨ic62, [], 49, [.t 6, .t 7]⟩), (63, ⟨ic63, [3], 12, [.t 5]⟩), (64, ⟨ic64, [], 20, [.t 4]⟩), (65, ⟨ic65, [1], 5, [.t 2]⟩), (66, ⟨ic66, [], 49, [.t 6, .t 7]⟩), (67, ⟨ic67, [3], 12, [.t 5]⟩), (68, ⟨ic68, [25, 40], 95, [.t 6]⟩), (69, ⟨ic69, [7], 8, [.t 2]⟩), (70, ⟨ic70, [25, 40], 95, [.t 6]⟩), (71, ⟨ic71, [], 19, [.t 4]⟩), (72, ⟨ic72, [6], 36, [.t 2]⟩), (73, ⟨ic73, [], 19, [.t 4]⟩), (74, ⟨ic74, [], 9, [.t 2]⟩), (75, ⟨ic75, [2, 3], 101, [.t 4]⟩), (76, ⟨ic76, [1, 2, 3], 116, [.c 2 34 true 15]⟩), (77, ⟨ic77, [1], 11, [.t 2]⟩), (78, ⟨ic78, [], 24, [.t 2]⟩), (79, ⟨ic79, [], 41, [.t 2]⟩), (80, ⟨ic80, [], 19, [.t 4]⟩), (81, ⟨ic81, [], 26, [.t 4]⟩), (82, ⟨ic82, [], 15, [.t 5]⟩), (83, ⟨ic83, [], 26, [.t 4]⟩), (84, ⟨ic84, [], 26, [.t 4]⟩), (85, ⟨ic85, [1, 2], 6, [.c 2 122 true 3]⟩), (86, ⟨ic86, [1], 3, [.t 2]⟩), (87, ⟨ic87, [2], 10, [.t 3]⟩), (88, ⟨ic88, [21, 26], 30, [.t 2]⟩), (89, ⟨ic89, [], 11, []⟩), (90, ⟨ic90, [], 29, [.t 2]⟩), (91, ⟨ic91, [], 6, [.t 2]⟩), (92, ⟨ic92, [], 6, [.t 2]⟩), (93, ⟨ic93, [], 6, [.t 2]⟩), (94, ⟨ic94, [], 6, [.t 2]⟩), (95, ⟨ic95, [1], 6, [.t 2]⟩), (96, ⟨ic96, [1], 8, [.t 2]⟩), (97, ⟨ic97, [], 9, []⟩), (98, ⟨ic98, [], 13, [.t 2]⟩), (99, ⟨ic99, [1], 8, [.t 2]⟩), (100, ⟨ic100, [4], 20, [.t 2]⟩), (101, ⟨ic101, [1], 6, [.t 2]⟩), (102, ⟨ic102, [1], 10, [.t 2]⟩), (103, ⟨ic103, [], 9, []⟩), (104, ⟨ic104, [2], 10, [.c 2 30 true 2]⟩), (105, ⟨ic105, [1], 13, [.t 2]⟩), (106, ⟨ic106, [1, 5], 32, [.t 2]⟩), (107, ⟨ic107, [21], 25, []⟩), (108, ⟨ic108, [1], 7, [.t 2]⟩), (109, ⟨ic109, [], 13, [.t 2]⟩), (110, ⟨ic110, [1, 5], 25, [.t 2]⟩), (111, ⟨ic111, [16], 20, []⟩), (112, ⟨ic112, [], 15, [.t 4]⟩), (113, ⟨ic113, [1], 11, [.t 2]⟩), (114, ⟨ic114, [1], 8, [.t 2]⟩), (115, ⟨ic115, [], 10, []⟩), (116, ⟨ic116, [1], 6, [.t 2]⟩), (117, ⟨ic117, [1], 14, [.t 2]⟩), (118, ⟨ic118, [], 33, []⟩), (119, ⟨ic119, [1], 8, [.t 2]⟩), (120, ⟨ic120, [], 4, [.t 2]⟩), (121, ⟨ic121, [], 10, []⟩), (122, ⟨ic122, [], 6, [.t 2]⟩), (124, ⟨ic124, [], 10, []⟩), (126, ⟨ic126, [], 10, []⟩), (127, ⟨ic127, [], 26, [.t 4]⟩), (128, ⟨ic128, [], 26, [.t 4]⟩), (129, ⟨ic129, [], 60, [.t 4, .t 5, .t 6]⟩), (130, ⟨ic130, [], 9, [.t 4]⟩), (131, ⟨ic131, [1], 14, [.t 2]⟩), (132, ⟨ic132, [], 14, [.t 2, .t 3]⟩), (133, ⟨ic133, [], 41, [.t 4, .t 5, .t 6]⟩), (134, ⟨ic134, [], 14, []⟩), (135, ⟨ic135, [], 14, []⟩), (136, ⟨ic136, [], 19, [.t 4]⟩), (137, ⟨ic137, [], 28, []⟩), (138, ⟨ic138, [], 28, []⟩)]
theorem tab_ok : TabOk Tryz.prog tab := ⟨fi3, fi4, fi5, fi6, fi7, fi8, fi9, fi10, fi11, fi12, fi13, fi14, fi15, fi16, fi17, fi18, fi19, fi20, fi21, fi22, fi23, fi24, fi25, fi26, fi27, fi28, fi29, fi30, fi31, fi32, fi33, fi34, fi35, fi36, fi37, fi38, fi39, fi40, fi41, fi42, fi43, fi44, fi45, fi46, fi47, fi48, fi49, fi50, fi51, fi52, fi53, fi54, fi55, fi56, fi57, fi58, fi59, fi60, fi61, fi62, fi63, fi64, fi65, fi66, fi67, fi68, fi69, fi70, fi71, fi72, fi73, fi74, fi75, fi76, fi77, fi78, fi79, fi80, fi81, fi82, fi83, fi84, fi85, fi86, fi87, fi88, fi89, fi90, fi91, fi92, fi93, fi94, fi95, fi96, fi97, fi98, fi99, fi100, fi101, fi102, fi103, fi104, fi105, fi106, fi107, fi108, fi109, fi110, fi111, fi112, fi113, fi114, fi115, fi116, fi117, fi118, fi119, fi120, fi121, fi122, fi124, fi126, fi127, fi128, fi129, fi130, fi131, fi132, fi133, fi134, fi135, fi136, fi137, fi138, trivial⟩
end Go.Proofs.YthidhledenklhaaGreat.VL
