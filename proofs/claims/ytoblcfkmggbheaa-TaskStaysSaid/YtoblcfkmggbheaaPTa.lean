import Derived.Test.YtoblcfkmggbheaaPYa
import Derived.Test.YtoblcfkmggbheaaPVw
namespace Go.Proofs.Ytoblcfkmggbheaa.VL
open Go
set_option maxRecDepth 100000
theorem at11 : (fun o => cCode Try.prog (slotF [2, 4] o) (Try.f11.body.getD .skip)) = fun o => some (ic11.at o) := by kernel_rfl
theorem fi11 : FI.ok Try.prog 11 ⟨ic11, [2, 4], 29, [.c 4 32 true 7, .t 5]⟩ := ⟨_, _, Try.func11, rfl, by kernel_rfl, rfl, by kernel_rfl, rfl, at11⟩
theorem at13 : (fun o => cCode Try.prog (slotF [6, 7, 11, 12] o) (Try.f13.body.getD .skip)) = fun o => some (ic13.at o) := by kernel_rfl
theorem fi13 : FI.ok Try.prog 13 ⟨ic13, [6, 7, 11, 12], 24, [.c 12 27 true 3, .t 13]⟩ := ⟨_, _, Try.func13, rfl, by kernel_rfl, rfl, by kernel_rfl, rfl, at13⟩
theorem at14 : (fun o => cCode Try.prog (slotF [1, 5, 8, 12] o) (Try.f14.body.getD .skip)) = fun o => some (ic14.at o) := by kernel_rfl
theorem fi14 : FI.ok Try.prog 14 ⟨ic14, [1, 5, 8, 12], 116, [.t 0]⟩ := ⟨_, _, Try.func14, rfl, by kernel_rfl, rfl, by kernel_rfl, rfl, at14⟩
theorem at17 : (fun o => cCode Try.prog (slotF [5, 6, 8, 9, 10] o) (Try.f17.body.getD .skip)) = fun o => some (ic17.at o) := by kernel_rfl
theorem fi17 : FI.ok Try.prog 17 ⟨ic17, [5, 6, 8, 9, 10], 19, [.c 10 27 true 3, .t 11]⟩ := ⟨_, _, Try.func17, rfl, by kernel_rfl, rfl, by kernel_rfl, rfl, at17⟩
theorem at20 : (fun o => cCode Try.prog (slotF [6, 7, 9, 10, 11, 12, 15] o) (Try.f20.body.getD .skip)) = fun o => some (ic20.at o) := by kernel_rfl
theorem fi20 : FI.ok Try.prog 20 ⟨ic20, [6, 7, 9, 10, 11, 12, 15], 32, [.c 12 27 true 3, .t 13, .t 14]⟩ := ⟨_, _, Try.func20, rfl, by kernel_rfl, rfl, by kernel_rfl, rfl, at20⟩
theorem at26 : (fun o => cCode Try.prog (slotF [1, 6, 5] o) (Try.f26.body.getD .skip)) = fun o => some (ic26.at o) := by kernel_rfl
theorem fi26 : FI.ok Try.prog 26 ⟨ic26, [1, 6, 5], 52, [.t 2]⟩ := ⟨_, _, Try.func26, rfl, by kernel_rfl, rfl, by kernel_rfl, rfl, at26⟩
theorem at29 : (fun o => cCode Try.prog (slotF [1] o) (Try.f29.body.getD .skip)) = fun o => some (ic29.at o) := by kernel_rfl
theorem fi29 : FI.ok Try.prog 29 ⟨ic29, [1], 13, [.t 2]⟩ := ⟨_, _, Try.func29, rfl, by kernel_rfl, rfl, by kernel_rfl, rfl, at29⟩
theorem at36 : (fun o => cCode Try.prog (slotF [2] o) (Try.f36.body.getD .skip)) = fun o => some (ic36.at o) := by kernel_rfl
theorem fi36 : FI.ok Try.prog 36 ⟨ic36, [2], 12, [.t 4, .t 5]⟩ := ⟨_, _, Try.func36, rfl, by kernel_rfl, rfl, by kernel_rfl, rfl, at36⟩
theorem at37 : (fun o => cCode Try.prog (slotF [5, 6, 8, 9, 10] o) (Try.f37.body.getD .skip)) = fun o => some (ic37.at o) := by kernel_rfl
theorem fi37 : FI.ok Try.prog 37 ⟨ic37, [5, 6, 8, 9, 10], 19, [.c 10 27 true 3, .t 11]⟩ := ⟨_, _, Try.func37, rfl, by kernel_rfl, rfl, by kernel_rfl, rfl, at37⟩
theorem at38 : (fun o => cCode Try.prog (slotF [2, 3] o) (Try.f38.body.getD .skip)) = fun o => some (ic38.at o) := by kernel_rfl
theorem fi38 : FI.ok Try.prog 38 ⟨ic38, [2, 3], 6, [.t 4]⟩ := ⟨_, _, Try.func38, rfl, by kernel_rfl, rfl, by kernel_rfl, rfl, at38⟩
theorem at39 : (fun o => cCode Try.prog (slotF [] o) (Try.f39.body.getD .skip)) = fun o => some (ic39.at o) := by kernel_rfl
theorem fi39 : FI.ok Try.prog 39 ⟨ic39, [], 11, []⟩ := ⟨_, _, Try.func39, rfl, by kernel_rfl, rfl, by kernel_rfl, rfl, at39⟩
theorem at40 : (fun o => cCode Try.prog (slotF [2] o) (Try.f40.body.getD .skip)) = fun o => some (ic40.at o) := by kernel_rfl
theorem fi40 : FI.ok Try.prog 40 ⟨ic40, [2], 23, []⟩ := ⟨_, _, Try.func40, rfl, by kernel_rfl, rfl, by kernel_rfl, rfl, at40⟩
theorem at41 : (fun o => cCode Try.prog (slotF [0] o) (Try.f41.body.getD .skip)) = fun o => some (ic41.at o) := by kernel_rfl
theorem fi41 : FI.ok Try.prog 41 ⟨ic41, [0], 2, [.c 0 23 true 2]⟩ := ⟨_, _, Try.func41, rfl, by kernel_rfl, rfl, by kernel_rfl, rfl, at41⟩
theorem at43 : (fun o => cCode Try.prog (slotF [1] o) (Try.f43.body.getD .skip)) = fun o => some (ic43.at o) := by kernel_rfl
theorem fi43 : FI.ok Try.prog 43 ⟨ic43, [1], 11, [.t 2]⟩ := ⟨_, _, Try.func43, rfl, by kernel_rfl, rfl, by kernel_rfl, rfl, at43⟩
theorem at44 : (fun o => cCode Try.prog (slotF [4, 5, 8, 10] o) (Try.f44.body.getD .skip)) = fun o => some (ic44.at o) := by kernel_rfl
theorem fi44 : FI.ok Try.prog 44 ⟨ic44, [4, 5, 8, 10], 42, [.c 8 27 true 3, .t 9]⟩ := ⟨_, _, Try.func44, rfl, by kernel_rfl, rfl, by kernel_rfl, rfl, at44⟩
theorem at45 : (fun o => cCode Try.prog (slotF [] o) (Try.f45.body.getD .skip)) = fun o => some (ic45.at o) := by kernel_rfl
theorem fi45 : FI.ok Try.prog 45 ⟨ic45, [], 57, [.t 5]⟩ := ⟨_, _, Try.func45, rfl, by kernel_rfl, rfl, by kernel_rfl, rfl, at45⟩
theorem at46 : (fun o => cCode Try.prog (slotF [6] o) (Try.f46.body.getD .skip)) = fun o => some (ic46.at o) := by kernel_rfl
theorem fi46 : FI.ok Try.prog 46 ⟨ic46, [6], 36, [.t 2]⟩ := ⟨_, _, Try.func46, rfl, by kernel_rfl, rfl, by kernel_rfl, rfl, at46⟩
theorem at47 : (fun o => cCode Try.prog (slotF [] o) (Try.f47.body.getD .skip)) = fun o => some (ic47.at o) := by kernel_rfl
theorem fi47 : FI.ok Try.prog 47 ⟨ic47, [], 15, [.t 6]⟩ := ⟨_, _, Try.func47, rfl, by kernel_rfl, rfl, by kernel_rfl, rfl, at47⟩
theorem at48 : (fun o => cCode Try.prog (slotF [2, 7, 21] o) (Try.f48.body.getD .skip)) = fun o => some (ic48.at o) := by kernel_rfl
theorem fi48 : FI.ok Try.prog 48 ⟨ic48, [2, 7, 21], 24, [.t 4]⟩ := ⟨_, _, Try.func48, rfl, by kernel_rfl, rfl, by kernel_rfl, rfl, at48⟩
theorem at49 : (fun o => cCode Try.prog (slotF [25, 40] o) (Try.f49.body.getD .skip)) = fun o => some (ic49.at o) := by kernel_rfl
theorem fi49 : FI.ok Try.prog 49 ⟨ic49, [25, 40], 95, [.t 6]⟩ := ⟨_, _, Try.func49, rfl, by kernel_rfl, rfl, by kernel_rfl, rfl, at49⟩
theorem at53 : (fun o => cCode Try.prog (slotF [] o) (Try.f53.body.getD .skip)) = fun o => some (ic53.at o) := by kernel_rfl
theorem fi53 : FI.ok Try.prog 53 ⟨ic53, [], 93, [.t 6]⟩ := ⟨_, _, Try.func53, rfl, by kernel_rfl, rfl, by kernel_rfl, rfl, at53⟩
theorem at54 : (fun o => cCode Try.prog (slotF [] o) (Try.f54.body.getD .skip)) = fun o => some (ic54.at o) := by kernel_rfl
theorem fi54 : FI.ok Try.prog 54 ⟨ic54, [], 5, [.t 2]⟩ := ⟨_, _, Try.func54, rfl, by kernel_rfl, rfl, by kernel_rfl, rfl, at54⟩
theorem at57 : (fun o => cCode Try.prog (slotF [2] o) (Try.f57.body.getD .skip)) = fun o => some (ic57.at o) := by kernel_rfl
theorem fi57 : FI.ok Try.prog 57 ⟨ic57, [2], 66, [.t 4]⟩ := ⟨_, _, Try.func57, rfl, by kernel_rfl, rfl, by kernel_rfl, rfl, at57⟩
theorem at60 : (fun o => cCode Try.prog (slotF [] o) (Try.f60.body.getD .skip)) = fun o => some (ic60.at o) := by kernel_rfl
theorem fi60 : FI.ok Try.prog 60 ⟨ic60, [], 49, [.t 6, .t 7]⟩ := ⟨_, _, Try.func60, rfl, by kernel_rfl, rfl, by kernel_rfl, rfl, at60⟩
theorem at61 : (fun o => cCode Try.prog (slotF [2] o) (Try.f61.body.getD .skip)) = fun o => some (ic61.at o) := by kernel_rfl
theorem fi61 : FI.ok Try.prog 61 ⟨ic61, [2], 9, [.t 4]⟩ := ⟨_, _, Try.func61, rfl, by kernel_rfl, rfl, by kernel_rfl, rfl, at61⟩
theorem at62 : (fun o => cCode Try.prog (slotF [] o) (Try.f62.body.getD .skip)) = fun o => some (ic62.at o) := by kernel_rfl
theorem fi62 : FI.ok Try.prog 62 ⟨ic62, [], 20, [.t 4]⟩ := ⟨_, _, Try.func62, rfl, by kernel_rfl, rfl, by kernel_rfl, rfl, at62⟩
theorem at63 : (fun o => cCode Try.prog (slotF [] o) (Try.f63.body.getD .skip)) = fun o => some (ic63.at o) := by kernel_rfl
theorem fi63 : FI.ok Try.prog 63 ⟨ic63, [], 25, [.t 4]⟩ := ⟨_, _, Try.func63, rfl, by kernel_rfl, rfl, by kernel_rfl, rfl, at63⟩
theorem at64 : (fun o => cCode Try.prog (slotF [] o) (Try.f64.body.getD .skip)) = fun o => some (ic64.at o) := by kernel_rfl
theorem fi64 : FI.ok Try.prog 64 ⟨ic64, [], 21, [.t 4]⟩ := ⟨_, _, Try.func64, rfl, by kernel_rfl, rfl, by kernel_rfl, rfl, at64⟩
theorem at65 : (fun o => cCode Try.prog (slotF [7] o) (Try.f65.body.getD .skip)) = fun o => some (ic65.at o) := by kernel_rfl
theorem fi65 : FI.ok Try.prog 65 ⟨ic65, [7], 8, [.t 2]⟩ := ⟨_, _, Try.func65, rfl, by kernel_rfl, rfl, by kernel_rfl, rfl, at65⟩
theorem at67 : (fun o => cCode Try.prog (slotF [] o) (Try.f67.body.getD .skip)) = fun o => some (ic67.at o) := by kernel_rfl
theorem fi67 : FI.ok Try.prog 67 ⟨ic67, [], 10, []⟩ := ⟨_, _, Try.func67, rfl, by kernel_rfl, rfl, by kernel_rfl, rfl, at67⟩
theorem at68 : (fun o => cCode Try.prog (slotF [] o) (Try.f68.body.getD .skip)) = fun o => some (ic68.at o) := by kernel_rfl
theorem fi68 : FI.ok Try.prog 68 ⟨ic68, [], 6, [.t 2]⟩ := ⟨_, _, Try.func68, rfl, by kernel_rfl, rfl, by kernel_rfl, rfl, at68⟩
theorem at69 : (fun o => cCode Try.prog (slotF [] o) (Try.f69.body.getD .skip)) = fun o => some (ic69.at o) := by kernel_rfl
theorem fi69 : FI.ok Try.prog 69 ⟨ic69, [], 14, []⟩ := ⟨_, _, Try.func69, rfl, by kernel_rfl, rfl, by kernel_rfl, rfl, at69⟩
theorem at70 : (fun o => cCode Try.prog (slotF [] o) (Try.f70.body.getD .skip)) = fun o => some (ic70.at o) := by kernel_rfl
theorem fi70 : FI.ok Try.prog 70 ⟨ic70, [], 28, []⟩ := ⟨_, _, Try.func70, rfl, by kernel_rfl, rfl, by kernel_rfl, rfl, at70⟩
def tab : List (Nat × FI) := [(11, ⟨ic11, [2, 4], 29, [.c 4 32 true 7, .t 5]⟩), (13, ⟨ic13, [6, 7, 11, 12], 24, [.c 12 27 true 3, .t 13]⟩), (14, ⟨ic14, [1, 5, 8, 12], 116, [.t 0]⟩), (17, ⟨ic17, [5, 6, 8, 9, 10], 19, [.c 10 27 true 3, .t 11]⟩), (20, ⟨ic20, [6, 7, 9, 10, 11, 12, 15], 32, [.c 12 27 true 3, .t 13, .t 14]⟩), (26, ⟨ic26, [1, 6, 5], 52, [.t 2]⟩), (29, ⟨ic29, [1], 13, [.t 2]⟩), (36, ⟨ic36, [2], 12, [.t 4, .t 5]⟩), (37, ⟨ic37, [5, 6, 8, 9, 10], 19, [.c 10 27 true 3, .t 11]⟩), (38, ⟨ic38, [2, 3], 6, [.t 4]⟩), (39, ⟨ic39, [], 11, []⟩), (40, ⟨ic40, [2], 23, []⟩), (41, ⟨ic41, [0], 2, [.c 0 23 true 2]⟩), (43, ⟨ic43, [1], 11, [.t 2]⟩), (44, ⟨ic44, [4, 5, 8, 10], 42, [.c 8 27 true 3, .t 9]⟩), (45, ⟨ic45, [], 57, [.t 5]⟩), (46, ⟨ic46, [6], 36, [.t 2]⟩), (47, ⟨ic47, [], 15, [.t 6]⟩), (48, ⟨ic48, [2, 7, 21], 24, [.t 4]⟩), (49, ⟨ic49, [25, 40], 95, [.t 6]⟩), (53, ⟨ic53, [], 93, [.t 6]⟩), (54, ⟨ic54, [], 5, [.t 2]⟩), (57, ⟨ic57, [2], 66, [.t 4]⟩), (60, ⟨ic60, [], 49, [.t 6, .t 7]⟩), (61, ⟨ic61, [2], 9, [.t 4]⟩), (62, ⟨ic62, [], 20, [.t 4]⟩), (63, ⟨ic63, [], 25, [.t 4]⟩), (64, ⟨ic64, [], 21, [.t 4]⟩), (65, ⟨ic65, [7], 8, [.t 2]⟩), (67, ⟨ic67, [], 10, []⟩), (68, ⟨ic68, [], 6, [.t 2]⟩), (69, ⟨ic69, [], 14, []⟩), (70, ⟨ic70, [], 28, []⟩)]
theorem tab_ok : TabOk Try.prog tab := ⟨fi11, fi13, fi14, fi17, fi20, fi26, fi29, fi36, fi37, fi38, fi39, fi40, fi41, fi43, fi44, fi45, fi46, fi47, fi48, fi49, fi53, fi54, fi57, fi60, fi61, fi62, fi63, fi64, fi65, fi67, fi68, fi69, fi70, trivial⟩
end Go.Proofs.Ytoblcfkmggbheaa.VL
