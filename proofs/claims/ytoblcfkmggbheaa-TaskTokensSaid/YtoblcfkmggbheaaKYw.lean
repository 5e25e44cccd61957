import Derived.Test.YtoblcfkmggbheaaKTa
import Derived.Test.YtoblcfkmggbheaaKYa
import Derived.Test.YtoblcfkmggbheaaKWc
import Derived.Test.YtoblcfkmggbheaaKXr
import Derived.Laws.RangeString
import Derived.Laws.RangeAny
section
namespace Go.Proofs.Ytoblcfkmggbheaa.VL
open Go
set_option maxRecDepth 100000
set_option linter.unusedSectionVars false
variable [Val]
def zTask : PV := .agg [vs ⟨#[]⟩, vi 0, vi 0, vu 0, vi 0, vi 0, vu 0]
def clones : List (Nat × Nat × Nat × PV) := [(65, 7, 64, zTask)]
theorem clones_ok : CalleeOk Try.prog (cloneOv clones) := cloneOv_ok hm (l := clones) ⟨fi65, trivial⟩
abbrev fz : List Nat := [10, 11, 13, 16, 17, 18, 19, 20, 21, 22, 23, 24, 25, 27, 33, 35, 52]
noncomputable abbrev run0 := runR (cloneOv clones) fz tab 1000 50
theorem awake_run : run0 14 [] = .ok (vb true) := by kernel_rfl
theorem awake_ok : VPure Try.prog 14 [] (vb true) := vpure_runR hm clones_ok fz tab_ok 1000 50 awake_run
def F14 : Unit → Option Bool := fun _ => some true
def pe14 : PE := ⟨14, .no, .v .b, F14⟩
theorem pe14_ok : pe14.ok Try.prog := ⟨rfl, rfl, rfl, rfl, rfl, fun v y h => by cases h; exact awake_ok⟩
end Go.Proofs.Ytoblcfkmggbheaa.VL
end
section
namespace Go.Proofs.Ytoblcfkmggbheaa.VL
open Go
set_option maxRecDepth 100000
set_option linter.unusedVariables false
set_option linter.unusedSectionVars false
variable [Val]
noncomputable section
abbrev qx (n : Nat) (o : IOp) : XO := ⟨⟨some n, o, none⟩, .b, [], []⟩
def xf10 : FX := ⟨(.seq (.reg [(qx 1 (.box 0 3 (.t 0))), (qx 2 (.alloc 1 (.agg [(.v (.int .u64 0)), (.v (.int .u64 0)), (.sl true [])])))]) (.seq (.seq (.reg [(qx 3 (.fad 2 (.t 1))), (qx 4 (.load false 1 (.t 3))), (qx 5 (.len (.t 4))), (qx 6 (.bin .gtr (.t 5) (.c (.v (.int .i64 101)))))]) (.cond (.t 6) (.reg [(qx 7 (.fad 2 (.t 1))), (qx 8 (.load false 1 (.t 7))), (qx 9 (.slc 7 (.t 8) none (some (.c (.v (.int .i64 101)))) none)), (qx 10 (.fad 2 (.t 1))), ⟨⟨none, (.store 1 (.t 10) (.t 9)), none⟩, .b, [], []⟩]) .skip)) (.seq (.reg [(qx 11 (.load true 3 (.t 1))), ⟨⟨none, (.store 3 (.t 2) (.t 11)), none⟩, .b, [], []⟩]) .ret))), [1, 2], 12, [.c 2 27 true 3], 3⟩
theorem xf10_ok : xf10.ok Try.prog 10 := ⟨_, _, Try.func10, rfl, by kernel_rfl, rfl, by kernel_rfl, rfl, by kernel_rfl, by kernel_rfl⟩
def tb10 : List PE := []
theorem tb10_ok : PEsOk Try.prog tb10 := trivial
def ex10 : List EX := []
theorem ex10_ok : EXsOk Try.prog ex10 := trivial
def in10 : List IN := []
theorem in10_ok : INsOk Try.prog in10 := trivial
def F10 : DT ((.co (.v (.p (.i .u64) (.p (.i .u64) (.sl (.p .s (.p (.i .i64) (.p (.i .i64) (.p (.i .u64) (.p (.i .i64) (.p (.i .i64) (.i .u64))))))))))) .no) : Fm).den → Option (DT (.v (.p (.i .u64) (.p (.i .u64) (.sl (.p .s (.p (.i .i64) (.p (.i .i64) (.p (.i .u64) (.p (.i .i64) (.p (.i .i64) (.i .u64)))))))))) : Fm).den) := pureT tb10 ex10 in10 0 xf10 _ _ []
def pe10 : PE := ⟨10, (.co (.v (.p (.i .u64) (.p (.i .u64) (.sl (.p .s (.p (.i .i64) (.p (.i .i64) (.p (.i .u64) (.p (.i .i64) (.p (.i .i64) (.i .u64))))))))))) .no), .v (.p (.i .u64) (.p (.i .u64) (.sl (.p .s (.p (.i .i64) (.p (.i .i64) (.p (.i .u64) (.p (.i .i64) (.p (.i .i64) (.i .u64)))))))))), F10⟩
theorem pe10_ok : pe10.ok Try.prog := pe_of hm tb10_ok ex10_ok in10_ok xf10_ok (by kernel_rfl) (fun _ => rfl)
def xf46 : FX := ⟨(.seq (.reg [(qx 2 (.mov (.c (.v (.bool false)))))]) (.seq (.cut ⟨[2, 4, 5, 6, 7, 8, 9, 10, 11, 12, 13, 14, 15, 16, 17, 18, 19, 20, 21, 22, 23, 24, 25, 26, 27, 28], [0], ⟨[], [], []⟩⟩ (.seq (.reg [(qx 5 (.mov (.t 0))), (qx 6 (.rngS 0 (.t 5)))]) (.blk 0 (.loop ⟨[2, 4, 7, 8, 9, 10, 11, 12, 13, 14, 15, 16, 17, 18, 19, 20, 21, 22, 23, 24, 25, 26, 27, 28], [0], ⟨[], [], [⟨0, .iter, true⟩]⟩⟩ (.seq (.reg [(qx 7 (.nxtS (.t 6))), (qx 8 (.ext (.t 7) 0))]) (.seq (.cond (.t 8) .skip (.exit 0)) (.blk 1 (.seq (.reg [(qx 9 (.ext (.t 7) 2)), (qx 4 (.mov (.t 9)))]) (.seq (.cutN ⟨[10, 11, 12, 13, 14, 15, 16, 17, 18, 19, 20, 21, 22, 23, 24, 25, 26, 27, 28], [], ⟨[], [(28, .v .b)], []⟩⟩ (.reg [(qx 10 (.mov (.t 4))), (qx 11 (.bin .geq (.t 10) (.c (.v (.int .i32 97))))), (qx 12 (.mov (.t 11))), ⟨⟨(some 13), (.mov (.t 4)), (some (12, true))⟩, .b, [], []⟩, ⟨⟨(some 14), (.bin .leq (.t 13) (.c (.v (.int .i32 122)))), (some (12, true))⟩, .b, [], []⟩, (qx 15 (.pick (.t 12) (.t 14) (.c (.v (.bool false))))), (qx 16 (.mov (.t 15))), ⟨⟨(some 17), (.mov (.t 4)), (some (16, false))⟩, .b, [], []⟩, ⟨⟨(some 18), (.bin .geq (.t 17) (.c (.v (.int .i32 48)))), (some (16, false))⟩, .b, [], []⟩, ⟨⟨(some 19), (.mov (.t 18)), (some (16, false))⟩, .b, [], []⟩, ⟨⟨(some 20), (.mov (.t 4)), (some (19, true))⟩, .b, [], []⟩, ⟨⟨(some 21), (.bin .leq (.t 20) (.c (.v (.int .i32 57)))), (some (19, true))⟩, .b, [], []⟩, ⟨⟨(some 22), (.pick (.t 19) (.t 21) (.c (.v (.bool false)))), (some (16, false))⟩, .b, [], []⟩, (qx 23 (.pick (.t 16) (.c (.v (.bool true))) (.t 22))), (qx 24 (.mov (.t 23))), ⟨⟨(some 25), (.mov (.t 4)), (some (24, false))⟩, .b, [], []⟩, ⟨⟨(some 26), (.bin .eql (.t 25) (.c (.v (.int .i32 45)))), (some (24, false))⟩, .b, [], []⟩, (qx 27 (.pick (.t 24) (.c (.v (.bool true))) (.t 26))), (qx 28 (.un .not (.t 27)))])) (.cond (.t 28) (.seq (.reg [(qx 2 (.mov (.c (.v (.bool false)))))]) .ret) .skip)))))))))) (.seq (.reg [(qx 29 (.mov (.t 0))), ⟨⟨(some 30), (.bin .neq (.t 29) (.c (.v (.string ⟨#[]⟩)))), none⟩, .b, [], []⟩, (qx 31 (.mov (.t 30))), ⟨⟨(some 32), (.mov (.t 0)), (some (31, true))⟩, .b, [], []⟩, ⟨⟨(some 33), (.lenS (.t 32)), (some (31, true))⟩, .b, [], []⟩, ⟨⟨(some 34), (.bin .leq (.t 33) (.c (.v (.int .i64 20)))), (some (31, true))⟩, .b, [], []⟩, (qx 35 (.pick (.t 31) (.t 34) (.c (.v (.bool false))))), (qx 2 (.mov (.t 35)))]) .ret))), [6], 36, [.t 2], 2⟩
theorem xf46_ok : xf46.ok Try.prog 46 := ⟨_, _, Try.func46, rfl, by kernel_rfl, rfl, by kernel_rfl, rfl, by kernel_rfl, by kernel_rfl⟩
def tb46 : List PE := []
theorem tb46_ok : PEsOk Try.prog tb46 := trivial
def ex46 : List EX := []
theorem ex46_ok : EXsOk Try.prog ex46 := trivial
def in46 : List IN := []
theorem in46_ok : INsOk Try.prog in46 := trivial
def F46 : DT ((.co (.v .s) .no) : Fm).den → Option (DT (.v .b : Fm).den) := pureT tb46 ex46 in46 0 xf46 _ _ []
def pe46 : PE := ⟨46, (.co (.v .s) .no), .v .b, F46⟩
theorem pe46_ok : pe46.ok Try.prog := pe_of hm tb46_ok ex46_ok in46_ok xf46_ok (by kernel_rfl) (fun _ => rfl)
def xf47 : FX := ⟨(.seq (.reg [(qx 6 (.mov (.c (.v (.bool false)))))]) (.seq (.reg [(qx 7 (.mov (.t 0))), (qx 8 (.mov (.t 1))), (qx 9 (.bin .geq (.t 7) (.t 8))), (qx 10 (.mov (.t 9))), ⟨⟨(some 11), (.mov (.t 0)), (some (10, true))⟩, .b, [], []⟩, ⟨⟨(some 12), (.mov (.t 2)), (some (10, true))⟩, .b, [], []⟩, ⟨⟨(some 13), (.bin .leq (.t 11) (.t 12)), (some (10, true))⟩, .b, [], []⟩, (qx 14 (.pick (.t 10) (.t 13) (.c (.v (.bool false))))), (qx 6 (.mov (.t 14)))]) .ret)), [], 15, [.t 6], 1⟩
theorem xf47_ok : xf47.ok Try.prog 47 := ⟨_, _, Try.func47, rfl, by kernel_rfl, rfl, by kernel_rfl, rfl, by kernel_rfl, by kernel_rfl⟩
def tb47 : List PE := []
theorem tb47_ok : PEsOk Try.prog tb47 := trivial
def ex47 : List EX := []
theorem ex47_ok : EXsOk Try.prog ex47 := trivial
def in47 : List IN := []
theorem in47_ok : INsOk Try.prog in47 := trivial
def F47 : DT ((.co (.v (.i .i64)) (.co (.v (.i .i64)) (.co (.v (.i .i64)) .no))) : Fm).den → Option (DT (.v .b : Fm).den) := pureT tb47 ex47 in47 0 xf47 _ _ []
def pe47 : PE := ⟨47, (.co (.v (.i .i64)) (.co (.v (.i .i64)) (.co (.v (.i .i64)) .no))), .v .b, F47⟩
theorem pe47_ok : pe47.ok Try.prog := pe_of hm tb47_ok ex47_ok in47_ok xf47_ok (by kernel_rfl) (fun _ => rfl)
def xf54 : FX := ⟨(.seq (.reg [(qx 2 (.mov (.c (.v (.bool false)))))]) (.seq (.reg [(qx 3 (.mov (.t 0))), (qx 4 (.call 0 47 [(.t 3), (.c (.v (.int .i64 0))), (.c (.v (.int .i64 63)))])), (qx 2 (.mov (.t 4)))]) .ret)), [4], 5, [.t 2], 2⟩
theorem xf54_ok : xf54.ok Try.prog 54 := ⟨_, _, Try.func54, rfl, by kernel_rfl, rfl, by kernel_rfl, rfl, by kernel_rfl, by kernel_rfl⟩
def tb54 : List PE := [pe47]
theorem tb54_ok : PEsOk Try.prog tb54 := ⟨pe47_ok, trivial⟩
def ex54 : List EX := []
theorem ex54_ok : EXsOk Try.prog ex54 := trivial
def in54 : List IN := []
theorem in54_ok : INsOk Try.prog in54 := trivial
def F54 : DT ((.co (.v (.i .i64)) .no) : Fm).den → Option (DT (.v .b : Fm).den) := pureT tb54 ex54 in54 0 xf54 _ _ []
def pe54 : PE := ⟨54, (.co (.v (.i .i64)) .no), .v .b, F54⟩
theorem pe54_ok : pe54.ok Try.prog := pe_of hm tb54_ok ex54_ok in54_ok xf54_ok (by kernel_rfl) (fun _ => rfl)
def xf57 : FX := ⟨(.seq (.reg [(qx 2 (.box 0 7 (.t 0))), (qx 4 (.mov (.c (.v (.bool false)))))]) (.seq (.cutN ⟨[5, 6, 7, 8, 9, 10, 11, 12, 13], [], ⟨[], [(5, .v .b)], []⟩⟩ (.reg [(qx 6 (.fad 5 (.t 2))), (qx 7 (.load false 1 (.t 6))), (qx 8 (.bin .eql (.t 7) (.c (.v (.int .i64 (-1)))))), (qx 9 (.mov (.t 8))), ⟨⟨(some 10), (.fad 6 (.t 2)), (some (9, true))⟩, .b, [], []⟩, ⟨⟨(some 11), (.load false 1 (.t 10)), (some (9, true))⟩, .b, [], []⟩, ⟨⟨(some 12), (.bin .eql (.t 11) (.c (.v (.int .u64 0)))), (some (9, true))⟩, .b, [], []⟩, (qx 13 (.pick (.t 9) (.t 12) (.c (.v (.bool false))))), (qx 5 (.mov (.t 13)))])) (.seq (.cutN ⟨[5, 14, 15, 16, 17, 18, 19, 20, 21, 22, 23, 24], [], ⟨[], [(5, .v .b)], []⟩⟩ (.seq (.reg [(qx 14 (.fad 1 (.t 2))), (qx 15 (.load false 1 (.t 14))), (qx 16 (.bin .eql (.t 15) (.c (.v (.int .i64 1)))))]) (.cond (.t 16) (.reg [(qx 17 (.fad 5 (.t 2))), (qx 18 (.load false 1 (.t 17))), (qx 19 (.call 1 54 [(.t 18)])), (qx 20 (.mov (.t 19))), ⟨⟨(some 21), (.fad 3 (.t 2)), (some (20, true))⟩, .b, [], []⟩, ⟨⟨(some 22), (.load false 1 (.t 21)), (some (20, true))⟩, .b, [], []⟩, ⟨⟨(some 23), (.bin .gtr (.t 22) (.c (.v (.int .u64 0)))), (some (20, true))⟩, .b, [], []⟩, (qx 24 (.pick (.t 20) (.t 23) (.c (.v (.bool false))))), (qx 5 (.mov (.t 24)))]) .skip))) (.seq (.reg [(qx 25 (.fad 0 (.t 2))), (qx 26 (.load false 1 (.t 25))), (qx 27 (.call 2 46 [(.t 26)])), (qx 28 (.un .not (.t 27))), (qx 29 (.mov (.t 28))), ⟨⟨(some 30), (.fad 1 (.t 2)), (some (29, false))⟩, .b, [], []⟩, ⟨⟨(some 31), (.load false 1 (.t 30)), (some (29, false))⟩, .b, [], []⟩, ⟨⟨(some 32), (.call 3 47 [(.t 31), (.c (.v (.int .i64 0))), (.c (.v (.int .i64 4)))]), (some (29, false))⟩, .b, [], []⟩, ⟨⟨(some 33), (.un .not (.t 32)), (some (29, false))⟩, .b, [], []⟩, (qx 34 (.pick (.t 29) (.c (.v (.bool true))) (.t 33))), (qx 35 (.mov (.t 34))), ⟨⟨(some 36), (.fad 2 (.t 2)), (some (35, false))⟩, .b, [], []⟩, ⟨⟨(some 37), (.load false 1 (.t 36)), (some (35, false))⟩, .b, [], []⟩, ⟨⟨(some 38), (.call 4 47 [(.t 37), (.c (.v (.int .i64 0))), (.c (.v (.int .i64 9)))]), (some (35, false))⟩, .b, [], []⟩, ⟨⟨(some 39), (.un .not (.t 38)), (some (35, false))⟩, .b, [], []⟩, (qx 40 (.pick (.t 35) (.c (.v (.bool true))) (.t 39))), (qx 41 (.mov (.t 40))), ⟨⟨(some 42), (.fad 3 (.t 2)), (some (41, false))⟩, .b, [], []⟩, ⟨⟨(some 43), (.load false 1 (.t 42)), (some (41, false))⟩, .b, [], []⟩, ⟨⟨(some 44), (.mov (.t 1)), (some (41, false))⟩, .b, [], []⟩, ⟨⟨(some 45), (.bin .gtr (.t 43) (.t 44)), (some (41, false))⟩, .b, [], []⟩, (qx 46 (.pick (.t 41) (.c (.v (.bool true))) (.t 45))), (qx 47 (.mov (.t 46))), ⟨⟨(some 48), (.fad 3 (.t 2)), (some (47, false))⟩, .b, [], []⟩, ⟨⟨(some 49), (.load false 1 (.t 48)), (some (47, false))⟩, .b, [], []⟩, ⟨⟨(some 50), (.bin .eql (.t 49) (.c (.v (.int .u64 0)))), (some (47, false))⟩, .b, [], []⟩, ⟨⟨(some 51), (.fad 4 (.t 2)), (some (47, false))⟩, .b, [], []⟩, ⟨⟨(some 52), (.load false 1 (.t 51)), (some (47, false))⟩, .b, [], []⟩, ⟨⟨(some 53), (.bin .eql (.t 52) (.c (.v (.int .i64 0)))), (some (47, false))⟩, .b, [], []⟩, ⟨⟨(some 54), (.binB true (.t 50) (.t 53)), (some (47, false))⟩, .b, [], []⟩, (qx 55 (.pick (.t 47) (.c (.v (.bool true))) (.t 54))), (qx 56 (.mov (.t 55))), ⟨⟨(some 57), (.fad 4 (.t 2)), (some (56, false))⟩, .b, [], []⟩, ⟨⟨(some 58), (.load false 1 (.t 57)), (some (56, false))⟩, .b, [], []⟩, ⟨⟨(some 59), (.call 5 47 [(.t 58), (.c (.v (.int .i64 0))), (.c (.v (.int .i64 100)))]), (some (56, false))⟩, .b, [], []⟩, ⟨⟨(some 60), (.un .not (.t 59)), (some (56, false))⟩, .b, [], []⟩, (qx 61 (.pick (.t 56) (.c (.v (.bool true))) (.t 60))), (qx 62 (.mov (.t 61))), ⟨⟨(some 63), (.mov (.t 5)), (some (62, false))⟩, .b, [], []⟩, ⟨⟨(some 64), (.un .not (.t 63)), (some (62, false))⟩, .b, [], []⟩, (qx 65 (.pick (.t 62) (.c (.v (.bool true))) (.t 64))), (qx 4 (.mov (.t 65)))]) .ret)))), [2, 19, 27, 32, 38, 59], 66, [.t 4], 7⟩
theorem xf57_ok : xf57.ok Try.prog 57 := ⟨_, _, Try.func57, rfl, by kernel_rfl, rfl, by kernel_rfl, rfl, by kernel_rfl, by kernel_rfl⟩
def tb57 : List PE := [pe46, pe47, pe54]
theorem tb57_ok : PEsOk Try.prog tb57 := ⟨pe46_ok, pe47_ok, pe54_ok, trivial⟩
def ex57 : List EX := []
theorem ex57_ok : EXsOk Try.prog ex57 := trivial
def in57 : List IN := []
theorem in57_ok : INsOk Try.prog in57 := trivial
def F57 : DT ((.co (.v (.p .s (.p (.i .i64) (.p (.i .i64) (.p (.i .u64) (.p (.i .i64) (.p (.i .i64) (.i .u64)))))))) (.co (.v (.i .u64)) .no)) : Fm).den → Option (DT (.v .b : Fm).den) := pureT tb57 ex57 in57 0 xf57 _ _ []
def pe57 : PE := ⟨57, (.co (.v (.p .s (.p (.i .i64) (.p (.i .i64) (.p (.i .u64) (.p (.i .i64) (.p (.i .i64) (.i .u64)))))))) (.co (.v (.i .u64)) .no)), .v .b, F57⟩
theorem pe57_ok : pe57.ok Try.prog := pe_of hm tb57_ok ex57_ok in57_ok xf57_ok (by kernel_rfl) (fun _ => rfl)
def xf26 : FX := ⟨(.seq (.reg [(qx 1 (.box 0 3 (.t 0))), (qx 2 (.mov (.c (.v (.int .i64 0)))))]) (.seq (.reg [⟨⟨(some 6), (.mkm 1), none⟩, (.p (.i .u64) .b), [], []⟩, (qx 3 (.mov (.t 6)))]) (.seq (.cut ⟨[2, 4, 5, 7, 8, 9, 10, 11, 12, 13, 14, 15, 16, 17, 18, 19, 20, 21, 22, 23, 24, 25, 26, 27, 28, 29, 30, 31, 32, 33, 34, 35, 36, 37, 38, 39, 40, 41, 42, 43, 44, 45, 46, 47], [1, 2], ⟨[], [], [⟨1, .map (.i .u64) .b, true⟩]⟩⟩ (.seq (.reg [(qx 7 (.fad 2 (.t 1))), (qx 8 (.load false 1 (.t 7))), (qx 9 (.len (.t 8))), (qx 10 (.mov (.c (.v (.int .i64 0)))))]) (.blk 0 (.loop ⟨[2, 4, 5, 10, 11, 12, 13, 14, 15, 16, 17, 18, 19, 20, 21, 22, 23, 24, 25, 26, 27, 28, 29, 30, 31, 32, 33, 34, 35, 36, 37, 38, 39, 40, 41, 42, 43, 44, 45, 46, 47], [1, 2], ⟨[], [(10, .v (.i .i64))], [⟨1, .map (.i .u64) .b, true⟩]⟩⟩ (.seq (.reg [(qx 11 (.bin .lss (.t 10) (.t 9)))]) (.seq (.cond (.t 11) .skip (.exit 0)) (.seq (.cut ⟨[2, 4, 5, 12, 13, 14, 15, 16, 17, 18, 19, 20, 21, 22, 23, 24, 25, 26, 27, 28, 29, 30, 31, 32, 33, 34, 35, 36, 37, 38, 39, 40, 41, 42, 43, 44, 45, 46], [1, 2], ⟨[], [], [⟨1, .map (.i .u64) .b, true⟩]⟩⟩ (.blk 1 (.seq (.reg [(qx 12 (.mov (.t 10))), (qx 13 (.iad 7 (.t 8) (.t 10))), (qx 14 (.load true 7 (.t 13))), ⟨⟨(some 5), (.alloc 2 (.agg [(.v (.string ⟨#[]⟩)), (.v (.int .i64 0)), (.v (.int .i64 0)), (.v (.int .u64 0)), (.v (.int .i64 0)), (.v (.int .i64 0)), (.v (.int .u64 0))])), none⟩, .b, [], []⟩, (qx 4 (.mov (.t 12))), ⟨⟨none, (.store 7 (.t 5) (.t 14)), none⟩, .b, [], []⟩]) (.seq (.cut ⟨[2, 15, 16, 17, 18, 19, 20, 21, 22, 23, 24, 25, 26, 27, 28, 29, 30, 31, 32, 33, 34, 35, 36, 37, 38, 39, 40], [], ⟨[], [], []⟩⟩ (.seq (.cutN ⟨[15, 16, 17, 18, 19, 20, 21, 22, 23, 24, 25, 26, 27, 28, 29, 30, 31, 32, 33, 34, 35, 36, 37, 38, 39, 40], [], ⟨[], [(40, .v .b)], []⟩⟩ (.dr [] [(qx 15 (.load true 7 (.t 5))), (qx 16 (.fad 1 (.t 1))), (qx 17 (.load false 1 (.t 16))), (qx 18 (.callG 3 57 [(.t 15), (.t 17)])), (qx 19 (.mov (.t 18))), ⟨⟨(some 20), (.mov (.t 4)), (some (19, false))⟩, .b, [], []⟩, ⟨⟨(some 21), (.bin .gtr (.t 20) (.c (.v (.int .i64 0)))), (some (19, false))⟩, .b, [], []⟩, ⟨⟨(some 22), (.mov (.t 21)), (some (19, false))⟩, .b, [], []⟩, ⟨⟨(some 23), (.fad 2 (.t 1)), (some (22, true))⟩, .b, [], []⟩, ⟨⟨(some 24), (.load false 1 (.t 23)), (some (22, true))⟩, .b, [], []⟩, ⟨⟨(some 25), (.mov (.t 4)), (some (22, true))⟩, .b, [], []⟩, ⟨⟨(some 26), (.bin .sub (.t 25) (.c (.v (.int .i64 1)))), (some (22, true))⟩, .b, [], []⟩, ⟨⟨(some 27), (.iad 7 (.t 24) (.t 26)), (some (22, true))⟩, .b, [], []⟩, ⟨⟨(some 28), (.fad 0 (.t 27)), (some (22, true))⟩, .b, [], []⟩, ⟨⟨(some 29), (.load false 1 (.t 28)), (some (22, true))⟩, .b, [], []⟩, ⟨⟨(some 30), (.fad 0 (.t 5)), (some (22, true))⟩, .b, [], []⟩, ⟨⟨(some 31), (.load false 1 (.t 30)), (some (22, true))⟩, .b, [], []⟩, ⟨⟨(some 32), (.bin .geq (.t 29) (.t 31)), (some (22, true))⟩, .b, [], []⟩, ⟨⟨(some 33), (.pick (.t 22) (.t 32) (.c (.v (.bool false)))), (some (19, false))⟩, .b, [], []⟩, (qx 34 (.pick (.t 19) (.c (.v (.bool true))) (.t 33))), (qx 35 (.mov (.t 34))), ⟨⟨(some 36), (.mov (.t 3)), (some (35, false))⟩, .b, [], []⟩, ⟨⟨(some 37), (.fad 3 (.t 5)), (some (35, false))⟩, .b, [], []⟩, ⟨⟨(some 38), (.load false 1 (.t 37)), (some (35, false))⟩, .b, [], []⟩, ⟨⟨(some 39), (.lkp false .i (.v (.bool false)) (.t 36) (.t 38)), (some (35, false))⟩, .b, [], []⟩, (qx 40 (.pick (.t 35) (.c (.v (.bool true))) (.t 39)))])) (.cond (.t 40) (.seq (.reg [(qx 2 (.mov (.c (.v (.int .i64 1)))))]) .ret) .skip))) (.reg [(qx 41 (.mov (.t 3))), (qx 42 (.fad 3 (.t 5))), (qx 43 (.load false 1 (.t 42))), (qx 44 (.fad 3 (.t 5))), (qx 45 (.load false 1 (.t 44))), (qx 46 (.bin .gtr (.t 45) (.c (.v (.int .u64 0))))), ⟨⟨none, (.mup .i (.t 41) (.t 43) (.t 46)), none⟩, .b, [], []⟩]))))) (.reg [(qx 47 (.bin .add (.t 10) (.c (.v (.int .i64 1))))), (qx 10 (.mov (.t 47)))])))))))) (.seq (.seq (.reg [(qx 48 (.fad 2 (.t 1))), (qx 49 (.load false 1 (.t 48))), (qx 50 (.len (.t 49))), (qx 51 (.bin .gtr (.t 50) (.c (.v (.int .i64 100)))))]) (.cond (.t 51) (.seq (.reg [(qx 2 (.mov (.c (.v (.int .i64 1)))))]) .ret) .skip)) (.seq (.reg [(qx 2 (.mov (.c (.v (.int .i64 0)))))]) .ret))))), [1, 6, 5, 18], 52, [.t 2], 5⟩
theorem xf26_ok : xf26.ok Try.prog 26 := ⟨_, _, Try.func26, rfl, by kernel_rfl, rfl, by kernel_rfl, rfl, by kernel_rfl, by kernel_rfl⟩
def tb26 : List PE := [pe57]
theorem tb26_ok : PEsOk Try.prog tb26 := ⟨pe57_ok, trivial⟩
def ex26 : List EX := []
theorem ex26_ok : EXsOk Try.prog ex26 := trivial
def in26 : List IN := []
theorem in26_ok : INsOk Try.prog in26 := trivial
def F26 : DT ((.co (.v (.p (.i .u64) (.p (.i .u64) (.sl (.p .s (.p (.i .i64) (.p (.i .i64) (.p (.i .u64) (.p (.i .i64) (.p (.i .i64) (.i .u64))))))))))) .no) : Fm).den → Option (DT (.v (.i .i64) : Fm).den) := pureT tb26 ex26 in26 0 xf26 _ _ []
def pe26 : PE := ⟨26, (.co (.v (.p (.i .u64) (.p (.i .u64) (.sl (.p .s (.p (.i .i64) (.p (.i .i64) (.p (.i .u64) (.p (.i .i64) (.p (.i .i64) (.i .u64))))))))))) .no), .v (.i .i64), F26⟩
theorem pe26_ok : pe26.ok Try.prog := pe_of hm tb26_ok ex26_ok in26_ok xf26_ok (by kernel_rfl) (fun _ => rfl)
def xf62 : FX := ⟨(.seq (.reg [(qx 4 (.mov (.c (.v (.int .i64 0)))))]) (.seq (.reg [(qx 7 (.mov (.t 0))), (qx 8 (.call 0 68 [(.t 7)])), (qx 5 (.mov (.t 8)))]) (.seq (.reg [(qx 9 (.mov (.t 1))), (qx 10 (.call 1 68 [(.t 9)])), (qx 6 (.mov (.t 10)))]) (.seq (.seq (.reg [(qx 11 (.mov (.t 5)))]) (.cond (.t 11) (.seq (.seq (.reg [(qx 12 (.mov (.t 6)))]) (.cond (.t 12) (.seq (.reg [(qx 4 (.mov (.c (.v (.int .i64 0)))))]) .ret) .skip)) (.seq (.reg [(qx 4 (.mov (.c (.v (.int .i64 (-1))))))]) .ret)) .skip)) (.seq (.seq (.reg [(qx 13 (.mov (.t 6)))]) (.cond (.t 13) (.seq (.reg [(qx 4 (.mov (.c (.v (.int .i64 1)))))]) .ret) .skip)) (.seq (.seq (.reg [(qx 14 (.mov (.t 0))), (qx 15 (.mov (.t 1))), (qx 16 (.bin .lss (.t 14) (.t 15)))]) (.cond (.t 16) (.seq (.reg [(qx 4 (.mov (.c (.v (.int .i64 (-1))))))]) .ret) .skip)) (.seq (.seq (.reg [(qx 17 (.mov (.t 0))), (qx 18 (.mov (.t 1))), (qx 19 (.bin .gtr (.t 17) (.t 18)))]) (.cond (.t 19) (.seq (.reg [(qx 4 (.mov (.c (.v (.int .i64 1)))))]) .ret) .skip)) (.seq (.reg [(qx 4 (.mov (.c (.v (.int .i64 0)))))]) .ret)))))))), [8, 10], 20, [.t 4], 5⟩
theorem xf62_ok : xf62.ok Try.prog 62 := ⟨_, _, Try.func62, rfl, by kernel_rfl, rfl, by kernel_rfl, rfl, by kernel_rfl, by kernel_rfl⟩
def ff68 : FX := ⟨(.seq (.reg [(qx 2 (.mov (.c (.v (.bool false)))))]) (.seq (.reg [(qx 3 (.mov (.t 0))), (qx 4 (.mov (.t 0))), (qx 5 (.bin .neq (.t 3) (.t 4))), (qx 2 (.mov (.t 5)))]) .ret)), [], 6, [.t 2], 1⟩
theorem ff68_ok : ff68.ok Try.prog 68 := ⟨_, _, Try.func68, rfl, by kernel_rfl, rfl, by kernel_rfl, rfl, by kernel_rfl, by kernel_rfl⟩
def tb62 : List PE := []
theorem tb62_ok : PEsOk Try.prog tb62 := trivial
def ex62 : List EX := []
theorem ex62_ok : EXsOk Try.prog ex62 := trivial
def in62 : List IN := [⟨0, 68, 3, ff68, none⟩, ⟨1, 68, 4, ff68, none⟩]
theorem in62_ok : INsOk Try.prog in62 := ⟨ff68_ok, ff68_ok, trivial⟩
def F62 : DT ((.co (.v .s) (.co (.v .s) .no)) : Fm).den → Option (DT (.v (.i .i64) : Fm).den) := pureT tb62 ex62 in62 9 xf62 _ _ []
def pe62 : PE := ⟨62, (.co (.v .s) (.co (.v .s) .no)), .v (.i .i64), F62⟩
theorem pe62_ok : pe62.ok Try.prog := pe_of hm tb62_ok ex62_ok in62_ok xf62_ok (by kernel_rfl) (fun _ => rfl)
def xf61 : FX := ⟨(.seq (.reg [(qx 2 (.box 0 7 (.t 0))), (qx 4 (.mov (.c (.v (.int .i64 0)))))]) (.seq (.reg [(qx 5 (.fad 0 (.t 2))), (qx 6 (.load false 1 (.t 5))), (qx 7 (.mov (.t 1))), (qx 8 (.call 1 62 [(.t 6), (.t 7)])), (qx 4 (.mov (.t 8)))]) .ret)), [2, 8], 9, [.t 4], 3⟩
theorem xf61_ok : xf61.ok Try.prog 61 := ⟨_, _, Try.func61, rfl, by kernel_rfl, rfl, by kernel_rfl, rfl, by kernel_rfl, by kernel_rfl⟩
def tb61 : List PE := [pe62]
theorem tb61_ok : PEsOk Try.prog tb61 := ⟨pe62_ok, trivial⟩
def ex61 : List EX := []
theorem ex61_ok : EXsOk Try.prog ex61 := trivial
def in61 : List IN := []
theorem in61_ok : INsOk Try.prog in61 := trivial
def F61 : DT ((.co (.v (.p .s (.p (.i .i64) (.p (.i .i64) (.p (.i .u64) (.p (.i .i64) (.p (.i .i64) (.i .u64)))))))) (.co (.v .s) .no)) : Fm).den → Option (DT (.v (.i .i64) : Fm).den) := pureT tb61 ex61 in61 0 xf61 _ _ []
def pe61 : PE := ⟨61, (.co (.v (.p .s (.p (.i .i64) (.p (.i .i64) (.p (.i .u64) (.p (.i .i64) (.p (.i .i64) (.i .u64)))))))) (.co (.v .s) .no)), .v (.i .i64), F61⟩
theorem pe61_ok : pe61.ok Try.prog := pe_of hm tb61_ok ex61_ok in61_ok xf61_ok (by kernel_rfl) (fun _ => rfl)
def xf36 : FX := ⟨(.seq (.reg [(qx 2 (.box 0 3 (.t 0))), (qx 4 (.mov (.c (.v (.int .i64 0))))), (qx 5 (.mov (.c (.v (.bool false)))))]) (.seq (.reg [(qx 6 (.fad 2 (.t 2))), (qx 7 (.load false 1 (.t 6))), (qx 8 (.mov (.t 1))), (qx 9 (.call 1 60 [(.t 7), (.t 8), (.c (.clo 61 [] []))])), (qx 10 (.ext (.t 9) 0)), (qx 11 (.ext (.t 9) 1)), (qx 4 (.mov (.t 10))), (qx 5 (.mov (.t 11)))]) .ret)), [2, 9], 12, [.t 4, .t 5], 6⟩
theorem xf36_ok : xf36.ok Try.prog 36 := ⟨_, _, Try.func36, rfl, by kernel_rfl, rfl, by kernel_rfl, rfl, by kernel_rfl, by kernel_rfl⟩
def ff60 : FX := ⟨(.seq (.reg [(qx 6 (.mov (.c (.v (.int .i64 0))))), (qx 7 (.mov (.c (.v (.bool false)))))]) (.seq (.reg [(qx 12 (.mov (.t 0))), (qx 13 (.len (.t 12))), (qx 8 (.mov (.t 13)))]) (.seq (.reg [(qx 14 (.mov (.t 8))), (qx 9 (.mov (.c (.v (.int .i64 0))))), (qx 10 (.mov (.t 14)))]) (.seq (.cutN ⟨[9, 10, 11, 15, 16, 17, 18, 19, 20, 21, 22, 23, 24, 25, 26, 27, 28, 29, 30, 31, 32, 33, 34], [], ⟨[], [(9, .v (.i .i64))], []⟩⟩ (.blk 0 (.loop ⟨[9, 10, 11, 15, 16, 17, 18, 19, 20, 21, 22, 23, 24, 25, 26, 27, 28, 29, 30, 31, 32, 33, 34], [], ⟨[], [(9, .v (.i .i64)), (10, .v (.i .i64))], []⟩⟩ (.seq (.seq (.reg [(qx 15 (.mov (.t 9))), (qx 16 (.mov (.t 10))), (qx 17 (.bin .lss (.t 15) (.t 16)))]) (.cond (.t 17) .skip (.exit 0))) (.blk 1 (.seq (.reg [(qx 18 (.mov (.t 9))), (qx 19 (.mov (.t 10))), (qx 20 (.bin .add (.t 18) (.t 19))), (qx 21 (.conv .u64 (.t 20))), (qx 22 (.bin .shr (.t 21) (.c (.v (.int .u64 1))))), (qx 23 (.conv .i64 (.t 22))), (qx 11 (.mov (.t 23)))]) (.seq (.reg [(qx 24 (.mov (.t 2))), (qx 25 (.mov (.t 0))), (qx 26 (.mov (.t 11))), (qx 27 (.iad 7 (.t 25) (.t 26))), (qx 28 (.load true 7 (.t 27))), (qx 29 (.mov (.t 1))), (qx 30 (.callv 0 (.t 24) [(.t 28), (.t 29)])), (qx 31 (.bin .lss (.t 30) (.c (.v (.int .i64 0)))))]) (.cond (.t 31) (.reg [(qx 32 (.mov (.t 11))), (qx 33 (.bin .add (.t 32) (.c (.v (.int .i64 1))))), (qx 9 (.mov (.t 33)))]) (.reg [(qx 34 (.mov (.t 11))), (qx 10 (.mov (.t 34)))]))))))))) (.seq (.reg [(qx 35 (.mov (.t 9))), (qx 36 (.mov (.t 9))), (qx 37 (.mov (.t 8))), (qx 38 (.bin .lss (.t 36) (.t 37))), (qx 39 (.mov (.t 38))), ⟨⟨(some 40), (.mov (.t 2)), (some (39, true))⟩, .b, [], []⟩, ⟨⟨(some 41), (.mov (.t 0)), (some (39, true))⟩, .b, [], []⟩, ⟨⟨(some 42), (.mov (.t 9)), (some (39, true))⟩, .b, [], []⟩, ⟨⟨(some 43), (.iad 7 (.t 41) (.t 42)), (some (39, true))⟩, .b, [], []⟩, ⟨⟨(some 44), (.load true 7 (.t 43)), (some (39, true))⟩, .b, [], []⟩, ⟨⟨(some 45), (.mov (.t 1)), (some (39, true))⟩, .b, [], []⟩, ⟨⟨(some 46), (.callv 1 (.t 40) [(.t 44), (.t 45)]), (some (39, true))⟩, .b, [], []⟩, ⟨⟨(some 47), (.bin .eql (.t 46) (.c (.v (.int .i64 0)))), (some (39, true))⟩, .b, [], []⟩, (qx 48 (.pick (.t 39) (.t 47) (.c (.v (.bool false))))), (qx 6 (.mov (.t 35))), (qx 7 (.mov (.t 48)))]) .ret))))), [30, 46], 49, [.t 6, .t 7], 3⟩
theorem ff60_ok : ff60.ok Try.prog 60 := ⟨_, _, Try.func60, rfl, by kernel_rfl, rfl, by kernel_rfl, rfl, by kernel_rfl, by kernel_rfl⟩
def tb36 : List PE := [pe61]
theorem tb36_ok : PEsOk Try.prog tb36 := ⟨pe61_ok, trivial⟩
def ex36 : List EX := []
theorem ex36_ok : EXsOk Try.prog ex36 := trivial
def in36 : List IN := [⟨1, 60, 3, ff60, some ⟨[0, 1, 2, 3, 4, 5, 6, 7, 8, 9, 10, 11, 12, 13, 14, 15, 16, 17, 18, 19, 20, 21, 22, 23, 24, 25, 26, 27, 28, 29, 30, 31, 32, 33, 34, 35, 36, 37, 38, 39, 40, 41, 42, 43, 44, 45, 46, 47, 48], [3, 4, 5], ⟨[], [(6, .v (.i .i64)), (7, .v .b)], []⟩⟩⟩]
theorem in36_ok : INsOk Try.prog in36 := ⟨ff60_ok, trivial⟩
def F36 : DT ((.co (.v (.p (.i .u64) (.p (.i .u64) (.sl (.p .s (.p (.i .i64) (.p (.i .i64) (.p (.i .u64) (.p (.i .i64) (.p (.i .i64) (.i .u64))))))))))) (.co (.v .s) .no)) : Fm).den → Option (DT (.tup (.co (.v (.i .i64)) (.co (.v .b) .no)) : Fm).den) := pureT tb36 ex36 in36 9 xf36 _ _ []
def pe36 : PE := ⟨36, (.co (.v (.p (.i .u64) (.p (.i .u64) (.sl (.p .s (.p (.i .i64) (.p (.i .i64) (.p (.i .u64) (.p (.i .i64) (.p (.i .i64) (.i .u64))))))))))) (.co (.v .s) .no)), .tup (.co (.v (.i .i64)) (.co (.v .b) .no)), F36⟩
theorem pe36_ok : pe36.ok Try.prog := pe_of hm tb36_ok ex36_ok in36_ok xf36_ok (by kernel_rfl) (fun _ => rfl)
def xf11 : FX := ⟨(.seq (.reg [(qx 2 (.box 0 3 (.t 0))), ⟨⟨(some 4), (.alloc 1 (.agg [(.v (.string ⟨#[]⟩)), (.v (.int .i64 0)), (.v (.int .i64 0)), (.v (.int .u64 0)), (.v (.int .i64 0)), (.v (.int .i64 0)), (.v (.int .u64 0))])), none⟩, .b, [], []⟩, (qx 5 (.mov (.c (.v (.int .i64 0)))))]) (.seq (.seq (.reg [(qx 9 (.load true 3 (.t 2))), (qx 10 (.call 2 26 [(.t 9)])), (qx 6 (.mov (.t 10)))]) (.seq (.reg [(qx 11 (.mov (.t 6))), (qx 12 (.bin .neq (.t 11) (.c (.v (.int .i64 0)))))]) (.cond (.t 12) (.seq (.reg [⟨⟨(some 13), (.bld [(.v (.string ⟨#[]⟩)), (.v (.int .i64 0)), (.v (.int .i64 0)), (.v (.int .u64 0)), (.v (.int .i64 0)), (.v (.int .i64 0)), (.v (.int .u64 0))] []), none⟩, .b, [], []⟩, (qx 14 (.mov (.t 6))), ⟨⟨none, (.store 7 (.t 4) (.t 13)), none⟩, .b, [], []⟩, (qx 5 (.mov (.t 14)))]) .ret) .skip))) (.seq (.reg [(qx 16 (.load true 3 (.t 2))), (qx 17 (.mov (.t 1))), (qx 18 (.call 3 36 [(.t 16), (.t 17)])), (qx 15 (.mov (.t 18))), (qx 19 (.ext (.t 15) 0)), (qx 20 (.ext (.t 15) 1)), (qx 7 (.mov (.t 19))), (qx 8 (.mov (.t 20)))]) (.seq (.seq (.reg [(qx 21 (.mov (.t 8))), (qx 22 (.un .not (.t 21)))]) (.cond (.t 22) (.seq (.reg [⟨⟨(some 23), (.bld [(.v (.string ⟨#[]⟩)), (.v (.int .i64 0)), (.v (.int .i64 0)), (.v (.int .u64 0)), (.v (.int .i64 0)), (.v (.int .i64 0)), (.v (.int .u64 0))] []), none⟩, .b, [], []⟩, ⟨⟨none, (.store 7 (.t 4) (.t 23)), none⟩, .b, [], []⟩, (qx 5 (.mov (.c (.v (.int .i64 6)))))]) .ret) .skip)) (.seq (.reg [(qx 24 (.fad 2 (.t 2))), (qx 25 (.load false 1 (.t 24))), (qx 26 (.mov (.t 7))), (qx 27 (.iad 7 (.t 25) (.t 26))), (qx 28 (.load true 7 (.t 27))), ⟨⟨none, (.store 7 (.t 4) (.t 28)), none⟩, .b, [], []⟩, (qx 5 (.mov (.c (.v (.int .i64 0)))))]) .ret))))), [2, 4, 10, 18], 29, [.c 4 32 true 7, .t 5], 5⟩
theorem xf11_ok : xf11.ok Try.prog 11 := ⟨_, _, Try.func11, rfl, by kernel_rfl, rfl, by kernel_rfl, rfl, by kernel_rfl, by kernel_rfl⟩
def tb11 : List PE := [pe26, pe36]
theorem tb11_ok : PEsOk Try.prog tb11 := ⟨pe26_ok, pe36_ok, trivial⟩
def ex11 : List EX := []
theorem ex11_ok : EXsOk Try.prog ex11 := trivial
def in11 : List IN := []
theorem in11_ok : INsOk Try.prog in11 := trivial
def F11 : DT ((.co (.v (.p (.i .u64) (.p (.i .u64) (.sl (.p .s (.p (.i .i64) (.p (.i .i64) (.p (.i .u64) (.p (.i .i64) (.p (.i .i64) (.i .u64))))))))))) (.co (.v .s) .no)) : Fm).den → Option (DT (.tup (.co (.v (.p .s (.p (.i .i64) (.p (.i .i64) (.p (.i .u64) (.p (.i .i64) (.p (.i .i64) (.i .u64)))))))) (.co (.v (.i .i64)) .no)) : Fm).den) := pureT tb11 ex11 in11 0 xf11 _ _ []
def pe11 : PE := ⟨11, (.co (.v (.p (.i .u64) (.p (.i .u64) (.sl (.p .s (.p (.i .i64) (.p (.i .i64) (.p (.i .u64) (.p (.i .i64) (.p (.i .i64) (.i .u64))))))))))) (.co (.v .s) .no)), .tup (.co (.v (.p .s (.p (.i .i64) (.p (.i .i64) (.p (.i .u64) (.p (.i .i64) (.p (.i .i64) (.i .u64)))))))) (.co (.v (.i .i64)) .no)), F11⟩
theorem pe11_ok : pe11.ok Try.prog := pe_of hm tb11_ok ex11_ok in11_ok xf11_ok (by kernel_rfl) (fun _ => rfl)
def xf12 : FX := ⟨(.seq (.reg [(qx 1 (.box 0 2 (.t 0))), (qx 2 (.mov (.c (.v (.bool false)))))]) (.seq (.reg [(qx 3 (.fad 0 (.t 1))), (qx 4 (.load false 1 (.t 3))), (qx 5 (.bin .leq (.c (.v (.int .i64 1))) (.t 4))), (qx 6 (.mov (.t 5))), ⟨⟨(some 7), (.fad 0 (.t 1)), (some (6, true))⟩, .b, [], []⟩, ⟨⟨(some 8), (.load false 1 (.t 7)), (some (6, true))⟩, .b, [], []⟩, ⟨⟨(some 9), (.bin .leq (.t 8) (.c (.v (.int .i64 100)))), (some (6, true))⟩, .b, [], []⟩, (qx 10 (.pick (.t 6) (.t 9) (.c (.v (.bool false))))), (qx 11 (.mov (.t 10))), ⟨⟨(some 12), (.fad 1 (.t 1)), (some (11, true))⟩, .b, [], []⟩, ⟨⟨(some 13), (.load false 1 (.t 12)), (some (11, true))⟩, .b, [], []⟩, ⟨⟨(some 14), (.bin .leq (.c (.v (.int .i64 1))) (.t 13)), (some (11, true))⟩, .b, [], []⟩, (qx 15 (.pick (.t 11) (.t 14) (.c (.v (.bool false))))), (qx 16 (.mov (.t 15))), ⟨⟨(some 17), (.fad 1 (.t 1)), (some (16, true))⟩, .b, [], []⟩, ⟨⟨(some 18), (.load false 1 (.t 17)), (some (16, true))⟩, .b, [], []⟩, ⟨⟨(some 19), (.bin .leq (.t 18) (.c (.v (.int .i64 100)))), (some (16, true))⟩, .b, [], []⟩, (qx 20 (.pick (.t 16) (.t 19) (.c (.v (.bool false))))), (qx 2 (.mov (.t 20)))]) .ret)), [1], 21, [.t 2], 2⟩
theorem xf12_ok : xf12.ok Try.prog 12 := ⟨_, _, Try.func12, rfl, by kernel_rfl, rfl, by kernel_rfl, rfl, by kernel_rfl, by kernel_rfl⟩
def tb12 : List PE := []
theorem tb12_ok : PEsOk Try.prog tb12 := trivial
def ex12 : List EX := []
theorem ex12_ok : EXsOk Try.prog ex12 := trivial
def in12 : List IN := []
theorem in12_ok : INsOk Try.prog in12 := trivial
def F12 : DT ((.co (.v (.p (.i .i64) (.i .i64))) .no) : Fm).den → Option (DT (.v .b : Fm).den) := pureT tb12 ex12 in12 0 xf12 _ _ []
def pe12 : PE := ⟨12, (.co (.v (.p (.i .i64) (.i .i64))) .no), .v .b, F12⟩
theorem pe12_ok : pe12.ok Try.prog := pe_of hm tb12_ok ex12_ok in12_ok xf12_ok (by kernel_rfl) (fun _ => rfl)
def xf29 : FX := ⟨(.seq (.reg [(qx 1 (.box 0 2 (.t 0))), (qx 2 (.mov (.c (.v (.int .i64 0)))))]) (.seq (.seq (.cutN ⟨[3, 4, 5, 6, 7, 8, 9, 10, 11, 12], [], ⟨[], [(12, .v .b)], []⟩⟩ (.reg [(qx 3 (.fad 0 (.t 1))), (qx 4 (.load false 1 (.t 3))), (qx 5 (.call 1 47 [(.t 4), (.c (.v (.int .i64 1))), (.c (.v (.int .i64 100)))])), (qx 6 (.un .not (.t 5))), (qx 7 (.mov (.t 6))), ⟨⟨(some 8), (.fad 1 (.t 1)), (some (7, false))⟩, .b, [], []⟩, ⟨⟨(some 9), (.load false 1 (.t 8)), (some (7, false))⟩, .b, [], []⟩, ⟨⟨(some 10), (.call 2 47 [(.t 9), (.c (.v (.int .i64 1))), (.c (.v (.int .i64 100)))]), (some (7, false))⟩, .b, [], []⟩, ⟨⟨(some 11), (.un .not (.t 10)), (some (7, false))⟩, .b, [], []⟩, (qx 12 (.pick (.t 7) (.c (.v (.bool true))) (.t 11)))])) (.cond (.t 12) (.seq (.reg [(qx 2 (.mov (.c (.v (.int .i64 1)))))]) .ret) .skip)) (.seq (.reg [(qx 2 (.mov (.c (.v (.int .i64 0)))))]) .ret))), [1, 5, 10], 13, [.t 2], 4⟩
theorem xf29_ok : xf29.ok Try.prog 29 := ⟨_, _, Try.func29, rfl, by kernel_rfl, rfl, by kernel_rfl, rfl, by kernel_rfl, by kernel_rfl⟩
def tb29 : List PE := [pe47]
theorem tb29_ok : PEsOk Try.prog tb29 := ⟨pe47_ok, trivial⟩
def ex29 : List EX := []
theorem ex29_ok : EXsOk Try.prog ex29 := trivial
def in29 : List IN := []
theorem in29_ok : INsOk Try.prog in29 := trivial
def F29 : DT ((.co (.v (.p (.i .i64) (.i .i64))) .no) : Fm).den → Option (DT (.v (.i .i64) : Fm).den) := pureT tb29 ex29 in29 0 xf29 _ _ []
def pe29 : PE := ⟨29, (.co (.v (.p (.i .i64) (.i .i64))) .no), .v (.i .i64), F29⟩
theorem pe29_ok : pe29.ok Try.prog := pe_of hm tb29_ok ex29_ok in29_ok xf29_ok (by kernel_rfl) (fun _ => rfl)
def xf43 : FX := ⟨(.seq (.reg [(qx 1 (.box 0 7 (.t 0))), (qx 2 (.mov (.c (.v (.bool false)))))]) (.seq (.reg [(qx 3 (.fad 1 (.t 1))), (qx 4 (.load false 1 (.t 3))), (qx 5 (.bin .eql (.t 4) (.c (.v (.int .i64 0))))), (qx 6 (.mov (.t 5))), ⟨⟨(some 7), (.fad 1 (.t 1)), (some (6, false))⟩, .b, [], []⟩, ⟨⟨(some 8), (.load false 1 (.t 7)), (some (6, false))⟩, .b, [], []⟩, ⟨⟨(some 9), (.bin .eql (.t 8) (.c (.v (.int .i64 1)))), (some (6, false))⟩, .b, [], []⟩, (qx 10 (.pick (.t 6) (.c (.v (.bool true))) (.t 9))), (qx 2 (.mov (.t 10)))]) .ret)), [1], 11, [.t 2], 2⟩
theorem xf43_ok : xf43.ok Try.prog 43 := ⟨_, _, Try.func43, rfl, by kernel_rfl, rfl, by kernel_rfl, rfl, by kernel_rfl, by kernel_rfl⟩
def tb43 : List PE := []
theorem tb43_ok : PEsOk Try.prog tb43 := trivial
def ex43 : List EX := []
theorem ex43_ok : EXsOk Try.prog ex43 := trivial
def in43 : List IN := []
theorem in43_ok : INsOk Try.prog in43 := trivial
def F43 : DT ((.co (.v (.p .s (.p (.i .i64) (.p (.i .i64) (.p (.i .u64) (.p (.i .i64) (.p (.i .i64) (.i .u64)))))))) .no) : Fm).den → Option (DT (.v .b : Fm).den) := pureT tb43 ex43 in43 0 xf43 _ _ []
def pe43 : PE := ⟨43, (.co (.v (.p .s (.p (.i .i64) (.p (.i .i64) (.p (.i .u64) (.p (.i .i64) (.p (.i .i64) (.i .u64)))))))) .no), .v .b, F43⟩
theorem pe43_ok : pe43.ok Try.prog := pe_of hm tb43_ok ex43_ok in43_ok xf43_ok (by kernel_rfl) (fun _ => rfl)
def xf34 : FX := ⟨(.seq (.reg [(qx 4 (.mov (.c (.v (.bool false)))))]) (.seq (.seq (.reg [(qx 6 (.mov (.t 0))), (qx 7 (.len (.t 6))), (qx 8 (.mov (.t 1))), (qx 9 (.len (.t 8))), (qx 10 (.bin .neq (.t 7) (.t 9)))]) (.cond (.t 10) (.seq (.reg [(qx 4 (.mov (.c (.v (.bool false)))))]) .ret) .skip)) (.seq (.seq (.reg [(qx 5 (.mov (.c (.v (.int .i64 0)))))]) (.blk 0 (.loop ⟨[4, 5, 11, 12, 13, 14, 15, 16, 17, 18, 19, 20, 21, 22, 23, 24, 25], [], ⟨[], [(5, .v (.i .i64))], []⟩⟩ (.seq (.seq (.reg [(qx 11 (.mov (.t 5))), (qx 12 (.mov (.t 0))), (qx 13 (.len (.t 12))), (qx 14 (.bin .lss (.t 11) (.t 13)))]) (.cond (.t 14) .skip (.exit 0))) (.seq (.blk 1 (.seq (.rdr [(qx 17 (.mov (.t 0))), (qx 18 (.mov (.t 5))), (qx 19 (.iad 7 (.t 17) (.t 18))), (qx 20 (.load true 7 (.t 19))), (qx 21 (.mov (.t 1))), (qx 22 (.mov (.t 5))), (qx 23 (.iad 7 (.t 21) (.t 22))), (qx 24 (.load true 7 (.t 23))), (qx 25 (.eqA true 7 [(0, .s), (1, .i), (2, .i), (3, .i), (4, .i), (5, .i), (6, .i)] (.t 20) (.t 24)))]) (.cond (.t 25) (.seq (.reg [(qx 4 (.mov (.c (.v (.bool false)))))]) .ret) .skip))) (.reg [(qx 15 (.mov (.t 5))), (qx 16 (.bin .add (.t 15) (.c (.v (.int .i64 1))))), (qx 5 (.mov (.t 16)))])))))) (.seq (.reg [(qx 4 (.mov (.c (.v (.bool true)))))]) .ret)))), [], 26, [.t 4], 1⟩
theorem xf34_ok : xf34.ok Try.prog 34 := ⟨_, _, Try.func34, rfl, by kernel_rfl, rfl, by kernel_rfl, rfl, by kernel_rfl, by kernel_rfl⟩
def tb34 : List PE := []
theorem tb34_ok : PEsOk Try.prog tb34 := trivial
def ex34 : List EX := []
theorem ex34_ok : EXsOk Try.prog ex34 := trivial
def in34 : List IN := []
theorem in34_ok : INsOk Try.prog in34 := trivial
def F34 : DT ((.co (.v (.sl (.p .s (.p (.i .i64) (.p (.i .i64) (.p (.i .u64) (.p (.i .i64) (.p (.i .i64) (.i .u64))))))))) (.co (.v (.sl (.p .s (.p (.i .i64) (.p (.i .i64) (.p (.i .u64) (.p (.i .i64) (.p (.i .i64) (.i .u64))))))))) .no)) : Fm).den → Option (DT (.v .b : Fm).den) := pureT tb34 ex34 in34 0 xf34 _ _ []
def pe34 : PE := ⟨34, (.co (.v (.sl (.p .s (.p (.i .i64) (.p (.i .i64) (.p (.i .u64) (.p (.i .i64) (.p (.i .i64) (.i .u64))))))))) (.co (.v (.sl (.p .s (.p (.i .i64) (.p (.i .i64) (.p (.i .u64) (.p (.i .i64) (.p (.i .i64) (.i .u64))))))))) .no)), .v .b, F34⟩
theorem pe34_ok : pe34.ok Try.prog := pe_of hm tb34_ok ex34_ok in34_ok xf34_ok (by kernel_rfl) (fun _ => rfl)
def xf15 : FX := ⟨(.seq (.reg [(qx 2 (.box 0 3 (.t 0))), (qx 3 (.box 1 3 (.t 1))), (qx 4 (.mov (.c (.v (.bool false)))))]) (.seq (.reg [(qx 5 (.fad 0 (.t 2))), (qx 6 (.load false 1 (.t 5))), (qx 7 (.fad 0 (.t 3))), (qx 8 (.load false 1 (.t 7))), (qx 9 (.bin .eql (.t 6) (.t 8))), (qx 10 (.mov (.t 9))), ⟨⟨(some 11), (.fad 1 (.t 2)), (some (10, true))⟩, .b, [], []⟩, ⟨⟨(some 12), (.load false 1 (.t 11)), (some (10, true))⟩, .b, [], []⟩, ⟨⟨(some 13), (.fad 1 (.t 3)), (some (10, true))⟩, .b, [], []⟩, ⟨⟨(some 14), (.load false 1 (.t 13)), (some (10, true))⟩, .b, [], []⟩, ⟨⟨(some 15), (.bin .eql (.t 12) (.t 14)), (some (10, true))⟩, .b, [], []⟩, (qx 16 (.pick (.t 10) (.t 15) (.c (.v (.bool false))))), (qx 17 (.mov (.t 16))), ⟨⟨(some 18), (.fad 2 (.t 2)), (some (17, true))⟩, .b, [], []⟩, ⟨⟨(some 19), (.load false 1 (.t 18)), (some (17, true))⟩, .b, [], []⟩, ⟨⟨(some 20), (.fad 2 (.t 3)), (some (17, true))⟩, .b, [], []⟩, ⟨⟨(some 21), (.load false 1 (.t 20)), (some (17, true))⟩, .b, [], []⟩, ⟨⟨(some 22), (.call 2 34 [(.t 19), (.t 21)]), (some (17, true))⟩, .b, [], []⟩, (qx 23 (.pick (.t 17) (.t 22) (.c (.v (.bool false))))), (qx 4 (.mov (.t 23)))]) .ret)), [2, 3, 22], 24, [.t 4], 4⟩
theorem xf15_ok : xf15.ok Try.prog 15 := ⟨_, _, Try.func15, rfl, by kernel_rfl, rfl, by kernel_rfl, rfl, by kernel_rfl, by kernel_rfl⟩
def tb15 : List PE := [pe34]
theorem tb15_ok : PEsOk Try.prog tb15 := ⟨pe34_ok, trivial⟩
def ex15 : List EX := []
theorem ex15_ok : EXsOk Try.prog ex15 := trivial
def in15 : List IN := []
theorem in15_ok : INsOk Try.prog in15 := trivial
def F15 : DT ((.co (.v (.p (.i .u64) (.p (.i .u64) (.sl (.p .s (.p (.i .i64) (.p (.i .i64) (.p (.i .u64) (.p (.i .i64) (.p (.i .i64) (.i .u64))))))))))) (.co (.v (.p (.i .u64) (.p (.i .u64) (.sl (.p .s (.p (.i .i64) (.p (.i .i64) (.p (.i .u64) (.p (.i .i64) (.p (.i .i64) (.i .u64))))))))))) .no)) : Fm).den → Option (DT (.v .b : Fm).den) := pureT tb15 ex15 in15 0 xf15 _ _ []
def pe15 : PE := ⟨15, (.co (.v (.p (.i .u64) (.p (.i .u64) (.sl (.p .s (.p (.i .i64) (.p (.i .i64) (.p (.i .u64) (.p (.i .i64) (.p (.i .i64) (.i .u64))))))))))) (.co (.v (.p (.i .u64) (.p (.i .u64) (.sl (.p .s (.p (.i .i64) (.p (.i .i64) (.p (.i .u64) (.p (.i .i64) (.p (.i .i64) (.i .u64))))))))))) .no)), .v .b, F15⟩
theorem pe15_ok : pe15.ok Try.prog := pe_of hm tb15_ok ex15_ok in15_ok xf15_ok (by kernel_rfl) (fun _ => rfl)
def xf13 : FX := ⟨(.seq (.reg [(qx 6 (.box 0 2 (.t 0))), (qx 7 (.box 1 3 (.t 1))), (qx 11 (.box 2 1 (.t 5))), (qx 12 (.alloc 3 (.agg [(.v (.int .u64 0)), (.v (.int .u64 0)), (.sl true [])]))), (qx 13 (.mov (.c (.v (.int .i64 0)))))]) (.seq (.dr [(0, 6), (1, 6)] [(qx 14 (.load true 2 (.t 6))), (qx 15 (.load true 3 (.t 7))), (qx 16 (.mov (.t 2))), (qx 17 (.mov (.t 3))), (qx 18 (.mov (.t 4))), (qx 19 (.fn 39 [] [(.t 6), (.t 11)])), ⟨⟨(some 20), (.callG 4 38 [(.t 18), (.t 19)]), none⟩, .b, [], [7, 8, 9]⟩, ⟨⟨(some 21), (.callG 5 37 [(.t 14), (.t 15), (.t 16), (.t 17), (.t 20)]), none⟩, .b, [], [10, 11, 12, 13, 14, 15, 16, 17, 18, 19, 20, 21, 22, 23, 24, 25, 26, 27, 28, 29, 30, 31, 32, 33, 34, 35, 36, 37, 38, 39, 40, 41, 42]⟩, (qx 22 (.ext (.t 21) 0)), (qx 23 (.ext (.t 21) 1)), ⟨⟨none, (.store 3 (.t 12) (.t 22)), none⟩, .b, [], []⟩, (qx 13 (.mov (.t 23)))]) .ret)), [6, 7, 11, 12, 20, 21], 24, [.c 12 27 true 3, .t 13], 43⟩
theorem xf13_ok : xf13.ok Try.prog 13 := ⟨_, _, Try.func13, rfl, by kernel_rfl, rfl, by kernel_rfl, rfl, by kernel_rfl, by kernel_rfl⟩
def ff38 : FX := ⟨(.seq (.reg [(qx 2 (.box 0 1 (.t 0))), (qx 3 (.box 1 1 (.t 1))), (qx 4 (.mov (.c (.v .nilFunc))))]) (.seq (.reg [(qx 5 (.fn 64 [] [(.t 2), (.t 3)])), (qx 4 (.mov (.t 5)))]) .ret)), [2, 3], 6, [.t 4], 3⟩
theorem ff38_ok : ff38.ok Try.prog 38 := ⟨_, _, Try.func38, rfl, by kernel_rfl, rfl, by kernel_rfl, rfl, by kernel_rfl, by kernel_rfl⟩
def ff37 : FX := ⟨(.seq (.reg [(qx 5 (.box 0 2 (.t 0))), (qx 6 (.box 1 3 (.t 1))), (qx 8 (.box 2 1 (.t 3))), (qx 9 (.box 3 1 (.t 4))), (qx 10 (.alloc 4 (.agg [(.v (.int .u64 0)), (.v (.int .u64 0)), (.sl true [])]))), (qx 11 (.mov (.c (.v (.int .i64 0)))))]) (.seq (.reg [(qx 12 (.load true 2 (.t 5))), (qx 13 (.load true 3 (.t 6))), (qx 14 (.mov (.t 2))), (qx 15 (.fn 63 [] [(.t 8), (.t 9)])), (qx 16 (.call 5 44 [(.t 12), (.t 13), (.t 14), (.t 15)])), (qx 17 (.ext (.t 16) 0)), (qx 18 (.ext (.t 16) 1)), ⟨⟨none, (.store 3 (.t 10) (.t 17)), none⟩, .b, [], []⟩, (qx 11 (.mov (.t 18)))]) .ret)), [5, 6, 8, 9, 10, 16], 19, [.c 10 27 true 3, .t 11], 7⟩
theorem ff37_ok : ff37.ok Try.prog 37 := ⟨_, _, Try.func37, rfl, by kernel_rfl, rfl, by kernel_rfl, rfl, by kernel_rfl, by kernel_rfl⟩
def ff44 : FX := ⟨(.seq (.reg [(qx 4 (.box 0 2 (.t 0))), (qx 5 (.box 1 3 (.t 1))), (qx 8 (.alloc 2 (.agg [(.v (.int .u64 0)), (.v (.int .u64 0)), (.sl true [])]))), (qx 9 (.mov (.c (.v (.int .i64 0)))))]) (.seq (.cut ⟨[9, 12, 13, 14, 15, 16, 17, 18, 19, 20, 21, 22, 23, 24, 25, 26, 27], [19], ⟨[], [], [⟨19, .row (.agg (.co (.v (.i .u64)) (.co (.v (.i .u64)) (.co (.nil) .no)))), true⟩]⟩⟩ (.blk 0 (.seq (.cutN ⟨[12, 13, 14, 15, 16, 17, 18, 19, 20], [], ⟨[], [(12, .v .b)], []⟩⟩ (.reg [(qx 13 (.load true 2 (.t 4))), (qx 14 (.call 3 29 [(.t 13)])), (qx 15 (.bin .neq (.t 14) (.c (.v (.int .i64 0))))), (qx 16 (.mov (.t 15))), ⟨⟨(some 17), (.load true 3 (.t 5)), (some (16, false))⟩, .b, [], []⟩, ⟨⟨(some 18), (.call 4 26 [(.t 17)]), (some (16, false))⟩, .b, [], []⟩, ⟨⟨(some 19), (.bin .neq (.t 18) (.c (.v (.int .i64 0)))), (some (16, false))⟩, .b, [], []⟩, (qx 20 (.pick (.t 16) (.c (.v (.bool true))) (.t 19))), (qx 12 (.mov (.t 20)))])) (.cond (.t 12) (.seq (.reg [(qx 21 (.load true 3 (.t 5))), ⟨⟨none, (.store 3 (.t 8) (.t 21)), none⟩, .b, [], []⟩, (qx 9 (.mov (.c (.v (.int .i64 1)))))]) .ret) (.seq (.reg [(qx 23 (.mov (.t 2))), (qx 24 (.fad 0 (.t 5))), (qx 25 (.load false 1 (.t 24))), (qx 26 (.bin .lss (.t 23) (.t 25))), (qx 22 (.mov (.t 26)))]) (.cond (.t 22) (.seq (.reg [(qx 27 (.load true 3 (.t 5))), ⟨⟨none, (.store 3 (.t 8) (.t 27)), none⟩, .b, [], []⟩, (qx 9 (.mov (.c (.v (.int .i64 8)))))]) .ret) .skip)))))) (.seq (.dr [(2, 5)] [(qx 28 (.mov (.t 2))), (qx 29 (.fad 1 (.t 5))), (qx 30 (.load false 1 (.t 29))), (qx 31 (.fad 2 (.t 5))), (qx 32 (.load false 1 (.t 31))), ⟨⟨(some 33), (.callG 5 65 [(.t 32)]), none⟩, .b, [], [26, 27]⟩, (qx 34 (.bld [(.v (.int .u64 0)), (.v (.int .u64 0)), (.sl true [])] [(0, (1, (.t 28))), (1, (1, (.t 30))), (2, (1, (.t 33)))])), (qx 10 (.mov (.c .dead))), (qx 10 (.box 6 3 (.t 34)))]) (.seq (.seq (.reg [(qx 35 (.mov (.t 3))), (qx 36 (.callv 7 (.t 35) [(.t 10)])), (qx 11 (.mov (.t 36)))]) (.seq (.reg [(qx 37 (.mov (.t 11))), (qx 38 (.bin .neq (.t 37) (.c (.v (.int .i64 0)))))]) (.cond (.t 38) (.seq (.reg [(qx 39 (.load true 3 (.t 5))), (qx 40 (.mov (.t 11))), ⟨⟨none, (.store 3 (.t 8) (.t 39)), none⟩, .b, [], []⟩, (qx 9 (.mov (.t 40)))]) .ret) .skip))) (.seq (.reg [(qx 41 (.load true 3 (.t 10))), ⟨⟨none, (.store 3 (.t 8) (.t 41)), none⟩, .b, [], []⟩, (qx 9 (.mov (.c (.v (.int .i64 0)))))]) .ret))))), [4, 5, 8, 14, 18, 33, 10, 36], 42, [.c 8 27 true 3, .t 9], 9⟩
theorem ff44_ok : ff44.ok Try.prog 44 := ⟨_, _, Try.func44, rfl, by kernel_rfl, rfl, by kernel_rfl, rfl, by kernel_rfl, by kernel_rfl⟩
def ff65 : FX := ⟨(.seq (.reg [(qx 2 (.mov (.c (.sl true []))))]) (.seq (.seq (.reg [(qx 3 (.mov (.t 0))), (qx 4 (.nilq false (.t 3)))]) (.cond (.t 4) (.seq (.reg [(qx 2 (.mov (.c (.sl true []))))]) .ret) .skip)) (.seq (.reg [⟨⟨(some 5), (.bsl 7 (.agg [(.v (.string ⟨#[]⟩)), (.v (.int .i64 0)), (.v (.int .i64 0)), (.v (.int .u64 0)), (.v (.int .i64 0)), (.v (.int .i64 0)), (.v (.int .u64 0))]) 0 []), none⟩, .b, [], []⟩, (qx 6 (.mov (.t 0))), ⟨⟨(some 7), (.app 0 7 64 (.agg [(.v (.string ⟨#[]⟩)), (.v (.int .i64 0)), (.v (.int .i64 0)), (.v (.int .u64 0)), (.v (.int .i64 0)), (.v (.int .i64 0)), (.v (.int .u64 0))]) (.t 5) (.t 6)), none⟩, (.p .s (.p (.i .i64) (.p (.i .i64) (.p (.i .u64) (.p (.i .i64) (.p (.i .i64) (.i .u64))))))), [], []⟩, (qx 2 (.mov (.t 7)))]) .ret))), [7], 8, [.t 2], 2⟩
theorem ff65_ok : ff65.ok Try.prog 65 := ⟨_, _, Try.func65, rfl, by kernel_rfl, rfl, by kernel_rfl, rfl, by kernel_rfl, by kernel_rfl⟩
def ff63 : FX := ⟨(.seq (.reg [(qx 4 (.mov (.c (.v (.int .i64 0)))))]) (.seq (.dr [] [(qx 8 (.mov (.t 0))), (qx 9 (.nilc (.t 8))), (qx 10 (.load true 3 (.t 9))), (qx 11 (.load false 1 (.t 1))), ⟨⟨(some 12), (.callG 0 36 [(.t 10), (.t 11)]), none⟩, .b, [], [31, 32, 33, 34, 35, 36]⟩, (qx 7 (.mov (.t 12))), (qx 13 (.ext (.t 7) 0)), (qx 14 (.ext (.t 7) 1)), (qx 5 (.mov (.t 13))), (qx 6 (.mov (.t 14)))]) (.seq (.seq (.reg [(qx 15 (.mov (.t 6))), (qx 16 (.un .not (.t 15)))]) (.cond (.t 16) (.seq (.reg [(qx 4 (.mov (.c (.v (.int .i64 6)))))]) .ret) .skip)) (.seq (.dr [] [(qx 17 (.load false 1 (.t 2))), (qx 18 (.mov (.t 0))), (qx 19 (.nilc (.t 18))), (qx 20 (.fad 2 (.t 19))), (qx 21 (.load false 1 (.t 20))), (qx 22 (.mov (.t 5))), (qx 23 (.iad 7 (.t 21) (.t 22))), ⟨⟨(some 24), (.callvG 1 (.t 17) [(.t 23)]), none⟩, .b, [], [26, 37, 38, 39, 40, 41, 42]⟩, (qx 4 (.mov (.t 24)))]) .ret)))), [12, 24], 25, [.t 4], 3⟩
theorem ff63_ok : ff63.ok Try.prog 63 := ⟨_, _, Try.func63, rfl, by kernel_rfl, rfl, by kernel_rfl, rfl, by kernel_rfl, by kernel_rfl⟩
def ff36 : FX := ⟨(.seq (.reg [(qx 2 (.box 0 3 (.t 0))), (qx 4 (.mov (.c (.v (.int .i64 0))))), (qx 5 (.mov (.c (.v (.bool false)))))]) (.seq (.reg [(qx 6 (.fad 2 (.t 2))), (qx 7 (.load false 1 (.t 6))), (qx 8 (.mov (.t 1))), (qx 9 (.call 1 60 [(.t 7), (.t 8), (.c (.clo 61 [] []))])), (qx 10 (.ext (.t 9) 0)), (qx 11 (.ext (.t 9) 1)), (qx 4 (.mov (.t 10))), (qx 5 (.mov (.t 11)))]) .ret)), [2, 9], 12, [.t 4, .t 5], 3⟩
theorem ff36_ok : ff36.ok Try.prog 36 := ⟨_, _, Try.func36, rfl, by kernel_rfl, rfl, by kernel_rfl, rfl, by kernel_rfl, by kernel_rfl⟩
def ff64 : FX := ⟨(.seq (.reg [(qx 4 (.mov (.c (.v (.int .i64 0)))))]) (.seq (.blk 0 (.seq (.rdr [(qx 6 (.mov (.t 0))), (qx 7 (.nilc (.t 6))), (qx 8 (.fad 3 (.t 7))), (qx 9 (.load false 1 (.t 8))), (qx 10 (.load false 1 (.t 1))), (qx 11 (.bin .neq (.t 9) (.t 10))), (qx 5 (.mov (.t 11)))]) (.cond (.t 5) (.seq (.reg [(qx 4 (.mov (.c (.v (.int .i64 8)))))]) .ret) (.seq (.reg [(qx 13 (.mov (.t 0))), (qx 14 (.nilc (.t 13))), (qx 15 (.fad 1 (.t 14))), (qx 16 (.load false 1 (.t 15))), (qx 17 (.bin .neq (.t 16) (.c (.v (.int .i64 1))))), (qx 12 (.mov (.t 17)))]) (.cond (.t 12) (.seq (.reg [(qx 4 (.mov (.c (.v (.int .i64 7)))))]) .ret) .skip))))) (.seq (.reg [(qx 18 (.load false 1 (.t 2))), (qx 19 (.mov (.t 0))), (qx 20 (.callv 0 (.t 18) [(.t 19)]))]) (.seq (.reg [(qx 4 (.mov (.c (.v (.int .i64 0)))))]) .ret)))), [20], 21, [.t 4], 2⟩
theorem ff64_ok : ff64.ok Try.prog 64 := ⟨_, _, Try.func64, rfl, by kernel_rfl, rfl, by kernel_rfl, rfl, by kernel_rfl, by kernel_rfl⟩
def ff39 : FX := ⟨(.seq (.reg [(qx 4 (.load true 2 (.t 1))), (qx 5 (.mov (.t 0))), (qx 6 (.call 0 40 [(.t 4), (.t 5)]))]) (.seq (.reg [(qx 7 (.load false 1 (.t 2)))]) (.cond (.t 7) (.reg [(qx 8 (.mov (.t 0))), (qx 9 (.nilc (.t 8))), (qx 10 (.fad 1 (.t 9))), ⟨⟨none, (.store 1 (.t 10) (.c (.v (.int .i64 2)))), none⟩, .b, [], []⟩]) .skip))), [6], 11, [], 2⟩
theorem ff39_ok : ff39.ok Try.prog 39 := ⟨_, _, Try.func39, rfl, by kernel_rfl, rfl, by kernel_rfl, rfl, by kernel_rfl, by kernel_rfl⟩
def ff40 : FX := ⟨(.seq (.reg [(qx 2 (.box 0 2 (.t 0)))]) (.seq (.reg [(qx 4 (.mov (.t 1))), (qx 5 (.mov (.t 1))), (qx 6 (.mov (.t 1))), (qx 7 (.nilc (.t 4))), (qx 8 (.fad 1 (.t 7))), ⟨⟨none, (.store 1 (.t 8) (.c (.v (.int .i64 0)))), none⟩, .b, [], []⟩, (qx 9 (.nilc (.t 5))), (qx 10 (.fad 5 (.t 9))), ⟨⟨none, (.store 1 (.t 10) (.c (.v (.int .i64 (-1))))), none⟩, .b, [], []⟩, (qx 11 (.nilc (.t 6))), (qx 12 (.fad 6 (.t 11))), ⟨⟨none, (.store 1 (.t 12) (.c (.v (.int .u64 0)))), none⟩, .b, [], []⟩]) (.seq (.rdr [(qx 13 (.mov (.t 1))), (qx 14 (.nilc (.t 13))), (qx 15 (.fad 4 (.t 14))), (qx 16 (.load false 1 (.t 15))), (qx 17 (.fad 1 (.t 2))), (qx 18 (.load false 1 (.t 17))), (qx 19 (.bin .geq (.t 16) (.t 18)))]) (.cond (.t 19) (.reg [(qx 20 (.mov (.t 1))), (qx 21 (.nilc (.t 20))), (qx 22 (.fad 1 (.t 21))), ⟨⟨none, (.store 1 (.t 22) (.c (.v (.int .i64 3)))), none⟩, .b, [], []⟩]) .skip)))), [2], 23, [], 2⟩
theorem ff40_ok : ff40.ok Try.prog 40 := ⟨_, _, Try.func40, rfl, by kernel_rfl, rfl, by kernel_rfl, rfl, by kernel_rfl, by kernel_rfl⟩
def tb13 : List PE := [pe26, pe29, pe61]
theorem tb13_ok : PEsOk Try.prog tb13 := ⟨pe26_ok, pe29_ok, pe61_ok, trivial⟩
def ex13 : List EX := []
theorem ex13_ok : EXsOk Try.prog ex13 := trivial
def in13 : List IN := [⟨4, 38, 7, ff38, some ⟨[0, 1, 2, 3, 4, 5], [7, 8, 9], ⟨[], [(4, .clo 64 .no (.co (.ptr 7 0) (.co (.ptr 8 0) .no)))], [⟨7, .row (.v (.i .u64)), false⟩, ⟨8, .row (.clo 39 .no (.co (.ptr 0 0) (.co (.ptr 2 0) .no))), false⟩]⟩⟩⟩, ⟨5, 37, 10, ff37, some ⟨[0, 1, 2, 3, 4, 5, 6, 7, 8, 9, 10, 11, 12, 13, 14, 15, 16, 17, 18], [10, 11, 12, 13, 14, 15, 16, 17, 18, 19, 20, 21, 22, 23, 24, 25, 26, 27, 28, 29, 30, 31, 32, 33, 34, 35, 36, 37, 38, 39, 40, 41, 42], ⟨[26], [(10, .ptr 14 0), (11, .v (.i .i64))], [⟨14, .row (.v (.p (.i .u64) (.p (.i .u64) (.sl (.p .s (.p (.i .i64) (.p (.i .i64) (.p (.i .u64) (.p (.i .i64) (.p (.i .i64) (.i .u64))))))))))), false⟩]⟩⟩⟩, ⟨15, 44, 17, ff44, some ⟨[0, 1, 2, 3, 4, 5, 6, 7, 8, 9, 10, 11, 12, 13, 14, 15, 16, 17, 18, 19, 20, 21, 22, 23, 24, 25, 26, 27, 28, 29, 30, 31, 32, 33, 34, 35, 36, 37, 38, 39, 40, 41], [17, 18, 19, 20, 21, 22, 23, 24, 25, 26, 27, 28, 29, 30, 31, 32, 33, 34, 35, 36, 37, 38, 39, 40, 41, 42], ⟨[26], [(8, .ptr 19 0), (9, .v (.i .i64))], [⟨19, .row (.v (.p (.i .u64) (.p (.i .u64) (.sl (.p .s (.p (.i .i64) (.p (.i .i64) (.p (.i .u64) (.p (.i .i64) (.p (.i .i64) (.i .u64))))))))))), false⟩]⟩⟩⟩, ⟨22, 65, 26, ff65, some ⟨[0, 1, 2, 3, 4, 5, 6, 7], [26, 27], ⟨[], [(2, .ow 26 7)], [⟨26, .rows (.p .s (.p (.i .i64) (.p (.i .i64) (.p (.i .u64) (.p (.i .i64) (.p (.i .i64) (.i .u64))))))) 7, false⟩]⟩⟩⟩, ⟨24, 63, 28, ff63, some ⟨[0, 1, 2, 3, 4, 5, 6, 7, 8, 9, 10, 11, 12, 13, 14, 15, 16, 17, 18, 19, 20, 21, 22, 23, 24], [26, 28, 29, 30, 31, 32, 33, 34, 35, 36, 37, 38, 39, 40, 41, 42], ⟨[], [(4, .v (.i .i64))], [⟨26, .rows (.p .s (.p (.i .i64) (.p (.i .i64) (.p (.i .u64) (.p (.i .i64) (.p (.i .i64) (.i .u64))))))) 7, true⟩]⟩⟩⟩, ⟨28, 36, 31, ff36, some ⟨[0, 1, 2, 3, 4, 5, 6, 7, 8, 9, 10, 11], [31, 32, 33, 34, 35, 36], ⟨[], [(4, .v (.i .i64)), (5, .v .b)], []⟩⟩⟩, ⟨29, 64, 37, ff64, some ⟨[0, 1, 2, 3, 4, 5, 6, 7, 8, 9, 10, 11, 12, 13, 14, 15, 16, 17, 18, 19, 20], [26, 37, 38, 39, 40, 41, 42], ⟨[], [(4, .v (.i .i64))], [⟨26, .rows (.p .s (.p (.i .i64) (.p (.i .i64) (.p (.i .u64) (.p (.i .i64) (.p (.i .i64) (.i .u64))))))) 7, true⟩]⟩⟩⟩, ⟨32, 60, 34, ff60, some ⟨[0, 1, 2, 3, 4, 5, 6, 7, 8, 9, 10, 11, 12, 13, 14, 15, 16, 17, 18, 19, 20, 21, 22, 23, 24, 25, 26, 27, 28, 29, 30, 31, 32, 33, 34, 35, 36, 37, 38, 39, 40, 41, 42, 43, 44, 45, 46, 47, 48], [34, 35, 36], ⟨[], [(6, .v (.i .i64)), (7, .v .b)], []⟩⟩⟩, ⟨37, 39, 39, ff39, some ⟨[0, 1, 2, 3, 4, 5, 6, 7, 8, 9, 10], [26, 39, 40, 41, 42], ⟨[], [], [⟨26, .rows (.p .s (.p (.i .i64) (.p (.i .i64) (.p (.i .u64) (.p (.i .i64) (.p (.i .i64) (.i .u64))))))) 7, true⟩]⟩⟩⟩, ⟨39, 40, 41, ff40, some ⟨[0, 1, 2, 3, 4, 5, 6, 7, 8, 9, 10, 11, 12, 13, 14, 15, 16, 17, 18, 19, 20, 21, 22], [26, 41, 42], ⟨[], [], [⟨26, .rows (.p .s (.p (.i .i64) (.p (.i .i64) (.p (.i .u64) (.p (.i .i64) (.p (.i .i64) (.i .u64))))))) 7, true⟩]⟩⟩⟩]
theorem in13_ok : INsOk Try.prog in13 := ⟨ff38_ok, ff37_ok, ff44_ok, ff65_ok, ff63_ok, ff36_ok, ff64_ok, ff60_ok, ff39_ok, ff40_ok, trivial⟩
def F13 : DT ((.co (.v (.p (.i .i64) (.i .i64))) (.co (.v (.p (.i .u64) (.p (.i .u64) (.sl (.p .s (.p (.i .i64) (.p (.i .i64) (.p (.i .u64) (.p (.i .i64) (.p (.i .i64) (.i .u64))))))))))) (.co (.v (.i .u64)) (.co (.v .s) (.co (.v (.i .u64)) (.co (.v .b) .no)))))) : Fm).den → Option (DT (.tup (.co (.v (.p (.i .u64) (.p (.i .u64) (.sl (.p .s (.p (.i .i64) (.p (.i .i64) (.p (.i .u64) (.p (.i .i64) (.p (.i .i64) (.i .u64))))))))))) (.co (.v (.i .i64)) .no)) : Fm).den) := pureT tb13 ex13 in13 9 xf13 _ _ []
def pe13 : PE := ⟨13, (.co (.v (.p (.i .i64) (.i .i64))) (.co (.v (.p (.i .u64) (.p (.i .u64) (.sl (.p .s (.p (.i .i64) (.p (.i .i64) (.p (.i .u64) (.p (.i .i64) (.p (.i .i64) (.i .u64))))))))))) (.co (.v (.i .u64)) (.co (.v .s) (.co (.v (.i .u64)) (.co (.v .b) .no)))))), .tup (.co (.v (.p (.i .u64) (.p (.i .u64) (.sl (.p .s (.p (.i .i64) (.p (.i .i64) (.p (.i .u64) (.p (.i .i64) (.p (.i .i64) (.i .u64))))))))))) (.co (.v (.i .i64)) .no)), F13⟩
theorem pe13_ok : pe13.ok Try.prog := pe_of hm tb13_ok ex13_ok in13_ok xf13_ok (by kernel_rfl) (fun _ => rfl)
def xf16 : FX := ⟨(.seq (.reg [(qx 4 (.box 0 2 (.t 0))), (qx 5 (.box 1 3 (.t 1))), (qx 8 (.alloc 2 (.agg [(.v (.int .u64 0)), (.v (.int .u64 0)), (.sl true [])]))), (qx 9 (.mov (.c (.v (.int .i64 0)))))]) (.seq (.reg [(qx 10 (.load true 2 (.t 4))), (qx 11 (.load true 3 (.t 5))), (qx 12 (.mov (.t 2))), (qx 13 (.mov (.t 3))), (qx 14 (.call 3 37 [(.t 10), (.t 11), (.t 12), (.t 13), (.c (.clo 42 [] []))])), (qx 15 (.ext (.t 14) 0)), (qx 16 (.ext (.t 14) 1)), ⟨⟨none, (.store 3 (.t 8) (.t 15)), none⟩, .b, [], []⟩, (qx 9 (.mov (.t 16)))]) .ret)), [4, 5, 8, 14], 17, [.c 8 27 true 3, .t 9], 34⟩
theorem xf16_ok : xf16.ok Try.prog 16 := ⟨_, _, Try.func16, rfl, by kernel_rfl, rfl, by kernel_rfl, rfl, by kernel_rfl, by kernel_rfl⟩
def ff44_3 : FX := ⟨(.seq (.reg [(qx 4 (.box 0 2 (.t 0))), (qx 5 (.box 1 3 (.t 1))), (qx 8 (.alloc 2 (.agg [(.v (.int .u64 0)), (.v (.int .u64 0)), (.sl true [])]))), (qx 9 (.mov (.c (.v (.int .i64 0)))))]) (.seq (.cut ⟨[9, 12, 13, 14, 15, 16, 17, 18, 19, 20, 21, 22, 23, 24, 25, 26, 27], [14], ⟨[], [], [⟨14, .row (.agg (.co (.v (.i .u64)) (.co (.v (.i .u64)) (.co (.nil) .no)))), true⟩]⟩⟩ (.blk 0 (.seq (.cutN ⟨[12, 13, 14, 15, 16, 17, 18, 19, 20], [], ⟨[], [(12, .v .b)], []⟩⟩ (.reg [(qx 13 (.load true 2 (.t 4))), (qx 14 (.call 3 29 [(.t 13)])), (qx 15 (.bin .neq (.t 14) (.c (.v (.int .i64 0))))), (qx 16 (.mov (.t 15))), ⟨⟨(some 17), (.load true 3 (.t 5)), (some (16, false))⟩, .b, [], []⟩, ⟨⟨(some 18), (.call 4 26 [(.t 17)]), (some (16, false))⟩, .b, [], []⟩, ⟨⟨(some 19), (.bin .neq (.t 18) (.c (.v (.int .i64 0)))), (some (16, false))⟩, .b, [], []⟩, (qx 20 (.pick (.t 16) (.c (.v (.bool true))) (.t 19))), (qx 12 (.mov (.t 20)))])) (.cond (.t 12) (.seq (.reg [(qx 21 (.load true 3 (.t 5))), ⟨⟨none, (.store 3 (.t 8) (.t 21)), none⟩, .b, [], []⟩, (qx 9 (.mov (.c (.v (.int .i64 1)))))]) .ret) (.seq (.reg [(qx 23 (.mov (.t 2))), (qx 24 (.fad 0 (.t 5))), (qx 25 (.load false 1 (.t 24))), (qx 26 (.bin .lss (.t 23) (.t 25))), (qx 22 (.mov (.t 26)))]) (.cond (.t 22) (.seq (.reg [(qx 27 (.load true 3 (.t 5))), ⟨⟨none, (.store 3 (.t 8) (.t 27)), none⟩, .b, [], []⟩, (qx 9 (.mov (.c (.v (.int .i64 8)))))]) .ret) .skip)))))) (.seq (.dr [(2, 5)] [(qx 28 (.mov (.t 2))), (qx 29 (.fad 1 (.t 5))), (qx 30 (.load false 1 (.t 29))), (qx 31 (.fad 2 (.t 5))), (qx 32 (.load false 1 (.t 31))), ⟨⟨(some 33), (.callG 5 65 [(.t 32)]), none⟩, .b, [], [21, 22]⟩, (qx 34 (.bld [(.v (.int .u64 0)), (.v (.int .u64 0)), (.sl true [])] [(0, (1, (.t 28))), (1, (1, (.t 30))), (2, (1, (.t 33)))])), (qx 10 (.mov (.c .dead))), (qx 10 (.box 6 3 (.t 34)))]) (.seq (.seq (.reg [(qx 35 (.mov (.t 3))), (qx 36 (.callv 7 (.t 35) [(.t 10)])), (qx 11 (.mov (.t 36)))]) (.seq (.reg [(qx 37 (.mov (.t 11))), (qx 38 (.bin .neq (.t 37) (.c (.v (.int .i64 0)))))]) (.cond (.t 38) (.seq (.reg [(qx 39 (.load true 3 (.t 5))), (qx 40 (.mov (.t 11))), ⟨⟨none, (.store 3 (.t 8) (.t 39)), none⟩, .b, [], []⟩, (qx 9 (.mov (.t 40)))]) .ret) .skip))) (.seq (.reg [(qx 41 (.load true 3 (.t 10))), ⟨⟨none, (.store 3 (.t 8) (.t 41)), none⟩, .b, [], []⟩, (qx 9 (.mov (.c (.v (.int .i64 0)))))]) .ret))))), [4, 5, 8, 14, 18, 33, 10, 36], 42, [.c 8 27 true 3, .t 9], 9⟩
theorem ff44_3_ok : ff44_3.ok Try.prog 44 := ⟨_, _, Try.func44, rfl, by kernel_rfl, rfl, by kernel_rfl, rfl, by kernel_rfl, by kernel_rfl⟩
def ff63_1 : FX := ⟨(.seq (.reg [(qx 4 (.mov (.c (.v (.int .i64 0)))))]) (.seq (.dr [] [(qx 8 (.mov (.t 0))), (qx 9 (.nilc (.t 8))), (qx 10 (.load true 3 (.t 9))), (qx 11 (.load false 1 (.t 1))), ⟨⟨(some 12), (.callG 0 36 [(.t 10), (.t 11)]), none⟩, .b, [], [26, 27, 28, 29, 30, 31]⟩, (qx 7 (.mov (.t 12))), (qx 13 (.ext (.t 7) 0)), (qx 14 (.ext (.t 7) 1)), (qx 5 (.mov (.t 13))), (qx 6 (.mov (.t 14)))]) (.seq (.seq (.reg [(qx 15 (.mov (.t 6))), (qx 16 (.un .not (.t 15)))]) (.cond (.t 16) (.seq (.reg [(qx 4 (.mov (.c (.v (.int .i64 6)))))]) .ret) .skip)) (.seq (.dr [] [(qx 17 (.load false 1 (.t 2))), (qx 18 (.mov (.t 0))), (qx 19 (.nilc (.t 18))), (qx 20 (.fad 2 (.t 19))), (qx 21 (.load false 1 (.t 20))), (qx 22 (.mov (.t 5))), (qx 23 (.iad 7 (.t 21) (.t 22))), ⟨⟨(some 24), (.callvG 1 (.t 17) [(.t 23)]), none⟩, .b, [], [21, 32, 33]⟩, (qx 4 (.mov (.t 24)))]) .ret)))), [12, 24], 25, [.t 4], 3⟩
theorem ff63_1_ok : ff63_1.ok Try.prog 63 := ⟨_, _, Try.func63, rfl, by kernel_rfl, rfl, by kernel_rfl, rfl, by kernel_rfl, by kernel_rfl⟩
def ff42 : FX := ⟨(.seq (.reg [(qx 2 (.mov (.c (.v (.int .i64 0)))))]) (.seq (.seq (.reg [(qx 3 (.mov (.t 0))), (qx 4 (.nilc (.t 3))), (qx 5 (.load true 7 (.t 4))), (qx 6 (.call 0 43 [(.t 5)])), (qx 7 (.un .not (.t 6)))]) (.cond (.t 7) (.seq (.reg [(qx 2 (.mov (.c (.v (.int .i64 7)))))]) .ret) .skip)) (.seq (.reg [(qx 8 (.mov (.t 0))), (qx 9 (.mov (.t 0))), (qx 10 (.mov (.t 0))), (qx 11 (.nilc (.t 8))), (qx 12 (.fad 1 (.t 11))), ⟨⟨none, (.store 1 (.t 12) (.c (.v (.int .i64 4)))), none⟩, .b, [], []⟩, (qx 13 (.nilc (.t 9))), (qx 14 (.fad 5 (.t 13))), ⟨⟨none, (.store 1 (.t 14) (.c (.v (.int .i64 (-1))))), none⟩, .b, [], []⟩, (qx 15 (.nilc (.t 10))), (qx 16 (.fad 6 (.t 15))), ⟨⟨none, (.store 1 (.t 16) (.c (.v (.int .u64 0)))), none⟩, .b, [], []⟩]) (.seq (.reg [(qx 2 (.mov (.c (.v (.int .i64 0)))))]) .ret)))), [6], 17, [.t 2], 2⟩
theorem ff42_ok : ff42.ok Try.prog 42 := ⟨_, _, Try.func42, rfl, by kernel_rfl, rfl, by kernel_rfl, rfl, by kernel_rfl, by kernel_rfl⟩
def tb16 : List PE := [pe26, pe29, pe43, pe61]
theorem tb16_ok : PEsOk Try.prog tb16 := ⟨pe26_ok, pe29_ok, pe43_ok, pe61_ok, trivial⟩
def ex16 : List EX := []
theorem ex16_ok : EXsOk Try.prog ex16 := trivial
def in16 : List IN := [⟨3, 37, 5, ff37, none⟩, ⟨10, 44, 12, ff44_3, some ⟨[0, 1, 2, 3, 4, 5, 6, 7, 8, 9, 10, 11, 12, 13, 14, 15, 16, 17, 18, 19, 20, 21, 22, 23, 24, 25, 26, 27, 28, 29, 30, 31, 32, 33, 34, 35, 36, 37, 38, 39, 40, 41], [12, 13, 14, 15, 16, 17, 18, 19, 20, 21, 22, 23, 24, 25, 26, 27, 28, 29, 30, 31, 32, 33], ⟨[21], [(8, .ptr 14 0), (9, .v (.i .i64))], [⟨14, .row (.v (.p (.i .u64) (.p (.i .u64) (.sl (.p .s (.p (.i .i64) (.p (.i .i64) (.p (.i .u64) (.p (.i .i64) (.p (.i .i64) (.i .u64))))))))))), false⟩]⟩⟩⟩, ⟨17, 65, 21, ff65, some ⟨[0, 1, 2, 3, 4, 5, 6, 7], [21, 22], ⟨[], [(2, .ow 21 7)], [⟨21, .rows (.p .s (.p (.i .i64) (.p (.i .i64) (.p (.i .u64) (.p (.i .i64) (.p (.i .i64) (.i .u64))))))) 7, false⟩]⟩⟩⟩, ⟨19, 63, 23, ff63_1, some ⟨[0, 1, 2, 3, 4, 5, 6, 7, 8, 9, 10, 11, 12, 13, 14, 15, 16, 17, 18, 19, 20, 21, 22, 23, 24], [21, 23, 24, 25, 26, 27, 28, 29, 30, 31, 32, 33], ⟨[], [(4, .v (.i .i64))], [⟨21, .rows (.p .s (.p (.i .i64) (.p (.i .i64) (.p (.i .u64) (.p (.i .i64) (.p (.i .i64) (.i .u64))))))) 7, true⟩]⟩⟩⟩, ⟨23, 36, 26, ff36, some ⟨[0, 1, 2, 3, 4, 5, 6, 7, 8, 9, 10, 11], [26, 27, 28, 29, 30, 31], ⟨[], [(4, .v (.i .i64)), (5, .v .b)], []⟩⟩⟩, ⟨24, 42, 32, ff42, some ⟨[0, 1, 2, 3, 4, 5, 6, 7, 8, 9, 10, 11, 12, 13, 14, 15, 16], [21, 32, 33], ⟨[], [(2, .v (.i .i64))], [⟨21, .rows (.p .s (.p (.i .i64) (.p (.i .i64) (.p (.i .u64) (.p (.i .i64) (.p (.i .i64) (.i .u64))))))) 7, true⟩]⟩⟩⟩, ⟨27, 60, 29, ff60, some ⟨[0, 1, 2, 3, 4, 5, 6, 7, 8, 9, 10, 11, 12, 13, 14, 15, 16, 17, 18, 19, 20, 21, 22, 23, 24, 25, 26, 27, 28, 29, 30, 31, 32, 33, 34, 35, 36, 37, 38, 39, 40, 41, 42, 43, 44, 45, 46, 47, 48], [29, 30, 31], ⟨[], [(6, .v (.i .i64)), (7, .v .b)], []⟩⟩⟩]
theorem in16_ok : INsOk Try.prog in16 := ⟨ff37_ok, ff44_3_ok, ff65_ok, ff63_1_ok, ff36_ok, ff42_ok, ff60_ok, trivial⟩
def F16 : DT ((.co (.v (.p (.i .i64) (.i .i64))) (.co (.v (.p (.i .u64) (.p (.i .u64) (.sl (.p .s (.p (.i .i64) (.p (.i .i64) (.p (.i .u64) (.p (.i .i64) (.p (.i .i64) (.i .u64))))))))))) (.co (.v (.i .u64)) (.co (.v .s) .no)))) : Fm).den → Option (DT (.tup (.co (.v (.p (.i .u64) (.p (.i .u64) (.sl (.p .s (.p (.i .i64) (.p (.i .i64) (.p (.i .u64) (.p (.i .i64) (.p (.i .i64) (.i .u64))))))))))) (.co (.v (.i .i64)) .no)) : Fm).den) := pureT tb16 ex16 in16 9 xf16 _ _ []
def pe16 : PE := ⟨16, (.co (.v (.p (.i .i64) (.i .i64))) (.co (.v (.p (.i .u64) (.p (.i .u64) (.sl (.p .s (.p (.i .i64) (.p (.i .i64) (.p (.i .u64) (.p (.i .i64) (.p (.i .i64) (.i .u64))))))))))) (.co (.v (.i .u64)) (.co (.v .s) .no)))), .tup (.co (.v (.p (.i .u64) (.p (.i .u64) (.sl (.p .s (.p (.i .i64) (.p (.i .i64) (.p (.i .u64) (.p (.i .i64) (.p (.i .i64) (.i .u64))))))))))) (.co (.v (.i .i64)) .no)), F16⟩
theorem pe16_ok : pe16.ok Try.prog := pe_of hm tb16_ok ex16_ok in16_ok xf16_ok (by kernel_rfl) (fun _ => rfl)
def xf3 : FX := ⟨(.seq (.reg [(qx 1 (.box 0 10 (.t 0))), (qx 2 (.mov (.c (.v (.bool false)))))]) (.seq (.reg [(qx 16 (.fad 2 (.t 1))), (qx 17 (.load true 3 (.t 16))), (qx 18 (.call 1 10 [(.t 17)])), (qx 3 (.alloc 2 (.agg [(.v (.int .u64 0)), (.v (.int .u64 0)), (.sl true [])]))), ⟨⟨none, (.store 3 (.t 3) (.t 18)), none⟩, .b, [], []⟩]) (.seq (.reg [(qx 20 (.load true 3 (.t 3))), (qx 21 (.fad 6 (.t 1))), (qx 22 (.load false 1 (.t 21))), (qx 23 (.call 3 11 [(.t 20), (.t 22)])), (qx 19 (.mov (.t 23))), (qx 24 (.ext (.t 19) 0)), (qx 25 (.ext (.t 19) 1)), ⟨⟨(some 4), (.alloc 4 (.agg [(.v (.string ⟨#[]⟩)), (.v (.int .i64 0)), (.v (.int .i64 0)), (.v (.int .u64 0)), (.v (.int .i64 0)), (.v (.int .i64 0)), (.v (.int .u64 0))])), none⟩, .b, [], []⟩, ⟨⟨none, (.store 7 (.t 4) (.t 24)), none⟩, .b, [], []⟩, (qx 5 (.mov (.t 25)))]) (.seq (.cut ⟨[2, 6, 7, 26, 27, 28, 29, 30, 31, 32, 33, 34, 35, 36, 37, 38, 39, 40, 41, 42, 43, 44, 45, 46, 47, 48, 49, 50, 51, 52, 53, 54, 55, 56, 57, 58, 59, 60], [7], ⟨[], [], []⟩⟩ (.seq (.cutN ⟨[26, 27, 28, 29, 30, 31, 32, 33, 34, 35, 36, 37, 38, 39, 40], [], ⟨[], [(40, .v .b)], []⟩⟩ (.reg [(qx 26 (.mov (.t 5))), (qx 27 (.bin .neq (.t 26) (.c (.v (.int .i64 0))))), (qx 28 (.mov (.t 27))), ⟨⟨(some 29), (.fad 0 (.t 1)), (some (28, false))⟩, .b, [], []⟩, ⟨⟨(some 30), (.load true 2 (.t 29)), (some (28, false))⟩, .b, [], []⟩, ⟨⟨(some 31), (.call 5 12 [(.t 30)]), (some (28, false))⟩, .b, [], []⟩, ⟨⟨(some 32), (.un .not (.t 31)), (some (28, false))⟩, .b, [], []⟩, (qx 33 (.pick (.t 28) (.c (.v (.bool true))) (.t 32))), (qx 34 (.mov (.t 33))), ⟨⟨(some 35), (.fad 5 (.t 1)), (some (34, false))⟩, .b, [], []⟩, ⟨⟨(some 36), (.load false 1 (.t 35)), (some (34, false))⟩, .b, [], []⟩, ⟨⟨(some 37), (.fad 0 (.t 3)), (some (34, false))⟩, .b, [], []⟩, ⟨⟨(some 38), (.load false 1 (.t 37)), (some (34, false))⟩, .b, [], []⟩, ⟨⟨(some 39), (.bin .lss (.t 36) (.t 38)), (some (34, false))⟩, .b, [], []⟩, (qx 40 (.pick (.t 34) (.c (.v (.bool true))) (.t 39)))])) (.cond (.t 40) (.seq (.reg [(qx 42 (.fad 0 (.t 1))), (qx 43 (.load true 2 (.t 42))), (qx 44 (.load true 3 (.t 3))), (qx 45 (.fad 5 (.t 1))), (qx 46 (.load false 1 (.t 45))), (qx 47 (.fad 6 (.t 1))), (qx 48 (.load false 1 (.t 47))), (qx 49 (.fad 8 (.t 1))), (qx 50 (.load false 1 (.t 49))), (qx 51 (.fad 9 (.t 1))), (qx 52 (.load false 1 (.t 51))), (qx 53 (.call 6 13 [(.t 43), (.t 44), (.t 46), (.t 48), (.t 50), (.t 52)])), (qx 41 (.mov (.t 53))), (qx 54 (.ext (.t 41) 0)), (qx 55 (.ext (.t 41) 1)), (qx 6 (.alloc 7 (.agg [(.v (.int .u64 0)), (.v (.int .u64 0)), (.sl true [])]))), ⟨⟨none, (.store 3 (.t 6) (.t 54)), none⟩, .b, [], []⟩, (qx 7 (.mov (.t 55)))]) (.seq (.reg [(qx 56 (.mov (.t 7))), (qx 57 (.bin .neq (.t 56) (.c (.v (.int .i64 0))))), (qx 58 (.mov (.t 57))), ⟨⟨(some 59), (.call 8 14 []), (some (58, true))⟩, .b, [], []⟩, (qx 60 (.pick (.t 58) (.t 59) (.c (.v (.bool false))))), (qx 2 (.mov (.t 60)))]) .ret)) .skip))) (.seq (.reg [(qx 62 (.fad 0 (.t 1))), (qx 63 (.load true 2 (.t 62))), (qx 64 (.load true 3 (.t 3))), (qx 65 (.fad 5 (.t 1))), (qx 66 (.load false 1 (.t 65))), (qx 67 (.fad 6 (.t 1))), (qx 68 (.load false 1 (.t 67))), (qx 69 (.fad 8 (.t 1))), (qx 70 (.load false 1 (.t 69))), (qx 71 (.fad 9 (.t 1))), (qx 72 (.load false 1 (.t 71))), (qx 73 (.call 9 13 [(.t 63), (.t 64), (.t 66), (.t 68), (.t 70), (.t 72)])), (qx 61 (.mov (.t 73))), (qx 74 (.ext (.t 61) 0)), (qx 75 (.ext (.t 61) 1)), (qx 8 (.alloc 10 (.agg [(.v (.int .u64 0)), (.v (.int .u64 0)), (.sl true [])]))), ⟨⟨none, (.store 3 (.t 8) (.t 74)), none⟩, .b, [], []⟩, (qx 9 (.mov (.t 75)))]) (.seq (.cut ⟨[2, 76, 77, 78, 79, 80, 81, 82, 83, 84, 85, 86, 87, 88], [], ⟨[], [], []⟩⟩ (.seq (.cutN ⟨[76, 77, 78, 79, 80, 81, 82, 83, 84, 85, 86, 87, 88], [], ⟨[], [(88, .v .b)], []⟩⟩ (.reg [(qx 76 (.mov (.t 9))), (qx 77 (.bin .eql (.t 76) (.c (.v (.int .i64 0))))), (qx 78 (.fad 1 (.t 4))), (qx 79 (.load false 1 (.t 78))), (qx 80 (.bin .eql (.t 79) (.c (.v (.int .i64 1))))), (qx 81 (.mov (.t 80))), ⟨⟨(some 82), (.fad 8 (.t 1)), (some (81, true))⟩, .b, [], []⟩, ⟨⟨(some 83), (.load false 1 (.t 82)), (some (81, true))⟩, .b, [], []⟩, ⟨⟨(some 84), (.fad 3 (.t 4)), (some (81, true))⟩, .b, [], []⟩, ⟨⟨(some 85), (.load false 1 (.t 84)), (some (81, true))⟩, .b, [], []⟩, ⟨⟨(some 86), (.bin .eql (.t 83) (.t 85)), (some (81, true))⟩, .b, [], []⟩, (qx 87 (.pick (.t 81) (.t 86) (.c (.v (.bool false))))), (qx 88 (.binB true (.t 77) (.t 87)))])) (.cond (.t 88) (.seq (.reg [(qx 2 (.mov (.c (.v (.bool false)))))]) .ret) .skip))) (.seq (.seq (.reg [(qx 89 (.mov (.t 9))), (qx 90 (.bin .neq (.t 89) (.c (.v (.int .i64 0)))))]) (.cond (.t 90) (.seq (.reg [(qx 91 (.load true 3 (.t 8))), (qx 92 (.load true 3 (.t 3))), (qx 93 (.call 11 15 [(.t 91), (.t 92)])), (qx 94 (.mov (.t 93))), ⟨⟨(some 95), (.call 12 14 []), (some (94, true))⟩, .b, [], []⟩, (qx 96 (.pick (.t 94) (.t 95) (.c (.v (.bool false))))), (qx 2 (.mov (.t 96)))]) .ret) .skip)) (.seq (.reg [(qx 98 (.load true 3 (.t 8))), (qx 99 (.fad 6 (.t 1))), (qx 100 (.load false 1 (.t 99))), (qx 101 (.call 13 11 [(.t 98), (.t 100)])), (qx 97 (.mov (.t 101))), (qx 102 (.ext (.t 97) 0)), (qx 103 (.ext (.t 97) 1)), ⟨⟨(some 10), (.alloc 14 (.agg [(.v (.string ⟨#[]⟩)), (.v (.int .i64 0)), (.v (.int .i64 0)), (.v (.int .u64 0)), (.v (.int .i64 0)), (.v (.int .i64 0)), (.v (.int .u64 0))])), none⟩, .b, [], []⟩, ⟨⟨none, (.store 7 (.t 10) (.t 102)), none⟩, .b, [], []⟩, (qx 11 (.mov (.t 103)))]) (.seq (.reg [(qx 105 (.fad 0 (.t 1))), (qx 106 (.load true 2 (.t 105))), (qx 107 (.load true 3 (.t 8))), (qx 108 (.fad 5 (.t 1))), (qx 109 (.load false 1 (.t 108))), (qx 110 (.fad 6 (.t 1))), (qx 111 (.load false 1 (.t 110))), (qx 112 (.fad 8 (.t 1))), (qx 113 (.load false 1 (.t 112))), (qx 114 (.fad 9 (.t 1))), (qx 115 (.load false 1 (.t 114))), (qx 116 (.call 15 13 [(.t 106), (.t 107), (.t 109), (.t 111), (.t 113), (.t 115)])), (qx 104 (.mov (.t 116))), (qx 117 (.ext (.t 104) 0)), (qx 118 (.ext (.t 104) 1)), (qx 12 (.alloc 16 (.agg [(.v (.int .u64 0)), (.v (.int .u64 0)), (.sl true [])]))), ⟨⟨none, (.store 3 (.t 12) (.t 117)), none⟩, .b, [], []⟩, (qx 13 (.mov (.t 118)))]) (.seq (.cut ⟨[2, 119, 120, 121, 122, 123, 124, 125, 126, 127, 128, 129, 130, 131, 132, 133, 134, 135, 136, 137, 138, 139, 140, 141, 142, 143, 144, 145, 146, 147], [], ⟨[], [], []⟩⟩ (.seq (.cutN ⟨[119, 120, 121, 122, 123, 124, 125, 126, 127, 128, 129, 130, 131, 132, 133, 134, 135, 136, 137, 138, 139, 140, 141, 142, 143, 144, 145, 146, 147], [], ⟨[], [(147, .v .b)], []⟩⟩ (.reg [(qx 119 (.mov (.t 11))), (qx 120 (.bin .neq (.t 119) (.c (.v (.int .i64 0))))), (qx 121 (.mov (.t 120))), ⟨⟨(some 122), (.mov (.t 13)), (some (121, false))⟩, .b, [], []⟩, ⟨⟨(some 123), (.bin .neq (.t 122) (.c (.v (.int .i64 7)))), (some (121, false))⟩, .b, [], []⟩, (qx 124 (.pick (.t 121) (.c (.v (.bool true))) (.t 123))), (qx 125 (.mov (.t 124))), ⟨⟨(some 126), (.fad 5 (.t 10)), (some (125, false))⟩, .b, [], []⟩, ⟨⟨(some 127), (.load false 1 (.t 126)), (some (125, false))⟩, .b, [], []⟩, ⟨⟨(some 128), (.bin .neq (.t 127) (.c (.v (.int .i64 (-1))))), (some (125, false))⟩, .b, [], []⟩, (qx 129 (.pick (.t 125) (.c (.v (.bool true))) (.t 128))), (qx 130 (.mov (.t 129))), ⟨⟨(some 131), (.fad 6 (.t 10)), (some (130, false))⟩, .b, [], []⟩, ⟨⟨(some 132), (.load false 1 (.t 131)), (some (130, false))⟩, .b, [], []⟩, ⟨⟨(some 133), (.bin .neq (.t 132) (.c (.v (.int .u64 0)))), (some (130, false))⟩, .b, [], []⟩, (qx 134 (.pick (.t 130) (.c (.v (.bool true))) (.t 133))), (qx 135 (.mov (.t 134))), ⟨⟨(some 136), (.fad 1 (.t 10)), (some (135, false))⟩, .b, [], []⟩, ⟨⟨(some 137), (.load false 1 (.t 136)), (some (135, false))⟩, .b, [], []⟩, ⟨⟨(some 138), (.bin .eql (.t 137) (.c (.v (.int .i64 1)))), (some (135, false))⟩, .b, [], []⟩, (qx 139 (.pick (.t 135) (.c (.v (.bool true))) (.t 138))), (qx 140 (.mov (.t 139))), ⟨⟨(some 141), (.fad 9 (.t 1)), (some (140, false))⟩, .b, [], []⟩, ⟨⟨(some 142), (.load false 1 (.t 141)), (some (140, false))⟩, .b, [], []⟩, ⟨⟨(some 143), (.fad 1 (.t 10)), (some (140, false))⟩, .b, [], []⟩, ⟨⟨(some 144), (.load false 1 (.t 143)), (some (140, false))⟩, .b, [], []⟩, ⟨⟨(some 145), (.bin .eql (.t 144) (.c (.v (.int .i64 2)))), (some (140, false))⟩, .b, [], []⟩, ⟨⟨(some 146), (.binB true (.t 142) (.t 145)), (some (140, false))⟩, .b, [], []⟩, (qx 147 (.pick (.t 140) (.c (.v (.bool true))) (.t 146)))])) (.cond (.t 147) (.seq (.reg [(qx 2 (.mov (.c (.v (.bool false)))))]) .ret) .skip))) (.seq (.seq (.reg [(qx 148 (.fad 5 (.t 1))), (qx 149 (.load false 1 (.t 148))), (qx 150 (.bin .eql (.t 149) (.c (.v (.int .u64 0)))))]) (.cond (.t 150) (.seq (.reg [(qx 151 (.call 17 14 [])), (qx 2 (.mov (.t 151)))]) .ret) .skip)) (.seq (.reg [(qx 153 (.fad 0 (.t 1))), (qx 154 (.load true 2 (.t 153))), (qx 155 (.load true 3 (.t 8))), (qx 156 (.fad 5 (.t 1))), (qx 157 (.load false 1 (.t 156))), (qx 158 (.bin .sub (.t 157) (.c (.v (.int .u64 1))))), (qx 159 (.fad 6 (.t 1))), (qx 160 (.load false 1 (.t 159))), (qx 161 (.call 18 16 [(.t 154), (.t 155), (.t 158), (.t 160)])), (qx 152 (.mov (.t 161))), (qx 162 (.ext (.t 152) 0)), (qx 163 (.ext (.t 152) 1)), (qx 14 (.alloc 19 (.agg [(.v (.int .u64 0)), (.v (.int .u64 0)), (.sl true [])]))), ⟨⟨none, (.store 3 (.t 14) (.t 162)), none⟩, .b, [], []⟩, (qx 15 (.mov (.t 163)))]) (.seq (.reg [(qx 164 (.mov (.t 15))), (qx 165 (.bin .eql (.t 164) (.c (.v (.int .i64 8))))), (qx 166 (.mov (.t 165))), ⟨⟨(some 167), (.call 20 14 []), (some (166, true))⟩, .b, [], []⟩, (qx 168 (.pick (.t 166) (.t 167) (.c (.v (.bool false))))), (qx 2 (.mov (.t 168)))]) .ret))))))))))))), [1, 18, 3, 23, 4, 31, 53, 6, 59, 73, 8, 93, 95, 101, 10, 116, 12, 151, 161, 14, 167], 169, [.t 2], 22⟩
theorem xf3_ok : xf3.ok Try.prog 3 := ⟨_, _, Try.func3, rfl, by kernel_rfl, rfl, by kernel_rfl, rfl, by kernel_rfl, by kernel_rfl⟩
def tb3 : List PE := [pe10, pe11, pe12, pe13, pe14, pe15, pe16]
theorem tb3_ok : PEsOk Try.prog tb3 := ⟨pe10_ok, pe11_ok, pe12_ok, pe13_ok, pe14_ok, pe15_ok, pe16_ok, trivial⟩
def ex3 : List EX := []
theorem ex3_ok : EXsOk Try.prog ex3 := trivial
def in3 : List IN := []
theorem in3_ok : INsOk Try.prog in3 := trivial
def F3 : DT ((.co (.v (.p (.i .i64) (.p (.i .i64) (.p (.i .u64) (.p (.i .u64) (.p (.sl (.p .s (.p (.i .i64) (.p (.i .i64) (.p (.i .u64) (.p (.i .i64) (.p (.i .i64) (.i .u64)))))))) (.p (.i .u64) (.p .s (.p (.i .i64) (.p (.i .u64) .b)))))))))) .no) : Fm).den → Option (DT (.v .b : Fm).den) := pureT tb3 ex3 in3 0 xf3 _ _ []
def pe3 : PE := ⟨3, (.co (.v (.p (.i .i64) (.p (.i .i64) (.p (.i .u64) (.p (.i .u64) (.p (.sl (.p .s (.p (.i .i64) (.p (.i .i64) (.p (.i .u64) (.p (.i .i64) (.p (.i .i64) (.i .u64)))))))) (.p (.i .u64) (.p .s (.p (.i .i64) (.p (.i .u64) .b)))))))))) .no), .v .b, F3⟩
theorem pe3_ok : pe3.ok Try.prog := pe_of hm tb3_ok ex3_ok in3_ok xf3_ok (by kernel_rfl) (fun _ => rfl)
end
end Go.Proofs.Ytoblcfkmggbheaa.VL
end
section
namespace Go.Proofs.Ytoblcfkmggbheaa.VL
open Go
set_option maxRecDepth 100000
set_option linter.unusedVariables false
set_option linter.unusedSectionVars false
variable [Val]
theorem F10_eq (v : (Int × (Int × (List (ByteArray × (Int × (Int × (Int × (Int × (Int × Int)))))))))) : F10 v = (cond (decide (((v.2.2.length : Nat) : Int) > (101 : Int))) (cond (decide ((101 : Int) ≤ ((v.2.2.length : Nat) : Int))) (some (v.1, (v.2.1, (List.take 101 v.2.2)))) none) (some (v.1, (v.2.1, v.2.2)))) := by kernel_rfl
theorem F46_eq (v : ByteArray) : F46 v = (joinX (loopX (fun (v0 : (ByteArray × Nat)) => (cond (decide (v0.2 < (ByteArray.size v0.1))) (Option.bind (cond (decide ((((Utf8.decode v0.1 v0.2).1 : Nat) : Int) ≥ (97 : Int))) (cond (decide ((((Utf8.decode v0.1 v0.2).1 : Nat) : Int) ≤ (122 : Int))) (some false) (cond (decide ((((Utf8.decode v0.1 v0.2).1 : Nat) : Int) ≥ (48 : Int))) (cond (decide ((((Utf8.decode v0.1 v0.2).1 : Nat) : Int) ≤ (57 : Int))) (some false) (some (!((((Utf8.decode v0.1 v0.2).1 : Nat) : Int) == (45 : Int))))) (some (!((((Utf8.decode v0.1 v0.2).1 : Nat) : Int) == (45 : Int)))))) (cond (decide ((((Utf8.decode v0.1 v0.2).1 : Nat) : Int) ≥ (48 : Int))) (cond (decide ((((Utf8.decode v0.1 v0.2).1 : Nat) : Int) ≤ (57 : Int))) (some false) (some (!((((Utf8.decode v0.1 v0.2).1 : Nat) : Int) == (45 : Int))))) (some (!((((Utf8.decode v0.1 v0.2).1 : Nat) : Int) == (45 : Int)))))) (fun (v1 : Bool) => (cond v1 (some (.inr (.inr false))) (some (.inl (v0.1, (v0.2 + (Utf8.decode v0.1 v0.2).2))))))) (some (.inr (.inl ()))))) (v, 0)) (fun (v2 : Unit) => (cond (!((ByteArray.toList v) == (ByteArray.toList (ByteArray.mk #[])))) (some (decide ((((ByteArray.size v) : Nat) : Int) ≤ (20 : Int)))) (some false)))) := by kernel_rfl
theorem F47_eq (v : (Int × (Int × Int))) : F47 v = (cond (decide (v.1 ≥ v.2.1)) (some (decide (v.1 ≤ v.2.2))) (some false)) := by kernel_rfl
theorem F54_eq (v : Int) : F54 v = (Option.bind (F47 (v, ((0 : Int), (63 : Int)))) (fun (v0 : Bool) => (some v0))) := by kernel_rfl
theorem F57_eq (v : ((ByteArray × (Int × (Int × (Int × (Int × (Int × Int)))))) × Int)) : F57 v = (Option.bind (cond (v.1.2.2.2.2.2.1 == (-1 : Int)) (some (v.1.2.2.2.2.2.2 == (0 : Int))) (some false)) (fun (v0 : Bool) => (Option.bind (cond (v.1.2.1 == (1 : Int)) (Option.bind (F54 v.1.2.2.2.2.2.1) (fun (v1 : Bool) => (cond v1 (some (decide (v.1.2.2.2.1 > (0 : Int)))) (some false)))) (some v0)) (fun (v2 : Bool) => (Option.bind (F46 v.1.1) (fun (v3 : Bool) => (cond (!v3) (some true) (Option.bind (F47 (v.1.2.1, ((0 : Int), (4 : Int)))) (fun (v4 : Bool) => (cond (!v4) (some true) (Option.bind (F47 (v.1.2.2.1, ((0 : Int), (9 : Int)))) (fun (v5 : Bool) => (cond (!v5) (some true) (cond (decide (v.1.2.2.2.1 > v.2)) (some true) (cond (!((v.1.2.2.2.1 == (0 : Int)) == (v.1.2.2.2.2.1 == (0 : Int)))) (some true) (Option.bind (F47 (v.1.2.2.2.2.1, ((0 : Int), (100 : Int)))) (fun (v6 : Bool) => (cond (!v6) (some true) (some (!v2)))))))))))))))))))) := by kernel_rfl
theorem F26_eq (v : (Int × (Int × (List (ByteArray × (Int × (Int × (Int × (Int × (Int × Int)))))))))) : F26 v = (joinX (loopX (fun (v0 : (Int × (List (Int × Bool)))) => (cond (decide (v0.1 < ((v.2.2.length : Nat) : Int))) (joinX (cond (decide ((0 : Int) ≤ v0.1)) (Option.bind v.2.2[(Int.toNat v0.1)]? (fun (v1 : (ByteArray × (Int × (Int × (Int × (Int × (Int × Int))))))) => (joinX (Option.bind (Option.bind (F57 ((v1.1, (v1.2.1, (v1.2.2.1, (v1.2.2.2.1, (v1.2.2.2.2.1, (v1.2.2.2.2.2.1, v1.2.2.2.2.2.2)))))), v.2.1)) (fun (v2 : Bool) => (cond v2 (some true) (cond (decide (v0.1 > (0 : Int))) (cond (decide ((0 : Int) ≤ (IntKind.wrap IntKind.i64 (v0.1 - (1 : Int))))) (Option.bind v.2.2[(Int.toNat (IntKind.wrap IntKind.i64 (v0.1 - (1 : Int))))]? (fun (v3 : (ByteArray × (Int × (Int × (Int × (Int × (Int × Int))))))) => (cond (!(Op.bytesLess (ByteArray.toList v3.1) (ByteArray.toList v1.1))) (some true) (some (Option.getD (mget (kt := (TT.i IntKind.u64)) (vt := TT.b) v1.2.2.2.1 v0.2) false))))) none) (some (Option.getD (mget (kt := (TT.i IntKind.u64)) (vt := TT.b) v1.2.2.2.1 v0.2) false)))))) (fun (v4 : Bool) => (cond v4 (some (.inr (.inr (.inr (.inr (1 : Int)))))) (some (.inl ()))))) (fun (v5 : Unit) => (some (.inl (mput (kt := (TT.i IntKind.u64)) (vt := TT.b) v1.2.2.2.1 (decide (v1.2.2.2.1 > (0 : Int))) v0.2))))))) none) (fun (v6 : (List (Int × Bool))) => (some (.inl ((IntKind.wrap IntKind.i64 (v0.1 + (1 : Int))), v6))))) (some (.inr (.inl v0.2))))) ((0 : Int), [])) (fun (v7 : (List (Int × Bool))) => (cond (decide (((v.2.2.length : Nat) : Int) > (100 : Int))) (some (1 : Int)) (some (0 : Int))))) := by kernel_rfl
theorem F62_eq (v : (ByteArray × ByteArray)) : F62 v = (cond (!((ByteArray.toList v.1) == (ByteArray.toList v.1))) (cond (!((ByteArray.toList v.2) == (ByteArray.toList v.2))) (some (0 : Int)) (some (-1 : Int))) (cond (!((ByteArray.toList v.2) == (ByteArray.toList v.2))) (some (1 : Int)) (cond (Op.bytesLess (ByteArray.toList v.1) (ByteArray.toList v.2)) (some (-1 : Int)) (cond (!((Op.bytesLess (ByteArray.toList v.1) (ByteArray.toList v.2)) || ((ByteArray.toList v.1) == (ByteArray.toList v.2)))) (some (1 : Int)) (some (0 : Int)))))) := by kernel_rfl
theorem F61_eq (v : ((ByteArray × (Int × (Int × (Int × (Int × (Int × Int)))))) × ByteArray)) : F61 v = (Option.bind (F62 (v.1.1, v.2)) (fun (v0 : Int) => (some v0))) := by kernel_rfl
theorem F36_eq (v : ((Int × (Int × (List (ByteArray × (Int × (Int × (Int × (Int × (Int × Int))))))))) × ByteArray)) : F36 v = (Option.bind (Option.bind (loopX (fun (v0 : (Int × Int)) => (cond (decide (v0.1 < v0.2)) (cond (decide ((0 : Int) ≤ (IntKind.wrap IntKind.i64 (Int.fdiv (IntKind.wrap IntKind.u64 (IntKind.wrap IntKind.i64 (v0.1 + v0.2))) (2 : Int))))) (Option.bind v.1.2.2[(Int.toNat (IntKind.wrap IntKind.i64 (Int.fdiv (IntKind.wrap IntKind.u64 (IntKind.wrap IntKind.i64 (v0.1 + v0.2))) (2 : Int))))]? (fun (v1 : (ByteArray × (Int × (Int × (Int × (Int × (Int × Int))))))) => (Option.bind (F61 ((v1.1, (v1.2.1, (v1.2.2.1, (v1.2.2.2.1, (v1.2.2.2.2.1, (v1.2.2.2.2.2.1, v1.2.2.2.2.2.2)))))), v.2)) (fun (v2 : Int) => (cond (decide (v2 < (0 : Int))) (some (.inl ((IntKind.wrap IntKind.i64 ((IntKind.wrap IntKind.i64 (Int.fdiv (IntKind.wrap IntKind.u64 (IntKind.wrap IntKind.i64 (v0.1 + v0.2))) (2 : Int))) + (1 : Int))), v0.2))) (some (.inl (v0.1, (IntKind.wrap IntKind.i64 (Int.fdiv (IntKind.wrap IntKind.u64 (IntKind.wrap IntKind.i64 (v0.1 + v0.2))) (2 : Int))))))))))) none) (some (.inr v0.1)))) ((0 : Int), ((v.1.2.2.length : Nat) : Int))) (fun (v3 : Int) => (cond (decide (v3 < ((v.1.2.2.length : Nat) : Int))) (cond (decide ((0 : Int) ≤ v3)) (Option.bind v.1.2.2[(Int.toNat v3)]? (fun (v4 : (ByteArray × (Int × (Int × (Int × (Int × (Int × Int))))))) => (Option.bind (F61 ((v4.1, (v4.2.1, (v4.2.2.1, (v4.2.2.2.1, (v4.2.2.2.2.1, (v4.2.2.2.2.2.1, v4.2.2.2.2.2.2)))))), v.2)) (fun (v5 : Int) => (some (v3, (v5 == (0 : Int)))))))) none) (some (v3, false))))) (fun (v6 : (Int × Bool)) => (some (v6.1, v6.2)))) := by kernel_rfl
theorem F11_eq (v : ((Int × (Int × (List (ByteArray × (Int × (Int × (Int × (Int × (Int × Int))))))))) × ByteArray)) : F11 v = (Option.bind (F26 (v.1.1, (v.1.2.1, v.1.2.2))) (fun (v0 : Int) => (cond (v0 != (0 : Int)) (some (((ByteArray.mk #[]), ((0 : Int), ((0 : Int), ((0 : Int), ((0 : Int), ((0 : Int), (0 : Int))))))), v0)) (Option.bind (F36 ((v.1.1, (v.1.2.1, v.1.2.2)), v.2)) (fun (v1 : (Int × Bool)) => (cond (!v1.2) (some (((ByteArray.mk #[]), ((0 : Int), ((0 : Int), ((0 : Int), ((0 : Int), ((0 : Int), (0 : Int))))))), (6 : Int))) (cond (decide ((0 : Int) ≤ v1.1)) (Option.bind v.1.2.2[(Int.toNat v1.1)]? (fun (v2 : (ByteArray × (Int × (Int × (Int × (Int × (Int × Int))))))) => (some ((v2.1, (v2.2.1, (v2.2.2.1, (v2.2.2.2.1, (v2.2.2.2.2.1, (v2.2.2.2.2.2.1, v2.2.2.2.2.2.2)))))), (0 : Int))))) none))))))) := by kernel_rfl
theorem F12_eq (v : (Int × Int)) : F12 v = (cond (decide ((1 : Int) ≤ v.1)) (cond (decide (v.1 ≤ (100 : Int))) (cond (decide ((1 : Int) ≤ v.2)) (some (decide (v.2 ≤ (100 : Int)))) (some false)) (some false)) (some false)) := by kernel_rfl
theorem F29_eq (v : (Int × Int)) : F29 v = (Option.bind (Option.bind (F47 (v.1, ((1 : Int), (100 : Int)))) (fun (v0 : Bool) => (cond (!v0) (some true) (Option.bind (F47 (v.2, ((1 : Int), (100 : Int)))) (fun (v1 : Bool) => (some (!v1))))))) (fun (v2 : Bool) => (cond v2 (some (1 : Int)) (some (0 : Int))))) := by kernel_rfl
theorem F43_eq (v : (ByteArray × (Int × (Int × (Int × (Int × (Int × Int))))))) : F43 v = (cond (v.2.1 == (0 : Int)) (some true) (some (v.2.1 == (1 : Int)))) := by kernel_rfl
theorem F34_eq (v : ((List (ByteArray × (Int × (Int × (Int × (Int × (Int × Int))))))) × (List (ByteArray × (Int × (Int × (Int × (Int × (Int × Int))))))))) : F34 v = (cond (((v.1.length : Nat) : Int) != ((v.2.length : Nat) : Int)) (some false) (loopX (fun (v0 : Int) => (cond (decide (v0 < ((v.1.length : Nat) : Int))) (cond (decide ((0 : Int) ≤ v0)) (Option.bind v.1[(Int.toNat v0)]? (fun (v1 : (ByteArray × (Int × (Int × (Int × (Int × (Int × Int))))))) => (cond (decide ((0 : Int) ≤ v0)) (Option.bind v.2[(Int.toNat v0)]? (fun (v2 : (ByteArray × (Int × (Int × (Int × (Int × (Int × Int))))))) => (cond (!(((ByteArray.toList v1.1) == (ByteArray.toList v2.1)) && ((v1.2.1 == v2.2.1) && ((v1.2.2.1 == v2.2.2.1) && ((v1.2.2.2.1 == v2.2.2.2.1) && ((v1.2.2.2.2.1 == v2.2.2.2.2.1) && ((v1.2.2.2.2.2.1 == v2.2.2.2.2.2.1) && ((v1.2.2.2.2.2.2 == v2.2.2.2.2.2.2) && true)))))))) (some (.inr false)) (some (.inl (IntKind.wrap IntKind.i64 (v0 + (1 : Int)))))))) none))) none) (some (.inr true)))) (0 : Int))) := by kernel_rfl
theorem F15_eq (v : ((Int × (Int × (List (ByteArray × (Int × (Int × (Int × (Int × (Int × Int))))))))) × (Int × (Int × (List (ByteArray × (Int × (Int × (Int × (Int × (Int × Int))))))))))) : F15 v = (cond (v.1.1 == v.2.1) (cond (v.1.2.1 == v.2.2.1) (Option.bind (F34 (v.1.2.2, v.2.2.2)) (fun (v0 : Bool) => (some v0))) (some false)) (some false)) := by kernel_rfl
theorem F13_eq (v : ((Int × Int) × ((Int × (Int × (List (ByteArray × (Int × (Int × (Int × (Int × (Int × Int))))))))) × (Int × (ByteArray × (Int × Bool)))))) : F13 v = (Option.bind (Option.bind (joinX (Option.bind (Option.bind (F29 (v.1.1, v.1.2)) (fun (v0 : Int) => (cond (v0 != (0 : Int)) (some true) (Option.bind (F26 (v.2.1.1, (v.2.1.2.1, v.2.1.2.2))) (fun (v1 : Int) => (some (v1 != (0 : Int)))))))) (fun (v2 : Bool) => (cond v2 (some (.inr ((1 : Int), (v.2.1.1, (v.2.1.2.1, v.2.1.2.2))))) (cond (decide (v.2.2.1 < v.2.1.1)) (some (.inr ((8 : Int), (v.2.1.1, (v.2.1.2.1, v.2.1.2.2))))) (some (.inl ((0 : Int), (0 : Int)))))))) (fun (v3 : (Int × Int)) => (Option.bind (bothX (List.isEmpty v.2.1.2.2) (some []) (cond ((decide ((((v.2.1.2.2.length : Nat) : Int) * (64 : Int)) ≤ (70368744177664 : Int))) && (decide (((v.2.1.2.2.length : Nat) : Int) ≤ (70368744177664 : Int)))) (cond (decide (v.2.1.2.2.length = v.2.1.2.2.length)) (some v.2.1.2.2) none) none)) (fun (v4 : (List (ByteArray × (Int × (Int × (Int × (Int × (Int × Int)))))))) => (Option.bind (Option.bind (Option.bind (Option.bind (loopX (fun (v5 : (Int × Int)) => (cond (decide (v5.1 < v5.2)) (cond ((decide ((0 : Int) ≤ (IntKind.wrap IntKind.i64 (Int.fdiv (IntKind.wrap IntKind.u64 (IntKind.wrap IntKind.i64 (v5.1 + v5.2))) (2 : Int))))) && (decide ((IntKind.wrap IntKind.i64 (Int.fdiv (IntKind.wrap IntKind.u64 (IntKind.wrap IntKind.i64 (v5.1 + v5.2))) (2 : Int))) < ((v4.length : Nat) : Int)))) (Option.bind v4[(0 + (Int.toNat (IntKind.wrap IntKind.i64 (Int.fdiv (IntKind.wrap IntKind.u64 (IntKind.wrap IntKind.i64 (v5.1 + v5.2))) (2 : Int)))))]? (fun (v6 : (ByteArray × (Int × (Int × (Int × (Int × (Int × Int))))))) => (Option.bind (F61 ((v6.1, (v6.2.1, (v6.2.2.1, (v6.2.2.2.1, (v6.2.2.2.2.1, (v6.2.2.2.2.2.1, v6.2.2.2.2.2.2)))))), v.2.2.2.1)) (fun (v7 : Int) => (cond (decide (v7 < (0 : Int))) (some (.inl ((IntKind.wrap IntKind.i64 ((IntKind.wrap IntKind.i64 (Int.fdiv (IntKind.wrap IntKind.u64 (IntKind.wrap IntKind.i64 (v5.1 + v5.2))) (2 : Int))) + (1 : Int))), v5.2))) (some (.inl (v5.1, (IntKind.wrap IntKind.i64 (Int.fdiv (IntKind.wrap IntKind.u64 (IntKind.wrap IntKind.i64 (v5.1 + v5.2))) (2 : Int))))))))))) none) (some (.inr v5.1)))) ((0 : Int), ((v4.length : Nat) : Int))) (fun (v8 : Int) => (cond (decide (v8 < ((v4.length : Nat) : Int))) (cond ((decide ((0 : Int) ≤ v8)) && (decide (v8 < ((v4.length : Nat) : Int)))) (Option.bind v4[(0 + (Int.toNat v8))]? (fun (v9 : (ByteArray × (Int × (Int × (Int × (Int × (Int × Int))))))) => (Option.bind (F61 ((v9.1, (v9.2.1, (v9.2.2.1, (v9.2.2.2.1, (v9.2.2.2.2.1, (v9.2.2.2.2.2.1, v9.2.2.2.2.2.2)))))), v.2.2.2.1)) (fun (v10 : Int) => (some (v8, (v10 == (0 : Int)))))))) none) (some (v8, false))))) (fun (v11 : (Int × Bool)) => (some (v11.1, v11.2)))) (fun (v12 : (Int × Bool)) => (cond (!v12.2) (some ((6 : Int), v4)) (cond ((decide ((0 : Int) ≤ v12.1)) && (decide (v12.1 < ((v4.length : Nat) : Int)))) (Option.bind (Option.bind v4[(0 + (Int.toNat v12.1))]? (fun (v13 : (ByteArray × (Int × (Int × (Int × (Int × (Int × Int))))))) => (cond (v13.2.2.2.1 != v.2.2.2.2.1) (some ((8 : Int), v4)) (Option.bind v4[(0 + (Int.toNat v12.1))]? (fun (v14 : (ByteArray × (Int × (Int × (Int × (Int × (Int × Int))))))) => (cond (v14.2.1 != (1 : Int)) (some ((7 : Int), v4)) (Option.bind (Option.bind (Option.bind v4[(0 + (Int.toNat v12.1))]? (fun (v15 : (ByteArray × (Int × (Int × (Int × (Int × (Int × Int))))))) => (Option.bind (List.set v4 (0 + (Int.toNat v12.1)) (v15.1, ((0 : Int), (v15.2.2.1, (v15.2.2.2.1, (v15.2.2.2.2.1, (v15.2.2.2.2.2.1, v15.2.2.2.2.2.2)))))))[(0 + (Int.toNat v12.1))]? (fun (v16 : (ByteArray × (Int × (Int × (Int × (Int × (Int × Int))))))) => (Option.bind (List.set (List.set v4 (0 + (Int.toNat v12.1)) (v15.1, ((0 : Int), (v15.2.2.1, (v15.2.2.2.1, (v15.2.2.2.2.1, (v15.2.2.2.2.2.1, v15.2.2.2.2.2.2))))))) (0 + (Int.toNat v12.1)) (v16.1, (v16.2.1, (v16.2.2.1, (v16.2.2.2.1, (v16.2.2.2.2.1, ((-1 : Int), v16.2.2.2.2.2.2)))))))[(0 + (Int.toNat v12.1))]? (fun (v17 : (ByteArray × (Int × (Int × (Int × (Int × (Int × Int))))))) => (Option.bind (List.set (List.set (List.set v4 (0 + (Int.toNat v12.1)) (v15.1, ((0 : Int), (v15.2.2.1, (v15.2.2.2.1, (v15.2.2.2.2.1, (v15.2.2.2.2.2.1, v15.2.2.2.2.2.2))))))) (0 + (Int.toNat v12.1)) (v16.1, (v16.2.1, (v16.2.2.1, (v16.2.2.2.1, (v16.2.2.2.2.1, ((-1 : Int), v16.2.2.2.2.2.2))))))) (0 + (Int.toNat v12.1)) (v17.1, (v17.2.1, (v17.2.2.1, (v17.2.2.2.1, (v17.2.2.2.2.1, (v17.2.2.2.2.2.1, (0 : Int))))))))[(0 + (Int.toNat v12.1))]? (fun (v18 : (ByteArray × (Int × (Int × (Int × (Int × (Int × Int))))))) => (cond (decide (v18.2.2.2.2.1 ≥ v.1.2)) (Option.bind (List.set (List.set (List.set v4 (0 + (Int.toNat v12.1)) (v15.1, ((0 : Int), (v15.2.2.1, (v15.2.2.2.1, (v15.2.2.2.2.1, (v15.2.2.2.2.2.1, v15.2.2.2.2.2.2))))))) (0 + (Int.toNat v12.1)) (v16.1, (v16.2.1, (v16.2.2.1, (v16.2.2.2.1, (v16.2.2.2.2.1, ((-1 : Int), v16.2.2.2.2.2.2))))))) (0 + (Int.toNat v12.1)) (v17.1, (v17.2.1, (v17.2.2.1, (v17.2.2.2.1, (v17.2.2.2.2.1, (v17.2.2.2.2.2.1, (0 : Int))))))))[(0 + (Int.toNat v12.1))]? (fun (v19 : (ByteArray × (Int × (Int × (Int × (Int × (Int × Int))))))) => (some (List.set (List.set (List.set (List.set v4 (0 + (Int.toNat v12.1)) (v15.1, ((0 : Int), (v15.2.2.1, (v15.2.2.2.1, (v15.2.2.2.2.1, (v15.2.2.2.2.2.1, v15.2.2.2.2.2.2))))))) (0 + (Int.toNat v12.1)) (v16.1, (v16.2.1, (v16.2.2.1, (v16.2.2.2.1, (v16.2.2.2.2.1, ((-1 : Int), v16.2.2.2.2.2.2))))))) (0 + (Int.toNat v12.1)) (v17.1, (v17.2.1, (v17.2.2.1, (v17.2.2.2.1, (v17.2.2.2.2.1, (v17.2.2.2.2.2.1, (0 : Int)))))))) (0 + (Int.toNat v12.1)) (v19.1, ((3 : Int), (v19.2.2.1, (v19.2.2.2.1, (v19.2.2.2.2.1, (v19.2.2.2.2.2.1, v19.2.2.2.2.2.2)))))))))) (some (List.set (List.set (List.set v4 (0 + (Int.toNat v12.1)) (v15.1, ((0 : Int), (v15.2.2.1, (v15.2.2.2.1, (v15.2.2.2.2.1, (v15.2.2.2.2.2.1, v15.2.2.2.2.2.2))))))) (0 + (Int.toNat v12.1)) (v16.1, (v16.2.1, (v16.2.2.1, (v16.2.2.2.1, (v16.2.2.2.2.1, ((-1 : Int), v16.2.2.2.2.2.2))))))) (0 + (Int.toNat v12.1)) (v17.1, (v17.2.1, (v17.2.2.1, (v17.2.2.2.1, (v17.2.2.2.2.1, (v17.2.2.2.2.2.1, (0 : Int)))))))))))))))))) (fun (v20 : (List (ByteArray × (Int × (Int × (Int × (Int × (Int × Int)))))))) => (cond v.2.2.2.2.2 (Option.bind v20[(0 + (Int.toNat v12.1))]? (fun (v21 : (ByteArray × (Int × (Int × (Int × (Int × (Int × Int))))))) => (some (List.set v20 (0 + (Int.toNat v12.1)) (v21.1, ((2 : Int), (v21.2.2.1, (v21.2.2.2.1, (v21.2.2.2.2.1, (v21.2.2.2.2.2.1, v21.2.2.2.2.2.2)))))))))) (some v20)))) (fun (v22 : (List (ByteArray × (Int × (Int × (Int × (Int × (Int × Int)))))))) => (some ((0 : Int), v22)))))))))) (fun (v23 : (Int × (List (ByteArray × (Int × (Int × (Int × (Int × (Int × Int))))))))) => (some (v23.1, v23.2)))) none)))) (fun (v24 : (Int × (List (ByteArray × (Int × (Int × (Int × (Int × (Int × Int))))))))) => (cond (v24.1 != (0 : Int)) (some (v24.1, (v.2.1.1, (v.2.1.2.1, v.2.1.2.2)))) (cond (decide ((0 + v4.length) ≤ v24.2.length)) (some ((0 : Int), (v.2.2.1, (v.2.1.2.1, (List.take v4.length v24.2))))) none)))))))) (fun (v25 : (Int × (Int × (Int × (List (ByteArray × (Int × (Int × (Int × (Int × (Int × Int))))))))))) => (some (v25.1, (v25.2.1, (v25.2.2.1, v25.2.2.2)))))) (fun (v26 : (Int × (Int × (Int × (List (ByteArray × (Int × (Int × (Int × (Int × (Int × Int))))))))))) => (some ((v26.2.1, (v26.2.2.1, v26.2.2.2)), v26.1)))) := by kernel_rfl
theorem F16_eq (v : ((Int × Int) × ((Int × (Int × (List (ByteArray × (Int × (Int × (Int × (Int × (Int × Int))))))))) × (Int × ByteArray)))) : F16 v = (Option.bind (joinX (Option.bind (Option.bind (F29 (v.1.1, v.1.2)) (fun (v0 : Int) => (cond (v0 != (0 : Int)) (some true) (Option.bind (F26 (v.2.1.1, (v.2.1.2.1, v.2.1.2.2))) (fun (v1 : Int) => (some (v1 != (0 : Int)))))))) (fun (v2 : Bool) => (cond v2 (some (.inr ((1 : Int), (v.2.1.1, (v.2.1.2.1, v.2.1.2.2))))) (cond (decide (v.2.2.1 < v.2.1.1)) (some (.inr ((8 : Int), (v.2.1.1, (v.2.1.2.1, v.2.1.2.2))))) (some (.inl ((0 : Int), (0 : Int)))))))) (fun (v3 : (Int × Int)) => (Option.bind (bothX (List.isEmpty v.2.1.2.2) (some []) (cond ((decide ((((v.2.1.2.2.length : Nat) : Int) * (64 : Int)) ≤ (70368744177664 : Int))) && (decide (((v.2.1.2.2.length : Nat) : Int) ≤ (70368744177664 : Int)))) (cond (decide (v.2.1.2.2.length = v.2.1.2.2.length)) (some v.2.1.2.2) none) none)) (fun (v4 : (List (ByteArray × (Int × (Int × (Int × (Int × (Int × Int)))))))) => (Option.bind (Option.bind (Option.bind (Option.bind (loopX (fun (v5 : (Int × Int)) => (cond (decide (v5.1 < v5.2)) (cond ((decide ((0 : Int) ≤ (IntKind.wrap IntKind.i64 (Int.fdiv (IntKind.wrap IntKind.u64 (IntKind.wrap IntKind.i64 (v5.1 + v5.2))) (2 : Int))))) && (decide ((IntKind.wrap IntKind.i64 (Int.fdiv (IntKind.wrap IntKind.u64 (IntKind.wrap IntKind.i64 (v5.1 + v5.2))) (2 : Int))) < ((v4.length : Nat) : Int)))) (Option.bind v4[(0 + (Int.toNat (IntKind.wrap IntKind.i64 (Int.fdiv (IntKind.wrap IntKind.u64 (IntKind.wrap IntKind.i64 (v5.1 + v5.2))) (2 : Int)))))]? (fun (v6 : (ByteArray × (Int × (Int × (Int × (Int × (Int × Int))))))) => (Option.bind (F61 ((v6.1, (v6.2.1, (v6.2.2.1, (v6.2.2.2.1, (v6.2.2.2.2.1, (v6.2.2.2.2.2.1, v6.2.2.2.2.2.2)))))), v.2.2.2)) (fun (v7 : Int) => (cond (decide (v7 < (0 : Int))) (some (.inl ((IntKind.wrap IntKind.i64 ((IntKind.wrap IntKind.i64 (Int.fdiv (IntKind.wrap IntKind.u64 (IntKind.wrap IntKind.i64 (v5.1 + v5.2))) (2 : Int))) + (1 : Int))), v5.2))) (some (.inl (v5.1, (IntKind.wrap IntKind.i64 (Int.fdiv (IntKind.wrap IntKind.u64 (IntKind.wrap IntKind.i64 (v5.1 + v5.2))) (2 : Int))))))))))) none) (some (.inr v5.1)))) ((0 : Int), ((v4.length : Nat) : Int))) (fun (v8 : Int) => (cond (decide (v8 < ((v4.length : Nat) : Int))) (cond ((decide ((0 : Int) ≤ v8)) && (decide (v8 < ((v4.length : Nat) : Int)))) (Option.bind v4[(0 + (Int.toNat v8))]? (fun (v9 : (ByteArray × (Int × (Int × (Int × (Int × (Int × Int))))))) => (Option.bind (F61 ((v9.1, (v9.2.1, (v9.2.2.1, (v9.2.2.2.1, (v9.2.2.2.2.1, (v9.2.2.2.2.2.1, v9.2.2.2.2.2.2)))))), v.2.2.2)) (fun (v10 : Int) => (some (v8, (v10 == (0 : Int)))))))) none) (some (v8, false))))) (fun (v11 : (Int × Bool)) => (some (v11.1, v11.2)))) (fun (v12 : (Int × Bool)) => (cond (!v12.2) (some ((6 : Int), v4)) (cond ((decide ((0 : Int) ≤ v12.1)) && (decide (v12.1 < ((v4.length : Nat) : Int)))) (Option.bind (Option.bind v4[(0 + (Int.toNat v12.1))]? (fun (v13 : (ByteArray × (Int × (Int × (Int × (Int × (Int × Int))))))) => (Option.bind (F43 (v13.1, (v13.2.1, (v13.2.2.1, (v13.2.2.2.1, (v13.2.2.2.2.1, (v13.2.2.2.2.2.1, v13.2.2.2.2.2.2))))))) (fun (v14 : Bool) => (cond (!v14) (some ((7 : Int), v4)) (Option.bind v4[(0 + (Int.toNat v12.1))]? (fun (v15 : (ByteArray × (Int × (Int × (Int × (Int × (Int × Int))))))) => (Option.bind (List.set v4 (0 + (Int.toNat v12.1)) (v15.1, ((4 : Int), (v15.2.2.1, (v15.2.2.2.1, (v15.2.2.2.2.1, (v15.2.2.2.2.2.1, v15.2.2.2.2.2.2)))))))[(0 + (Int.toNat v12.1))]? (fun (v16 : (ByteArray × (Int × (Int × (Int × (Int × (Int × Int))))))) => (Option.bind (List.set (List.set v4 (0 + (Int.toNat v12.1)) (v15.1, ((4 : Int), (v15.2.2.1, (v15.2.2.2.1, (v15.2.2.2.2.1, (v15.2.2.2.2.2.1, v15.2.2.2.2.2.2))))))) (0 + (Int.toNat v12.1)) (v16.1, (v16.2.1, (v16.2.2.1, (v16.2.2.2.1, (v16.2.2.2.2.1, ((-1 : Int), v16.2.2.2.2.2.2)))))))[(0 + (Int.toNat v12.1))]? (fun (v17 : (ByteArray × (Int × (Int × (Int × (Int × (Int × Int))))))) => (some ((0 : Int), (List.set (List.set (List.set v4 (0 + (Int.toNat v12.1)) (v15.1, ((4 : Int), (v15.2.2.1, (v15.2.2.2.1, (v15.2.2.2.2.1, (v15.2.2.2.2.2.1, v15.2.2.2.2.2.2))))))) (0 + (Int.toNat v12.1)) (v16.1, (v16.2.1, (v16.2.2.1, (v16.2.2.2.1, (v16.2.2.2.2.1, ((-1 : Int), v16.2.2.2.2.2.2))))))) (0 + (Int.toNat v12.1)) (v17.1, (v17.2.1, (v17.2.2.1, (v17.2.2.2.1, (v17.2.2.2.2.1, (v17.2.2.2.2.2.1, (0 : Int))))))))))))))))))))) (fun (v18 : (Int × (List (ByteArray × (Int × (Int × (Int × (Int × (Int × Int))))))))) => (some (v18.1, v18.2)))) none)))) (fun (v19 : (Int × (List (ByteArray × (Int × (Int × (Int × (Int × (Int × Int))))))))) => (cond (v19.1 != (0 : Int)) (some (v19.1, (v.2.1.1, (v.2.1.2.1, v.2.1.2.2)))) (cond (decide ((0 + v4.length) ≤ v19.2.length)) (some ((0 : Int), (v.2.2.1, (v.2.1.2.1, (List.take v4.length v19.2))))) none)))))))) (fun (v20 : (Int × (Int × (Int × (List (ByteArray × (Int × (Int × (Int × (Int × (Int × Int))))))))))) => (some ((v20.2.1, (v20.2.2.1, v20.2.2.2)), v20.1)))) := by kernel_rfl
theorem F3_eq (v : (Int × (Int × (Int × (Int × ((List (ByteArray × (Int × (Int × (Int × (Int × (Int × Int))))))) × (Int × (ByteArray × (Int × (Int × Bool)))))))))) : F3 v = (Option.bind (F10 (v.2.2.1, (v.2.2.2.1, v.2.2.2.2.1))) (fun (v0 : (Int × (Int × (List (ByteArray × (Int × (Int × (Int × (Int × (Int × Int)))))))))) => (Option.bind (F11 ((v0.1, (v0.2.1, v0.2.2)), v.2.2.2.2.2.2.1)) (fun (v1 : ((ByteArray × (Int × (Int × (Int × (Int × (Int × Int)))))) × Int)) => (joinX (Option.bind (cond (v1.2 != (0 : Int)) (some true) (Option.bind (F12 (v.1, v.2.1)) (fun (v2 : Bool) => (cond (!v2) (some true) (some (decide (v.2.2.2.2.2.1 < v0.1))))))) (fun (v3 : Bool) => (cond v3 (Option.bind (F13 ((v.1, v.2.1), ((v0.1, (v0.2.1, v0.2.2)), (v.2.2.2.2.2.1, (v.2.2.2.2.2.2.1, (v.2.2.2.2.2.2.2.2.1, v.2.2.2.2.2.2.2.2.2)))))) (fun (v4 : ((Int × (Int × (List (ByteArray × (Int × (Int × (Int × (Int × (Int × Int))))))))) × Int)) => (cond (v4.2 != (0 : Int)) (Option.bind (F14 ()) (fun (v5 : Bool) => (some (.inr v5)))) (some (.inr false))))) (some (.inl ()))))) (fun (v6 : Unit) => (Option.bind (F13 ((v.1, v.2.1), ((v0.1, (v0.2.1, v0.2.2)), (v.2.2.2.2.2.1, (v.2.2.2.2.2.2.1, (v.2.2.2.2.2.2.2.2.1, v.2.2.2.2.2.2.2.2.2)))))) (fun (v7 : ((Int × (Int × (List (ByteArray × (Int × (Int × (Int × (Int × (Int × Int))))))))) × Int)) => (joinX (Option.bind (cond (v1.1.2.1 == (1 : Int)) (some (!((v7.2 == (0 : Int)) == (v.2.2.2.2.2.2.2.2.1 == v1.1.2.2.2.1)))) (some (!((v7.2 == (0 : Int)) == false)))) (fun (v8 : Bool) => (cond v8 (some (.inr false)) (some (.inl ()))))) (fun (v9 : Unit) => (cond (v7.2 != (0 : Int)) (Option.bind (F15 ((v7.1.1, (v7.1.2.1, v7.1.2.2)), (v0.1, (v0.2.1, v0.2.2)))) (fun (v10 : Bool) => (cond v10 (Option.bind (F14 ()) (fun (v11 : Bool) => (some v11))) (some false)))) (Option.bind (F11 ((v7.1.1, (v7.1.2.1, v7.1.2.2)), v.2.2.2.2.2.2.1)) (fun (v12 : ((ByteArray × (Int × (Int × (Int × (Int × (Int × Int)))))) × Int)) => (Option.bind (F13 ((v.1, v.2.1), ((v7.1.1, (v7.1.2.1, v7.1.2.2)), (v.2.2.2.2.2.1, (v.2.2.2.2.2.2.1, (v.2.2.2.2.2.2.2.2.1, v.2.2.2.2.2.2.2.2.2)))))) (fun (v13 : ((Int × (Int × (List (ByteArray × (Int × (Int × (Int × (Int × (Int × Int))))))))) × Int)) => (joinX (Option.bind (cond (v12.2 != (0 : Int)) (some true) (cond (v13.2 != (7 : Int)) (some true) (cond (v12.1.2.2.2.2.2.1 != (-1 : Int)) (some true) (cond (v12.1.2.2.2.2.2.2 != (0 : Int)) (some true) (cond (v12.1.2.1 == (1 : Int)) (some true) (some (!(v.2.2.2.2.2.2.2.2.2 == (v12.1.2.1 == (2 : Int)))))))))) (fun (v14 : Bool) => (cond v14 (some (.inr false)) (some (.inl ()))))) (fun (v15 : Unit) => (cond (v.2.2.2.2.2.1 == (0 : Int)) (Option.bind (F14 ()) (fun (v16 : Bool) => (some v16))) (Option.bind (F16 ((v.1, v.2.1), ((v7.1.1, (v7.1.2.1, v7.1.2.2)), ((IntKind.wrap IntKind.u64 (v.2.2.2.2.2.1 - (1 : Int))), v.2.2.2.2.2.2.1)))) (fun (v17 : ((Int × (Int × (List (ByteArray × (Int × (Int × (Int × (Int × (Int × Int))))))))) × Int)) => (cond (v17.2 == (8 : Int)) (Option.bind (F14 ()) (fun (v18 : Bool) => (some v18))) (some false)))))))))))))))))))))) := by kernel_rfl
end Go.Proofs.Ytoblcfkmggbheaa.VL
end
section
namespace Go.Proofs.Ytoblcfkmggbheaa.VL
open Go
set_option linter.unusedVariables false
set_option linter.unusedSectionVars false
variable [Val]
theorem wi {x : Int} (h0 : -9223372036854775808 ≤ x) (h1 : x ≤ 9223372036854775807) : IntKind.wrap .i64 x = x := by rw [IntKind.wrap_i64]; omega
theorem wu {x : Int} (h0 : 0 ≤ x) (h1 : x ≤ 18446744073709551615) : IntKind.wrap .u64 x = x := by
  simp only [IntKind.wrap, IntKind.bits, IntKind.signed]
  have : x % (2 ^ 64 : Int) = x := Int.emod_eq_of_lt h0 (by omega)
  simp only [this, Bool.false_and]
  rfl
theorem app_eq {α : Type} (a b : List α) : Append.append a b = a ++ b := rfl
theorem joinX_l {α R : Type} (v : α) (k : α → Option R) : joinX (some (.inl v)) k = k v := rfl
theorem joinX_r {α R : Type} (r : R) (k : α → Option R) : joinX (some (.inr r)) k = some r := rfl
theorem loopX_spec {σ ρ : Type} {f : σ → Option (σ ⊕ ρ)} (I : σ → Prop) (m : σ → Nat) (g : σ → ρ)
    (h : ∀ s, I s → f s = some (.inr (g s)) ∨ ∃ s', f s = some (.inl s') ∧ I s' ∧ m s' < m s ∧ g s' = g s) : ∀ (s : σ), I s → loopX f s = some (g s) := by
  have key : ∀ (n : Nat) (s : σ), m s ≤ n → I s → loopX f s = some (g s) := by
    intro n
    induction n with
    | zero =>
      intro s hn hs
      rw [loopX_eq]
      rcases h s hs with h1 | ⟨s', h1, h2, h3, h4⟩
      · rw [h1]
      · omega
    | succ n ih =>
      intro s hn hs
      rw [loopX_eq]
      rcases h s hs with h1 | ⟨s', h1, h2, h3, h4⟩
      · rw [h1]
      · rw [h1]
        simp only
        rw [ih s' (by omega) h2, h4]
  exact fun s hs => key (m s) s (Nat.le_refl _) hs
theorem loop_nat {ρ : Type} {f : Int → Option (Int ⊕ ρ)} (n : Nat) (g : Nat → ρ) (hend : f (n : Int) = some (.inr (g n)))
    (hstep : ∀ i : Nat, i < n → f (i : Int) = some (.inr (g i)) ∨ (f (i : Int) = some (.inl ((i + 1 : Nat) : Int)) ∧ g (i + 1) = g i)) (i : Nat) (hi : i ≤ n) : loopX f (i : Int) = some (g i) := by
  have := loopX_spec (f := f) (fun s => 0 ≤ s ∧ s ≤ n) (fun s => n - s.toNat) (fun s => g s.toNat) (fun s hs => ?_) (i : Int) ⟨by omega, by omega⟩
  · simpa using this
  · obtain ⟨k, rfl⟩ : ∃ k : Nat, s = k := ⟨s.toNat, by omega⟩
    have hk : k ≤ n := by omega
    simp only [Int.toNat_natCast]
    by_cases he : k = n
    · subst he; exact .inl hend
    · rcases hstep k (by omega) with h1 | ⟨h1, h2⟩
      · exact .inl h1
      · refine .inr ⟨_, h1, ⟨by omega, by omega⟩, by simp only [Int.toNat_natCast]; omega, by simp only [Int.toNat_natCast]; exact h2⟩
theorem loop_acc {A ρ : Type} {f : Int × A → Option ((Int × A) ⊕ ρ)} (n : Nat) (I : Nat → A → Prop) (g : Nat → A → ρ) (hend : ∀ a, I n a → f ((n : Int), a) = some (.inr (g n a)))
    (hstep : ∀ (i : Nat) (a : A), i < n → I i a → f ((i : Int), a) = some (.inr (g i a)) ∨ ∃ a', f ((i : Int), a) = some (.inl (((i + 1 : Nat) : Int), a')) ∧ I (i + 1) a' ∧ g (i + 1) a' = g i a) (i : Nat) (a : A) (hi : i ≤ n) (ha : I i a) :
    loopX f ((i : Int), a) = some (g i a) := by
  have := loopX_spec (f := f) (fun s => 0 ≤ s.1 ∧ s.1 ≤ n ∧ I s.1.toNat s.2) (fun s => n - s.1.toNat) (fun s => g s.1.toNat s.2) (fun s hs => ?_) ((i : Int), a) ⟨by simp, by simp; omega, by simpa using ha⟩
  · simpa using this
  · obtain ⟨s1, s2⟩ := s
    simp only at hs
    obtain ⟨k, rfl⟩ : ∃ k : Nat, s1 = k := ⟨s1.toNat, by omega⟩
    have hk : k ≤ n := by omega
    simp only [Int.toNat_natCast] at hs ⊢
    by_cases he : k = n
    · subst he; exact .inl (hend _ hs.2.2)
    · rcases hstep k s2 (by omega) hs.2.2 with h1 | ⟨a', h1, h2, h3⟩
      · exact .inl h1
      · refine .inr ⟨_, h1, ⟨by omega, by omega, by simpa using h2⟩, by simp only [Int.toNat_natCast]; omega, by simp only [Int.toNat_natCast]; exact h3⟩
theorem range_all_succ (ok : Nat → Bool) (n : Nat) : (List.range (n + 1)).all ok = ((List.range n).all ok && ok n) := by
  rw [List.range_succ, List.all_append]; simp
theorem loop_allS {A ρ : Type} {f : Int × A → Option ((Int × A) ⊕ ρ)} {n : Nat} (st : Nat → A) (ok : Nat → Bool) (bad : ρ) (good : ρ) (hend : f ((n : Int), st n) = some (.inr good))
    (hstep : ∀ i : Nat, i < n → (∀ j, j < i → ok j = true) → f ((i : Int), st i) = if ok i = true then some (.inl (((i + 1 : Nat) : Int), st (i + 1))) else some (.inr bad)) :
    loopX f ((0 : Int), st 0) = some (if (List.range n).all ok = true then good else bad) := by
  classical
  have := loop_acc (f := f) n (fun i a => a = st i ∧ ∀ j, j < i → ok j = true) (fun i a => if ∀ j, i ≤ j → j < n → ok j = true then good else bad) ?_ ?_ 0 (st 0) (Nat.zero_le _) ⟨rfl, fun j hj => by omega⟩
  · have e0 : ((0 : Nat) : Int) = 0 := rfl
    rw [e0] at this
    rw [this]
    congr 1
    have e : (∀ j, 0 ≤ j → j < n → ok j = true) ↔ (List.range n).all ok = true := by
      simp [List.all_eq_true]
    by_cases h : (List.range n).all ok = true
    · rw [if_pos h, if_pos (e.2 h)]
    · rw [if_neg h, if_neg (fun q => h (e.1 q))]
  · rintro a ⟨rfl, _⟩
    rw [hend, if_pos (fun j h1 h2 => by omega)]
  · rintro i a hi ⟨rfl, ha⟩
    rw [hstep i hi ha]
    by_cases h : ok i = true
    · rw [if_pos h]
      refine .inr ⟨_, rfl, ⟨rfl, fun j hj => ?_⟩, ?_⟩
      · rcases Nat.lt_or_eq_of_le (Nat.le_of_lt_succ hj) with h1 | h1
        · exact ha j h1
        · rw [h1]; exact h
      · have e : (∀ j, i + 1 ≤ j → j < n → ok j = true) ↔ (∀ j, i ≤ j → j < n → ok j = true) := by
          constructor
          · intro q j h1 h2
            rcases Nat.lt_or_eq_of_le h1 with h3 | h3
            · exact q j h3 h2
            · rw [← h3]; exact h
          · intro q j h1 h2; exact q j (by omega) h2
        by_cases hq : ∀ j, i ≤ j → j < n → ok j = true
        · rw [if_pos hq, if_pos (e.2 hq)]
        · rw [if_neg hq, if_neg (fun q => hq (e.1 q))]
    · rw [if_neg h]
      left
      rw [if_neg (fun q => h (q i (Nat.le_refl _) hi))]
def cntP (p : Nat → Bool) : Nat → Nat
  | 0 => 0
  | n + 1 => cntP p n + (if p n = true then 1 else 0)
theorem cntP_le (p : Nat → Bool) : ∀ n, cntP p n ≤ n
  | 0 => Nat.le_refl _
  | n + 1 => by have := cntP_le p n; simp only [cntP]; split <;> omega
theorem cntP_at {p : Nat → Bool} : ∀ {n c : Nat}, c ≤ n → (∀ k, k < c → p k = true) → (∀ k, c ≤ k → k < n → p k = false) → cntP p n = c
  | 0, c, h, _, _ => by simp only [cntP]; omega
  | n + 1, c, h, h1, h2 => by
    simp only [cntP]
    by_cases hc : c = n + 1
    · have := cntP_at (n := n) (c := n) (Nat.le_refl _) (fun k hk => h1 k (by omega)) (fun k q1 q2 => by omega)
      rw [this, if_pos (h1 n (by omega))]; omega
    · have := cntP_at (n := n) (c := c) (by omega) h1 (fun k q1 q2 => h2 k q1 (by omega))
      rw [this, h2 n (by omega) (by omega)]; simp
theorem loop_bs {f : Int × Int → Option ((Int × Int) ⊕ Int)} {n : Nat} (p : Nat → Bool) (hmono : ∀ i j, i ≤ j → j < n → p j = true → p i = true)
    (hend : ∀ i : Nat, i ≤ n → f ((i : Int), (i : Int)) = some (.inr (i : Int)))
    (hstep : ∀ i j : Nat, i < j → j ≤ n → f ((i : Int), (j : Int)) = if p ((i + j) / 2) = true then some (.inl ((((i + j) / 2 + 1 : Nat) : Int), (j : Int))) else some (.inl ((i : Int), (((i + j) / 2 : Nat) : Int)))) :
    loopX f ((0 : Int), (n : Int)) = some ((cntP p n : Nat) : Int) := by
  have := loopX_spec (f := f) (fun s => ∃ i j : Nat, s = ((i : Int), (j : Int)) ∧ i ≤ j ∧ j ≤ n ∧ (∀ k, k < i → p k = true) ∧ (∀ k, j ≤ k → k < n → p k = false)) (fun s => s.2.toNat - s.1.toNat) (fun _ => ((cntP p n : Nat) : Int)) ?_ ((0 : Int), (n : Int)) ⟨0, n, rfl, Nat.zero_le _, Nat.le_refl _, fun k hk => by omega, fun k h1 h2 => by omega⟩
  · exact this
  · rintro s ⟨i, j, rfl, h1, h2, h3, h4⟩
    by_cases hij : i = j
    · subst hij
      left
      rw [hend i h2, cntP_at h2 h3 h4]
    · right
      rw [hstep i j (by omega) h2]
      by_cases hp : p ((i + j) / 2) = true
      · rw [if_pos hp]
        refine ⟨_, rfl, ⟨_, _, rfl, by omega, h2, fun k hk => hmono k ((i + j) / 2) (by omega) (by omega) hp, h4⟩, by simp only [Int.toNat_natCast]; omega, rfl⟩
      · rw [if_neg hp]
        refine ⟨_, rfl, ⟨_, _, rfl, by omega, by omega, h3, fun k hk hkn => ?_⟩, by simp only [Int.toNat_natCast]; omega, rfl⟩
        rw [Bool.eq_false_iff]
        intro hpk
        exact hp (hmono ((i + j) / 2) k hk hkn hpk)
end Go.Proofs.Ytoblcfkmggbheaa.VL
end
section
namespace Go.Proofs.Ytoblcfkmggbheaa.VL
open Go
set_option linter.unusedVariables false
set_option linter.unusedSectionVars false
set_option linter.unusedSimpArgs false
theorem bl_irrefl : ∀ x : List UInt8, Op.bytesLess x x = false
  | [] => rfl
  | a :: x => by
    have : ¬ (a < a) := by rw [UInt8.lt_iff_toNat_lt]; omega
    simp [Op.bytesLess, this, bl_irrefl x]
theorem bl_trans : ∀ {x y z : List UInt8}, Op.bytesLess x y = true → Op.bytesLess y z = true → Op.bytesLess x z = true
  | _, _, [], _, h => by cases ‹List UInt8› <;> simp [Op.bytesLess] at h
  | [], _, _ :: _, _, _ => rfl
  | _ :: _, [], _ :: _, h, _ => by simp [Op.bytesLess] at h
  | a :: x, b :: y, c :: z, h, k => by
    simp only [Op.bytesLess, Bool.or_eq_true, decide_eq_true_eq, Bool.and_eq_true, beq_iff_eq] at h k ⊢
    rcases h with h | ⟨rfl, h⟩
    · rcases k with k | ⟨rfl, k⟩
      · left; rw [UInt8.lt_iff_toNat_lt] at *; omega
      · left; exact h
    · rcases k with k | ⟨rfl, k⟩
      · left; exact k
      · right; exact ⟨rfl, bl_trans h k⟩
theorem toList_loop (s : ByteArray) : ∀ (n i : Nat) (r : List UInt8), s.size - i = n → i ≤ s.size → ByteArray.toList.loop s i r = r.reverse ++ (s.data.toList.drop i) := by
  intro n
  induction n with
  | zero =>
    intro i r h hi
    have : i = s.size := by omega
    unfold ByteArray.toList.loop
    rw [if_neg (by omega), List.drop_eq_nil_of_le (by rw [Array.length_toList]; show s.size ≤ i; omega), List.append_nil]
  | succ n ih =>
    intro i r h hi
    unfold ByteArray.toList.loop
    rw [if_pos (by omega), ih (i + 1) _ (by omega) (by omega)]
    have hlt : i < s.data.toList.length := by rw [Array.length_toList]; show i < s.size; omega
    have e : s.get! i = s.data.toList[i] := by
      show s.data[i]! = _
      rw [getElem!_pos s.data i (by rw [Array.length_toList] at hlt; exact hlt)]
      simp
    rw [List.reverse_cons, List.append_assoc, List.singleton_append, e, List.drop_eq_getElem_cons hlt]
theorem toList_data (s : ByteArray) : s.toList = s.data.toList := by
  have := toList_loop s (s.size - 0) 0 [] rfl (Nat.zero_le _)
  unfold ByteArray.toList
  rw [this]; simp
theorem toList_inj {a b : ByteArray} (h : a.toList = b.toList) : a = b := by
  rw [toList_data, toList_data] at h
  cases a; cases b
  simp only [ByteArray.mk.injEq]
  exact Array.toList_inj.1 h
theorem toList_len (s : ByteArray) : s.toList.length = s.size := by rw [toList_data, Array.length_toList]; rfl
theorem toList_nil (s : ByteArray) : (s.toList == (ByteArray.mk #[]).toList) = decide (s.size = 0) := by
  have h0 : (ByteArray.mk #[]).toList = [] := by rw [toList_data]
  rw [h0, Bool.eq_iff_iff, beq_iff_eq, decide_eq_true_iff, ← toList_len]
  exact List.length_eq_zero_iff.symm
variable [Val]
def okB (n : Nat) : Bool := (decide (97 ≤ n) && decide (n ≤ 122)) || ((decide (48 ≤ n) && decide (n ≤ 57)) || decide (n = 45))
def nmB (s : ByteArray) : Bool := (List.range s.size).all (fun i => okB (s.get! i).toNat) && (decide (1 ≤ s.size) && decide (s.size ≤ 20))
theorem rune_cond (n : Nat) {R : Type} (a b : Option R) : (Option.bind (cond (decide ((97 : Int) ≤ (n : Int))) (cond (decide ((n : Int) ≤ (122 : Int))) (some false) (cond (decide ((48 : Int) ≤ (n : Int))) (cond (decide ((n : Int) ≤ (57 : Int))) (some false) (some (!((n : Int) == (45 : Int))))) (some (!((n : Int) == (45 : Int)))))) (cond (decide ((48 : Int) ≤ (n : Int))) (cond (decide ((n : Int) ≤ (57 : Int))) (some false) (some (!((n : Int) == (45 : Int))))) (some (!((n : Int) == (45 : Int)))))) (fun (v1 : Bool) => cond v1 a b)) = if okB n = true then b else a := by
  have e45 : ((n : Int) == (45 : Int)) = decide (n = 45) := by rw [Bool.eq_iff_iff, beq_iff_eq, decide_eq_true_iff]; omega
  have e1 : decide ((97 : Int) ≤ (n : Int)) = decide (97 ≤ n) := by rw [Bool.eq_iff_iff, decide_eq_true_iff, decide_eq_true_iff]; omega
  have e2 : decide ((n : Int) ≤ (122 : Int)) = decide (n ≤ 122) := by rw [Bool.eq_iff_iff, decide_eq_true_iff, decide_eq_true_iff]; omega
  have e3 : decide ((48 : Int) ≤ (n : Int)) = decide (48 ≤ n) := by rw [Bool.eq_iff_iff, decide_eq_true_iff, decide_eq_true_iff]; omega
  have e4 : decide ((n : Int) ≤ (57 : Int)) = decide (n ≤ 57) := by rw [Bool.eq_iff_iff, decide_eq_true_iff, decide_eq_true_iff]; omega
  rw [e45, e1, e2, e3, e4]
  unfold okB
  cases decide (97 ≤ n) <;> cases decide (n ≤ 122) <;> cases decide (48 ≤ n) <;> cases decide (n ≤ 57) <;> cases decide (n = 45) <;> rfl
theorem runes_loop {s : ByteArray} {f : ByteArray × Nat → Option ((ByteArray × Nat) ⊕ (Unit ⊕ Bool))}
    (hend : ∀ pos, s.size ≤ pos → f (s, pos) = some (.inr (.inl ()))) (hstep : ∀ pos, pos < s.size → f (s, pos) = if okB (Utf8.decode s pos).1 = true then some (.inl (s, pos + (Utf8.decode s pos).2)) else some (.inr (.inr false))) :
    loopX f (s, 0) = some (if (List.range s.size).all (fun i => okB (s.get! i).toNat) = true then .inl () else .inr false) := by
  classical
  have gm : ∀ i (h : i < s.size), s.get! i = s[i]'h := by
    intro i h
    show s.data[i]! = _
    rw [getElem!_pos s.data i h]; rfl
  have := loopX_spec (f := f) (fun x => x.1 = s ∧ ∀ j, j < x.2 → j < s.size → okB (s.get! j).toNat = true) (fun x => s.size - x.2) (fun x => if ∀ j, x.2 ≤ j → j < s.size → okB (s.get! j).toNat = true then .inl () else .inr false) ?_ (s, 0) ⟨rfl, fun j hj => by simp at hj⟩
  · rw [this]
    have e : (∀ j, 0 ≤ j → j < s.size → okB (s.get! j).toNat = true) ↔ (List.range s.size).all (fun i => okB (s.get! i).toNat) = true := by simp [List.all_eq_true]
    congr 1
    by_cases h : (List.range s.size).all (fun i => okB (s.get! i).toNat) = true
    · rw [if_pos h, if_pos (e.2 h)]
    · rw [if_neg h, if_neg (fun q => h (e.1 q))]
  · rintro ⟨s', pos⟩ ⟨h1, h2⟩
    simp only at h1 h2 ⊢
    subst h1
    by_cases hp : s'.size ≤ pos
    · left
      rw [hend pos hp, if_pos (fun j q1 q2 => by omega)]
    · have hlt : pos < s'.size := by omega
      rw [hstep pos hlt]
      by_cases ha : (s'[pos]'hlt).toNat < 128
      · have hd := decode_ascii s' pos hlt ha
        rw [hd]
        simp only
        rw [← gm pos hlt]
        by_cases hok : okB (s'.get! pos).toNat = true
        · rw [if_pos hok]
          right
          refine ⟨_, rfl, ⟨rfl, fun j hj hj2 => ?_⟩, by simp only; omega, ?_⟩
          · rcases Nat.lt_or_eq_of_le (Nat.le_of_lt_succ hj) with q | q
            · exact h2 j q hj2
            · rw [q]; exact hok
          · simp only
            have e : (∀ j, pos + 1 ≤ j → j < s'.size → okB (s'.get! j).toNat = true) ↔ (∀ j, pos ≤ j → j < s'.size → okB (s'.get! j).toNat = true) := by
              constructor
              · intro q j h1 h2
                rcases Nat.lt_or_eq_of_le h1 with h3 | h3
                · exact q j h3 h2
                · rw [← h3]; exact hok
              · intro q j h1 h2; exact q j (by omega) h2
            by_cases hq : ∀ j, pos ≤ j → j < s'.size → okB (s'.get! j).toNat = true
            · rw [if_pos hq, if_pos (e.2 hq)]
            · rw [if_neg hq, if_neg (fun q => hq (e.1 q))]
        · rw [if_neg hok]
          left
          rw [if_neg (fun q => hok (q pos (Nat.le_refl _) hlt))]
      · have hd := decode_high s' pos hlt (by omega)
        have hbad : ∀ n, 128 ≤ n → okB n = false := by
          intro n hn
          unfold okB
          have a1 : decide (n ≤ 122) = false := by rw [decide_eq_false_iff_not]; omega
          have a2 : decide (n ≤ 57) = false := by rw [decide_eq_false_iff_not]; omega
          have a3 : decide (n = 45) = false := by rw [decide_eq_false_iff_not]; omega
          rw [a1, a2, a3]
          cases decide (97 ≤ n) <;> cases decide (48 ≤ n) <;> rfl
        rw [hbad _ hd.1]
        left
        rw [if_neg (by simp), if_neg]
        intro q
        have := q pos (Nat.le_refl _) hlt
        rw [gm pos hlt, hbad _ (by omega)] at this
        cases this
end Go.Proofs.Ytoblcfkmggbheaa.VL
end
section
namespace Go.Proofs.Ytoblcfkmggbheaa.VL
open Go
set_option linter.unusedVariables false
set_option linter.unusedSectionVars false
set_option linter.unusedSimpArgs false
variable [Val]
theorem F46_ok {s : ByteArray} (hs : s.size ≤ maxLen) : F46 s = some (nmB s) := by
  rw [F46_eq, runes_loop]
  · unfold nmB
    rw [toList_nil]
    cases (List.range s.size).all (fun i => okB (s.get! i).toNat)
    · rfl
    · simp only [if_true, joinX_l, Bool.true_and]
      by_cases h0 : s.size = 0
      · simp [h0]
      · have e1 : decide (1 ≤ s.size) = true := by rw [decide_eq_true_iff]; omega
        have e2 : decide (((s.size : Nat) : Int) ≤ 20) = decide (s.size ≤ 20) := by rw [Bool.eq_iff_iff, decide_eq_true_iff, decide_eq_true_iff]; omega
        simp only [h0, decide_false, Bool.not_false, cond_true, e1, e2, Bool.true_and]
  · intro pos hp
    have : ¬ pos < s.size := by omega
    simp only [this, decide_false, cond_false]
  · intro pos hp
    simp only [hp, decide_true, cond_true]
    exact rune_cond _ _ _
end Go.Proofs.Ytoblcfkmggbheaa.VL
end
section
namespace Go.Proofs.Ytoblcfkmggbheaa.VL
open Go
set_option linter.unusedVariables false
set_option linter.unusedSectionVars false
set_option linter.unusedSimpArgs false
variable [Val]
abbrev TK := ByteArray × (Int × (Int × (Int × (Int × (Int × Int)))))
abbrev BK := Int × (Int × List TK)
theorem F47_ok (n a b : Int) : F47 (n, (a, b)) = some (decide (a ≤ n) && decide (n ≤ b)) := by
  rw [F47_eq]
  show cond (decide (a ≤ n)) (some (decide (n ≤ b))) (some false) = _
  cases decide (a ≤ n) <;> rfl
theorem F54_ok (n : Int) : F54 n = some (decide (0 ≤ n) && decide (n ≤ 63)) := by rw [F54_eq, F47_ok]; rfl
theorem F29_ok (c : Int × Int) : F29 c = some (if (decide (1 ≤ c.1) && decide (c.1 ≤ 100)) && (decide (1 ≤ c.2) && decide (c.2 ≤ 100)) then 0 else 1) := by
  rw [F29_eq]
  simp only [F47_ok c.1 1 100, F47_ok c.2 1 100, Option.bind_some]
  cases (decide (1 ≤ c.1) && decide (c.1 ≤ 100)) <;> cases (decide (1 ≤ c.2) && decide (c.2 ≤ 100)) <;> rfl
def capsB (c : Int × Int) : Bool := (decide (1 ≤ c.1) && decide (c.1 ≤ 100)) && (decide (1 ≤ c.2) && decide (c.2 ≤ 100))
theorem F12_ok (c : Int × Int) : F12 c = some (capsB c) := by
  rw [F12_eq]
  unfold capsB
  cases decide (1 ≤ c.1) <;> cases decide (c.1 ≤ 100) <;> cases decide (1 ≤ c.2) <;> rfl
def ownB (t : TK) : Bool := if (t.2.1 == 1) = true then ((decide (0 ≤ t.2.2.2.2.2.1) && decide (t.2.2.2.2.2.1 ≤ 63)) && decide (0 < t.2.2.2.1)) else (t.2.2.2.2.2.1 == -1) && (t.2.2.2.2.2.2 == 0)
def taskB (t : TK) (g : Int) : Bool :=
  nmB t.1 && ((decide (0 ≤ t.2.1) && decide (t.2.1 ≤ 4)) && ((decide (0 ≤ t.2.2.1) && decide (t.2.2.1 ≤ 9)) && (decide (t.2.2.2.1 ≤ g) && (((t.2.2.2.1 == 0) == (t.2.2.2.2.1 == 0)) && ((decide (0 ≤ t.2.2.2.2.1) && decide (t.2.2.2.2.1 ≤ 100)) && ownB t)))))
theorem F57_ok {t : TK} {g : Int} (hs : t.1.size ≤ maxLen) : F57 (t, g) = some (!taskB t g) := by
  rw [F57_eq]
  simp only [F46_ok hs, F47_ok t.2.1 0 4, F47_ok t.2.2.1 0 9, F47_ok t.2.2.2.2.1 0 100, F54_ok, Option.bind_some]
  unfold taskB ownB
  have e1 : decide (t.2.2.2.1 > g) = !decide (t.2.2.2.1 ≤ g) := by rw [Bool.eq_iff_iff, Bool.not_eq_true', decide_eq_true_iff, decide_eq_false_iff_not]; omega
  have e2 : decide (t.2.2.2.1 > 0) = decide (0 < t.2.2.2.1) := rfl
  rw [e1, e2]
  generalize (decide (0 ≤ t.2.2.2.2.2.1) && decide (t.2.2.2.2.2.1 ≤ 63)) = b1
  generalize (decide (0 ≤ t.2.1) && decide (t.2.1 ≤ 4)) = b2
  generalize (decide (0 ≤ t.2.2.1) && decide (t.2.2.1 ≤ 9)) = b3
  generalize (decide (0 ≤ t.2.2.2.2.1) && decide (t.2.2.2.2.1 ≤ 100)) = b4
  generalize decide (t.2.2.2.1 ≤ g) = b5
  generalize decide (0 < t.2.2.2.1) = b6
  generalize ((t.2.2.2.1 == 0) == (t.2.2.2.2.1 == 0)) = b7
  generalize (t.2.2.2.2.2.1 == -1) = b8
  generalize (t.2.2.2.2.2.2 == 0) = b9
  generalize nmB t.1 = b10
  generalize (t.2.1 == 1) = b11
  cases b10
  · cases b8 <;> cases b11 <;> cases b1 <;> rfl
  cases b2
  · cases b8 <;> cases b11 <;> cases b1 <;> rfl
  cases b3
  · cases b8 <;> cases b11 <;> cases b1 <;> rfl
  cases b5
  · cases b8 <;> cases b11 <;> cases b1 <;> rfl
  cases b7
  · cases b8 <;> cases b11 <;> cases b1 <;> rfl
  cases b4
  · cases b8 <;> cases b11 <;> cases b1 <;> rfl
  cases b8 <;> cases b11 <;> cases b1 <;> cases b6 <;> cases b9 <;> rfl
def ta (l : List TK) (i : Nat) : TK := l.getD i (⟨#[]⟩, 0, 0, 0, 0, 0, 0)
theorem ta_eq {l : List TK} {i : Nat} (h : i < l.length) : l[i] = ta l i := by
  unfold ta
  rw [List.getD_eq_getElem?_getD, List.getElem?_eq_getElem h]; rfl
theorem at_ta {l : List TK} {i : Nat} (h : i < l.length) : l[i]? = some (ta l i) := by rw [List.getElem?_eq_getElem h, ta_eq h]
def ltN (a b : ByteArray) : Bool := Op.bytesLess a.toList b.toList
def eqN (a b : ByteArray) : Bool := a.toList == b.toList
theorem ltN_trans {a b c : ByteArray} (h : ltN a b = true) (k : ltN b c = true) : ltN a c = true := bl_trans h k
theorem ltN_irrefl (a : ByteArray) : ltN a a = false := bl_irrefl _
theorem eqN_eq {a b : ByteArray} (h : eqN a b = true) : a = b := toList_inj (by unfold eqN at h; exact eq_of_beq h)
theorem eqN_of_lt {a b : ByteArray} (h : ltN a b = true) : eqN a b = false := by
  rw [Bool.eq_false_iff]; intro k; rw [eqN_eq k, ltN_irrefl] at h; cases h
def okAt (l : List TK) (g : Int) (i : Nat) : Bool :=
  taskB (ta l i) g && ((decide (i = 0) || ltN (ta l (i - 1)).1 (ta l i).1) && (List.range i).all fun k => !(decide (0 < (ta l i).2.2.2.1) && ((ta l k).2.2.2.1 == (ta l i).2.2.2.1)))
def bookB (b : BK) : Bool := (List.range b.2.2.length).all (okAt b.2.2 b.2.1) && decide (b.2.2.length ≤ 100)
theorem mget_mput {k : IntKind} {vt : TT} (x y : Int) (v : vt.den) : ∀ l : List (Int × vt.den), mget (kt := .i k) (vt := vt) x (mput (kt := .i k) (vt := vt) y v l) = if x = y then some v else mget (kt := .i k) (vt := vt) x l
  | [] => by
    show cond (x == y) (some v) none = _
    by_cases h : x = y
    · subst h; simp
    · rw [if_neg h]
      have : (x == y) = false := by rw [beq_eq_false_iff_ne]; exact h
      rw [this]; rfl
  | p :: r => by
    have e1 : mput (kt := .i k) (vt := vt) y v (p :: r) = cond (y == p.1) ((y, v) :: r) (p :: mput (kt := .i k) (vt := vt) y v r) := rfl
    have e2 : ∀ q r', mget (kt := .i k) (vt := vt) x (q :: r') = cond (x == q.1) (some q.2) (mget (kt := .i k) (vt := vt) x r') := fun q r' => rfl
    rw [e1]
    by_cases hy : y = p.1
    · have : (y == p.1) = true := by rw [beq_iff_eq]; exact hy
      rw [this, cond_true, e2, e2]
      by_cases h : x = y
      · subst h; simp
      · rw [if_neg h]
        have h1 : (x == y) = false := by rw [beq_eq_false_iff_ne]; exact h
        have h2 : (x == p.1) = false := by rw [beq_eq_false_iff_ne, ← hy]; exact h
        rw [h1, h2]; rfl
    · have : (y == p.1) = false := by rw [beq_eq_false_iff_ne]; exact hy
      rw [this, cond_false, e2, e2, mget_mput x y v r]
      by_cases h : x = y
      · subst h
        rw [if_pos rfl, if_pos rfl]
        show cond (x == p.1) _ _ = _
        rw [this, cond_false]
      · rw [if_neg h, if_neg h]
def metM (l : List TK) : Nat → List (Int × Bool)
  | 0 => []
  | i + 1 => mput (kt := .i .u64) (vt := .b) (ta l i).2.2.2.1 (decide (0 < (ta l i).2.2.2.1)) (metM l i)
theorem met_get (l : List TK) (x : Int) : ∀ i, ((mget (kt := .i .u64) (vt := .b) x (metM l i)).getD false : Bool) = !(List.range i).all fun k => !(decide (0 < x) && ((ta l k).2.2.2.1 == x))
  | 0 => rfl
  | i + 1 => by
    rw [metM, mget_mput, range_all_succ]
    by_cases h : x = (ta l i).2.2.2.1
    · rw [if_pos h, ← h]
      have : (x == x) = true := by simp
      rw [this, Option.getD_some]
      by_cases h0 : 0 < x
      · simp [h0]
      · simp [h0]
    · rw [if_neg h, met_get l x i]
      have : ((ta l i).2.2.2.1 == x) = false := by rw [beq_eq_false_iff_ne]; exact fun e => h e.symm
      rw [this]; simp
def szB (b : BK) : Prop := b.2.2.length ≤ maxLen ∧ ∀ i, i < b.2.2.length → (ta b.2.2 i).1.size ≤ maxLen ∧ 0 ≤ (ta b.2.2 i).2.2.2.1
theorem len63 {n : Nat} (h : n ≤ maxLen) : n ≤ 9223372036854775807 := by unfold maxLen at h; omega
theorem F26_ok {b : BK} (hs : szB b) : F26 b = some (if bookB b = true then 0 else 1) := by
  obtain ⟨h1, h2⟩ := hs
  have h63 := len63 h1
  rw [F26_eq]
  show joinX (loopX _ ((0 : Int), metM b.2.2 0)) _ = _
  rw [loop_allS (n := b.2.2.length) (metM b.2.2) (okAt b.2.2 b.2.1) (Sum.inr 1) (Sum.inl (metM b.2.2 b.2.2.length))]
  · unfold bookB
    have e : decide (((b.2.2.length : Nat) : Int) > 100) = !decide (b.2.2.length ≤ 100) := by rw [Bool.eq_iff_iff, Bool.not_eq_true', decide_eq_true_iff, decide_eq_false_iff_not]; omega
    cases (List.range b.2.2.length).all (okAt b.2.2 b.2.1)
    · rfl
    · simp only [if_true, joinX_l, e, Bool.true_and]
      cases decide (b.2.2.length ≤ 100) <;> rfl
  · have : ¬ ((b.2.2.length : Nat) : Int) < ((b.2.2.length : Nat) : Int) := by omega
    simp only [this, cond_true, cond_false, Option.bind_some, Option.map_some, joinX_l, joinX_r, decide_true, decide_false, eq_self, Bool.not_true, Bool.not_false, Bool.and_true, Bool.true_and, Bool.and_self, Bool.false_and, Bool.and_false, Bool.true_or, Bool.or_true, Bool.false_or, Bool.or_false, app_eq, List.length_append, List.length_cons, List.length_nil, Nat.zero_add, Nat.add_zero, Int.toNat_natCast, Nat.le_refl, Int.le_refl, List.take_length, Option.getD_some, Option.getD_none, if_true, if_false, Bool.false_eq_true, Bool.true_eq_false]
  · intro i hi _
    have q1 : ((i : Nat) : Int) < ((b.2.2.length : Nat) : Int) := by omega
    have q2 : (0 : Int) ≤ (i : Int) := by omega
    have hw : IntKind.wrap .i64 ((i : Int) + 1) = ((i + 1 : Nat) : Int) := by rw [wi (by omega) (by omega)]; omega
    have hF : F57 (((ta b.2.2 i).1, ((ta b.2.2 i).2.1, ((ta b.2.2 i).2.2.1, ((ta b.2.2 i).2.2.2.1, ((ta b.2.2 i).2.2.2.2.1, ((ta b.2.2 i).2.2.2.2.2.1, (ta b.2.2 i).2.2.2.2.2.2)))))), b.2.1) = some (!taskB (ta b.2.2 i) b.2.1) := F57_ok (h2 i hi).1
    have hm : ((mget (kt := .i .u64) (vt := .b) (ta b.2.2 i).2.2.2.1 (metM b.2.2 i)).getD false : Bool) = !(List.range i).all fun k => !(decide (0 < (ta b.2.2 i).2.2.2.1) && ((ta b.2.2 k).2.2.2.1 == (ta b.2.2 i).2.2.2.1)) := met_get _ _ _
    simp only [q1, q2, at_ta hi, hF, hw, hm, cond_true, cond_false, Option.bind_some, Option.map_some, joinX_l, joinX_r, decide_true, decide_false, eq_self, Bool.not_true, Bool.not_false, Bool.and_true, Bool.true_and, Bool.and_self, Bool.false_and, Bool.and_false, Bool.true_or, Bool.or_true, Bool.false_or, Bool.or_false, app_eq, List.length_append, List.length_cons, List.length_nil, Nat.zero_add, Nat.add_zero, Int.toNat_natCast, Nat.le_refl, Int.le_refl, List.take_length, Option.getD_some, Option.getD_none, if_true, if_false, Bool.false_eq_true, Bool.true_eq_false]
    have hst : metM b.2.2 (i + 1) = mput (kt := .i .u64) (vt := .b) (ta b.2.2 i).2.2.2.1 (decide ((ta b.2.2 i).2.2.2.1 > 0)) (metM b.2.2 i) := rfl
    rw [hst]
    unfold okAt
    cases ht : taskB (ta b.2.2 i) b.2.1
    · rfl
    · simp only [cond_true, cond_false, Option.bind_some, Option.map_some, joinX_l, joinX_r, decide_true, decide_false, eq_self, Bool.not_true, Bool.not_false, Bool.and_true, Bool.true_and, Bool.and_self, Bool.false_and, Bool.and_false, Bool.true_or, Bool.or_true, Bool.false_or, Bool.or_false, app_eq, List.length_append, List.length_cons, List.length_nil, Nat.zero_add, Nat.add_zero, Int.toNat_natCast, Nat.le_refl, Int.le_refl, List.take_length, Option.getD_some, Option.getD_none, if_true, if_false, Bool.false_eq_true, Bool.true_eq_false]
      by_cases h0 : i = 0
      · subst h0
        rfl
      · have q3 : (i : Int) > 0 := by omega
        have hw2 : IntKind.wrap .i64 ((i : Int) - 1) = ((i - 1 : Nat) : Int) := by rw [wi (by omega) (by omega)]; omega
        have q4 : (0 : Int) ≤ ((i - 1 : Nat) : Int) := by omega
        simp only [q3, hw2, q4, at_ta (show i - 1 < b.2.2.length by omega), h0, cond_true, cond_false, Option.bind_some, Option.map_some, joinX_l, joinX_r, decide_true, decide_false, eq_self, Bool.not_true, Bool.not_false, Bool.and_true, Bool.true_and, Bool.and_self, Bool.false_and, Bool.and_false, Bool.true_or, Bool.or_true, Bool.false_or, Bool.or_false, app_eq, List.length_append, List.length_cons, List.length_nil, Nat.zero_add, Nat.add_zero, Int.toNat_natCast, Nat.le_refl, Int.le_refl, List.take_length, Option.getD_some, Option.getD_none, if_true, if_false, Bool.false_eq_true, Bool.true_eq_false]
        have hl : Op.bytesLess (ByteArray.toList (ta b.2.2 (i - 1)).1) (ByteArray.toList (ta b.2.2 i).1) = ltN (ta b.2.2 (i - 1)).1 (ta b.2.2 i).1 := rfl
        rw [hl]
        cases ltN (ta b.2.2 (i - 1)).1 (ta b.2.2 i).1
        · rfl
        · simp only [cond_true, cond_false, Option.bind_some, Option.map_some, joinX_l, joinX_r, decide_true, decide_false, eq_self, Bool.not_true, Bool.not_false, Bool.and_true, Bool.true_and, Bool.and_self, Bool.false_and, Bool.and_false, Bool.true_or, Bool.or_true, Bool.false_or, Bool.or_false, app_eq, List.length_append, List.length_cons, List.length_nil, Nat.zero_add, Nat.add_zero, Int.toNat_natCast, Nat.le_refl, Int.le_refl, List.take_length, Option.getD_some, Option.getD_none, if_true, if_false, Bool.false_eq_true, Bool.true_eq_false]
          cases (List.range i).all fun k => !(decide (0 < (ta b.2.2 i).2.2.2.1) && ((ta b.2.2 k).2.2.2.1 == (ta b.2.2 i).2.2.2.1)) <;> rfl
end Go.Proofs.Ytoblcfkmggbheaa.VL
end
section
namespace Go.Proofs.Ytoblcfkmggbheaa.VL
open Go
set_option linter.unusedVariables false
set_option linter.unusedSectionVars false
set_option linter.unusedSimpArgs false
variable [Val]
def cmpN (a b : ByteArray) : Int := if ltN a b = true then -1 else if eqN a b = true then 0 else 1
theorem F61_ok (t : TK) (nm : ByteArray) : F61 (((t).1, ((t).2.1, ((t).2.2.1, ((t).2.2.2.1, ((t).2.2.2.2.1, ((t).2.2.2.2.2.1, (t).2.2.2.2.2.2)))))), nm) = some (cmpN t.1 nm) := by
  rw [F61_eq]
  show (F62 (t.1, nm)).bind _ = _
  rw [F62_eq]
  show Option.bind (cond (!(t.1.toList == t.1.toList)) _ (cond (!(nm.toList == nm.toList)) _ (cond (ltN t.1 nm) (some (-1)) (cond (!((ltN t.1 nm) || (eqN t.1 nm))) (some 1) (some 0))))) _ = _
  rw [beq_self_eq_true, beq_self_eq_true]
  unfold cmpN
  cases ltN t.1 nm <;> cases eqN t.1 nm <;> rfl
theorem cmp_lt (a b : ByteArray) : decide (cmpN a b < 0) = ltN a b := by
  unfold cmpN
  cases ltN a b <;> cases eqN a b <;> rfl
theorem cmp_eq (a b : ByteArray) : (cmpN a b == 0) = eqN a b := by
  unfold cmpN
  cases h : ltN a b
  · cases eqN a b <;> rfl
  · rw [eqN_of_lt h]; rfl
theorem mid {i j : Nat} (h : i + j ≤ 9223372036854775807) : IntKind.wrap .i64 (Int.fdiv (IntKind.wrap .u64 (IntKind.wrap .i64 ((i : Int) + (j : Int)))) 2) = (((i + j) / 2 : Nat) : Int) := by
  rw [wi (x := (i : Int) + j) (by omega) (by omega), wu (by omega) (by omega)]
  have e : Int.fdiv ((i : Int) + (j : Int)) 2 = (((i + j) / 2 : Nat) : Int) := by
    rw [Int.fdiv_eq_ediv_of_nonneg _ (by omega)]; omega
  rw [e, wi (by omega) (by omega)]
def srt (l : List TK) : Prop := ∀ i j, i < j → j < l.length → ltN (ta l i).1 (ta l j).1 = true
theorem srt_of {b : BK} (h : bookB b = true) : srt b.2.2 := by
  have h1 : ∀ i, i < b.2.2.length → okAt b.2.2 b.2.1 i = true := by
    unfold bookB at h
    rw [Bool.and_eq_true, List.all_eq_true] at h
    exact fun i hi => h.1 i (List.mem_range.2 hi)
  have h2 : ∀ i, i + 1 < b.2.2.length → ltN (ta b.2.2 i).1 (ta b.2.2 (i + 1)).1 = true := by
    intro i hi
    have := h1 (i + 1) hi
    unfold okAt at this
    rw [Bool.and_eq_true, Bool.and_eq_true, Bool.or_eq_true, decide_eq_true_iff] at this
    rcases this.2.1 with q | q
    · omega
    · simpa using q
  intro i j hij
  induction j with
  | zero => omega
  | succ j ih =>
    intro hj
    rcases Nat.lt_or_eq_of_le (Nat.le_of_lt_succ hij) with q | q
    · exact ltN_trans (ih q (by omega)) (h2 j hj)
    · rw [q]; exact h2 j hj
theorem len_of {b : BK} (h : bookB b = true) : b.2.2.length ≤ 100 := by
  unfold bookB at h
  rw [Bool.and_eq_true, decide_eq_true_iff] at h
  exact h.2
theorem okAt_of {b : BK} (h : bookB b = true) {i : Nat} (hi : i < b.2.2.length) : okAt b.2.2 b.2.1 i = true := by
  unfold bookB at h
  rw [Bool.and_eq_true, List.all_eq_true] at h
  exact h.1 i (List.mem_range.2 hi)
theorem task_of {b : BK} (h : bookB b = true) {i : Nat} (hi : i < b.2.2.length) : taskB (ta b.2.2 i) b.2.1 = true := by
  have := okAt_of h hi
  unfold okAt at this
  rw [Bool.and_eq_true] at this
  exact this.1
def plc (l : List TK) (nm : ByteArray) : Nat := cntP (fun k => ltN (ta l k).1 nm) l.length
def fnd (l : List TK) (nm : ByteArray) : Bool := decide (plc l nm < l.length) && eqN (ta l (plc l nm)).1 nm
theorem plc_le (l : List TK) (nm : ByteArray) : plc l nm ≤ l.length := cntP_le _ _
theorem plc_mono {l : List TK} (hs : srt l) (nm : ByteArray) : ∀ i j, i ≤ j → j < l.length → ltN (ta l j).1 nm = true → ltN (ta l i).1 nm = true := by
  intro i j hij hj h
  rcases Nat.lt_or_eq_of_le hij with q | q
  · exact ltN_trans (hs i j q hj) h
  · rw [q]; exact h
theorem srch {l : List TK} (hs : srt l) (nm : ByteArray) {f : Int × Int → Option ((Int × Int) ⊕ Int)} (hend : ∀ i : Nat, i ≤ l.length → f ((i : Int), (i : Int)) = some (.inr (i : Int)))
    (hstep : ∀ i j m : Nat, i < j → j ≤ l.length → m = (i + j) / 2 → m < l.length → (i : Int) < j → f ((i : Int), (j : Int)) = cond (ltN (ta l m).1 nm) (some (.inl (((m + 1 : Nat) : Int), (j : Int)))) (some (.inl ((i : Int), (m : Int))))) :
    loopX f ((0 : Int), (l.length : Int)) = some ((plc l nm : Nat) : Int) := by
  unfold plc
  refine loop_bs (fun k => ltN (ta l k).1 nm) (plc_mono hs nm) hend (fun i j h1 h2 => ?_)
  rw [hstep i j _ h1 h2 rfl (by omega) (by omega)]
  cases ltN (ta l ((i + j) / 2)).1 nm <;> rfl
theorem F36_ok {b : BK} {nm : ByteArray} (hs : srt b.2.2) (h63 : b.2.2.length ≤ 1000) : F36 (b, nm) = some (((plc b.2.2 nm : Nat) : Int), fnd b.2.2 nm) := by
  rw [F36_eq]
  rw [srch hs nm]
  · have hp := plc_le b.2.2 nm
    by_cases hq : plc b.2.2 nm < b.2.2.length
    · have q1 : ((plc b.2.2 nm : Nat) : Int) < ((b.2.2.length : Nat) : Int) := by omega
      have q2 : (0 : Int) ≤ ((plc b.2.2 nm : Nat) : Int) := by omega
      simp only [q1, q2, at_ta hq, F61_ok (ta b.2.2 (plc b.2.2 nm)) nm, cmp_eq, cond_true, cond_false, Option.bind_some, Option.map_some, joinX_l, joinX_r, decide_true, decide_false, eq_self, Bool.not_true, Bool.not_false, Bool.and_true, Bool.true_and, Bool.and_self, Bool.false_and, Bool.and_false, Bool.true_or, Bool.or_true, Bool.false_or, Bool.or_false, app_eq, List.length_append, List.length_cons, List.length_nil, Nat.zero_add, Nat.add_zero, Int.toNat_natCast, Nat.le_refl, Int.le_refl, List.take_length, Option.getD_some, Option.getD_none, if_true, if_false, Bool.false_eq_true, Bool.true_eq_false]
      unfold fnd
      rw [decide_eq_true hq, Bool.true_and]
    · have q1 : ¬ ((plc b.2.2 nm : Nat) : Int) < ((b.2.2.length : Nat) : Int) := by omega
      simp only [q1, cond_true, cond_false, Option.bind_some, Option.map_some, joinX_l, joinX_r, decide_true, decide_false, eq_self, Bool.not_true, Bool.not_false, Bool.and_true, Bool.true_and, Bool.and_self, Bool.false_and, Bool.and_false, Bool.true_or, Bool.or_true, Bool.false_or, Bool.or_false, app_eq, List.length_append, List.length_cons, List.length_nil, Nat.zero_add, Nat.add_zero, Int.toNat_natCast, Nat.le_refl, Int.le_refl, List.take_length, Option.getD_some, Option.getD_none, if_true, if_false, Bool.false_eq_true, Bool.true_eq_false]
      unfold fnd
      rw [decide_eq_false hq, Bool.false_and]
  · intro i hi
    have q : ¬ (i : Int) < (i : Int) := by omega
    simp only [q, cond_true, cond_false, Option.bind_some, Option.map_some, joinX_l, joinX_r, decide_true, decide_false, eq_self, Bool.not_true, Bool.not_false, Bool.and_true, Bool.true_and, Bool.and_self, Bool.false_and, Bool.and_false, Bool.true_or, Bool.or_true, Bool.false_or, Bool.or_false, app_eq, List.length_append, List.length_cons, List.length_nil, Nat.zero_add, Nat.add_zero, Int.toNat_natCast, Nat.le_refl, Int.le_refl, List.take_length, Option.getD_some, Option.getD_none, if_true, if_false, Bool.false_eq_true, Bool.true_eq_false]
  · intro i j m hij hj hm hml q1
    have hmid := mid (i := i) (j := j) (by omega)
    rw [← hm] at hmid
    have q3 : (0 : Int) ≤ (m : Int) := by omega
    have hw : IntKind.wrap .i64 ((m : Int) + 1) = ((m + 1 : Nat) : Int) := by rw [wi (by omega) (by omega)]; omega
    simp only [q1, hmid, q3, at_ta hml, F61_ok (ta b.2.2 m) nm, cmp_lt, hw, cond_true, cond_false, Option.bind_some, Option.map_some, joinX_l, joinX_r, decide_true, decide_false, eq_self, Bool.not_true, Bool.not_false, Bool.and_true, Bool.true_and, Bool.and_self, Bool.false_and, Bool.and_false, Bool.true_or, Bool.or_true, Bool.false_or, Bool.or_false, app_eq, List.length_append, List.length_cons, List.length_nil, Nat.zero_add, Nat.add_zero, Int.toNat_natCast, Nat.le_refl, Int.le_refl, List.take_length, Option.getD_some, Option.getD_none, if_true, if_false, Bool.false_eq_true, Bool.true_eq_false]
theorem loop_find {ρ : Type} {f : Int → Option (Int ⊕ ρ)} (n : Nat) (r : ρ) (hend : f (n : Int) = some (.inr r)) (hstep : ∀ i : Nat, i < n → f (i : Int) = some (.inl ((i + 1 : Nat) : Int))) : loopX f (0 : Int) = some r :=
  loop_nat n (fun _ => r) hend (fun i hi => .inr ⟨hstep i hi, rfl⟩) 0 (Nat.zero_le _)
theorem nz0 : ((0 : Int) != 0) = false := rfl
theorem nz1 : ((1 : Int) != 0) = true := rfl
theorem F11_ok {b : BK} {nm : ByteArray} (hz : szB b) : F11 (b, nm) = some (if bookB b = true then (if fnd b.2.2 nm = true then (ta b.2.2 (plc b.2.2 nm), 0) else ((⟨#[]⟩, (0, (0, (0, (0, (0, 0)))))), 6)) else ((⟨#[]⟩, (0, (0, (0, (0, (0, 0)))))), 1)) := by
  rw [F11_eq]
  have h1 : F26 (((b).1, ((b).2.1, (b).2.2))) = _ := F26_ok hz
  simp only [h1, Option.bind_some]
  by_cases hb : bookB b = true
  · have hs := srt_of hb
    have hl := len_of hb
    have h2 : F36 (((b).1, ((b).2.1, (b).2.2)), nm) = _ := F36_ok (b := b) hs (by omega)
    rw [if_pos hb, if_pos hb]
    simp only [h2, Option.bind_some, nz0, cond_false]
    cases hf : fnd b.2.2 nm
    · rfl
    · have hf' := hf
      unfold fnd at hf'
      rw [Bool.and_eq_true, decide_eq_true_iff] at hf'
      have q2 : (0 : Int) ≤ ((plc b.2.2 nm : Nat) : Int) := by omega
      simp only [q2, at_ta hf'.1, cond_true, cond_false, Option.bind_some, Option.map_some, joinX_l, joinX_r, decide_true, decide_false, eq_self, Bool.not_true, Bool.not_false, Bool.and_true, Bool.true_and, Bool.and_self, Bool.false_and, Bool.and_false, Bool.true_or, Bool.or_true, Bool.false_or, Bool.or_false, app_eq, List.length_append, List.length_cons, List.length_nil, Nat.zero_add, Nat.add_zero, Int.toNat_natCast, Nat.le_refl, Int.le_refl, List.take_length, Option.getD_some, Option.getD_none, if_true, if_false, Bool.false_eq_true, Bool.true_eq_false]
  · rw [if_neg hb, if_neg hb]; rfl
end Go.Proofs.Ytoblcfkmggbheaa.VL
end
section
namespace Go.Proofs.Ytoblcfkmggbheaa.VL
open Go
set_option linter.unusedVariables false
set_option linter.unusedSectionVars false
set_option linter.unusedSimpArgs false
variable [Val]
theorem F10_ok (b : BK) : F10 b = some (if decide (((b.2.2.length : Nat) : Int) > 101) = true then (b.1, (b.2.1, b.2.2.take 101)) else b) := by
  rw [F10_eq]
  by_cases h : ((b.2.2.length : Nat) : Int) > 101
  · have q : (101 : Int) ≤ ((b.2.2.length : Nat) : Int) := by omega
    have q' : (101 : Nat) ≤ b.2.2.length := by omega
    simp -implicitDefEqProofs only [h, q, q', cond_true, cond_false, Option.bind_some, Option.map_some, joinX_l, joinX_r, decide_true, decide_false, eq_self, Bool.not_true, Bool.not_false, Bool.and_true, Bool.true_and, Bool.and_self, Bool.false_and, Bool.and_false, Bool.true_or, Bool.or_true, Bool.false_or, Bool.or_false, app_eq, List.length_append, List.length_cons, List.length_nil, Nat.zero_add, Nat.add_zero, Int.toNat_natCast, Nat.le_refl, Int.le_refl, List.take_length, Option.getD_some, Option.getD_none, if_true, if_false, Bool.false_eq_true, Bool.true_eq_false]
  · simp -implicitDefEqProofs only [h, cond_true, cond_false, Option.bind_some, Option.map_some, joinX_l, joinX_r, decide_true, decide_false, eq_self, Bool.not_true, Bool.not_false, Bool.and_true, Bool.true_and, Bool.and_self, Bool.false_and, Bool.and_false, Bool.true_or, Bool.or_true, Bool.false_or, Bool.or_false, app_eq, List.length_append, List.length_cons, List.length_nil, Nat.zero_add, Nat.add_zero, Int.toNat_natCast, Nat.le_refl, Int.le_refl, List.take_length, Option.getD_some, Option.getD_none, if_true, if_false, Bool.false_eq_true, Bool.true_eq_false]
theorem F34_refl (l : List TK) (h63 : l.length ≤ 9223372036854775806) : F34 (l, l) = some true := by
  rw [F34_eq]
  have e : (((l.length : Nat) : Int) != ((l.length : Nat) : Int)) = false := bne_self_eq_false _
  simp only [e, cond_false]
  refine loop_find l.length true ?_ ?_
  · have q1 : ¬ ((l.length : Nat) : Int) < ((l.length : Nat) : Int) := by omega
    simp -implicitDefEqProofs only [q1, cond_true, cond_false, Option.bind_some, Option.map_some, joinX_l, joinX_r, decide_true, decide_false, eq_self, Bool.not_true, Bool.not_false, Bool.and_true, Bool.true_and, Bool.and_self, Bool.false_and, Bool.and_false, Bool.true_or, Bool.or_true, Bool.false_or, Bool.or_false, app_eq, List.length_append, List.length_cons, List.length_nil, Nat.zero_add, Nat.add_zero, Int.toNat_natCast, Nat.le_refl, Int.le_refl, List.take_length, Option.getD_some, Option.getD_none, if_true, if_false, Bool.false_eq_true, Bool.true_eq_false]
  · intro i hi
    have q1 : (i : Int) < ((l.length : Nat) : Int) := by omega
    have q2 : (0 : Int) ≤ (i : Int) := by omega
    have hw : IntKind.wrap .i64 ((i : Int) + 1) = ((i + 1 : Nat) : Int) := by rw [wi (by omega) (by omega)]; omega
    simp -implicitDefEqProofs only [q1, q2, at_ta hi, hw, beq_self_eq_true, cond_true, cond_false, Option.bind_some, Option.map_some, joinX_l, joinX_r, decide_true, decide_false, eq_self, Bool.not_true, Bool.not_false, Bool.and_true, Bool.true_and, Bool.and_self, Bool.false_and, Bool.and_false, Bool.true_or, Bool.or_true, Bool.false_or, Bool.or_false, app_eq, List.length_append, List.length_cons, List.length_nil, Nat.zero_add, Nat.add_zero, Int.toNat_natCast, Nat.le_refl, Int.le_refl, List.take_length, Option.getD_some, Option.getD_none, if_true, if_false, Bool.false_eq_true, Bool.true_eq_false]
theorem F15_refl (b : BK) (h63 : b.2.2.length ≤ 9223372036854775806) : F15 (b, b) = some true := by
  rw [F15_eq]
  simp only [beq_self_eq_true, cond_true, F34_refl b.2.2 h63, Option.bind_some]
def off (l : List TK) (nm : ByteArray) : Nat := if fnd l nm = true then 1 else 0
def setL (l : List TK) (t : TK) : List TK := (l.take (plc l t.1) ++ [t]) ++ l.drop (plc l t.1 + off l t.1)
theorem fnd_lt {l : List TK} {nm : ByteArray} (h : fnd l nm = true) : plc l nm < l.length := by
  unfold fnd at h
  rw [Bool.and_eq_true, decide_eq_true_iff] at h
  exact h.1
theorem fnd_eq {l : List TK} {nm : ByteArray} (h : fnd l nm = true) : (ta l (plc l nm)).1 = nm := by
  unfold fnd at h
  rw [Bool.and_eq_true, decide_eq_true_iff] at h
  exact eqN_eq h.2
end Go.Proofs.Ytoblcfkmggbheaa.VL
end
section
namespace Go.Proofs.Ytoblcfkmggbheaa.VL
open Go
set_option linter.unusedVariables false
set_option linter.unusedSectionVars false
set_option linter.unusedSimpArgs false
variable [Val]
theorem F29_t {c : Int × Int} (h : capsB c = true) : F29 (c.1, c.2) = some 0 := (F29_ok c).trans (by unfold capsB at h; rw [if_pos h])
theorem F29_f {c : Int × Int} (h : capsB c = false) : F29 (c.1, c.2) = some 1 := (F29_ok c).trans (by unfold capsB at h; rw [h]; rfl)
theorem F26_t {b : BK} (hz : szB b) (h : bookB b = true) : F26 (((b).1, ((b).2.1, (b).2.2))) = some 0 := (F26_ok hz).trans (by rw [if_pos h])
theorem F26_f {b : BK} (hz : szB b) (h : bookB b = false) : F26 (((b).1, ((b).2.1, (b).2.2))) = some 1 := (F26_ok hz).trans (by rw [h]; rfl)
theorem copyL {l : List TK} (hl : l.length ≤ 100) : bothX (List.isEmpty l) (some []) (cond ((decide ((((l.length : Nat) : Int) * (64 : Int)) ≤ (70368744177664 : Int))) && (decide (((l.length : Nat) : Int) ≤ (70368744177664 : Int)))) (cond (decide (l.length = l.length)) (some l) none) none) = some l := by
  have e1 : decide ((((l.length : Nat) : Int) * (64 : Int)) ≤ (70368744177664 : Int)) = true := decide_eq_true (by omega)
  have e2 : decide (((l.length : Nat) : Int) ≤ (70368744177664 : Int)) = true := decide_eq_true (by omega)
  have e3 : decide (l.length = l.length) = true := decide_eq_true rfl
  rw [e1, e2, e3]
  rw [bothX_eq (fun h => ?_)]
  · rfl
  · rw [List.isEmpty_iff.1 h]; rfl
theorem sget {l : List TK} {p : Nat} (h : p < l.length) (x : TK) : (l.set p x)[p]? = some x := by rw [List.getElem?_set_self h]
theorem set_setL {l : List TK} {nm : ByteArray} {t : TK} (h : fnd l nm = true) (ht : t.1 = nm) : l.set (plc l nm) t = setL l t := by
  unfold setL off
  rw [ht, if_pos h, List.set_eq_take_append_cons_drop, if_pos (fnd_lt h), List.append_assoc]; rfl
def gS (c : Int × Int) (b : BK) (k : Int) (r : BK × Int) : BK × Int := if (capsB c && bookB b) = true then (if decide (k < b.1) = true then (b, 8) else r) else (b, 1)
def dropR (b : BK) (k : Int) (nm : ByteArray) : BK × Int := if fnd b.2.2 nm = true then (if decide ((ta b.2.2 (plc b.2.2 nm)).2.1 < 2) = true then ((k, (b.2.1, setL b.2.2 ((ta b.2.2 (plc b.2.2 nm)).1, (4, ((ta b.2.2 (plc b.2.2 nm)).2.2.1, ((ta b.2.2 (plc b.2.2 nm)).2.2.2.1, ((ta b.2.2 (plc b.2.2 nm)).2.2.2.2.1, (-1, 0)))))))), 0) else (b, 7)) else (b, 6)
theorem open_of {b : BK} (hb : bookB b = true) {i : Nat} (hi : i < b.2.2.length) : ((ta b.2.2 i).2.1 == 0 || (ta b.2.2 i).2.1 == 1) = decide ((ta b.2.2 i).2.1 < 2) := by
  have h := task_of hb hi
  unfold taskB at h
  rw [Bool.and_eq_true, Bool.and_eq_true, Bool.and_eq_true, decide_eq_true_iff] at h
  have := h.2.1.1
  rw [Bool.eq_iff_iff, Bool.or_eq_true, beq_iff_eq, beq_iff_eq, decide_eq_true_iff]; omega
theorem F43_ok (t : TK) : F43 (((t).1, ((t).2.1, ((t).2.2.1, ((t).2.2.2.1, ((t).2.2.2.2.1, ((t).2.2.2.2.2.1, (t).2.2.2.2.2.2))))))) = some (t.2.1 == 0 || t.2.1 == 1) := by
  rw [F43_eq]
  show cond (t.2.1 == 0) _ _ = _
  cases (t.2.1 == 0) <;> rfl
theorem F16_ok {c : Int × Int} {b : BK} {k : Int} {nm : ByteArray} (hz : szB b) : F16 (c, (b, (k, nm))) = some (gS c b k (dropR b k nm)) := by
  have hp := plc_le b.2.2 nm
  unfold gS
  cases hc : capsB c
  · have h1 := F29_f hc
    rw [F16_eq]
    simp -implicitDefEqProofs only [h1, nz1, nz0, cond_true, cond_false, Option.bind_some, Option.map_some, joinX_l, joinX_r, decide_true, decide_false, eq_self, Bool.not_true, Bool.not_false, Bool.and_true, Bool.true_and, Bool.and_self, Bool.false_and, Bool.and_false, Bool.true_or, Bool.or_true, Bool.false_or, Bool.or_false, app_eq, List.length_append, List.length_cons, List.length_nil, Nat.zero_add, Nat.add_zero, Int.toNat_natCast, Nat.le_refl, Int.le_refl, List.take_length, Option.getD_some, Option.getD_none, if_true, if_false, Bool.false_eq_true, Bool.true_eq_false]
  have h1 := F29_t hc
  cases hb : bookB b
  · have h2 := F26_f hz hb
    rw [F16_eq]
    simp -implicitDefEqProofs only [h1, h2, nz0, nz1, cond_true, cond_false, Option.bind_some, Option.map_some, joinX_l, joinX_r, decide_true, decide_false, eq_self, Bool.not_true, Bool.not_false, Bool.and_true, Bool.true_and, Bool.and_self, Bool.false_and, Bool.and_false, Bool.true_or, Bool.or_true, Bool.false_or, Bool.or_false, app_eq, List.length_append, List.length_cons, List.length_nil, Nat.zero_add, Nat.add_zero, Int.toNat_natCast, Nat.le_refl, Int.le_refl, List.take_length, Option.getD_some, Option.getD_none, if_true, if_false, Bool.false_eq_true, Bool.true_eq_false]
  have h2 := F26_t hz hb
  by_cases hk : k < b.1
  · rw [F16_eq]
    have nz8 : ((8 : Int) != 0) = true := rfl
    simp -implicitDefEqProofs only [h1, h2, nz0, hk, nz8, cond_true, cond_false, Option.bind_some, Option.map_some, joinX_l, joinX_r, decide_true, decide_false, eq_self, Bool.not_true, Bool.not_false, Bool.and_true, Bool.true_and, Bool.and_self, Bool.false_and, Bool.and_false, Bool.true_or, Bool.or_true, Bool.false_or, Bool.or_false, app_eq, List.length_append, List.length_cons, List.length_nil, Nat.zero_add, Nat.add_zero, Int.toNat_natCast, Nat.le_refl, Int.le_refl, List.take_length, Option.getD_some, Option.getD_none, if_true, if_false, Bool.false_eq_true, Bool.true_eq_false]
  have hs := srt_of hb
  have hl := len_of hb
  rw [F16_eq, copyL hl]
  simp -implicitDefEqProofs only [h1, h2, nz0, hk, decide_false, cond_false, cond_true, Option.bind_some, joinX_l]
  rw [srch hs nm]
  rotate_left
  · intro i hi
    have q : ¬ (i : Int) < (i : Int) := by omega
    simp -implicitDefEqProofs only [q, cond_true, cond_false, Option.bind_some, Option.map_some, joinX_l, joinX_r, decide_true, decide_false, eq_self, Bool.not_true, Bool.not_false, Bool.and_true, Bool.true_and, Bool.and_self, Bool.false_and, Bool.and_false, Bool.true_or, Bool.or_true, Bool.false_or, Bool.or_false, app_eq, List.length_append, List.length_cons, List.length_nil, Nat.zero_add, Nat.add_zero, Int.toNat_natCast, Nat.le_refl, Int.le_refl, List.take_length, Option.getD_some, Option.getD_none, if_true, if_false, Bool.false_eq_true, Bool.true_eq_false]
  · intro i j m hij hj hm hml q1
    have hmid := mid (i := i) (j := j) (by omega)
    rw [← hm] at hmid
    have q3 : (0 : Int) ≤ (m : Int) := by omega
    have q4 : (m : Int) < ((b.2.2.length : Nat) : Int) := by omega
    have hw : IntKind.wrap .i64 ((m : Int) + 1) = ((m + 1 : Nat) : Int) := by rw [wi (by omega) (by omega)]; omega
    simp -implicitDefEqProofs only [q1, hmid, q3, q4, at_ta hml, F61_ok (ta b.2.2 m) nm, cmp_lt, hw, cond_true, cond_false, Option.bind_some, Option.map_some, joinX_l, joinX_r, decide_true, decide_false, eq_self, Bool.not_true, Bool.not_false, Bool.and_true, Bool.true_and, Bool.and_self, Bool.false_and, Bool.and_false, Bool.true_or, Bool.or_true, Bool.false_or, Bool.or_false, app_eq, List.length_append, List.length_cons, List.length_nil, Nat.zero_add, Nat.add_zero, Int.toNat_natCast, Nat.le_refl, Int.le_refl, List.take_length, Option.getD_some, Option.getD_none, if_true, if_false, Bool.false_eq_true, Bool.true_eq_false]
  by_cases hq : plc b.2.2 nm < b.2.2.length
  rotate_left
  · have hf : fnd b.2.2 nm = false := by unfold fnd; rw [decide_eq_false hq]; rfl
    have q1 : ¬ ((plc b.2.2 nm : Nat) : Int) < ((b.2.2.length : Nat) : Int) := by omega
    have nz6 : ((6 : Int) != 0) = true := rfl
    simp -implicitDefEqProofs only [q1, hf, nz6, dropR, hc, hb, hk, cond_true, cond_false, Option.bind_some, Option.map_some, joinX_l, joinX_r, decide_true, decide_false, eq_self, Bool.not_true, Bool.not_false, Bool.and_true, Bool.true_and, Bool.and_self, Bool.false_and, Bool.and_false, Bool.true_or, Bool.or_true, Bool.false_or, Bool.or_false, app_eq, List.length_append, List.length_cons, List.length_nil, Nat.zero_add, Nat.add_zero, Int.toNat_natCast, Nat.le_refl, Int.le_refl, List.take_length, Option.getD_some, Option.getD_none, if_true, if_false, Bool.false_eq_true, Bool.true_eq_false]
  have q1 : ((plc b.2.2 nm : Nat) : Int) < ((b.2.2.length : Nat) : Int) := by omega
  have q2 : (0 : Int) ≤ ((plc b.2.2 nm : Nat) : Int) := by omega
  cases hf : eqN (ta b.2.2 (plc b.2.2 nm)).1 nm
  · have hf' : fnd b.2.2 nm = false := by unfold fnd; rw [hf, Bool.and_false]
    have nz6 : ((6 : Int) != 0) = true := rfl
    simp -implicitDefEqProofs only [q1, q2, at_ta hq, F61_ok (ta b.2.2 (plc b.2.2 nm)) nm, cmp_eq, hf, hf', nz6, dropR, hc, hb, hk, cond_true, cond_false, Option.bind_some, Option.map_some, joinX_l, joinX_r, decide_true, decide_false, eq_self, Bool.not_true, Bool.not_false, Bool.and_true, Bool.true_and, Bool.and_self, Bool.false_and, Bool.and_false, Bool.true_or, Bool.or_true, Bool.false_or, Bool.or_false, app_eq, List.length_append, List.length_cons, List.length_nil, Nat.zero_add, Nat.add_zero, Int.toNat_natCast, Nat.le_refl, Int.le_refl, List.take_length, Option.getD_some, Option.getD_none, if_true, if_false, Bool.false_eq_true, Bool.true_eq_false]
  have hf' : fnd b.2.2 nm = true := by unfold fnd; rw [hf, decide_eq_true hq]; rfl
  have hsg := sget hq
  have nz7 : ((7 : Int) != 0) = true := rfl
  simp -implicitDefEqProofs only [q1, q2, at_ta hq, F61_ok (ta b.2.2 (plc b.2.2 nm)) nm, cmp_eq, hf, F43_ok (ta b.2.2 (plc b.2.2 nm)), open_of hb hq, dropR, hf', hc, hb, hk, cond_true, cond_false, Option.bind_some, Option.map_some, joinX_l, joinX_r, decide_true, decide_false, eq_self, Bool.not_true, Bool.not_false, Bool.and_true, Bool.true_and, Bool.and_self, Bool.false_and, Bool.and_false, Bool.true_or, Bool.or_true, Bool.false_or, Bool.or_false, app_eq, List.length_append, List.length_cons, List.length_nil, Nat.zero_add, Nat.add_zero, Int.toNat_natCast, Nat.le_refl, Int.le_refl, List.take_length, Option.getD_some, Option.getD_none, if_true, if_false, Bool.false_eq_true, Bool.true_eq_false]
  cases hd : decide ((ta b.2.2 (plc b.2.2 nm)).2.1 < 2)
  · simp -implicitDefEqProofs only [nz7, cond_true, cond_false, Option.bind_some, Option.map_some, joinX_l, joinX_r, decide_true, decide_false, eq_self, Bool.not_true, Bool.not_false, Bool.and_true, Bool.true_and, Bool.and_self, Bool.false_and, Bool.and_false, Bool.true_or, Bool.or_true, Bool.false_or, Bool.or_false, app_eq, List.length_append, List.length_cons, List.length_nil, Nat.zero_add, Nat.add_zero, Int.toNat_natCast, Nat.le_refl, Int.le_refl, List.take_length, Option.getD_some, Option.getD_none, if_true, if_false, Bool.false_eq_true, Bool.true_eq_false]
  · have hsl := set_setL (t := ((ta b.2.2 (plc b.2.2 nm)).1, (4, ((ta b.2.2 (plc b.2.2 nm)).2.2.1, ((ta b.2.2 (plc b.2.2 nm)).2.2.2.1, ((ta b.2.2 (plc b.2.2 nm)).2.2.2.2.1, (-1, 0))))))) hf' (fnd_eq hf')
    simp -implicitDefEqProofs only [hsg, List.set_set, nz0, List.length_set, cond_true, cond_false, Option.bind_some, Option.map_some, joinX_l, joinX_r, decide_true, decide_false, eq_self, Bool.not_true, Bool.not_false, Bool.and_true, Bool.true_and, Bool.and_self, Bool.false_and, Bool.and_false, Bool.true_or, Bool.or_true, Bool.false_or, Bool.or_false, app_eq, List.length_append, List.length_cons, List.length_nil, Nat.zero_add, Nat.add_zero, Int.toNat_natCast, Nat.le_refl, Int.le_refl, List.take_length, Option.getD_some, Option.getD_none, if_true, if_false, Bool.false_eq_true, Bool.true_eq_false]
    rw [List.take_of_length_le (by rw [List.length_set]; exact Nat.le_refl _), hsl]
def doneT (c : Int × Int) (s : Int) (t : TK) : TK := (t.1, ((if (s == 2) = true then 2 else if decide (t.2.2.2.2.1 ≥ c.2) = true then 3 else 0), (t.2.2.1, (t.2.2.2.1, (t.2.2.2.2.1, (-1, 0))))))
def doneR (c : Int × Int) (b : BK) (k : Int) (nm : ByteArray) (g s : Int) : BK × Int := if fnd b.2.2 nm = true then (if (bne (ta b.2.2 (plc b.2.2 nm)).2.2.2.1 g) = true then (b, 8) else if (bne (ta b.2.2 (plc b.2.2 nm)).2.1 1) = true then (b, 7) else ((k, (b.2.1, setL b.2.2 (doneT c s (ta b.2.2 (plc b.2.2 nm))))), 0)) else (b, 6)
theorem F13_ok {c : Int × Int} {b : BK} {k : Int} {nm : ByteArray} {g : Int} {d : Bool} (hz : szB b) : F13 (c, (b, (k, (nm, (g, d))))) = some (gS c b k (doneR c b k nm g (if d = true then 2 else 1))) := by
  have hp := plc_le b.2.2 nm
  unfold gS
  cases hc : capsB c
  · have h1 := F29_f hc
    rw [F13_eq]
    simp -implicitDefEqProofs only [h1, nz1, nz0, cond_true, cond_false, Option.bind_some, Option.map_some, joinX_l, joinX_r, decide_true, decide_false, eq_self, Bool.not_true, Bool.not_false, Bool.and_true, Bool.true_and, Bool.and_self, Bool.false_and, Bool.and_false, Bool.true_or, Bool.or_true, Bool.false_or, Bool.or_false, app_eq, List.length_append, List.length_cons, List.length_nil, Nat.zero_add, Nat.add_zero, Int.toNat_natCast, Nat.le_refl, Int.le_refl, List.take_length, Option.getD_some, Option.getD_none, if_true, if_false, Bool.false_eq_true, Bool.true_eq_false]
  have h1 := F29_t hc
  cases hb : bookB b
  · have h2 := F26_f hz hb
    rw [F13_eq]
    simp -implicitDefEqProofs only [h1, h2, nz0, nz1, cond_true, cond_false, Option.bind_some, Option.map_some, joinX_l, joinX_r, decide_true, decide_false, eq_self, Bool.not_true, Bool.not_false, Bool.and_true, Bool.true_and, Bool.and_self, Bool.false_and, Bool.and_false, Bool.true_or, Bool.or_true, Bool.false_or, Bool.or_false, app_eq, List.length_append, List.length_cons, List.length_nil, Nat.zero_add, Nat.add_zero, Int.toNat_natCast, Nat.le_refl, Int.le_refl, List.take_length, Option.getD_some, Option.getD_none, if_true, if_false, Bool.false_eq_true, Bool.true_eq_false]
  have h2 := F26_t hz hb
  by_cases hk : k < b.1
  · rw [F13_eq]
    have nz8 : ((8 : Int) != 0) = true := rfl
    simp -implicitDefEqProofs only [h1, h2, nz0, hk, nz8, cond_true, cond_false, Option.bind_some, Option.map_some, joinX_l, joinX_r, decide_true, decide_false, eq_self, Bool.not_true, Bool.not_false, Bool.and_true, Bool.true_and, Bool.and_self, Bool.false_and, Bool.and_false, Bool.true_or, Bool.or_true, Bool.false_or, Bool.or_false, app_eq, List.length_append, List.length_cons, List.length_nil, Nat.zero_add, Nat.add_zero, Int.toNat_natCast, Nat.le_refl, Int.le_refl, List.take_length, Option.getD_some, Option.getD_none, if_true, if_false, Bool.false_eq_true, Bool.true_eq_false]
  have hs := srt_of hb
  have hl := len_of hb
  rw [F13_eq, copyL hl]
  simp -implicitDefEqProofs only [h1, h2, nz0, hk, decide_false, cond_false, cond_true, Option.bind_some, joinX_l]
  rw [srch hs nm]
  rotate_left
  · intro i hi
    have q : ¬ (i : Int) < (i : Int) := by omega
    simp -implicitDefEqProofs only [q, cond_true, cond_false, Option.bind_some, Option.map_some, joinX_l, joinX_r, decide_true, decide_false, eq_self, Bool.not_true, Bool.not_false, Bool.and_true, Bool.true_and, Bool.and_self, Bool.false_and, Bool.and_false, Bool.true_or, Bool.or_true, Bool.false_or, Bool.or_false, app_eq, List.length_append, List.length_cons, List.length_nil, Nat.zero_add, Nat.add_zero, Int.toNat_natCast, Nat.le_refl, Int.le_refl, List.take_length, Option.getD_some, Option.getD_none, if_true, if_false, Bool.false_eq_true, Bool.true_eq_false]
  · intro i j m hij hj hm hml q1
    have hmid := mid (i := i) (j := j) (by omega)
    rw [← hm] at hmid
    have q3 : (0 : Int) ≤ (m : Int) := by omega
    have q4 : (m : Int) < ((b.2.2.length : Nat) : Int) := by omega
    have hw : IntKind.wrap .i64 ((m : Int) + 1) = ((m + 1 : Nat) : Int) := by rw [wi (by omega) (by omega)]; omega
    simp -implicitDefEqProofs only [q1, hmid, q3, q4, at_ta hml, F61_ok (ta b.2.2 m) nm, cmp_lt, hw, cond_true, cond_false, Option.bind_some, Option.map_some, joinX_l, joinX_r, decide_true, decide_false, eq_self, Bool.not_true, Bool.not_false, Bool.and_true, Bool.true_and, Bool.and_self, Bool.false_and, Bool.and_false, Bool.true_or, Bool.or_true, Bool.false_or, Bool.or_false, app_eq, List.length_append, List.length_cons, List.length_nil, Nat.zero_add, Nat.add_zero, Int.toNat_natCast, Nat.le_refl, Int.le_refl, List.take_length, Option.getD_some, Option.getD_none, if_true, if_false, Bool.false_eq_true, Bool.true_eq_false]
  by_cases hq : plc b.2.2 nm < b.2.2.length
  rotate_left
  · have hf : fnd b.2.2 nm = false := by unfold fnd; rw [decide_eq_false hq]; rfl
    have q1 : ¬ ((plc b.2.2 nm : Nat) : Int) < ((b.2.2.length : Nat) : Int) := by omega
    have nz6 : ((6 : Int) != 0) = true := rfl
    simp -implicitDefEqProofs only [q1, hf, nz6, doneR, hc, hb, hk, cond_true, cond_false, Option.bind_some, Option.map_some, joinX_l, joinX_r, decide_true, decide_false, eq_self, Bool.not_true, Bool.not_false, Bool.and_true, Bool.true_and, Bool.and_self, Bool.false_and, Bool.and_false, Bool.true_or, Bool.or_true, Bool.false_or, Bool.or_false, app_eq, List.length_append, List.length_cons, List.length_nil, Nat.zero_add, Nat.add_zero, Int.toNat_natCast, Nat.le_refl, Int.le_refl, List.take_length, Option.getD_some, Option.getD_none, if_true, if_false, Bool.false_eq_true, Bool.true_eq_false]
  have q1 : ((plc b.2.2 nm : Nat) : Int) < ((b.2.2.length : Nat) : Int) := by omega
  have q2 : (0 : Int) ≤ ((plc b.2.2 nm : Nat) : Int) := by omega
  cases hf : eqN (ta b.2.2 (plc b.2.2 nm)).1 nm
  · have hf' : fnd b.2.2 nm = false := by unfold fnd; rw [hf, Bool.and_false]
    have nz6 : ((6 : Int) != 0) = true := rfl
    simp -implicitDefEqProofs only [q1, q2, at_ta hq, F61_ok (ta b.2.2 (plc b.2.2 nm)) nm, cmp_eq, hf, hf', nz6, doneR, hc, hb, hk, cond_true, cond_false, Option.bind_some, Option.map_some, joinX_l, joinX_r, decide_true, decide_false, eq_self, Bool.not_true, Bool.not_false, Bool.and_true, Bool.true_and, Bool.and_self, Bool.false_and, Bool.and_false, Bool.true_or, Bool.or_true, Bool.false_or, Bool.or_false, app_eq, List.length_append, List.length_cons, List.length_nil, Nat.zero_add, Nat.add_zero, Int.toNat_natCast, Nat.le_refl, Int.le_refl, List.take_length, Option.getD_some, Option.getD_none, if_true, if_false, Bool.false_eq_true, Bool.true_eq_false]
  have hf' : fnd b.2.2 nm = true := by unfold fnd; rw [hf, decide_eq_true hq]; rfl
  have hsg := sget hq
  have nz7 : ((7 : Int) != 0) = true := rfl
  have nz8 : ((8 : Int) != 0) = true := rfl
  simp -implicitDefEqProofs only [q1, q2, at_ta hq, F61_ok (ta b.2.2 (plc b.2.2 nm)) nm, cmp_eq, hf, doneR, hf', hc, hb, hk, cond_true, cond_false, Option.bind_some, Option.map_some, joinX_l, joinX_r, decide_true, decide_false, eq_self, Bool.not_true, Bool.not_false, Bool.and_true, Bool.true_and, Bool.and_self, Bool.false_and, Bool.and_false, Bool.true_or, Bool.or_true, Bool.false_or, Bool.or_false, app_eq, List.length_append, List.length_cons, List.length_nil, Nat.zero_add, Nat.add_zero, Int.toNat_natCast, Nat.le_refl, Int.le_refl, List.take_length, Option.getD_some, Option.getD_none, if_true, if_false, Bool.false_eq_true, Bool.true_eq_false]
  cases hg : (bne (ta b.2.2 (plc b.2.2 nm)).2.2.2.1 g)
  rotate_left
  · simp -implicitDefEqProofs only [nz8, cond_true, cond_false, Option.bind_some, Option.map_some, joinX_l, joinX_r, decide_true, decide_false, eq_self, Bool.not_true, Bool.not_false, Bool.and_true, Bool.true_and, Bool.and_self, Bool.false_and, Bool.and_false, Bool.true_or, Bool.or_true, Bool.false_or, Bool.or_false, app_eq, List.length_append, List.length_cons, List.length_nil, Nat.zero_add, Nat.add_zero, Int.toNat_natCast, Nat.le_refl, Int.le_refl, List.take_length, Option.getD_some, Option.getD_none, if_true, if_false, Bool.false_eq_true, Bool.true_eq_false]
  simp -implicitDefEqProofs only [cond_true, cond_false, Option.bind_some, Option.map_some, joinX_l, joinX_r, decide_true, decide_false, eq_self, Bool.not_true, Bool.not_false, Bool.and_true, Bool.true_and, Bool.and_self, Bool.false_and, Bool.and_false, Bool.true_or, Bool.or_true, Bool.false_or, Bool.or_false, app_eq, List.length_append, List.length_cons, List.length_nil, Nat.zero_add, Nat.add_zero, Int.toNat_natCast, Nat.le_refl, Int.le_refl, List.take_length, Option.getD_some, Option.getD_none, if_true, if_false, Bool.false_eq_true, Bool.true_eq_false]
  cases ht : (bne (ta b.2.2 (plc b.2.2 nm)).2.1 1)
  rotate_left
  · simp -implicitDefEqProofs only [nz7, cond_true, cond_false, Option.bind_some, Option.map_some, joinX_l, joinX_r, decide_true, decide_false, eq_self, Bool.not_true, Bool.not_false, Bool.and_true, Bool.true_and, Bool.and_self, Bool.false_and, Bool.and_false, Bool.true_or, Bool.or_true, Bool.false_or, Bool.or_false, app_eq, List.length_append, List.length_cons, List.length_nil, Nat.zero_add, Nat.add_zero, Int.toNat_natCast, Nat.le_refl, Int.le_refl, List.take_length, Option.getD_some, Option.getD_none, if_true, if_false, Bool.false_eq_true, Bool.true_eq_false]
  have hsl := fun t => set_setL (t := t) hf'
  have hlen : ∀ t : TK, (b.2.2.set (plc b.2.2 nm) t).length = b.2.2.length := fun t => List.length_set
  have htk : ∀ t : TK, List.take b.2.2.length (b.2.2.set (plc b.2.2 nm) t) = b.2.2.set (plc b.2.2 nm) t := fun t => List.take_of_length_le (by rw [List.length_set]; exact Nat.le_refl _)
  cases hv : decide ((ta b.2.2 (plc b.2.2 nm)).2.2.2.2.1 ≥ c.2) <;> cases d
  · simp -implicitDefEqProofs only [hsg, List.set_set, nz0, hlen, htk, hv, cond_true, cond_false, Option.bind_some, Option.map_some, joinX_l, joinX_r, decide_true, decide_false, eq_self, Bool.not_true, Bool.not_false, Bool.and_true, Bool.true_and, Bool.and_self, Bool.false_and, Bool.and_false, Bool.true_or, Bool.or_true, Bool.false_or, Bool.or_false, app_eq, List.length_append, List.length_cons, List.length_nil, Nat.zero_add, Nat.add_zero, Int.toNat_natCast, Nat.le_refl, Int.le_refl, List.take_length, Option.getD_some, Option.getD_none, if_true, if_false, Bool.false_eq_true, Bool.true_eq_false]
    have hd : doneT c 1 (ta b.2.2 (plc b.2.2 nm)) = ((ta b.2.2 (plc b.2.2 nm)).1, (0, ((ta b.2.2 (plc b.2.2 nm)).2.2.1, ((ta b.2.2 (plc b.2.2 nm)).2.2.2.1, ((ta b.2.2 (plc b.2.2 nm)).2.2.2.2.1, (-1, 0)))))) := by unfold doneT; rw [hv]; rfl
    rw [← hsl (doneT c 1 (ta b.2.2 (plc b.2.2 nm))) (fnd_eq hf'), hd]
  · simp -implicitDefEqProofs only [hsg, List.set_set, nz0, hlen, htk, hv, cond_true, cond_false, Option.bind_some, Option.map_some, joinX_l, joinX_r, decide_true, decide_false, eq_self, Bool.not_true, Bool.not_false, Bool.and_true, Bool.true_and, Bool.and_self, Bool.false_and, Bool.and_false, Bool.true_or, Bool.or_true, Bool.false_or, Bool.or_false, app_eq, List.length_append, List.length_cons, List.length_nil, Nat.zero_add, Nat.add_zero, Int.toNat_natCast, Nat.le_refl, Int.le_refl, List.take_length, Option.getD_some, Option.getD_none, if_true, if_false, Bool.false_eq_true, Bool.true_eq_false]
    have hd : doneT c 2 (ta b.2.2 (plc b.2.2 nm)) = ((ta b.2.2 (plc b.2.2 nm)).1, (2, ((ta b.2.2 (plc b.2.2 nm)).2.2.1, ((ta b.2.2 (plc b.2.2 nm)).2.2.2.1, ((ta b.2.2 (plc b.2.2 nm)).2.2.2.2.1, (-1, 0)))))) := by unfold doneT; rw [hv]; rfl
    rw [← hsl (doneT c 2 (ta b.2.2 (plc b.2.2 nm))) (fnd_eq hf'), hd]
  · simp -implicitDefEqProofs only [hsg, List.set_set, nz0, hlen, htk, hv, cond_true, cond_false, Option.bind_some, Option.map_some, joinX_l, joinX_r, decide_true, decide_false, eq_self, Bool.not_true, Bool.not_false, Bool.and_true, Bool.true_and, Bool.and_self, Bool.false_and, Bool.and_false, Bool.true_or, Bool.or_true, Bool.false_or, Bool.or_false, app_eq, List.length_append, List.length_cons, List.length_nil, Nat.zero_add, Nat.add_zero, Int.toNat_natCast, Nat.le_refl, Int.le_refl, List.take_length, Option.getD_some, Option.getD_none, if_true, if_false, Bool.false_eq_true, Bool.true_eq_false]
    have hd : doneT c 1 (ta b.2.2 (plc b.2.2 nm)) = ((ta b.2.2 (plc b.2.2 nm)).1, (3, ((ta b.2.2 (plc b.2.2 nm)).2.2.1, ((ta b.2.2 (plc b.2.2 nm)).2.2.2.1, ((ta b.2.2 (plc b.2.2 nm)).2.2.2.2.1, (-1, 0)))))) := by unfold doneT; rw [hv]; rfl
    rw [← hsl (doneT c 1 (ta b.2.2 (plc b.2.2 nm))) (fnd_eq hf'), hd]
  · simp -implicitDefEqProofs only [hsg, List.set_set, nz0, hlen, htk, hv, cond_true, cond_false, Option.bind_some, Option.map_some, joinX_l, joinX_r, decide_true, decide_false, eq_self, Bool.not_true, Bool.not_false, Bool.and_true, Bool.true_and, Bool.and_self, Bool.false_and, Bool.and_false, Bool.true_or, Bool.or_true, Bool.false_or, Bool.or_false, app_eq, List.length_append, List.length_cons, List.length_nil, Nat.zero_add, Nat.add_zero, Int.toNat_natCast, Nat.le_refl, Int.le_refl, List.take_length, Option.getD_some, Option.getD_none, if_true, if_false, Bool.false_eq_true, Bool.true_eq_false]
    have hd : doneT c 2 (ta b.2.2 (plc b.2.2 nm)) = ((ta b.2.2 (plc b.2.2 nm)).1, (2, ((ta b.2.2 (plc b.2.2 nm)).2.2.1, ((ta b.2.2 (plc b.2.2 nm)).2.2.2.1, ((ta b.2.2 (plc b.2.2 nm)).2.2.2.2.1, (-1, 0)))))) := by unfold doneT; rw [hv]; rfl
    rw [← hsl (doneT c 2 (ta b.2.2 (plc b.2.2 nm))) (fnd_eq hf'), hd]
end Go.Proofs.Ytoblcfkmggbheaa.VL
end
section
namespace Go.Proofs.Ytoblcfkmggbheaa.VL
open Go
set_option linter.unusedVariables false
set_option linter.unusedSectionVars false
set_option linter.unusedSimpArgs false
variable [Val]
theorem ta_set {l : List TK} {p : Nat} (hp : p < l.length) (x : TK) (i : Nat) : ta (l.set p x) i = if i = p then x else ta l i := by
  unfold ta
  rw [List.getD_eq_getElem?_getD, List.getD_eq_getElem?_getD, List.getElem?_set]
  by_cases h : p = i
  · subst h; rw [if_pos rfl, if_pos rfl, if_pos hp]; rfl
  · rw [if_neg h, if_neg (fun q => h q.symm)]
theorem cntP_congr {p q : Nat → Bool} : ∀ {n : Nat}, (∀ k, k < n → p k = q k) → cntP p n = cntP q n
  | 0, _ => rfl
  | n + 1, h => by
    simp only [cntP]
    rw [cntP_congr (fun k hk => h k (by omega)), h n (by omega)]
section
variable {l : List TK} {p : Nat} {x : TK} (hp : p < l.length) (hn : x.1 = (ta l p).1)
include hp hn
theorem name_set (i : Nat) : (ta (l.set p x) i).1 = (ta l i).1 := by
  rw [ta_set hp]
  by_cases h : i = p
  · subst h; rw [if_pos rfl, hn]
  · rw [if_neg h]
theorem plc_set (nm : ByteArray) : plc (l.set p x) nm = plc l nm := by
  unfold plc
  rw [List.length_set]
  exact cntP_congr (fun k hk => by rw [name_set hp hn])
theorem fnd_set (nm : ByteArray) : fnd (l.set p x) nm = fnd l nm := by
  unfold fnd
  rw [plc_set hp hn, List.length_set, name_set hp hn]
theorem szB_set {a c : Int} {c' c'' : Int} (hz : szB (a, (c, l))) (ht : x.2.2.2.1 = (ta l p).2.2.2.1) : szB (c', (c'', l.set p x)) := by
  obtain ⟨h1, h2⟩ := hz
  refine ⟨by simpa using h1, fun i hi => ?_⟩
  have hi' : i < l.length := by simpa using hi
  refine ⟨by rw [name_set hp hn]; exact (h2 i hi').1, ?_⟩
  show 0 ≤ (ta (l.set p x) i).2.2.2.1
  rw [ta_set hp]
  by_cases h : i = p
  · subst h; rw [if_pos rfl, ht]; exact (h2 i hi').2
  · rw [if_neg h]; exact (h2 i hi').2
theorem bookB_set {a a' g : Int} (hb : bookB (a, (g, l)) = true) (ht : x.2.2.2.1 = (ta l p).2.2.2.1) (hk : taskB x g = true) : bookB (a', (g, l.set p x)) = true := by
  have hlen := len_of hb
  unfold bookB
  rw [Bool.and_eq_true, List.all_eq_true, decide_eq_true_iff]
  refine ⟨fun i hi => ?_, by simpa using hlen⟩
  have hi' : i < l.length := by simpa using hi
  have ho := okAt_of hb hi'
  have etok : ∀ k, (ta (l.set p x) k).2.2.2.1 = (ta l k).2.2.2.1 := by
    intro k
    rw [ta_set hp]
    by_cases h : k = p
    · subst h; rw [if_pos rfl, ht]
    · rw [if_neg h]
  unfold okAt at ho ⊢
  simp only [etok, name_set hp hn]
  rw [Bool.and_eq_true] at ho ⊢
  refine ⟨?_, ho.2⟩
  rw [ta_set hp]
  by_cases h : i = p
  · rw [if_pos h]; exact hk
  · rw [if_neg h]; exact ho.1
end
theorem doneT_task {c : Int × Int} {s : Int} {t : TK} {g : Int} (h : taskB t g = true) (hs : s = 1 ∨ s = 2) : taskB (doneT c s t) g = true := by
  unfold taskB at h ⊢
  have e : ownB (doneT c s t) = true := by
    unfold ownB doneT
    rcases hs with rfl | rfl
    · show (if ((if decide (t.2.2.2.2.1 ≥ c.2) = true then (3 : Int) else 0) == 1) = true then _ else _) = true
      cases decide (t.2.2.2.2.1 ≥ c.2) <;> rfl
    · rfl
  have e2 : (decide (0 ≤ (doneT c s t).2.1) && decide ((doneT c s t).2.1 ≤ 4)) = true := by
    unfold doneT
    rcases hs with rfl | rfl
    · show (decide (0 ≤ (if decide (t.2.2.2.2.1 ≥ c.2) = true then (3 : Int) else 0)) && decide ((if decide (t.2.2.2.2.1 ≥ c.2) = true then (3 : Int) else 0) ≤ 4)) = true
      cases decide (t.2.2.2.2.1 ≥ c.2) <;> rfl
    · rfl
  rw [e, e2]
  simp only [Bool.and_eq_true] at h ⊢
  exact ⟨h.1, trivial, h.2.2.1, h.2.2.2.1, h.2.2.2.2.1, h.2.2.2.2.2.1, trivial⟩
theorem szB_cut {a g : Int} {l : List TK} (hz : szB (a, (g, l))) : ∃ l', F10 (a, (g, l)) = some (a, (g, l')) ∧ szB (a, (g, l')) ∧ l'.length ≤ 101 := by
  rw [F10_ok]
  by_cases h : ((l.length : Nat) : Int) > 101
  · refine ⟨l.take 101, by rw [if_pos (decide_eq_true h)], ⟨by have := hz.1; simp only [List.length_take] at *; omega, fun i hi => ?_⟩, by rw [List.length_take]; omega⟩
    have hi' : i < l.length ∧ i < 101 := by simp only [List.length_take] at hi; omega
    have e : ta (l.take 101) i = ta l i := by
      unfold ta
      rw [List.getD_eq_getElem?_getD, List.getD_eq_getElem?_getD, List.getElem?_take, if_pos hi'.2]
    simp only [e]
    exact hz.2 i hi'.1
  · exact ⟨l, by rw [if_neg (fun q => h (of_decide_eq_true q))], hz, by omega⟩
theorem F3_ok {c1 c2 : Int} {a g0 : Int} {l : List TK} {k : Int} {nm : ByteArray} {x g : Int} {d : Bool} (hz : szB (a, (g0, l))) (hk0 : 0 ≤ k) (hk1 : k ≤ 18446744073709551615) (h14 : F14 () = some true) :
    F3 (c1, (c2, (a, (g0, (l, (k, (nm, (x, (g, d))))))))) = some true := by
  rw [F3_eq]
  obtain ⟨l', h10, hz', hl⟩ := szB_cut hz
  clear hz
  have h11 := F11_ok (nm := nm) hz'
  have h13 := F13_ok (c := (c1, c2)) (b := (a, (g0, l'))) (k := k) (nm := nm) (g := g) (d := d) hz'
  have h12 := F12_ok (c1, c2)
  simp -implicitDefEqProofs only [h10, h11, h12, h13, h14, Option.bind_some]
  unfold gS doneR
  have nz6 : ((6 : Int) != 0) = true := rfl
  have nz8 : ((8 : Int) != 0) = true := rfl
  have nz7 : ((7 : Int) != 0) = true := rfl
  have h15 : F15 ((a, (g0, l')), (a, (g0, l'))) = some true := F15_refl _ (by show l'.length ≤ _; omega)
  cases hb : bookB (a, (g0, l'))
  · simp -implicitDefEqProofs only [nz1, cond_true, cond_false, Option.bind_some, Option.map_some, joinX_l, joinX_r, decide_true, decide_false, eq_self, Bool.not_true, Bool.not_false, Bool.and_true, Bool.true_and, Bool.and_self, Bool.false_and, Bool.and_false, Bool.true_or, Bool.or_true, Bool.false_or, Bool.or_false, app_eq, List.length_append, List.length_cons, List.length_nil, Nat.zero_add, Nat.add_zero, Int.toNat_natCast, Nat.le_refl, Int.le_refl, List.take_length, Option.getD_some, Option.getD_none, if_true, if_false, Bool.false_eq_true, Bool.true_eq_false]
  have hs : srt l' := srt_of hb
  cases hf : fnd l' nm
  · by_cases hk : k < a
    · cases capsB (c1, c2) <;> simp -implicitDefEqProofs only [nz1, nz6, nz8, hk, cond_true, cond_false, Option.bind_some, Option.map_some, joinX_l, joinX_r, decide_true, decide_false, eq_self, Bool.not_true, Bool.not_false, Bool.and_true, Bool.true_and, Bool.and_self, Bool.false_and, Bool.and_false, Bool.true_or, Bool.or_true, Bool.false_or, Bool.or_false, app_eq, List.length_append, List.length_cons, List.length_nil, Nat.zero_add, Nat.add_zero, Int.toNat_natCast, Nat.le_refl, Int.le_refl, List.take_length, Option.getD_some, Option.getD_none, if_true, if_false, Bool.false_eq_true, Bool.true_eq_false]
    · cases capsB (c1, c2) <;> simp -implicitDefEqProofs only [nz1, nz6, nz8, hk, cond_true, cond_false, Option.bind_some, Option.map_some, joinX_l, joinX_r, decide_true, decide_false, eq_self, Bool.not_true, Bool.not_false, Bool.and_true, Bool.true_and, Bool.and_self, Bool.false_and, Bool.and_false, Bool.true_or, Bool.or_true, Bool.false_or, Bool.or_false, app_eq, List.length_append, List.length_cons, List.length_nil, Nat.zero_add, Nat.add_zero, Int.toNat_natCast, Nat.le_refl, Int.le_refl, List.take_length, Option.getD_some, Option.getD_none, if_true, if_false, Bool.false_eq_true, Bool.true_eq_false]
  cases hc : capsB (c1, c2)
  · simp -implicitDefEqProofs only [nz1, nz0, cond_true, cond_false, Option.bind_some, Option.map_some, joinX_l, joinX_r, decide_true, decide_false, eq_self, Bool.not_true, Bool.not_false, Bool.and_true, Bool.true_and, Bool.and_self, Bool.false_and, Bool.and_false, Bool.true_or, Bool.or_true, Bool.false_or, Bool.or_false, app_eq, List.length_append, List.length_cons, List.length_nil, Nat.zero_add, Nat.add_zero, Int.toNat_natCast, Nat.le_refl, Int.le_refl, List.take_length, Option.getD_some, Option.getD_none, if_true, if_false, Bool.false_eq_true, Bool.true_eq_false]
  by_cases hk : k < a
  · simp -implicitDefEqProofs only [nz8, nz0, hk, cond_true, cond_false, Option.bind_some, Option.map_some, joinX_l, joinX_r, decide_true, decide_false, eq_self, Bool.not_true, Bool.not_false, Bool.and_true, Bool.true_and, Bool.and_self, Bool.false_and, Bool.and_false, Bool.true_or, Bool.or_true, Bool.false_or, Bool.or_false, app_eq, List.length_append, List.length_cons, List.length_nil, Nat.zero_add, Nat.add_zero, Int.toNat_natCast, Nat.le_refl, Int.le_refl, List.take_length, Option.getD_some, Option.getD_none, if_true, if_false, Bool.false_eq_true, Bool.true_eq_false]
  have hp := fnd_lt hf
  have hne := fnd_eq hf
  cases hg : (bne (ta l' (plc l' nm)).2.2.2.1 g)
  rotate_left
  · have hg' : (g == (ta l' (plc l' nm)).2.2.2.1) = false := by
      rw [beq_eq_false_iff_ne]
      intro e
      rw [e] at hg
      simp at hg
    simp -implicitDefEqProofs only [nz0, hk, hg', nz8, h15, show ((8 : Int) == 0) = false from rfl, show (false == false) = true from rfl, cond_true, cond_false, Option.bind_some, Option.map_some, joinX_l, joinX_r, decide_true, decide_false, eq_self, Bool.not_true, Bool.not_false, Bool.and_true, Bool.true_and, Bool.and_self, Bool.false_and, Bool.and_false, Bool.true_or, Bool.or_true, Bool.false_or, Bool.or_false, app_eq, List.length_append, List.length_cons, List.length_nil, Nat.zero_add, Nat.add_zero, Int.toNat_natCast, Nat.le_refl, Int.le_refl, List.take_length, Option.getD_some, Option.getD_none, if_true, if_false, Bool.false_eq_true, Bool.true_eq_false]
    cases ((ta l' (plc l' nm)).2.1 == 1) <;> rfl
  have hg' : (g == (ta l' (plc l' nm)).2.2.2.1) = true := by
    rw [bne_eq_false_iff_eq] at hg
    rw [hg]; exact beq_self_eq_true _
  cases ht : ((ta l' (plc l' nm)).2.1 == 1)
  · have ht' : (bne (ta l' (plc l' nm)).2.1 1) = true := by unfold bne; rw [ht]; rfl
    simp -implicitDefEqProofs only [nz0, hk, hg', nz7, h15, ht, ht', show ((7 : Int) == 0) = false from rfl, show (false == false) = true from rfl, cond_true, cond_false, Option.bind_some, Option.map_some, joinX_l, joinX_r, decide_true, decide_false, eq_self, Bool.not_true, Bool.not_false, Bool.and_true, Bool.true_and, Bool.and_self, Bool.false_and, Bool.and_false, Bool.true_or, Bool.or_true, Bool.false_or, Bool.or_false, app_eq, List.length_append, List.length_cons, List.length_nil, Nat.zero_add, Nat.add_zero, Int.toNat_natCast, Nat.le_refl, Int.le_refl, List.take_length, Option.getD_some, Option.getD_none, if_true, if_false, Bool.false_eq_true, Bool.true_eq_false]
  have ht' : (bne (ta l' (plc l' nm)).2.1 1) = false := by unfold bne; rw [ht]; rfl
  have hsv : (if d = true then (2 : Int) else 1) = 1 ∨ (if d = true then (2 : Int) else 1) = 2 := by cases d <;> simp
  have hst : (bne (doneT (c1, c2) (if d = true then 2 else 1) (ta l' (plc l' nm))).2.1 1) = true ∧ ((doneT (c1, c2) (if d = true then 2 else 1) (ta l' (plc l' nm))).2.1 == 1) = false ∧ (d == ((doneT (c1, c2) (if d = true then 2 else 1) (ta l' (plc l' nm))).2.1 == 2)) = true := by
    unfold doneT
    cases d
    · show (bne (if decide ((ta l' (plc l' nm)).2.2.2.2.1 ≥ c2) = true then (3 : Int) else 0) 1) = true ∧ ((if decide ((ta l' (plc l' nm)).2.2.2.2.1 ≥ c2) = true then (3 : Int) else 0) == 1) = false ∧ (false == ((if decide ((ta l' (plc l' nm)).2.2.2.2.1 ≥ c2) = true then (3 : Int) else 0) == 2)) = true
      cases decide ((ta l' (plc l' nm)).2.2.2.2.1 ≥ c2) <;> exact ⟨rfl, rfl, rfl⟩
    · exact ⟨rfl, rfl, rfl⟩
  have hw1 : (doneT (c1, c2) (if d = true then 2 else 1) (ta l' (plc l' nm))).2.2.2.2.2.1 = -1 := rfl
  have hw2 : (doneT (c1, c2) (if d = true then 2 else 1) (ta l' (plc l' nm))).2.2.2.2.2.2 = 0 := rfl
  have hTn : (doneT (c1, c2) (if d = true then 2 else 1) (ta l' (plc l' nm))).1 = (ta l' (plc l' nm)).1 := rfl
  have hTt : (doneT (c1, c2) (if d = true then 2 else 1) (ta l' (plc l' nm))).2.2.2.1 = (ta l' (plc l' nm)).2.2.2.1 := rfl
  have hTk := doneT_task (c := (c1, c2)) (task_of hb hp) hsv
  have hTk : taskB (doneT (c1, c2) (if d = true then 2 else 1) (ta l' (plc l' nm))) g0 = true := hTk
  generalize doneT (c1, c2) (if d = true then 2 else 1) (ta l' (plc l' nm)) = T at hst hw1 hw2 hTn hTt hTk ⊢
  have hsl := set_setL (t := T) hf (hTn.trans hne)
  have hz2 : szB (k, (g0, l'.set (plc l' nm) T)) := szB_set hp hTn hz' hTt
  have hb2 : bookB (k, (g0, l'.set (plc l' nm) T)) = true := bookB_set hp hTn hb hTt hTk
  have hf2 : fnd (l'.set (plc l' nm) T) nm = true := (fnd_set hp hTn nm).trans hf
  have hp2 : plc (l'.set (plc l' nm) T) nm = plc l' nm := plc_set hp hTn nm
  have hta : ta (l'.set (plc l' nm) T) (plc l' nm) = T := by rw [ta_set hp, if_pos rfl]
  have hgT : (bne T.2.2.2.1 g) = false := by rw [hTt]; exact hg
  have h11b : F11 ((k, (g0, l'.set (plc l' nm) T)), nm) = some (T, 0) := by
    rw [F11_ok hz2, if_pos hb2]
    show some (if fnd (l'.set (plc l' nm) T) nm = true then (ta (l'.set (plc l' nm) T) (plc (l'.set (plc l' nm) T) nm), 0) else _) = _
    rw [if_pos hf2, hp2, hta]
  have h13b : F13 ((c1, c2), ((k, (g0, l'.set (plc l' nm) T)), (k, (nm, (g, d))))) = some ((k, (g0, l'.set (plc l' nm) T)), 7) := by
    rw [F13_ok hz2]
    unfold gS doneR
    simp -implicitDefEqProofs only [hc, hb2, hf2, hp2, hta, hgT, hst.1, show ¬ (k < k) from by omega, cond_true, cond_false, Option.bind_some, Option.map_some, joinX_l, joinX_r, decide_true, decide_false, eq_self, Bool.not_true, Bool.not_false, Bool.and_true, Bool.true_and, Bool.and_self, Bool.false_and, Bool.and_false, Bool.true_or, Bool.or_true, Bool.false_or, Bool.or_false, app_eq, List.length_append, List.length_cons, List.length_nil, Nat.zero_add, Nat.add_zero, Int.toNat_natCast, Nat.le_refl, Int.le_refl, List.take_length, Option.getD_some, Option.getD_none, if_true, if_false, Bool.false_eq_true, Bool.true_eq_false]
  have hcl : ¬ k = 0 → F16 ((c1, c2), ((k, (g0, l'.set (plc l' nm) T)), (IntKind.wrap .u64 (k - 1), nm))) = some ((k, (g0, l'.set (plc l' nm) T)), 8) := by
    intro hk9
    rw [F16_ok hz2, wu (by omega) (by omega)]
    unfold gS
    simp -implicitDefEqProofs only [hc, hb2, show k - 1 < k from by omega, cond_true, cond_false, Option.bind_some, Option.map_some, joinX_l, joinX_r, decide_true, decide_false, eq_self, Bool.not_true, Bool.not_false, Bool.and_true, Bool.true_and, Bool.and_self, Bool.false_and, Bool.and_false, Bool.true_or, Bool.or_true, Bool.false_or, Bool.or_false, app_eq, List.length_append, List.length_cons, List.length_nil, Nat.zero_add, Nat.add_zero, Int.toNat_natCast, Nat.le_refl, Int.le_refl, List.take_length, Option.getD_some, Option.getD_none, if_true, if_false, Bool.false_eq_true, Bool.true_eq_false]
  have nw1 : (bne T.2.2.2.2.2.1 (-1)) = false := by rw [hw1]; rfl
  have nw2 : (bne T.2.2.2.2.2.2 0) = false := by rw [hw2]; rfl
  simp -implicitDefEqProofs only [nz0, hk, hg', nz7, h15, ht, ht', ← hsl, h11b, h13b, hst.2.1, hst.2.2, nw1, nw2, show (bne (7 : Int) 7) = false from rfl, show ((0 : Int) == 0) = true from rfl, show (true == true) = true from rfl, cond_true, cond_false, Option.bind_some, Option.map_some, joinX_l, joinX_r, decide_true, decide_false, eq_self, Bool.not_true, Bool.not_false, Bool.and_true, Bool.true_and, Bool.and_self, Bool.false_and, Bool.and_false, Bool.true_or, Bool.or_true, Bool.false_or, Bool.or_false, app_eq, List.length_append, List.length_cons, List.length_nil, Nat.zero_add, Nat.add_zero, Int.toNat_natCast, Nat.le_refl, Int.le_refl, List.take_length, Option.getD_some, Option.getD_none, if_true, if_false, Bool.false_eq_true, Bool.true_eq_false]
  by_cases hk9 : k = 0
  · simp -implicitDefEqProofs only [hk9, show ((0 : Int) == 0) = true from rfl, cond_true, cond_false, Option.bind_some, Option.map_some, joinX_l, joinX_r, decide_true, decide_false, eq_self, Bool.not_true, Bool.not_false, Bool.and_true, Bool.true_and, Bool.and_self, Bool.false_and, Bool.and_false, Bool.true_or, Bool.or_true, Bool.false_or, Bool.or_false, app_eq, List.length_append, List.length_cons, List.length_nil, Nat.zero_add, Nat.add_zero, Int.toNat_natCast, Nat.le_refl, Int.le_refl, List.take_length, Option.getD_some, Option.getD_none, if_true, if_false, Bool.false_eq_true, Bool.true_eq_false]
  · have : (k == 0) = false := by rw [beq_eq_false_iff_ne]; exact hk9
    simp -implicitDefEqProofs only [this, hcl hk9, show ((8 : Int) == 8) = true from rfl, cond_true, cond_false, Option.bind_some, Option.map_some, joinX_l, joinX_r, decide_true, decide_false, eq_self, Bool.not_true, Bool.not_false, Bool.and_true, Bool.true_and, Bool.and_self, Bool.false_and, Bool.and_false, Bool.true_or, Bool.or_true, Bool.false_or, Bool.or_false, app_eq, List.length_append, List.length_cons, List.length_nil, Nat.zero_add, Nat.add_zero, Int.toNat_natCast, Nat.le_refl, Int.le_refl, List.take_length, Option.getD_some, Option.getD_none, if_true, if_false, Bool.false_eq_true, Bool.true_eq_false]
end Go.Proofs.Ytoblcfkmggbheaa.VL
end
