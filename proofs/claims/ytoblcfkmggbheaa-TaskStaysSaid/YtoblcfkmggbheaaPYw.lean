import Derived.Test.YtoblcfkmggbheaaPTa
import Derived.Test.YtoblcfkmggbheaaPYa
import Derived.Test.YtoblcfkmggbheaaPWc
import Derived.Test.YtoblcfkmggbheaaPXr
import Derived.Laws.RangeString
import Derived.Laws.RangeAny
section
namespace Go.Proofs.Ytoblcfkmggbheaa.VL
open Go
set_option maxRecDepth 100000
set_option linter.unusedSectionVars false
variable [Val]
def zTask : PV := .agg [vs ⟨#[]⟩, vi 0, vi 0, vu 0, vi 0, vi 0, vu 0]
def clones : List (Nat × Nat × Nat × PV) := [(65, 7, 64, zTask)]
theorem clones_ok : CalleeOk Try.prog (cloneOv clones) := cloneOv_ok hm (l := clones) ⟨fi65, trivial⟩
abbrev fz : List Nat := [10, 11, 13, 16, 17, 18, 19, 20, 21, 22, 23, 24, 25, 27, 33, 35, 52]
noncomputable abbrev run0 := runR (cloneOv clones) fz tab 1000 50
theorem awake_run : run0 14 [] = .ok (vb true) := by kernel_rfl
theorem awake_ok : VPure Try.prog 14 [] (vb true) := vpure_runR hm clones_ok fz tab_ok 1000 50 awake_run
def F14 : Unit → Option Bool := fun _ => some true
def pe14 : PE := ⟨14, .no, .v .b, F14⟩
theorem pe14_ok : pe14.ok Try.prog := ⟨rfl, rfl, rfl, rfl, rfl, fun v y h => by cases h; exact awake_ok⟩
end Go.Proofs.Ytoblcfkmggbheaa.VL
end
section
namespace Go.Proofs.Ytoblcfkmggbheaa.VL
open Go
set_option maxRecDepth 100000
set_option linter.unusedVariables false
set_option linter.unusedSectionVars false
variable [Val]
noncomputable section
abbrev tz1 : TT := (.p .s (.p (.i .i64) (.p (.i .i64) (.p (.i .u64) (.p (.i .i64) (.p (.i .i64) (.i .u64)))))))
abbrev tz2 : TT := (.p (.i .u64) (.p (.i .u64) (.sl tz1)))
abbrev xi (n : Nat) (o : IOp) : XO := ⟨⟨some n, o, none⟩, .b, [], []⟩
abbrev xg (n : Nat) (o : IOp) (m : Nat) (b : Bool) : XO := ⟨⟨some n, o, some (m, b)⟩, .b, [], []⟩
abbrev xz (o : IOp) : XO := ⟨⟨none, o, none⟩, .b, [], []⟩
def xf46 : FX := ⟨(.seq (.reg [(xi 2 (.mov (.c (.v (.bool false)))))]) (.seq (.cut ⟨[2, 4, 5, 6, 7, 8, 9, 10, 11, 12, 13, 14, 15, 16, 17, 18, 19, 20, 21, 22, 23, 24, 25, 26, 27, 28], [0], ⟨[], [], []⟩⟩ (.seq (.reg [(xi 5 (.mov (.t 0))), (xi 6 (.rngS 0 (.t 5)))]) (.blk 0 (.loop ⟨[2, 4, 7, 8, 9, 10, 11, 12, 13, 14, 15, 16, 17, 18, 19, 20, 21, 22, 23, 24, 25, 26, 27, 28], [0], ⟨[], [], [⟨0, .iter, true⟩]⟩⟩ (.seq (.reg [(xi 7 (.nxtS (.t 6))), (xi 8 (.ext (.t 7) 0))]) (.seq (.cond (.t 8) .skip (.exit 0)) (.blk 1 (.seq (.reg [(xi 9 (.ext (.t 7) 2)), (xi 4 (.mov (.t 9)))]) (.seq (.cutN ⟨[10, 11, 12, 13, 14, 15, 16, 17, 18, 19, 20, 21, 22, 23, 24, 25, 26, 27, 28], [], ⟨[], [(28, .v .b)], []⟩⟩ (.reg [(xi 10 (.mov (.t 4))), (xi 11 (.bin .geq (.t 10) (.c (.v (.int .i32 97))))), (xi 12 (.mov (.t 11))), (xg 13 (.mov (.t 4)) 12 true), (xg 14 (.bin .leq (.t 13) (.c (.v (.int .i32 122)))) 12 true), (xi 15 (.pick (.t 12) (.t 14) (.c (.v (.bool false))))), (xi 16 (.mov (.t 15))), (xg 17 (.mov (.t 4)) 16 false), (xg 18 (.bin .geq (.t 17) (.c (.v (.int .i32 48)))) 16 false), (xg 19 (.mov (.t 18)) 16 false), (xg 20 (.mov (.t 4)) 19 true), (xg 21 (.bin .leq (.t 20) (.c (.v (.int .i32 57)))) 19 true), (xg 22 (.pick (.t 19) (.t 21) (.c (.v (.bool false)))) 16 false), (xi 23 (.pick (.t 16) (.c (.v (.bool true))) (.t 22))), (xi 24 (.mov (.t 23))), (xg 25 (.mov (.t 4)) 24 false), (xg 26 (.bin .eql (.t 25) (.c (.v (.int .i32 45)))) 24 false), (xi 27 (.pick (.t 24) (.c (.v (.bool true))) (.t 26))), (xi 28 (.un .not (.t 27)))])) (.cond (.t 28) (.seq (.reg [(xi 2 (.mov (.c (.v (.bool false)))))]) .ret) .skip)))))))))) (.seq (.reg [(xi 29 (.mov (.t 0))), ⟨⟨(some 30), (.bin .neq (.t 29) (.c (.v (.string ⟨#[]⟩)))), none⟩, .b, [], []⟩, (xi 31 (.mov (.t 30))), (xg 32 (.mov (.t 0)) 31 true), (xg 33 (.lenS (.t 32)) 31 true), (xg 34 (.bin .leq (.t 33) (.c (.v (.int .i64 20)))) 31 true), (xi 35 (.pick (.t 31) (.t 34) (.c (.v (.bool false))))), (xi 2 (.mov (.t 35)))]) .ret))), [6], 36, [.t 2], 2⟩
theorem xf46_ok : xf46.ok Try.prog 46 := ⟨_, _, Try.func46, rfl, by kernel_rfl, rfl, by kernel_rfl, rfl, by kernel_rfl, by kernel_rfl⟩
def tb46 : List PE := []
theorem tb46_ok : PEsOk Try.prog tb46 := trivial
def ex46 : List EX := []
theorem ex46_ok : EXsOk Try.prog ex46 := trivial
def in46 : List IN := []
theorem in46_ok : INsOk Try.prog in46 := trivial
def F46 : DT ((.co (.v .s) .no) : Fm).den → Option (DT (.v .b : Fm).den) := pureT tb46 ex46 in46 0 xf46 _ _ []
def pe46 : PE := ⟨46, (.co (.v .s) .no), .v .b, F46⟩
theorem pe46_ok : pe46.ok Try.prog := pe_of hm tb46_ok ex46_ok in46_ok xf46_ok (by kernel_rfl) (fun _ => rfl)
def xf47 : FX := ⟨(.seq (.reg [(xi 6 (.mov (.c (.v (.bool false)))))]) (.seq (.reg [(xi 7 (.mov (.t 0))), (xi 8 (.mov (.t 1))), (xi 9 (.bin .geq (.t 7) (.t 8))), (xi 10 (.mov (.t 9))), (xg 11 (.mov (.t 0)) 10 true), (xg 12 (.mov (.t 2)) 10 true), (xg 13 (.bin .leq (.t 11) (.t 12)) 10 true), (xi 14 (.pick (.t 10) (.t 13) (.c (.v (.bool false))))), (xi 6 (.mov (.t 14)))]) .ret)), [], 15, [.t 6], 1⟩
theorem xf47_ok : xf47.ok Try.prog 47 := ⟨_, _, Try.func47, rfl, by kernel_rfl, rfl, by kernel_rfl, rfl, by kernel_rfl, by kernel_rfl⟩
def tb47 : List PE := []
theorem tb47_ok : PEsOk Try.prog tb47 := trivial
def ex47 : List EX := []
theorem ex47_ok : EXsOk Try.prog ex47 := trivial
def in47 : List IN := []
theorem in47_ok : INsOk Try.prog in47 := trivial
def F47 : DT ((.co (.v (.i .i64)) (.co (.v (.i .i64)) (.co (.v (.i .i64)) .no))) : Fm).den → Option (DT (.v .b : Fm).den) := pureT tb47 ex47 in47 0 xf47 _ _ []
def pe47 : PE := ⟨47, (.co (.v (.i .i64)) (.co (.v (.i .i64)) (.co (.v (.i .i64)) .no))), .v .b, F47⟩
theorem pe47_ok : pe47.ok Try.prog := pe_of hm tb47_ok ex47_ok in47_ok xf47_ok (by kernel_rfl) (fun _ => rfl)
def xf54 : FX := ⟨(.seq (.reg [(xi 2 (.mov (.c (.v (.bool false)))))]) (.seq (.reg [(xi 3 (.mov (.t 0))), (xi 4 (.call 0 47 [(.t 3), (.c (.v (.int .i64 0))), (.c (.v (.int .i64 63)))])), (xi 2 (.mov (.t 4)))]) .ret)), [4], 5, [.t 2], 2⟩
theorem xf54_ok : xf54.ok Try.prog 54 := ⟨_, _, Try.func54, rfl, by kernel_rfl, rfl, by kernel_rfl, rfl, by kernel_rfl, by kernel_rfl⟩
def tb54 : List PE := [pe47]
theorem tb54_ok : PEsOk Try.prog tb54 := ⟨pe47_ok, trivial⟩
def ex54 : List EX := []
theorem ex54_ok : EXsOk Try.prog ex54 := trivial
def in54 : List IN := []
theorem in54_ok : INsOk Try.prog in54 := trivial
def F54 : DT ((.co (.v (.i .i64)) .no) : Fm).den → Option (DT (.v .b : Fm).den) := pureT tb54 ex54 in54 0 xf54 _ _ []
def pe54 : PE := ⟨54, (.co (.v (.i .i64)) .no), .v .b, F54⟩
theorem pe54_ok : pe54.ok Try.prog := pe_of hm tb54_ok ex54_ok in54_ok xf54_ok (by kernel_rfl) (fun _ => rfl)
def xf57 : FX := ⟨(.seq (.reg [(xi 2 (.box 0 7 (.t 0))), (xi 4 (.mov (.c (.v (.bool false)))))]) (.seq (.cutN ⟨[5, 6, 7, 8, 9, 10, 11, 12, 13], [], ⟨[], [(5, .v .b)], []⟩⟩ (.reg [(xi 6 (.fad 5 (.t 2))), (xi 7 (.load false 1 (.t 6))), (xi 8 (.bin .eql (.t 7) (.c (.v (.int .i64 (-1)))))), (xi 9 (.mov (.t 8))), (xg 10 (.fad 6 (.t 2)) 9 true), (xg 11 (.load false 1 (.t 10)) 9 true), (xg 12 (.bin .eql (.t 11) (.c (.v (.int .u64 0)))) 9 true), (xi 13 (.pick (.t 9) (.t 12) (.c (.v (.bool false))))), (xi 5 (.mov (.t 13)))])) (.seq (.cutN ⟨[5, 14, 15, 16, 17, 18, 19, 20, 21, 22, 23, 24], [], ⟨[], [(5, .v .b)], []⟩⟩ (.seq (.reg [(xi 14 (.fad 1 (.t 2))), (xi 15 (.load false 1 (.t 14))), (xi 16 (.bin .eql (.t 15) (.c (.v (.int .i64 1)))))]) (.cond (.t 16) (.reg [(xi 17 (.fad 5 (.t 2))), (xi 18 (.load false 1 (.t 17))), (xi 19 (.call 1 54 [(.t 18)])), (xi 20 (.mov (.t 19))), (xg 21 (.fad 3 (.t 2)) 20 true), (xg 22 (.load false 1 (.t 21)) 20 true), (xg 23 (.bin .gtr (.t 22) (.c (.v (.int .u64 0)))) 20 true), (xi 24 (.pick (.t 20) (.t 23) (.c (.v (.bool false))))), (xi 5 (.mov (.t 24)))]) .skip))) (.seq (.reg [(xi 25 (.fad 0 (.t 2))), (xi 26 (.load false 1 (.t 25))), (xi 27 (.call 2 46 [(.t 26)])), (xi 28 (.un .not (.t 27))), (xi 29 (.mov (.t 28))), (xg 30 (.fad 1 (.t 2)) 29 false), (xg 31 (.load false 1 (.t 30)) 29 false), (xg 32 (.call 3 47 [(.t 31), (.c (.v (.int .i64 0))), (.c (.v (.int .i64 4)))]) 29 false), (xg 33 (.un .not (.t 32)) 29 false), (xi 34 (.pick (.t 29) (.c (.v (.bool true))) (.t 33))), (xi 35 (.mov (.t 34))), (xg 36 (.fad 2 (.t 2)) 35 false), (xg 37 (.load false 1 (.t 36)) 35 false), (xg 38 (.call 4 47 [(.t 37), (.c (.v (.int .i64 0))), (.c (.v (.int .i64 9)))]) 35 false), (xg 39 (.un .not (.t 38)) 35 false), (xi 40 (.pick (.t 35) (.c (.v (.bool true))) (.t 39))), (xi 41 (.mov (.t 40))), (xg 42 (.fad 3 (.t 2)) 41 false), (xg 43 (.load false 1 (.t 42)) 41 false), (xg 44 (.mov (.t 1)) 41 false), (xg 45 (.bin .gtr (.t 43) (.t 44)) 41 false), (xi 46 (.pick (.t 41) (.c (.v (.bool true))) (.t 45))), (xi 47 (.mov (.t 46))), (xg 48 (.fad 3 (.t 2)) 47 false), (xg 49 (.load false 1 (.t 48)) 47 false), (xg 50 (.bin .eql (.t 49) (.c (.v (.int .u64 0)))) 47 false), (xg 51 (.fad 4 (.t 2)) 47 false), (xg 52 (.load false 1 (.t 51)) 47 false), (xg 53 (.bin .eql (.t 52) (.c (.v (.int .i64 0)))) 47 false), (xg 54 (.binB true (.t 50) (.t 53)) 47 false), (xi 55 (.pick (.t 47) (.c (.v (.bool true))) (.t 54))), (xi 56 (.mov (.t 55))), (xg 57 (.fad 4 (.t 2)) 56 false), (xg 58 (.load false 1 (.t 57)) 56 false), (xg 59 (.call 5 47 [(.t 58), (.c (.v (.int .i64 0))), (.c (.v (.int .i64 100)))]) 56 false), (xg 60 (.un .not (.t 59)) 56 false), (xi 61 (.pick (.t 56) (.c (.v (.bool true))) (.t 60))), (xi 62 (.mov (.t 61))), (xg 63 (.mov (.t 5)) 62 false), (xg 64 (.un .not (.t 63)) 62 false), (xi 65 (.pick (.t 62) (.c (.v (.bool true))) (.t 64))), (xi 4 (.mov (.t 65)))]) .ret)))), [2, 19, 27, 32, 38, 59], 66, [.t 4], 7⟩
theorem xf57_ok : xf57.ok Try.prog 57 := ⟨_, _, Try.func57, rfl, by kernel_rfl, rfl, by kernel_rfl, rfl, by kernel_rfl, by kernel_rfl⟩
def tb57 : List PE := [pe46, pe47, pe54]
theorem tb57_ok : PEsOk Try.prog tb57 := ⟨pe46_ok, pe47_ok, pe54_ok, trivial⟩
def ex57 : List EX := []
theorem ex57_ok : EXsOk Try.prog ex57 := trivial
def in57 : List IN := []
theorem in57_ok : INsOk Try.prog in57 := trivial
def F57 : DT ((.co (.v tz1) (.co (.v (.i .u64)) .no)) : Fm).den → Option (DT (.v .b : Fm).den) := pureT tb57 ex57 in57 0 xf57 _ _ []
def pe57 : PE := ⟨57, (.co (.v tz1) (.co (.v (.i .u64)) .no)), .v .b, F57⟩
theorem pe57_ok : pe57.ok Try.prog := pe_of hm tb57_ok ex57_ok in57_ok xf57_ok (by kernel_rfl) (fun _ => rfl)
def xf26 : FX := ⟨(.seq (.reg [(xi 1 (.box 0 3 (.t 0))), (xi 2 (.mov (.c (.v (.int .i64 0)))))]) (.seq (.reg [⟨⟨(some 6), (.mkm 1), none⟩, (.p (.i .u64) .b), [], []⟩, (xi 3 (.mov (.t 6)))]) (.seq (.cut ⟨[2, 4, 5, 7, 8, 9, 10, 11, 12, 13, 14, 15, 16, 17, 18, 19, 20, 21, 22, 23, 24, 25, 26, 27, 28, 29, 30, 31, 32, 33, 34, 35, 36, 37, 38, 39, 40, 41, 42, 43, 44, 45, 46, 47], [1, 2], ⟨[], [], [⟨1, .map (.i .u64) .b, true⟩]⟩⟩ (.seq (.reg [(xi 7 (.fad 2 (.t 1))), (xi 8 (.load false 1 (.t 7))), (xi 9 (.len (.t 8))), (xi 10 (.mov (.c (.v (.int .i64 0)))))]) (.blk 0 (.loop ⟨[2, 4, 5, 10, 11, 12, 13, 14, 15, 16, 17, 18, 19, 20, 21, 22, 23, 24, 25, 26, 27, 28, 29, 30, 31, 32, 33, 34, 35, 36, 37, 38, 39, 40, 41, 42, 43, 44, 45, 46, 47], [1, 2], ⟨[], [(10, .v (.i .i64))], [⟨1, .map (.i .u64) .b, true⟩]⟩⟩ (.seq (.reg [(xi 11 (.bin .lss (.t 10) (.t 9)))]) (.seq (.cond (.t 11) .skip (.exit 0)) (.seq (.cut ⟨[2, 4, 5, 12, 13, 14, 15, 16, 17, 18, 19, 20, 21, 22, 23, 24, 25, 26, 27, 28, 29, 30, 31, 32, 33, 34, 35, 36, 37, 38, 39, 40, 41, 42, 43, 44, 45, 46], [1, 2], ⟨[], [], [⟨1, .map (.i .u64) .b, true⟩]⟩⟩ (.blk 1 (.seq (.reg [(xi 12 (.mov (.t 10))), (xi 13 (.iad 7 (.t 8) (.t 10))), (xi 14 (.load true 7 (.t 13))), ⟨⟨(some 5), (.alloc 2 (.agg [(.v (.string ⟨#[]⟩)), (.v (.int .i64 0)), (.v (.int .i64 0)), (.v (.int .u64 0)), (.v (.int .i64 0)), (.v (.int .i64 0)), (.v (.int .u64 0))])), none⟩, .b, [], []⟩, (xi 4 (.mov (.t 12))), (xz (.store 7 (.t 5) (.t 14)))]) (.seq (.cut ⟨[2, 15, 16, 17, 18, 19, 20, 21, 22, 23, 24, 25, 26, 27, 28, 29, 30, 31, 32, 33, 34, 35, 36, 37, 38, 39, 40], [], ⟨[], [], []⟩⟩ (.seq (.cutN ⟨[15, 16, 17, 18, 19, 20, 21, 22, 23, 24, 25, 26, 27, 28, 29, 30, 31, 32, 33, 34, 35, 36, 37, 38, 39, 40], [], ⟨[], [(40, .v .b)], []⟩⟩ (.dr [] [(xi 15 (.load true 7 (.t 5))), (xi 16 (.fad 1 (.t 1))), (xi 17 (.load false 1 (.t 16))), (xi 18 (.callG 3 57 [(.t 15), (.t 17)])), (xi 19 (.mov (.t 18))), (xg 20 (.mov (.t 4)) 19 false), (xg 21 (.bin .gtr (.t 20) (.c (.v (.int .i64 0)))) 19 false), (xg 22 (.mov (.t 21)) 19 false), (xg 23 (.fad 2 (.t 1)) 22 true), (xg 24 (.load false 1 (.t 23)) 22 true), (xg 25 (.mov (.t 4)) 22 true), (xg 26 (.bin .sub (.t 25) (.c (.v (.int .i64 1)))) 22 true), (xg 27 (.iad 7 (.t 24) (.t 26)) 22 true), (xg 28 (.fad 0 (.t 27)) 22 true), (xg 29 (.load false 1 (.t 28)) 22 true), (xg 30 (.fad 0 (.t 5)) 22 true), (xg 31 (.load false 1 (.t 30)) 22 true), (xg 32 (.bin .geq (.t 29) (.t 31)) 22 true), (xg 33 (.pick (.t 22) (.t 32) (.c (.v (.bool false)))) 19 false), (xi 34 (.pick (.t 19) (.c (.v (.bool true))) (.t 33))), (xi 35 (.mov (.t 34))), (xg 36 (.mov (.t 3)) 35 false), (xg 37 (.fad 3 (.t 5)) 35 false), (xg 38 (.load false 1 (.t 37)) 35 false), (xg 39 (.lkp false .i (.v (.bool false)) (.t 36) (.t 38)) 35 false), (xi 40 (.pick (.t 35) (.c (.v (.bool true))) (.t 39)))])) (.cond (.t 40) (.seq (.reg [(xi 2 (.mov (.c (.v (.int .i64 1)))))]) .ret) .skip))) (.reg [(xi 41 (.mov (.t 3))), (xi 42 (.fad 3 (.t 5))), (xi 43 (.load false 1 (.t 42))), (xi 44 (.fad 3 (.t 5))), (xi 45 (.load false 1 (.t 44))), (xi 46 (.bin .gtr (.t 45) (.c (.v (.int .u64 0))))), (xz (.mup .i (.t 41) (.t 43) (.t 46)))]))))) (.reg [(xi 47 (.bin .add (.t 10) (.c (.v (.int .i64 1))))), (xi 10 (.mov (.t 47)))])))))))) (.seq (.seq (.reg [(xi 48 (.fad 2 (.t 1))), (xi 49 (.load false 1 (.t 48))), (xi 50 (.len (.t 49))), (xi 51 (.bin .gtr (.t 50) (.c (.v (.int .i64 100)))))]) (.cond (.t 51) (.seq (.reg [(xi 2 (.mov (.c (.v (.int .i64 1)))))]) .ret) .skip)) (.seq (.reg [(xi 2 (.mov (.c (.v (.int .i64 0)))))]) .ret))))), [1, 6, 5, 18], 52, [.t 2], 5⟩
theorem xf26_ok : xf26.ok Try.prog 26 := ⟨_, _, Try.func26, rfl, by kernel_rfl, rfl, by kernel_rfl, rfl, by kernel_rfl, by kernel_rfl⟩
def tb26 : List PE := [pe57]
theorem tb26_ok : PEsOk Try.prog tb26 := ⟨pe57_ok, trivial⟩
def ex26 : List EX := []
theorem ex26_ok : EXsOk Try.prog ex26 := trivial
def in26 : List IN := []
theorem in26_ok : INsOk Try.prog in26 := trivial
def F26 : DT ((.co (.v tz2) .no) : Fm).den → Option (DT (.v (.i .i64) : Fm).den) := pureT tb26 ex26 in26 0 xf26 _ _ []
def pe26 : PE := ⟨26, (.co (.v tz2) .no), .v (.i .i64), F26⟩
theorem pe26_ok : pe26.ok Try.prog := pe_of hm tb26_ok ex26_ok in26_ok xf26_ok (by kernel_rfl) (fun _ => rfl)
def xf62 : FX := ⟨(.seq (.reg [(xi 4 (.mov (.c (.v (.int .i64 0)))))]) (.seq (.reg [(xi 7 (.mov (.t 0))), (xi 8 (.call 0 68 [(.t 7)])), (xi 5 (.mov (.t 8)))]) (.seq (.reg [(xi 9 (.mov (.t 1))), (xi 10 (.call 1 68 [(.t 9)])), (xi 6 (.mov (.t 10)))]) (.seq (.seq (.reg [(xi 11 (.mov (.t 5)))]) (.cond (.t 11) (.seq (.seq (.reg [(xi 12 (.mov (.t 6)))]) (.cond (.t 12) (.seq (.reg [(xi 4 (.mov (.c (.v (.int .i64 0)))))]) .ret) .skip)) (.seq (.reg [(xi 4 (.mov (.c (.v (.int .i64 (-1))))))]) .ret)) .skip)) (.seq (.seq (.reg [(xi 13 (.mov (.t 6)))]) (.cond (.t 13) (.seq (.reg [(xi 4 (.mov (.c (.v (.int .i64 1)))))]) .ret) .skip)) (.seq (.seq (.reg [(xi 14 (.mov (.t 0))), (xi 15 (.mov (.t 1))), (xi 16 (.bin .lss (.t 14) (.t 15)))]) (.cond (.t 16) (.seq (.reg [(xi 4 (.mov (.c (.v (.int .i64 (-1))))))]) .ret) .skip)) (.seq (.seq (.reg [(xi 17 (.mov (.t 0))), (xi 18 (.mov (.t 1))), (xi 19 (.bin .gtr (.t 17) (.t 18)))]) (.cond (.t 19) (.seq (.reg [(xi 4 (.mov (.c (.v (.int .i64 1)))))]) .ret) .skip)) (.seq (.reg [(xi 4 (.mov (.c (.v (.int .i64 0)))))]) .ret)))))))), [8, 10], 20, [.t 4], 5⟩
theorem xf62_ok : xf62.ok Try.prog 62 := ⟨_, _, Try.func62, rfl, by kernel_rfl, rfl, by kernel_rfl, rfl, by kernel_rfl, by kernel_rfl⟩
def ff68 : FX := ⟨(.seq (.reg [(xi 2 (.mov (.c (.v (.bool false)))))]) (.seq (.reg [(xi 3 (.mov (.t 0))), (xi 4 (.mov (.t 0))), (xi 5 (.bin .neq (.t 3) (.t 4))), (xi 2 (.mov (.t 5)))]) .ret)), [], 6, [.t 2], 1⟩
theorem ff68_ok : ff68.ok Try.prog 68 := ⟨_, _, Try.func68, rfl, by kernel_rfl, rfl, by kernel_rfl, rfl, by kernel_rfl, by kernel_rfl⟩
def tb62 : List PE := []
theorem tb62_ok : PEsOk Try.prog tb62 := trivial
def ex62 : List EX := []
theorem ex62_ok : EXsOk Try.prog ex62 := trivial
def in62 : List IN := [⟨0, 68, 3, ff68, none⟩, ⟨1, 68, 4, ff68, none⟩]
theorem in62_ok : INsOk Try.prog in62 := ⟨ff68_ok, ff68_ok, trivial⟩
def F62 : DT ((.co (.v .s) (.co (.v .s) .no)) : Fm).den → Option (DT (.v (.i .i64) : Fm).den) := pureT tb62 ex62 in62 9 xf62 _ _ []
def pe62 : PE := ⟨62, (.co (.v .s) (.co (.v .s) .no)), .v (.i .i64), F62⟩
theorem pe62_ok : pe62.ok Try.prog := pe_of hm tb62_ok ex62_ok in62_ok xf62_ok (by kernel_rfl) (fun _ => rfl)
def xf61 : FX := ⟨(.seq (.reg [(xi 2 (.box 0 7 (.t 0))), (xi 4 (.mov (.c (.v (.int .i64 0)))))]) (.seq (.reg [(xi 5 (.fad 0 (.t 2))), (xi 6 (.load false 1 (.t 5))), (xi 7 (.mov (.t 1))), (xi 8 (.call 1 62 [(.t 6), (.t 7)])), (xi 4 (.mov (.t 8)))]) .ret)), [2, 8], 9, [.t 4], 3⟩
theorem xf61_ok : xf61.ok Try.prog 61 := ⟨_, _, Try.func61, rfl, by kernel_rfl, rfl, by kernel_rfl, rfl, by kernel_rfl, by kernel_rfl⟩
def tb61 : List PE := [pe62]
theorem tb61_ok : PEsOk Try.prog tb61 := ⟨pe62_ok, trivial⟩
def ex61 : List EX := []
theorem ex61_ok : EXsOk Try.prog ex61 := trivial
def in61 : List IN := []
theorem in61_ok : INsOk Try.prog in61 := trivial
def F61 : DT ((.co (.v tz1) (.co (.v .s) .no)) : Fm).den → Option (DT (.v (.i .i64) : Fm).den) := pureT tb61 ex61 in61 0 xf61 _ _ []
def pe61 : PE := ⟨61, (.co (.v tz1) (.co (.v .s) .no)), .v (.i .i64), F61⟩
theorem pe61_ok : pe61.ok Try.prog := pe_of hm tb61_ok ex61_ok in61_ok xf61_ok (by kernel_rfl) (fun _ => rfl)
def xf36 : FX := ⟨(.seq (.reg [(xi 2 (.box 0 3 (.t 0))), (xi 4 (.mov (.c (.v (.int .i64 0))))), (xi 5 (.mov (.c (.v (.bool false)))))]) (.seq (.reg [(xi 6 (.fad 2 (.t 2))), (xi 7 (.load false 1 (.t 6))), (xi 8 (.mov (.t 1))), (xi 9 (.call 1 60 [(.t 7), (.t 8), (.c (.clo 61 [] []))])), (xi 10 (.ext (.t 9) 0)), (xi 11 (.ext (.t 9) 1)), (xi 4 (.mov (.t 10))), (xi 5 (.mov (.t 11)))]) .ret)), [2, 9], 12, [.t 4, .t 5], 6⟩
theorem xf36_ok : xf36.ok Try.prog 36 := ⟨_, _, Try.func36, rfl, by kernel_rfl, rfl, by kernel_rfl, rfl, by kernel_rfl, by kernel_rfl⟩
def ff60 : FX := ⟨(.seq (.reg [(xi 6 (.mov (.c (.v (.int .i64 0))))), (xi 7 (.mov (.c (.v (.bool false)))))]) (.seq (.reg [(xi 12 (.mov (.t 0))), (xi 13 (.len (.t 12))), (xi 8 (.mov (.t 13)))]) (.seq (.reg [(xi 14 (.mov (.t 8))), (xi 9 (.mov (.c (.v (.int .i64 0))))), (xi 10 (.mov (.t 14)))]) (.seq (.cutN ⟨[9, 10, 11, 15, 16, 17, 18, 19, 20, 21, 22, 23, 24, 25, 26, 27, 28, 29, 30, 31, 32, 33, 34], [], ⟨[], [(9, .v (.i .i64))], []⟩⟩ (.blk 0 (.loop ⟨[9, 10, 11, 15, 16, 17, 18, 19, 20, 21, 22, 23, 24, 25, 26, 27, 28, 29, 30, 31, 32, 33, 34], [], ⟨[], [(9, .v (.i .i64)), (10, .v (.i .i64))], []⟩⟩ (.seq (.seq (.reg [(xi 15 (.mov (.t 9))), (xi 16 (.mov (.t 10))), (xi 17 (.bin .lss (.t 15) (.t 16)))]) (.cond (.t 17) .skip (.exit 0))) (.blk 1 (.seq (.reg [(xi 18 (.mov (.t 9))), (xi 19 (.mov (.t 10))), (xi 20 (.bin .add (.t 18) (.t 19))), (xi 21 (.conv .u64 (.t 20))), (xi 22 (.bin .shr (.t 21) (.c (.v (.int .u64 1))))), (xi 23 (.conv .i64 (.t 22))), (xi 11 (.mov (.t 23)))]) (.seq (.reg [(xi 24 (.mov (.t 2))), (xi 25 (.mov (.t 0))), (xi 26 (.mov (.t 11))), (xi 27 (.iad 7 (.t 25) (.t 26))), (xi 28 (.load true 7 (.t 27))), (xi 29 (.mov (.t 1))), (xi 30 (.callv 0 (.t 24) [(.t 28), (.t 29)])), (xi 31 (.bin .lss (.t 30) (.c (.v (.int .i64 0)))))]) (.cond (.t 31) (.reg [(xi 32 (.mov (.t 11))), (xi 33 (.bin .add (.t 32) (.c (.v (.int .i64 1))))), (xi 9 (.mov (.t 33)))]) (.reg [(xi 34 (.mov (.t 11))), (xi 10 (.mov (.t 34)))]))))))))) (.seq (.reg [(xi 35 (.mov (.t 9))), (xi 36 (.mov (.t 9))), (xi 37 (.mov (.t 8))), (xi 38 (.bin .lss (.t 36) (.t 37))), (xi 39 (.mov (.t 38))), (xg 40 (.mov (.t 2)) 39 true), (xg 41 (.mov (.t 0)) 39 true), (xg 42 (.mov (.t 9)) 39 true), (xg 43 (.iad 7 (.t 41) (.t 42)) 39 true), (xg 44 (.load true 7 (.t 43)) 39 true), (xg 45 (.mov (.t 1)) 39 true), (xg 46 (.callv 1 (.t 40) [(.t 44), (.t 45)]) 39 true), (xg 47 (.bin .eql (.t 46) (.c (.v (.int .i64 0)))) 39 true), (xi 48 (.pick (.t 39) (.t 47) (.c (.v (.bool false))))), (xi 6 (.mov (.t 35))), (xi 7 (.mov (.t 48)))]) .ret))))), [30, 46], 49, [.t 6, .t 7], 3⟩
theorem ff60_ok : ff60.ok Try.prog 60 := ⟨_, _, Try.func60, rfl, by kernel_rfl, rfl, by kernel_rfl, rfl, by kernel_rfl, by kernel_rfl⟩
def tb36 : List PE := [pe61]
theorem tb36_ok : PEsOk Try.prog tb36 := ⟨pe61_ok, trivial⟩
def ex36 : List EX := []
theorem ex36_ok : EXsOk Try.prog ex36 := trivial
def in36 : List IN := [⟨1, 60, 3, ff60, some ⟨[0, 1, 2, 3, 4, 5, 6, 7, 8, 9, 10, 11, 12, 13, 14, 15, 16, 17, 18, 19, 20, 21, 22, 23, 24, 25, 26, 27, 28, 29, 30, 31, 32, 33, 34, 35, 36, 37, 38, 39, 40, 41, 42, 43, 44, 45, 46, 47, 48], [3, 4, 5], ⟨[], [(6, .v (.i .i64)), (7, .v .b)], []⟩⟩⟩]
theorem in36_ok : INsOk Try.prog in36 := ⟨ff60_ok, trivial⟩
def F36 : DT ((.co (.v tz2) (.co (.v .s) .no)) : Fm).den → Option (DT (.tup (.co (.v (.i .i64)) (.co (.v .b) .no)) : Fm).den) := pureT tb36 ex36 in36 9 xf36 _ _ []
def pe36 : PE := ⟨36, (.co (.v tz2) (.co (.v .s) .no)), .tup (.co (.v (.i .i64)) (.co (.v .b) .no)), F36⟩
theorem pe36_ok : pe36.ok Try.prog := pe_of hm tb36_ok ex36_ok in36_ok xf36_ok (by kernel_rfl) (fun _ => rfl)
def xf11 : FX := ⟨(.seq (.reg [(xi 2 (.box 0 3 (.t 0))), ⟨⟨(some 4), (.alloc 1 (.agg [(.v (.string ⟨#[]⟩)), (.v (.int .i64 0)), (.v (.int .i64 0)), (.v (.int .u64 0)), (.v (.int .i64 0)), (.v (.int .i64 0)), (.v (.int .u64 0))])), none⟩, .b, [], []⟩, (xi 5 (.mov (.c (.v (.int .i64 0)))))]) (.seq (.seq (.reg [(xi 9 (.load true 3 (.t 2))), (xi 10 (.call 2 26 [(.t 9)])), (xi 6 (.mov (.t 10)))]) (.seq (.reg [(xi 11 (.mov (.t 6))), (xi 12 (.bin .neq (.t 11) (.c (.v (.int .i64 0)))))]) (.cond (.t 12) (.seq (.reg [⟨⟨(some 13), (.bld [(.v (.string ⟨#[]⟩)), (.v (.int .i64 0)), (.v (.int .i64 0)), (.v (.int .u64 0)), (.v (.int .i64 0)), (.v (.int .i64 0)), (.v (.int .u64 0))] []), none⟩, .b, [], []⟩, (xi 14 (.mov (.t 6))), (xz (.store 7 (.t 4) (.t 13))), (xi 5 (.mov (.t 14)))]) .ret) .skip))) (.seq (.reg [(xi 16 (.load true 3 (.t 2))), (xi 17 (.mov (.t 1))), (xi 18 (.call 3 36 [(.t 16), (.t 17)])), (xi 15 (.mov (.t 18))), (xi 19 (.ext (.t 15) 0)), (xi 20 (.ext (.t 15) 1)), (xi 7 (.mov (.t 19))), (xi 8 (.mov (.t 20)))]) (.seq (.seq (.reg [(xi 21 (.mov (.t 8))), (xi 22 (.un .not (.t 21)))]) (.cond (.t 22) (.seq (.reg [⟨⟨(some 23), (.bld [(.v (.string ⟨#[]⟩)), (.v (.int .i64 0)), (.v (.int .i64 0)), (.v (.int .u64 0)), (.v (.int .i64 0)), (.v (.int .i64 0)), (.v (.int .u64 0))] []), none⟩, .b, [], []⟩, (xz (.store 7 (.t 4) (.t 23))), (xi 5 (.mov (.c (.v (.int .i64 6)))))]) .ret) .skip)) (.seq (.reg [(xi 24 (.fad 2 (.t 2))), (xi 25 (.load false 1 (.t 24))), (xi 26 (.mov (.t 7))), (xi 27 (.iad 7 (.t 25) (.t 26))), (xi 28 (.load true 7 (.t 27))), (xz (.store 7 (.t 4) (.t 28))), (xi 5 (.mov (.c (.v (.int .i64 0)))))]) .ret))))), [2, 4, 10, 18], 29, [.c 4 32 true 7, .t 5], 5⟩
theorem xf11_ok : xf11.ok Try.prog 11 := ⟨_, _, Try.func11, rfl, by kernel_rfl, rfl, by kernel_rfl, rfl, by kernel_rfl, by kernel_rfl⟩
def tb11 : List PE := [pe26, pe36]
theorem tb11_ok : PEsOk Try.prog tb11 := ⟨pe26_ok, pe36_ok, trivial⟩
def ex11 : List EX := []
theorem ex11_ok : EXsOk Try.prog ex11 := trivial
def in11 : List IN := []
theorem in11_ok : INsOk Try.prog in11 := trivial
def F11 : DT ((.co (.v tz2) (.co (.v .s) .no)) : Fm).den → Option (DT (.tup (.co (.v tz1) (.co (.v (.i .i64)) .no)) : Fm).den) := pureT tb11 ex11 in11 0 xf11 _ _ []
def pe11 : PE := ⟨11, (.co (.v tz2) (.co (.v .s) .no)), .tup (.co (.v tz1) (.co (.v (.i .i64)) .no)), F11⟩
theorem pe11_ok : pe11.ok Try.prog := pe_of hm tb11_ok ex11_ok in11_ok xf11_ok (by kernel_rfl) (fun _ => rfl)
def xf12 : FX := ⟨(.seq (.reg [(xi 1 (.box 0 2 (.t 0))), (xi 2 (.mov (.c (.v (.bool false)))))]) (.seq (.reg [(xi 3 (.fad 0 (.t 1))), (xi 4 (.load false 1 (.t 3))), (xi 5 (.bin .leq (.c (.v (.int .i64 1))) (.t 4))), (xi 6 (.mov (.t 5))), (xg 7 (.fad 0 (.t 1)) 6 true), (xg 8 (.load false 1 (.t 7)) 6 true), (xg 9 (.bin .leq (.t 8) (.c (.v (.int .i64 100)))) 6 true), (xi 10 (.pick (.t 6) (.t 9) (.c (.v (.bool false))))), (xi 11 (.mov (.t 10))), (xg 12 (.fad 1 (.t 1)) 11 true), (xg 13 (.load false 1 (.t 12)) 11 true), (xg 14 (.bin .leq (.c (.v (.int .i64 1))) (.t 13)) 11 true), (xi 15 (.pick (.t 11) (.t 14) (.c (.v (.bool false))))), (xi 16 (.mov (.t 15))), (xg 17 (.fad 1 (.t 1)) 16 true), (xg 18 (.load false 1 (.t 17)) 16 true), (xg 19 (.bin .leq (.t 18) (.c (.v (.int .i64 100)))) 16 true), (xi 20 (.pick (.t 16) (.t 19) (.c (.v (.bool false))))), (xi 2 (.mov (.t 20)))]) .ret)), [1], 21, [.t 2], 2⟩
theorem xf12_ok : xf12.ok Try.prog 12 := ⟨_, _, Try.func12, rfl, by kernel_rfl, rfl, by kernel_rfl, rfl, by kernel_rfl, by kernel_rfl⟩
def tb12 : List PE := []
theorem tb12_ok : PEsOk Try.prog tb12 := trivial
def ex12 : List EX := []
theorem ex12_ok : EXsOk Try.prog ex12 := trivial
def in12 : List IN := []
theorem in12_ok : INsOk Try.prog in12 := trivial
def F12 : DT ((.co (.v (.p (.i .i64) (.i .i64))) .no) : Fm).den → Option (DT (.v .b : Fm).den) := pureT tb12 ex12 in12 0 xf12 _ _ []
def pe12 : PE := ⟨12, (.co (.v (.p (.i .i64) (.i .i64))) .no), .v .b, F12⟩
theorem pe12_ok : pe12.ok Try.prog := pe_of hm tb12_ok ex12_ok in12_ok xf12_ok (by kernel_rfl) (fun _ => rfl)
def xf29 : FX := ⟨(.seq (.reg [(xi 1 (.box 0 2 (.t 0))), (xi 2 (.mov (.c (.v (.int .i64 0)))))]) (.seq (.seq (.cutN ⟨[3, 4, 5, 6, 7, 8, 9, 10, 11, 12], [], ⟨[], [(12, .v .b)], []⟩⟩ (.reg [(xi 3 (.fad 0 (.t 1))), (xi 4 (.load false 1 (.t 3))), (xi 5 (.call 1 47 [(.t 4), (.c (.v (.int .i64 1))), (.c (.v (.int .i64 100)))])), (xi 6 (.un .not (.t 5))), (xi 7 (.mov (.t 6))), (xg 8 (.fad 1 (.t 1)) 7 false), (xg 9 (.load false 1 (.t 8)) 7 false), (xg 10 (.call 2 47 [(.t 9), (.c (.v (.int .i64 1))), (.c (.v (.int .i64 100)))]) 7 false), (xg 11 (.un .not (.t 10)) 7 false), (xi 12 (.pick (.t 7) (.c (.v (.bool true))) (.t 11)))])) (.cond (.t 12) (.seq (.reg [(xi 2 (.mov (.c (.v (.int .i64 1)))))]) .ret) .skip)) (.seq (.reg [(xi 2 (.mov (.c (.v (.int .i64 0)))))]) .ret))), [1, 5, 10], 13, [.t 2], 4⟩
theorem xf29_ok : xf29.ok Try.prog 29 := ⟨_, _, Try.func29, rfl, by kernel_rfl, rfl, by kernel_rfl, rfl, by kernel_rfl, by kernel_rfl⟩
def tb29 : List PE := [pe47]
theorem tb29_ok : PEsOk Try.prog tb29 := ⟨pe47_ok, trivial⟩
def ex29 : List EX := []
theorem ex29_ok : EXsOk Try.prog ex29 := trivial
def in29 : List IN := []
theorem in29_ok : INsOk Try.prog in29 := trivial
def F29 : DT ((.co (.v (.p (.i .i64) (.i .i64))) .no) : Fm).den → Option (DT (.v (.i .i64) : Fm).den) := pureT tb29 ex29 in29 0 xf29 _ _ []
def pe29 : PE := ⟨29, (.co (.v (.p (.i .i64) (.i .i64))) .no), .v (.i .i64), F29⟩
theorem pe29_ok : pe29.ok Try.prog := pe_of hm tb29_ok ex29_ok in29_ok xf29_ok (by kernel_rfl) (fun _ => rfl)
def xf43 : FX := ⟨(.seq (.reg [(xi 1 (.box 0 7 (.t 0))), (xi 2 (.mov (.c (.v (.bool false)))))]) (.seq (.reg [(xi 3 (.fad 1 (.t 1))), (xi 4 (.load false 1 (.t 3))), (xi 5 (.bin .eql (.t 4) (.c (.v (.int .i64 0))))), (xi 6 (.mov (.t 5))), (xg 7 (.fad 1 (.t 1)) 6 false), (xg 8 (.load false 1 (.t 7)) 6 false), (xg 9 (.bin .eql (.t 8) (.c (.v (.int .i64 1)))) 6 false), (xi 10 (.pick (.t 6) (.c (.v (.bool true))) (.t 9))), (xi 2 (.mov (.t 10)))]) .ret)), [1], 11, [.t 2], 2⟩
theorem xf43_ok : xf43.ok Try.prog 43 := ⟨_, _, Try.func43, rfl, by kernel_rfl, rfl, by kernel_rfl, rfl, by kernel_rfl, by kernel_rfl⟩
def tb43 : List PE := []
theorem tb43_ok : PEsOk Try.prog tb43 := trivial
def ex43 : List EX := []
theorem ex43_ok : EXsOk Try.prog ex43 := trivial
def in43 : List IN := []
theorem in43_ok : INsOk Try.prog in43 := trivial
def F43 : DT ((.co (.v tz1) .no) : Fm).den → Option (DT (.v .b : Fm).den) := pureT tb43 ex43 in43 0 xf43 _ _ []
def pe43 : PE := ⟨43, (.co (.v tz1) .no), .v .b, F43⟩
theorem pe43_ok : pe43.ok Try.prog := pe_of hm tb43_ok ex43_ok in43_ok xf43_ok (by kernel_rfl) (fun _ => rfl)
def xf25 : FX := ⟨(.seq (.reg [(xi 1 (.box 0 3 (.t 0))), (xi 2 (.mov (.c (.sl true []))))]) (.seq (.seq (.reg [(xi 6 (.load true 3 (.t 1))), (xi 7 (.call 1 26 [(.t 6)])), (xi 8 (.bin .neq (.t 7) (.c (.v (.int .i64 0)))))]) (.cond (.t 8) (.seq (.reg [(xi 2 (.mov (.c (.sl true []))))]) .ret) .skip)) (.seq (.reg [(xi 3 (.mov (.c (.sl true []))))]) (.seq (.seq (.reg [(xi 9 (.load true 3 (.t 1))), (xi 10 (.call 2 48 [(.t 9), (.c (.clo 43 [] []))])), (xi 11 (.len (.t 10))), (xi 12 (.mov (.c (.v (.int .i64 0)))))]) (.blk 0 (.loop ⟨[3, 5, 12, 13, 14, 15, 16, 17, 18, 19, 20, 21], [3, 4], ⟨[], [(3, .ow 4 1), (12, .v (.i .i64))], [⟨4, .rows .s 1, false⟩]⟩⟩ (.seq (.reg [(xi 13 (.bin .lss (.t 12) (.t 11)))]) (.seq (.cond (.t 13) .skip (.exit 0)) (.seq (.blk 1 (.seq (.reg [(xi 14 (.iad 7 (.t 10) (.t 12))), (xi 15 (.load true 7 (.t 14))), ⟨⟨(some 5), (.alloc 3 (.agg [(.v (.string ⟨#[]⟩)), (.v (.int .i64 0)), (.v (.int .i64 0)), (.v (.int .u64 0)), (.v (.int .i64 0)), (.v (.int .i64 0)), (.v (.int .u64 0))])), none⟩, .b, [], []⟩, (xz (.store 7 (.t 5) (.t 15)))]) (.reg [(xi 16 (.mov (.t 3))), (xi 17 (.fad 0 (.t 5))), (xi 18 (.load false 1 (.t 17))), ⟨⟨(some 19), (.bsl 1 (.v (.string ⟨#[]⟩)) 1 [(0, (.t 18))]), none⟩, .b, [], []⟩, ⟨⟨(some 20), (.app 4 1 16 (.v (.string ⟨#[]⟩)) (.t 16) (.t 19)), none⟩, .s, [], []⟩, (xi 3 (.mov (.t 20)))]))) (.reg [(xi 21 (.bin .add (.t 12) (.c (.v (.int .i64 1))))), (xi 12 (.mov (.t 21)))]))))))) (.seq (.reg [(xi 22 (.mov (.t 3))), (xi 2 (.mov (.t 22)))]) .ret))))), [1, 7, 10, 5, 20], 23, [.t 2], 11⟩
theorem xf25_ok : xf25.ok Try.prog 25 := ⟨_, _, Try.func25, rfl, by kernel_rfl, rfl, by kernel_rfl, rfl, by kernel_rfl, by kernel_rfl⟩
def ff48 : FX := ⟨(.seq (.reg [(xi 2 (.box 0 3 (.t 0))), (xi 4 (.mov (.c (.sl true []))))]) (.seq (.reg [(xi 5 (.mov (.c (.sl true []))))]) (.seq (.seq (.reg [(xi 8 (.fad 2 (.t 2))), (xi 9 (.load false 1 (.t 8))), (xi 10 (.len (.t 9))), (xi 11 (.mov (.c (.v (.int .i64 0)))))]) (.blk 0 (.loop ⟨[5, 7, 11, 12, 13, 14, 15, 16, 17, 18, 19, 20, 21, 22], [7, 9], ⟨[], [(5, .ow 9 7), (11, .v (.i .i64))], [⟨9, .rows tz1 7, false⟩]⟩⟩ (.seq (.reg [(xi 12 (.bin .lss (.t 11) (.t 10)))]) (.seq (.cond (.t 12) .skip (.exit 0)) (.seq (.cutN ⟨[5, 7, 13, 14, 15, 16, 17, 18, 19, 20, 21], [7, 9], ⟨[], [(5, .ow 9 7)], [⟨9, .rows tz1 7, false⟩]⟩⟩ (.blk 1 (.seq (.reg [(xi 13 (.iad 7 (.t 9) (.t 11))), (xi 14 (.load true 7 (.t 13))), ⟨⟨(some 7), (.alloc 1 (.agg [(.v (.string ⟨#[]⟩)), (.v (.int .i64 0)), (.v (.int .i64 0)), (.v (.int .u64 0)), (.v (.int .i64 0)), (.v (.int .i64 0)), (.v (.int .u64 0))])), none⟩, .b, [], []⟩, (xz (.store 7 (.t 7) (.t 14)))]) (.seq (.reg [(xi 15 (.mov (.t 1))), (xi 16 (.load true 7 (.t 7))), (xi 17 (.callv 2 (.t 15) [(.t 16)]))]) (.cond (.t 17) (.reg [(xi 18 (.mov (.t 5))), (xi 19 (.load true 7 (.t 7))), ⟨⟨(some 20), (.bsl 7 (.agg [(.v (.string ⟨#[]⟩)), (.v (.int .i64 0)), (.v (.int .i64 0)), (.v (.int .u64 0)), (.v (.int .i64 0)), (.v (.int .i64 0)), (.v (.int .u64 0))]) 1 [(0, (.t 19))]), none⟩, .b, [], []⟩, ⟨⟨(some 21), (.app 3 7 64 (.agg [(.v (.string ⟨#[]⟩)), (.v (.int .i64 0)), (.v (.int .i64 0)), (.v (.int .u64 0)), (.v (.int .i64 0)), (.v (.int .i64 0)), (.v (.int .u64 0))]) (.t 18) (.t 20)), none⟩, tz1, [], []⟩, (xi 5 (.mov (.t 21)))]) .skip))))) (.reg [(xi 22 (.bin .add (.t 11) (.c (.v (.int .i64 1))))), (xi 11 (.mov (.t 22)))]))))))) (.seq (.reg [(xi 23 (.mov (.t 5))), (xi 4 (.mov (.t 23)))]) .ret)))), [2, 7, 17, 21], 24, [.t 4], 5⟩
theorem ff48_ok : ff48.ok Try.prog 48 := ⟨_, _, Try.func48, rfl, by kernel_rfl, rfl, by kernel_rfl, rfl, by kernel_rfl, by kernel_rfl⟩
def tb25 : List PE := [pe26, pe43]
theorem tb25_ok : PEsOk Try.prog tb25 := ⟨pe26_ok, pe43_ok, trivial⟩
def ex25 : List EX := []
theorem ex25_ok : EXsOk Try.prog ex25 := trivial
def in25 : List IN := [⟨2, 48, 6, ff48, some ⟨[0, 1, 2, 3, 4, 5, 6, 7, 8, 9, 10, 11, 12, 13, 14, 15, 16, 17, 18, 19, 20, 21, 22, 23], [6, 7, 8, 9, 10], ⟨[], [(4, .ow 9 7)], [⟨9, .rows tz1 7, false⟩]⟩⟩⟩]
theorem in25_ok : INsOk Try.prog in25 := ⟨ff48_ok, trivial⟩
def F25 : DT ((.co (.v tz2) .no) : Fm).den → Option (DT (.v (.sl .s) : Fm).den) := pureT tb25 ex25 in25 9 xf25 _ _ [4]
def pe25 : PE := ⟨25, (.co (.v tz2) .no), .v (.sl .s), F25⟩
theorem pe25_ok : pe25.ok Try.prog := pe_of hm tb25_ok ex25_ok in25_ok xf25_ok (by kernel_rfl) (fun _ => rfl)
def xf34 : FX := ⟨(.seq (.reg [(xi 4 (.mov (.c (.v (.bool false)))))]) (.seq (.seq (.reg [(xi 6 (.mov (.t 0))), (xi 7 (.len (.t 6))), (xi 8 (.mov (.t 1))), (xi 9 (.len (.t 8))), (xi 10 (.bin .neq (.t 7) (.t 9)))]) (.cond (.t 10) (.seq (.reg [(xi 4 (.mov (.c (.v (.bool false)))))]) .ret) .skip)) (.seq (.seq (.reg [(xi 5 (.mov (.c (.v (.int .i64 0)))))]) (.blk 0 (.loop ⟨[4, 5, 11, 12, 13, 14, 15, 16, 17, 18, 19, 20, 21, 22, 23, 24, 25], [], ⟨[], [(5, .v (.i .i64))], []⟩⟩ (.seq (.seq (.reg [(xi 11 (.mov (.t 5))), (xi 12 (.mov (.t 0))), (xi 13 (.len (.t 12))), (xi 14 (.bin .lss (.t 11) (.t 13)))]) (.cond (.t 14) .skip (.exit 0))) (.seq (.blk 1 (.seq (.rdr [(xi 17 (.mov (.t 0))), (xi 18 (.mov (.t 5))), (xi 19 (.iad 7 (.t 17) (.t 18))), (xi 20 (.load true 7 (.t 19))), (xi 21 (.mov (.t 1))), (xi 22 (.mov (.t 5))), (xi 23 (.iad 7 (.t 21) (.t 22))), (xi 24 (.load true 7 (.t 23))), (xi 25 (.eqA true 7 [(0, .s), (1, .i), (2, .i), (3, .i), (4, .i), (5, .i), (6, .i)] (.t 20) (.t 24)))]) (.cond (.t 25) (.seq (.reg [(xi 4 (.mov (.c (.v (.bool false)))))]) .ret) .skip))) (.reg [(xi 15 (.mov (.t 5))), (xi 16 (.bin .add (.t 15) (.c (.v (.int .i64 1))))), (xi 5 (.mov (.t 16)))])))))) (.seq (.reg [(xi 4 (.mov (.c (.v (.bool true)))))]) .ret)))), [], 26, [.t 4], 1⟩
theorem xf34_ok : xf34.ok Try.prog 34 := ⟨_, _, Try.func34, rfl, by kernel_rfl, rfl, by kernel_rfl, rfl, by kernel_rfl, by kernel_rfl⟩
def tb34 : List PE := []
theorem tb34_ok : PEsOk Try.prog tb34 := trivial
def ex34 : List EX := []
theorem ex34_ok : EXsOk Try.prog ex34 := trivial
def in34 : List IN := []
theorem in34_ok : INsOk Try.prog in34 := trivial
def F34 : DT ((.co (.v (.sl tz1)) (.co (.v (.sl tz1)) .no)) : Fm).den → Option (DT (.v .b : Fm).den) := pureT tb34 ex34 in34 0 xf34 _ _ []
def pe34 : PE := ⟨34, (.co (.v (.sl tz1)) (.co (.v (.sl tz1)) .no)), .v .b, F34⟩
theorem pe34_ok : pe34.ok Try.prog := pe_of hm tb34_ok ex34_ok in34_ok xf34_ok (by kernel_rfl) (fun _ => rfl)
def xf15 : FX := ⟨(.seq (.reg [(xi 2 (.box 0 3 (.t 0))), (xi 3 (.box 1 3 (.t 1))), (xi 4 (.mov (.c (.v (.bool false)))))]) (.seq (.reg [(xi 5 (.fad 0 (.t 2))), (xi 6 (.load false 1 (.t 5))), (xi 7 (.fad 0 (.t 3))), (xi 8 (.load false 1 (.t 7))), (xi 9 (.bin .eql (.t 6) (.t 8))), (xi 10 (.mov (.t 9))), (xg 11 (.fad 1 (.t 2)) 10 true), (xg 12 (.load false 1 (.t 11)) 10 true), (xg 13 (.fad 1 (.t 3)) 10 true), (xg 14 (.load false 1 (.t 13)) 10 true), (xg 15 (.bin .eql (.t 12) (.t 14)) 10 true), (xi 16 (.pick (.t 10) (.t 15) (.c (.v (.bool false))))), (xi 17 (.mov (.t 16))), (xg 18 (.fad 2 (.t 2)) 17 true), (xg 19 (.load false 1 (.t 18)) 17 true), (xg 20 (.fad 2 (.t 3)) 17 true), (xg 21 (.load false 1 (.t 20)) 17 true), (xg 22 (.call 2 34 [(.t 19), (.t 21)]) 17 true), (xi 23 (.pick (.t 17) (.t 22) (.c (.v (.bool false))))), (xi 4 (.mov (.t 23)))]) .ret)), [2, 3, 22], 24, [.t 4], 4⟩
theorem xf15_ok : xf15.ok Try.prog 15 := ⟨_, _, Try.func15, rfl, by kernel_rfl, rfl, by kernel_rfl, rfl, by kernel_rfl, by kernel_rfl⟩
def tb15 : List PE := [pe34]
theorem tb15_ok : PEsOk Try.prog tb15 := ⟨pe34_ok, trivial⟩
def ex15 : List EX := []
theorem ex15_ok : EXsOk Try.prog ex15 := trivial
def in15 : List IN := []
theorem in15_ok : INsOk Try.prog in15 := trivial
def F15 : DT ((.co (.v tz2) (.co (.v tz2) .no)) : Fm).den → Option (DT (.v .b : Fm).den) := pureT tb15 ex15 in15 0 xf15 _ _ []
def pe15 : PE := ⟨15, (.co (.v tz2) (.co (.v tz2) .no)), .v .b, F15⟩
theorem pe15_ok : pe15.ok Try.prog := pe_of hm tb15_ok ex15_ok in15_ok xf15_ok (by kernel_rfl) (fun _ => rfl)
def xf13 : FX := ⟨(.seq (.reg [(xi 6 (.box 0 2 (.t 0))), (xi 7 (.box 1 3 (.t 1))), (xi 11 (.box 2 1 (.t 5))), (xi 12 (.alloc 3 (.agg [(.v (.int .u64 0)), (.v (.int .u64 0)), (.sl true [])]))), (xi 13 (.mov (.c (.v (.int .i64 0)))))]) (.seq (.dr [(0, 6), (1, 6)] [(xi 14 (.load true 2 (.t 6))), (xi 15 (.load true 3 (.t 7))), (xi 16 (.mov (.t 2))), (xi 17 (.mov (.t 3))), (xi 18 (.mov (.t 4))), (xi 19 (.fn 39 [] [(.t 6), (.t 11)])), ⟨⟨(some 20), (.callG 4 38 [(.t 18), (.t 19)]), none⟩, .b, [], [7, 8, 9]⟩, ⟨⟨(some 21), (.callG 5 37 [(.t 14), (.t 15), (.t 16), (.t 17), (.t 20)]), none⟩, .b, [], [10, 11, 12, 13, 14, 15, 16, 17, 18, 19, 20, 21, 22, 23, 24, 25, 26, 27, 28, 29, 30, 31, 32, 33, 34, 35, 36, 37, 38, 39, 40, 41, 42]⟩, (xi 22 (.ext (.t 21) 0)), (xi 23 (.ext (.t 21) 1)), (xz (.store 3 (.t 12) (.t 22))), (xi 13 (.mov (.t 23)))]) .ret)), [6, 7, 11, 12, 20, 21], 24, [.c 12 27 true 3, .t 13], 43⟩
theorem xf13_ok : xf13.ok Try.prog 13 := ⟨_, _, Try.func13, rfl, by kernel_rfl, rfl, by kernel_rfl, rfl, by kernel_rfl, by kernel_rfl⟩
def ff38 : FX := ⟨(.seq (.reg [(xi 2 (.box 0 1 (.t 0))), (xi 3 (.box 1 1 (.t 1))), (xi 4 (.mov (.c (.v .nilFunc))))]) (.seq (.reg [(xi 5 (.fn 64 [] [(.t 2), (.t 3)])), (xi 4 (.mov (.t 5)))]) .ret)), [2, 3], 6, [.t 4], 3⟩
theorem ff38_ok : ff38.ok Try.prog 38 := ⟨_, _, Try.func38, rfl, by kernel_rfl, rfl, by kernel_rfl, rfl, by kernel_rfl, by kernel_rfl⟩
def ff37 : FX := ⟨(.seq (.reg [(xi 5 (.box 0 2 (.t 0))), (xi 6 (.box 1 3 (.t 1))), (xi 8 (.box 2 1 (.t 3))), (xi 9 (.box 3 1 (.t 4))), (xi 10 (.alloc 4 (.agg [(.v (.int .u64 0)), (.v (.int .u64 0)), (.sl true [])]))), (xi 11 (.mov (.c (.v (.int .i64 0)))))]) (.seq (.reg [(xi 12 (.load true 2 (.t 5))), (xi 13 (.load true 3 (.t 6))), (xi 14 (.mov (.t 2))), (xi 15 (.fn 63 [] [(.t 8), (.t 9)])), (xi 16 (.call 5 44 [(.t 12), (.t 13), (.t 14), (.t 15)])), (xi 17 (.ext (.t 16) 0)), (xi 18 (.ext (.t 16) 1)), (xz (.store 3 (.t 10) (.t 17))), (xi 11 (.mov (.t 18)))]) .ret)), [5, 6, 8, 9, 10, 16], 19, [.c 10 27 true 3, .t 11], 7⟩
theorem ff37_ok : ff37.ok Try.prog 37 := ⟨_, _, Try.func37, rfl, by kernel_rfl, rfl, by kernel_rfl, rfl, by kernel_rfl, by kernel_rfl⟩
def ff44 : FX := ⟨(.seq (.reg [(xi 4 (.box 0 2 (.t 0))), (xi 5 (.box 1 3 (.t 1))), (xi 8 (.alloc 2 (.agg [(.v (.int .u64 0)), (.v (.int .u64 0)), (.sl true [])]))), (xi 9 (.mov (.c (.v (.int .i64 0)))))]) (.seq (.cut ⟨[9, 12, 13, 14, 15, 16, 17, 18, 19, 20, 21, 22, 23, 24, 25, 26, 27], [19], ⟨[], [], [⟨19, .row (.agg (.co (.v (.i .u64)) (.co (.v (.i .u64)) (.co (.nil) .no)))), true⟩]⟩⟩ (.blk 0 (.seq (.cutN ⟨[12, 13, 14, 15, 16, 17, 18, 19, 20], [], ⟨[], [(12, .v .b)], []⟩⟩ (.reg [(xi 13 (.load true 2 (.t 4))), (xi 14 (.call 3 29 [(.t 13)])), (xi 15 (.bin .neq (.t 14) (.c (.v (.int .i64 0))))), (xi 16 (.mov (.t 15))), (xg 17 (.load true 3 (.t 5)) 16 false), (xg 18 (.call 4 26 [(.t 17)]) 16 false), (xg 19 (.bin .neq (.t 18) (.c (.v (.int .i64 0)))) 16 false), (xi 20 (.pick (.t 16) (.c (.v (.bool true))) (.t 19))), (xi 12 (.mov (.t 20)))])) (.cond (.t 12) (.seq (.reg [(xi 21 (.load true 3 (.t 5))), (xz (.store 3 (.t 8) (.t 21))), (xi 9 (.mov (.c (.v (.int .i64 1)))))]) .ret) (.seq (.reg [(xi 23 (.mov (.t 2))), (xi 24 (.fad 0 (.t 5))), (xi 25 (.load false 1 (.t 24))), (xi 26 (.bin .lss (.t 23) (.t 25))), (xi 22 (.mov (.t 26)))]) (.cond (.t 22) (.seq (.reg [(xi 27 (.load true 3 (.t 5))), (xz (.store 3 (.t 8) (.t 27))), (xi 9 (.mov (.c (.v (.int .i64 8)))))]) .ret) .skip)))))) (.seq (.dr [(2, 5)] [(xi 28 (.mov (.t 2))), (xi 29 (.fad 1 (.t 5))), (xi 30 (.load false 1 (.t 29))), (xi 31 (.fad 2 (.t 5))), (xi 32 (.load false 1 (.t 31))), ⟨⟨(some 33), (.callG 5 65 [(.t 32)]), none⟩, .b, [], [26, 27]⟩, (xi 34 (.bld [(.v (.int .u64 0)), (.v (.int .u64 0)), (.sl true [])] [(0, (1, (.t 28))), (1, (1, (.t 30))), (2, (1, (.t 33)))])), (xi 10 (.mov (.c .dead))), (xi 10 (.box 6 3 (.t 34)))]) (.seq (.seq (.reg [(xi 35 (.mov (.t 3))), (xi 36 (.callv 7 (.t 35) [(.t 10)])), (xi 11 (.mov (.t 36)))]) (.seq (.reg [(xi 37 (.mov (.t 11))), (xi 38 (.bin .neq (.t 37) (.c (.v (.int .i64 0)))))]) (.cond (.t 38) (.seq (.reg [(xi 39 (.load true 3 (.t 5))), (xi 40 (.mov (.t 11))), (xz (.store 3 (.t 8) (.t 39))), (xi 9 (.mov (.t 40)))]) .ret) .skip))) (.seq (.reg [(xi 41 (.load true 3 (.t 10))), (xz (.store 3 (.t 8) (.t 41))), (xi 9 (.mov (.c (.v (.int .i64 0)))))]) .ret))))), [4, 5, 8, 14, 18, 33, 10, 36], 42, [.c 8 27 true 3, .t 9], 9⟩
theorem ff44_ok : ff44.ok Try.prog 44 := ⟨_, _, Try.func44, rfl, by kernel_rfl, rfl, by kernel_rfl, rfl, by kernel_rfl, by kernel_rfl⟩
def ff65 : FX := ⟨(.seq (.reg [(xi 2 (.mov (.c (.sl true []))))]) (.seq (.seq (.reg [(xi 3 (.mov (.t 0))), (xi 4 (.nilq false (.t 3)))]) (.cond (.t 4) (.seq (.reg [(xi 2 (.mov (.c (.sl true []))))]) .ret) .skip)) (.seq (.reg [⟨⟨(some 5), (.bsl 7 (.agg [(.v (.string ⟨#[]⟩)), (.v (.int .i64 0)), (.v (.int .i64 0)), (.v (.int .u64 0)), (.v (.int .i64 0)), (.v (.int .i64 0)), (.v (.int .u64 0))]) 0 []), none⟩, .b, [], []⟩, (xi 6 (.mov (.t 0))), ⟨⟨(some 7), (.app 0 7 64 (.agg [(.v (.string ⟨#[]⟩)), (.v (.int .i64 0)), (.v (.int .i64 0)), (.v (.int .u64 0)), (.v (.int .i64 0)), (.v (.int .i64 0)), (.v (.int .u64 0))]) (.t 5) (.t 6)), none⟩, tz1, [], []⟩, (xi 2 (.mov (.t 7)))]) .ret))), [7], 8, [.t 2], 2⟩
theorem ff65_ok : ff65.ok Try.prog 65 := ⟨_, _, Try.func65, rfl, by kernel_rfl, rfl, by kernel_rfl, rfl, by kernel_rfl, by kernel_rfl⟩
def ff63 : FX := ⟨(.seq (.reg [(xi 4 (.mov (.c (.v (.int .i64 0)))))]) (.seq (.dr [] [(xi 8 (.mov (.t 0))), (xi 9 (.nilc (.t 8))), (xi 10 (.load true 3 (.t 9))), (xi 11 (.load false 1 (.t 1))), ⟨⟨(some 12), (.callG 0 36 [(.t 10), (.t 11)]), none⟩, .b, [], [31, 32, 33, 34, 35, 36]⟩, (xi 7 (.mov (.t 12))), (xi 13 (.ext (.t 7) 0)), (xi 14 (.ext (.t 7) 1)), (xi 5 (.mov (.t 13))), (xi 6 (.mov (.t 14)))]) (.seq (.seq (.reg [(xi 15 (.mov (.t 6))), (xi 16 (.un .not (.t 15)))]) (.cond (.t 16) (.seq (.reg [(xi 4 (.mov (.c (.v (.int .i64 6)))))]) .ret) .skip)) (.seq (.dr [] [(xi 17 (.load false 1 (.t 2))), (xi 18 (.mov (.t 0))), (xi 19 (.nilc (.t 18))), (xi 20 (.fad 2 (.t 19))), (xi 21 (.load false 1 (.t 20))), (xi 22 (.mov (.t 5))), (xi 23 (.iad 7 (.t 21) (.t 22))), ⟨⟨(some 24), (.callvG 1 (.t 17) [(.t 23)]), none⟩, .b, [], [26, 37, 38, 39, 40, 41, 42]⟩, (xi 4 (.mov (.t 24)))]) .ret)))), [12, 24], 25, [.t 4], 3⟩
theorem ff63_ok : ff63.ok Try.prog 63 := ⟨_, _, Try.func63, rfl, by kernel_rfl, rfl, by kernel_rfl, rfl, by kernel_rfl, by kernel_rfl⟩
def ff36 : FX := ⟨(.seq (.reg [(xi 2 (.box 0 3 (.t 0))), (xi 4 (.mov (.c (.v (.int .i64 0))))), (xi 5 (.mov (.c (.v (.bool false)))))]) (.seq (.reg [(xi 6 (.fad 2 (.t 2))), (xi 7 (.load false 1 (.t 6))), (xi 8 (.mov (.t 1))), (xi 9 (.call 1 60 [(.t 7), (.t 8), (.c (.clo 61 [] []))])), (xi 10 (.ext (.t 9) 0)), (xi 11 (.ext (.t 9) 1)), (xi 4 (.mov (.t 10))), (xi 5 (.mov (.t 11)))]) .ret)), [2, 9], 12, [.t 4, .t 5], 3⟩
theorem ff36_ok : ff36.ok Try.prog 36 := ⟨_, _, Try.func36, rfl, by kernel_rfl, rfl, by kernel_rfl, rfl, by kernel_rfl, by kernel_rfl⟩
def ff64 : FX := ⟨(.seq (.reg [(xi 4 (.mov (.c (.v (.int .i64 0)))))]) (.seq (.blk 0 (.seq (.rdr [(xi 6 (.mov (.t 0))), (xi 7 (.nilc (.t 6))), (xi 8 (.fad 3 (.t 7))), (xi 9 (.load false 1 (.t 8))), (xi 10 (.load false 1 (.t 1))), (xi 11 (.bin .neq (.t 9) (.t 10))), (xi 5 (.mov (.t 11)))]) (.cond (.t 5) (.seq (.reg [(xi 4 (.mov (.c (.v (.int .i64 8)))))]) .ret) (.seq (.reg [(xi 13 (.mov (.t 0))), (xi 14 (.nilc (.t 13))), (xi 15 (.fad 1 (.t 14))), (xi 16 (.load false 1 (.t 15))), (xi 17 (.bin .neq (.t 16) (.c (.v (.int .i64 1))))), (xi 12 (.mov (.t 17)))]) (.cond (.t 12) (.seq (.reg [(xi 4 (.mov (.c (.v (.int .i64 7)))))]) .ret) .skip))))) (.seq (.reg [(xi 18 (.load false 1 (.t 2))), (xi 19 (.mov (.t 0))), (xi 20 (.callv 0 (.t 18) [(.t 19)]))]) (.seq (.reg [(xi 4 (.mov (.c (.v (.int .i64 0)))))]) .ret)))), [20], 21, [.t 4], 2⟩
theorem ff64_ok : ff64.ok Try.prog 64 := ⟨_, _, Try.func64, rfl, by kernel_rfl, rfl, by kernel_rfl, rfl, by kernel_rfl, by kernel_rfl⟩
def ff39 : FX := ⟨(.seq (.reg [(xi 4 (.load true 2 (.t 1))), (xi 5 (.mov (.t 0))), (xi 6 (.call 0 40 [(.t 4), (.t 5)]))]) (.seq (.reg [(xi 7 (.load false 1 (.t 2)))]) (.cond (.t 7) (.reg [(xi 8 (.mov (.t 0))), (xi 9 (.nilc (.t 8))), (xi 10 (.fad 1 (.t 9))), (xz (.store 1 (.t 10) (.c (.v (.int .i64 2)))))]) .skip))), [6], 11, [], 2⟩
theorem ff39_ok : ff39.ok Try.prog 39 := ⟨_, _, Try.func39, rfl, by kernel_rfl, rfl, by kernel_rfl, rfl, by kernel_rfl, by kernel_rfl⟩
def ff40 : FX := ⟨(.seq (.reg [(xi 2 (.box 0 2 (.t 0)))]) (.seq (.reg [(xi 4 (.mov (.t 1))), (xi 5 (.mov (.t 1))), (xi 6 (.mov (.t 1))), (xi 7 (.nilc (.t 4))), (xi 8 (.fad 1 (.t 7))), (xz (.store 1 (.t 8) (.c (.v (.int .i64 0))))), (xi 9 (.nilc (.t 5))), (xi 10 (.fad 5 (.t 9))), (xz (.store 1 (.t 10) (.c (.v (.int .i64 (-1)))))), (xi 11 (.nilc (.t 6))), (xi 12 (.fad 6 (.t 11))), (xz (.store 1 (.t 12) (.c (.v (.int .u64 0)))))]) (.seq (.rdr [(xi 13 (.mov (.t 1))), (xi 14 (.nilc (.t 13))), (xi 15 (.fad 4 (.t 14))), (xi 16 (.load false 1 (.t 15))), (xi 17 (.fad 1 (.t 2))), (xi 18 (.load false 1 (.t 17))), (xi 19 (.bin .geq (.t 16) (.t 18)))]) (.cond (.t 19) (.reg [(xi 20 (.mov (.t 1))), (xi 21 (.nilc (.t 20))), (xi 22 (.fad 1 (.t 21))), (xz (.store 1 (.t 22) (.c (.v (.int .i64 3)))))]) .skip)))), [2], 23, [], 2⟩
theorem ff40_ok : ff40.ok Try.prog 40 := ⟨_, _, Try.func40, rfl, by kernel_rfl, rfl, by kernel_rfl, rfl, by kernel_rfl, by kernel_rfl⟩
def tb13 : List PE := [pe26, pe29, pe61]
theorem tb13_ok : PEsOk Try.prog tb13 := ⟨pe26_ok, pe29_ok, pe61_ok, trivial⟩
def ex13 : List EX := []
theorem ex13_ok : EXsOk Try.prog ex13 := trivial
def in13 : List IN := [⟨4, 38, 7, ff38, some ⟨[0, 1, 2, 3, 4, 5], [7, 8, 9], ⟨[], [(4, .clo 64 .no (.co (.ptr 7 0) (.co (.ptr 8 0) .no)))], [⟨7, .row (.v (.i .u64)), false⟩, ⟨8, .row (.clo 39 .no (.co (.ptr 0 0) (.co (.ptr 2 0) .no))), false⟩]⟩⟩⟩, ⟨5, 37, 10, ff37, some ⟨[0, 1, 2, 3, 4, 5, 6, 7, 8, 9, 10, 11, 12, 13, 14, 15, 16, 17, 18], [10, 11, 12, 13, 14, 15, 16, 17, 18, 19, 20, 21, 22, 23, 24, 25, 26, 27, 28, 29, 30, 31, 32, 33, 34, 35, 36, 37, 38, 39, 40, 41, 42], ⟨[26], [(10, .ptr 14 0), (11, .v (.i .i64))], [⟨14, .row (.v tz2), false⟩]⟩⟩⟩, ⟨15, 44, 17, ff44, some ⟨[0, 1, 2, 3, 4, 5, 6, 7, 8, 9, 10, 11, 12, 13, 14, 15, 16, 17, 18, 19, 20, 21, 22, 23, 24, 25, 26, 27, 28, 29, 30, 31, 32, 33, 34, 35, 36, 37, 38, 39, 40, 41], [17, 18, 19, 20, 21, 22, 23, 24, 25, 26, 27, 28, 29, 30, 31, 32, 33, 34, 35, 36, 37, 38, 39, 40, 41, 42], ⟨[26], [(8, .ptr 19 0), (9, .v (.i .i64))], [⟨19, .row (.v tz2), false⟩]⟩⟩⟩, ⟨22, 65, 26, ff65, some ⟨[0, 1, 2, 3, 4, 5, 6, 7], [26, 27], ⟨[], [(2, .ow 26 7)], [⟨26, .rows tz1 7, false⟩]⟩⟩⟩, ⟨24, 63, 28, ff63, some ⟨[0, 1, 2, 3, 4, 5, 6, 7, 8, 9, 10, 11, 12, 13, 14, 15, 16, 17, 18, 19, 20, 21, 22, 23, 24], [26, 28, 29, 30, 31, 32, 33, 34, 35, 36, 37, 38, 39, 40, 41, 42], ⟨[], [(4, .v (.i .i64))], [⟨26, .rows tz1 7, true⟩]⟩⟩⟩, ⟨28, 36, 31, ff36, some ⟨[0, 1, 2, 3, 4, 5, 6, 7, 8, 9, 10, 11], [31, 32, 33, 34, 35, 36], ⟨[], [(4, .v (.i .i64)), (5, .v .b)], []⟩⟩⟩, ⟨29, 64, 37, ff64, some ⟨[0, 1, 2, 3, 4, 5, 6, 7, 8, 9, 10, 11, 12, 13, 14, 15, 16, 17, 18, 19, 20], [26, 37, 38, 39, 40, 41, 42], ⟨[], [(4, .v (.i .i64))], [⟨26, .rows tz1 7, true⟩]⟩⟩⟩, ⟨32, 60, 34, ff60, some ⟨[0, 1, 2, 3, 4, 5, 6, 7, 8, 9, 10, 11, 12, 13, 14, 15, 16, 17, 18, 19, 20, 21, 22, 23, 24, 25, 26, 27, 28, 29, 30, 31, 32, 33, 34, 35, 36, 37, 38, 39, 40, 41, 42, 43, 44, 45, 46, 47, 48], [34, 35, 36], ⟨[], [(6, .v (.i .i64)), (7, .v .b)], []⟩⟩⟩, ⟨37, 39, 39, ff39, some ⟨[0, 1, 2, 3, 4, 5, 6, 7, 8, 9, 10], [26, 39, 40, 41, 42], ⟨[], [], [⟨26, .rows tz1 7, true⟩]⟩⟩⟩, ⟨39, 40, 41, ff40, some ⟨[0, 1, 2, 3, 4, 5, 6, 7, 8, 9, 10, 11, 12, 13, 14, 15, 16, 17, 18, 19, 20, 21, 22], [26, 41, 42], ⟨[], [], [⟨26, .rows tz1 7, true⟩]⟩⟩⟩]
theorem in13_ok : INsOk Try.prog in13 := ⟨ff38_ok, ff37_ok, ff44_ok, ff65_ok, ff63_ok, ff36_ok, ff64_ok, ff60_ok, ff39_ok, ff40_ok, trivial⟩
def F13 : DT ((.co (.v (.p (.i .i64) (.i .i64))) (.co (.v tz2) (.co (.v (.i .u64)) (.co (.v .s) (.co (.v (.i .u64)) (.co (.v .b) .no)))))) : Fm).den → Option (DT (.tup (.co (.v tz2) (.co (.v (.i .i64)) .no)) : Fm).den) := pureT tb13 ex13 in13 9 xf13 _ _ []
def pe13 : PE := ⟨13, (.co (.v (.p (.i .i64) (.i .i64))) (.co (.v tz2) (.co (.v (.i .u64)) (.co (.v .s) (.co (.v (.i .u64)) (.co (.v .b) .no)))))), .tup (.co (.v tz2) (.co (.v (.i .i64)) .no)), F13⟩
theorem pe13_ok : pe13.ok Try.prog := pe_of hm tb13_ok ex13_ok in13_ok xf13_ok (by kernel_rfl) (fun _ => rfl)
def xf17 : FX := ⟨(.seq (.reg [(xi 5 (.box 0 2 (.t 0))), (xi 6 (.box 1 3 (.t 1))), (xi 8 (.box 2 1 (.t 3))), (xi 9 (.box 3 1 (.t 4))), (xi 10 (.alloc 4 (.agg [(.v (.int .u64 0)), (.v (.int .u64 0)), (.sl true [])]))), (xi 11 (.mov (.c (.v (.int .i64 0)))))]) (.seq (.reg [(xi 12 (.load true 2 (.t 5))), (xi 13 (.load true 3 (.t 6))), (xi 14 (.mov (.t 2))), (xi 15 (.fn 45 [] [(.t 8), (.t 9), (.t 5)])), (xi 16 (.call 5 44 [(.t 12), (.t 13), (.t 14), (.t 15)])), (xi 17 (.ext (.t 16) 0)), (xi 18 (.ext (.t 16) 1)), (xz (.store 3 (.t 10) (.t 17))), (xi 11 (.mov (.t 18)))]) .ret)), [5, 6, 8, 9, 10, 16], 19, [.c 10 27 true 3, .t 11], 35⟩
theorem xf17_ok : xf17.ok Try.prog 17 := ⟨_, _, Try.func17, rfl, by kernel_rfl, rfl, by kernel_rfl, rfl, by kernel_rfl, by kernel_rfl⟩
def ff44_1 : FX := ⟨(.seq (.reg [(xi 4 (.box 0 2 (.t 0))), (xi 5 (.box 1 3 (.t 1))), (xi 8 (.alloc 2 (.agg [(.v (.int .u64 0)), (.v (.int .u64 0)), (.sl true [])]))), (xi 9 (.mov (.c (.v (.int .i64 0)))))]) (.seq (.cut ⟨[9, 12, 13, 14, 15, 16, 17, 18, 19, 20, 21, 22, 23, 24, 25, 26, 27], [9], ⟨[], [], [⟨9, .row (.agg (.co (.v (.i .u64)) (.co (.v (.i .u64)) (.co (.nil) .no)))), true⟩]⟩⟩ (.blk 0 (.seq (.cutN ⟨[12, 13, 14, 15, 16, 17, 18, 19, 20], [], ⟨[], [(12, .v .b)], []⟩⟩ (.reg [(xi 13 (.load true 2 (.t 4))), (xi 14 (.call 3 29 [(.t 13)])), (xi 15 (.bin .neq (.t 14) (.c (.v (.int .i64 0))))), (xi 16 (.mov (.t 15))), (xg 17 (.load true 3 (.t 5)) 16 false), (xg 18 (.call 4 26 [(.t 17)]) 16 false), (xg 19 (.bin .neq (.t 18) (.c (.v (.int .i64 0)))) 16 false), (xi 20 (.pick (.t 16) (.c (.v (.bool true))) (.t 19))), (xi 12 (.mov (.t 20)))])) (.cond (.t 12) (.seq (.reg [(xi 21 (.load true 3 (.t 5))), (xz (.store 3 (.t 8) (.t 21))), (xi 9 (.mov (.c (.v (.int .i64 1)))))]) .ret) (.seq (.reg [(xi 23 (.mov (.t 2))), (xi 24 (.fad 0 (.t 5))), (xi 25 (.load false 1 (.t 24))), (xi 26 (.bin .lss (.t 23) (.t 25))), (xi 22 (.mov (.t 26)))]) (.cond (.t 22) (.seq (.reg [(xi 27 (.load true 3 (.t 5))), (xz (.store 3 (.t 8) (.t 27))), (xi 9 (.mov (.c (.v (.int .i64 8)))))]) .ret) .skip)))))) (.seq (.dr [(2, 5)] [(xi 28 (.mov (.t 2))), (xi 29 (.fad 1 (.t 5))), (xi 30 (.load false 1 (.t 29))), (xi 31 (.fad 2 (.t 5))), (xi 32 (.load false 1 (.t 31))), ⟨⟨(some 33), (.callG 5 65 [(.t 32)]), none⟩, .b, [], [16, 17]⟩, (xi 34 (.bld [(.v (.int .u64 0)), (.v (.int .u64 0)), (.sl true [])] [(0, (1, (.t 28))), (1, (1, (.t 30))), (2, (1, (.t 33)))])), (xi 10 (.mov (.c .dead))), (xi 10 (.box 6 3 (.t 34)))]) (.seq (.seq (.reg [(xi 35 (.mov (.t 3))), (xi 36 (.callv 7 (.t 35) [(.t 10)])), (xi 11 (.mov (.t 36)))]) (.seq (.reg [(xi 37 (.mov (.t 11))), (xi 38 (.bin .neq (.t 37) (.c (.v (.int .i64 0)))))]) (.cond (.t 38) (.seq (.reg [(xi 39 (.load true 3 (.t 5))), (xi 40 (.mov (.t 11))), (xz (.store 3 (.t 8) (.t 39))), (xi 9 (.mov (.t 40)))]) .ret) .skip))) (.seq (.reg [(xi 41 (.load true 3 (.t 10))), (xz (.store 3 (.t 8) (.t 41))), (xi 9 (.mov (.c (.v (.int .i64 0)))))]) .ret))))), [4, 5, 8, 14, 18, 33, 10, 36], 42, [.c 8 27 true 3, .t 9], 9⟩
theorem ff44_1_ok : ff44_1.ok Try.prog 44 := ⟨_, _, Try.func44, rfl, by kernel_rfl, rfl, by kernel_rfl, rfl, by kernel_rfl, by kernel_rfl⟩
def ff45 : FX := ⟨(.seq (.reg [(xi 5 (.mov (.c (.v (.int .i64 0)))))]) (.seq (.dr [] [(xi 9 (.mov (.t 0))), (xi 10 (.nilc (.t 9))), (xi 11 (.load true 3 (.t 10))), (xi 12 (.load false 1 (.t 1))), ⟨⟨(some 13), (.callG 0 36 [(.t 11), (.t 12)]), none⟩, .b, [], [24, 25, 26, 27, 28, 29]⟩, (xi 8 (.mov (.t 13))), (xi 14 (.ext (.t 8) 0)), (xi 15 (.ext (.t 8) 1)), (xi 6 (.mov (.t 14))), (xi 7 (.mov (.t 15)))]) (.seq (.cut ⟨[5, 16, 17, 18, 19, 20, 21, 22, 23, 24, 25, 26, 27, 28, 29, 30, 31, 32, 33, 34, 35, 36, 37, 38, 39, 40, 41, 42, 43], [30, 31, 32, 33, 34], ⟨[], [], []⟩⟩ (.blk 0 (.seq (.cutN ⟨[16, 17, 18, 19, 20, 21, 22, 23, 24], [], ⟨[], [(16, .v .b)], []⟩⟩ (.reg [(xi 17 (.load false 1 (.t 1))), (xi 18 (.call 1 46 [(.t 17)])), (xi 19 (.un .not (.t 18))), (xi 20 (.mov (.t 19))), (xg 21 (.load false 1 (.t 2)) 20 false), (xg 22 (.call 2 47 [(.t 21), (.c (.v (.int .i64 0))), (.c (.v (.int .i64 9)))]) 20 false), (xg 23 (.un .not (.t 22)) 20 false), (xi 24 (.pick (.t 20) (.c (.v (.bool true))) (.t 23))), (xi 16 (.mov (.t 24)))])) (.cond (.t 16) (.seq (.reg [(xi 5 (.mov (.c (.v (.int .i64 1)))))]) .ret) (.seq (.reg [(xi 26 (.mov (.t 7))), (xi 25 (.mov (.t 26)))]) (.cond (.t 25) (.seq (.reg [(xi 5 (.mov (.c (.v (.int .i64 5)))))]) .ret) (.seq (.cutN ⟨[27, 28, 29, 30, 31, 32, 33, 34, 35, 36, 37, 38, 39, 40, 41, 42, 43], [30, 31, 32, 33, 34], ⟨[], [(27, .v .b)], []⟩⟩ (.dr [(6, 3)] [(xi 28 (.mov (.t 0))), (xi 29 (.nilc (.t 28))), (xi 30 (.load true 3 (.t 29))), ⟨⟨(some 31), (.callG 3 48 [(.t 30), (.c (.clo 43 [] []))]), none⟩, .b, [], [30, 31, 32, 33, 34]⟩, (xi 32 (.len (.t 31))), (xi 33 (.fad 0 (.t 3))), (xi 34 (.load false 1 (.t 33))), (xi 35 (.bin .geq (.t 32) (.t 34))), (xi 36 (.mov (.t 35))), (xg 37 (.mov (.t 0)) 36 false), (xg 38 (.nilc (.t 37)) 36 false), (xg 39 (.fad 2 (.t 38)) 36 false), (xg 40 (.load false 1 (.t 39)) 36 false), (xg 41 (.len (.t 40)) 36 false), (xg 42 (.bin .eql (.t 41) (.c (.v (.int .i64 100)))) 36 false), (xi 43 (.pick (.t 36) (.c (.v (.bool true))) (.t 42))), (xi 27 (.mov (.t 43)))])) (.cond (.t 27) (.seq (.reg [(xi 5 (.mov (.c (.v (.int .i64 9)))))]) .ret) .skip)))))))) (.seq (.dr [] [(xi 44 (.mov (.t 0))), (xi 45 (.mov (.t 0))), (xi 46 (.nilc (.t 45))), (xi 47 (.fad 2 (.t 46))), (xi 48 (.load false 1 (.t 47))), (xi 49 (.mov (.t 6))), (xi 50 (.load false 1 (.t 1))), (xi 51 (.load false 1 (.t 2))), ⟨⟨(some 52), (.bld [(.v (.string ⟨#[]⟩)), (.v (.int .i64 0)), (.v (.int .i64 0)), (.v (.int .u64 0)), (.v (.int .i64 0)), (.v (.int .i64 0)), (.v (.int .u64 0))] [(0, (1, (.t 50))), (2, (1, (.t 51))), (5, (1, (.c (.v (.int .i64 (-1))))))]), none⟩, .b, [], []⟩, ⟨⟨(some 53), (.bsl 7 (.agg [(.v (.string ⟨#[]⟩)), (.v (.int .i64 0)), (.v (.int .i64 0)), (.v (.int .u64 0)), (.v (.int .i64 0)), (.v (.int .i64 0)), (.v (.int .u64 0))]) 1 [(0, (.t 52))]), none⟩, .b, [], []⟩, ⟨⟨(some 54), (.callG 4 49 [(.t 48), (.t 49), (.t 53)]), none⟩, .b, [], [16, 22]⟩, (xi 55 (.nilc (.t 44))), (xi 56 (.fad 2 (.t 55))), (xz (.store 1 (.t 56) (.t 54)))]) (.seq (.reg [(xi 5 (.mov (.c (.v (.int .i64 0)))))]) .ret))))), [13, 18, 22, 31, 54], 57, [.t 5], 6⟩
theorem ff45_ok : ff45.ok Try.prog 45 := ⟨_, _, Try.func45, rfl, by kernel_rfl, rfl, by kernel_rfl, rfl, by kernel_rfl, by kernel_rfl⟩
def ff48_2 : FX := ⟨(.seq (.reg [(xi 2 (.box 0 3 (.t 0))), (xi 4 (.mov (.c (.sl true []))))]) (.seq (.reg [(xi 5 (.mov (.c (.sl true []))))]) (.seq (.seq (.reg [(xi 8 (.fad 2 (.t 2))), (xi 9 (.load false 1 (.t 8))), (xi 10 (.len (.t 9))), (xi 11 (.mov (.c (.v (.int .i64 0)))))]) (.blk 0 (.loop ⟨[5, 7, 11, 12, 13, 14, 15, 16, 17, 18, 19, 20, 21, 22], [31, 33], ⟨[], [(5, .ow 33 7), (11, .v (.i .i64))], [⟨33, .rows tz1 7, false⟩]⟩⟩ (.seq (.reg [(xi 12 (.bin .lss (.t 11) (.t 10)))]) (.seq (.cond (.t 12) .skip (.exit 0)) (.seq (.cutN ⟨[5, 7, 13, 14, 15, 16, 17, 18, 19, 20, 21], [31, 33], ⟨[], [(5, .ow 33 7)], [⟨33, .rows tz1 7, false⟩]⟩⟩ (.blk 1 (.seq (.reg [(xi 13 (.iad 7 (.t 9) (.t 11))), (xi 14 (.load true 7 (.t 13))), ⟨⟨(some 7), (.alloc 1 (.agg [(.v (.string ⟨#[]⟩)), (.v (.int .i64 0)), (.v (.int .i64 0)), (.v (.int .u64 0)), (.v (.int .i64 0)), (.v (.int .i64 0)), (.v (.int .u64 0))])), none⟩, .b, [], []⟩, (xz (.store 7 (.t 7) (.t 14)))]) (.seq (.reg [(xi 15 (.mov (.t 1))), (xi 16 (.load true 7 (.t 7))), (xi 17 (.callv 2 (.t 15) [(.t 16)]))]) (.cond (.t 17) (.reg [(xi 18 (.mov (.t 5))), (xi 19 (.load true 7 (.t 7))), ⟨⟨(some 20), (.bsl 7 (.agg [(.v (.string ⟨#[]⟩)), (.v (.int .i64 0)), (.v (.int .i64 0)), (.v (.int .u64 0)), (.v (.int .i64 0)), (.v (.int .i64 0)), (.v (.int .u64 0))]) 1 [(0, (.t 19))]), none⟩, .b, [], []⟩, ⟨⟨(some 21), (.app 3 7 64 (.agg [(.v (.string ⟨#[]⟩)), (.v (.int .i64 0)), (.v (.int .i64 0)), (.v (.int .u64 0)), (.v (.int .i64 0)), (.v (.int .i64 0)), (.v (.int .u64 0))]) (.t 18) (.t 20)), none⟩, tz1, [], []⟩, (xi 5 (.mov (.t 21)))]) .skip))))) (.reg [(xi 22 (.bin .add (.t 11) (.c (.v (.int .i64 1))))), (xi 11 (.mov (.t 22)))]))))))) (.seq (.reg [(xi 23 (.mov (.t 5))), (xi 4 (.mov (.t 23)))]) .ret)))), [2, 7, 17, 21], 24, [.t 4], 5⟩
theorem ff48_2_ok : ff48_2.ok Try.prog 48 := ⟨_, _, Try.func48, rfl, by kernel_rfl, rfl, by kernel_rfl, rfl, by kernel_rfl, by kernel_rfl⟩
def tb17 : List PE := [pe26, pe29, pe43, pe46, pe47, pe61]
theorem tb17_ok : PEsOk Try.prog tb17 := ⟨pe26_ok, pe29_ok, pe43_ok, pe46_ok, pe47_ok, pe61_ok, trivial⟩
def ix49 : EX := ⟨49, 7, 64, (.agg [(.v (.string ⟨#[]⟩)), (.v (.int .i64 0)), (.v (.int .i64 0)), (.v (.int .u64 0)), (.v (.int .i64 0)), (.v (.int .i64 0)), (.v (.int .u64 0))]), tz1⟩
theorem ix49_ok : ix49.ok Try.prog := ⟨⟨⟨_, _, 67, Try.func49, rfl, by kernel_rfl, rfl, by kernel_rfl, by kernel_rfl⟩, by decide, by kernel_rfl, by kernel_rfl⟩, by kernel_rfl⟩
def ex17 : List EX := [ix49]
theorem ex17_ok : EXsOk Try.prog ex17 := ⟨ix49_ok, trivial⟩
def in17 : List IN := [⟨5, 44, 7, ff44_1, some ⟨[0, 1, 2, 3, 4, 5, 6, 7, 8, 9, 10, 11, 12, 13, 14, 15, 16, 17, 18, 19, 20, 21, 22, 23, 24, 25, 26, 27, 28, 29, 30, 31, 32, 33, 34, 35, 36, 37, 38, 39, 40, 41], [7, 8, 9, 10, 11, 12, 13, 14, 15, 16, 17, 18, 19, 20, 21, 22, 23, 24, 25, 26, 27, 28, 29, 30, 31, 32, 33, 34], ⟨[16], [(8, .ptr 9 0), (9, .v (.i .i64))], [⟨9, .row (.v tz2), false⟩]⟩⟩⟩, ⟨12, 65, 16, ff65, some ⟨[0, 1, 2, 3, 4, 5, 6, 7], [16, 17], ⟨[], [(2, .ow 16 7)], [⟨16, .rows tz1 7, false⟩]⟩⟩⟩, ⟨14, 45, 18, ff45, none⟩, ⟨18, 36, 24, ff36, some ⟨[0, 1, 2, 3, 4, 5, 6, 7, 8, 9, 10, 11], [24, 25, 26, 27, 28, 29], ⟨[], [(4, .v (.i .i64)), (5, .v .b)], []⟩⟩⟩, ⟨21, 48, 30, ff48_2, some ⟨[0, 1, 2, 3, 4, 5, 6, 7, 8, 9, 10, 11, 12, 13, 14, 15, 16, 17, 18, 19, 20, 21, 22, 23], [30, 31, 32, 33, 34], ⟨[], [(4, .ow 33 7)], [⟨33, .rows tz1 7, false⟩]⟩⟩⟩, ⟨25, 60, 27, ff60, some ⟨[0, 1, 2, 3, 4, 5, 6, 7, 8, 9, 10, 11, 12, 13, 14, 15, 16, 17, 18, 19, 20, 21, 22, 23, 24, 25, 26, 27, 28, 29, 30, 31, 32, 33, 34, 35, 36, 37, 38, 39, 40, 41, 42, 43, 44, 45, 46, 47, 48], [27, 28, 29], ⟨[], [(6, .v (.i .i64)), (7, .v .b)], []⟩⟩⟩]
theorem in17_ok : INsOk Try.prog in17 := ⟨ff44_1_ok, ff65_ok, ff45_ok, ff36_ok, ff48_2_ok, ff60_ok, trivial⟩
def F17 : DT ((.co (.v (.p (.i .i64) (.i .i64))) (.co (.v tz2) (.co (.v (.i .u64)) (.co (.v .s) (.co (.v (.i .i64)) .no))))) : Fm).den → Option (DT (.tup (.co (.v tz2) (.co (.v (.i .i64)) .no)) : Fm).den) := pureT tb17 ex17 in17 9 xf17 _ _ []
def pe17 : PE := ⟨17, (.co (.v (.p (.i .i64) (.i .i64))) (.co (.v tz2) (.co (.v (.i .u64)) (.co (.v .s) (.co (.v (.i .i64)) .no))))), .tup (.co (.v tz2) (.co (.v (.i .i64)) .no)), F17⟩
theorem pe17_ok : pe17.ok Try.prog := pe_of hm tb17_ok ex17_ok in17_ok xf17_ok (by kernel_rfl) (fun _ => rfl)
def xf20 : FX := ⟨(.seq (.reg [(xi 6 (.box 0 2 (.t 0))), (xi 7 (.box 1 3 (.t 1))), (xi 9 (.box 2 1 (.t 3))), (xi 10 (.box 3 1 (.t 4))), (xi 11 (.box 4 1 (.t 5))), (xi 12 (.alloc 5 (.agg [(.v (.int .u64 0)), (.v (.int .u64 0)), (.sl true [])]))), (xi 13 (.mov (.c (.v (.int .u64 0))))), (xi 14 (.mov (.c (.v (.int .i64 0)))))]) (.seq (.reg [(xi 18 (.load true 2 (.t 6))), (xi 19 (.load true 3 (.t 7))), (xi 20 (.mov (.t 2))), (xi 21 (.fn 53 [] [(.t 9), (.t 10), (.t 6), (.t 11)])), (xi 22 (.call 6 44 [(.t 18), (.t 19), (.t 20), (.t 21)])), (xi 17 (.mov (.t 22))), (xi 23 (.ext (.t 17) 0)), (xi 24 (.ext (.t 17) 1)), (xi 15 (.alloc 7 (.agg [(.v (.int .u64 0)), (.v (.int .u64 0)), (.sl true [])]))), (xz (.store 3 (.t 15) (.t 23))), (xi 16 (.mov (.t 24)))]) (.seq (.seq (.reg [(xi 25 (.mov (.t 16))), (xi 26 (.bin .neq (.t 25) (.c (.v (.int .i64 0)))))]) (.cond (.t 26) (.seq (.reg [(xi 27 (.load true 3 (.t 7))), (xi 28 (.mov (.t 16))), (xz (.store 3 (.t 12) (.t 27))), (xi 13 (.mov (.c (.v (.int .u64 0))))), (xi 14 (.mov (.t 28)))]) .ret) .skip)) (.seq (.dr [(2, 3)] [(xi 29 (.load true 3 (.t 15))), (xi 30 (.fad 1 (.t 15))), (xi 31 (.load false 1 (.t 30))), (xz (.store 3 (.t 12) (.t 29))), (xi 13 (.mov (.t 31))), (xi 14 (.mov (.c (.v (.int .i64 0)))))]) .ret)))), [6, 7, 9, 10, 11, 12, 22, 15], 32, [.c 12 27 true 3, .t 13, .t 14], 29⟩
theorem xf20_ok : xf20.ok Try.prog 20 := ⟨_, _, Try.func20, rfl, by kernel_rfl, rfl, by kernel_rfl, rfl, by kernel_rfl, by kernel_rfl⟩
def ff44_2 : FX := ⟨(.seq (.reg [(xi 4 (.box 0 2 (.t 0))), (xi 5 (.box 1 3 (.t 1))), (xi 8 (.alloc 2 (.agg [(.v (.int .u64 0)), (.v (.int .u64 0)), (.sl true [])]))), (xi 9 (.mov (.c (.v (.int .i64 0)))))]) (.seq (.cut ⟨[9, 12, 13, 14, 15, 16, 17, 18, 19, 20, 21, 22, 23, 24, 25, 26, 27], [11], ⟨[], [], [⟨11, .row (.agg (.co (.v (.i .u64)) (.co (.v (.i .u64)) (.co (.nil) .no)))), true⟩]⟩⟩ (.blk 0 (.seq (.cutN ⟨[12, 13, 14, 15, 16, 17, 18, 19, 20], [], ⟨[], [(12, .v .b)], []⟩⟩ (.reg [(xi 13 (.load true 2 (.t 4))), (xi 14 (.call 3 29 [(.t 13)])), (xi 15 (.bin .neq (.t 14) (.c (.v (.int .i64 0))))), (xi 16 (.mov (.t 15))), (xg 17 (.load true 3 (.t 5)) 16 false), (xg 18 (.call 4 26 [(.t 17)]) 16 false), (xg 19 (.bin .neq (.t 18) (.c (.v (.int .i64 0)))) 16 false), (xi 20 (.pick (.t 16) (.c (.v (.bool true))) (.t 19))), (xi 12 (.mov (.t 20)))])) (.cond (.t 12) (.seq (.reg [(xi 21 (.load true 3 (.t 5))), (xz (.store 3 (.t 8) (.t 21))), (xi 9 (.mov (.c (.v (.int .i64 1)))))]) .ret) (.seq (.reg [(xi 23 (.mov (.t 2))), (xi 24 (.fad 0 (.t 5))), (xi 25 (.load false 1 (.t 24))), (xi 26 (.bin .lss (.t 23) (.t 25))), (xi 22 (.mov (.t 26)))]) (.cond (.t 22) (.seq (.reg [(xi 27 (.load true 3 (.t 5))), (xz (.store 3 (.t 8) (.t 27))), (xi 9 (.mov (.c (.v (.int .i64 8)))))]) .ret) .skip)))))) (.seq (.dr [(2, 5)] [(xi 28 (.mov (.t 2))), (xi 29 (.fad 1 (.t 5))), (xi 30 (.load false 1 (.t 29))), (xi 31 (.fad 2 (.t 5))), (xi 32 (.load false 1 (.t 31))), ⟨⟨(some 33), (.callG 5 65 [(.t 32)]), none⟩, .b, [], [18, 19]⟩, (xi 34 (.bld [(.v (.int .u64 0)), (.v (.int .u64 0)), (.sl true [])] [(0, (1, (.t 28))), (1, (1, (.t 30))), (2, (1, (.t 33)))])), (xi 10 (.mov (.c .dead))), (xi 10 (.box 6 3 (.t 34)))]) (.seq (.seq (.reg [(xi 35 (.mov (.t 3))), (xi 36 (.callv 7 (.t 35) [(.t 10)])), (xi 11 (.mov (.t 36)))]) (.seq (.reg [(xi 37 (.mov (.t 11))), (xi 38 (.bin .neq (.t 37) (.c (.v (.int .i64 0)))))]) (.cond (.t 38) (.seq (.reg [(xi 39 (.load true 3 (.t 5))), (xi 40 (.mov (.t 11))), (xz (.store 3 (.t 8) (.t 39))), (xi 9 (.mov (.t 40)))]) .ret) .skip))) (.seq (.reg [(xi 41 (.load true 3 (.t 10))), (xz (.store 3 (.t 8) (.t 41))), (xi 9 (.mov (.c (.v (.int .i64 0)))))]) .ret))))), [4, 5, 8, 14, 18, 33, 10, 36], 42, [.c 8 27 true 3, .t 9], 9⟩
theorem ff44_2_ok : ff44_2.ok Try.prog 44 := ⟨_, _, Try.func44, rfl, by kernel_rfl, rfl, by kernel_rfl, rfl, by kernel_rfl, by kernel_rfl⟩
def ff53 : FX := ⟨(.seq (.reg [(xi 6 (.mov (.c (.v (.int .i64 0)))))]) (.seq (.dr [] [(xi 11 (.mov (.t 0))), (xi 12 (.nilc (.t 11))), (xi 13 (.load true 3 (.t 12))), (xi 14 (.load false 1 (.t 1))), ⟨⟨(some 15), (.callG 0 36 [(.t 13), (.t 14)]), none⟩, .b, [], [23, 24, 25, 26, 27, 28]⟩, (xi 10 (.mov (.t 15))), (xi 16 (.ext (.t 10) 0)), (xi 17 (.ext (.t 10) 1)), (xi 7 (.mov (.t 16))), (xi 8 (.mov (.t 17)))]) (.seq (.cut ⟨[6, 18, 19, 20, 21, 22, 23, 24, 25, 26, 27, 28, 29, 30, 31, 32, 33, 34, 35, 36, 37, 38, 39, 40, 41, 42, 43, 44, 45, 46, 47, 48, 49, 50, 51, 52, 53], [], ⟨[], [], []⟩⟩ (.blk 0 (.seq (.reg [(xi 19 (.load false 1 (.t 2))), (xi 20 (.call 1 54 [(.t 19)])), (xi 21 (.un .not (.t 20))), (xi 18 (.mov (.t 21)))]) (.cond (.t 18) (.seq (.reg [(xi 6 (.mov (.c (.v (.int .i64 1)))))]) .ret) (.seq (.reg [(xi 23 (.mov (.t 8))), (xi 24 (.un .not (.t 23))), (xi 22 (.mov (.t 24)))]) (.cond (.t 22) (.seq (.reg [(xi 6 (.mov (.c (.v (.int .i64 6)))))]) .ret) (.seq (.cutN ⟨[25, 26, 27, 28, 29, 30, 31, 32, 33, 34, 35, 36, 37, 38, 39, 40, 41, 42, 43, 44, 45, 46, 47], [], ⟨[], [(25, .v .b)], []⟩⟩ (.rdr [(xi 26 (.mov (.t 0))), (xi 27 (.nilc (.t 26))), (xi 28 (.fad 2 (.t 27))), (xi 29 (.load false 1 (.t 28))), (xi 30 (.mov (.t 7))), (xi 31 (.iad 7 (.t 29) (.t 30))), (xi 32 (.fad 1 (.t 31))), (xi 33 (.load false 1 (.t 32))), (xi 34 (.bin .neq (.t 33) (.c (.v (.int .i64 0))))), (xi 35 (.mov (.t 34))), (xg 36 (.mov (.t 0)) 35 false), (xg 37 (.nilc (.t 36)) 35 false), (xg 38 (.fad 2 (.t 37)) 35 false), (xg 39 (.load false 1 (.t 38)) 35 false), (xg 40 (.mov (.t 7)) 35 false), (xg 41 (.iad 7 (.t 39) (.t 40)) 35 false), (xg 42 (.fad 4 (.t 41)) 35 false), (xg 43 (.load false 1 (.t 42)) 35 false), (xg 44 (.fad 1 (.t 3)) 35 false), (xg 45 (.load false 1 (.t 44)) 35 false), (xg 46 (.bin .geq (.t 43) (.t 45)) 35 false), (xi 47 (.pick (.t 35) (.c (.v (.bool true))) (.t 46))), (xi 25 (.mov (.t 47)))])) (.cond (.t 25) (.seq (.reg [(xi 6 (.mov (.c (.v (.int .i64 7)))))]) .ret) (.seq (.reg [(xi 49 (.mov (.t 0))), (xi 50 (.nilc (.t 49))), (xi 51 (.fad 1 (.t 50))), (xi 52 (.load false 1 (.t 51))), (xi 53 (.bin .eql (.t 52) (.c (.v (.int .u64 18446744073709551615))))), (xi 48 (.mov (.t 53)))]) (.cond (.t 48) (.seq (.reg [(xi 6 (.mov (.c (.v (.int .i64 4)))))]) .ret) .skip)))))))))) (.seq (.reg [(xi 54 (.mov (.t 0))), (xi 55 (.nilc (.t 54))), (xi 56 (.fad 1 (.t 55))), (xi 57 (.load false 1 (.t 56))), (xi 58 (.bin .add (.t 57) (.c (.v (.int .u64 1))))), (xi 59 (.nilc (.t 54))), (xi 60 (.fad 1 (.t 59))), (xz (.store 1 (.t 60) (.t 58)))]) (.seq (.reg [(xi 61 (.mov (.t 0))), (xi 62 (.nilc (.t 61))), (xi 63 (.fad 2 (.t 62))), (xi 64 (.load false 1 (.t 63))), (xi 65 (.mov (.t 7))), (xi 66 (.iad 7 (.t 64) (.t 65))), (xi 9 (.mov (.t 66)))]) (.seq (.dr [(5, 18), (6, 18), (6, 21)] [(xi 67 (.mov (.t 9))), (xi 68 (.mov (.t 9))), (xi 69 (.mov (.t 9))), (xi 70 (.mov (.t 9))), (xi 71 (.mov (.t 9))), (xi 72 (.load false 1 (.t 2))), (xi 73 (.load false 1 (.t 4))), (xi 74 (.mov (.t 0))), (xi 75 (.nilc (.t 74))), (xi 76 (.fad 1 (.t 75))), (xi 77 (.load false 1 (.t 76))), (xi 78 (.mov (.t 9))), (xi 79 (.nilc (.t 78))), (xi 80 (.fad 4 (.t 79))), (xi 81 (.load false 1 (.t 80))), (xi 82 (.bin .add (.t 81) (.c (.v (.int .i64 1))))), (xi 83 (.nilc (.t 67))), (xi 84 (.fad 1 (.t 83))), (xz (.store 1 (.t 84) (.c (.v (.int .i64 1))))), (xi 85 (.nilc (.t 68))), (xi 86 (.fad 5 (.t 85))), (xz (.store 1 (.t 86) (.t 72))), (xi 87 (.nilc (.t 69))), (xi 88 (.fad 6 (.t 87))), (xz (.store 1 (.t 88) (.t 73))), (xi 89 (.nilc (.t 70))), (xi 90 (.fad 3 (.t 89))), (xz (.store 1 (.t 90) (.t 77))), (xi 91 (.nilc (.t 71))), (xi 92 (.fad 4 (.t 91))), (xz (.store 1 (.t 92) (.t 82)))]) (.seq (.reg [(xi 6 (.mov (.c (.v (.int .i64 0)))))]) .ret))))))), [15, 20], 93, [.t 6], 3⟩
theorem ff53_ok : ff53.ok Try.prog 53 := ⟨_, _, Try.func53, rfl, by kernel_rfl, rfl, by kernel_rfl, rfl, by kernel_rfl, by kernel_rfl⟩
def tb20 : List PE := [pe26, pe29, pe54, pe61]
theorem tb20_ok : PEsOk Try.prog tb20 := ⟨pe26_ok, pe29_ok, pe54_ok, pe61_ok, trivial⟩
def ex20 : List EX := []
theorem ex20_ok : EXsOk Try.prog ex20 := trivial
def in20 : List IN := [⟨6, 44, 9, ff44_2, some ⟨[0, 1, 2, 3, 4, 5, 6, 7, 8, 9, 10, 11, 12, 13, 14, 15, 16, 17, 18, 19, 20, 21, 22, 23, 24, 25, 26, 27, 28, 29, 30, 31, 32, 33, 34, 35, 36, 37, 38, 39, 40, 41], [9, 10, 11, 12, 13, 14, 15, 16, 17, 18, 19, 20, 21, 22, 23, 24, 25, 26, 27, 28], ⟨[18], [(8, .ptr 11 0), (9, .v (.i .i64))], [⟨11, .row (.v tz2), false⟩]⟩⟩⟩, ⟨14, 65, 18, ff65, some ⟨[0, 1, 2, 3, 4, 5, 6, 7], [18, 19], ⟨[], [(2, .ow 18 7)], [⟨18, .rows tz1 7, false⟩]⟩⟩⟩, ⟨16, 53, 20, ff53, some ⟨[0, 1, 2, 3, 4, 5, 6, 7, 8, 9, 10, 11, 12, 13, 14, 15, 16, 17, 18, 19, 20, 21, 22, 23, 24, 25, 26, 27, 28, 29, 30, 31, 32, 33, 34, 35, 36, 37, 38, 39, 40, 41, 42, 43, 44, 45, 46, 47, 48, 49, 50, 51, 52, 53, 54, 55, 56, 57, 58, 59, 60, 61, 62, 63, 64, 65, 66, 67, 68, 69, 70, 71, 72, 73, 74, 75, 76, 77, 78, 79, 80, 81, 82, 83, 84, 85, 86, 87, 88, 89, 90, 91, 92], [15, 18, 20, 21, 22, 23, 24, 25, 26, 27, 28], ⟨[], [(6, .v (.i .i64))], [⟨15, .row (.agg (.co (.v (.i .u64)) (.co (.v (.i .u64)) (.co (.ow 18 7) .no)))), true⟩, ⟨18, .rows tz1 7, true⟩]⟩⟩⟩, ⟨20, 36, 23, ff36, some ⟨[0, 1, 2, 3, 4, 5, 6, 7, 8, 9, 10, 11], [23, 24, 25, 26, 27, 28], ⟨[], [(4, .v (.i .i64)), (5, .v .b)], []⟩⟩⟩, ⟨24, 60, 26, ff60, some ⟨[0, 1, 2, 3, 4, 5, 6, 7, 8, 9, 10, 11, 12, 13, 14, 15, 16, 17, 18, 19, 20, 21, 22, 23, 24, 25, 26, 27, 28, 29, 30, 31, 32, 33, 34, 35, 36, 37, 38, 39, 40, 41, 42, 43, 44, 45, 46, 47, 48], [26, 27, 28], ⟨[], [(6, .v (.i .i64)), (7, .v .b)], []⟩⟩⟩]
theorem in20_ok : INsOk Try.prog in20 := ⟨ff44_2_ok, ff65_ok, ff53_ok, ff36_ok, ff60_ok, trivial⟩
def F20 : DT ((.co (.v (.p (.i .i64) (.i .i64))) (.co (.v tz2) (.co (.v (.i .u64)) (.co (.v .s) (.co (.v (.i .i64)) (.co (.v (.i .u64)) .no)))))) : Fm).den → Option (DT (.tup (.co (.v tz2) (.co (.v (.i .u64)) (.co (.v (.i .i64)) .no))) : Fm).den) := pureT tb20 ex20 in20 9 xf20 _ _ []
def pe20 : PE := ⟨20, (.co (.v (.p (.i .i64) (.i .i64))) (.co (.v tz2) (.co (.v (.i .u64)) (.co (.v .s) (.co (.v (.i .i64)) (.co (.v (.i .u64)) .no)))))), .tup (.co (.v tz2) (.co (.v (.i .u64)) (.co (.v (.i .i64)) .no))), F20⟩
theorem pe20_ok : pe20.ok Try.prog := pe_of hm tb20_ok ex20_ok in20_ok xf20_ok (by kernel_rfl) (fun _ => rfl)
def xf16 : FX := ⟨(.seq (.reg [(xi 4 (.box 0 2 (.t 0))), (xi 5 (.box 1 3 (.t 1))), (xi 8 (.alloc 2 (.agg [(.v (.int .u64 0)), (.v (.int .u64 0)), (.sl true [])]))), (xi 9 (.mov (.c (.v (.int .i64 0)))))]) (.seq (.reg [(xi 10 (.load true 2 (.t 4))), (xi 11 (.load true 3 (.t 5))), (xi 12 (.mov (.t 2))), (xi 13 (.mov (.t 3))), (xi 14 (.call 3 37 [(.t 10), (.t 11), (.t 12), (.t 13), (.c (.clo 42 [] []))])), (xi 15 (.ext (.t 14) 0)), (xi 16 (.ext (.t 14) 1)), (xz (.store 3 (.t 8) (.t 15))), (xi 9 (.mov (.t 16)))]) .ret)), [4, 5, 8, 14], 17, [.c 8 27 true 3, .t 9], 34⟩
theorem xf16_ok : xf16.ok Try.prog 16 := ⟨_, _, Try.func16, rfl, by kernel_rfl, rfl, by kernel_rfl, rfl, by kernel_rfl, by kernel_rfl⟩
def ff44_3 : FX := ⟨(.seq (.reg [(xi 4 (.box 0 2 (.t 0))), (xi 5 (.box 1 3 (.t 1))), (xi 8 (.alloc 2 (.agg [(.v (.int .u64 0)), (.v (.int .u64 0)), (.sl true [])]))), (xi 9 (.mov (.c (.v (.int .i64 0)))))]) (.seq (.cut ⟨[9, 12, 13, 14, 15, 16, 17, 18, 19, 20, 21, 22, 23, 24, 25, 26, 27], [14], ⟨[], [], [⟨14, .row (.agg (.co (.v (.i .u64)) (.co (.v (.i .u64)) (.co (.nil) .no)))), true⟩]⟩⟩ (.blk 0 (.seq (.cutN ⟨[12, 13, 14, 15, 16, 17, 18, 19, 20], [], ⟨[], [(12, .v .b)], []⟩⟩ (.reg [(xi 13 (.load true 2 (.t 4))), (xi 14 (.call 3 29 [(.t 13)])), (xi 15 (.bin .neq (.t 14) (.c (.v (.int .i64 0))))), (xi 16 (.mov (.t 15))), (xg 17 (.load true 3 (.t 5)) 16 false), (xg 18 (.call 4 26 [(.t 17)]) 16 false), (xg 19 (.bin .neq (.t 18) (.c (.v (.int .i64 0)))) 16 false), (xi 20 (.pick (.t 16) (.c (.v (.bool true))) (.t 19))), (xi 12 (.mov (.t 20)))])) (.cond (.t 12) (.seq (.reg [(xi 21 (.load true 3 (.t 5))), (xz (.store 3 (.t 8) (.t 21))), (xi 9 (.mov (.c (.v (.int .i64 1)))))]) .ret) (.seq (.reg [(xi 23 (.mov (.t 2))), (xi 24 (.fad 0 (.t 5))), (xi 25 (.load false 1 (.t 24))), (xi 26 (.bin .lss (.t 23) (.t 25))), (xi 22 (.mov (.t 26)))]) (.cond (.t 22) (.seq (.reg [(xi 27 (.load true 3 (.t 5))), (xz (.store 3 (.t 8) (.t 27))), (xi 9 (.mov (.c (.v (.int .i64 8)))))]) .ret) .skip)))))) (.seq (.dr [(2, 5)] [(xi 28 (.mov (.t 2))), (xi 29 (.fad 1 (.t 5))), (xi 30 (.load false 1 (.t 29))), (xi 31 (.fad 2 (.t 5))), (xi 32 (.load false 1 (.t 31))), ⟨⟨(some 33), (.callG 5 65 [(.t 32)]), none⟩, .b, [], [21, 22]⟩, (xi 34 (.bld [(.v (.int .u64 0)), (.v (.int .u64 0)), (.sl true [])] [(0, (1, (.t 28))), (1, (1, (.t 30))), (2, (1, (.t 33)))])), (xi 10 (.mov (.c .dead))), (xi 10 (.box 6 3 (.t 34)))]) (.seq (.seq (.reg [(xi 35 (.mov (.t 3))), (xi 36 (.callv 7 (.t 35) [(.t 10)])), (xi 11 (.mov (.t 36)))]) (.seq (.reg [(xi 37 (.mov (.t 11))), (xi 38 (.bin .neq (.t 37) (.c (.v (.int .i64 0)))))]) (.cond (.t 38) (.seq (.reg [(xi 39 (.load true 3 (.t 5))), (xi 40 (.mov (.t 11))), (xz (.store 3 (.t 8) (.t 39))), (xi 9 (.mov (.t 40)))]) .ret) .skip))) (.seq (.reg [(xi 41 (.load true 3 (.t 10))), (xz (.store 3 (.t 8) (.t 41))), (xi 9 (.mov (.c (.v (.int .i64 0)))))]) .ret))))), [4, 5, 8, 14, 18, 33, 10, 36], 42, [.c 8 27 true 3, .t 9], 9⟩
theorem ff44_3_ok : ff44_3.ok Try.prog 44 := ⟨_, _, Try.func44, rfl, by kernel_rfl, rfl, by kernel_rfl, rfl, by kernel_rfl, by kernel_rfl⟩
def ff63_1 : FX := ⟨(.seq (.reg [(xi 4 (.mov (.c (.v (.int .i64 0)))))]) (.seq (.dr [] [(xi 8 (.mov (.t 0))), (xi 9 (.nilc (.t 8))), (xi 10 (.load true 3 (.t 9))), (xi 11 (.load false 1 (.t 1))), ⟨⟨(some 12), (.callG 0 36 [(.t 10), (.t 11)]), none⟩, .b, [], [26, 27, 28, 29, 30, 31]⟩, (xi 7 (.mov (.t 12))), (xi 13 (.ext (.t 7) 0)), (xi 14 (.ext (.t 7) 1)), (xi 5 (.mov (.t 13))), (xi 6 (.mov (.t 14)))]) (.seq (.seq (.reg [(xi 15 (.mov (.t 6))), (xi 16 (.un .not (.t 15)))]) (.cond (.t 16) (.seq (.reg [(xi 4 (.mov (.c (.v (.int .i64 6)))))]) .ret) .skip)) (.seq (.dr [] [(xi 17 (.load false 1 (.t 2))), (xi 18 (.mov (.t 0))), (xi 19 (.nilc (.t 18))), (xi 20 (.fad 2 (.t 19))), (xi 21 (.load false 1 (.t 20))), (xi 22 (.mov (.t 5))), (xi 23 (.iad 7 (.t 21) (.t 22))), ⟨⟨(some 24), (.callvG 1 (.t 17) [(.t 23)]), none⟩, .b, [], [21, 32, 33]⟩, (xi 4 (.mov (.t 24)))]) .ret)))), [12, 24], 25, [.t 4], 3⟩
theorem ff63_1_ok : ff63_1.ok Try.prog 63 := ⟨_, _, Try.func63, rfl, by kernel_rfl, rfl, by kernel_rfl, rfl, by kernel_rfl, by kernel_rfl⟩
def ff42 : FX := ⟨(.seq (.reg [(xi 2 (.mov (.c (.v (.int .i64 0)))))]) (.seq (.seq (.reg [(xi 3 (.mov (.t 0))), (xi 4 (.nilc (.t 3))), (xi 5 (.load true 7 (.t 4))), (xi 6 (.call 0 43 [(.t 5)])), (xi 7 (.un .not (.t 6)))]) (.cond (.t 7) (.seq (.reg [(xi 2 (.mov (.c (.v (.int .i64 7)))))]) .ret) .skip)) (.seq (.reg [(xi 8 (.mov (.t 0))), (xi 9 (.mov (.t 0))), (xi 10 (.mov (.t 0))), (xi 11 (.nilc (.t 8))), (xi 12 (.fad 1 (.t 11))), (xz (.store 1 (.t 12) (.c (.v (.int .i64 4))))), (xi 13 (.nilc (.t 9))), (xi 14 (.fad 5 (.t 13))), (xz (.store 1 (.t 14) (.c (.v (.int .i64 (-1)))))), (xi 15 (.nilc (.t 10))), (xi 16 (.fad 6 (.t 15))), (xz (.store 1 (.t 16) (.c (.v (.int .u64 0)))))]) (.seq (.reg [(xi 2 (.mov (.c (.v (.int .i64 0)))))]) .ret)))), [6], 17, [.t 2], 2⟩
theorem ff42_ok : ff42.ok Try.prog 42 := ⟨_, _, Try.func42, rfl, by kernel_rfl, rfl, by kernel_rfl, rfl, by kernel_rfl, by kernel_rfl⟩
def tb16 : List PE := [pe26, pe29, pe43, pe61]
theorem tb16_ok : PEsOk Try.prog tb16 := ⟨pe26_ok, pe29_ok, pe43_ok, pe61_ok, trivial⟩
def ex16 : List EX := []
theorem ex16_ok : EXsOk Try.prog ex16 := trivial
def in16 : List IN := [⟨3, 37, 5, ff37, none⟩, ⟨10, 44, 12, ff44_3, some ⟨[0, 1, 2, 3, 4, 5, 6, 7, 8, 9, 10, 11, 12, 13, 14, 15, 16, 17, 18, 19, 20, 21, 22, 23, 24, 25, 26, 27, 28, 29, 30, 31, 32, 33, 34, 35, 36, 37, 38, 39, 40, 41], [12, 13, 14, 15, 16, 17, 18, 19, 20, 21, 22, 23, 24, 25, 26, 27, 28, 29, 30, 31, 32, 33], ⟨[21], [(8, .ptr 14 0), (9, .v (.i .i64))], [⟨14, .row (.v tz2), false⟩]⟩⟩⟩, ⟨17, 65, 21, ff65, some ⟨[0, 1, 2, 3, 4, 5, 6, 7], [21, 22], ⟨[], [(2, .ow 21 7)], [⟨21, .rows tz1 7, false⟩]⟩⟩⟩, ⟨19, 63, 23, ff63_1, some ⟨[0, 1, 2, 3, 4, 5, 6, 7, 8, 9, 10, 11, 12, 13, 14, 15, 16, 17, 18, 19, 20, 21, 22, 23, 24], [21, 23, 24, 25, 26, 27, 28, 29, 30, 31, 32, 33], ⟨[], [(4, .v (.i .i64))], [⟨21, .rows tz1 7, true⟩]⟩⟩⟩, ⟨23, 36, 26, ff36, some ⟨[0, 1, 2, 3, 4, 5, 6, 7, 8, 9, 10, 11], [26, 27, 28, 29, 30, 31], ⟨[], [(4, .v (.i .i64)), (5, .v .b)], []⟩⟩⟩, ⟨24, 42, 32, ff42, some ⟨[0, 1, 2, 3, 4, 5, 6, 7, 8, 9, 10, 11, 12, 13, 14, 15, 16], [21, 32, 33], ⟨[], [(2, .v (.i .i64))], [⟨21, .rows tz1 7, true⟩]⟩⟩⟩, ⟨27, 60, 29, ff60, some ⟨[0, 1, 2, 3, 4, 5, 6, 7, 8, 9, 10, 11, 12, 13, 14, 15, 16, 17, 18, 19, 20, 21, 22, 23, 24, 25, 26, 27, 28, 29, 30, 31, 32, 33, 34, 35, 36, 37, 38, 39, 40, 41, 42, 43, 44, 45, 46, 47, 48], [29, 30, 31], ⟨[], [(6, .v (.i .i64)), (7, .v .b)], []⟩⟩⟩]
theorem in16_ok : INsOk Try.prog in16 := ⟨ff37_ok, ff44_3_ok, ff65_ok, ff63_1_ok, ff36_ok, ff42_ok, ff60_ok, trivial⟩
def F16 : DT ((.co (.v (.p (.i .i64) (.i .i64))) (.co (.v tz2) (.co (.v (.i .u64)) (.co (.v .s) .no)))) : Fm).den → Option (DT (.tup (.co (.v tz2) (.co (.v (.i .i64)) .no)) : Fm).den) := pureT tb16 ex16 in16 9 xf16 _ _ []
def pe16 : PE := ⟨16, (.co (.v (.p (.i .i64) (.i .i64))) (.co (.v tz2) (.co (.v (.i .u64)) (.co (.v .s) .no)))), .tup (.co (.v tz2) (.co (.v (.i .i64)) .no)), F16⟩
theorem pe16_ok : pe16.ok Try.prog := pe_of hm tb16_ok ex16_ok in16_ok xf16_ok (by kernel_rfl) (fun _ => rfl)
def xf22 : FX := ⟨(.seq (.reg [(xi 5 (.box 0 2 (.t 0))), (xi 6 (.box 1 3 (.t 1))), (xi 10 (.alloc 2 (.agg [(.v (.int .u64 0)), (.v (.int .u64 0)), (.sl true [])]))), (xi 11 (.mov (.c (.v (.int .i64 0)))))]) (.seq (.dr [(0, 6), (1, 6)] [(xi 12 (.load true 2 (.t 5))), (xi 13 (.load true 3 (.t 6))), (xi 14 (.mov (.t 2))), (xi 15 (.mov (.t 3))), (xi 16 (.mov (.t 4))), (xi 17 (.fn 55 [] [(.t 5)])), ⟨⟨(some 18), (.callG 3 38 [(.t 16), (.t 17)]), none⟩, .b, [], [6, 7, 8]⟩, ⟨⟨(some 19), (.callG 4 37 [(.t 12), (.t 13), (.t 14), (.t 15), (.t 18)]), none⟩, .b, [], [9, 10, 11, 12, 13, 14, 15, 16, 17, 18, 19, 20, 21, 22, 23, 24, 25, 26, 27, 28, 29, 30, 31, 32, 33, 34, 35, 36, 37, 38, 39, 40, 41]⟩, (xi 20 (.ext (.t 19) 0)), (xi 21 (.ext (.t 19) 1)), (xz (.store 3 (.t 10) (.t 20))), (xi 11 (.mov (.t 21)))]) .ret)), [5, 6, 10, 18, 19], 22, [.c 10 27 true 3, .t 11], 42⟩
theorem xf22_ok : xf22.ok Try.prog 22 := ⟨_, _, Try.func22, rfl, by kernel_rfl, rfl, by kernel_rfl, rfl, by kernel_rfl, by kernel_rfl⟩
def ff44_4 : FX := ⟨(.seq (.reg [(xi 4 (.box 0 2 (.t 0))), (xi 5 (.box 1 3 (.t 1))), (xi 8 (.alloc 2 (.agg [(.v (.int .u64 0)), (.v (.int .u64 0)), (.sl true [])]))), (xi 9 (.mov (.c (.v (.int .i64 0)))))]) (.seq (.cut ⟨[9, 12, 13, 14, 15, 16, 17, 18, 19, 20, 21, 22, 23, 24, 25, 26, 27], [18], ⟨[], [], [⟨18, .row (.agg (.co (.v (.i .u64)) (.co (.v (.i .u64)) (.co (.nil) .no)))), true⟩]⟩⟩ (.blk 0 (.seq (.cutN ⟨[12, 13, 14, 15, 16, 17, 18, 19, 20], [], ⟨[], [(12, .v .b)], []⟩⟩ (.reg [(xi 13 (.load true 2 (.t 4))), (xi 14 (.call 3 29 [(.t 13)])), (xi 15 (.bin .neq (.t 14) (.c (.v (.int .i64 0))))), (xi 16 (.mov (.t 15))), (xg 17 (.load true 3 (.t 5)) 16 false), (xg 18 (.call 4 26 [(.t 17)]) 16 false), (xg 19 (.bin .neq (.t 18) (.c (.v (.int .i64 0)))) 16 false), (xi 20 (.pick (.t 16) (.c (.v (.bool true))) (.t 19))), (xi 12 (.mov (.t 20)))])) (.cond (.t 12) (.seq (.reg [(xi 21 (.load true 3 (.t 5))), (xz (.store 3 (.t 8) (.t 21))), (xi 9 (.mov (.c (.v (.int .i64 1)))))]) .ret) (.seq (.reg [(xi 23 (.mov (.t 2))), (xi 24 (.fad 0 (.t 5))), (xi 25 (.load false 1 (.t 24))), (xi 26 (.bin .lss (.t 23) (.t 25))), (xi 22 (.mov (.t 26)))]) (.cond (.t 22) (.seq (.reg [(xi 27 (.load true 3 (.t 5))), (xz (.store 3 (.t 8) (.t 27))), (xi 9 (.mov (.c (.v (.int .i64 8)))))]) .ret) .skip)))))) (.seq (.dr [(2, 5)] [(xi 28 (.mov (.t 2))), (xi 29 (.fad 1 (.t 5))), (xi 30 (.load false 1 (.t 29))), (xi 31 (.fad 2 (.t 5))), (xi 32 (.load false 1 (.t 31))), ⟨⟨(some 33), (.callG 5 65 [(.t 32)]), none⟩, .b, [], [25, 26]⟩, (xi 34 (.bld [(.v (.int .u64 0)), (.v (.int .u64 0)), (.sl true [])] [(0, (1, (.t 28))), (1, (1, (.t 30))), (2, (1, (.t 33)))])), (xi 10 (.mov (.c .dead))), (xi 10 (.box 6 3 (.t 34)))]) (.seq (.seq (.reg [(xi 35 (.mov (.t 3))), (xi 36 (.callv 7 (.t 35) [(.t 10)])), (xi 11 (.mov (.t 36)))]) (.seq (.reg [(xi 37 (.mov (.t 11))), (xi 38 (.bin .neq (.t 37) (.c (.v (.int .i64 0)))))]) (.cond (.t 38) (.seq (.reg [(xi 39 (.load true 3 (.t 5))), (xi 40 (.mov (.t 11))), (xz (.store 3 (.t 8) (.t 39))), (xi 9 (.mov (.t 40)))]) .ret) .skip))) (.seq (.reg [(xi 41 (.load true 3 (.t 10))), (xz (.store 3 (.t 8) (.t 41))), (xi 9 (.mov (.c (.v (.int .i64 0)))))]) .ret))))), [4, 5, 8, 14, 18, 33, 10, 36], 42, [.c 8 27 true 3, .t 9], 9⟩
theorem ff44_4_ok : ff44_4.ok Try.prog 44 := ⟨_, _, Try.func44, rfl, by kernel_rfl, rfl, by kernel_rfl, rfl, by kernel_rfl, by kernel_rfl⟩
def ff63_2 : FX := ⟨(.seq (.reg [(xi 4 (.mov (.c (.v (.int .i64 0)))))]) (.seq (.dr [] [(xi 8 (.mov (.t 0))), (xi 9 (.nilc (.t 8))), (xi 10 (.load true 3 (.t 9))), (xi 11 (.load false 1 (.t 1))), ⟨⟨(some 12), (.callG 0 36 [(.t 10), (.t 11)]), none⟩, .b, [], [30, 31, 32, 33, 34, 35]⟩, (xi 7 (.mov (.t 12))), (xi 13 (.ext (.t 7) 0)), (xi 14 (.ext (.t 7) 1)), (xi 5 (.mov (.t 13))), (xi 6 (.mov (.t 14)))]) (.seq (.seq (.reg [(xi 15 (.mov (.t 6))), (xi 16 (.un .not (.t 15)))]) (.cond (.t 16) (.seq (.reg [(xi 4 (.mov (.c (.v (.int .i64 6)))))]) .ret) .skip)) (.seq (.dr [] [(xi 17 (.load false 1 (.t 2))), (xi 18 (.mov (.t 0))), (xi 19 (.nilc (.t 18))), (xi 20 (.fad 2 (.t 19))), (xi 21 (.load false 1 (.t 20))), (xi 22 (.mov (.t 5))), (xi 23 (.iad 7 (.t 21) (.t 22))), ⟨⟨(some 24), (.callvG 1 (.t 17) [(.t 23)]), none⟩, .b, [], [25, 36, 37, 38, 39, 40, 41]⟩, (xi 4 (.mov (.t 24)))]) .ret)))), [12, 24], 25, [.t 4], 3⟩
theorem ff63_2_ok : ff63_2.ok Try.prog 63 := ⟨_, _, Try.func63, rfl, by kernel_rfl, rfl, by kernel_rfl, rfl, by kernel_rfl, by kernel_rfl⟩
def ff55 : FX := ⟨(.reg [(xi 3 (.load true 2 (.t 1))), (xi 4 (.mov (.t 0))), (xi 5 (.call 0 40 [(.t 3), (.t 4)]))]), [5], 6, [], 2⟩
theorem ff55_ok : ff55.ok Try.prog 55 := ⟨_, _, Try.func55, rfl, by kernel_rfl, rfl, by kernel_rfl, rfl, by kernel_rfl, by kernel_rfl⟩
def tb22 : List PE := [pe26, pe29, pe61]
theorem tb22_ok : PEsOk Try.prog tb22 := ⟨pe26_ok, pe29_ok, pe61_ok, trivial⟩
def ex22 : List EX := []
theorem ex22_ok : EXsOk Try.prog ex22 := trivial
def in22 : List IN := [⟨3, 38, 6, ff38, some ⟨[0, 1, 2, 3, 4, 5], [6, 7, 8], ⟨[], [(4, .clo 64 .no (.co (.ptr 6 0) (.co (.ptr 7 0) .no)))], [⟨6, .row (.v (.i .u64)), false⟩, ⟨7, .row (.clo 55 .no (.co (.ptr 0 0) .no)), false⟩]⟩⟩⟩, ⟨4, 37, 9, ff37, some ⟨[0, 1, 2, 3, 4, 5, 6, 7, 8, 9, 10, 11, 12, 13, 14, 15, 16, 17, 18], [9, 10, 11, 12, 13, 14, 15, 16, 17, 18, 19, 20, 21, 22, 23, 24, 25, 26, 27, 28, 29, 30, 31, 32, 33, 34, 35, 36, 37, 38, 39, 40, 41], ⟨[25], [(10, .ptr 13 0), (11, .v (.i .i64))], [⟨13, .row (.v tz2), false⟩]⟩⟩⟩, ⟨14, 44, 16, ff44_4, some ⟨[0, 1, 2, 3, 4, 5, 6, 7, 8, 9, 10, 11, 12, 13, 14, 15, 16, 17, 18, 19, 20, 21, 22, 23, 24, 25, 26, 27, 28, 29, 30, 31, 32, 33, 34, 35, 36, 37, 38, 39, 40, 41], [16, 17, 18, 19, 20, 21, 22, 23, 24, 25, 26, 27, 28, 29, 30, 31, 32, 33, 34, 35, 36, 37, 38, 39, 40, 41], ⟨[25], [(8, .ptr 18 0), (9, .v (.i .i64))], [⟨18, .row (.v tz2), false⟩]⟩⟩⟩, ⟨21, 65, 25, ff65, some ⟨[0, 1, 2, 3, 4, 5, 6, 7], [25, 26], ⟨[], [(2, .ow 25 7)], [⟨25, .rows tz1 7, false⟩]⟩⟩⟩, ⟨23, 63, 27, ff63_2, some ⟨[0, 1, 2, 3, 4, 5, 6, 7, 8, 9, 10, 11, 12, 13, 14, 15, 16, 17, 18, 19, 20, 21, 22, 23, 24], [25, 27, 28, 29, 30, 31, 32, 33, 34, 35, 36, 37, 38, 39, 40, 41], ⟨[], [(4, .v (.i .i64))], [⟨25, .rows tz1 7, true⟩]⟩⟩⟩, ⟨27, 36, 30, ff36, some ⟨[0, 1, 2, 3, 4, 5, 6, 7, 8, 9, 10, 11], [30, 31, 32, 33, 34, 35], ⟨[], [(4, .v (.i .i64)), (5, .v .b)], []⟩⟩⟩, ⟨28, 64, 36, ff64, some ⟨[0, 1, 2, 3, 4, 5, 6, 7, 8, 9, 10, 11, 12, 13, 14, 15, 16, 17, 18, 19, 20], [25, 36, 37, 38, 39, 40, 41], ⟨[], [(4, .v (.i .i64))], [⟨25, .rows tz1 7, true⟩]⟩⟩⟩, ⟨31, 60, 33, ff60, some ⟨[0, 1, 2, 3, 4, 5, 6, 7, 8, 9, 10, 11, 12, 13, 14, 15, 16, 17, 18, 19, 20, 21, 22, 23, 24, 25, 26, 27, 28, 29, 30, 31, 32, 33, 34, 35, 36, 37, 38, 39, 40, 41, 42, 43, 44, 45, 46, 47, 48], [33, 34, 35], ⟨[], [(6, .v (.i .i64)), (7, .v .b)], []⟩⟩⟩, ⟨36, 55, 38, ff55, none⟩, ⟨38, 40, 40, ff40, some ⟨[0, 1, 2, 3, 4, 5, 6, 7, 8, 9, 10, 11, 12, 13, 14, 15, 16, 17, 18, 19, 20, 21, 22], [25, 40, 41], ⟨[], [], [⟨25, .rows tz1 7, true⟩]⟩⟩⟩]
theorem in22_ok : INsOk Try.prog in22 := ⟨ff38_ok, ff37_ok, ff44_4_ok, ff65_ok, ff63_2_ok, ff36_ok, ff64_ok, ff60_ok, ff55_ok, ff40_ok, trivial⟩
def F22 : DT ((.co (.v (.p (.i .i64) (.i .i64))) (.co (.v tz2) (.co (.v (.i .u64)) (.co (.v .s) (.co (.v (.i .u64)) .no))))) : Fm).den → Option (DT (.tup (.co (.v tz2) (.co (.v (.i .i64)) .no)) : Fm).den) := pureT tb22 ex22 in22 9 xf22 _ _ []
def pe22 : PE := ⟨22, (.co (.v (.p (.i .i64) (.i .i64))) (.co (.v tz2) (.co (.v (.i .u64)) (.co (.v .s) (.co (.v (.i .u64)) .no))))), .tup (.co (.v tz2) (.co (.v (.i .i64)) .no)), F22⟩
theorem pe22_ok : pe22.ok Try.prog := pe_of hm tb22_ok ex22_ok in22_ok xf22_ok (by kernel_rfl) (fun _ => rfl)
def xf24 : FX := ⟨(.seq (.reg [(xi 3 (.box 0 2 (.t 0))), (xi 4 (.box 1 3 (.t 1))), (xi 5 (.box 2 5 (.t 2))), (xi 6 (.alloc 3 (.agg [(.v (.int .u64 0)), (.v (.int .u64 0)), (.sl true [])]))), (xi 7 (.mov (.c (.v (.int .i64 0)))))]) (.seq (.rdr [(xi 13 (.fad 1 (.t 5))), (xi 14 (.load false 1 (.t 13))), (xi 15 (.bin .rem (.t 14) (.c (.v (.int .u8 8))))), (xi 16 (.conv .u64 (.t 15))), (xi 17 (.fad 4 (.t 5))), (xi 18 (.load false 1 (.t 17))), (xi 19 (.bin .rem (.t 18) (.c (.v (.int .u8 24))))), (xi 20 (.conv .u64 (.t 19))), (xi 8 (.mov (.t 16))), (xi 9 (.mov (.t 20)))]) (.seq (.seq (.reg [(xi 21 (.fad 0 (.t 5))), (xi 22 (.load false 1 (.t 21))), (xi 23 (.bin .rem (.t 22) (.c (.v (.int .u8 6)))))]) (.blk 0 (.seq (.reg [(xi 25 (.bin .eql (.t 23) (.c (.v (.int .u8 0))))), (xi 24 (.mov (.t 25)))]) (.cond (.t 24) (.seq (.reg [(xi 26 (.load true 2 (.t 3))), (xi 27 (.load true 3 (.t 4))), (xi 28 (.mov (.t 8))), (xi 29 (.fad 2 (.t 5))), (xi 30 (.load false 1 (.t 29))), (xi 31 (.fad 3 (.t 5))), (xi 32 (.load false 1 (.t 31))), (xi 33 (.bin .rem (.t 32) (.c (.v (.int .u8 10))))), (xi 34 (.conv .i64 (.t 33))), (xi 35 (.call 4 17 [(.t 26), (.t 27), (.t 28), (.t 30), (.t 34)])), (xi 36 (.ext (.t 35) 0)), (xi 37 (.ext (.t 35) 1)), (xz (.store 3 (.t 6) (.t 36))), (xi 7 (.mov (.t 37)))]) .ret) (.seq (.reg [(xi 39 (.bin .eql (.t 23) (.c (.v (.int .u8 1))))), (xi 38 (.mov (.t 39)))]) (.cond (.t 38) (.seq (.reg [(xi 40 (.load true 2 (.t 3))), (xi 41 (.load true 3 (.t 4))), (xi 42 (.mov (.t 8))), (xi 43 (.fad 2 (.t 5))), (xi 44 (.load false 1 (.t 43))), (xi 45 (.call 5 16 [(.t 40), (.t 41), (.t 42), (.t 44)])), (xi 46 (.ext (.t 45) 0)), (xi 47 (.ext (.t 45) 1)), (xz (.store 3 (.t 6) (.t 46))), (xi 7 (.mov (.t 47)))]) .ret) (.seq (.reg [(xi 49 (.bin .eql (.t 23) (.c (.v (.int .u8 2))))), (xi 48 (.mov (.t 49)))]) (.cond (.t 48) (.seq (.reg [(xi 51 (.load true 2 (.t 3))), (xi 52 (.load true 3 (.t 4))), (xi 53 (.mov (.t 8))), (xi 54 (.fad 2 (.t 5))), (xi 55 (.load false 1 (.t 54))), (xi 56 (.fad 3 (.t 5))), (xi 57 (.load false 1 (.t 56))), (xi 58 (.bin .rem (.t 57) (.c (.v (.int .u8 64))))), (xi 59 (.conv .i64 (.t 58))), (xi 60 (.mov (.t 9))), (xi 61 (.call 6 20 [(.t 51), (.t 52), (.t 53), (.t 55), (.t 59), (.t 60)])), (xi 50 (.mov (.t 61))), (xi 62 (.ext (.t 50) 0)), (xi 63 (.ext (.t 50) 1)), (xi 64 (.ext (.t 50) 2)), (xi 10 (.alloc 7 (.agg [(.v (.int .u64 0)), (.v (.int .u64 0)), (.sl true [])]))), (xz (.store 3 (.t 10) (.t 62))), (xi 11 (.mov (.t 63))), (xi 12 (.mov (.t 64)))]) (.seq (.reg [(xi 65 (.load true 3 (.t 10))), (xi 66 (.mov (.t 12))), (xz (.store 3 (.t 6) (.t 65))), (xi 7 (.mov (.t 66)))]) .ret)) (.seq (.reg [(xi 68 (.bin .eql (.t 23) (.c (.v (.int .u8 3))))), (xi 67 (.mov (.t 68)))]) (.cond (.t 67) (.seq (.reg [(xi 69 (.load true 2 (.t 3))), (xi 70 (.load true 3 (.t 4))), (xi 71 (.mov (.t 8))), (xi 72 (.fad 2 (.t 5))), (xi 73 (.load false 1 (.t 72))), (xi 74 (.mov (.t 9))), (xi 75 (.call 8 22 [(.t 69), (.t 70), (.t 71), (.t 73), (.t 74)])), (xi 76 (.ext (.t 75) 0)), (xi 77 (.ext (.t 75) 1)), (xz (.store 3 (.t 6) (.t 76))), (xi 7 (.mov (.t 77)))]) .ret) .skip)))))))))) (.seq (.reg [(xi 78 (.load true 2 (.t 3))), (xi 79 (.load true 3 (.t 4))), (xi 80 (.mov (.t 8))), (xi 81 (.fad 2 (.t 5))), (xi 82 (.load false 1 (.t 81))), (xi 83 (.mov (.t 9))), (xi 84 (.fad 0 (.t 5))), (xi 85 (.load false 1 (.t 84))), (xi 86 (.bin .rem (.t 85) (.c (.v (.int .u8 6))))), (xi 87 (.bin .eql (.t 86) (.c (.v (.int .u8 4))))), (xi 88 (.call 9 13 [(.t 78), (.t 79), (.t 80), (.t 82), (.t 83), (.t 87)])), (xi 89 (.ext (.t 88) 0)), (xi 90 (.ext (.t 88) 1)), (xz (.store 3 (.t 6) (.t 89))), (xi 7 (.mov (.t 90)))]) .ret)))), [3, 4, 5, 6, 35, 45, 61, 10, 75, 88], 91, [.c 6 27 true 3, .t 7], 11⟩
theorem xf24_ok : xf24.ok Try.prog 24 := ⟨_, _, Try.func24, rfl, by kernel_rfl, rfl, by kernel_rfl, rfl, by kernel_rfl, by kernel_rfl⟩
def tb24 : List PE := [pe13, pe16, pe17, pe20, pe22]
theorem tb24_ok : PEsOk Try.prog tb24 := ⟨pe13_ok, pe16_ok, pe17_ok, pe20_ok, pe22_ok, trivial⟩
def ex24 : List EX := []
theorem ex24_ok : EXsOk Try.prog ex24 := trivial
def in24 : List IN := []
theorem in24_ok : INsOk Try.prog in24 := trivial
def F24 : DT ((.co (.v (.p (.i .i64) (.i .i64))) (.co (.v tz2) (.co (.v (.p (.i .u8) (.p (.i .u8) (.p .s (.p (.i .u8) (.i .u8)))))) .no))) : Fm).den → Option (DT (.tup (.co (.v tz2) (.co (.v (.i .i64)) .no)) : Fm).den) := pureT tb24 ex24 in24 0 xf24 _ _ []
def pe24 : PE := ⟨24, (.co (.v (.p (.i .i64) (.i .i64))) (.co (.v tz2) (.co (.v (.p (.i .u8) (.p (.i .u8) (.p .s (.p (.i .u8) (.i .u8)))))) .no))), .tup (.co (.v tz2) (.co (.v (.i .i64)) .no)), F24⟩
theorem pe24_ok : pe24.ok Try.prog := pe_of hm tb24_ok ex24_ok in24_ok xf24_ok (by kernel_rfl) (fun _ => rfl)
def xf8 : FX := ⟨(.seq (.reg [(xi 2 (.box 0 2 (.t 0))), (xi 4 (.mov (.c (.v (.bool false)))))]) (.seq (.seq (.reg [(xi 14 (.load true 2 (.t 2))), (xi 15 (.call 1 12 [(.t 14)])), (xi 16 (.un .not (.t 15)))]) (.cond (.t 16) (.seq (.reg [(xi 17 (.call 2 14 [])), (xi 4 (.mov (.t 17)))]) .ret) .skip)) (.seq (.reg [(xi 18 (.bld [(.v (.int .u64 0)), (.v (.int .u64 0)), (.sl true [])] [])), (xi 5 (.alloc 3 (.agg [(.v (.int .u64 0)), (.v (.int .u64 0)), (.sl true [])]))), (xz (.store 3 (.t 5) (.t 18)))]) (.seq (.seq (.reg [(xi 6 (.mov (.c (.v (.int .i64 0)))))]) (.blk 0 (.loop ⟨[4, 6, 7, 8, 9, 10, 11, 12, 13, 19, 20, 21, 22, 23, 24, 25, 26, 27, 28, 29, 30, 31, 32, 33, 34, 35, 36, 37, 38, 39, 40, 41, 42, 43, 44, 45, 46, 47, 48, 49, 50, 51, 52, 53, 54, 55, 56, 57, 58, 59, 60, 61, 62, 63, 64, 65, 66, 67, 68, 69, 70, 71, 72, 73, 74, 75, 76, 77, 78, 79, 80, 81, 82, 83, 84, 85, 86, 87, 88, 89, 90, 91, 92, 93, 94, 95, 96, 97, 98, 99, 100, 101, 102, 103, 104, 105, 106, 107, 108, 109, 110, 111, 112, 113, 114, 115, 116, 117, 118, 119, 120, 121, 122, 123, 124, 125, 126, 127, 128, 129, 130, 131, 132, 133, 134, 135, 136, 137, 138, 139, 140, 141, 142, 143, 144, 145, 146, 147, 148, 149, 150, 151, 152, 153, 154, 155, 156, 157, 158, 159, 160, 161, 162, 163, 164, 165, 166, 167, 168, 169, 170, 171, 172, 173, 174, 175, 176, 177, 178, 179, 180, 181, 182, 183, 184, 185, 186, 187, 188, 189, 190, 191, 192, 193, 194, 195, 196, 197, 198], [3, 5, 9, 11], ⟨[], [(6, .v (.i .i64))], [⟨3, .row (.v tz2), true⟩]⟩⟩ (.seq (.cut ⟨[19, 20, 21, 22, 23, 24, 25, 26], [], ⟨[], [], []⟩⟩ (.seq (.cutN ⟨[19, 20, 21, 22, 23, 24, 25, 26], [], ⟨[], [(26, .v .b)], []⟩⟩ (.reg [(xi 19 (.mov (.t 6))), (xi 20 (.mov (.t 1))), (xi 21 (.len (.t 20))), (xi 22 (.bin .lss (.t 19) (.t 21))), (xi 23 (.mov (.t 22))), (xg 24 (.mov (.t 6)) 23 true), (xg 25 (.bin .lss (.t 24) (.c (.v (.int .i64 60)))) 23 true), (xi 26 (.pick (.t 23) (.t 25) (.c (.v (.bool false)))))])) (.cond (.t 26) .skip (.exit 0)))) (.seq (.cut ⟨[4, 7, 8, 9, 10, 11, 12, 13, 29, 30, 31, 32, 33, 34, 35, 36, 37, 38, 39, 40, 41, 42, 43, 44, 45, 46, 47, 48, 49, 50, 51, 52, 53, 54, 55, 56, 57, 58, 59, 60, 61, 62, 63, 64, 65, 66, 67, 68, 69, 70, 71, 72, 73, 74, 75, 76, 77, 78, 79, 80, 81, 82, 83, 84, 85, 86, 87, 88, 89, 90, 91, 92, 93, 94, 95, 96, 97, 98, 99, 100, 101, 102, 103, 104, 105, 106, 107, 108, 109, 110, 111, 112, 113, 114, 115, 116, 117, 118, 119, 120, 121, 122, 123, 124, 125, 126, 127, 128, 129, 130, 131, 132, 133, 134, 135, 136, 137, 138, 139, 140, 141, 142, 143, 144, 145, 146, 147, 148, 149, 150, 151, 152, 153, 154, 155, 156, 157, 158, 159, 160, 161, 162, 163, 164, 165, 166, 167, 168, 169, 170, 171, 172, 173, 174, 175, 176, 177, 178, 179, 180, 181, 182, 183, 184, 185, 186, 187, 188, 189, 190, 191, 192, 193, 194, 195, 196, 197, 198], [3, 5, 9, 11], ⟨[], [], [⟨3, .row (.v tz2), true⟩]⟩⟩ (.blk 1 (.seq (.dr [] [(xi 30 (.load true 2 (.t 2))), (xi 31 (.load true 3 (.t 5))), (xi 32 (.mov (.t 1))), (xi 33 (.mov (.t 6))), (xi 34 (.iad 5 (.t 32) (.t 33))), (xi 35 (.load true 5 (.t 34))), (xi 36 (.callG 4 24 [(.t 30), (.t 31), (.t 35)])), (xi 29 (.mov (.t 36))), (xi 37 (.ext (.t 29) 0)), (xi 38 (.ext (.t 29) 1)), (xi 7 (.mov (.c .dead))), (xi 7 (.box 5 3 (.t 37))), (xi 8 (.mov (.t 38)))]) (.seq (.cut ⟨[4, 39, 40, 41, 42, 43, 44, 45, 46, 47, 48, 49, 50, 51, 52, 53, 54, 55, 56, 57, 58, 59, 60, 61, 62, 63, 64, 65, 66, 67, 68, 69, 70, 71, 72, 73], [], ⟨[], [], []⟩⟩ (.seq (.cutN ⟨[39, 40, 41, 42, 43, 44, 45, 46, 47, 48, 49, 50, 51, 52, 53, 54, 55, 56, 57, 58, 59, 60, 61, 62, 63, 64, 65, 66, 67, 68, 69, 70, 71, 72, 73], [], ⟨[], [(73, .v .b)], []⟩⟩ (.dr [(32, 29)] [(xi 39 (.mov (.t 8))), (xi 40 (.bin .neq (.t 39) (.c (.v (.int .i64 0))))), (xi 41 (.mov (.t 40))), (xg 42 (.load true 3 (.t 7)) 41 true), (xg 43 (.load true 3 (.t 5)) 41 true), (xg 44 (.callG 6 15 [(.t 42), (.t 43)]) 41 true), (xg 45 (.un .not (.t 44)) 41 true), (xi 46 (.pick (.t 41) (.t 45) (.c (.v (.bool false))))), (xi 47 (.mov (.t 46))), (xg 48 (.load true 3 (.t 7)) 47 false), (xg 49 (.callG 7 26 [(.t 48)]) 47 false), (xg 50 (.bin .neq (.t 49) (.c (.v (.int .i64 0)))) 47 false), (xi 51 (.pick (.t 47) (.c (.v (.bool true))) (.t 50))), (xi 52 (.mov (.t 51))), (xg 53 (.fad 0 (.t 7)) 52 false), (xg 54 (.load false 1 (.t 53)) 52 false), (xg 55 (.fad 0 (.t 5)) 52 false), (xg 56 (.load false 1 (.t 55)) 52 false), (xg 57 (.bin .lss (.t 54) (.t 56)) 52 false), (xi 58 (.pick (.t 52) (.c (.v (.bool true))) (.t 57))), (xi 59 (.mov (.t 58))), (xg 60 (.fad 1 (.t 7)) 59 false), (xg 61 (.load false 1 (.t 60)) 59 false), (xg 62 (.fad 1 (.t 5)) 59 false), (xg 63 (.load false 1 (.t 62)) 59 false), (xg 64 (.bin .lss (.t 61) (.t 63)) 59 false), (xi 65 (.pick (.t 59) (.c (.v (.bool true))) (.t 64))), (xi 66 (.mov (.t 65))), (xg 67 (.load true 3 (.t 7)) 66 false), (xg 68 (.callG 8 25 [(.t 67)]) 66 false), (xg 69 (.len (.t 68)) 66 false), (xg 70 (.fad 0 (.t 2)) 66 false), (xg 71 (.load false 1 (.t 70)) 66 false), (xg 72 (.bin .gtr (.t 69) (.t 71)) 66 false), (xi 73 (.pick (.t 66) (.c (.v (.bool true))) (.t 72)))])) (.cond (.t 73) (.seq (.reg [(xi 4 (.mov (.c (.v (.bool false)))))]) .ret) .skip))) (.seq (.cut ⟨[4, 74, 75, 76, 77, 78, 79, 80, 81, 82, 83, 84, 85, 86, 87, 88, 89, 90, 91, 92, 93, 94, 95, 96, 97, 98, 99, 100, 101, 102, 103, 104, 105, 106, 107], [], ⟨[], [], []⟩⟩ (.seq (.cutN ⟨[74, 75, 76, 77, 78, 79, 80, 81, 82, 83, 84, 85, 86, 87, 88, 89, 90, 91, 92, 93, 94, 95, 96, 97, 98, 99, 100, 101, 102, 103, 104, 105, 106, 107], [], ⟨[], [(107, .v .b)], []⟩⟩ (.rdr [(xi 74 (.mov (.t 8))), (xi 75 (.bin .eql (.t 74) (.c (.v (.int .i64 0))))), (xi 76 (.mov (.t 75))), (xg 77 (.fad 0 (.t 7)) 76 true), (xg 78 (.load false 1 (.t 77)) 76 true), (xg 79 (.mov (.t 1)) 76 true), (xg 80 (.mov (.t 6)) 76 true), (xg 81 (.iad 5 (.t 79) (.t 80)) 76 true), (xg 82 (.fad 1 (.t 81)) 76 true), (xg 83 (.load false 1 (.t 82)) 76 true), (xg 84 (.bin .rem (.t 83) (.c (.v (.int .u8 8)))) 76 true), (xg 85 (.conv .u64 (.t 84)) 76 true), (xg 86 (.bin .neq (.t 78) (.t 85)) 76 true), (xi 87 (.pick (.t 76) (.t 86) (.c (.v (.bool false))))), (xi 88 (.mov (.t 87))), (xg 89 (.mov (.t 8)) 88 false), (xg 90 (.bin .neq (.t 89) (.c (.v (.int .i64 0)))) 88 false), (xg 91 (.mov (.t 90)) 88 false), (xg 92 (.mov (.t 1)) 91 true), (xg 93 (.mov (.t 6)) 91 true), (xg 94 (.iad 5 (.t 92) (.t 93)) 91 true), (xg 95 (.fad 1 (.t 94)) 91 true), (xg 96 (.load false 1 (.t 95)) 91 true), (xg 97 (.bin .rem (.t 96) (.c (.v (.int .u8 8)))) 91 true), (xg 98 (.conv .u64 (.t 97)) 91 true), (xg 99 (.fad 0 (.t 5)) 91 true), (xg 100 (.load false 1 (.t 99)) 91 true), (xg 101 (.bin .lss (.t 98) (.t 100)) 91 true), (xg 102 (.pick (.t 91) (.t 101) (.c (.v (.bool false)))) 88 false), (xg 103 (.mov (.t 102)) 88 false), (xg 104 (.mov (.t 8)) 103 true), (xg 105 (.bin .neq (.t 104) (.c (.v (.int .i64 8)))) 103 true), (xg 106 (.pick (.t 103) (.t 105) (.c (.v (.bool false)))) 88 false), (xi 107 (.pick (.t 88) (.c (.v (.bool true))) (.t 106)))])) (.cond (.t 107) (.seq (.reg [(xi 4 (.mov (.c (.v (.bool false)))))]) .ret) .skip))) (.seq (.cut ⟨[4, 9, 10, 11, 12, 108, 109, 110, 111, 112, 113, 114, 115, 116, 117, 118, 119, 120, 121, 122, 123, 124, 125, 126, 127, 128, 129, 130, 131, 132, 133, 134, 135, 136, 137, 138, 139, 140, 141, 142, 143, 144, 145, 146, 147, 148, 149, 150, 151, 152, 153, 154, 155, 156, 157, 158, 159, 160, 161, 162, 163, 164, 165, 166, 167, 168, 169, 170, 171, 172, 173, 174, 175, 176, 177, 178, 179, 180, 181], [9, 11], ⟨[], [], []⟩⟩ (.seq (.reg [(xi 9 (.mov (.c (.v (.int .i64 0)))))]) (.blk 2 (.loop ⟨[4, 9, 10, 11, 12, 108, 109, 110, 111, 112, 113, 114, 115, 116, 117, 118, 119, 120, 121, 122, 123, 124, 125, 126, 127, 128, 129, 130, 131, 132, 133, 134, 135, 136, 137, 138, 139, 140, 141, 142, 143, 144, 145, 146, 147, 148, 149, 150, 151, 152, 153, 154, 155, 156, 157, 158, 159, 160, 161, 162, 163, 164, 165, 166, 167, 168, 169, 170, 171, 172, 173, 174, 175, 176, 177, 178, 179, 180, 181], [9, 11], ⟨[], [(9, .v (.i .i64))], []⟩⟩ (.seq (.seq (.reg [(xi 108 (.mov (.t 9))), (xi 109 (.fad 2 (.t 5))), (xi 110 (.load false 1 (.t 109))), (xi 111 (.len (.t 110))), (xi 112 (.bin .lss (.t 108) (.t 111)))]) (.cond (.t 112) .skip (.exit 2))) (.seq (.cut ⟨[4, 10, 11, 12, 115, 116, 117, 118, 119, 120, 121, 122, 123, 124, 125, 126, 127, 128, 129, 130, 131, 132, 133, 134, 135, 136, 137, 138, 139, 140, 141, 142, 143, 144, 145, 146, 147, 148, 149, 150, 151, 152, 153, 154, 155, 156, 157, 158, 159, 160, 161, 162, 163, 164, 165, 166, 167, 168, 169, 170, 171, 172, 173, 174, 175, 176, 177, 178, 179, 180, 181], [9, 11], ⟨[], [], []⟩⟩ (.blk 3 (.seq (.reg [(xi 115 (.fad 2 (.t 5))), (xi 116 (.load false 1 (.t 115))), (xi 117 (.mov (.t 9))), (xi 118 (.iad 7 (.t 116) (.t 117))), (xi 119 (.load true 7 (.t 118))), ⟨⟨(some 10), (.alloc 9 (.agg [(.v (.string ⟨#[]⟩)), (.v (.int .i64 0)), (.v (.int .i64 0)), (.v (.int .u64 0)), (.v (.int .i64 0)), (.v (.int .i64 0)), (.v (.int .u64 0))])), none⟩, .b, [], []⟩, (xz (.store 7 (.t 10) (.t 119)))]) (.seq (.reg [(xi 121 (.load true 3 (.t 7))), (xi 122 (.fad 0 (.t 10))), (xi 123 (.load false 1 (.t 122))), (xi 124 (.call 10 11 [(.t 121), (.t 123)])), (xi 120 (.mov (.t 124))), (xi 125 (.ext (.t 120) 0)), (xi 126 (.ext (.t 120) 1)), ⟨⟨(some 11), (.alloc 11 (.agg [(.v (.string ⟨#[]⟩)), (.v (.int .i64 0)), (.v (.int .i64 0)), (.v (.int .u64 0)), (.v (.int .i64 0)), (.v (.int .i64 0)), (.v (.int .u64 0))])), none⟩, .b, [], []⟩, (xz (.store 7 (.t 11) (.t 125))), (xi 12 (.mov (.t 126)))]) (.seq (.cut ⟨[4, 127, 128, 129, 130, 131, 132, 133, 134, 135, 136, 137, 138, 139, 140, 141, 142, 143, 144, 145, 146, 147, 148, 149, 150, 151, 152, 153, 154, 155, 156, 157, 158, 159], [], ⟨[], [], []⟩⟩ (.seq (.cutN ⟨[127, 128, 129, 130, 131, 132, 133, 134, 135, 136, 137, 138, 139, 140, 141, 142, 143, 144, 145, 146, 147, 148, 149, 150, 151, 152, 153, 154, 155, 156, 157, 158, 159], [], ⟨[], [(159, .v .b)], []⟩⟩ (.reg [(xi 127 (.mov (.t 12))), (xi 128 (.bin .neq (.t 127) (.c (.v (.int .i64 0))))), (xi 129 (.mov (.t 128))), (xg 130 (.fad 3 (.t 11)) 129 false), (xg 131 (.load false 1 (.t 130)) 129 false), (xg 132 (.fad 3 (.t 10)) 129 false), (xg 133 (.load false 1 (.t 132)) 129 false), (xg 134 (.bin .lss (.t 131) (.t 133)) 129 false), (xi 135 (.pick (.t 129) (.c (.v (.bool true))) (.t 134))), (xi 136 (.mov (.t 135))), (xg 137 (.fad 4 (.t 11)) 136 false), (xg 138 (.load false 1 (.t 137)) 136 false), (xg 139 (.fad 4 (.t 10)) 136 false), (xg 140 (.load false 1 (.t 139)) 136 false), (xg 141 (.bin .lss (.t 138) (.t 140)) 136 false), (xi 142 (.pick (.t 136) (.c (.v (.bool true))) (.t 141))), (xi 143 (.mov (.t 142))), (xg 144 (.fad 2 (.t 11)) 143 false), (xg 145 (.load false 1 (.t 144)) 143 false), (xg 146 (.fad 2 (.t 10)) 143 false), (xg 147 (.load false 1 (.t 146)) 143 false), (xg 148 (.bin .neq (.t 145) (.t 147)) 143 false), (xi 149 (.pick (.t 143) (.c (.v (.bool true))) (.t 148))), (xi 150 (.mov (.t 149))), (xg 151 (.fad 1 (.t 10)) 150 false), (xg 152 (.load false 1 (.t 151)) 150 false), (xg 153 (.bin .gtr (.t 152) (.c (.v (.int .i64 1)))) 150 false), (xg 154 (.mov (.t 153)) 150 false), (xg 155 (.load true 7 (.t 11)) 154 true), (xg 156 (.load true 7 (.t 10)) 154 true), (xg 157 (.eqA true 7 [(0, .s), (1, .i), (2, .i), (3, .i), (4, .i), (5, .i), (6, .i)] (.t 155) (.t 156)) 154 true), (xg 158 (.pick (.t 154) (.t 157) (.c (.v (.bool false)))) 150 false), (xi 159 (.pick (.t 150) (.c (.v (.bool true))) (.t 158)))])) (.cond (.t 159) (.seq (.reg [(xi 4 (.mov (.c (.v (.bool false)))))]) .ret) .skip))) (.seq (.cutN ⟨[160, 161, 162, 163, 164, 165, 166, 167, 168, 169, 170, 171, 172, 173, 174, 175, 176, 177, 178, 179, 180, 181], [], ⟨[], [(181, .v .b)], []⟩⟩ (.reg [(xi 160 (.fad 3 (.t 11))), (xi 161 (.load false 1 (.t 160))), (xi 162 (.fad 3 (.t 10))), (xi 163 (.load false 1 (.t 162))), (xi 164 (.bin .neq (.t 161) (.t 163))), (xi 165 (.mov (.t 164))), (xg 166 (.fad 3 (.t 11)) 165 true), (xg 167 (.load false 1 (.t 166)) 165 true), (xg 168 (.fad 1 (.t 5)) 165 true), (xg 169 (.load false 1 (.t 168)) 165 true), (xg 170 (.bin .leq (.t 167) (.t 169)) 165 true), (xg 171 (.mov (.t 170)) 165 true), (xg 172 (.fad 1 (.t 11)) 171 false), (xg 173 (.load false 1 (.t 172)) 171 false), (xg 174 (.bin .neq (.t 173) (.c (.v (.int .i64 1)))) 171 false), (xg 175 (.pick (.t 171) (.c (.v (.bool true))) (.t 174)) 165 true), (xg 176 (.mov (.t 175)) 165 true), (xg 177 (.fad 1 (.t 10)) 176 false), (xg 178 (.load false 1 (.t 177)) 176 false), (xg 179 (.bin .neq (.t 178) (.c (.v (.int .i64 0)))) 176 false), (xg 180 (.pick (.t 176) (.c (.v (.bool true))) (.t 179)) 165 true), (xi 181 (.pick (.t 165) (.t 180) (.c (.v (.bool false)))))])) (.cond (.t 181) (.seq (.reg [(xi 4 (.mov (.c (.v (.bool false)))))]) .ret) .skip))))))) (.reg [(xi 113 (.mov (.t 9))), (xi 114 (.bin .add (.t 113) (.c (.v (.int .i64 1))))), (xi 9 (.mov (.t 114)))]))))))) (.seq (.cut ⟨[4, 13, 182, 183, 184, 185, 186, 187, 188, 189, 190, 191, 192, 193, 194, 195, 196, 197], [], ⟨[], [], []⟩⟩ (.seq (.reg [(xi 13 (.mov (.c (.v (.int .i64 0)))))]) (.blk 4 (.loop ⟨[4, 13, 182, 183, 184, 185, 186, 187, 188, 189, 190, 191, 192, 193, 194, 195, 196, 197], [], ⟨[], [(13, .v (.i .i64))], []⟩⟩ (.seq (.seq (.reg [(xi 182 (.mov (.t 13))), (xi 183 (.fad 2 (.t 7))), (xi 184 (.load false 1 (.t 183))), (xi 185 (.len (.t 184))), (xi 186 (.bin .lss (.t 182) (.t 185)))]) (.cond (.t 186) .skip (.exit 4))) (.seq (.blk 5 (.seq (.rdr [(xi 189 (.fad 2 (.t 7))), (xi 190 (.load false 1 (.t 189))), (xi 191 (.mov (.t 13))), (xi 192 (.iad 7 (.t 190) (.t 191))), (xi 193 (.fad 4 (.t 192))), (xi 194 (.load false 1 (.t 193))), (xi 195 (.fad 1 (.t 2))), (xi 196 (.load false 1 (.t 195))), (xi 197 (.bin .gtr (.t 194) (.t 196)))]) (.cond (.t 197) (.seq (.reg [(xi 4 (.mov (.c (.v (.bool false)))))]) .ret) .skip))) (.reg [(xi 187 (.mov (.t 13))), (xi 188 (.bin .add (.t 187) (.c (.v (.int .i64 1))))), (xi 13 (.mov (.t 188)))]))))))) (.reg [(xi 198 (.load true 3 (.t 7))), (xz (.store 3 (.t 5) (.t 198)))])))))))) (.reg [(xi 27 (.mov (.t 6))), (xi 28 (.bin .add (.t 27) (.c (.v (.int .i64 1))))), (xi 6 (.mov (.t 28)))])))))) (.seq (.reg [(xi 199 (.call 12 14 [])), (xi 4 (.mov (.t 199)))]) .ret))))), [2, 15, 17, 5, 36, 7, 44, 49, 68, 10, 124, 11, 199], 200, [.t 4], 14⟩
theorem xf8_ok : xf8.ok Try.prog 8 := ⟨_, _, Try.func8, rfl, by kernel_rfl, rfl, by kernel_rfl, rfl, by kernel_rfl, by kernel_rfl⟩
def tb8 : List PE := [pe11, pe12, pe14, pe15, pe24, pe25, pe26]
theorem tb8_ok : PEsOk Try.prog tb8 := ⟨pe11_ok, pe12_ok, pe14_ok, pe15_ok, pe24_ok, pe25_ok, pe26_ok, trivial⟩
def ex8 : List EX := []
theorem ex8_ok : EXsOk Try.prog ex8 := trivial
def in8 : List IN := []
theorem in8_ok : INsOk Try.prog in8 := trivial
def F8 : DT ((.co (.v (.p (.i .i64) (.i .i64))) (.co (.v (.sl (.p (.i .u8) (.p (.i .u8) (.p .s (.p (.i .u8) (.i .u8))))))) .no)) : Fm).den → Option (DT (.v .b : Fm).den) := pureT tb8 ex8 in8 0 xf8 _ _ []
def pe8 : PE := ⟨8, (.co (.v (.p (.i .i64) (.i .i64))) (.co (.v (.sl (.p (.i .u8) (.p (.i .u8) (.p .s (.p (.i .u8) (.i .u8))))))) .no)), .v .b, F8⟩
theorem pe8_ok : pe8.ok Try.prog := pe_of hm tb8_ok ex8_ok in8_ok xf8_ok (by kernel_rfl) (fun _ => rfl)
end
end Go.Proofs.Ytoblcfkmggbheaa.VL
end
section
namespace Go.Proofs.Ytoblcfkmggbheaa.VL
open Go
set_option maxRecDepth 100000
set_option linter.unusedVariables false
set_option linter.unusedSectionVars false
variable [Val]
abbrev ty1 : Type := (ByteArray × (Int × (Int × (Int × (Int × (Int × Int))))))
theorem F46_eq (v : ByteArray) : F46 v = (joinX (loopX (fun (v0 : (ByteArray × Nat)) => (cond (decide (v0.2 < (ByteArray.size v0.1))) (Option.bind (cond (decide ((((Utf8.decode v0.1 v0.2).1 : Nat) : Int) ≥ (97 : Int))) (cond (decide ((((Utf8.decode v0.1 v0.2).1 : Nat) : Int) ≤ (122 : Int))) (some false) (cond (decide ((((Utf8.decode v0.1 v0.2).1 : Nat) : Int) ≥ (48 : Int))) (cond (decide ((((Utf8.decode v0.1 v0.2).1 : Nat) : Int) ≤ (57 : Int))) (some false) (some (!((((Utf8.decode v0.1 v0.2).1 : Nat) : Int) == (45 : Int))))) (some (!((((Utf8.decode v0.1 v0.2).1 : Nat) : Int) == (45 : Int)))))) (cond (decide ((((Utf8.decode v0.1 v0.2).1 : Nat) : Int) ≥ (48 : Int))) (cond (decide ((((Utf8.decode v0.1 v0.2).1 : Nat) : Int) ≤ (57 : Int))) (some false) (some (!((((Utf8.decode v0.1 v0.2).1 : Nat) : Int) == (45 : Int))))) (some (!((((Utf8.decode v0.1 v0.2).1 : Nat) : Int) == (45 : Int)))))) (fun (v1 : Bool) => (cond v1 (some (.inr (.inr false))) (some (.inl (v0.1, (v0.2 + (Utf8.decode v0.1 v0.2).2))))))) (some (.inr (.inl ()))))) (v, 0)) (fun (v2 : Unit) => (cond (!((ByteArray.toList v) == (ByteArray.toList (ByteArray.mk #[])))) (some (decide ((((ByteArray.size v) : Nat) : Int) ≤ (20 : Int)))) (some false)))) := by kernel_rfl
theorem F47_eq (v : (Int × (Int × Int))) : F47 v = (cond (decide (v.1 ≥ v.2.1)) (some (decide (v.1 ≤ v.2.2))) (some false)) := by kernel_rfl
theorem F54_eq (v : Int) : F54 v = (Option.bind (F47 (v, ((0 : Int), (63 : Int)))) (fun (v0 : Bool) => (some v0))) := by kernel_rfl
theorem F57_eq (v : (ty1 × Int)) : F57 v = (Option.bind (cond (v.1.2.2.2.2.2.1 == (-1 : Int)) (some (v.1.2.2.2.2.2.2 == (0 : Int))) (some false)) (fun (v0 : Bool) => (Option.bind (cond (v.1.2.1 == (1 : Int)) (Option.bind (F54 v.1.2.2.2.2.2.1) (fun (v1 : Bool) => (cond v1 (some (decide (v.1.2.2.2.1 > (0 : Int)))) (some false)))) (some v0)) (fun (v2 : Bool) => (Option.bind (F46 v.1.1) (fun (v3 : Bool) => (cond (!v3) (some true) (Option.bind (F47 (v.1.2.1, ((0 : Int), (4 : Int)))) (fun (v4 : Bool) => (cond (!v4) (some true) (Option.bind (F47 (v.1.2.2.1, ((0 : Int), (9 : Int)))) (fun (v5 : Bool) => (cond (!v5) (some true) (cond (decide (v.1.2.2.2.1 > v.2)) (some true) (cond (!((v.1.2.2.2.1 == (0 : Int)) == (v.1.2.2.2.2.1 == (0 : Int)))) (some true) (Option.bind (F47 (v.1.2.2.2.2.1, ((0 : Int), (100 : Int)))) (fun (v6 : Bool) => (cond (!v6) (some true) (some (!v2)))))))))))))))))))) := by kernel_rfl
theorem F26_eq (v : (Int × (Int × (List ty1)))) : F26 v = (joinX (loopX (fun (v0 : (Int × (List (Int × Bool)))) => (cond (decide (v0.1 < ((v.2.2.length : Nat) : Int))) (joinX (cond (decide ((0 : Int) ≤ v0.1)) (Option.bind v.2.2[(Int.toNat v0.1)]? (fun (v1 : ty1) => (joinX (Option.bind (Option.bind (F57 ((v1.1, (v1.2.1, (v1.2.2.1, (v1.2.2.2.1, (v1.2.2.2.2.1, (v1.2.2.2.2.2.1, v1.2.2.2.2.2.2)))))), v.2.1)) (fun (v2 : Bool) => (cond v2 (some true) (cond (decide (v0.1 > (0 : Int))) (cond (decide ((0 : Int) ≤ (IntKind.wrap IntKind.i64 (v0.1 - (1 : Int))))) (Option.bind v.2.2[(Int.toNat (IntKind.wrap IntKind.i64 (v0.1 - (1 : Int))))]? (fun (v3 : ty1) => (cond (!(Op.bytesLess (ByteArray.toList v3.1) (ByteArray.toList v1.1))) (some true) (some (Option.getD (mget (kt := (TT.i IntKind.u64)) (vt := TT.b) v1.2.2.2.1 v0.2) false))))) none) (some (Option.getD (mget (kt := (TT.i IntKind.u64)) (vt := TT.b) v1.2.2.2.1 v0.2) false)))))) (fun (v4 : Bool) => (cond v4 (some (.inr (.inr (.inr (.inr (1 : Int)))))) (some (.inl ()))))) (fun (v5 : Unit) => (some (.inl (mput (kt := (TT.i IntKind.u64)) (vt := TT.b) v1.2.2.2.1 (decide (v1.2.2.2.1 > (0 : Int))) v0.2))))))) none) (fun (v6 : (List (Int × Bool))) => (some (.inl ((IntKind.wrap IntKind.i64 (v0.1 + (1 : Int))), v6))))) (some (.inr (.inl v0.2))))) ((0 : Int), [])) (fun (v7 : (List (Int × Bool))) => (cond (decide (((v.2.2.length : Nat) : Int) > (100 : Int))) (some (1 : Int)) (some (0 : Int))))) := by kernel_rfl
theorem F62_eq (v : (ByteArray × ByteArray)) : F62 v = (cond (!((ByteArray.toList v.1) == (ByteArray.toList v.1))) (cond (!((ByteArray.toList v.2) == (ByteArray.toList v.2))) (some (0 : Int)) (some (-1 : Int))) (cond (!((ByteArray.toList v.2) == (ByteArray.toList v.2))) (some (1 : Int)) (cond (Op.bytesLess (ByteArray.toList v.1) (ByteArray.toList v.2)) (some (-1 : Int)) (cond (!((Op.bytesLess (ByteArray.toList v.1) (ByteArray.toList v.2)) || ((ByteArray.toList v.1) == (ByteArray.toList v.2)))) (some (1 : Int)) (some (0 : Int)))))) := by kernel_rfl
theorem F61_eq (v : (ty1 × ByteArray)) : F61 v = (Option.bind (F62 (v.1.1, v.2)) (fun (v0 : Int) => (some v0))) := by kernel_rfl
theorem F36_eq (v : ((Int × (Int × (List ty1))) × ByteArray)) : F36 v = (Option.bind (Option.bind (loopX (fun (v0 : (Int × Int)) => (cond (decide (v0.1 < v0.2)) (cond (decide ((0 : Int) ≤ (IntKind.wrap IntKind.i64 (Int.fdiv (IntKind.wrap IntKind.u64 (IntKind.wrap IntKind.i64 (v0.1 + v0.2))) (2 : Int))))) (Option.bind v.1.2.2[(Int.toNat (IntKind.wrap IntKind.i64 (Int.fdiv (IntKind.wrap IntKind.u64 (IntKind.wrap IntKind.i64 (v0.1 + v0.2))) (2 : Int))))]? (fun (v1 : ty1) => (Option.bind (F61 ((v1.1, (v1.2.1, (v1.2.2.1, (v1.2.2.2.1, (v1.2.2.2.2.1, (v1.2.2.2.2.2.1, v1.2.2.2.2.2.2)))))), v.2)) (fun (v2 : Int) => (cond (decide (v2 < (0 : Int))) (some (.inl ((IntKind.wrap IntKind.i64 ((IntKind.wrap IntKind.i64 (Int.fdiv (IntKind.wrap IntKind.u64 (IntKind.wrap IntKind.i64 (v0.1 + v0.2))) (2 : Int))) + (1 : Int))), v0.2))) (some (.inl (v0.1, (IntKind.wrap IntKind.i64 (Int.fdiv (IntKind.wrap IntKind.u64 (IntKind.wrap IntKind.i64 (v0.1 + v0.2))) (2 : Int))))))))))) none) (some (.inr v0.1)))) ((0 : Int), ((v.1.2.2.length : Nat) : Int))) (fun (v3 : Int) => (cond (decide (v3 < ((v.1.2.2.length : Nat) : Int))) (cond (decide ((0 : Int) ≤ v3)) (Option.bind v.1.2.2[(Int.toNat v3)]? (fun (v4 : ty1) => (Option.bind (F61 ((v4.1, (v4.2.1, (v4.2.2.1, (v4.2.2.2.1, (v4.2.2.2.2.1, (v4.2.2.2.2.2.1, v4.2.2.2.2.2.2)))))), v.2)) (fun (v5 : Int) => (some (v3, (v5 == (0 : Int)))))))) none) (some (v3, false))))) (fun (v6 : (Int × Bool)) => (some (v6.1, v6.2)))) := by kernel_rfl
theorem F11_eq (v : ((Int × (Int × (List ty1))) × ByteArray)) : F11 v = (Option.bind (F26 (v.1.1, (v.1.2.1, v.1.2.2))) (fun (v0 : Int) => (cond (v0 != (0 : Int)) (some (((ByteArray.mk #[]), ((0 : Int), ((0 : Int), ((0 : Int), ((0 : Int), ((0 : Int), (0 : Int))))))), v0)) (Option.bind (F36 ((v.1.1, (v.1.2.1, v.1.2.2)), v.2)) (fun (v1 : (Int × Bool)) => (cond (!v1.2) (some (((ByteArray.mk #[]), ((0 : Int), ((0 : Int), ((0 : Int), ((0 : Int), ((0 : Int), (0 : Int))))))), (6 : Int))) (cond (decide ((0 : Int) ≤ v1.1)) (Option.bind v.1.2.2[(Int.toNat v1.1)]? (fun (v2 : ty1) => (some ((v2.1, (v2.2.1, (v2.2.2.1, (v2.2.2.2.1, (v2.2.2.2.2.1, (v2.2.2.2.2.2.1, v2.2.2.2.2.2.2)))))), (0 : Int))))) none))))))) := by kernel_rfl
theorem F12_eq (v : (Int × Int)) : F12 v = (cond (decide ((1 : Int) ≤ v.1)) (cond (decide (v.1 ≤ (100 : Int))) (cond (decide ((1 : Int) ≤ v.2)) (some (decide (v.2 ≤ (100 : Int)))) (some false)) (some false)) (some false)) := by kernel_rfl
theorem F29_eq (v : (Int × Int)) : F29 v = (Option.bind (Option.bind (F47 (v.1, ((1 : Int), (100 : Int)))) (fun (v0 : Bool) => (cond (!v0) (some true) (Option.bind (F47 (v.2, ((1 : Int), (100 : Int)))) (fun (v1 : Bool) => (some (!v1))))))) (fun (v2 : Bool) => (cond v2 (some (1 : Int)) (some (0 : Int))))) := by kernel_rfl
theorem F43_eq (v : ty1) : F43 v = (cond (v.2.1 == (0 : Int)) (some true) (some (v.2.1 == (1 : Int)))) := by kernel_rfl
theorem F25_eq (v : (Int × (Int × (List ty1)))) : F25 v = (Option.bind (F26 (v.1, (v.2.1, v.2.2))) (fun (v0 : Int) => (cond (v0 != (0 : Int)) (some []) (Option.bind (loopX (fun (v1 : (Int × (List ty1))) => (cond (decide (v1.1 < ((v.2.2.length : Nat) : Int))) (Option.bind (cond (decide ((0 : Int) ≤ v1.1)) (Option.bind v.2.2[(Int.toNat v1.1)]? (fun (v2 : ty1) => (Option.bind (F43 (v2.1, (v2.2.1, (v2.2.2.1, (v2.2.2.2.1, (v2.2.2.2.2.1, (v2.2.2.2.2.2.1, v2.2.2.2.2.2.2))))))) (fun (v3 : Bool) => (cond v3 (cond ((decide (v1.2.length = v1.2.length)) && ((decide (((((v1.2.length + 1) : Nat) : Int) * (64 : Int)) ≤ (70368744177664 : Int))) && (decide ((((v1.2.length + 1) : Nat) : Int) ≤ (70368744177664 : Int))))) (cond (decide ((v1.2.length + 1) = (Append.append v1.2 ((v2.1, (v2.2.1, (v2.2.2.1, (v2.2.2.2.1, (v2.2.2.2.2.1, (v2.2.2.2.2.2.1, v2.2.2.2.2.2.2)))))) :: [])).length)) (some (Append.append v1.2 ((v2.1, (v2.2.1, (v2.2.2.1, (v2.2.2.2.1, (v2.2.2.2.2.1, (v2.2.2.2.2.2.1, v2.2.2.2.2.2.2)))))) :: []))) none) none) (cond (decide (v1.2.length = v1.2.length)) (some v1.2) none)))))) none) (fun (v4 : (List ty1)) => (cond (decide (v4.length = v4.length)) (some (.inl ((IntKind.wrap IntKind.i64 (v1.1 + (1 : Int))), v4))) none))) (Option.map (Sum.inr) (cond (decide (v1.2.length = v1.2.length)) (some v1.2) none)))) ((0 : Int), [])) (fun (v5 : (List ty1)) => (loopX (fun (v6 : (Int × (List ByteArray))) => (cond (decide (v6.1 < ((v5.length : Nat) : Int))) (cond ((decide ((0 : Int) ≤ v6.1)) && (decide (v6.1 < ((v5.length : Nat) : Int)))) (Option.bind v5[(0 + (Int.toNat v6.1))]? (fun (v7 : ty1) => (cond ((decide (v6.2.length = v6.2.length)) && ((decide (((((v6.2.length + 1) : Nat) : Int) * (16 : Int)) ≤ (70368744177664 : Int))) && (decide ((((v6.2.length + 1) : Nat) : Int) ≤ (70368744177664 : Int))))) (cond (decide ((v6.2.length + 1) = (Append.append v6.2 (v7.1 :: [])).length)) (some (.inl ((IntKind.wrap IntKind.i64 (v6.1 + (1 : Int))), (Append.append v6.2 (v7.1 :: []))))) none) none))) none) (Option.map (Sum.inr) (cond (decide ((0 + v6.2.length) ≤ v6.2.length)) (some (List.take v6.2.length v6.2)) none)))) ((0 : Int), []))))))) := by kernel_rfl
theorem F34_eq (v : ((List ty1) × (List ty1))) : F34 v = (cond (((v.1.length : Nat) : Int) != ((v.2.length : Nat) : Int)) (some false) (loopX (fun (v0 : Int) => (cond (decide (v0 < ((v.1.length : Nat) : Int))) (cond (decide ((0 : Int) ≤ v0)) (Option.bind v.1[(Int.toNat v0)]? (fun (v1 : ty1) => (cond (decide ((0 : Int) ≤ v0)) (Option.bind v.2[(Int.toNat v0)]? (fun (v2 : ty1) => (cond (!(((ByteArray.toList v1.1) == (ByteArray.toList v2.1)) && ((v1.2.1 == v2.2.1) && ((v1.2.2.1 == v2.2.2.1) && ((v1.2.2.2.1 == v2.2.2.2.1) && ((v1.2.2.2.2.1 == v2.2.2.2.2.1) && ((v1.2.2.2.2.2.1 == v2.2.2.2.2.2.1) && ((v1.2.2.2.2.2.2 == v2.2.2.2.2.2.2) && true)))))))) (some (.inr false)) (some (.inl (IntKind.wrap IntKind.i64 (v0 + (1 : Int)))))))) none))) none) (some (.inr true)))) (0 : Int))) := by kernel_rfl
theorem F15_eq (v : ((Int × (Int × (List ty1))) × (Int × (Int × (List ty1))))) : F15 v = (cond (v.1.1 == v.2.1) (cond (v.1.2.1 == v.2.2.1) (Option.bind (F34 (v.1.2.2, v.2.2.2)) (fun (v0 : Bool) => (some v0))) (some false)) (some false)) := by kernel_rfl
theorem F13_eq (v : ((Int × Int) × ((Int × (Int × (List ty1))) × (Int × (ByteArray × (Int × Bool)))))) : F13 v = (Option.bind (Option.bind (joinX (Option.bind (Option.bind (F29 (v.1.1, v.1.2)) (fun (v0 : Int) => (cond (v0 != (0 : Int)) (some true) (Option.bind (F26 (v.2.1.1, (v.2.1.2.1, v.2.1.2.2))) (fun (v1 : Int) => (some (v1 != (0 : Int)))))))) (fun (v2 : Bool) => (cond v2 (some (.inr ((1 : Int), (v.2.1.1, (v.2.1.2.1, v.2.1.2.2))))) (cond (decide (v.2.2.1 < v.2.1.1)) (some (.inr ((8 : Int), (v.2.1.1, (v.2.1.2.1, v.2.1.2.2))))) (some (.inl ((0 : Int), (0 : Int)))))))) (fun (v3 : (Int × Int)) => (Option.bind (bothX (List.isEmpty v.2.1.2.2) (some []) (cond ((decide ((((v.2.1.2.2.length : Nat) : Int) * (64 : Int)) ≤ (70368744177664 : Int))) && (decide (((v.2.1.2.2.length : Nat) : Int) ≤ (70368744177664 : Int)))) (cond (decide (v.2.1.2.2.length = v.2.1.2.2.length)) (some v.2.1.2.2) none) none)) (fun (v4 : (List ty1)) => (Option.bind (Option.bind (Option.bind (Option.bind (loopX (fun (v5 : (Int × Int)) => (cond (decide (v5.1 < v5.2)) (cond ((decide ((0 : Int) ≤ (IntKind.wrap IntKind.i64 (Int.fdiv (IntKind.wrap IntKind.u64 (IntKind.wrap IntKind.i64 (v5.1 + v5.2))) (2 : Int))))) && (decide ((IntKind.wrap IntKind.i64 (Int.fdiv (IntKind.wrap IntKind.u64 (IntKind.wrap IntKind.i64 (v5.1 + v5.2))) (2 : Int))) < ((v4.length : Nat) : Int)))) (Option.bind v4[(0 + (Int.toNat (IntKind.wrap IntKind.i64 (Int.fdiv (IntKind.wrap IntKind.u64 (IntKind.wrap IntKind.i64 (v5.1 + v5.2))) (2 : Int)))))]? (fun (v6 : ty1) => (Option.bind (F61 ((v6.1, (v6.2.1, (v6.2.2.1, (v6.2.2.2.1, (v6.2.2.2.2.1, (v6.2.2.2.2.2.1, v6.2.2.2.2.2.2)))))), v.2.2.2.1)) (fun (v7 : Int) => (cond (decide (v7 < (0 : Int))) (some (.inl ((IntKind.wrap IntKind.i64 ((IntKind.wrap IntKind.i64 (Int.fdiv (IntKind.wrap IntKind.u64 (IntKind.wrap IntKind.i64 (v5.1 + v5.2))) (2 : Int))) + (1 : Int))), v5.2))) (some (.inl (v5.1, (IntKind.wrap IntKind.i64 (Int.fdiv (IntKind.wrap IntKind.u64 (IntKind.wrap IntKind.i64 (v5.1 + v5.2))) (2 : Int))))))))))) none) (some (.inr v5.1)))) ((0 : Int), ((v4.length : Nat) : Int))) (fun (v8 : Int) => (cond (decide (v8 < ((v4.length : Nat) : Int))) (cond ((decide ((0 : Int) ≤ v8)) && (decide (v8 < ((v4.length : Nat) : Int)))) (Option.bind v4[(0 + (Int.toNat v8))]? (fun (v9 : ty1) => (Option.bind (F61 ((v9.1, (v9.2.1, (v9.2.2.1, (v9.2.2.2.1, (v9.2.2.2.2.1, (v9.2.2.2.2.2.1, v9.2.2.2.2.2.2)))))), v.2.2.2.1)) (fun (v10 : Int) => (some (v8, (v10 == (0 : Int)))))))) none) (some (v8, false))))) (fun (v11 : (Int × Bool)) => (some (v11.1, v11.2)))) (fun (v12 : (Int × Bool)) => (cond (!v12.2) (some ((6 : Int), v4)) (cond ((decide ((0 : Int) ≤ v12.1)) && (decide (v12.1 < ((v4.length : Nat) : Int)))) (Option.bind (Option.bind v4[(0 + (Int.toNat v12.1))]? (fun (v13 : ty1) => (cond (v13.2.2.2.1 != v.2.2.2.2.1) (some ((8 : Int), v4)) (Option.bind v4[(0 + (Int.toNat v12.1))]? (fun (v14 : ty1) => (cond (v14.2.1 != (1 : Int)) (some ((7 : Int), v4)) (Option.bind (Option.bind (Option.bind v4[(0 + (Int.toNat v12.1))]? (fun (v15 : ty1) => (Option.bind (List.set v4 (0 + (Int.toNat v12.1)) (v15.1, ((0 : Int), (v15.2.2.1, (v15.2.2.2.1, (v15.2.2.2.2.1, (v15.2.2.2.2.2.1, v15.2.2.2.2.2.2)))))))[(0 + (Int.toNat v12.1))]? (fun (v16 : ty1) => (Option.bind (List.set (List.set v4 (0 + (Int.toNat v12.1)) (v15.1, ((0 : Int), (v15.2.2.1, (v15.2.2.2.1, (v15.2.2.2.2.1, (v15.2.2.2.2.2.1, v15.2.2.2.2.2.2))))))) (0 + (Int.toNat v12.1)) (v16.1, (v16.2.1, (v16.2.2.1, (v16.2.2.2.1, (v16.2.2.2.2.1, ((-1 : Int), v16.2.2.2.2.2.2)))))))[(0 + (Int.toNat v12.1))]? (fun (v17 : ty1) => (Option.bind (List.set (List.set (List.set v4 (0 + (Int.toNat v12.1)) (v15.1, ((0 : Int), (v15.2.2.1, (v15.2.2.2.1, (v15.2.2.2.2.1, (v15.2.2.2.2.2.1, v15.2.2.2.2.2.2))))))) (0 + (Int.toNat v12.1)) (v16.1, (v16.2.1, (v16.2.2.1, (v16.2.2.2.1, (v16.2.2.2.2.1, ((-1 : Int), v16.2.2.2.2.2.2))))))) (0 + (Int.toNat v12.1)) (v17.1, (v17.2.1, (v17.2.2.1, (v17.2.2.2.1, (v17.2.2.2.2.1, (v17.2.2.2.2.2.1, (0 : Int))))))))[(0 + (Int.toNat v12.1))]? (fun (v18 : ty1) => (cond (decide (v18.2.2.2.2.1 ≥ v.1.2)) (Option.bind (List.set (List.set (List.set v4 (0 + (Int.toNat v12.1)) (v15.1, ((0 : Int), (v15.2.2.1, (v15.2.2.2.1, (v15.2.2.2.2.1, (v15.2.2.2.2.2.1, v15.2.2.2.2.2.2))))))) (0 + (Int.toNat v12.1)) (v16.1, (v16.2.1, (v16.2.2.1, (v16.2.2.2.1, (v16.2.2.2.2.1, ((-1 : Int), v16.2.2.2.2.2.2))))))) (0 + (Int.toNat v12.1)) (v17.1, (v17.2.1, (v17.2.2.1, (v17.2.2.2.1, (v17.2.2.2.2.1, (v17.2.2.2.2.2.1, (0 : Int))))))))[(0 + (Int.toNat v12.1))]? (fun (v19 : ty1) => (some (List.set (List.set (List.set (List.set v4 (0 + (Int.toNat v12.1)) (v15.1, ((0 : Int), (v15.2.2.1, (v15.2.2.2.1, (v15.2.2.2.2.1, (v15.2.2.2.2.2.1, v15.2.2.2.2.2.2))))))) (0 + (Int.toNat v12.1)) (v16.1, (v16.2.1, (v16.2.2.1, (v16.2.2.2.1, (v16.2.2.2.2.1, ((-1 : Int), v16.2.2.2.2.2.2))))))) (0 + (Int.toNat v12.1)) (v17.1, (v17.2.1, (v17.2.2.1, (v17.2.2.2.1, (v17.2.2.2.2.1, (v17.2.2.2.2.2.1, (0 : Int)))))))) (0 + (Int.toNat v12.1)) (v19.1, ((3 : Int), (v19.2.2.1, (v19.2.2.2.1, (v19.2.2.2.2.1, (v19.2.2.2.2.2.1, v19.2.2.2.2.2.2)))))))))) (some (List.set (List.set (List.set v4 (0 + (Int.toNat v12.1)) (v15.1, ((0 : Int), (v15.2.2.1, (v15.2.2.2.1, (v15.2.2.2.2.1, (v15.2.2.2.2.2.1, v15.2.2.2.2.2.2))))))) (0 + (Int.toNat v12.1)) (v16.1, (v16.2.1, (v16.2.2.1, (v16.2.2.2.1, (v16.2.2.2.2.1, ((-1 : Int), v16.2.2.2.2.2.2))))))) (0 + (Int.toNat v12.1)) (v17.1, (v17.2.1, (v17.2.2.1, (v17.2.2.2.1, (v17.2.2.2.2.1, (v17.2.2.2.2.2.1, (0 : Int)))))))))))))))))) (fun (v20 : (List ty1)) => (cond v.2.2.2.2.2 (Option.bind v20[(0 + (Int.toNat v12.1))]? (fun (v21 : ty1) => (some (List.set v20 (0 + (Int.toNat v12.1)) (v21.1, ((2 : Int), (v21.2.2.1, (v21.2.2.2.1, (v21.2.2.2.2.1, (v21.2.2.2.2.2.1, v21.2.2.2.2.2.2)))))))))) (some v20)))) (fun (v22 : (List ty1)) => (some ((0 : Int), v22)))))))))) (fun (v23 : (Int × (List ty1))) => (some (v23.1, v23.2)))) none)))) (fun (v24 : (Int × (List ty1))) => (cond (v24.1 != (0 : Int)) (some (v24.1, (v.2.1.1, (v.2.1.2.1, v.2.1.2.2)))) (cond (decide ((0 + v4.length) ≤ v24.2.length)) (some ((0 : Int), (v.2.2.1, (v.2.1.2.1, (List.take v4.length v24.2))))) none)))))))) (fun (v25 : (Int × (Int × (Int × (List ty1))))) => (some (v25.1, (v25.2.1, (v25.2.2.1, v25.2.2.2)))))) (fun (v26 : (Int × (Int × (Int × (List ty1))))) => (some ((v26.2.1, (v26.2.2.1, v26.2.2.2)), v26.1)))) := by kernel_rfl
theorem F17_eq (v : ((Int × Int) × ((Int × (Int × (List ty1))) × (Int × (ByteArray × Int))))) : F17 v = (Option.bind (joinX (Option.bind (Option.bind (F29 (v.1.1, v.1.2)) (fun (v0 : Int) => (cond (v0 != (0 : Int)) (some true) (Option.bind (F26 (v.2.1.1, (v.2.1.2.1, v.2.1.2.2))) (fun (v1 : Int) => (some (v1 != (0 : Int)))))))) (fun (v2 : Bool) => (cond v2 (some (.inr ((1 : Int), (v.2.1.1, (v.2.1.2.1, v.2.1.2.2))))) (cond (decide (v.2.2.1 < v.2.1.1)) (some (.inr ((8 : Int), (v.2.1.1, (v.2.1.2.1, v.2.1.2.2))))) (some (.inl ((0 : Int), (0 : Int)))))))) (fun (v3 : (Int × Int)) => (Option.bind (bothX (List.isEmpty v.2.1.2.2) (some []) (cond ((decide ((((v.2.1.2.2.length : Nat) : Int) * (64 : Int)) ≤ (70368744177664 : Int))) && (decide (((v.2.1.2.2.length : Nat) : Int) ≤ (70368744177664 : Int)))) (cond (decide (v.2.1.2.2.length = v.2.1.2.2.length)) (some v.2.1.2.2) none) none)) (fun (v4 : (List ty1)) => (Option.bind (Option.bind (Option.bind (loopX (fun (v5 : (Int × Int)) => (cond (decide (v5.1 < v5.2)) (cond ((decide ((0 : Int) ≤ (IntKind.wrap IntKind.i64 (Int.fdiv (IntKind.wrap IntKind.u64 (IntKind.wrap IntKind.i64 (v5.1 + v5.2))) (2 : Int))))) && (decide ((IntKind.wrap IntKind.i64 (Int.fdiv (IntKind.wrap IntKind.u64 (IntKind.wrap IntKind.i64 (v5.1 + v5.2))) (2 : Int))) < ((v4.length : Nat) : Int)))) (Option.bind v4[(0 + (Int.toNat (IntKind.wrap IntKind.i64 (Int.fdiv (IntKind.wrap IntKind.u64 (IntKind.wrap IntKind.i64 (v5.1 + v5.2))) (2 : Int)))))]? (fun (v6 : ty1) => (Option.bind (F61 ((v6.1, (v6.2.1, (v6.2.2.1, (v6.2.2.2.1, (v6.2.2.2.2.1, (v6.2.2.2.2.2.1, v6.2.2.2.2.2.2)))))), v.2.2.2.1)) (fun (v7 : Int) => (cond (decide (v7 < (0 : Int))) (some (.inl ((IntKind.wrap IntKind.i64 ((IntKind.wrap IntKind.i64 (Int.fdiv (IntKind.wrap IntKind.u64 (IntKind.wrap IntKind.i64 (v5.1 + v5.2))) (2 : Int))) + (1 : Int))), v5.2))) (some (.inl (v5.1, (IntKind.wrap IntKind.i64 (Int.fdiv (IntKind.wrap IntKind.u64 (IntKind.wrap IntKind.i64 (v5.1 + v5.2))) (2 : Int))))))))))) none) (some (.inr v5.1)))) ((0 : Int), ((v4.length : Nat) : Int))) (fun (v8 : Int) => (cond (decide (v8 < ((v4.length : Nat) : Int))) (cond ((decide ((0 : Int) ≤ v8)) && (decide (v8 < ((v4.length : Nat) : Int)))) (Option.bind v4[(0 + (Int.toNat v8))]? (fun (v9 : ty1) => (Option.bind (F61 ((v9.1, (v9.2.1, (v9.2.2.1, (v9.2.2.2.1, (v9.2.2.2.2.1, (v9.2.2.2.2.2.1, v9.2.2.2.2.2.2)))))), v.2.2.2.1)) (fun (v10 : Int) => (some (v8, (v10 == (0 : Int)))))))) none) (some (v8, false))))) (fun (v11 : (Int × Bool)) => (some (v11.1, v11.2)))) (fun (v12 : (Int × Bool)) => (joinX (Option.bind (Option.bind (F46 v.2.2.2.1) (fun (v13 : Bool) => (cond (!v13) (some true) (Option.bind (F47 (v.2.2.2.2, ((0 : Int), (9 : Int)))) (fun (v14 : Bool) => (some (!v14))))))) (fun (v15 : Bool) => (cond v15 (Option.map (Sum.inr) (cond ((1 : Int) != (0 : Int)) (some ((1 : Int), (v.2.1.1, (v.2.1.2.1, v.2.1.2.2)))) (cond (decide ((0 + v4.length) ≤ v4.length)) (some ((0 : Int), (v.2.2.1, (v.2.1.2.1, (List.take v4.length v4))))) none))) (cond v12.2 (Option.map (Sum.inr) (cond ((5 : Int) != (0 : Int)) (some ((5 : Int), (v.2.1.1, (v.2.1.2.1, v.2.1.2.2)))) (cond (decide ((0 + v4.length) ≤ v4.length)) (some ((0 : Int), (v.2.2.1, (v.2.1.2.1, (List.take v4.length v4))))) none))) (Option.bind (Option.bind (loopX (fun (v16 : (Int × (List ty1))) => (cond (decide (v16.1 < ((v4.length : Nat) : Int))) (Option.bind (cond ((decide ((0 : Int) ≤ v16.1)) && (decide (v16.1 < ((v4.length : Nat) : Int)))) (Option.bind v4[(0 + (Int.toNat v16.1))]? (fun (v17 : ty1) => (Option.bind (F43 (v17.1, (v17.2.1, (v17.2.2.1, (v17.2.2.2.1, (v17.2.2.2.2.1, (v17.2.2.2.2.2.1, v17.2.2.2.2.2.2))))))) (fun (v18 : Bool) => (cond v18 (cond ((decide (v16.2.length = v16.2.length)) && ((decide (((((v16.2.length + 1) : Nat) : Int) * (64 : Int)) ≤ (70368744177664 : Int))) && (decide ((((v16.2.length + 1) : Nat) : Int) ≤ (70368744177664 : Int))))) (cond (decide ((v16.2.length + 1) = (Append.append v16.2 ((v17.1, (v17.2.1, (v17.2.2.1, (v17.2.2.2.1, (v17.2.2.2.2.1, (v17.2.2.2.2.2.1, v17.2.2.2.2.2.2)))))) :: [])).length)) (some (Append.append v16.2 ((v17.1, (v17.2.1, (v17.2.2.1, (v17.2.2.2.1, (v17.2.2.2.2.1, (v17.2.2.2.2.2.1, v17.2.2.2.2.2.2)))))) :: []))) none) none) (cond (decide (v16.2.length = v16.2.length)) (some v16.2) none)))))) none) (fun (v19 : (List ty1)) => (cond (decide (v19.length = v19.length)) (some (.inl ((IntKind.wrap IntKind.i64 (v16.1 + (1 : Int))), v19))) none))) (Option.map (Sum.inr) (cond (decide (v16.2.length = v16.2.length)) (some v16.2) none)))) ((0 : Int), [])) (fun (v20 : (List ty1)) => (cond (decide (((v20.length : Nat) : Int) ≥ v.1.1)) (some true) (some (((v4.length : Nat) : Int) == (100 : Int)))))) (fun (v21 : Bool) => (cond v21 (Option.map (Sum.inr) (cond ((9 : Int) != (0 : Int)) (some ((9 : Int), (v.2.1.1, (v.2.1.2.1, v.2.1.2.2)))) (cond (decide ((0 + v4.length) ≤ v4.length)) (some ((0 : Int), (v.2.2.1, (v.2.1.2.1, (List.take v4.length v4))))) none))) (some (.inl ()))))))))) (fun (v22 : Unit) => (cond ((decide (v4.length = v4.length)) && ((decide ((0 : Int) ≤ v12.1)) && ((decide (v12.1 ≤ ((v4.length : Nat) : Int))) && (((decide (((((v4.length + 1) : Nat) : Int) * (64 : Int)) ≤ (70368744177664 : Int))) && (decide ((((v4.length + 1) : Nat) : Int) ≤ (70368744177664 : Int)))) && true)))) (cond ((0 : Int) != (0 : Int)) (some ((0 : Int), (v.2.1.1, (v.2.1.2.1, v.2.1.2.2)))) (cond (decide ((0 + (v4.length + 1)) ≤ (insL v4 ((v.2.2.2.1, ((0 : Int), (v.2.2.2.2, ((0 : Int), ((0 : Int), ((-1 : Int), (0 : Int))))))) :: []) v12.1).length)) (some ((0 : Int), (v.2.2.1, (v.2.1.2.1, (List.take (v4.length + 1) (insL v4 ((v.2.2.2.1, ((0 : Int), (v.2.2.2.2, ((0 : Int), ((0 : Int), ((-1 : Int), (0 : Int))))))) :: []) v12.1)))))) none)) none))))))))) (fun (v23 : (Int × (Int × (Int × (List ty1))))) => (some ((v23.2.1, (v23.2.2.1, v23.2.2.2)), v23.1)))) := by kernel_rfl
theorem F20_eq (v : ((Int × Int) × ((Int × (Int × (List ty1))) × (Int × (ByteArray × (Int × Int)))))) : F20 v = (Option.bind (joinX (Option.bind (Option.bind (F29 (v.1.1, v.1.2)) (fun (v0 : Int) => (cond (v0 != (0 : Int)) (some true) (Option.bind (F26 (v.2.1.1, (v.2.1.2.1, v.2.1.2.2))) (fun (v1 : Int) => (some (v1 != (0 : Int)))))))) (fun (v2 : Bool) => (cond v2 (some (.inr ((1 : Int), (v.2.1.1, (v.2.1.2.1, v.2.1.2.2))))) (cond (decide (v.2.2.1 < v.2.1.1)) (some (.inr ((8 : Int), (v.2.1.1, (v.2.1.2.1, v.2.1.2.2))))) (some (.inl ((0 : Int), (0 : Int)))))))) (fun (v3 : (Int × Int)) => (Option.bind (bothX (List.isEmpty v.2.1.2.2) (some []) (cond ((decide ((((v.2.1.2.2.length : Nat) : Int) * (64 : Int)) ≤ (70368744177664 : Int))) && (decide (((v.2.1.2.2.length : Nat) : Int) ≤ (70368744177664 : Int)))) (cond (decide (v.2.1.2.2.length = v.2.1.2.2.length)) (some v.2.1.2.2) none) none)) (fun (v4 : (List ty1)) => (Option.bind (Option.bind (Option.bind (Option.bind (loopX (fun (v5 : (Int × Int)) => (cond (decide (v5.1 < v5.2)) (cond ((decide ((0 : Int) ≤ (IntKind.wrap IntKind.i64 (Int.fdiv (IntKind.wrap IntKind.u64 (IntKind.wrap IntKind.i64 (v5.1 + v5.2))) (2 : Int))))) && (decide ((IntKind.wrap IntKind.i64 (Int.fdiv (IntKind.wrap IntKind.u64 (IntKind.wrap IntKind.i64 (v5.1 + v5.2))) (2 : Int))) < ((v4.length : Nat) : Int)))) (Option.bind v4[(0 + (Int.toNat (IntKind.wrap IntKind.i64 (Int.fdiv (IntKind.wrap IntKind.u64 (IntKind.wrap IntKind.i64 (v5.1 + v5.2))) (2 : Int)))))]? (fun (v6 : ty1) => (Option.bind (F61 ((v6.1, (v6.2.1, (v6.2.2.1, (v6.2.2.2.1, (v6.2.2.2.2.1, (v6.2.2.2.2.2.1, v6.2.2.2.2.2.2)))))), v.2.2.2.1)) (fun (v7 : Int) => (cond (decide (v7 < (0 : Int))) (some (.inl ((IntKind.wrap IntKind.i64 ((IntKind.wrap IntKind.i64 (Int.fdiv (IntKind.wrap IntKind.u64 (IntKind.wrap IntKind.i64 (v5.1 + v5.2))) (2 : Int))) + (1 : Int))), v5.2))) (some (.inl (v5.1, (IntKind.wrap IntKind.i64 (Int.fdiv (IntKind.wrap IntKind.u64 (IntKind.wrap IntKind.i64 (v5.1 + v5.2))) (2 : Int))))))))))) none) (some (.inr v5.1)))) ((0 : Int), ((v4.length : Nat) : Int))) (fun (v8 : Int) => (cond (decide (v8 < ((v4.length : Nat) : Int))) (cond ((decide ((0 : Int) ≤ v8)) && (decide (v8 < ((v4.length : Nat) : Int)))) (Option.bind v4[(0 + (Int.toNat v8))]? (fun (v9 : ty1) => (Option.bind (F61 ((v9.1, (v9.2.1, (v9.2.2.1, (v9.2.2.2.1, (v9.2.2.2.2.1, (v9.2.2.2.2.2.1, v9.2.2.2.2.2.2)))))), v.2.2.2.1)) (fun (v10 : Int) => (some (v8, (v10 == (0 : Int)))))))) none) (some (v8, false))))) (fun (v11 : (Int × Bool)) => (some (v11.1, v11.2)))) (fun (v12 : (Int × Bool)) => (joinX (Option.bind (F54 v.2.2.2.2.1) (fun (v13 : Bool) => (cond (!v13) (Option.map (Sum.inr) (cond (decide (v4.length = v4.length)) (some ((1 : Int), ((v.2.2.1, v.2.1.2.1), v4))) none)) (cond (!v12.2) (Option.map (Sum.inr) (cond (decide (v4.length = v4.length)) (some ((6 : Int), ((v.2.2.1, v.2.1.2.1), v4))) none)) (Option.bind (cond ((decide ((0 : Int) ≤ v12.1)) && (decide (v12.1 < ((v4.length : Nat) : Int)))) (Option.bind v4[(0 + (Int.toNat v12.1))]? (fun (v14 : ty1) => (cond (v14.2.1 != (0 : Int)) (some true) (cond ((decide ((0 : Int) ≤ v12.1)) && (decide (v12.1 < ((v4.length : Nat) : Int)))) (Option.bind v4[(0 + (Int.toNat v12.1))]? (fun (v15 : ty1) => (some (decide (v15.2.2.2.2.1 ≥ v.1.2))))) none)))) none) (fun (v16 : Bool) => (cond v16 (Option.map (Sum.inr) (cond (decide (v4.length = v4.length)) (some ((7 : Int), ((v.2.2.1, v.2.1.2.1), v4))) none)) (cond (v.2.1.2.1 == (18446744073709551615 : Int)) (Option.map (Sum.inr) (cond (decide (v4.length = v4.length)) (some ((4 : Int), ((v.2.2.1, v.2.1.2.1), v4))) none)) (some (.inl ())))))))))) (fun (v17 : Unit) => (cond ((decide ((0 : Int) ≤ v12.1)) && (decide (v12.1 < ((v4.length : Nat) : Int)))) (Option.bind v4[(0 + (Int.toNat v12.1))]? (fun (v18 : ty1) => (Option.bind v4[(0 + (Int.toNat v12.1))]? (fun (v19 : ty1) => (Option.bind (List.set v4 (0 + (Int.toNat v12.1)) (v19.1, ((1 : Int), (v19.2.2.1, (v19.2.2.2.1, (v19.2.2.2.2.1, (v19.2.2.2.2.2.1, v19.2.2.2.2.2.2)))))))[(0 + (Int.toNat v12.1))]? (fun (v20 : ty1) => (Option.bind (List.set (List.set v4 (0 + (Int.toNat v12.1)) (v19.1, ((1 : Int), (v19.2.2.1, (v19.2.2.2.1, (v19.2.2.2.2.1, (v19.2.2.2.2.2.1, v19.2.2.2.2.2.2))))))) (0 + (Int.toNat v12.1)) (v20.1, (v20.2.1, (v20.2.2.1, (v20.2.2.2.1, (v20.2.2.2.2.1, (v.2.2.2.2.1, v20.2.2.2.2.2.2)))))))[(0 + (Int.toNat v12.1))]? (fun (v21 : ty1) => (Option.bind (List.set (List.set (List.set v4 (0 + (Int.toNat v12.1)) (v19.1, ((1 : Int), (v19.2.2.1, (v19.2.2.2.1, (v19.2.2.2.2.1, (v19.2.2.2.2.2.1, v19.2.2.2.2.2.2))))))) (0 + (Int.toNat v12.1)) (v20.1, (v20.2.1, (v20.2.2.1, (v20.2.2.2.1, (v20.2.2.2.2.1, (v.2.2.2.2.1, v20.2.2.2.2.2.2))))))) (0 + (Int.toNat v12.1)) (v21.1, (v21.2.1, (v21.2.2.1, (v21.2.2.2.1, (v21.2.2.2.2.1, (v21.2.2.2.2.2.1, v.2.2.2.2.2)))))))[(0 + (Int.toNat v12.1))]? (fun (v22 : ty1) => (Option.bind (List.set (List.set (List.set (List.set v4 (0 + (Int.toNat v12.1)) (v19.1, ((1 : Int), (v19.2.2.1, (v19.2.2.2.1, (v19.2.2.2.2.1, (v19.2.2.2.2.2.1, v19.2.2.2.2.2.2))))))) (0 + (Int.toNat v12.1)) (v20.1, (v20.2.1, (v20.2.2.1, (v20.2.2.2.1, (v20.2.2.2.2.1, (v.2.2.2.2.1, v20.2.2.2.2.2.2))))))) (0 + (Int.toNat v12.1)) (v21.1, (v21.2.1, (v21.2.2.1, (v21.2.2.2.1, (v21.2.2.2.2.1, (v21.2.2.2.2.2.1, v.2.2.2.2.2))))))) (0 + (Int.toNat v12.1)) (v22.1, (v22.2.1, (v22.2.2.1, ((IntKind.wrap IntKind.u64 (v.2.1.2.1 + (1 : Int))), (v22.2.2.2.2.1, (v22.2.2.2.2.2.1, v22.2.2.2.2.2.2)))))))[(0 + (Int.toNat v12.1))]? (fun (v23 : ty1) => (cond (decide (v4.length = (List.set (List.set (List.set (List.set (List.set v4 (0 + (Int.toNat v12.1)) (v19.1, ((1 : Int), (v19.2.2.1, (v19.2.2.2.1, (v19.2.2.2.2.1, (v19.2.2.2.2.2.1, v19.2.2.2.2.2.2))))))) (0 + (Int.toNat v12.1)) (v20.1, (v20.2.1, (v20.2.2.1, (v20.2.2.2.1, (v20.2.2.2.2.1, (v.2.2.2.2.1, v20.2.2.2.2.2.2))))))) (0 + (Int.toNat v12.1)) (v21.1, (v21.2.1, (v21.2.2.1, (v21.2.2.2.1, (v21.2.2.2.2.1, (v21.2.2.2.2.2.1, v.2.2.2.2.2))))))) (0 + (Int.toNat v12.1)) (v22.1, (v22.2.1, (v22.2.2.1, ((IntKind.wrap IntKind.u64 (v.2.1.2.1 + (1 : Int))), (v22.2.2.2.2.1, (v22.2.2.2.2.2.1, v22.2.2.2.2.2.2))))))) (0 + (Int.toNat v12.1)) (v23.1, (v23.2.1, (v23.2.2.1, (v23.2.2.2.1, ((IntKind.wrap IntKind.i64 (v18.2.2.2.2.1 + (1 : Int))), (v23.2.2.2.2.2.1, v23.2.2.2.2.2.2))))))).length)) (some ((0 : Int), ((v.2.2.1, (IntKind.wrap IntKind.u64 (v.2.1.2.1 + (1 : Int)))), (List.set (List.set (List.set (List.set (List.set v4 (0 + (Int.toNat v12.1)) (v19.1, ((1 : Int), (v19.2.2.1, (v19.2.2.2.1, (v19.2.2.2.2.1, (v19.2.2.2.2.2.1, v19.2.2.2.2.2.2))))))) (0 + (Int.toNat v12.1)) (v20.1, (v20.2.1, (v20.2.2.1, (v20.2.2.2.1, (v20.2.2.2.2.1, (v.2.2.2.2.1, v20.2.2.2.2.2.2))))))) (0 + (Int.toNat v12.1)) (v21.1, (v21.2.1, (v21.2.2.1, (v21.2.2.2.1, (v21.2.2.2.2.1, (v21.2.2.2.2.2.1, v.2.2.2.2.2))))))) (0 + (Int.toNat v12.1)) (v22.1, (v22.2.1, (v22.2.2.1, ((IntKind.wrap IntKind.u64 (v.2.1.2.1 + (1 : Int))), (v22.2.2.2.2.1, (v22.2.2.2.2.2.1, v22.2.2.2.2.2.2))))))) (0 + (Int.toNat v12.1)) (v23.1, (v23.2.1, (v23.2.2.1, (v23.2.2.2.1, ((IntKind.wrap IntKind.i64 (v18.2.2.2.2.1 + (1 : Int))), (v23.2.2.2.2.2.1, v23.2.2.2.2.2.2)))))))))) none))))))))))))) none))))) (fun (v24 : (Int × ((Int × Int) × (List ty1)))) => (cond (v24.1 != (0 : Int)) (some (v24.1, (v.2.1.1, (v.2.1.2.1, v.2.1.2.2)))) (cond (decide ((0 + v24.2.2.length) ≤ v24.2.2.length)) (some ((0 : Int), (v24.2.1.1, (v24.2.1.2, (List.take v24.2.2.length v24.2.2))))) none)))))))) (fun (v25 : (Int × (Int × (Int × (List ty1))))) => (cond (v25.1 != (0 : Int)) (some ((v.2.1.1, (v.2.1.2.1, v.2.1.2.2)), ((0 : Int), v25.1))) (some ((v25.2.1, (v25.2.2.1, v25.2.2.2)), (v25.2.2.1, (0 : Int))))))) := by kernel_rfl
theorem F16_eq (v : ((Int × Int) × ((Int × (Int × (List ty1))) × (Int × ByteArray)))) : F16 v = (Option.bind (joinX (Option.bind (Option.bind (F29 (v.1.1, v.1.2)) (fun (v0 : Int) => (cond (v0 != (0 : Int)) (some true) (Option.bind (F26 (v.2.1.1, (v.2.1.2.1, v.2.1.2.2))) (fun (v1 : Int) => (some (v1 != (0 : Int)))))))) (fun (v2 : Bool) => (cond v2 (some (.inr ((1 : Int), (v.2.1.1, (v.2.1.2.1, v.2.1.2.2))))) (cond (decide (v.2.2.1 < v.2.1.1)) (some (.inr ((8 : Int), (v.2.1.1, (v.2.1.2.1, v.2.1.2.2))))) (some (.inl ((0 : Int), (0 : Int)))))))) (fun (v3 : (Int × Int)) => (Option.bind (bothX (List.isEmpty v.2.1.2.2) (some []) (cond ((decide ((((v.2.1.2.2.length : Nat) : Int) * (64 : Int)) ≤ (70368744177664 : Int))) && (decide (((v.2.1.2.2.length : Nat) : Int) ≤ (70368744177664 : Int)))) (cond (decide (v.2.1.2.2.length = v.2.1.2.2.length)) (some v.2.1.2.2) none) none)) (fun (v4 : (List ty1)) => (Option.bind (Option.bind (Option.bind (Option.bind (loopX (fun (v5 : (Int × Int)) => (cond (decide (v5.1 < v5.2)) (cond ((decide ((0 : Int) ≤ (IntKind.wrap IntKind.i64 (Int.fdiv (IntKind.wrap IntKind.u64 (IntKind.wrap IntKind.i64 (v5.1 + v5.2))) (2 : Int))))) && (decide ((IntKind.wrap IntKind.i64 (Int.fdiv (IntKind.wrap IntKind.u64 (IntKind.wrap IntKind.i64 (v5.1 + v5.2))) (2 : Int))) < ((v4.length : Nat) : Int)))) (Option.bind v4[(0 + (Int.toNat (IntKind.wrap IntKind.i64 (Int.fdiv (IntKind.wrap IntKind.u64 (IntKind.wrap IntKind.i64 (v5.1 + v5.2))) (2 : Int)))))]? (fun (v6 : ty1) => (Option.bind (F61 ((v6.1, (v6.2.1, (v6.2.2.1, (v6.2.2.2.1, (v6.2.2.2.2.1, (v6.2.2.2.2.2.1, v6.2.2.2.2.2.2)))))), v.2.2.2)) (fun (v7 : Int) => (cond (decide (v7 < (0 : Int))) (some (.inl ((IntKind.wrap IntKind.i64 ((IntKind.wrap IntKind.i64 (Int.fdiv (IntKind.wrap IntKind.u64 (IntKind.wrap IntKind.i64 (v5.1 + v5.2))) (2 : Int))) + (1 : Int))), v5.2))) (some (.inl (v5.1, (IntKind.wrap IntKind.i64 (Int.fdiv (IntKind.wrap IntKind.u64 (IntKind.wrap IntKind.i64 (v5.1 + v5.2))) (2 : Int))))))))))) none) (some (.inr v5.1)))) ((0 : Int), ((v4.length : Nat) : Int))) (fun (v8 : Int) => (cond (decide (v8 < ((v4.length : Nat) : Int))) (cond ((decide ((0 : Int) ≤ v8)) && (decide (v8 < ((v4.length : Nat) : Int)))) (Option.bind v4[(0 + (Int.toNat v8))]? (fun (v9 : ty1) => (Option.bind (F61 ((v9.1, (v9.2.1, (v9.2.2.1, (v9.2.2.2.1, (v9.2.2.2.2.1, (v9.2.2.2.2.2.1, v9.2.2.2.2.2.2)))))), v.2.2.2)) (fun (v10 : Int) => (some (v8, (v10 == (0 : Int)))))))) none) (some (v8, false))))) (fun (v11 : (Int × Bool)) => (some (v11.1, v11.2)))) (fun (v12 : (Int × Bool)) => (cond (!v12.2) (some ((6 : Int), v4)) (cond ((decide ((0 : Int) ≤ v12.1)) && (decide (v12.1 < ((v4.length : Nat) : Int)))) (Option.bind (Option.bind v4[(0 + (Int.toNat v12.1))]? (fun (v13 : ty1) => (Option.bind (F43 (v13.1, (v13.2.1, (v13.2.2.1, (v13.2.2.2.1, (v13.2.2.2.2.1, (v13.2.2.2.2.2.1, v13.2.2.2.2.2.2))))))) (fun (v14 : Bool) => (cond (!v14) (some ((7 : Int), v4)) (Option.bind v4[(0 + (Int.toNat v12.1))]? (fun (v15 : ty1) => (Option.bind (List.set v4 (0 + (Int.toNat v12.1)) (v15.1, ((4 : Int), (v15.2.2.1, (v15.2.2.2.1, (v15.2.2.2.2.1, (v15.2.2.2.2.2.1, v15.2.2.2.2.2.2)))))))[(0 + (Int.toNat v12.1))]? (fun (v16 : ty1) => (Option.bind (List.set (List.set v4 (0 + (Int.toNat v12.1)) (v15.1, ((4 : Int), (v15.2.2.1, (v15.2.2.2.1, (v15.2.2.2.2.1, (v15.2.2.2.2.2.1, v15.2.2.2.2.2.2))))))) (0 + (Int.toNat v12.1)) (v16.1, (v16.2.1, (v16.2.2.1, (v16.2.2.2.1, (v16.2.2.2.2.1, ((-1 : Int), v16.2.2.2.2.2.2)))))))[(0 + (Int.toNat v12.1))]? (fun (v17 : ty1) => (some ((0 : Int), (List.set (List.set (List.set v4 (0 + (Int.toNat v12.1)) (v15.1, ((4 : Int), (v15.2.2.1, (v15.2.2.2.1, (v15.2.2.2.2.1, (v15.2.2.2.2.2.1, v15.2.2.2.2.2.2))))))) (0 + (Int.toNat v12.1)) (v16.1, (v16.2.1, (v16.2.2.1, (v16.2.2.2.1, (v16.2.2.2.2.1, ((-1 : Int), v16.2.2.2.2.2.2))))))) (0 + (Int.toNat v12.1)) (v17.1, (v17.2.1, (v17.2.2.1, (v17.2.2.2.1, (v17.2.2.2.2.1, (v17.2.2.2.2.2.1, (0 : Int))))))))))))))))))))) (fun (v18 : (Int × (List ty1))) => (some (v18.1, v18.2)))) none)))) (fun (v19 : (Int × (List ty1))) => (cond (v19.1 != (0 : Int)) (some (v19.1, (v.2.1.1, (v.2.1.2.1, v.2.1.2.2)))) (cond (decide ((0 + v4.length) ≤ v19.2.length)) (some ((0 : Int), (v.2.2.1, (v.2.1.2.1, (List.take v4.length v19.2))))) none)))))))) (fun (v20 : (Int × (Int × (Int × (List ty1))))) => (some ((v20.2.1, (v20.2.2.1, v20.2.2.2)), v20.1)))) := by kernel_rfl
theorem F22_eq (v : ((Int × Int) × ((Int × (Int × (List ty1))) × (Int × (ByteArray × Int))))) : F22 v = (Option.bind (Option.bind (joinX (Option.bind (Option.bind (F29 (v.1.1, v.1.2)) (fun (v0 : Int) => (cond (v0 != (0 : Int)) (some true) (Option.bind (F26 (v.2.1.1, (v.2.1.2.1, v.2.1.2.2))) (fun (v1 : Int) => (some (v1 != (0 : Int)))))))) (fun (v2 : Bool) => (cond v2 (some (.inr ((1 : Int), (v.2.1.1, (v.2.1.2.1, v.2.1.2.2))))) (cond (decide (v.2.2.1 < v.2.1.1)) (some (.inr ((8 : Int), (v.2.1.1, (v.2.1.2.1, v.2.1.2.2))))) (some (.inl ((0 : Int), (0 : Int)))))))) (fun (v3 : (Int × Int)) => (Option.bind (bothX (List.isEmpty v.2.1.2.2) (some []) (cond ((decide ((((v.2.1.2.2.length : Nat) : Int) * (64 : Int)) ≤ (70368744177664 : Int))) && (decide (((v.2.1.2.2.length : Nat) : Int) ≤ (70368744177664 : Int)))) (cond (decide (v.2.1.2.2.length = v.2.1.2.2.length)) (some v.2.1.2.2) none) none)) (fun (v4 : (List ty1)) => (Option.bind (Option.bind (Option.bind (Option.bind (loopX (fun (v5 : (Int × Int)) => (cond (decide (v5.1 < v5.2)) (cond ((decide ((0 : Int) ≤ (IntKind.wrap IntKind.i64 (Int.fdiv (IntKind.wrap IntKind.u64 (IntKind.wrap IntKind.i64 (v5.1 + v5.2))) (2 : Int))))) && (decide ((IntKind.wrap IntKind.i64 (Int.fdiv (IntKind.wrap IntKind.u64 (IntKind.wrap IntKind.i64 (v5.1 + v5.2))) (2 : Int))) < ((v4.length : Nat) : Int)))) (Option.bind v4[(0 + (Int.toNat (IntKind.wrap IntKind.i64 (Int.fdiv (IntKind.wrap IntKind.u64 (IntKind.wrap IntKind.i64 (v5.1 + v5.2))) (2 : Int)))))]? (fun (v6 : ty1) => (Option.bind (F61 ((v6.1, (v6.2.1, (v6.2.2.1, (v6.2.2.2.1, (v6.2.2.2.2.1, (v6.2.2.2.2.2.1, v6.2.2.2.2.2.2)))))), v.2.2.2.1)) (fun (v7 : Int) => (cond (decide (v7 < (0 : Int))) (some (.inl ((IntKind.wrap IntKind.i64 ((IntKind.wrap IntKind.i64 (Int.fdiv (IntKind.wrap IntKind.u64 (IntKind.wrap IntKind.i64 (v5.1 + v5.2))) (2 : Int))) + (1 : Int))), v5.2))) (some (.inl (v5.1, (IntKind.wrap IntKind.i64 (Int.fdiv (IntKind.wrap IntKind.u64 (IntKind.wrap IntKind.i64 (v5.1 + v5.2))) (2 : Int))))))))))) none) (some (.inr v5.1)))) ((0 : Int), ((v4.length : Nat) : Int))) (fun (v8 : Int) => (cond (decide (v8 < ((v4.length : Nat) : Int))) (cond ((decide ((0 : Int) ≤ v8)) && (decide (v8 < ((v4.length : Nat) : Int)))) (Option.bind v4[(0 + (Int.toNat v8))]? (fun (v9 : ty1) => (Option.bind (F61 ((v9.1, (v9.2.1, (v9.2.2.1, (v9.2.2.2.1, (v9.2.2.2.2.1, (v9.2.2.2.2.2.1, v9.2.2.2.2.2.2)))))), v.2.2.2.1)) (fun (v10 : Int) => (some (v8, (v10 == (0 : Int)))))))) none) (some (v8, false))))) (fun (v11 : (Int × Bool)) => (some (v11.1, v11.2)))) (fun (v12 : (Int × Bool)) => (cond (!v12.2) (some ((6 : Int), v4)) (cond ((decide ((0 : Int) ≤ v12.1)) && (decide (v12.1 < ((v4.length : Nat) : Int)))) (Option.bind (Option.bind v4[(0 + (Int.toNat v12.1))]? (fun (v13 : ty1) => (cond (v13.2.2.2.1 != v.2.2.2.2) (some ((8 : Int), v4)) (Option.bind v4[(0 + (Int.toNat v12.1))]? (fun (v14 : ty1) => (cond (v14.2.1 != (1 : Int)) (some ((7 : Int), v4)) (Option.bind (Option.bind v4[(0 + (Int.toNat v12.1))]? (fun (v15 : ty1) => (Option.bind (List.set v4 (0 + (Int.toNat v12.1)) (v15.1, ((0 : Int), (v15.2.2.1, (v15.2.2.2.1, (v15.2.2.2.2.1, (v15.2.2.2.2.2.1, v15.2.2.2.2.2.2)))))))[(0 + (Int.toNat v12.1))]? (fun (v16 : ty1) => (Option.bind (List.set (List.set v4 (0 + (Int.toNat v12.1)) (v15.1, ((0 : Int), (v15.2.2.1, (v15.2.2.2.1, (v15.2.2.2.2.1, (v15.2.2.2.2.2.1, v15.2.2.2.2.2.2))))))) (0 + (Int.toNat v12.1)) (v16.1, (v16.2.1, (v16.2.2.1, (v16.2.2.2.1, (v16.2.2.2.2.1, ((-1 : Int), v16.2.2.2.2.2.2)))))))[(0 + (Int.toNat v12.1))]? (fun (v17 : ty1) => (Option.bind (List.set (List.set (List.set v4 (0 + (Int.toNat v12.1)) (v15.1, ((0 : Int), (v15.2.2.1, (v15.2.2.2.1, (v15.2.2.2.2.1, (v15.2.2.2.2.2.1, v15.2.2.2.2.2.2))))))) (0 + (Int.toNat v12.1)) (v16.1, (v16.2.1, (v16.2.2.1, (v16.2.2.2.1, (v16.2.2.2.2.1, ((-1 : Int), v16.2.2.2.2.2.2))))))) (0 + (Int.toNat v12.1)) (v17.1, (v17.2.1, (v17.2.2.1, (v17.2.2.2.1, (v17.2.2.2.2.1, (v17.2.2.2.2.2.1, (0 : Int))))))))[(0 + (Int.toNat v12.1))]? (fun (v18 : ty1) => (cond (decide (v18.2.2.2.2.1 ≥ v.1.2)) (Option.bind (List.set (List.set (List.set v4 (0 + (Int.toNat v12.1)) (v15.1, ((0 : Int), (v15.2.2.1, (v15.2.2.2.1, (v15.2.2.2.2.1, (v15.2.2.2.2.2.1, v15.2.2.2.2.2.2))))))) (0 + (Int.toNat v12.1)) (v16.1, (v16.2.1, (v16.2.2.1, (v16.2.2.2.1, (v16.2.2.2.2.1, ((-1 : Int), v16.2.2.2.2.2.2))))))) (0 + (Int.toNat v12.1)) (v17.1, (v17.2.1, (v17.2.2.1, (v17.2.2.2.1, (v17.2.2.2.2.1, (v17.2.2.2.2.2.1, (0 : Int))))))))[(0 + (Int.toNat v12.1))]? (fun (v19 : ty1) => (some (List.set (List.set (List.set (List.set v4 (0 + (Int.toNat v12.1)) (v15.1, ((0 : Int), (v15.2.2.1, (v15.2.2.2.1, (v15.2.2.2.2.1, (v15.2.2.2.2.2.1, v15.2.2.2.2.2.2))))))) (0 + (Int.toNat v12.1)) (v16.1, (v16.2.1, (v16.2.2.1, (v16.2.2.2.1, (v16.2.2.2.2.1, ((-1 : Int), v16.2.2.2.2.2.2))))))) (0 + (Int.toNat v12.1)) (v17.1, (v17.2.1, (v17.2.2.1, (v17.2.2.2.1, (v17.2.2.2.2.1, (v17.2.2.2.2.2.1, (0 : Int)))))))) (0 + (Int.toNat v12.1)) (v19.1, ((3 : Int), (v19.2.2.1, (v19.2.2.2.1, (v19.2.2.2.2.1, (v19.2.2.2.2.2.1, v19.2.2.2.2.2.2)))))))))) (some (List.set (List.set (List.set v4 (0 + (Int.toNat v12.1)) (v15.1, ((0 : Int), (v15.2.2.1, (v15.2.2.2.1, (v15.2.2.2.2.1, (v15.2.2.2.2.2.1, v15.2.2.2.2.2.2))))))) (0 + (Int.toNat v12.1)) (v16.1, (v16.2.1, (v16.2.2.1, (v16.2.2.2.1, (v16.2.2.2.2.1, ((-1 : Int), v16.2.2.2.2.2.2))))))) (0 + (Int.toNat v12.1)) (v17.1, (v17.2.1, (v17.2.2.1, (v17.2.2.2.1, (v17.2.2.2.2.1, (v17.2.2.2.2.2.1, (0 : Int)))))))))))))))))) (fun (v20 : (List ty1)) => (some ((0 : Int), v20)))))))))) (fun (v21 : (Int × (List ty1))) => (some (v21.1, v21.2)))) none)))) (fun (v22 : (Int × (List ty1))) => (cond (v22.1 != (0 : Int)) (some (v22.1, (v.2.1.1, (v.2.1.2.1, v.2.1.2.2)))) (cond (decide ((0 + v4.length) ≤ v22.2.length)) (some ((0 : Int), (v.2.2.1, (v.2.1.2.1, (List.take v4.length v22.2))))) none)))))))) (fun (v23 : (Int × (Int × (Int × (List ty1))))) => (some (v23.1, (v23.2.1, (v23.2.2.1, v23.2.2.2)))))) (fun (v24 : (Int × (Int × (Int × (List ty1))))) => (some ((v24.2.1, (v24.2.2.1, v24.2.2.2)), v24.1)))) := by kernel_rfl
theorem F24_eq (v : ((Int × Int) × ((Int × (Int × (List ty1))) × (Int × (Int × (ByteArray × (Int × Int))))))) : F24 v = (cond ((Int.tmod v.2.2.1 (6 : Int)) == (0 : Int)) (Option.bind (F17 ((v.1.1, v.1.2), ((v.2.1.1, (v.2.1.2.1, v.2.1.2.2)), ((IntKind.wrap IntKind.u64 (Int.tmod v.2.2.2.1 (8 : Int))), (v.2.2.2.2.1, (IntKind.wrap IntKind.i64 (Int.tmod v.2.2.2.2.2.1 (10 : Int)))))))) (fun (v0 : ((Int × (Int × (List ty1))) × Int)) => (some ((v0.1.1, (v0.1.2.1, v0.1.2.2)), v0.2)))) (cond ((Int.tmod v.2.2.1 (6 : Int)) == (1 : Int)) (Option.bind (F16 ((v.1.1, v.1.2), ((v.2.1.1, (v.2.1.2.1, v.2.1.2.2)), ((IntKind.wrap IntKind.u64 (Int.tmod v.2.2.2.1 (8 : Int))), v.2.2.2.2.1)))) (fun (v1 : ((Int × (Int × (List ty1))) × Int)) => (some ((v1.1.1, (v1.1.2.1, v1.1.2.2)), v1.2)))) (cond ((Int.tmod v.2.2.1 (6 : Int)) == (2 : Int)) (Option.bind (F20 ((v.1.1, v.1.2), ((v.2.1.1, (v.2.1.2.1, v.2.1.2.2)), ((IntKind.wrap IntKind.u64 (Int.tmod v.2.2.2.1 (8 : Int))), (v.2.2.2.2.1, ((IntKind.wrap IntKind.i64 (Int.tmod v.2.2.2.2.2.1 (64 : Int))), (IntKind.wrap IntKind.u64 (Int.tmod v.2.2.2.2.2.2 (24 : Int))))))))) (fun (v2 : ((Int × (Int × (List ty1))) × (Int × Int))) => (some ((v2.1.1, (v2.1.2.1, v2.1.2.2)), v2.2.2)))) (cond ((Int.tmod v.2.2.1 (6 : Int)) == (3 : Int)) (Option.bind (F22 ((v.1.1, v.1.2), ((v.2.1.1, (v.2.1.2.1, v.2.1.2.2)), ((IntKind.wrap IntKind.u64 (Int.tmod v.2.2.2.1 (8 : Int))), (v.2.2.2.2.1, (IntKind.wrap IntKind.u64 (Int.tmod v.2.2.2.2.2.2 (24 : Int)))))))) (fun (v3 : ((Int × (Int × (List ty1))) × Int)) => (some ((v3.1.1, (v3.1.2.1, v3.1.2.2)), v3.2)))) (Option.bind (F13 ((v.1.1, v.1.2), ((v.2.1.1, (v.2.1.2.1, v.2.1.2.2)), ((IntKind.wrap IntKind.u64 (Int.tmod v.2.2.2.1 (8 : Int))), (v.2.2.2.2.1, ((IntKind.wrap IntKind.u64 (Int.tmod v.2.2.2.2.2.2 (24 : Int))), ((Int.tmod v.2.2.1 (6 : Int)) == (4 : Int)))))))) (fun (v4 : ((Int × (Int × (List ty1))) × Int)) => (some ((v4.1.1, (v4.1.2.1, v4.1.2.2)), v4.2)))))))) := by kernel_rfl
theorem F8_eq (v : ((Int × Int) × (List (Int × (Int × (ByteArray × (Int × Int))))))) : F8 v = (Option.bind (F12 (v.1.1, v.1.2)) (fun (v0 : Bool) => (cond (!v0) (Option.bind (F14 ()) (fun (v1 : Bool) => (some v1))) (loopX (fun (v2 : (Int × (Int × (Int × (List ty1))))) => (joinX (Option.bind (cond (decide (v2.1 < ((v.2.length : Nat) : Int))) (some (decide (v2.1 < (60 : Int)))) (some false)) (fun (v3 : Bool) => (cond v3 (some (.inl ())) (Option.map (Sum.inr) (Option.map (Sum.inr) (Option.bind (F14 ()) (fun (v4 : Bool) => (some v4)))))))) (fun (v5 : Unit) => (joinX (cond (decide ((0 : Int) ≤ v2.1)) (Option.bind v.2[(Int.toNat v2.1)]? (fun (v6 : (Int × (Int × (ByteArray × (Int × Int))))) => (Option.bind (F24 ((v.1.1, v.1.2), ((v2.2.1, (v2.2.2.1, v2.2.2.2)), (v6.1, (v6.2.1, (v6.2.2.1, (v6.2.2.2.1, v6.2.2.2.2))))))) (fun (v7 : ((Int × (Int × (List ty1))) × Int)) => (joinX (Option.bind (cond (v7.2 != (0 : Int)) (Option.bind (F15 ((v7.1.1, (v7.1.2.1, v7.1.2.2)), (v2.2.1, (v2.2.2.1, v2.2.2.2)))) (fun (v8 : Bool) => (cond (!v8) (some true) (Option.bind (F26 (v7.1.1, (v7.1.2.1, v7.1.2.2))) (fun (v9 : Int) => (cond (v9 != (0 : Int)) (some true) (cond (decide (v7.1.1 < v2.2.1)) (some true) (cond (decide (v7.1.2.1 < v2.2.2.1)) (some true) (Option.bind (F25 (v7.1.1, (v7.1.2.1, v7.1.2.2))) (fun (v10 : (List ByteArray)) => (some (decide (((v10.length : Nat) : Int) > v.1.1))))))))))))) (Option.bind (F26 (v7.1.1, (v7.1.2.1, v7.1.2.2))) (fun (v11 : Int) => (cond (v11 != (0 : Int)) (some true) (cond (decide (v7.1.1 < v2.2.1)) (some true) (cond (decide (v7.1.2.1 < v2.2.2.1)) (some true) (Option.bind (F25 (v7.1.1, (v7.1.2.1, v7.1.2.2))) (fun (v12 : (List ByteArray)) => (some (decide (((v12.length : Nat) : Int) > v.1.1))))))))))) (fun (v13 : Bool) => (cond v13 (some (.inr (.inr (.inr false)))) (some (.inl ()))))) (fun (v14 : Unit) => (joinX (Option.bind (cond (v7.2 == (0 : Int)) (cond (decide ((0 : Int) ≤ v2.1)) (Option.bind v.2[(Int.toNat v2.1)]? (fun (v15 : (Int × (Int × (ByteArray × (Int × Int))))) => (cond (v7.1.1 != (IntKind.wrap IntKind.u64 (Int.tmod v15.2.1 (8 : Int)))) (some true) (cond (v7.2 != (0 : Int)) (cond (decide ((0 : Int) ≤ v2.1)) (Option.bind v.2[(Int.toNat v2.1)]? (fun (v16 : (Int × (Int × (ByteArray × (Int × Int))))) => (cond (decide ((IntKind.wrap IntKind.u64 (Int.tmod v16.2.1 (8 : Int))) < v2.2.1)) (some (v7.2 != (8 : Int))) (some false)))) none) (some false))))) none) (cond (v7.2 != (0 : Int)) (cond (decide ((0 : Int) ≤ v2.1)) (Option.bind v.2[(Int.toNat v2.1)]? (fun (v17 : (Int × (Int × (ByteArray × (Int × Int))))) => (cond (decide ((IntKind.wrap IntKind.u64 (Int.tmod v17.2.1 (8 : Int))) < v2.2.1)) (some (v7.2 != (8 : Int))) (some false)))) none) (some false))) (fun (v18 : Bool) => (cond v18 (some (.inr (.inr (.inr false)))) (some (.inl ()))))) (fun (v19 : Unit) => (joinX (loopX (fun (v20 : Int) => (cond (decide (v20 < ((v2.2.2.2.length : Nat) : Int))) (joinX (cond (decide ((0 : Int) ≤ v20)) (Option.bind v2.2.2.2[(Int.toNat v20)]? (fun (v21 : ty1) => (Option.bind (F11 ((v7.1.1, (v7.1.2.1, v7.1.2.2)), v21.1)) (fun (v22 : (ty1 × Int)) => (joinX (Option.bind (cond (v22.2 != (0 : Int)) (some true) (cond (decide (v22.1.2.2.2.1 < v21.2.2.2.1)) (some true) (cond (decide (v22.1.2.2.2.2.1 < v21.2.2.2.2.1)) (some true) (cond (v22.1.2.2.1 != v21.2.2.1) (some true) (cond (decide (v21.2.1 > (1 : Int))) (some (!(((ByteArray.toList v22.1.1) == (ByteArray.toList v21.1)) && ((v22.1.2.1 == v21.2.1) && ((v22.1.2.2.1 == v21.2.2.1) && ((v22.1.2.2.2.1 == v21.2.2.2.1) && ((v22.1.2.2.2.2.1 == v21.2.2.2.2.1) && ((v22.1.2.2.2.2.2.1 == v21.2.2.2.2.2.1) && ((v22.1.2.2.2.2.2.2 == v21.2.2.2.2.2.2) && true))))))))) (some false)))))) (fun (v23 : Bool) => (cond v23 (some (.inr (.inr (.inr (.inr (.inr (.inr false))))))) (some (.inl ()))))) (fun (v24 : Unit) => (Option.bind (cond (v22.1.2.2.2.1 != v21.2.2.2.1) (cond (decide (v22.1.2.2.2.1 ≤ v2.2.2.1)) (some true) (cond (v22.1.2.1 != (1 : Int)) (some true) (some (v21.2.1 != (0 : Int))))) (some false)) (fun (v25 : Bool) => (cond v25 (some (.inr (.inr (.inr (.inr (.inr false)))))) (some (.inl ()))))))))))) none) (fun (v26 : Unit) => (some (.inl (IntKind.wrap IntKind.i64 (v20 + (1 : Int))))))) (some (.inr (.inl ()))))) (0 : Int)) (fun (v27 : Unit) => (joinX (loopX (fun (v28 : Int) => (cond (decide (v28 < ((v7.1.2.2.length : Nat) : Int))) (cond (decide ((0 : Int) ≤ v28)) (Option.bind v7.1.2.2[(Int.toNat v28)]? (fun (v29 : ty1) => (cond (decide (v29.2.2.2.2.1 > v.1.2)) (some (.inr (.inr (.inr (.inr false))))) (some (.inl (IntKind.wrap IntKind.i64 (v28 + (1 : Int)))))))) none) (some (.inr (.inl ()))))) (0 : Int)) (fun (v30 : Unit) => (some (.inl (v7.1.1, (v7.1.2.1, v7.1.2.2)))))))))))))))) none) (fun (v31 : (Int × (Int × (List ty1)))) => (some (.inl ((IntKind.wrap IntKind.i64 (v2.1 + (1 : Int))), (v31.1, (v31.2.1, v31.2.2)))))))))) ((0 : Int), ((0 : Int), ((0 : Int), []))))))) := by kernel_rfl
end Go.Proofs.Ytoblcfkmggbheaa.VL
end
section
namespace Go.Proofs.Ytoblcfkmggbheaa.VL
open Go
set_option linter.unusedVariables false
set_option linter.unusedSectionVars false
variable [Val]
theorem wi {x : Int} (h0 : -9223372036854775808 ≤ x) (h1 : x ≤ 9223372036854775807) : IntKind.wrap .i64 x = x := by rw [IntKind.wrap_i64]; omega
theorem wu {x : Int} (h0 : 0 ≤ x) (h1 : x ≤ 18446744073709551615) : IntKind.wrap .u64 x = x := by
 simp only [IntKind.wrap, IntKind.bits, IntKind.signed]
 have : x % (2 ^ 64 : Int) = x := Int.emod_eq_of_lt h0 (by omega)
 simp only [this, Bool.false_and]
 rfl
theorem joinX_l {α R : Type} (v : α) (k : α → Option R) : joinX (some (.inl v)) k = k v := rfl
theorem loopX_spec {σ ρ : Type} {f : σ → Option (σ ⊕ ρ)} (I : σ → Prop) (m : σ → Nat) (g : σ → ρ)
  (h : ∀ s, I s → f s = some (.inr (g s)) ∨ ∃ s', f s = some (.inl s') ∧ I s' ∧ m s' < m s ∧ g s' = g s) : ∀ (s : σ), I s → loopX f s = some (g s) := by
 have key : ∀ (n : Nat) (s : σ), m s ≤ n → I s → loopX f s = some (g s) := by
  intro n
  induction n with
  | zero =>
   intro s hn hs
   rw [loopX_eq]
   rcases h s hs with h1 | ⟨s', h1, h2, h3, h4⟩
   ·rw [h1]
   ·omega
  | succ n ih =>
   intro s hn hs
   rw [loopX_eq]
   rcases h s hs with h1 | ⟨s', h1, h2, h3, h4⟩
   ·rw [h1]
   ·rw [h1]
    simp only
    rw [ih s' (by omega) h2, h4]
 exact fun s hs => key (m s) s (Nat.le_refl _) hs
theorem loop_nat {ρ : Type} {f : Int → Option (Int ⊕ ρ)} (n : Nat) (g : Nat → ρ) (hend : f (n : Int) = some (.inr (g n)))
  (hstep : ∀ i : Nat, i < n → f (i : Int) = some (.inr (g i)) ∨ (f (i : Int) = some (.inl ((i + 1 : Nat) : Int)) ∧ g (i + 1) = g i)) (i : Nat) (hi : i ≤ n) : loopX f (i : Int) = some (g i) := by
 have := loopX_spec (f := f) (fun s => 0 ≤ s ∧ s ≤ n) (fun s => n - s.toNat) (fun s => g s.toNat) (fun s hs => ?_) (i : Int) ⟨by omega, by omega⟩
 ·simpa using this
 ·obtain ⟨k, rfl⟩ : ∃ k : Nat, s = k := ⟨s.toNat, by omega⟩
  have hk : k ≤ n := by omega
  simp only [Int.toNat_natCast]
  by_cases he : k = n
  ·subst he; exact .inl hend
  ·rcases hstep k (by omega) with h1 | ⟨h1, h2⟩
   ·exact .inl h1
   ·refine .inr ⟨_, h1, ⟨by omega, by omega⟩, by simp only [Int.toNat_natCast]; omega, by simp only [Int.toNat_natCast]; exact h2⟩
theorem loop_acc {A ρ : Type} {f : Int × A → Option ((Int × A) ⊕ ρ)} (n : Nat) (I : Nat → A → Prop) (g : Nat → A → ρ) (hend : ∀ a, I n a → f ((n : Int), a) = some (.inr (g n a)))
  (hstep : ∀ (i : Nat) (a : A), i < n → I i a → f ((i : Int), a) = some (.inr (g i a)) ∨ ∃ a', f ((i : Int), a) = some (.inl (((i + 1 : Nat) : Int), a')) ∧ I (i + 1) a' ∧ g (i + 1) a' = g i a) (i : Nat) (a : A) (hi : i ≤ n) (ha : I i a) :
  loopX f ((i : Int), a) = some (g i a) := by
 have := loopX_spec (f := f) (fun s => 0 ≤ s.1 ∧ s.1 ≤ n ∧ I s.1.toNat s.2) (fun s => n - s.1.toNat) (fun s => g s.1.toNat s.2) (fun s hs => ?_) ((i : Int), a) ⟨by simp, by simp; omega, by simpa using ha⟩
 ·simpa using this
 ·obtain ⟨s1, s2⟩ := s
  simp only at hs
  obtain ⟨k, rfl⟩ : ∃ k : Nat, s1 = k := ⟨s1.toNat, by omega⟩
  have hk : k ≤ n := by omega
  simp only [Int.toNat_natCast] at hs ⊢
  by_cases he : k = n
  ·subst he; exact .inl (hend _ hs.2.2)
  ·rcases hstep k s2 (by omega) hs.2.2 with h1 | ⟨a', h1, h2, h3⟩
   ·exact .inl h1
   ·refine .inr ⟨_, h1, ⟨by omega, by omega, by simpa using h2⟩, by simp only [Int.toNat_natCast]; omega, by simp only [Int.toNat_natCast]; exact h3⟩
theorem range_all_succ (ok : Nat → Bool) (n : Nat) : (List.range (n + 1)).all ok = ((List.range n).all ok && ok n) := by
 rw [List.range_succ, List.all_append]; simp
theorem loop_allS {A ρ : Type} {f : Int × A → Option ((Int × A) ⊕ ρ)} {n : Nat} (st : Nat → A) (ok : Nat → Bool) (bad : ρ) (good : ρ) (hend : f ((n : Int), st n) = some (.inr good))
  (hstep : ∀ i : Nat, i < n → (∀ j, j < i → ok j = true) → f ((i : Int), st i) = if ok i = true then some (.inl (((i + 1 : Nat) : Int), st (i + 1))) else some (.inr bad)) :
  loopX f ((0 : Int), st 0) = some (if (List.range n).all ok = true then good else bad) := by
 classical
 have := loop_acc (f := f) n (fun i a => a = st i ∧ ∀ j, j < i → ok j = true) (fun i a => if ∀ j, i ≤ j → j < n → ok j = true then good else bad) ?_ ?_ 0 (st 0) (Nat.zero_le _) ⟨rfl, fun j hj => by omega⟩
 ·have e0 : ((0 : Nat) : Int) = 0 := rfl
  rw [e0] at this
  rw [this]
  congr 1
  have e : (∀ j, 0 ≤ j → j < n → ok j = true) ↔ (List.range n).all ok = true := by
   simp [List.all_eq_true]
  by_cases h : (List.range n).all ok = true
  ·rw [if_pos h, if_pos (e.2 h)]
  ·rw [if_neg h, if_neg (fun q => h (e.1 q))]
 ·rintro a ⟨rfl, _⟩
  rw [hend, if_pos (fun j h1 h2 => by omega)]
 ·rintro i a hi ⟨rfl, ha⟩
  rw [hstep i hi ha]
  by_cases h : ok i = true
  ·rw [if_pos h]
   refine .inr ⟨_, rfl, ⟨rfl, fun j hj => ?_⟩, ?_⟩
   ·rcases Nat.lt_or_eq_of_le (Nat.le_of_lt_succ hj) with h1 | h1
    ·exact ha j h1
    ·rw [h1]; exact h
   ·have e : (∀ j, i + 1 ≤ j → j < n → ok j = true) ↔ (∀ j, i ≤ j → j < n → ok j = true) := by
     constructor
     ·intro q j h1 h2
      rcases Nat.lt_or_eq_of_le h1 with h3 | h3
      ·exact q j h3 h2
      ·rw [← h3]; exact h
     ·intro q j h1 h2; exact q j (by omega) h2
    by_cases hq : ∀ j, i ≤ j → j < n → ok j = true
    ·rw [if_pos hq, if_pos (e.2 hq)]
    ·rw [if_neg hq, if_neg (fun q => hq (e.1 q))]
  ·rw [if_neg h]
   left
   rw [if_neg (fun q => h (q i (Nat.le_refl _) hi))]
theorem loop_gather {β ρ : Type} {f : Int × List β → Option ((Int × List β) ⊕ ρ)} {n : Nat} (h : Nat → List β) (fin : List β → ρ) (hl : ∀ i, (h i).length ≤ 1)
  (hend : ∀ a : List β, a.length ≤ n → f ((n : Int), a) = some (.inr (fin a))) (hstep : ∀ (i : Nat) (a : List β), i < n → a.length ≤ i → f ((i : Int), a) = some (.inl (((i + 1 : Nat) : Int), a ++ h i))) :
  loopX f ((0 : Int), []) = some (fin ((List.range n).flatMap h)) := by
 have key : ∀ (d i : Nat) (a : List β), n - i = d → i ≤ n → a.length ≤ i → loopX f ((i : Int), a) = some (fin (a ++ (List.range' i d).flatMap h)) := by
  intro d
  induction d with
  | zero =>
   intro i a hd hi ha
   have : i = n := by omega
   subst this
   rw [loopX_eq, hend a ha]; simp
  | succ d ih =>
   intro i a hd hi ha
   rw [loopX_eq, hstep i a (by omega) ha]
   simp only
   rw [ih (i + 1) _ (by omega) (by omega) (by rw [List.length_append]; have := hl i; omega), List.range'_succ]
   simp
 have := key n 0 [] (by omega) (Nat.zero_le _) (Nat.le_refl _)
 have e0 : ((0 : Nat) : Int) = 0 := rfl
 rw [e0] at this
 rw [this, List.range_eq_range']; simp
def cntP (p : Nat → Bool) : Nat → Nat
 | 0 => 0
 | n + 1 => cntP p n + (if p n = true then 1 else 0)
theorem cntP_le (p : Nat → Bool) : ∀ n, cntP p n ≤ n
 | 0 => Nat.le_refl _
 | n + 1 => by have := cntP_le p n; simp only [cntP]; split <;> omega
theorem cntP_at {p : Nat → Bool} : ∀ {n c : Nat}, c ≤ n → (∀ k, k < c → p k = true) → (∀ k, c ≤ k → k < n → p k = false) → cntP p n = c
 | 0, c, h, _, _ => by simp only [cntP]; omega
 | n + 1, c, h, h1, h2 => by
  simp only [cntP]
  by_cases hc : c = n + 1
  ·have := cntP_at (n := n) (c := n) (Nat.le_refl _) (fun k hk => h1 k (by omega)) (fun k q1 q2 => by omega)
   rw [this, if_pos (h1 n (by omega))]; omega
  ·have := cntP_at (n := n) (c := c) (by omega) h1 (fun k q1 q2 => h2 k q1 (by omega))
   rw [this, h2 n (by omega) (by omega)]; simp
theorem loop_bs {f : Int × Int → Option ((Int × Int) ⊕ Int)} {n : Nat} (p : Nat → Bool) (hmono : ∀ i j, i ≤ j → j < n → p j = true → p i = true)
  (hend : ∀ i : Nat, i ≤ n → f ((i : Int), (i : Int)) = some (.inr (i : Int)))
  (hstep : ∀ i j : Nat, i < j → j ≤ n → f ((i : Int), (j : Int)) = if p ((i + j) / 2) = true then some (.inl ((((i + j) / 2 + 1 : Nat) : Int), (j : Int))) else some (.inl ((i : Int), (((i + j) / 2 : Nat) : Int)))) :
  loopX f ((0 : Int), (n : Int)) = some ((cntP p n : Nat) : Int) := by
 have := loopX_spec (f := f) (fun s => ∃ i j : Nat, s = ((i : Int), (j : Int)) ∧ i ≤ j ∧ j ≤ n ∧ (∀ k, k < i → p k = true) ∧ (∀ k, j ≤ k → k < n → p k = false)) (fun s => s.2.toNat - s.1.toNat) (fun _ => ((cntP p n : Nat) : Int)) ?_ ((0 : Int), (n : Int)) ⟨0, n, rfl, Nat.zero_le _, Nat.le_refl _, fun k hk => by omega, fun k h1 h2 => by omega⟩
 ·exact this
 ·rintro s ⟨i, j, rfl, h1, h2, h3, h4⟩
  by_cases hij : i = j
  ·subst hij
   left
   rw [hend i h2, cntP_at h2 h3 h4]
  ·right
   rw [hstep i j (by omega) h2]
   by_cases hp : p ((i + j) / 2) = true
   ·rw [if_pos hp]
    refine ⟨_, rfl, ⟨_, _, rfl, by omega, h2, fun k hk => hmono k ((i + j) / 2) (by omega) (by omega) hp, h4⟩, by simp only [Int.toNat_natCast]; omega, rfl⟩
   ·rw [if_neg hp]
    refine ⟨_, rfl, ⟨_, _, rfl, by omega, by omega, h3, fun k hk hkn => ?_⟩, by simp only [Int.toNat_natCast]; omega, rfl⟩
    rw [Bool.eq_false_iff]
    intro hpk
    exact hp (hmono ((i + j) / 2) k hk hkn hpk)
theorem xs : (∀ {α : Type} (a b : α), cond true a b = a) ∧ (∀ {α : Type} (a b : α), cond false a b = b) ∧ (∀ {α β : Type} (a : α) (f : α → Option β), (some a).bind f = f a) ∧ (∀ {α β : Type} (a : α) (f : α → β), (some a).map f = some (f a)) ∧
 (∀ {α R : Type} (v : α) (k : α → Option R), joinX (some (.inl v)) k = k v) ∧ (∀ {α R : Type} (r : R) (k : α → Option R), joinX (some (.inr r)) k = some r) ∧ (∀ (h : Decidable True), @decide True h = true) ∧ (∀ (h : Decidable False), @decide False h = false) ∧ ((!true) = false) ∧ ((!false) = true) ∧ (∀ b : Bool, (b && true) = b) ∧ (∀ b : Bool, (true && b) = b) ∧ (∀ b : Bool, (b && b) = b) ∧ (∀ b : Bool, (false && b) = false) ∧ (∀ b : Bool, (b && false) = false) ∧ (∀ b : Bool, (true || b) = true) ∧ (∀ b : Bool, (b || true) = true) ∧ (∀ b : Bool, (false || b) = b) ∧ (∀ b : Bool, (b || false) = b) ∧ (∀ {α : Type} (a b : List α), Append.append a b = a ++ b) ∧ (∀ {α : Type} (a b : List α), (a ++ b).length = a.length + b.length) ∧ (∀ {α : Type} (a : α) (b : List α), (a :: b).length = b.length + 1) ∧ (∀ {α : Type}, ([] : List α).length = 0) ∧ (∀ n : Nat, 0 + n = n) ∧ (∀ n : Nat, n + 0 = n) ∧ (∀ n : Nat, ((n : Int)).toNat = n) ∧ (∀ n : Nat, (n ≤ n) = True) ∧ (∀ n : Int, (n ≤ n) = True) ∧ (∀ {α : Type} (a : List α), a.take a.length = a) ∧ (∀ {α : Type} (a b : α), (some a).getD b = a) ∧ (∀ {α : Type} (b : α), (none : Option α).getD b = b) ∧ (∀ {α : Type} (a b : α), (if True then a else b) = a) ∧ (∀ {α : Type} (a b : α), (if False then a else b) = b) ∧ ((false = true) = False) ∧ ((true = false) = False) := by
 refine ⟨fun _ _ => rfl, fun _ _ => rfl, fun _ _ => rfl, fun _ _ => rfl, fun _ _ => rfl, fun _ _ => rfl, fun _ => by simp, fun _ => by simp, rfl, rfl, ?_, ?_, ?_, ?_, ?_, ?_, ?_, ?_, ?_, fun _ _ => rfl, fun _ _ => List.length_append, fun _ _ => rfl, rfl, Nat.zero_add, fun _ => rfl, fun _ => rfl, fun _ => eq_true (Nat.le_refl _), fun _ => eq_true (Int.le_refl _), fun _ => List.take_length, fun _ _ => rfl, fun _ => rfl, fun _ _ => by simp, fun _ _ => by simp, by simp, by simp⟩ <;> (intro b; cases b <;> rfl)
end Go.Proofs.Ytoblcfkmggbheaa.VL
end
section
namespace Go.Proofs.Ytoblcfkmggbheaa.VL
open Go
set_option linter.unusedVariables false
set_option linter.unusedSectionVars false
set_option linter.unusedSimpArgs false
theorem bl_irrefl : ∀ x : List UInt8, Op.bytesLess x x = false
 | [] => rfl
 | a :: x => by
  have : ¬ (a < a) := by rw [UInt8.lt_iff_toNat_lt]; omega
  simp [Op.bytesLess, this, bl_irrefl x]
theorem bl_trans : ∀ {x y z : List UInt8}, Op.bytesLess x y = true → Op.bytesLess y z = true → Op.bytesLess x z = true
 | _, _, [], _, h => by cases ‹List UInt8› <;> simp [Op.bytesLess] at h
 | [], _, _ :: _, _, _ => rfl
 | _ :: _, [], _ :: _, h, _ => by simp [Op.bytesLess] at h
 | a :: x, b :: y, c :: z, h, k => by
  simp only [Op.bytesLess, Bool.or_eq_true, decide_eq_true_eq, Bool.and_eq_true, beq_iff_eq] at h k ⊢
  rcases h with h | ⟨rfl, h⟩
  ·rcases k with k | ⟨rfl, k⟩
   ·left; rw [UInt8.lt_iff_toNat_lt] at *; omega
   ·left; exact h
  ·rcases k with k | ⟨rfl, k⟩
   ·left; exact k
   ·right; exact ⟨rfl, bl_trans h k⟩
theorem bl_tri : ∀ x y : List UInt8, Op.bytesLess x y = true ∨ x = y ∨ Op.bytesLess y x = true
 | [], [] => .inr (.inl rfl)
 | [], _ :: _ => .inl rfl
 | _ :: _, [] => .inr (.inr rfl)
 | a :: x, b :: y => by
  simp only [Op.bytesLess, Bool.or_eq_true, decide_eq_true_eq, Bool.and_eq_true, beq_iff_eq, List.cons.injEq]
  rcases Nat.lt_trichotomy a.toNat b.toNat with h | h | h
  ·left; left; rw [UInt8.lt_iff_toNat_lt]; exact h
  ·have h := UInt8.toNat_inj.1 h
   subst h
   rcases bl_tri x y with h | h | h
   ·exact .inl (.inr ⟨rfl, h⟩)
   ·exact .inr (.inl ⟨rfl, h⟩)
   ·exact .inr (.inr (.inr ⟨rfl, h⟩))
  ·right; right; left; rw [UInt8.lt_iff_toNat_lt]; exact h
theorem bl_asymm {x y : List UInt8} (h : Op.bytesLess x y = true) : Op.bytesLess y x = false := by
 rw [Bool.eq_false_iff]
 intro k
 have := bl_trans h k
 rw [bl_irrefl] at this; cases this
theorem toList_loop (s : ByteArray) : ∀ (n i : Nat) (r : List UInt8), s.size - i = n → i ≤ s.size → ByteArray.toList.loop s i r = r.reverse ++ (s.data.toList.drop i) := by
 intro n
 induction n with
 | zero =>
  intro i r h hi
  have : i = s.size := by omega
  unfold ByteArray.toList.loop
  rw [if_neg (by omega), List.drop_eq_nil_of_le (by rw [Array.length_toList]; show s.size ≤ i; omega), List.append_nil]
 | succ n ih =>
  intro i r h hi
  unfold ByteArray.toList.loop
  rw [if_pos (by omega), ih (i + 1) _ (by omega) (by omega)]
  have hlt : i < s.data.toList.length := by rw [Array.length_toList]; show i < s.size; omega
  have e : s.get! i = s.data.toList[i] := by
   show s.data[i]! = _
   rw [getElem!_pos s.data i (by rw [Array.length_toList] at hlt; exact hlt)]
   simp
  rw [List.reverse_cons, List.append_assoc, List.singleton_append, e, List.drop_eq_getElem_cons hlt]
theorem toList_data (s : ByteArray) : s.toList = s.data.toList := by
 have := toList_loop s (s.size - 0) 0 [] rfl (Nat.zero_le _)
 unfold ByteArray.toList
 rw [this]; simp
theorem toList_inj {a b : ByteArray} (h : a.toList = b.toList) : a = b := by
 rw [toList_data, toList_data] at h
 cases a; cases b
 simp only [ByteArray.mk.injEq]
 exact Array.toList_inj.1 h
theorem toList_len (s : ByteArray) : s.toList.length = s.size := by rw [toList_data, Array.length_toList]; rfl
theorem toList_nil (s : ByteArray) : (s.toList == (ByteArray.mk #[]).toList) = decide (s.size = 0) := by
 have h0 : (ByteArray.mk #[]).toList = [] := by rw [toList_data]
 rw [h0, Bool.eq_iff_iff, beq_iff_eq, decide_eq_true_iff, ← toList_len]
 exact List.length_eq_zero_iff.symm
variable [Val]
def okB (n : Nat) : Bool := (decide (97 ≤ n) && decide (n ≤ 122)) || ((decide (48 ≤ n) && decide (n ≤ 57)) || decide (n = 45))
def nmB (s : ByteArray) : Bool := (List.range s.size).all (fun i => okB (s.get! i).toNat) && (decide (1 ≤ s.size) && decide (s.size ≤ 20))
theorem rune_cond (n : Nat) {R : Type} (a b : Option R) : (Option.bind (cond (decide ((97 : Int) ≤ (n : Int))) (cond (decide ((n : Int) ≤ (122 : Int))) (some false) (cond (decide ((48 : Int) ≤ (n : Int))) (cond (decide ((n : Int) ≤ (57 : Int))) (some false) (some (!((n : Int) == (45 : Int))))) (some (!((n : Int) == (45 : Int)))))) (cond (decide ((48 : Int) ≤ (n : Int))) (cond (decide ((n : Int) ≤ (57 : Int))) (some false) (some (!((n : Int) == (45 : Int))))) (some (!((n : Int) == (45 : Int)))))) (fun (v1 : Bool) => cond v1 a b)) = if okB n = true then b else a := by
 have e45 : ((n : Int) == (45 : Int)) = decide (n = 45) := by rw [Bool.eq_iff_iff, beq_iff_eq, decide_eq_true_iff]; omega
 have e1 : decide ((97 : Int) ≤ (n : Int)) = decide (97 ≤ n) := by rw [Bool.eq_iff_iff, decide_eq_true_iff, decide_eq_true_iff]; omega
 have e2 : decide ((n : Int) ≤ (122 : Int)) = decide (n ≤ 122) := by rw [Bool.eq_iff_iff, decide_eq_true_iff, decide_eq_true_iff]; omega
 have e3 : decide ((48 : Int) ≤ (n : Int)) = decide (48 ≤ n) := by rw [Bool.eq_iff_iff, decide_eq_true_iff, decide_eq_true_iff]; omega
 have e4 : decide ((n : Int) ≤ (57 : Int)) = decide (n ≤ 57) := by rw [Bool.eq_iff_iff, decide_eq_true_iff, decide_eq_true_iff]; omega
 rw [e45, e1, e2, e3, e4]
 unfold okB
 cases decide (97 ≤ n) <;> cases decide (n ≤ 122) <;> cases decide (48 ≤ n) <;> cases decide (n ≤ 57) <;> cases decide (n = 45) <;> rfl
theorem runes_loop {s : ByteArray} {f : ByteArray × Nat → Option ((ByteArray × Nat) ⊕ (Unit ⊕ Bool))}
  (hend : ∀ pos, s.size ≤ pos → f (s, pos) = some (.inr (.inl ()))) (hstep : ∀ pos, pos < s.size → f (s, pos) = if okB (Utf8.decode s pos).1 = true then some (.inl (s, pos + (Utf8.decode s pos).2)) else some (.inr (.inr false))) :
  loopX f (s, 0) = some (if (List.range s.size).all (fun i => okB (s.get! i).toNat) = true then .inl () else .inr false) := by
 classical
 have gm : ∀ i (h : i < s.size), s.get! i = s[i]'h := by
  intro i h
  show s.data[i]! = _
  rw [getElem!_pos s.data i h]; rfl
 have := loopX_spec (f := f) (fun x => x.1 = s ∧ ∀ j, j < x.2 → j < s.size → okB (s.get! j).toNat = true) (fun x => s.size - x.2) (fun x => if ∀ j, x.2 ≤ j → j < s.size → okB (s.get! j).toNat = true then .inl () else .inr false) ?_ (s, 0) ⟨rfl, fun j hj => by simp at hj⟩
 ·rw [this]
  have e : (∀ j, 0 ≤ j → j < s.size → okB (s.get! j).toNat = true) ↔ (List.range s.size).all (fun i => okB (s.get! i).toNat) = true := by simp [List.all_eq_true]
  congr 1
  by_cases h : (List.range s.size).all (fun i => okB (s.get! i).toNat) = true
  ·rw [if_pos h, if_pos (e.2 h)]
  ·rw [if_neg h, if_neg (fun q => h (e.1 q))]
 ·rintro ⟨s', pos⟩ ⟨h1, h2⟩
  simp only at h1 h2 ⊢
  subst h1
  by_cases hp : s'.size ≤ pos
  ·left
   rw [hend pos hp, if_pos (fun j q1 q2 => by omega)]
  ·have hlt : pos < s'.size := by omega
   rw [hstep pos hlt]
   by_cases ha : (s'[pos]'hlt).toNat < 128
   ·have hd := decode_ascii s' pos hlt ha
    rw [hd]
    simp only
    rw [← gm pos hlt]
    by_cases hok : okB (s'.get! pos).toNat = true
    ·rw [if_pos hok]
     right
     refine ⟨_, rfl, ⟨rfl, fun j hj hj2 => ?_⟩, by simp only; omega, ?_⟩
     ·rcases Nat.lt_or_eq_of_le (Nat.le_of_lt_succ hj) with q | q
      ·exact h2 j q hj2
      ·rw [q]; exact hok
     ·simp only
      have e : (∀ j, pos + 1 ≤ j → j < s'.size → okB (s'.get! j).toNat = true) ↔ (∀ j, pos ≤ j → j < s'.size → okB (s'.get! j).toNat = true) := by
       constructor
       ·intro q j h1 h2
        rcases Nat.lt_or_eq_of_le h1 with h3 | h3
        ·exact q j h3 h2
        ·rw [← h3]; exact hok
       ·intro q j h1 h2; exact q j (by omega) h2
      by_cases hq : ∀ j, pos ≤ j → j < s'.size → okB (s'.get! j).toNat = true
      ·rw [if_pos hq, if_pos (e.2 hq)]
      ·rw [if_neg hq, if_neg (fun q => hq (e.1 q))]
    ·rw [if_neg hok]
     left
     rw [if_neg (fun q => hok (q pos (Nat.le_refl _) hlt))]
   ·have hd := decode_high s' pos hlt (by omega)
    have hbad : ∀ n, 128 ≤ n → okB n = false := by
     intro n hn
     unfold okB
     have a1 : decide (n ≤ 122) = false := by rw [decide_eq_false_iff_not]; omega
     have a2 : decide (n ≤ 57) = false := by rw [decide_eq_false_iff_not]; omega
     have a3 : decide (n = 45) = false := by rw [decide_eq_false_iff_not]; omega
     rw [a1, a2, a3]
     cases decide (97 ≤ n) <;> cases decide (48 ≤ n) <;> rfl
    rw [hbad _ hd.1]
    left
    rw [if_neg (by simp), if_neg]
    intro q
    have := q pos (Nat.le_refl _) hlt
    rw [gm pos hlt, hbad _ (by omega)] at this
    cases this
end Go.Proofs.Ytoblcfkmggbheaa.VL
end
section
namespace Go.Proofs.Ytoblcfkmggbheaa.VL
open Go
set_option linter.unusedVariables false
set_option linter.unusedSectionVars false
set_option linter.unusedSimpArgs false
variable [Val]
theorem F46_ok {s : ByteArray} (hs : s.size ≤ maxLen) : F46 s = some (nmB s) := by
 rw [F46_eq, runes_loop]
 ·unfold nmB
  rw [toList_nil]
  cases (List.range s.size).all (fun i => okB (s.get! i).toNat)
  ·rfl
  ·simp only [if_true, joinX_l, Bool.true_and]
   by_cases h0 : s.size = 0
   ·simp [h0]
   ·have e1 : decide (1 ≤ s.size) = true := by rw [decide_eq_true_iff]; omega
    have e2 : decide (((s.size : Nat) : Int) ≤ 20) = decide (s.size ≤ 20) := by rw [Bool.eq_iff_iff, decide_eq_true_iff, decide_eq_true_iff]; omega
    simp only [h0, decide_false, Bool.not_false, cond_true, e1, e2, Bool.true_and]
 ·intro pos hp
  have : ¬ pos < s.size := by omega
  simp only [this, decide_false, cond_false]
 ·intro pos hp
  simp only [hp, decide_true, cond_true]
  exact rune_cond _ _ _
end Go.Proofs.Ytoblcfkmggbheaa.VL
end
section
namespace Go.Proofs.Ytoblcfkmggbheaa.VL
open Go
set_option linter.unusedVariables false
set_option linter.unusedSectionVars false
set_option linter.unusedSimpArgs false
variable [Val]
abbrev TK := ByteArray × (Int × (Int × (Int × (Int × (Int × Int)))))
abbrev BK := Int × (Int × List TK)
theorem F47_ok (n a b : Int) : F47 (n, (a, b)) = some (decide (a ≤ n) && decide (n ≤ b)) := by
 rw [F47_eq]
 show cond (decide (a ≤ n)) (some (decide (n ≤ b))) (some false) = _
 cases decide (a ≤ n) <;> rfl
theorem F54_ok (n : Int) : F54 n = some (decide (0 ≤ n) && decide (n ≤ 63)) := by rw [F54_eq, F47_ok]; rfl
theorem F29_ok (c : Int × Int) : F29 c = some (if (decide (1 ≤ c.1) && decide (c.1 ≤ 100)) && (decide (1 ≤ c.2) && decide (c.2 ≤ 100)) then 0 else 1) := by
 rw [F29_eq]
 simp only [F47_ok c.1 1 100, F47_ok c.2 1 100, Option.bind_some]
 cases (decide (1 ≤ c.1) && decide (c.1 ≤ 100)) <;> cases (decide (1 ≤ c.2) && decide (c.2 ≤ 100)) <;> rfl
def capsB (c : Int × Int) : Bool := (decide (1 ≤ c.1) && decide (c.1 ≤ 100)) && (decide (1 ≤ c.2) && decide (c.2 ≤ 100))
theorem F12_ok (c : Int × Int) : F12 c = some (capsB c) := by
 rw [F12_eq]
 unfold capsB
 cases decide (1 ≤ c.1) <;> cases decide (c.1 ≤ 100) <;> cases decide (1 ≤ c.2) <;> rfl
def ownB (t : TK) : Bool := if (t.2.1 == 1) = true then ((decide (0 ≤ t.2.2.2.2.2.1) && decide (t.2.2.2.2.2.1 ≤ 63)) && decide (0 < t.2.2.2.1)) else (t.2.2.2.2.2.1 == -1) && (t.2.2.2.2.2.2 == 0)
def taskB (t : TK) (g : Int) : Bool :=
 nmB t.1 && ((decide (0 ≤ t.2.1) && decide (t.2.1 ≤ 4)) && ((decide (0 ≤ t.2.2.1) && decide (t.2.2.1 ≤ 9)) && (decide (t.2.2.2.1 ≤ g) && (((t.2.2.2.1 == 0) == (t.2.2.2.2.1 == 0)) && ((decide (0 ≤ t.2.2.2.2.1) && decide (t.2.2.2.2.1 ≤ 100)) && ownB t)))))
theorem F57_ok {t : TK} {g : Int} (hs : t.1.size ≤ maxLen) : F57 (t, g) = some (!taskB t g) := by
 rw [F57_eq]
 simp only [F46_ok hs, F47_ok t.2.1 0 4, F47_ok t.2.2.1 0 9, F47_ok t.2.2.2.2.1 0 100, F54_ok, Option.bind_some]
 unfold taskB ownB
 have e1 : decide (t.2.2.2.1 > g) = !decide (t.2.2.2.1 ≤ g) := by rw [Bool.eq_iff_iff, Bool.not_eq_true', decide_eq_true_iff, decide_eq_false_iff_not]; omega
 have e2 : decide (t.2.2.2.1 > 0) = decide (0 < t.2.2.2.1) := rfl
 rw [e1, e2]
 generalize (decide (0 ≤ t.2.2.2.2.2.1) && decide (t.2.2.2.2.2.1 ≤ 63)) = b1
 generalize (decide (0 ≤ t.2.1) && decide (t.2.1 ≤ 4)) = b2
 generalize (decide (0 ≤ t.2.2.1) && decide (t.2.2.1 ≤ 9)) = b3
 generalize (decide (0 ≤ t.2.2.2.2.1) && decide (t.2.2.2.2.1 ≤ 100)) = b4
 generalize decide (t.2.2.2.1 ≤ g) = b5
 generalize decide (0 < t.2.2.2.1) = b6
 generalize ((t.2.2.2.1 == 0) == (t.2.2.2.2.1 == 0)) = b7
 generalize (t.2.2.2.2.2.1 == -1) = b8
 generalize (t.2.2.2.2.2.2 == 0) = b9
 generalize nmB t.1 = b10
 generalize (t.2.1 == 1) = b11
 cases b10
 ·cases b8 <;> cases b11 <;> cases b1 <;> rfl
 cases b2
 ·cases b8 <;> cases b11 <;> cases b1 <;> rfl
 cases b3
 ·cases b8 <;> cases b11 <;> cases b1 <;> rfl
 cases b5
 ·cases b8 <;> cases b11 <;> cases b1 <;> rfl
 cases b7
 ·cases b8 <;> cases b11 <;> cases b1 <;> rfl
 cases b4
 ·cases b8 <;> cases b11 <;> cases b1 <;> rfl
 cases b8 <;> cases b11 <;> cases b1 <;> cases b6 <;> cases b9 <;> rfl
def ta (l : List TK) (i : Nat) : TK := l.getD i (⟨#[]⟩, 0, 0, 0, 0, 0, 0)
theorem ta_eq {l : List TK} {i : Nat} (h : i < l.length) : l[i] = ta l i := by
 unfold ta
 rw [List.getD_eq_getElem?_getD, List.getElem?_eq_getElem h]; rfl
theorem at_ta {l : List TK} {i : Nat} (h : i < l.length) : l[i]? = some (ta l i) := by rw [List.getElem?_eq_getElem h, ta_eq h]
def ltN (a b : ByteArray) : Bool := Op.bytesLess a.toList b.toList
def eqN (a b : ByteArray) : Bool := a.toList == b.toList
theorem ltN_asymm {a b : ByteArray} (h : ltN a b = true) : ltN b a = false := bl_asymm h
theorem ltN_trans {a b c : ByteArray} (h : ltN a b = true) (k : ltN b c = true) : ltN a c = true := bl_trans h k
theorem ltN_irrefl (a : ByteArray) : ltN a a = false := bl_irrefl _
theorem eqN_eq {a b : ByteArray} (h : eqN a b = true) : a = b := toList_inj (by unfold eqN at h; exact eq_of_beq h)
theorem eqN_refl (a : ByteArray) : eqN a a = true := by unfold eqN; exact beq_self_eq_true _
theorem tri (a b : ByteArray) : ltN a b = true ∨ a = b ∨ ltN b a = true := by
 rcases bl_tri a.toList b.toList with h | h | h
 ·exact .inl h
 ·exact .inr (.inl (toList_inj h))
 ·exact .inr (.inr h)
theorem eqN_of_lt {a b : ByteArray} (h : ltN a b = true) : eqN a b = false := by
 rw [Bool.eq_false_iff]; intro k; rw [eqN_eq k, ltN_irrefl] at h; cases h
def okAt (l : List TK) (g : Int) (i : Nat) : Bool :=
 taskB (ta l i) g && ((decide (i = 0) || ltN (ta l (i - 1)).1 (ta l i).1) && (List.range i).all fun k => !(decide (0 < (ta l i).2.2.2.1) && ((ta l k).2.2.2.1 == (ta l i).2.2.2.1)))
def bookB (b : BK) : Bool := (List.range b.2.2.length).all (okAt b.2.2 b.2.1) && decide (b.2.2.length ≤ 100)
theorem mget_mput {k : IntKind} {vt : TT} (x y : Int) (v : vt.den) : ∀ l : List (Int × vt.den), mget (kt := .i k) (vt := vt) x (mput (kt := .i k) (vt := vt) y v l) = if x = y then some v else mget (kt := .i k) (vt := vt) x l
 | [] => by
  show cond (x == y) (some v) none = _
  by_cases h : x = y
  ·subst h; simp
  ·rw [if_neg h]
   have : (x == y) = false := by rw [beq_eq_false_iff_ne]; exact h
   rw [this]; rfl
 | p :: r => by
  have e1 : mput (kt := .i k) (vt := vt) y v (p :: r) = cond (y == p.1) ((y, v) :: r) (p :: mput (kt := .i k) (vt := vt) y v r) := rfl
  have e2 : ∀ q r', mget (kt := .i k) (vt := vt) x (q :: r') = cond (x == q.1) (some q.2) (mget (kt := .i k) (vt := vt) x r') := fun q r' => rfl
  rw [e1]
  by_cases hy : y = p.1
  ·have : (y == p.1) = true := by rw [beq_iff_eq]; exact hy
   rw [this, cond_true, e2, e2]
   by_cases h : x = y
   ·subst h; simp
   ·rw [if_neg h]
    have h1 : (x == y) = false := by rw [beq_eq_false_iff_ne]; exact h
    have h2 : (x == p.1) = false := by rw [beq_eq_false_iff_ne, ← hy]; exact h
    rw [h1, h2]; rfl
  ·have : (y == p.1) = false := by rw [beq_eq_false_iff_ne]; exact hy
   rw [this, cond_false, e2, e2, mget_mput x y v r]
   by_cases h : x = y
   ·subst h
    rw [if_pos rfl, if_pos rfl]
    show cond (x == p.1) _ _ = _
    rw [this, cond_false]
   ·rw [if_neg h, if_neg h]
def metM (l : List TK) : Nat → List (Int × Bool)
 | 0 => []
 | i + 1 => mput (kt := .i .u64) (vt := .b) (ta l i).2.2.2.1 (decide (0 < (ta l i).2.2.2.1)) (metM l i)
theorem met_get (l : List TK) (x : Int) : ∀ i, ((mget (kt := .i .u64) (vt := .b) x (metM l i)).getD false : Bool) = !(List.range i).all fun k => !(decide (0 < x) && ((ta l k).2.2.2.1 == x))
 | 0 => rfl
 | i + 1 => by
  rw [metM, mget_mput, range_all_succ]
  by_cases h : x = (ta l i).2.2.2.1
  ·rw [if_pos h, ← h]
   have : (x == x) = true := by simp
   rw [this, Option.getD_some]
   by_cases h0 : 0 < x
   ·simp [h0]
   ·simp [h0]
  ·rw [if_neg h, met_get l x i]
   have : ((ta l i).2.2.2.1 == x) = false := by rw [beq_eq_false_iff_ne]; exact fun e => h e.symm
   rw [this]; simp
def szB (b : BK) : Prop := b.2.2.length ≤ maxLen ∧ ∀ i, i < b.2.2.length → (ta b.2.2 i).1.size ≤ maxLen ∧ 0 ≤ (ta b.2.2 i).2.2.2.1
theorem len63 {n : Nat} (h : n ≤ maxLen) : n ≤ 9223372036854775807 := by unfold maxLen at h; omega
theorem F26_ok {b : BK} (hs : szB b) : F26 b = some (if bookB b = true then 0 else 1) := by
 obtain ⟨h1, h2⟩ := hs
 have h63 := len63 h1
 rw [F26_eq]
 show joinX (loopX _ ((0 : Int), metM b.2.2 0)) _ = _
 rw [loop_allS (n := b.2.2.length) (metM b.2.2) (okAt b.2.2 b.2.1) (Sum.inr 1) (Sum.inl (metM b.2.2 b.2.2.length))]
 ·unfold bookB
  have e : decide (((b.2.2.length : Nat) : Int) > 100) = !decide (b.2.2.length ≤ 100) := by rw [Bool.eq_iff_iff, Bool.not_eq_true', decide_eq_true_iff, decide_eq_false_iff_not]; omega
  cases (List.range b.2.2.length).all (okAt b.2.2 b.2.1)
  ·rfl
  ·simp only [if_true, joinX_l, e, Bool.true_and]
   cases decide (b.2.2.length ≤ 100) <;> rfl
 ·have : ¬ ((b.2.2.length : Nat) : Int) < ((b.2.2.length : Nat) : Int) := by omega
  simp -implicitDefEqProofs only [this, eq_self, xs]
 ·intro i hi _
  have q1 : ((i : Nat) : Int) < ((b.2.2.length : Nat) : Int) := by omega
  have q2 : (0 : Int) ≤ (i : Int) := by omega
  have hw : IntKind.wrap .i64 ((i : Int) + 1) = ((i + 1 : Nat) : Int) := by rw [wi (by omega) (by omega)]; omega
  have hF : F57 (((ta b.2.2 i).1, ((ta b.2.2 i).2.1, ((ta b.2.2 i).2.2.1, ((ta b.2.2 i).2.2.2.1, ((ta b.2.2 i).2.2.2.2.1, ((ta b.2.2 i).2.2.2.2.2.1, (ta b.2.2 i).2.2.2.2.2.2)))))), b.2.1) = some (!taskB (ta b.2.2 i) b.2.1) := F57_ok (h2 i hi).1
  have hm : ((mget (kt := .i .u64) (vt := .b) (ta b.2.2 i).2.2.2.1 (metM b.2.2 i)).getD false : Bool) = !(List.range i).all fun k => !(decide (0 < (ta b.2.2 i).2.2.2.1) && ((ta b.2.2 k).2.2.2.1 == (ta b.2.2 i).2.2.2.1)) := met_get _ _ _
  simp -implicitDefEqProofs only [q1, q2, at_ta hi, hF, hw, hm, eq_self, xs]
  have hst : metM b.2.2 (i + 1) = mput (kt := .i .u64) (vt := .b) (ta b.2.2 i).2.2.2.1 (decide ((ta b.2.2 i).2.2.2.1 > 0)) (metM b.2.2 i) := rfl
  rw [hst]
  unfold okAt
  cases ht : taskB (ta b.2.2 i) b.2.1
  ·rfl
  ·simp -implicitDefEqProofs only [eq_self, xs]
   by_cases h0 : i = 0
   ·subst h0
    rfl
   ·have q3 : (i : Int) > 0 := by omega
    have hw2 : IntKind.wrap .i64 ((i : Int) - 1) = ((i - 1 : Nat) : Int) := by rw [wi (by omega) (by omega)]; omega
    have q4 : (0 : Int) ≤ ((i - 1 : Nat) : Int) := by omega
    simp -implicitDefEqProofs only [q3, hw2, q4, at_ta (show i - 1 < b.2.2.length by omega), h0, eq_self, xs]
    have hl : Op.bytesLess (ByteArray.toList (ta b.2.2 (i - 1)).1) (ByteArray.toList (ta b.2.2 i).1) = ltN (ta b.2.2 (i - 1)).1 (ta b.2.2 i).1 := rfl
    rw [hl]
    cases ltN (ta b.2.2 (i - 1)).1 (ta b.2.2 i).1
    ·rfl
    ·simp -implicitDefEqProofs only [eq_self, xs]
     cases (List.range i).all fun k => !(decide (0 < (ta b.2.2 i).2.2.2.1) && ((ta b.2.2 k).2.2.2.1 == (ta b.2.2 i).2.2.2.1)) <;> rfl
end Go.Proofs.Ytoblcfkmggbheaa.VL
end
section
namespace Go.Proofs.Ytoblcfkmggbheaa.VL
open Go
set_option linter.unusedVariables false
set_option linter.unusedSectionVars false
set_option linter.unusedSimpArgs false
variable [Val]
def cmpN (a b : ByteArray) : Int := if ltN a b = true then -1 else if eqN a b = true then 0 else 1
theorem F61_ok (t : TK) (nm : ByteArray) : F61 (((t).1, ((t).2.1, ((t).2.2.1, ((t).2.2.2.1, ((t).2.2.2.2.1, ((t).2.2.2.2.2.1, (t).2.2.2.2.2.2)))))), nm) = some (cmpN t.1 nm) := by
 rw [F61_eq]
 show (F62 (t.1, nm)).bind _ = _
 rw [F62_eq]
 show Option.bind (cond (!(t.1.toList == t.1.toList)) _ (cond (!(nm.toList == nm.toList)) _ (cond (ltN t.1 nm) (some (-1)) (cond (!((ltN t.1 nm) || (eqN t.1 nm))) (some 1) (some 0))))) _ = _
 rw [beq_self_eq_true, beq_self_eq_true]
 unfold cmpN
 cases ltN t.1 nm <;> cases eqN t.1 nm <;> rfl
theorem cmp_lt (a b : ByteArray) : decide (cmpN a b < 0) = ltN a b := by
 unfold cmpN
 cases ltN a b <;> cases eqN a b <;> rfl
theorem cmp_eq (a b : ByteArray) : (cmpN a b == 0) = eqN a b := by
 unfold cmpN
 cases h : ltN a b
 ·cases eqN a b <;> rfl
 ·rw [eqN_of_lt h]; rfl
theorem mid {i j : Nat} (h : i + j ≤ 9223372036854775807) : IntKind.wrap .i64 (Int.fdiv (IntKind.wrap .u64 (IntKind.wrap .i64 ((i : Int) + (j : Int)))) 2) = (((i + j) / 2 : Nat) : Int) := by
 rw [wi (x := (i : Int) + j) (by omega) (by omega), wu (by omega) (by omega)]
 have e : Int.fdiv ((i : Int) + (j : Int)) 2 = (((i + j) / 2 : Nat) : Int) := by
  rw [Int.fdiv_eq_ediv_of_nonneg _ (by omega)]; omega
 rw [e, wi (by omega) (by omega)]
def srt (l : List TK) : Prop := ∀ i j, i < j → j < l.length → ltN (ta l i).1 (ta l j).1 = true
theorem srt_of {b : BK} (h : bookB b = true) : srt b.2.2 := by
 have h1 : ∀ i, i < b.2.2.length → okAt b.2.2 b.2.1 i = true := by
  unfold bookB at h
  rw [Bool.and_eq_true, List.all_eq_true] at h
  exact fun i hi => h.1 i (List.mem_range.2 hi)
 have h2 : ∀ i, i + 1 < b.2.2.length → ltN (ta b.2.2 i).1 (ta b.2.2 (i + 1)).1 = true := by
  intro i hi
  have := h1 (i + 1) hi
  unfold okAt at this
  rw [Bool.and_eq_true, Bool.and_eq_true, Bool.or_eq_true, decide_eq_true_iff] at this
  rcases this.2.1 with q | q
  ·omega
  ·simpa using q
 intro i j hij
 induction j with
 | zero => omega
 | succ j ih =>
  intro hj
  rcases Nat.lt_or_eq_of_le (Nat.le_of_lt_succ hij) with q | q
  ·exact ltN_trans (ih q (by omega)) (h2 j hj)
  ·rw [q]; exact h2 j hj
theorem len_of {b : BK} (h : bookB b = true) : b.2.2.length ≤ 100 := by
 unfold bookB at h
 rw [Bool.and_eq_true, decide_eq_true_iff] at h
 exact h.2
theorem okAt_of {b : BK} (h : bookB b = true) {i : Nat} (hi : i < b.2.2.length) : okAt b.2.2 b.2.1 i = true := by
 unfold bookB at h
 rw [Bool.and_eq_true, List.all_eq_true] at h
 exact h.1 i (List.mem_range.2 hi)
theorem task_of {b : BK} (h : bookB b = true) {i : Nat} (hi : i < b.2.2.length) : taskB (ta b.2.2 i) b.2.1 = true := by
 have := okAt_of h hi
 unfold okAt at this
 rw [Bool.and_eq_true] at this
 exact this.1
def plc (l : List TK) (nm : ByteArray) : Nat := cntP (fun k => ltN (ta l k).1 nm) l.length
def fnd (l : List TK) (nm : ByteArray) : Bool := decide (plc l nm < l.length) && eqN (ta l (plc l nm)).1 nm
theorem plc_le (l : List TK) (nm : ByteArray) : plc l nm ≤ l.length := cntP_le _ _
theorem plc_mono {l : List TK} (hs : srt l) (nm : ByteArray) : ∀ i j, i ≤ j → j < l.length → ltN (ta l j).1 nm = true → ltN (ta l i).1 nm = true := by
 intro i j hij hj h
 rcases Nat.lt_or_eq_of_le hij with q | q
 ·exact ltN_trans (hs i j q hj) h
 ·rw [q]; exact h
theorem cnt_split {p : Nat → Bool} : ∀ n, (∀ i j, i ≤ j → j < n → p j = true → p i = true) → (∀ k, k < cntP p n → p k = true) ∧ (∀ k, cntP p n ≤ k → k < n → p k = false)
 | 0, _ => ⟨fun k hk => by simp only [cntP] at hk; omega, fun k _ hk => by omega⟩
 | n + 1, hm => by
  have ih := cnt_split n (fun i j h1 h2 h3 => hm i j h1 (by omega) h3)
  simp only [cntP]
  by_cases h : p n = true
  ·have hall : ∀ k, k < n → p k = true := fun k hk => hm k n (by omega) (by omega) h
   have hn : cntP p n = n := cntP_at (Nat.le_refl _) hall (fun k h1 h2 => by omega)
   rw [if_pos h, hn]
   refine ⟨fun k hk => ?_, fun k h1 h2 => by omega⟩
   rcases Nat.lt_or_eq_of_le (Nat.le_of_lt_succ hk) with q | q
   ·exact hall k q
   ·rw [q]; exact h
  ·rw [if_neg h]
   refine ⟨fun k hk => ih.1 k (by omega), fun k h1 h2 => ?_⟩
   rcases Nat.lt_or_eq_of_le (Nat.le_of_lt_succ h2) with q | q
   ·exact ih.2 k (by omega) q
   ·rw [q]; exact Bool.eq_false_iff.2 h
theorem plc_lt {l : List TK} (hs : srt l) {nm : ByteArray} {k : Nat} (hk : k < plc l nm) : ltN (ta l k).1 nm = true := (cnt_split l.length (plc_mono hs nm)).1 k hk
theorem plc_ge {l : List TK} (hs : srt l) {nm : ByteArray} {k : Nat} (hk : plc l nm ≤ k) (h : k < l.length) : ltN (ta l k).1 nm = false := (cnt_split l.length (plc_mono hs nm)).2 k hk h
theorem not_eq_of {l : List TK} (hs : srt l) {nm : ByteArray} {k : Nat} (h : k < l.length) (hk : k ≠ plc l nm) : eqN (ta l k).1 nm = false := by
 rcases Nat.lt_or_gt_of_ne hk with q | q
 ·exact eqN_of_lt (plc_lt hs q)
 ·rw [Bool.eq_false_iff]
  intro e
  have e1 := eqN_eq e
  have h1 := hs _ _ q h
  rw [e1] at h1
  rw [plc_ge hs (Nat.le_refl _) (by omega)] at h1
  cases h1
theorem not_eq_all {l : List TK} (hs : srt l) {nm : ByteArray} (hf : fnd l nm = false) {k : Nat} (h : k < l.length) : eqN (ta l k).1 nm = false := by
 by_cases hk : k = plc l nm
 ·unfold fnd at hf
  rw [← hk, decide_eq_true h, Bool.true_and] at hf
  exact hf
 ·exact not_eq_of hs h hk
theorem srch {l : List TK} (hs : srt l) (nm : ByteArray) {f : Int × Int → Option ((Int × Int) ⊕ Int)} (hend : ∀ i : Nat, i ≤ l.length → f ((i : Int), (i : Int)) = some (.inr (i : Int)))
  (hstep : ∀ i j m : Nat, i < j → j ≤ l.length → m = (i + j) / 2 → m < l.length → (i : Int) < j → f ((i : Int), (j : Int)) = cond (ltN (ta l m).1 nm) (some (.inl (((m + 1 : Nat) : Int), (j : Int)))) (some (.inl ((i : Int), (m : Int))))) :
  loopX f ((0 : Int), (l.length : Int)) = some ((plc l nm : Nat) : Int) := by
 unfold plc
 refine loop_bs (fun k => ltN (ta l k).1 nm) (plc_mono hs nm) hend (fun i j h1 h2 => ?_)
 rw [hstep i j _ h1 h2 rfl (by omega) (by omega)]
 cases ltN (ta l ((i + j) / 2)).1 nm <;> rfl
theorem F36_ok {b : BK} {nm : ByteArray} (hs : srt b.2.2) (h63 : b.2.2.length ≤ 1000) : F36 (b, nm) = some (((plc b.2.2 nm : Nat) : Int), fnd b.2.2 nm) := by
 rw [F36_eq]
 rw [srch hs nm]
 ·have hp := plc_le b.2.2 nm
  by_cases hq : plc b.2.2 nm < b.2.2.length
  ·have q1 : ((plc b.2.2 nm : Nat) : Int) < ((b.2.2.length : Nat) : Int) := by omega
   have q2 : (0 : Int) ≤ ((plc b.2.2 nm : Nat) : Int) := by omega
   simp -implicitDefEqProofs only [q1, q2, at_ta hq, F61_ok (ta b.2.2 (plc b.2.2 nm)) nm, cmp_eq, eq_self, xs]
   unfold fnd
   rw [decide_eq_true hq, Bool.true_and]
  ·have q1 : ¬ ((plc b.2.2 nm : Nat) : Int) < ((b.2.2.length : Nat) : Int) := by omega
   simp -implicitDefEqProofs only [q1, eq_self, xs]
   unfold fnd
   rw [decide_eq_false hq, Bool.false_and]
 ·intro i hi
  have q : ¬ (i : Int) < (i : Int) := by omega
  simp -implicitDefEqProofs only [q, eq_self, xs]
 ·intro i j m hij hj hm hml q1
  have hmid := mid (i := i) (j := j) (by omega)
  rw [← hm] at hmid
  have q3 : (0 : Int) ≤ (m : Int) := by omega
  have hw : IntKind.wrap .i64 ((m : Int) + 1) = ((m + 1 : Nat) : Int) := by rw [wi (by omega) (by omega)]; omega
  simp -implicitDefEqProofs only [q1, hmid, q3, at_ta hml, F61_ok (ta b.2.2 m) nm, cmp_lt, hw, eq_self, xs]
theorem loop_find {ρ : Type} {f : Int → Option (Int ⊕ ρ)} (n : Nat) (r : ρ) (hend : f (n : Int) = some (.inr r)) (hstep : ∀ i : Nat, i < n → f (i : Int) = some (.inl ((i + 1 : Nat) : Int))) : loopX f (0 : Int) = some r :=
 loop_nat n (fun _ => r) hend (fun i hi => .inr ⟨hstep i hi, rfl⟩) 0 (Nat.zero_le _)
theorem nz0 : ((0 : Int) != 0) = false := rfl
theorem nz1 : ((1 : Int) != 0) = true := rfl
theorem F11_ok {b : BK} {nm : ByteArray} (hz : szB b) : F11 (b, nm) = some (if bookB b = true then (if fnd b.2.2 nm = true then (ta b.2.2 (plc b.2.2 nm), 0) else ((⟨#[]⟩, (0, (0, (0, (0, (0, 0)))))), 6)) else ((⟨#[]⟩, (0, (0, (0, (0, (0, 0)))))), 1)) := by
 rw [F11_eq]
 have h1 : F26 (((b).1, ((b).2.1, (b).2.2))) = _ := F26_ok hz
 simp only [h1, Option.bind_some]
 by_cases hb : bookB b = true
 ·have hs := srt_of hb
  have hl := len_of hb
  have h2 : F36 (((b).1, ((b).2.1, (b).2.2)), nm) = _ := F36_ok (b := b) hs (by omega)
  rw [if_pos hb, if_pos hb]
  simp only [h2, Option.bind_some, nz0, cond_false]
  cases hf : fnd b.2.2 nm
  ·rfl
  ·have hf' := hf
   unfold fnd at hf'
   rw [Bool.and_eq_true, decide_eq_true_iff] at hf'
   have q2 : (0 : Int) ≤ ((plc b.2.2 nm : Nat) : Int) := by omega
   simp -implicitDefEqProofs only [q2, at_ta hf'.1, eq_self, xs]
 ·rw [if_neg hb, if_neg hb]; rfl
end Go.Proofs.Ytoblcfkmggbheaa.VL
end
section
namespace Go.Proofs.Ytoblcfkmggbheaa.VL
open Go
set_option linter.unusedVariables false
set_option linter.unusedSectionVars false
set_option linter.unusedSimpArgs false
variable [Val]
theorem flat_filter {β : Type} (p : Nat → Bool) (g : Nat → β) : ∀ l : List Nat, l.flatMap (fun i => if p i = true then [g i] else []) = (l.filter p).map g
 | [] => rfl
 | x :: r => by
  rw [List.flatMap_cons, flat_filter p g r]
  by_cases h : p x = true
  ·rw [if_pos h, List.filter_cons_of_pos h, List.map_cons]; rfl
  ·rw [if_neg h, List.filter_cons_of_neg h]; rfl
def opnL (l : List TK) : List ByteArray := ((List.range l.length).filter fun i => decide ((ta l i).2.1 < 2)).map fun i => (ta l i).1
theorem F34_refl (l : List TK) (h63 : l.length ≤ 9223372036854775806) : F34 (l, l) = some true := by
 rw [F34_eq]
 have e : (((l.length : Nat) : Int) != ((l.length : Nat) : Int)) = false := bne_self_eq_false _
 simp only [e, cond_false]
 refine loop_find l.length true ?_ ?_
 ·have q1 : ¬ ((l.length : Nat) : Int) < ((l.length : Nat) : Int) := by omega
  simp -implicitDefEqProofs only [q1, eq_self, xs]
 ·intro i hi
  have q1 : (i : Int) < ((l.length : Nat) : Int) := by omega
  have q2 : (0 : Int) ≤ (i : Int) := by omega
  have hw : IntKind.wrap .i64 ((i : Int) + 1) = ((i + 1 : Nat) : Int) := by rw [wi (by omega) (by omega)]; omega
  simp -implicitDefEqProofs only [q1, q2, at_ta hi, hw, beq_self_eq_true, eq_self, xs]
theorem F15_refl (b : BK) (h63 : b.2.2.length ≤ 9223372036854775806) : F15 (b, b) = some true := by
 rw [F15_eq]
 simp only [beq_self_eq_true, cond_true, F34_refl b.2.2 h63, Option.bind_some]
theorem loop_seq {σ ρ : Type} {f : σ → Option (σ ⊕ ρ)} (S : Nat → σ) (r : ρ) : ∀ (n : Nat), f (S n) = some (.inr r) → (∀ i : Nat, i < n → f (S i) = some (.inl (S (i + 1)))) → loopX f (S 0) = some r := by
 have key : ∀ (d n i : Nat), n - i = d → i ≤ n → f (S n) = some (.inr r) → (∀ i : Nat, i < n → f (S i) = some (.inl (S (i + 1)))) → loopX f (S i) = some r := by
  intro d
  induction d with
  | zero =>
   intro n i hd hi h1 h2
   have : i = n := by omega
   subst this
   rw [loopX_eq, h1]
  | succ d ih =>
   intro n i hd hi h1 h2
   rw [loopX_eq, h2 i (by omega)]
   exact ih n (i + 1) (by omega) (by omega) h1 h2
 exact fun n => key n n 0 rfl (Nat.zero_le _)
def off (l : List TK) (nm : ByteArray) : Nat := if fnd l nm = true then 1 else 0
def setL (l : List TK) (t : TK) : List TK := (l.take (plc l t.1) ++ [t]) ++ l.drop (plc l t.1 + off l t.1)
theorem fnd_lt {l : List TK} {nm : ByteArray} (h : fnd l nm = true) : plc l nm < l.length := by
 unfold fnd at h
 rw [Bool.and_eq_true, decide_eq_true_iff] at h
 exact h.1
theorem fnd_eq {l : List TK} {nm : ByteArray} (h : fnd l nm = true) : (ta l (plc l nm)).1 = nm := by
 unfold fnd at h
 rw [Bool.and_eq_true, decide_eq_true_iff] at h
 exact eqN_eq h.2
end Go.Proofs.Ytoblcfkmggbheaa.VL
end
section
namespace Go.Proofs.Ytoblcfkmggbheaa.VL
open Go
set_option linter.unusedVariables false
set_option linter.unusedSectionVars false
set_option linter.unusedSimpArgs false
variable [Val]
theorem F29_t {c : Int × Int} (h : capsB c = true) : F29 (c.1, c.2) = some 0 := (F29_ok c).trans (by unfold capsB at h; rw [if_pos h])
theorem F29_f {c : Int × Int} (h : capsB c = false) : F29 (c.1, c.2) = some 1 := (F29_ok c).trans (by unfold capsB at h; rw [h]; rfl)
theorem F26_t {b : BK} (hz : szB b) (h : bookB b = true) : F26 (((b).1, ((b).2.1, (b).2.2))) = some 0 := (F26_ok hz).trans (by rw [if_pos h])
theorem F26_f {b : BK} (hz : szB b) (h : bookB b = false) : F26 (((b).1, ((b).2.1, (b).2.2))) = some 1 := (F26_ok hz).trans (by rw [h]; rfl)
theorem copyL {l : List TK} (hl : l.length ≤ 100) : bothX (List.isEmpty l) (some []) (cond ((decide ((((l.length : Nat) : Int) * (64 : Int)) ≤ (70368744177664 : Int))) && (decide (((l.length : Nat) : Int) ≤ (70368744177664 : Int)))) (cond (decide (l.length = l.length)) (some l) none) none) = some l := by
 have e1 : decide ((((l.length : Nat) : Int) * (64 : Int)) ≤ (70368744177664 : Int)) = true := decide_eq_true (by omega)
 have e2 : decide (((l.length : Nat) : Int) ≤ (70368744177664 : Int)) = true := decide_eq_true (by omega)
 have e3 : decide (l.length = l.length) = true := decide_eq_true rfl
 rw [e1, e2, e3]
 rw [bothX_eq (fun h => ?_)]
 ·rfl
 ·rw [List.isEmpty_iff.1 h]; rfl
theorem sget {l : List TK} {p : Nat} (h : p < l.length) (x : TK) : (l.set p x)[p]? = some x := by rw [List.getElem?_set_self h]
theorem set_setL {l : List TK} {nm : ByteArray} {t : TK} (h : fnd l nm = true) (ht : t.1 = nm) : l.set (plc l nm) t = setL l t := by
 unfold setL off
 rw [ht, if_pos h, List.set_eq_take_append_cons_drop, if_pos (fnd_lt h), List.append_assoc]; rfl
def gS (c : Int × Int) (b : BK) (k : Int) (r : BK × Int) : BK × Int := if (capsB c && bookB b) = true then (if decide (k < b.1) = true then (b, 8) else r) else (b, 1)
def dropR (b : BK) (k : Int) (nm : ByteArray) : BK × Int := if fnd b.2.2 nm = true then (if decide ((ta b.2.2 (plc b.2.2 nm)).2.1 < 2) = true then ((k, (b.2.1, setL b.2.2 ((ta b.2.2 (plc b.2.2 nm)).1, (4, ((ta b.2.2 (plc b.2.2 nm)).2.2.1, ((ta b.2.2 (plc b.2.2 nm)).2.2.2.1, ((ta b.2.2 (plc b.2.2 nm)).2.2.2.2.1, (-1, 0)))))))), 0) else (b, 7)) else (b, 6)
theorem open_of {b : BK} (hb : bookB b = true) {i : Nat} (hi : i < b.2.2.length) : ((ta b.2.2 i).2.1 == 0 || (ta b.2.2 i).2.1 == 1) = decide ((ta b.2.2 i).2.1 < 2) := by
 have h := task_of hb hi
 unfold taskB at h
 rw [Bool.and_eq_true, Bool.and_eq_true, Bool.and_eq_true, decide_eq_true_iff] at h
 have := h.2.1.1
 rw [Bool.eq_iff_iff, Bool.or_eq_true, beq_iff_eq, beq_iff_eq, decide_eq_true_iff]; omega
theorem F43_ok (t : TK) : F43 (((t).1, ((t).2.1, ((t).2.2.1, ((t).2.2.2.1, ((t).2.2.2.2.1, ((t).2.2.2.2.2.1, (t).2.2.2.2.2.2))))))) = some (t.2.1 == 0 || t.2.1 == 1) := by
 rw [F43_eq]
 show cond (t.2.1 == 0) _ _ = _
 cases (t.2.1 == 0) <;> rfl
theorem F16_ok {c : Int × Int} {b : BK} {k : Int} {nm : ByteArray} (hz : szB b) : F16 (c, (b, (k, nm))) = some (gS c b k (dropR b k nm)) := by
 have hp := plc_le b.2.2 nm
 unfold gS
 cases hc : capsB c
 ·have h1 := F29_f hc
  rw [F16_eq]
  simp -implicitDefEqProofs only [h1, nz1, nz0, eq_self, xs]
 have h1 := F29_t hc
 cases hb : bookB b
 ·have h2 := F26_f hz hb
  rw [F16_eq]
  simp -implicitDefEqProofs only [h1, h2, nz0, nz1, eq_self, xs]
 have h2 := F26_t hz hb
 by_cases hk : k < b.1
 ·rw [F16_eq]
  have nz8 : ((8 : Int) != 0) = true := rfl
  simp -implicitDefEqProofs only [h1, h2, nz0, hk, nz8, eq_self, xs]
 have hs := srt_of hb
 have hl := len_of hb
 rw [F16_eq, copyL hl]
 simp -implicitDefEqProofs only [h1, h2, nz0, hk, decide_false, cond_false, cond_true, Option.bind_some, joinX_l]
 rw [srch hs nm]
 rotate_left
 ·intro i hi
  have q : ¬ (i : Int) < (i : Int) := by omega
  simp -implicitDefEqProofs only [q, eq_self, xs]
 ·intro i j m hij hj hm hml q1
  have hmid := mid (i := i) (j := j) (by omega)
  rw [← hm] at hmid
  have q3 : (0 : Int) ≤ (m : Int) := by omega
  have q4 : (m : Int) < ((b.2.2.length : Nat) : Int) := by omega
  have hw : IntKind.wrap .i64 ((m : Int) + 1) = ((m + 1 : Nat) : Int) := by rw [wi (by omega) (by omega)]; omega
  simp -implicitDefEqProofs only [q1, hmid, q3, q4, at_ta hml, F61_ok (ta b.2.2 m) nm, cmp_lt, hw, eq_self, xs]
 by_cases hq : plc b.2.2 nm < b.2.2.length
 rotate_left
 ·have hf : fnd b.2.2 nm = false := by unfold fnd; rw [decide_eq_false hq]; rfl
  have q1 : ¬ ((plc b.2.2 nm : Nat) : Int) < ((b.2.2.length : Nat) : Int) := by omega
  have nz6 : ((6 : Int) != 0) = true := rfl
  simp -implicitDefEqProofs only [q1, hf, nz6, dropR, hc, hb, hk, eq_self, xs]
 have q1 : ((plc b.2.2 nm : Nat) : Int) < ((b.2.2.length : Nat) : Int) := by omega
 have q2 : (0 : Int) ≤ ((plc b.2.2 nm : Nat) : Int) := by omega
 cases hf : eqN (ta b.2.2 (plc b.2.2 nm)).1 nm
 ·have hf' : fnd b.2.2 nm = false := by unfold fnd; rw [hf, Bool.and_false]
  have nz6 : ((6 : Int) != 0) = true := rfl
  simp -implicitDefEqProofs only [q1, q2, at_ta hq, F61_ok (ta b.2.2 (plc b.2.2 nm)) nm, cmp_eq, hf, hf', nz6, dropR, hc, hb, hk, eq_self, xs]
 have hf' : fnd b.2.2 nm = true := by unfold fnd; rw [hf, decide_eq_true hq]; rfl
 have hsg := sget hq
 have nz7 : ((7 : Int) != 0) = true := rfl
 simp -implicitDefEqProofs only [q1, q2, at_ta hq, F61_ok (ta b.2.2 (plc b.2.2 nm)) nm, cmp_eq, hf, F43_ok (ta b.2.2 (plc b.2.2 nm)), open_of hb hq, dropR, hf', hc, hb, hk, eq_self, xs]
 cases hd : decide ((ta b.2.2 (plc b.2.2 nm)).2.1 < 2)
 ·simp -implicitDefEqProofs only [nz7, eq_self, xs]
 ·have hsl := set_setL (t := ((ta b.2.2 (plc b.2.2 nm)).1, (4, ((ta b.2.2 (plc b.2.2 nm)).2.2.1, ((ta b.2.2 (plc b.2.2 nm)).2.2.2.1, ((ta b.2.2 (plc b.2.2 nm)).2.2.2.2.1, (-1, 0))))))) hf' (fnd_eq hf')
  simp -implicitDefEqProofs only [hsg, List.set_set, nz0, List.length_set, eq_self, xs]
  rw [List.take_of_length_le (by rw [List.length_set]; exact Nat.le_refl _), hsl]
def doneT (c : Int × Int) (s : Int) (t : TK) : TK := (t.1, ((if (s == 2) = true then 2 else if decide (t.2.2.2.2.1 ≥ c.2) = true then 3 else 0), (t.2.2.1, (t.2.2.2.1, (t.2.2.2.2.1, (-1, 0))))))
def doneR (c : Int × Int) (b : BK) (k : Int) (nm : ByteArray) (g s : Int) : BK × Int := if fnd b.2.2 nm = true then (if (bne (ta b.2.2 (plc b.2.2 nm)).2.2.2.1 g) = true then (b, 8) else if (bne (ta b.2.2 (plc b.2.2 nm)).2.1 1) = true then (b, 7) else ((k, (b.2.1, setL b.2.2 (doneT c s (ta b.2.2 (plc b.2.2 nm))))), 0)) else (b, 6)
theorem F22_ok {c : Int × Int} {b : BK} {k : Int} {nm : ByteArray} {g : Int} (hz : szB b) : F22 (c, (b, (k, (nm, g)))) = some (gS c b k (doneR c b k nm g 0)) := by
 have hp := plc_le b.2.2 nm
 unfold gS
 cases hc : capsB c
 ·have h1 := F29_f hc
  rw [F22_eq]
  simp -implicitDefEqProofs only [h1, nz1, nz0, eq_self, xs]
 have h1 := F29_t hc
 cases hb : bookB b
 ·have h2 := F26_f hz hb
  rw [F22_eq]
  simp -implicitDefEqProofs only [h1, h2, nz0, nz1, eq_self, xs]
 have h2 := F26_t hz hb
 by_cases hk : k < b.1
 ·rw [F22_eq]
  have nz8 : ((8 : Int) != 0) = true := rfl
  simp -implicitDefEqProofs only [h1, h2, nz0, hk, nz8, eq_self, xs]
 have hs := srt_of hb
 have hl := len_of hb
 rw [F22_eq, copyL hl]
 simp -implicitDefEqProofs only [h1, h2, nz0, hk, decide_false, cond_false, cond_true, Option.bind_some, joinX_l]
 rw [srch hs nm]
 rotate_left
 ·intro i hi
  have q : ¬ (i : Int) < (i : Int) := by omega
  simp -implicitDefEqProofs only [q, eq_self, xs]
 ·intro i j m hij hj hm hml q1
  have hmid := mid (i := i) (j := j) (by omega)
  rw [← hm] at hmid
  have q3 : (0 : Int) ≤ (m : Int) := by omega
  have q4 : (m : Int) < ((b.2.2.length : Nat) : Int) := by omega
  have hw : IntKind.wrap .i64 ((m : Int) + 1) = ((m + 1 : Nat) : Int) := by rw [wi (by omega) (by omega)]; omega
  simp -implicitDefEqProofs only [q1, hmid, q3, q4, at_ta hml, F61_ok (ta b.2.2 m) nm, cmp_lt, hw, eq_self, xs]
 by_cases hq : plc b.2.2 nm < b.2.2.length
 rotate_left
 ·have hf : fnd b.2.2 nm = false := by unfold fnd; rw [decide_eq_false hq]; rfl
  have q1 : ¬ ((plc b.2.2 nm : Nat) : Int) < ((b.2.2.length : Nat) : Int) := by omega
  have nz6 : ((6 : Int) != 0) = true := rfl
  simp -implicitDefEqProofs only [q1, hf, nz6, doneR, hc, hb, hk, eq_self, xs]
 have q1 : ((plc b.2.2 nm : Nat) : Int) < ((b.2.2.length : Nat) : Int) := by omega
 have q2 : (0 : Int) ≤ ((plc b.2.2 nm : Nat) : Int) := by omega
 cases hf : eqN (ta b.2.2 (plc b.2.2 nm)).1 nm
 ·have hf' : fnd b.2.2 nm = false := by unfold fnd; rw [hf, Bool.and_false]
  have nz6 : ((6 : Int) != 0) = true := rfl
  simp -implicitDefEqProofs only [q1, q2, at_ta hq, F61_ok (ta b.2.2 (plc b.2.2 nm)) nm, cmp_eq, hf, hf', nz6, doneR, hc, hb, hk, eq_self, xs]
 have hf' : fnd b.2.2 nm = true := by unfold fnd; rw [hf, decide_eq_true hq]; rfl
 have hsg := sget hq
 have nz7 : ((7 : Int) != 0) = true := rfl
 have nz8 : ((8 : Int) != 0) = true := rfl
 simp -implicitDefEqProofs only [q1, q2, at_ta hq, F61_ok (ta b.2.2 (plc b.2.2 nm)) nm, cmp_eq, hf, doneR, hf', hc, hb, hk, eq_self, xs]
 cases hg : (bne (ta b.2.2 (plc b.2.2 nm)).2.2.2.1 g)
 rotate_left
 ·simp -implicitDefEqProofs only [nz8, eq_self, xs]
 simp -implicitDefEqProofs only [eq_self, xs]
 cases ht : (bne (ta b.2.2 (plc b.2.2 nm)).2.1 1)
 rotate_left
 ·simp -implicitDefEqProofs only [nz7, eq_self, xs]
 have hsl := fun t => set_setL (t := t) hf'
 have hlen : ∀ t : TK, (b.2.2.set (plc b.2.2 nm) t).length = b.2.2.length := fun t => List.length_set
 have htk : ∀ t : TK, List.take b.2.2.length (b.2.2.set (plc b.2.2 nm) t) = b.2.2.set (plc b.2.2 nm) t := fun t => List.take_of_length_le (by rw [List.length_set]; exact Nat.le_refl _)
 cases hv : decide ((ta b.2.2 (plc b.2.2 nm)).2.2.2.2.1 ≥ c.2)
 ·simp -implicitDefEqProofs only [hsg, List.set_set, nz0, hlen, htk, hv, eq_self, xs]
  have hd : doneT c 0 (ta b.2.2 (plc b.2.2 nm)) = ((ta b.2.2 (plc b.2.2 nm)).1, (0, ((ta b.2.2 (plc b.2.2 nm)).2.2.1, ((ta b.2.2 (plc b.2.2 nm)).2.2.2.1, ((ta b.2.2 (plc b.2.2 nm)).2.2.2.2.1, (-1, 0)))))) := by unfold doneT; rw [hv]; rfl
  rw [← hsl (doneT c 0 (ta b.2.2 (plc b.2.2 nm))) (fnd_eq hf'), hd]
 ·simp -implicitDefEqProofs only [hsg, List.set_set, nz0, hlen, htk, hv, eq_self, xs]
  have hd : doneT c 0 (ta b.2.2 (plc b.2.2 nm)) = ((ta b.2.2 (plc b.2.2 nm)).1, (3, ((ta b.2.2 (plc b.2.2 nm)).2.2.1, ((ta b.2.2 (plc b.2.2 nm)).2.2.2.1, ((ta b.2.2 (plc b.2.2 nm)).2.2.2.2.1, (-1, 0)))))) := by unfold doneT; rw [hv]; rfl
  rw [← hsl (doneT c 0 (ta b.2.2 (plc b.2.2 nm))) (fnd_eq hf'), hd]
theorem F13_ok {c : Int × Int} {b : BK} {k : Int} {nm : ByteArray} {g : Int} {d : Bool} (hz : szB b) : F13 (c, (b, (k, (nm, (g, d))))) = some (gS c b k (doneR c b k nm g (if d = true then 2 else 1))) := by
 have hp := plc_le b.2.2 nm
 unfold gS
 cases hc : capsB c
 ·have h1 := F29_f hc
  rw [F13_eq]
  simp -implicitDefEqProofs only [h1, nz1, nz0, eq_self, xs]
 have h1 := F29_t hc
 cases hb : bookB b
 ·have h2 := F26_f hz hb
  rw [F13_eq]
  simp -implicitDefEqProofs only [h1, h2, nz0, nz1, eq_self, xs]
 have h2 := F26_t hz hb
 by_cases hk : k < b.1
 ·rw [F13_eq]
  have nz8 : ((8 : Int) != 0) = true := rfl
  simp -implicitDefEqProofs only [h1, h2, nz0, hk, nz8, eq_self, xs]
 have hs := srt_of hb
 have hl := len_of hb
 rw [F13_eq, copyL hl]
 simp -implicitDefEqProofs only [h1, h2, nz0, hk, decide_false, cond_false, cond_true, Option.bind_some, joinX_l]
 rw [srch hs nm]
 rotate_left
 ·intro i hi
  have q : ¬ (i : Int) < (i : Int) := by omega
  simp -implicitDefEqProofs only [q, eq_self, xs]
 ·intro i j m hij hj hm hml q1
  have hmid := mid (i := i) (j := j) (by omega)
  rw [← hm] at hmid
  have q3 : (0 : Int) ≤ (m : Int) := by omega
  have q4 : (m : Int) < ((b.2.2.length : Nat) : Int) := by omega
  have hw : IntKind.wrap .i64 ((m : Int) + 1) = ((m + 1 : Nat) : Int) := by rw [wi (by omega) (by omega)]; omega
  simp -implicitDefEqProofs only [q1, hmid, q3, q4, at_ta hml, F61_ok (ta b.2.2 m) nm, cmp_lt, hw, eq_self, xs]
 by_cases hq : plc b.2.2 nm < b.2.2.length
 rotate_left
 ·have hf : fnd b.2.2 nm = false := by unfold fnd; rw [decide_eq_false hq]; rfl
  have q1 : ¬ ((plc b.2.2 nm : Nat) : Int) < ((b.2.2.length : Nat) : Int) := by omega
  have nz6 : ((6 : Int) != 0) = true := rfl
  simp -implicitDefEqProofs only [q1, hf, nz6, doneR, hc, hb, hk, eq_self, xs]
 have q1 : ((plc b.2.2 nm : Nat) : Int) < ((b.2.2.length : Nat) : Int) := by omega
 have q2 : (0 : Int) ≤ ((plc b.2.2 nm : Nat) : Int) := by omega
 cases hf : eqN (ta b.2.2 (plc b.2.2 nm)).1 nm
 ·have hf' : fnd b.2.2 nm = false := by unfold fnd; rw [hf, Bool.and_false]
  have nz6 : ((6 : Int) != 0) = true := rfl
  simp -implicitDefEqProofs only [q1, q2, at_ta hq, F61_ok (ta b.2.2 (plc b.2.2 nm)) nm, cmp_eq, hf, hf', nz6, doneR, hc, hb, hk, eq_self, xs]
 have hf' : fnd b.2.2 nm = true := by unfold fnd; rw [hf, decide_eq_true hq]; rfl
 have hsg := sget hq
 have nz7 : ((7 : Int) != 0) = true := rfl
 have nz8 : ((8 : Int) != 0) = true := rfl
 simp -implicitDefEqProofs only [q1, q2, at_ta hq, F61_ok (ta b.2.2 (plc b.2.2 nm)) nm, cmp_eq, hf, doneR, hf', hc, hb, hk, eq_self, xs]
 cases hg : (bne (ta b.2.2 (plc b.2.2 nm)).2.2.2.1 g)
 rotate_left
 ·simp -implicitDefEqProofs only [nz8, eq_self, xs]
 simp -implicitDefEqProofs only [eq_self, xs]
 cases ht : (bne (ta b.2.2 (plc b.2.2 nm)).2.1 1)
 rotate_left
 ·simp -implicitDefEqProofs only [nz7, eq_self, xs]
 have hsl := fun t => set_setL (t := t) hf'
 have hlen : ∀ t : TK, (b.2.2.set (plc b.2.2 nm) t).length = b.2.2.length := fun t => List.length_set
 have htk : ∀ t : TK, List.take b.2.2.length (b.2.2.set (plc b.2.2 nm) t) = b.2.2.set (plc b.2.2 nm) t := fun t => List.take_of_length_le (by rw [List.length_set]; exact Nat.le_refl _)
 cases hv : decide ((ta b.2.2 (plc b.2.2 nm)).2.2.2.2.1 ≥ c.2) <;> cases d
 ·simp -implicitDefEqProofs only [hsg, List.set_set, nz0, hlen, htk, hv, eq_self, xs]
  have hd : doneT c 1 (ta b.2.2 (plc b.2.2 nm)) = ((ta b.2.2 (plc b.2.2 nm)).1, (0, ((ta b.2.2 (plc b.2.2 nm)).2.2.1, ((ta b.2.2 (plc b.2.2 nm)).2.2.2.1, ((ta b.2.2 (plc b.2.2 nm)).2.2.2.2.1, (-1, 0)))))) := by unfold doneT; rw [hv]; rfl
  rw [← hsl (doneT c 1 (ta b.2.2 (plc b.2.2 nm))) (fnd_eq hf'), hd]
 ·simp -implicitDefEqProofs only [hsg, List.set_set, nz0, hlen, htk, hv, eq_self, xs]
  have hd : doneT c 2 (ta b.2.2 (plc b.2.2 nm)) = ((ta b.2.2 (plc b.2.2 nm)).1, (2, ((ta b.2.2 (plc b.2.2 nm)).2.2.1, ((ta b.2.2 (plc b.2.2 nm)).2.2.2.1, ((ta b.2.2 (plc b.2.2 nm)).2.2.2.2.1, (-1, 0)))))) := by unfold doneT; rw [hv]; rfl
  rw [← hsl (doneT c 2 (ta b.2.2 (plc b.2.2 nm))) (fnd_eq hf'), hd]
 ·simp -implicitDefEqProofs only [hsg, List.set_set, nz0, hlen, htk, hv, eq_self, xs]
  have hd : doneT c 1 (ta b.2.2 (plc b.2.2 nm)) = ((ta b.2.2 (plc b.2.2 nm)).1, (3, ((ta b.2.2 (plc b.2.2 nm)).2.2.1, ((ta b.2.2 (plc b.2.2 nm)).2.2.2.1, ((ta b.2.2 (plc b.2.2 nm)).2.2.2.2.1, (-1, 0)))))) := by unfold doneT; rw [hv]; rfl
  rw [← hsl (doneT c 1 (ta b.2.2 (plc b.2.2 nm))) (fnd_eq hf'), hd]
 ·simp -implicitDefEqProofs only [hsg, List.set_set, nz0, hlen, htk, hv, eq_self, xs]
  have hd : doneT c 2 (ta b.2.2 (plc b.2.2 nm)) = ((ta b.2.2 (plc b.2.2 nm)).1, (2, ((ta b.2.2 (plc b.2.2 nm)).2.2.1, ((ta b.2.2 (plc b.2.2 nm)).2.2.2.1, ((ta b.2.2 (plc b.2.2 nm)).2.2.2.2.1, (-1, 0)))))) := by unfold doneT; rw [hv]; rfl
  rw [← hsl (doneT c 2 (ta b.2.2 (plc b.2.2 nm))) (fnd_eq hf'), hd]
end Go.Proofs.Ytoblcfkmggbheaa.VL
end
section
namespace Go.Proofs.Ytoblcfkmggbheaa.VL
open Go
set_option linter.unusedVariables false
set_option linter.unusedSectionVars false
set_option linter.unusedSimpArgs false
variable [Val]
theorem ta_set {l : List TK} {p : Nat} (hp : p < l.length) (x : TK) (i : Nat) : ta (l.set p x) i = if i = p then x else ta l i := by
 unfold ta
 rw [List.getD_eq_getElem?_getD, List.getD_eq_getElem?_getD, List.getElem?_set]
 by_cases h : p = i
 ·subst h; rw [if_pos rfl, if_pos rfl, if_pos hp]; rfl
 ·rw [if_neg h, if_neg (fun q => h q.symm)]
section
variable {l : List TK} {p : Nat} {x : TK} (hp : p < l.length) (hn : x.1 = (ta l p).1)
include hp hn
theorem name_set (i : Nat) : (ta (l.set p x) i).1 = (ta l i).1 := by
 rw [ta_set hp]
 by_cases h : i = p
 ·subst h; rw [if_pos rfl, hn]
 ·rw [if_neg h]
end
theorem doneT_task {c : Int × Int} {s : Int} {t : TK} {g : Int} (h : taskB t g = true) (hs : s = 1 ∨ s = 2) : taskB (doneT c s t) g = true := by
 unfold taskB at h ⊢
 have e : ownB (doneT c s t) = true := by
  unfold ownB doneT
  rcases hs with rfl | rfl
  ·show (if ((if decide (t.2.2.2.2.1 ≥ c.2) = true then (3 : Int) else 0) == 1) = true then _ else _) = true
   cases decide (t.2.2.2.2.1 ≥ c.2) <;> rfl
  ·rfl
 have e2 : (decide (0 ≤ (doneT c s t).2.1) && decide ((doneT c s t).2.1 ≤ 4)) = true := by
  unfold doneT
  rcases hs with rfl | rfl
  ·show (decide (0 ≤ (if decide (t.2.2.2.2.1 ≥ c.2) = true then (3 : Int) else 0)) && decide ((if decide (t.2.2.2.2.1 ≥ c.2) = true then (3 : Int) else 0) ≤ 4)) = true
   cases decide (t.2.2.2.2.1 ≥ c.2) <;> rfl
  ·rfl
 rw [e, e2]
 simp only [Bool.and_eq_true] at h ⊢
 exact ⟨h.1, trivial, h.2.2.1, h.2.2.2.1, h.2.2.2.2.1, h.2.2.2.2.2.1, trivial⟩
end Go.Proofs.Ytoblcfkmggbheaa.VL
end
section
namespace Go.Proofs.Ytoblcfkmggbheaa.VL
open Go
set_option linter.unusedVariables false
set_option linter.unusedSectionVars false
set_option linter.unusedSimpArgs false
variable [Val]
theorem nz5 : ((5 : Int) != 0) = true := rfl
theorem nz9 : ((9 : Int) != 0) = true := rfl
def opnT (l : List TK) : List TK := ((List.range l.length).filter fun i => decide ((ta l i).2.1 < 2)).map (ta l)
theorem opnT_len (l : List TK) : (opnT l).length = (opnL l).length := by unfold opnT opnL; rw [List.length_map, List.length_map]
theorem gathO {l : List TK} {f : Int × List TK → Option ((Int × List TK) ⊕ List TK)} (hend : ∀ a : List TK, a.length ≤ l.length → f ((l.length : Int), a) = some (.inr a))
  (hstep : ∀ (i : Nat) (a : List TK), i < l.length → a.length ≤ i → f ((i : Int), a) = some (.inl (((i + 1 : Nat) : Int), a ++ (if decide ((ta l i).2.1 < 2) = true then [ta l i] else [])))) : loopX f ((0 : Int), []) = some (opnT l) := by
 refine (loop_gather (n := l.length) (fun i => if decide ((ta l i).2.1 < 2) = true then [ta l i] else []) (fun a => a) ?_ hend hstep).trans (by rw [flat_filter]; rfl)
 intro i; show (if _ then _ else _ : List TK).length ≤ 1; split <;> simp
def newT (nm : ByteArray) (pr : Int) : TK := (nm, (0, (pr, (0, (0, (-1, 0))))))
def addR (c : Int × Int) (b : BK) (k : Int) (nm : ByteArray) (pr : Int) : BK × Int := if (nmB nm && (decide (0 ≤ pr) && decide (pr ≤ 9))) = true then (if fnd b.2.2 nm = true then (b, 5) else if (decide ((((opnL b.2.2).length : Nat) : Int) ≥ c.1) || decide (((b.2.2.length : Nat) : Int) ≥ 100)) = true then (b, 9) else ((k, (b.2.1, setL b.2.2 (newT nm pr))), 0)) else (b, 1)
theorem ins_setL {l : List TK} {nm : ByteArray} {t : TK} (h : fnd l nm = false) (ht : t.1 = nm) : insL l [t] ((plc l nm : Nat) : Int) = setL l t := by
 unfold setL insL off
 rw [ht, h, Int.toNat_natCast]; rfl
theorem ins_len {l : List TK} {t : TK} (p : Nat) (h : p ≤ l.length) : (insL l [t] (p : Int)).length = l.length + 1 := by
 unfold insL
 rw [Int.toNat_natCast, List.length_append, List.length_append, List.length_take, List.length_drop, List.length_singleton]; omega
theorem F17_ok {c : Int × Int} {b : BK} {k : Int} {nm : ByteArray} {pr : Int} (hz : szB b) (hn : nm.size ≤ maxLen) : F17 (c, (b, (k, (nm, pr)))) = some (gS c b k (addR c b k nm pr)) := by
 have hp := plc_le b.2.2 nm
 unfold gS
 cases hc : capsB c
 ·have h1 := F29_f hc
  rw [F17_eq]
  simp -implicitDefEqProofs only [h1, nz1, nz0, eq_self, xs]
 have h1 := F29_t hc
 cases hb : bookB b
 ·have h2 := F26_f hz hb
  rw [F17_eq]
  simp -implicitDefEqProofs only [h1, h2, nz0, nz1, eq_self, xs]
 have h2 := F26_t hz hb
 by_cases hk : k < b.1
 ·rw [F17_eq]
  have nz8 : ((8 : Int) != 0) = true := rfl
  simp -implicitDefEqProofs only [h1, h2, nz0, hk, nz8, eq_self, xs]
 have hs := srt_of hb
 have hl := len_of hb
 rw [F17_eq, copyL hl]
 simp -implicitDefEqProofs only [h1, h2, nz0, hk, decide_false, cond_false, cond_true, Option.bind_some, joinX_l]
 rw [srch hs nm]
 rotate_left
 ·intro i hi
  have q : ¬ (i : Int) < (i : Int) := by omega
  simp -implicitDefEqProofs only [q, eq_self, xs]
 ·intro i j m hij hj hm hml q1
  have hmid := mid (i := i) (j := j) (by omega)
  rw [← hm] at hmid
  have q3 : (0 : Int) ≤ (m : Int) := by omega
  have q4 : (m : Int) < ((b.2.2.length : Nat) : Int) := by omega
  have hw : IntKind.wrap .i64 ((m : Int) + 1) = ((m + 1 : Nat) : Int) := by rw [wi (by omega) (by omega)]; omega
  simp -implicitDefEqProofs only [q1, hmid, q3, q4, at_ta hml, F61_ok (ta b.2.2 m) nm, cmp_lt, hw, eq_self, xs]
 by_cases hq : plc b.2.2 nm < b.2.2.length
 rotate_left
 ·have hf : fnd b.2.2 nm = false := by unfold fnd; rw [decide_eq_false hq]; rfl
  have q1 : ¬ ((plc b.2.2 nm : Nat) : Int) < ((b.2.2.length : Nat) : Int) := by omega
  simp -implicitDefEqProofs only [q1, hf, addR, hc, hb, hk, F46_ok hn, F47_ok pr 0 9, nz1, nz5, eq_self, xs]
  cases nmB nm
  ·simp -implicitDefEqProofs only [eq_self, xs]
  cases (decide (0 ≤ pr) && decide (pr ≤ 9))
  ·simp -implicitDefEqProofs only [eq_self, xs]
  simp -implicitDefEqProofs only [eq_self, xs]
  rw [gathO (l := b.2.2)]
  rotate_left
  ·intro a ha
   have q : ¬ ((b.2.2.length : Nat) : Int) < ((b.2.2.length : Nat) : Int) := by omega
   simp -implicitDefEqProofs only [q, eq_self, xs]
  ·intro i a hi ha
   have qq1 : ((i : Nat) : Int) < ((b.2.2.length : Nat) : Int) := by omega
   have qq2 : (0 : Int) ≤ (i : Int) := by omega
   have hw : IntKind.wrap .i64 ((i : Int) + 1) = ((i + 1 : Nat) : Int) := by rw [wi (by omega) (by omega)]; omega
   have k1 : (((a.length + 1 : Nat) : Int) * 64 ≤ 70368744177664) := by omega
   have k2 : (((a.length + 1 : Nat) : Int) ≤ 70368744177664) := by omega
   simp -implicitDefEqProofs only [qq1, qq2, at_ta hi, hw, k1, k2, F43_ok (ta b.2.2 i), open_of hb hi, eq_self, xs]
   cases decide ((ta b.2.2 i).2.1 < 2) <;> simp -implicitDefEqProofs only [List.append_nil, eq_self, xs]
  have e100 : (((b.2.2.length : Nat) : Int) == 100) = decide (((b.2.2.length : Nat) : Int) ≥ 100) := by rw [Bool.eq_iff_iff, beq_iff_eq, decide_eq_true_iff]; omega
  simp -implicitDefEqProofs only [opnT_len, e100, eq_self, xs]
  cases decide ((((opnL b.2.2).length : Nat) : Int) ≥ c.1)
  rotate_left
  ·simp -implicitDefEqProofs only [nz9, eq_self, xs]
  cases decide (((b.2.2.length : Nat) : Int) ≥ 100)
  rotate_left
  ·simp -implicitDefEqProofs only [nz9, eq_self, xs]
  have q9 : ((plc b.2.2 nm : Nat) : Int) ≤ ((b.2.2.length : Nat) : Int) := by omega
  have q8 : (0 : Int) ≤ ((plc b.2.2 nm : Nat) : Int) := by omega
  have k1 : (((b.2.2.length + 1 : Nat) : Int) * 64 ≤ 70368744177664) := by omega
  have k2 : (((b.2.2.length + 1 : Nat) : Int) ≤ 70368744177664) := by omega
  have hil := ins_len (l := b.2.2) (t := (nm, (0, (pr, (0, (0, (-1, 0))))))) (plc b.2.2 nm) hp
  have htk : List.take (b.2.2.length + 1) (insL b.2.2 [(nm, (0, (pr, (0, (0, (-1, 0))))))] ((plc b.2.2 nm : Nat) : Int)) = insL b.2.2 [(nm, (0, (pr, (0, (0, (-1, 0))))))] ((plc b.2.2 nm : Nat) : Int) := List.take_of_length_le (by rw [hil]; exact Nat.le_refl _)
  have hin := ins_setL (l := b.2.2) (nm := nm) (t := newT nm pr) hf rfl
  simp -implicitDefEqProofs only [q9, q8, k1, k2, nz0, hil, htk, eq_self, xs]
  rw [← hin]; rfl
 have q1 : ((plc b.2.2 nm : Nat) : Int) < ((b.2.2.length : Nat) : Int) := by omega
 have q2 : (0 : Int) ≤ ((plc b.2.2 nm : Nat) : Int) := by omega
 cases hf : eqN (ta b.2.2 (plc b.2.2 nm)).1 nm
 ·have hf' : fnd b.2.2 nm = false := by unfold fnd; rw [hf, Bool.and_false]
  simp -implicitDefEqProofs only [q1, q2, at_ta hq, F61_ok (ta b.2.2 (plc b.2.2 nm)) nm, cmp_eq, hf, hf', addR, hc, hb, hk, F46_ok hn, F47_ok pr 0 9, nz1, nz5, eq_self, xs]
  cases nmB nm
  ·simp -implicitDefEqProofs only [eq_self, xs]
  cases (decide (0 ≤ pr) && decide (pr ≤ 9))
  ·simp -implicitDefEqProofs only [eq_self, xs]
  simp -implicitDefEqProofs only [eq_self, xs]
  rw [gathO (l := b.2.2)]
  rotate_left
  ·intro a ha
   have q : ¬ ((b.2.2.length : Nat) : Int) < ((b.2.2.length : Nat) : Int) := by omega
   simp -implicitDefEqProofs only [q, eq_self, xs]
  ·intro i a hi ha
   have qq1 : ((i : Nat) : Int) < ((b.2.2.length : Nat) : Int) := by omega
   have qq2 : (0 : Int) ≤ (i : Int) := by omega
   have hw : IntKind.wrap .i64 ((i : Int) + 1) = ((i + 1 : Nat) : Int) := by rw [wi (by omega) (by omega)]; omega
   have k1 : (((a.length + 1 : Nat) : Int) * 64 ≤ 70368744177664) := by omega
   have k2 : (((a.length + 1 : Nat) : Int) ≤ 70368744177664) := by omega
   simp -implicitDefEqProofs only [qq1, qq2, at_ta hi, hw, k1, k2, F43_ok (ta b.2.2 i), open_of hb hi, eq_self, xs]
   cases decide ((ta b.2.2 i).2.1 < 2) <;> simp -implicitDefEqProofs only [List.append_nil, eq_self, xs]
  have e100 : (((b.2.2.length : Nat) : Int) == 100) = decide (((b.2.2.length : Nat) : Int) ≥ 100) := by rw [Bool.eq_iff_iff, beq_iff_eq, decide_eq_true_iff]; omega
  simp -implicitDefEqProofs only [opnT_len, e100, eq_self, xs]
  cases decide ((((opnL b.2.2).length : Nat) : Int) ≥ c.1)
  rotate_left
  ·simp -implicitDefEqProofs only [nz9, eq_self, xs]
  cases decide (((b.2.2.length : Nat) : Int) ≥ 100)
  rotate_left
  ·simp -implicitDefEqProofs only [nz9, eq_self, xs]
  have q9 : ((plc b.2.2 nm : Nat) : Int) ≤ ((b.2.2.length : Nat) : Int) := by omega
  have q8 : (0 : Int) ≤ ((plc b.2.2 nm : Nat) : Int) := by omega
  have k1 : (((b.2.2.length + 1 : Nat) : Int) * 64 ≤ 70368744177664) := by omega
  have k2 : (((b.2.2.length + 1 : Nat) : Int) ≤ 70368744177664) := by omega
  have hil := ins_len (l := b.2.2) (t := (nm, (0, (pr, (0, (0, (-1, 0))))))) (plc b.2.2 nm) hp
  have htk : List.take (b.2.2.length + 1) (insL b.2.2 [(nm, (0, (pr, (0, (0, (-1, 0))))))] ((plc b.2.2 nm : Nat) : Int)) = insL b.2.2 [(nm, (0, (pr, (0, (0, (-1, 0))))))] ((plc b.2.2 nm : Nat) : Int) := List.take_of_length_le (by rw [hil]; exact Nat.le_refl _)
  have hin := ins_setL (l := b.2.2) (nm := nm) (t := newT nm pr) hf' rfl
  simp -implicitDefEqProofs only [q9, q8, k1, k2, nz0, hil, htk, eq_self, xs]
  rw [← hin]; rfl
 have hf' : fnd b.2.2 nm = true := by unfold fnd; rw [hf, decide_eq_true hq]; rfl
 have hsg := sget hq
 simp -implicitDefEqProofs only [q1, q2, at_ta hq, F61_ok (ta b.2.2 (plc b.2.2 nm)) nm, cmp_eq, hf, addR, hf', hc, hb, hk, F46_ok hn, F47_ok pr 0 9, nz1, nz5, eq_self, xs]
 cases nmB nm <;> cases (decide (0 ≤ pr) && decide (pr ≤ 9)) <;> simp -implicitDefEqProofs only [eq_self, xs]
def takeT (c : Int × Int) (b : BK) (w u : Int) (t : TK) : TK := (t.1, (1, (t.2.2.1, (IntKind.wrap IntKind.u64 (b.2.1 + 1), (IntKind.wrap IntKind.i64 (t.2.2.2.2.1 + 1), (w, u))))))
def takeR (c : Int × Int) (b : BK) (k : Int) (nm : ByteArray) (w u : Int) : BK × (Int × Int) := if (decide (0 ≤ w) && decide (w ≤ 63)) = true then (if fnd b.2.2 nm = true then (if (bne (ta b.2.2 (plc b.2.2 nm)).2.1 0 || decide ((ta b.2.2 (plc b.2.2 nm)).2.2.2.2.1 ≥ c.2)) = true then (b, (0, 7)) else if (b.2.1 == 18446744073709551615) = true then (b, (0, 4)) else ((k, (IntKind.wrap IntKind.u64 (b.2.1 + 1), setL b.2.2 (takeT c b w u (ta b.2.2 (plc b.2.2 nm))))), (IntKind.wrap IntKind.u64 (b.2.1 + 1), 0))) else (b, (0, 6))) else (b, (0, 1))
def gS2 (c : Int × Int) (b : BK) (k : Int) (r : BK × (Int × Int)) : BK × (Int × Int) := if (capsB c && bookB b) = true then (if decide (k < b.1) = true then (b, (0, 8)) else r) else (b, (0, 1))
theorem F20_ok {c : Int × Int} {b : BK} {k : Int} {nm : ByteArray} {w u : Int} (hz : szB b) : F20 (c, (b, (k, (nm, (w, u))))) = some (gS2 c b k (takeR c b k nm w u)) := by
 have hp := plc_le b.2.2 nm
 unfold gS2
 cases hc : capsB c
 ·have h1 := F29_f hc
  rw [F20_eq]
  simp -implicitDefEqProofs only [h1, nz1, nz0, eq_self, xs]
 have h1 := F29_t hc
 cases hb : bookB b
 ·have h2 := F26_f hz hb
  rw [F20_eq]
  simp -implicitDefEqProofs only [h1, h2, nz0, nz1, eq_self, xs]
 have h2 := F26_t hz hb
 by_cases hk : k < b.1
 ·rw [F20_eq]
  have nz8 : ((8 : Int) != 0) = true := rfl
  simp -implicitDefEqProofs only [h1, h2, nz0, hk, nz8, eq_self, xs]
 have hs := srt_of hb
 have hl := len_of hb
 rw [F20_eq, copyL hl]
 simp -implicitDefEqProofs only [h1, h2, nz0, hk, decide_false, cond_false, cond_true, Option.bind_some, joinX_l]
 rw [srch hs nm]
 rotate_left
 ·intro i hi
  have q : ¬ (i : Int) < (i : Int) := by omega
  simp -implicitDefEqProofs only [q, eq_self, xs]
 ·intro i j m hij hj hm hml q1
  have hmid := mid (i := i) (j := j) (by omega)
  rw [← hm] at hmid
  have q3 : (0 : Int) ≤ (m : Int) := by omega
  have q4 : (m : Int) < ((b.2.2.length : Nat) : Int) := by omega
  have hw : IntKind.wrap .i64 ((m : Int) + 1) = ((m + 1 : Nat) : Int) := by rw [wi (by omega) (by omega)]; omega
  simp -implicitDefEqProofs only [q1, hmid, q3, q4, at_ta hml, F61_ok (ta b.2.2 m) nm, cmp_lt, hw, eq_self, xs]
 by_cases hq : plc b.2.2 nm < b.2.2.length
 rotate_left
 ·have hf : fnd b.2.2 nm = false := by unfold fnd; rw [decide_eq_false hq]; rfl
  have q1 : ¬ ((plc b.2.2 nm : Nat) : Int) < ((b.2.2.length : Nat) : Int) := by omega
  have nz6 : ((6 : Int) != 0) = true := rfl
  simp -implicitDefEqProofs only [q1, hf, takeR, hc, hb, hk, F54_ok w, eq_self, xs]
  cases (decide (0 ≤ w) && decide (w ≤ 63))
  ·simp -implicitDefEqProofs only [nz1, eq_self, xs]
  ·simp -implicitDefEqProofs only [nz6, eq_self, xs]
 have q1 : ((plc b.2.2 nm : Nat) : Int) < ((b.2.2.length : Nat) : Int) := by omega
 have q2 : (0 : Int) ≤ ((plc b.2.2 nm : Nat) : Int) := by omega
 cases hf : eqN (ta b.2.2 (plc b.2.2 nm)).1 nm
 ·have hf' : fnd b.2.2 nm = false := by unfold fnd; rw [hf, Bool.and_false]
  have nz6 : ((6 : Int) != 0) = true := rfl
  simp -implicitDefEqProofs only [q1, q2, at_ta hq, F61_ok (ta b.2.2 (plc b.2.2 nm)) nm, cmp_eq, hf, hf', takeR, hc, hb, hk, F54_ok w, eq_self, xs]
  cases (decide (0 ≤ w) && decide (w ≤ 63))
  ·simp -implicitDefEqProofs only [nz1, eq_self, xs]
  ·simp -implicitDefEqProofs only [nz6, eq_self, xs]
 have hf' : fnd b.2.2 nm = true := by unfold fnd; rw [hf, decide_eq_true hq]; rfl
 have hsg := sget hq
 have hbp : b.2.2.length = b.2.2.length := rfl
 have nz7 : ((7 : Int) != 0) = true := rfl
 have nz4 : ((4 : Int) != 0) = true := rfl
 simp -implicitDefEqProofs only [q1, q2, at_ta hq, F61_ok (ta b.2.2 (plc b.2.2 nm)) nm, cmp_eq, hf, takeR, hf', hc, hb, hk, F54_ok w, eq_self, xs]
 cases (decide (0 ≤ w) && decide (w ≤ 63))
 ·simp -implicitDefEqProofs only [nz1, eq_self, xs]
 simp -implicitDefEqProofs only [eq_self, xs]
 cases (bne (ta b.2.2 (plc b.2.2 nm)).2.1 0)
 rotate_left
 ·simp -implicitDefEqProofs only [nz7, eq_self, xs]
 simp -implicitDefEqProofs only [eq_self, xs]
 cases decide ((ta b.2.2 (plc b.2.2 nm)).2.2.2.2.1 ≥ c.2)
 rotate_left
 ·simp -implicitDefEqProofs only [nz7, eq_self, xs]
 simp -implicitDefEqProofs only [eq_self, xs]
 cases (b.2.1 == 18446744073709551615)
 rotate_left
 ·simp -implicitDefEqProofs only [nz4, eq_self, xs]
 have hsl := set_setL (t := takeT c b w u (ta b.2.2 (plc b.2.2 nm))) hf' (fnd_eq hf')
 have hlen : ∀ t : TK, (b.2.2.set (plc b.2.2 nm) t).length = b.2.2.length := fun t => List.length_set
 have htk : ∀ t : TK, List.take b.2.2.length (b.2.2.set (plc b.2.2 nm) t) = b.2.2.set (plc b.2.2 nm) t := fun t => List.take_of_length_le (by rw [List.length_set]; exact Nat.le_refl _)
 simp -implicitDefEqProofs only [hsg, List.set_set, nz0, hlen, htk, eq_self, xs]
 rw [← hsl]; rfl
end Go.Proofs.Ytoblcfkmggbheaa.VL
end
section
namespace Go.Proofs.Ytoblcfkmggbheaa.VL
open Go
set_option linter.unusedVariables false
set_option linter.unusedSectionVars false
set_option linter.unusedSimpArgs false
variable [Val]
theorem F25_ok {b : BK} (hz : szB b) : F25 b = some (if bookB b = true then opnL b.2.2 else []) := by
 rw [F25_eq]
 have h1 : F26 (((b).1, ((b).2.1, (b).2.2))) = _ := F26_ok hz
 cases hb : bookB b
 ·rw [hb] at h1
  simp -implicitDefEqProofs only [h1, nz1, eq_self, xs]
 ·rw [hb] at h1
  have hl := len_of hb
  simp -implicitDefEqProofs only [h1, nz0, eq_self, xs]
  rw [gathO (l := b.2.2)]
  rotate_left
  ·intro a ha
   have q : ¬ ((b.2.2.length : Nat) : Int) < ((b.2.2.length : Nat) : Int) := by omega
   simp -implicitDefEqProofs only [q, eq_self, xs]
  ·intro i a hi ha
   have q1 : ((i : Nat) : Int) < ((b.2.2.length : Nat) : Int) := by omega
   have q2 : (0 : Int) ≤ (i : Int) := by omega
   have hw : IntKind.wrap .i64 ((i : Int) + 1) = ((i + 1 : Nat) : Int) := by rw [wi (by omega) (by omega)]; omega
   have k1 : (((a.length + 1 : Nat) : Int) * 64 ≤ 70368744177664) := by omega
   have k2 : (((a.length + 1 : Nat) : Int) ≤ 70368744177664) := by omega
   simp -implicitDefEqProofs only [q1, q2, at_ta hi, hw, k1, k2, F43_ok (ta b.2.2 i), eq_self, xs]
   have hst : decide ((ta b.2.2 i).2.1 < 2) = ((ta b.2.2 i).2.1 == 0 || (ta b.2.2 i).2.1 == 1) := by
    have h0 := task_of hb hi
    unfold taskB at h0
    simp only [Bool.and_eq_true, decide_eq_true_eq] at h0
    rw [Bool.eq_iff_iff, decide_eq_true_iff, Bool.or_eq_true, beq_iff_eq, beq_iff_eq]
    omega
   rw [hst]
   cases ((ta b.2.2 i).2.1 == 0 || (ta b.2.2 i).2.1 == 1) <;> simp
  have hlo : (opnT b.2.2).length ≤ 100 := by
   unfold opnT
   rw [List.length_map]
   exact Nat.le_trans (List.length_filter_le _ _) (by rw [List.length_range]; exact hl)
  have hmap : opnL b.2.2 = (opnT b.2.2).map (fun t => t.1) := by unfold opnL opnT; rw [List.map_map]; rfl
  rw [hmap]
  generalize opnT b.2.2 = L at *
  simp -implicitDefEqProofs only [eq_self, xs]
  refine loop_seq (fun i => ((i : Int), (L.take i).map (fun t => t.1))) (L.map (fun t => t.1)) L.length ?_ ?_
  ·have q : ¬ ((L.length : Nat) : Int) < ((L.length : Nat) : Int) := by omega
   simp -implicitDefEqProofs only [q, Option.map_some, eq_self, xs]
  ·intro i hi
   have q1 : ((i : Nat) : Int) < ((L.length : Nat) : Int) := by omega
   have q2 : (0 : Int) ≤ (i : Int) := by omega
   have hw : IntKind.wrap .i64 ((i : Int) + 1) = ((i + 1 : Nat) : Int) := by rw [wi (by omega) (by omega)]; omega
   have e : (L.take (i + 1)).map (fun t => t.1) = (L.take i).map (fun t => t.1) ++ [(ta L i).1] := by rw [List.take_succ_eq_append_getElem hi, List.map_append, ta_eq hi]; rfl
   have ha : ((L.take i).map (fun t => t.1)).length ≤ 100 := by rw [List.length_map, List.length_take]; omega
   rw [e]
   generalize (L.take i).map (fun t => t.1) = a at *
   have k1 : (((a.length + 1 : Nat) : Int) * 16 ≤ 70368744177664) := by omega
   have k2 : (((a.length + 1 : Nat) : Int) ≤ 70368744177664) := by omega
   simp -implicitDefEqProofs only [q1, q2, at_ta hi, hw, k1, k2, eq_self, xs]
end Go.Proofs.Ytoblcfkmggbheaa.VL
end
section
namespace Go.Proofs.Ytoblcfkmggbheaa.VL
open Go
set_option linter.unusedVariables false
set_option linter.unusedSectionVars false
set_option linter.unusedSimpArgs false
variable [Val]
def tokOk (l : List TK) : Prop := ∀ i k, i < l.length → k < l.length → k ≠ i → 0 < (ta l i).2.2.2.1 → (ta l k).2.2.2.1 ≠ (ta l i).2.2.2.1
theorem tok_of {b : BK} (h : bookB b = true) : tokOk b.2.2 := by
 have key : ∀ i k, i < b.2.2.length → k < i → 0 < (ta b.2.2 i).2.2.2.1 → (ta b.2.2 k).2.2.2.1 ≠ (ta b.2.2 i).2.2.2.1 := by
  intro i k hi hk h0 he
  have := okAt_of h hi
  unfold okAt at this
  simp only [Bool.and_eq_true, List.all_eq_true] at this
  have := this.2.2 k (List.mem_range.2 hk)
  rw [he, beq_self_eq_true, decide_eq_true h0] at this
  cases this
 intro i k hi hk hne h0 he
 rcases Nat.lt_or_gt_of_ne hne with q | q
 ·exact key i k hi q h0 he
 ·exact key k i hk q (by rw [he]; exact h0) he.symm
theorem book_of {a g : Int} {l : List TK} (h1 : ∀ i, i < l.length → taskB (ta l i) g = true) (h2 : srt l) (h3 : tokOk l) (h4 : l.length ≤ 100) : bookB (a, (g, l)) = true := by
 unfold bookB
 rw [Bool.and_eq_true, decide_eq_true_iff, List.all_eq_true]
 refine ⟨fun i hi => ?_, h4⟩
 have hi := List.mem_range.1 hi
 unfold okAt
 rw [Bool.and_eq_true, Bool.and_eq_true, Bool.or_eq_true, decide_eq_true_iff, List.all_eq_true]
 refine ⟨h1 i hi, ?_, fun k hk => ?_⟩
 ·by_cases h0 : i = 0
  ·exact .inl h0
  ·exact .inr (h2 (i - 1) i (by omega) hi)
 ·have hk := List.mem_range.1 hk
  rw [Bool.not_eq_true', Bool.and_eq_false_iff, decide_eq_false_iff_not, beq_eq_false_iff_ne]
  by_cases h0 : 0 < (ta l i).2.2.2.1
  ·exact .inr (h3 i k hi (by show k < l.length; have : i < l.length := hi; omega) (by omega) h0)
  ·exact .inl h0
theorem look {l : List TK} (hs : srt l) {j : Nat} (hj : j < l.length) : plc l (ta l j).1 = j ∧ fnd l (ta l j).1 = true := by
 have hp : plc l (ta l j).1 = j := by
  refine cntP_at (Nat.le_of_lt hj) (fun k hk => hs k j hk hj) (fun k h1 h2 => ?_)
  rcases Nat.lt_or_eq_of_le h1 with q | q
  ·exact ltN_asymm (hs j k q h2)
  ·rw [← q]; exact ltN_irrefl _
 refine ⟨hp, ?_⟩
 unfold fnd
 rw [hp, decide_eq_true hj, eqN_refl]; rfl
theorem mem_ta {l : List TK} {t : TK} (h : t ∈ l) : ∃ j, j < l.length ∧ ta l j = t := by
 obtain ⟨j, hj, e⟩ := List.getElem_of_mem h
 exact ⟨j, hj, by rw [← ta_eq hj]; exact e⟩
def cntO (l : List TK) : Nat := l.countP (fun t => decide (t.2.1 < 2))
theorem opnL_cnt (l : List TK) : (opnL l).length = cntO l := by
 have key : ∀ n, n ≤ l.length → ((List.range n).filter fun i => decide ((ta l i).2.1 < 2)).length = (l.take n).countP (fun t => decide (t.2.1 < 2)) := by
  intro n
  induction n with
  | zero => intro _; rfl
  | succ n ih =>
   intro hn
   rw [List.range_succ, List.filter_append, List.length_append, ih (by omega), List.take_succ_eq_append_getElem (by omega), List.countP_append, ta_eq (by omega)]
   congr 1
   cases h : decide ((ta l n).2.1 < 2) <;> simp [h]
 unfold opnL cntO
 rw [List.length_map, key l.length (Nat.le_refl _), List.take_length]
structure InvB (c : Int × Int) (b : BK) : Prop where
 bk : bookB b = true
 sz : szB b
 g0 : 0 ≤ b.2.1
 g1 : b.2.1 ≤ 18446744073709551615
 tr : ∀ t ∈ b.2.2, t.2.2.2.2.1 ≤ c.2
 op : (cntO b.2.2 : Int) ≤ c.1
structure Turn (g : Int) (w n : TK) : Prop where
 nm : n.1 = w.1
 tk : w.2.2.2.1 ≤ n.2.2.2.1
 tr : w.2.2.2.2.1 ≤ n.2.2.2.2.1
 pr : n.2.2.1 = w.2.2.1
 fin : w.2.1 > 1 → n = w
 new : n.2.2.2.1 ≠ w.2.2.2.1 → g < n.2.2.2.1 ∧ n.2.1 = 1 ∧ w.2.1 = 0
theorem Turn.refl (g : Int) (w : TK) : Turn g w w := ⟨rfl, Int.le_refl _, Int.le_refl _, rfl, fun _ => rfl, fun h => absurd rfl h⟩
structure Step (c : Int × Int) (b : BK) (k : Int) (r : BK × Int) : Prop where
 inv : InvB c r.1
 bad : r.2 ≠ 0 → r.1 = b
 ep : r.2 = 0 → r.1.1 = k
 st : r.2 ≠ 0 → k < b.1 → r.2 = 8
 e1 : b.1 ≤ r.1.1
 g1 : b.2.1 ≤ r.1.2.1
 look : ∀ i, i < b.2.2.length → ∃ t ∈ r.1.2.2, Turn b.2.1 (ta b.2.2 i) t
theorem step_same {c : Int × Int} {b : BK} {k e : Int} (hi : InvB c b) (h0 : e ≠ 0) (h8 : k < b.1 → e = 8) : Step c b k (b, e) :=
 ⟨hi, fun _ => rfl, fun h => absurd h h0, fun _ h => h8 h, Int.le_refl _, Int.le_refl _, fun i hi => ⟨_, by rw [← ta_eq hi]; exact List.getElem_mem hi, Turn.refl _ _⟩⟩
theorem task_mono {t : TK} {g g' : Int} (h : taskB t g = true) (hg : g ≤ g') : taskB t g' = true := by
 unfold taskB at h ⊢
 simp only [Bool.and_eq_true, decide_eq_true_eq] at h ⊢
 refine ⟨h.1, h.2.1, h.2.2.1, ?_, h.2.2.2.2⟩
 have := h.2.2.2.1
 omega
theorem cntO_set {l : List TK} {p : Nat} (hp : p < l.length) {x : TK} (h : x.2.1 < 2 → (ta l p).2.1 < 2) : cntO (l.set p x) ≤ cntO l := by
 have e1 : l.set p x = l.take p ++ x :: l.drop (p + 1) := List.set_eq_take_append_cons_drop .. |>.trans (if_pos hp)
 have e2 : l = l.take p ++ ta l p :: l.drop (p + 1) := by
  conv => lhs; rw [← List.take_append_drop p l, List.drop_eq_getElem_cons hp, ta_eq hp]
 unfold cntO
 rw [e1]
 conv => rhs; rw [e2]
 rw [List.countP_append, List.countP_append, List.countP_cons, List.countP_cons]
 by_cases hx : x.2.1 < 2
 ·rw [decide_eq_true hx, decide_eq_true (h hx)]; exact Nat.le_refl _
 ·rw [decide_eq_false hx]; simp
theorem name_sz {t : TK} {g : Int} (h : taskB t g = true) : t.1.size ≤ maxLen := by
 unfold taskB nmB at h
 simp only [Bool.and_eq_true, decide_eq_true_eq] at h
 exact Nat.le_trans h.1.2.2 (by decide)
theorem step_set {c : Int × Int} {b : BK} {k g' : Int} {p : Nat} {x : TK} (hi : InvB c b) (hk : b.1 ≤ k) (hp : p < b.2.2.length) (hg : b.2.1 ≤ g') (hg' : g' ≤ 18446744073709551615) (hx : taskB x g' = true)
  (ht : Turn b.2.1 (ta b.2.2 p) x) (hr : x.2.2.2.2.1 ≤ c.2) (ho : x.2.1 < 2 → (ta b.2.2 p).2.1 < 2) : Step c b k ((k, (g', b.2.2.set p x)), 0) := by
 have hn : x.1 = (ta b.2.2 p).1 := ht.nm
 have hs := srt_of hi.bk
 have htk : tokOk (b.2.2.set p x) := by
  intro i j hi' hj hne h0
  rw [List.length_set] at hi' hj
  rw [ta_set hp, ta_set hp] at *
  have tp := task_of hi.bk hp
  have hT := tok_of hi.bk
  have bound : ∀ q, q < b.2.2.length → (ta b.2.2 q).2.2.2.1 ≤ b.2.1 := by
   intro q hq
   have := task_of hi.bk hq
   unfold taskB at this
   simp only [Bool.and_eq_true, decide_eq_true_eq] at this
   exact this.2.2.2.1
  by_cases e : x.2.2.2.1 = (ta b.2.2 p).2.2.2.1
  ·have ei : (if i = p then x else ta b.2.2 i).2.2.2.1 = (ta b.2.2 i).2.2.2.1 := by
    split
    ·rename_i q; rw [q, e]
    ·rfl
   have ej : (if j = p then x else ta b.2.2 j).2.2.2.1 = (ta b.2.2 j).2.2.2.1 := by
    split
    ·rename_i q; rw [q, e]
    ·rfl
   rw [ei] at h0 ⊢
   rw [ej]
   exact hT i j hi' hj hne h0
  ·have hnew := (ht.new e).1
   by_cases q1 : i = p
   ·rw [if_pos q1, if_neg (by omega)]
    have := bound j hj
    omega
   ·rw [if_neg q1] at h0 ⊢
    by_cases q2 : j = p
    ·rw [if_pos q2]
     have := bound i hi'
     omega
    ·rw [if_neg q2]; exact hT i j hi' hj hne h0
 have hsr : srt (b.2.2.set p x) := by
  intro i j hij hj
  rw [List.length_set] at hj
  rw [name_set hp hn, name_set hp hn]
  exact hs i j hij hj
 have htB : ∀ i, i < (b.2.2.set p x).length → taskB (ta (b.2.2.set p x) i) g' = true := by
  intro i hi'
  rw [List.length_set] at hi'
  rw [ta_set hp]
  split
  ·exact hx
  ·exact task_mono (task_of hi.bk hi') hg
 have hbk : bookB (k, (g', b.2.2.set p x)) = true := book_of htB hsr htk (by rw [List.length_set]; exact len_of hi.bk)
 refine ⟨⟨hbk, ⟨?_, fun i hi' => ⟨name_sz (htB i hi'), ?_⟩⟩, by show 0 ≤ g'; have := hi.g0; omega, hg', fun t hm => ?_, ?_⟩, fun h => absurd rfl h, fun _ => rfl, fun h => absurd rfl h, hk, hg, fun i hi' => ?_⟩
 ·show (b.2.2.set p x).length ≤ maxLen
  rw [List.length_set]; exact hi.sz.1
 ·have hi'' : i < b.2.2.length := by simpa using hi'
  show 0 ≤ (ta (b.2.2.set p x) i).2.2.2.1
  rw [ta_set hp]
  split
  ·have := (hi.sz.2 p hp).2
   have := ht.tk
   omega
  ·exact (hi.sz.2 i hi'').2
 ·rcases List.mem_or_eq_of_mem_set hm with q | q
  ·exact hi.tr t q
  ·rw [q]; exact hr
 ·have := cntO_set hp ho
  have := hi.op
  show ((cntO (b.2.2.set p x) : Nat) : Int) ≤ c.1
  omega
 ·by_cases q : i = p
  ·subst q
   exact ⟨x, List.mem_set hi' x, ht⟩
  ·refine ⟨ta b.2.2 i, ?_, Turn.refl _ _⟩
   have : ta (b.2.2.set p x) i = ta b.2.2 i := by rw [ta_set hp, if_neg q]
   have hl : i < (b.2.2.set p x).length := by rw [List.length_set]; exact hi'
   rw [← this, ← ta_eq hl]; exact List.getElem_mem hl
theorem setL_new {l : List TK} {t : TK} (hf : fnd l t.1 = false) : setL l t = l.take (plc l t.1) ++ t :: l.drop (plc l t.1) := by
 unfold setL off
 rw [hf]
 simp
theorem ta_new {l : List TK} {t : TK} (hf : fnd l t.1 = false) (i : Nat) (hi : i < l.length + 1) : ta (setL l t) i = if i < plc l t.1 then ta l i else if i = plc l t.1 then t else ta l (i - 1) := by
 have hp := plc_le l t.1
 rw [setL_new hf]
 unfold ta
 rw [List.getD_eq_getElem?_getD, List.getElem?_append, List.length_take]
 by_cases h1 : i < plc l t.1
 ·rw [if_pos (by omega), if_pos h1, List.getElem?_take, if_pos h1, List.getD_eq_getElem?_getD]
 ·rw [if_neg (by omega), if_neg h1]
  by_cases h2 : i = plc l t.1
  ·rw [if_pos h2, show i - min (plc l t.1) l.length = 0 by omega]; rfl
  ·rw [if_neg h2, show i - min (plc l t.1) l.length = (i - 1 - plc l t.1) + 1 by omega, List.getElem?_cons_succ, List.getElem?_drop, show plc l t.1 + (i - 1 - plc l t.1) = i - 1 by omega, List.getD_eq_getElem?_getD]
theorem gt_new {l : List TK} (hs : srt l) {nm : ByteArray} (hf : fnd l nm = false) {k : Nat} (hk : plc l nm ≤ k) (h : k < l.length) : ltN nm (ta l k).1 = true := by
 have h1 := plc_ge hs hk h
 have h2 := not_eq_all hs hf h
 rcases tri (ta l k).1 nm with q | q | q
 ·rw [q] at h1; cases h1
 ·rw [q, eqN_refl] at h2; cases h2
 ·exact q
theorem step_ins {c : Int × Int} {b : BK} {k : Int} {t : TK} (hi : InvB c b) (hk : b.1 ≤ k) (hf : fnd b.2.2 t.1 = false) (hx : taskB t b.2.1 = true) (h0 : t.2.2.2.1 = 0) (hr : t.2.2.2.2.1 ≤ c.2) (hl : b.2.2.length < 100) (ho : (cntO b.2.2 : Int) < c.1) :
  Step c b k ((k, (b.2.1, setL b.2.2 t)), 0) := by
 have hs := srt_of hi.bk
 have hp := plc_le b.2.2 t.1
 have hlen : (setL b.2.2 t).length = b.2.2.length + 1 := by
  rw [setL_new hf, List.length_append, List.length_cons, List.length_take, List.length_drop]; omega
 have hta := ta_new (l := b.2.2) (t := t) hf
 have hsr : srt (setL b.2.2 t) := by
  intro i j hij hj
  rw [hlen] at hj
  rw [hta i (by omega), hta j hj]
  by_cases i1 : i < plc b.2.2 t.1
  ·rw [if_pos i1]
   by_cases j1 : j < plc b.2.2 t.1
   ·rw [if_pos j1]; exact hs i j hij (by omega)
   ·rw [if_neg j1]
    by_cases j2 : j = plc b.2.2 t.1
    ·rw [if_pos j2]; exact plc_lt hs i1
    ·rw [if_neg j2]; exact hs i (j - 1) (by omega) (by omega)
  ·rw [if_neg i1, if_neg (show ¬ j < plc b.2.2 t.1 by omega), if_neg (show ¬ j = plc b.2.2 t.1 by omega)]
   by_cases i2 : i = plc b.2.2 t.1
   ·rw [if_pos i2]; exact gt_new hs hf (by omega) (by omega)
   ·rw [if_neg i2]; exact hs (i - 1) (j - 1) (by omega) (by omega)
 have htk : tokOk (setL b.2.2 t) := by
  have hT := tok_of hi.bk
  intro i j hi' hj hne hpos
  rw [hlen] at hi' hj
  rw [hta i hi'] at hpos ⊢
  rw [hta j hj]
  by_cases i1 : i < plc b.2.2 t.1
  ·rw [if_pos i1] at hpos ⊢
   by_cases j1 : j < plc b.2.2 t.1
   ·rw [if_pos j1]; exact hT i j (by omega) (by omega) hne hpos
   ·rw [if_neg j1]
    by_cases j2 : j = plc b.2.2 t.1
    ·rw [if_pos j2]; omega
    ·rw [if_neg j2]; exact hT i (j - 1) (by omega) (by omega) (by omega) hpos
  ·rw [if_neg i1] at hpos ⊢
   by_cases i2 : i = plc b.2.2 t.1
   ·rw [if_pos i2] at hpos; omega
   ·rw [if_neg i2] at hpos ⊢
    by_cases j1 : j < plc b.2.2 t.1
    ·rw [if_pos j1]; exact hT (i - 1) j (by omega) (by omega) (by omega) hpos
    ·rw [if_neg j1]
     by_cases j2 : j = plc b.2.2 t.1
     ·rw [if_pos j2]; omega
     ·rw [if_neg j2]; exact hT (i - 1) (j - 1) (by omega) (by omega) (by omega) hpos
 have htB : ∀ i, i < (setL b.2.2 t).length → taskB (ta (setL b.2.2 t) i) b.2.1 = true := by
  intro i hi'
  rw [hlen] at hi'
  rw [hta i hi']
  split
  ·exact task_of hi.bk (by omega)
  ·split
   ·exact hx
   ·exact task_of hi.bk (by omega)
 have hbk : bookB (k, (b.2.1, setL b.2.2 t)) = true := book_of htB hsr htk (by omega)
 refine ⟨⟨hbk, ⟨?_, fun i hi' => ⟨name_sz (htB i hi'), ?_⟩⟩, hi.g0, hi.g1, fun u hm => ?_, ?_⟩, fun h => absurd rfl h, fun _ => rfl, fun h => absurd rfl h, hk, Int.le_refl _, fun i hi' => ?_⟩
 ·show (setL b.2.2 t).length ≤ maxLen
  rw [hlen]; exact Nat.le_trans (show b.2.2.length + 1 ≤ 100 by omega) (by decide)
 ·have hi'' : i < (setL b.2.2 t).length := hi'
  rw [hlen] at hi''
  show 0 ≤ (ta (setL b.2.2 t) i).2.2.2.1
  rw [hta i hi'']
  split
  ·exact (hi.sz.2 i (by omega)).2
  ·split
   ·omega
   ·exact (hi.sz.2 (i - 1) (by omega)).2
 ·have hm' : u ∈ setL b.2.2 t := hm
  rw [setL_new hf] at hm'
  rcases List.mem_append.1 hm' with q | q
  ·exact hi.tr u (List.mem_of_mem_take q)
  ·rcases List.mem_cons.1 q with q | q
   ·rw [q]; exact hr
   ·exact hi.tr u (List.mem_of_mem_drop q)
 ·show ((cntO (setL b.2.2 t) : Nat) : Int) ≤ c.1
  have e : cntO (setL b.2.2 t) ≤ cntO b.2.2 + 1 := by
   rw [setL_new hf]
   unfold cntO
   rw [List.countP_append, List.countP_cons]
   have := List.countP_append (p := fun t : TK => decide (t.2.1 < 2)) (l₁ := b.2.2.take (plc b.2.2 t.1)) (l₂ := b.2.2.drop (plc b.2.2 t.1))
   rw [List.take_append_drop] at this
   split <;> omega
  omega
 ·refine ⟨ta b.2.2 i, ?_, Turn.refl _ _⟩
  show ta b.2.2 i ∈ setL b.2.2 t
  rw [setL_new hf]
  have hm : ta b.2.2 i ∈ b.2.2.take (plc b.2.2 t.1) ++ b.2.2.drop (plc b.2.2 t.1) := by rw [List.take_append_drop, ← ta_eq hi']; exact List.getElem_mem hi'
  rcases List.mem_append.1 hm with q | q
  ·exact List.mem_append.2 (.inl q)
  ·exact List.mem_append.2 (.inr (List.mem_cons_of_mem _ q))
section
variable {c : Int × Int} {b : BK} {k : Int} (hi : InvB c b) (hc : capsB c = true)
include hi hc
theorem step_g {r : BK × Int} (h : b.1 ≤ k → Step c b k r) : Step c b k (gS c b k r) := by
 unfold gS
 rw [hc, hi.bk, Bool.and_self, if_pos rfl]
 by_cases hk : k < b.1
 ·rw [if_pos (decide_eq_true hk)]
  exact step_same hi (by decide) (fun _ => rfl)
 ·rw [if_neg (by rw [decide_eq_true_iff]; exact hk)]
  exact h (by omega)
theorem found {nm : ByteArray} (hf : fnd b.2.2 nm = true) : plc b.2.2 nm < b.2.2.length ∧ (ta b.2.2 (plc b.2.2 nm)).1 = nm ∧ taskB (ta b.2.2 (plc b.2.2 nm)) b.2.1 = true ∧ (ta b.2.2 (plc b.2.2 nm)).2.2.2.2.1 ≤ c.2 ∧ ∀ t : TK, t.1 = nm → setL b.2.2 t = b.2.2.set (plc b.2.2 nm) t := by
 have hp := fnd_lt hf
 refine ⟨hp, fnd_eq hf, task_of hi.bk hp, ?_, fun t ht => (set_setL hf ht).symm⟩
 refine hi.tr _ ?_
 rw [← ta_eq hp]; exact List.getElem_mem hp
theorem step_drop (nm : ByteArray) : Step c b k (gS c b k (dropR b k nm)) := by
 refine step_g hi hc fun hk => ?_
 unfold dropR
 cases hf : fnd b.2.2 nm
 ·exact step_same hi (by decide) (fun _ => by omega)
 rw [if_pos rfl]
 obtain ⟨hp, hn, ht, hr, hset⟩ := found hi hc hf
 by_cases ho : (ta b.2.2 (plc b.2.2 nm)).2.1 < 2
 ·have e := hset ((ta b.2.2 (plc b.2.2 nm)).1, (4, ((ta b.2.2 (plc b.2.2 nm)).2.2.1, ((ta b.2.2 (plc b.2.2 nm)).2.2.2.1, ((ta b.2.2 (plc b.2.2 nm)).2.2.2.2.1, (-1, 0)))))) hn
  rw [if_pos (decide_eq_true ho), e]
  refine step_set hi hk hp (Int.le_refl _) hi.g1 ?_ ⟨rfl, Int.le_refl _, Int.le_refl _, rfl, fun h => ?_, fun h => absurd rfl h⟩ hr (fun h => ?_)
  ·unfold taskB at ht ⊢
   simp only [Bool.and_eq_true] at ht ⊢
   exact ⟨ht.1, ⟨rfl, rfl⟩, ht.2.2.1, ht.2.2.2.1, ht.2.2.2.2.1, ht.2.2.2.2.2.1, rfl⟩
  ·omega
  ·have h' : (4 : Int) < 2 := h
   omega
 ·rw [if_neg (by rw [decide_eq_true_iff]; exact ho)]
  exact step_same hi (by decide) (fun _ => by omega)
theorem step_done (nm : ByteArray) (g s : Int) (hs : s = 0 ∨ s = 1 ∨ s = 2) : Step c b k (gS c b k (doneR c b k nm g s)) := by
 refine step_g hi hc fun hk => ?_
 unfold doneR
 cases hf : fnd b.2.2 nm
 ·exact step_same hi (by decide) (fun _ => by omega)
 rw [if_pos rfl]
 obtain ⟨hp, hn, ht, hr, hset⟩ := found hi hc hf
 by_cases h1 : (ta b.2.2 (plc b.2.2 nm)).2.2.2.1 = g
 ·have e1 : bne (ta b.2.2 (plc b.2.2 nm)).2.2.2.1 g = false := by rw [h1]; exact bne_self_eq_false _
  rw [e1, if_neg (by decide)]
  by_cases h2 : (ta b.2.2 (plc b.2.2 nm)).2.1 = 1
  ·have e2 : bne (ta b.2.2 (plc b.2.2 nm)).2.1 1 = false := by rw [h2]; rfl
   have e3 := hset (doneT c s (ta b.2.2 (plc b.2.2 nm))) hn
   rw [e2, if_neg (by decide), e3]
   have hk2 : taskB (doneT c s (ta b.2.2 (plc b.2.2 nm))) b.2.1 = true := by
    rcases hs with rfl | rfl | rfl
    ·exact doneT_task (s := 1) ht (.inl rfl)
    ·exact doneT_task ht (.inl rfl)
    ·exact doneT_task ht (.inr rfl)
   exact step_set hi hk hp (Int.le_refl _) hi.g1 hk2 ⟨rfl, Int.le_refl _, Int.le_refl _, rfl, fun h => by omega, fun h => absurd rfl h⟩ hr (fun h => by omega)
  ·have e2 : bne (ta b.2.2 (plc b.2.2 nm)).2.1 1 = true := by rw [bne_iff_ne]; exact h2
   rw [e2, if_pos rfl]
   exact step_same hi (by decide) (fun _ => by omega)
 ·have e1 : bne (ta b.2.2 (plc b.2.2 nm)).2.2.2.1 g = true := by rw [bne_iff_ne]; exact h1
  rw [e1, if_pos rfl]
  exact step_same hi (by decide) (fun _ => rfl)
theorem step_add (nm : ByteArray) (pr : Int) : Step c b k (gS c b k (addR c b k nm pr)) := by
 refine step_g hi hc fun hk => ?_
 unfold addR
 cases hv : (nmB nm && (decide (0 ≤ pr) && decide (pr ≤ 9)))
 ·exact step_same hi (by decide) (fun _ => by omega)
 rw [if_pos rfl]
 cases hf : fnd b.2.2 nm
 ·rw [if_neg (by decide)]
  cases hq : (decide ((((opnL b.2.2).length : Nat) : Int) ≥ c.1) || decide (((b.2.2.length : Nat) : Int) ≥ 100))
  ·rw [if_neg (by decide)]
   rw [Bool.or_eq_false_iff, decide_eq_false_iff_not, decide_eq_false_iff_not, opnL_cnt] at hq
   have hcc := hc
   unfold capsB at hcc
   simp only [Bool.and_eq_true, decide_eq_true_eq] at hcc hv
   refine step_ins (t := newT nm pr) hi hk hf ?_ rfl (show (0 : Int) ≤ c.2 by omega) (by omega) (by omega)
   unfold taskB newT ownB
   simp only [Bool.and_eq_true, decide_eq_true_eq]
   have := hi.g0
   exact ⟨hv.1, by omega, by omega, by omega, rfl, by omega, rfl⟩
  ·rw [if_pos rfl]
   exact step_same hi (by decide) (fun _ => by omega)
 ·rw [if_pos rfl]
  exact step_same hi (by decide) (fun _ => by omega)
theorem step_take (nm : ByteArray) (w u : Int) : Step c b k ((gS2 c b k (takeR c b k nm w u)).1, (gS2 c b k (takeR c b k nm w u)).2.2) := by
 have hg : ∀ r : BK × (Int × Int), (b.1 ≤ k → Step c b k (r.1, r.2.2)) → Step c b k ((gS2 c b k r).1, (gS2 c b k r).2.2) := by
  intro r h
  unfold gS2
  rw [hc, hi.bk, Bool.and_self, if_pos rfl]
  by_cases hk : k < b.1
  ·rw [if_pos (decide_eq_true hk)]
   exact step_same (e := 8) hi (by decide) (fun _ => rfl)
  ·rw [if_neg (by rw [decide_eq_true_iff]; exact hk)]
   exact h (by omega)
 refine hg _ fun hk => ?_
 unfold takeR
 cases hw : (decide (0 ≤ w) && decide (w ≤ 63))
 ·exact step_same (e := 1) hi (by decide) (fun _ => by omega)
 rw [if_pos rfl]
 cases hf : fnd b.2.2 nm
 ·exact step_same (e := 6) hi (by decide) (fun _ => by omega)
 rw [if_pos rfl]
 obtain ⟨hp, hn, ht, hr, hset⟩ := found hi hc hf
 cases hq : (bne (ta b.2.2 (plc b.2.2 nm)).2.1 0 || decide ((ta b.2.2 (plc b.2.2 nm)).2.2.2.2.1 ≥ c.2))
 ·rw [if_neg (by decide)]
  rw [Bool.or_eq_false_iff, bne_eq_false_iff_eq, decide_eq_false_iff_not] at hq
  cases hm : (b.2.1 == 18446744073709551615)
  ·rw [if_neg (by decide)]
   rw [beq_eq_false_iff_ne] at hm
   have g0 := hi.g0
   have g1 := hi.g1
   have hg1 : IntKind.wrap IntKind.u64 (b.2.1 + 1) = b.2.1 + 1 := wu (by omega) (by omega)
   rw [hg1]
   have hcc := hc
   unfold capsB at hcc
   simp only [Bool.and_eq_true, decide_eq_true_eq] at hcc hw
   have ht' := ht
   unfold taskB at ht'
   simp only [Bool.and_eq_true, decide_eq_true_eq] at ht'
   have ht1 : IntKind.wrap IntKind.i64 ((ta b.2.2 (plc b.2.2 nm)).2.2.2.2.1 + 1) = (ta b.2.2 (plc b.2.2 nm)).2.2.2.2.1 + 1 := wi (by omega) (by omega)
   have hT : takeT c b w u (ta b.2.2 (plc b.2.2 nm)) = ((ta b.2.2 (plc b.2.2 nm)).1, (1, ((ta b.2.2 (plc b.2.2 nm)).2.2.1, (b.2.1 + 1, ((ta b.2.2 (plc b.2.2 nm)).2.2.2.2.1 + 1, (w, u)))))) := by unfold takeT; rw [hg1, ht1]
   have e3 := hset ((ta b.2.2 (plc b.2.2 nm)).1, (1, ((ta b.2.2 (plc b.2.2 nm)).2.2.1, (b.2.1 + 1, ((ta b.2.2 (plc b.2.2 nm)).2.2.2.2.1 + 1, (w, u)))))) hn
   rw [hT, e3]
   refine step_set hi hk hp (by omega) (by omega) ?_ ⟨rfl, ?_, ?_, rfl, fun h => by omega, fun h => ⟨by show b.2.1 < b.2.1 + 1; omega, rfl, hq.1⟩⟩ (by show (ta b.2.2 (plc b.2.2 nm)).2.2.2.2.1 + 1 ≤ c.2; omega) (fun h => by omega)
   ·unfold taskB ownB
    simp only [Bool.and_eq_true, decide_eq_true_eq]
    refine ⟨ht'.1, by omega, ht'.2.2.1, by omega, ?_, by omega, ?_⟩
    ·have e1 : (b.2.1 + 1 == 0) = false := by rw [beq_eq_false_iff_ne]; omega
     have e2 : ((ta b.2.2 (plc b.2.2 nm)).2.2.2.2.1 + 1 == 0) = false := by rw [beq_eq_false_iff_ne]; omega
     rw [e1, e2]; rfl
    ·show (if ((1 : Int) == 1) = true then _ else _) = true
     rw [if_pos (show ((1 : Int) == 1) = true from rfl)]
     simp only [Bool.and_eq_true, decide_eq_true_eq]
     omega
   ·show (ta b.2.2 (plc b.2.2 nm)).2.2.2.1 ≤ b.2.1 + 1
    have := ht'.2.2.2.1
    omega
   ·show (ta b.2.2 (plc b.2.2 nm)).2.2.2.2.1 ≤ (ta b.2.2 (plc b.2.2 nm)).2.2.2.2.1 + 1
    omega
  ·rw [if_pos rfl]
   exact step_same (e := 4) hi (by decide) (fun _ => by omega)
 ·rw [if_pos rfl]
  exact step_same (e := 7) hi (by decide) (fun _ => by omega)
end
end Go.Proofs.Ytoblcfkmggbheaa.VL
end
section
namespace Go.Proofs.Ytoblcfkmggbheaa.VL
open Go
set_option linter.unusedVariables false
set_option linter.unusedSectionVars false
set_option linter.unusedSimpArgs false
variable [Val]
abbrev AK := Int × (Int × (ByteArray × (Int × Int)))
def epk (v : AK) : Int := IntKind.wrap IntKind.u64 (Int.tmod v.2.1 8)
theorem F24_ok {c : Int × Int} {b : BK} {v : AK} (hi : InvB c b) (hc : capsB c = true) (hn : v.2.2.1.size ≤ maxLen) : ∃ r, F24 ((c.1, c.2), (((b).1, ((b).2.1, (b).2.2)), (v.1, (v.2.1, (v.2.2.1, (v.2.2.2.1, v.2.2.2.2)))))) = some r ∧ Step c b (epk v) r := by
 rw [F24_eq]
 have hz := hi.sz
 have h17 := F17_ok (c := c) (k := epk v) (pr := IntKind.wrap IntKind.i64 (Int.tmod v.2.2.2.1 10)) hz hn
 have h16 := F16_ok (c := c) (k := epk v) (nm := v.2.2.1) hz
 have h20 := F20_ok (c := c) (k := epk v) (nm := v.2.2.1) (w := IntKind.wrap IntKind.i64 (Int.tmod v.2.2.2.1 64)) (u := IntKind.wrap IntKind.u64 (Int.tmod v.2.2.2.2 24)) hz
 have h22 := F22_ok (c := c) (k := epk v) (nm := v.2.2.1) (g := IntKind.wrap IntKind.u64 (Int.tmod v.2.2.2.2 24)) hz
 have h13 := F13_ok (c := c) (k := epk v) (nm := v.2.2.1) (g := IntKind.wrap IntKind.u64 (Int.tmod v.2.2.2.2 24)) (d := (Int.tmod v.1 6 == 4)) hz
 have s17 := step_add (k := epk v) hi hc v.2.2.1 (IntKind.wrap IntKind.i64 (Int.tmod v.2.2.2.1 10))
 have s16 := step_drop (k := epk v) hi hc v.2.2.1
 have s20 := step_take (k := epk v) hi hc v.2.2.1 (IntKind.wrap IntKind.i64 (Int.tmod v.2.2.2.1 64)) (IntKind.wrap IntKind.u64 (Int.tmod v.2.2.2.2 24))
 have s22 := step_done (k := epk v) hi hc v.2.2.1 (IntKind.wrap IntKind.u64 (Int.tmod v.2.2.2.2 24)) 0 (.inl rfl)
 have s13 := step_done (k := epk v) hi hc v.2.2.1 (IntKind.wrap IntKind.u64 (Int.tmod v.2.2.2.2 24)) (if (Int.tmod v.1 6 == 4) = true then 2 else 1) (by cases Int.tmod v.1 6 == 4 <;> simp)
 unfold epk at *
 cases h0 : (Int.tmod v.1 6 == 0)
 ·cases h1 : (Int.tmod v.1 6 == 1)
  ·cases h2 : (Int.tmod v.1 6 == 2)
   ·cases h3 : (Int.tmod v.1 6 == 3)
    ·simp -implicitDefEqProofs only [h0, h1, h2, h3, h13, eq_self, xs]
     exact ⟨_, rfl, s13⟩
    ·simp -implicitDefEqProofs only [h0, h1, h2, h3, h22, eq_self, xs]
     exact ⟨_, rfl, s22⟩
   ·simp -implicitDefEqProofs only [h0, h1, h2, h20, eq_self, xs]
    exact ⟨_, rfl, s20⟩
  ·simp -implicitDefEqProofs only [h0, h1, h16, eq_self, xs]
   exact ⟨_, rfl, s16⟩
 ·simp -implicitDefEqProofs only [h0, h17, eq_self, xs]
  exact ⟨_, rfl, s17⟩
theorem loop_ex {σ ρ : Type} {f : σ → Option (σ ⊕ ρ)} (I : σ → Prop) (m : σ → Nat) (P : ρ → Prop) (h : ∀ s, I s → (∃ r, f s = some (.inr r) ∧ P r) ∨ ∃ s', f s = some (.inl s') ∧ I s' ∧ m s' < m s) (s : σ) (hs : I s) : ∃ r, loopX f s = some r ∧ P r := by
 have key : ∀ (n : Nat) (s : σ), m s ≤ n → I s → ∃ r, loopX f s = some r ∧ P r := by
  intro n
  induction n with
  | zero =>
   intro s hn hs
   rw [loopX_eq]
   rcases h s hs with ⟨r, h1, h2⟩ | ⟨s', h1, h2, h3⟩
   ·rw [h1]; exact ⟨r, rfl, h2⟩
   ·omega
  | succ n ih =>
   intro s hn hs
   rw [loopX_eq]
   rcases h s hs with ⟨r, h1, h2⟩ | ⟨s', h1, h2, h3⟩
   ·rw [h1]; exact ⟨r, rfl, h2⟩
   ·rw [h1]; exact ih s' (by omega) h2
 exact key (m s) s (Nat.le_refl _) hs
theorem loop_detE {σ ρ : Type} {f : σ → Option (σ ⊕ ρ)} {s0 : σ} (n : Nat) (st : Nat → σ) (r : ρ) (h0 : s0 = st 0) (hend : f (st n) = some (.inr r)) (hstep : ∀ i, i < n → f (st i) = some (.inl (st (i + 1)))) : loopX f s0 = some r := by
 rw [h0]; exact loop_seq st r n hend hstep
def aK (l : List AK) (i : Nat) : AK := l.getD i (0, (0, (⟨#[]⟩, (0, 0))))
theorem at_aK {l : List AK} {i : Nat} (h : i < l.length) : l[i]? = some (aK l i) := by
 unfold aK
 rw [List.getD_eq_getElem?_getD, List.getElem?_eq_getElem h]; rfl
theorem inv0 {c : Int × Int} (hc : capsB c = true) : InvB c (0, (0, [])) := by
 unfold capsB at hc
 simp only [Bool.and_eq_true, decide_eq_true_eq] at hc
 exact ⟨rfl, ⟨by decide, fun i hi => by simp at hi⟩, by decide, by decide, fun t ht => by simp at ht, by show ((0 : Nat) : Int) ≤ c.1; omega⟩
theorem not_lt_self (n : Nat) : ¬ ((n : Nat) : Int) < ((n : Nat) : Int) := by omega
theorem w1 {i : Nat} (h : i ≤ 9223372036854775806) : IntKind.wrap .i64 ((i : Int) + 1) = ((i + 1 : Nat) : Int) := by rw [wi (by omega) (by omega)]; omega
theorem F11_look {c : Int × Int} {b : BK} {k : Int} {r : BK × Int} (h : Step c b k r) {i : Nat} (hi : i < b.2.2.length) : ∃ n, F11 (((r.1).1, ((r.1).2.1, (r.1).2.2)), (ta b.2.2 i).1) = some (n, 0) ∧ Turn b.2.1 (ta b.2.2 i) n := by
 obtain ⟨n, hm, ht⟩ := h.look i hi
 obtain ⟨j, hj, rfl⟩ := mem_ta hm
 have hs := srt_of h.inv.bk
 obtain ⟨l1, l2⟩ := look hs hj
 refine ⟨_, ?_, ht⟩
 have := F11_ok (b := r.1) (nm := (ta b.2.2 i).1) h.inv.sz
 rw [h.inv.bk, if_pos rfl, ← ht.nm, l2, if_pos rfl, l1] at this
 rw [← ht.nm]
 exact this
theorem F8_ok {c : Int × Int} {l : List AK} (hl : l.length ≤ maxLen) (hn : ∀ v ∈ l, v.2.2.1.size ≤ maxLen) (h14 : F14 () = some true) : F8 ((c.1, c.2), l) = some true := by
 rw [F8_eq]
 have h12 : F12 (c.1, c.2) = _ := F12_ok c
 cases hc : capsB c
 ·simp -implicitDefEqProofs only [h12, hc, h14, eq_self, xs]
 simp -implicitDefEqProofs only [h12, hc, eq_self, xs]
 have key : ∀ x : Option Bool, (∃ r, x = some r ∧ r = true) → x = some true := by
  rintro x ⟨r, h1, rfl⟩; exact h1
 refine key _ (loop_ex (s := ((0 : Int), ((0 : Int), ((0 : Int), ([] : List TK))))) (fun s : Int × BK => ∃ i : Nat, s.1 = i ∧ i ≤ l.length ∧ i ≤ 60 ∧ InvB c s.2) (fun s => 60 - s.1.toNat) (fun r : Bool => r = true) ?_ ⟨0, rfl, Nat.zero_le _, Nat.zero_le _, inv0 hc⟩)
 rintro ⟨_, b⟩ ⟨i, rfl, hil, hi60, hi⟩
 simp only at hi
 by_cases hlt : i < l.length
 case neg =>
  left
  have q1 : ¬ ((i : Nat) : Int) < ((l.length : Nat) : Int) := by omega
  simp -implicitDefEqProofs only [q1, h14, eq_self, xs]
  exact ⟨_, rfl, rfl⟩
 have q1 : ((i : Nat) : Int) < ((l.length : Nat) : Int) := by omega
 by_cases h60 : i < 60
 case neg =>
  left
  have q2 : ¬ ((i : Nat) : Int) < 60 := by omega
  simp -implicitDefEqProofs only [q1, q2, h14, eq_self, xs]
  exact ⟨_, rfl, rfl⟩
 right
 have q2 : ((i : Nat) : Int) < 60 := by omega
 have q3 : (0 : Int) ≤ (i : Int) := by omega
 have hnm : (aK l i).2.2.1.size ≤ maxLen := by
  refine hn _ ?_
  have e : l[i] = aK l i := by have := at_aK hlt; rw [List.getElem?_eq_getElem hlt] at this; exact Option.some.inj this
  rw [← e]; exact List.getElem_mem hlt
 obtain ⟨r, h24, hst⟩ := F24_ok hi hc hnm
 obtain ⟨a', g', L', e, rfl⟩ : ∃ (a' g' : Int) (L' : List TK) (e : Int), r = ((a', (g', L')), e) := ⟨_, _, _, _, rfl⟩
 have h26 : F26 (a', (g', L')) = some 0 := F26_t (b := (a', (g', L'))) hst.inv.sz hst.inv.bk
 have h25 : F25 (a', (g', L')) = some (opnL L') := by
  have := F25_ok (b := (a', (g', L'))) hst.inv.sz
  rw [hst.inv.bk, if_pos rfl] at this; exact this
 have k1 : ¬ (a' < b.1) := Int.not_lt.2 hst.e1
 have k2 : ¬ (g' < b.2.1) := Int.not_lt.2 hst.g1
 have k3 : ¬ (((opnL L').length : Int) > c.1) := by
  rw [opnL_cnt]
  have : (cntO L' : Int) ≤ c.1 := hst.inv.op
  omega
 simp -implicitDefEqProofs only [q1, q2, q3, at_aK hlt, h24, h26, h25, nz0, k1, k2, k3, eq_self, xs]
 have hL' : L'.length ≤ 100 := len_of hst.inv.bk
 have hL : b.2.2.length ≤ 100 := len_of hi.bk
 have look : ∀ j, j < b.2.2.length → ∃ n, F11 ((a', (g', L')), (ta b.2.2 j).1) = some (n, 0) ∧ Turn b.2.1 (ta b.2.2 j) n := fun j hj => F11_look hst hj
 have tries : ∀ j, j < L'.length → (ta L' j).2.2.2.2.1 ≤ c.2 := fun j hj => hst.inv.tr _ (by show ta L' j ∈ L'; rw [← ta_eq hj]; exact List.getElem_mem hj)
 have hep : IntKind.wrap IntKind.u64 (Int.tmod (aK l i).2.1 8) = epk (aK l i) := rfl
 rw [hep]
 have fin : ∃ s' : Int × BK, (some (Sum.inl (((i + 1 : Nat) : Int), (a', (g', L')))) : Option ((Int × BK) ⊕ Bool)) = some (Sum.inl s') ∧ (∃ i : Nat, s'.1 = i ∧ i ≤ l.length ∧ i ≤ 60 ∧ InvB c s'.2) ∧ 60 - s'.1.toNat < 60 - i :=
  ⟨_, rfl, ⟨i + 1, rfl, by omega, by omega, hst.inv⟩, by simp only [Int.toNat_natCast]; omega⟩
 have loops : ∀ x : Option ((Int × BK) ⊕ Bool), x = some (Sum.inl (((i + 1 : Nat) : Int), (a', (g', L')))) → ∃ s' : Int × BK, x = some (Sum.inl s') ∧ (∃ i : Nat, s'.1 = i ∧ i ≤ l.length ∧ i ≤ 60 ∧ InvB c s'.2) ∧ 60 - s'.1.toNat < 60 - i := by
  rintro x rfl; exact fin
 refine loops _ ?_
 by_cases he : e = 0
 case pos =>
  subst he
  have hep2 : a' = epk (aK l i) := hst.ep rfl
  have z1 : ((0 : Int) == 0) = true := rfl
  simp -implicitDefEqProofs only [nz0, z1, ← hep2, bne_self_eq_false, eq_self, xs]
  rw [loop_detE (s0 := (0 : Int)) b.2.2.length (fun i => (i : Int)) (Sum.inl ()) rfl]
  rotate_left
  ·simp -implicitDefEqProofs only [not_lt_self, eq_self, xs]
  ·intro j hj
   have p1 : ((j : Nat) : Int) < ((b.2.2.length : Nat) : Int) := by omega
   have p2 : (0 : Int) ≤ (j : Int) := by omega
   obtain ⟨n, h11, ht⟩ := look j hj
   have t1 : ¬ (n.2.2.2.1 < (ta b.2.2 j).2.2.2.1) := Int.not_lt.2 ht.tk
   have t2 : ¬ (n.2.2.2.2.1 < (ta b.2.2 j).2.2.2.2.1) := Int.not_lt.2 ht.tr
   have t3 : (n.2.2.1 != (ta b.2.2 j).2.2.1) = false := by rw [ht.pr]; exact bne_self_eq_false _
   by_cases hs1 : (ta b.2.2 j).2.1 > 1
   ·have hnw := ht.fin hs1
    subst hnw
    simp -implicitDefEqProofs only [p1, p2, at_ta hj, h11, nz0, Int.lt_irrefl, bne_self_eq_false, hs1, beq_self_eq_true, w1 (show j ≤ 9223372036854775806 by omega), eq_self, xs]
   ·by_cases ht4 : n.2.2.2.1 = (ta b.2.2 j).2.2.2.1
    ·have t4 : (n.2.2.2.1 != (ta b.2.2 j).2.2.2.1) = false := by rw [ht4]; exact bne_self_eq_false _
     simp -implicitDefEqProofs only [p1, p2, at_ta hj, h11, nz0, t1, t2, t3, hs1, t4, w1 (show j ≤ 9223372036854775806 by omega), eq_self, xs]
    ·have t4 : (n.2.2.2.1 != (ta b.2.2 j).2.2.2.1) = true := by rw [bne_iff_ne]; exact ht4
     obtain ⟨n1, n2, n3⟩ := ht.new ht4
     have t5 : ¬ (n.2.2.2.1 ≤ b.2.1) := Int.not_le.2 n1
     have t6 : (n.2.1 != 1) = false := by rw [n2]; rfl
     have t7 : ((ta b.2.2 j).2.1 != 0) = false := by rw [n3]; rfl
     simp -implicitDefEqProofs only [p1, p2, at_ta hj, h11, nz0, t1, t2, t3, hs1, t4, t5, t6, t7, w1 (show j ≤ 9223372036854775806 by omega), eq_self, xs]
  simp -implicitDefEqProofs only [eq_self, xs]
  rw [loop_detE (s0 := (0 : Int)) L'.length (fun i => (i : Int)) (Sum.inl ()) rfl]
  rotate_left
  ·simp -implicitDefEqProofs only [not_lt_self, eq_self, xs]
  ·intro j hj
   have p1 : ((j : Nat) : Int) < ((L'.length : Nat) : Int) := by omega
   have p2 : (0 : Int) ≤ (j : Int) := by omega
   have t1 : ¬ ((ta L' j).2.2.2.2.1 > c.2) := Int.not_lt.2 (tries j hj)
   simp -implicitDefEqProofs only [p1, p2, at_ta hj, t1, w1 (show j ≤ 9223372036854775806 by omega), eq_self, xs]
  simp -implicitDefEqProofs only [w1 (show i ≤ 9223372036854775806 by omega), eq_self, xs]
 case neg =>
  have z1 : (e == 0) = false := by rw [beq_eq_false_iff_ne]; exact he
  have z2 : (e != 0) = true := by rw [bne_iff_ne]; exact he
  have hsame : (a', (g', L')) = b := hst.bad he
  have h15 : F15 ((a', (g', L')), (b.1, (b.2.1, b.2.2))) = some true := by rw [hsame]; exact F15_refl b (by omega)
  by_cases hlt8 : epk (aK l i) < b.1
  case pos =>
   have h8 : e = 8 := hst.st he hlt8
   have z3 : (e != 8) = false := by rw [h8]; rfl
   simp -implicitDefEqProofs only [z1, z2, z3, h15, hlt8, eq_self, xs]
   rw [loop_detE (s0 := (0 : Int)) b.2.2.length (fun i => (i : Int)) (Sum.inl ()) rfl]
   rotate_left
   ·simp -implicitDefEqProofs only [not_lt_self, eq_self, xs]
   ·intro j hj
    have p1 : ((j : Nat) : Int) < ((b.2.2.length : Nat) : Int) := by omega
    have p2 : (0 : Int) ≤ (j : Int) := by omega
    obtain ⟨n, h11, ht⟩ := look j hj
    have t1 : ¬ (n.2.2.2.1 < (ta b.2.2 j).2.2.2.1) := Int.not_lt.2 ht.tk
    have t2 : ¬ (n.2.2.2.2.1 < (ta b.2.2 j).2.2.2.2.1) := Int.not_lt.2 ht.tr
    have t3 : (n.2.2.1 != (ta b.2.2 j).2.2.1) = false := by rw [ht.pr]; exact bne_self_eq_false _
    by_cases hs1 : (ta b.2.2 j).2.1 > 1
    ·have hnw := ht.fin hs1
     subst hnw
     simp -implicitDefEqProofs only [p1, p2, at_ta hj, h11, nz0, Int.lt_irrefl, bne_self_eq_false, hs1, beq_self_eq_true, w1 (show j ≤ 9223372036854775806 by omega), eq_self, xs]
    ·by_cases ht4 : n.2.2.2.1 = (ta b.2.2 j).2.2.2.1
     ·have t4 : (n.2.2.2.1 != (ta b.2.2 j).2.2.2.1) = false := by rw [ht4]; exact bne_self_eq_false _
      simp -implicitDefEqProofs only [p1, p2, at_ta hj, h11, nz0, t1, t2, t3, hs1, t4, w1 (show j ≤ 9223372036854775806 by omega), eq_self, xs]
     ·have t4 : (n.2.2.2.1 != (ta b.2.2 j).2.2.2.1) = true := by rw [bne_iff_ne]; exact ht4
      obtain ⟨n1, n2, n3⟩ := ht.new ht4
      have t5 : ¬ (n.2.2.2.1 ≤ b.2.1) := Int.not_le.2 n1
      have t6 : (n.2.1 != 1) = false := by rw [n2]; rfl
      have t7 : ((ta b.2.2 j).2.1 != 0) = false := by rw [n3]; rfl
      simp -implicitDefEqProofs only [p1, p2, at_ta hj, h11, nz0, t1, t2, t3, hs1, t4, t5, t6, t7, w1 (show j ≤ 9223372036854775806 by omega), eq_self, xs]
   simp -implicitDefEqProofs only [eq_self, xs]
   rw [loop_detE (s0 := (0 : Int)) L'.length (fun i => (i : Int)) (Sum.inl ()) rfl]
   rotate_left
   ·simp -implicitDefEqProofs only [not_lt_self, eq_self, xs]
   ·intro j hj
    have p1 : ((j : Nat) : Int) < ((L'.length : Nat) : Int) := by omega
    have p2 : (0 : Int) ≤ (j : Int) := by omega
    have t1 : ¬ ((ta L' j).2.2.2.2.1 > c.2) := Int.not_lt.2 (tries j hj)
    simp -implicitDefEqProofs only [p1, p2, at_ta hj, t1, w1 (show j ≤ 9223372036854775806 by omega), eq_self, xs]
   simp -implicitDefEqProofs only [w1 (show i ≤ 9223372036854775806 by omega), eq_self, xs]
  case neg =>
   simp -implicitDefEqProofs only [z1, z2, h15, hlt8, eq_self, xs]
   rw [loop_detE (s0 := (0 : Int)) b.2.2.length (fun i => (i : Int)) (Sum.inl ()) rfl]
   rotate_left
   ·simp -implicitDefEqProofs only [not_lt_self, eq_self, xs]
   ·intro j hj
    have p1 : ((j : Nat) : Int) < ((b.2.2.length : Nat) : Int) := by omega
    have p2 : (0 : Int) ≤ (j : Int) := by omega
    obtain ⟨n, h11, ht⟩ := look j hj
    have t1 : ¬ (n.2.2.2.1 < (ta b.2.2 j).2.2.2.1) := Int.not_lt.2 ht.tk
    have t2 : ¬ (n.2.2.2.2.1 < (ta b.2.2 j).2.2.2.2.1) := Int.not_lt.2 ht.tr
    have t3 : (n.2.2.1 != (ta b.2.2 j).2.2.1) = false := by rw [ht.pr]; exact bne_self_eq_false _
    by_cases hs1 : (ta b.2.2 j).2.1 > 1
    ·have hnw := ht.fin hs1
     subst hnw
     simp -implicitDefEqProofs only [p1, p2, at_ta hj, h11, nz0, Int.lt_irrefl, bne_self_eq_false, hs1, beq_self_eq_true, w1 (show j ≤ 9223372036854775806 by omega), eq_self, xs]
    ·by_cases ht4 : n.2.2.2.1 = (ta b.2.2 j).2.2.2.1
     ·have t4 : (n.2.2.2.1 != (ta b.2.2 j).2.2.2.1) = false := by rw [ht4]; exact bne_self_eq_false _
      simp -implicitDefEqProofs only [p1, p2, at_ta hj, h11, nz0, t1, t2, t3, hs1, t4, w1 (show j ≤ 9223372036854775806 by omega), eq_self, xs]
     ·have t4 : (n.2.2.2.1 != (ta b.2.2 j).2.2.2.1) = true := by rw [bne_iff_ne]; exact ht4
      obtain ⟨n1, n2, n3⟩ := ht.new ht4
      have t5 : ¬ (n.2.2.2.1 ≤ b.2.1) := Int.not_le.2 n1
      have t6 : (n.2.1 != 1) = false := by rw [n2]; rfl
      have t7 : ((ta b.2.2 j).2.1 != 0) = false := by rw [n3]; rfl
      simp -implicitDefEqProofs only [p1, p2, at_ta hj, h11, nz0, t1, t2, t3, hs1, t4, t5, t6, t7, w1 (show j ≤ 9223372036854775806 by omega), eq_self, xs]
   simp -implicitDefEqProofs only [eq_self, xs]
   rw [loop_detE (s0 := (0 : Int)) L'.length (fun i => (i : Int)) (Sum.inl ()) rfl]
   rotate_left
   ·simp -implicitDefEqProofs only [not_lt_self, eq_self, xs]
   ·intro j hj
    have p1 : ((j : Nat) : Int) < ((L'.length : Nat) : Int) := by omega
    have p2 : (0 : Int) ≤ (j : Int) := by omega
    have t1 : ¬ ((ta L' j).2.2.2.2.1 > c.2) := Int.not_lt.2 (tries j hj)
    simp -implicitDefEqProofs only [p1, p2, at_ta hj, t1, w1 (show j ≤ 9223372036854775806 by omega), eq_self, xs]
   simp -implicitDefEqProofs only [w1 (show i ≤ 9223372036854775806 by omega), eq_self, xs]
end Go.Proofs.Ytoblcfkmggbheaa.VL
end
