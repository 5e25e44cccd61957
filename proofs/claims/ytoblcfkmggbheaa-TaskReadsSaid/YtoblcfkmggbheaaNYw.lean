import Derived.Test.YtoblcfkmggbheaaNTa
import Derived.Test.YtoblcfkmggbheaaNYa
import Derived.Test.YtoblcfkmggbheaaNWc
import Derived.Test.YtoblcfkmggbheaaNXr
import Derived.Laws.RangeString
import Derived.Laws.RangeAny
section
namespace Go.Proofs.Ytoblcfkmggbheaa.VL
open Go
set_option maxRecDepth 100000
set_option linter.unusedSectionVars false
variable [Val]
def zTask : PV := .agg [vs ⟨#[]⟩, vi 0, vi 0, vu 0, vi 0, vi 0, vu 0]
def clones : List (Nat × Nat × Nat × PV) := [(65, 7, 64, zTask)]
theorem clones_ok : CalleeOk Try.prog (cloneOv clones) := cloneOv_ok hm (l := clones) ⟨fi65, trivial⟩
abbrev fz : List Nat := [10, 11, 13, 16, 17, 18, 19, 20, 21, 22, 23, 24, 25, 27, 33, 35, 52]
noncomputable abbrev run0 := runR (cloneOv clones) fz tab 1000 50
theorem awake_run : run0 14 [] = .ok (vb true) := by kernel_rfl
theorem awake_ok : VPure Try.prog 14 [] (vb true) := vpure_runR hm clones_ok fz tab_ok 1000 50 awake_run
def F14 : Unit → Option Bool := fun _ => some true
def pe14 : PE := ⟨14, .no, .v .b, F14⟩
theorem pe14_ok : pe14.ok Try.prog := ⟨rfl, rfl, rfl, rfl, rfl, fun v y h => by cases h; exact awake_ok⟩
end Go.Proofs.Ytoblcfkmggbheaa.VL
end
section
namespace Go.Proofs.Ytoblcfkmggbheaa.VL
open Go
set_option maxRecDepth 100000
set_option linter.unusedVariables false
set_option linter.unusedSectionVars false
variable [Val]
noncomputable section
abbrev tz1 : TT := (.p .s (.p (.i .i64) (.p (.i .i64) (.p (.i .u64) (.p (.i .i64) (.p (.i .i64) (.i .u64)))))))
abbrev tz2 : TT := (.p (.i .u64) (.p (.i .u64) (.sl tz1)))
abbrev xi (n : Nat) (o : IOp) : XO := ⟨⟨some n, o, none⟩, .b, [], []⟩
abbrev xg (n : Nat) (o : IOp) (m : Nat) (b : Bool) : XO := ⟨⟨some n, o, some (m, b)⟩, .b, [], []⟩
abbrev xz (o : IOp) : XO := ⟨⟨none, o, none⟩, .b, [], []⟩
def xf10 : FX := ⟨(.seq (.reg [(xi 1 (.box 0 3 (.t 0))), (xi 2 (.alloc 1 (.agg [(.v (.int .u64 0)), (.v (.int .u64 0)), (.sl true [])])))]) (.seq (.seq (.reg [(xi 3 (.fad 2 (.t 1))), (xi 4 (.load false 1 (.t 3))), (xi 5 (.len (.t 4))), (xi 6 (.bin .gtr (.t 5) (.c (.v (.int .i64 101)))))]) (.cond (.t 6) (.reg [(xi 7 (.fad 2 (.t 1))), (xi 8 (.load false 1 (.t 7))), (xi 9 (.slc 7 (.t 8) none (some (.c (.v (.int .i64 101)))) none)), (xi 10 (.fad 2 (.t 1))), (xz (.store 1 (.t 10) (.t 9)))]) .skip)) (.seq (.reg [(xi 11 (.load true 3 (.t 1))), (xz (.store 3 (.t 2) (.t 11)))]) .ret))), [1, 2], 12, [.c 2 27 true 3], 3⟩
theorem xf10_ok : xf10.ok Try.prog 10 := ⟨_, _, Try.func10, rfl, by kernel_rfl, rfl, by kernel_rfl, rfl, by kernel_rfl, by kernel_rfl⟩
def tb10 : List PE := []
theorem tb10_ok : PEsOk Try.prog tb10 := trivial
def ex10 : List EX := []
theorem ex10_ok : EXsOk Try.prog ex10 := trivial
def in10 : List IN := []
theorem in10_ok : INsOk Try.prog in10 := trivial
def F10 : DT ((.co (.v tz2) .no) : Fm).den → Option (DT (.v tz2 : Fm).den) := pureT tb10 ex10 in10 0 xf10 _ _ []
def pe10 : PE := ⟨10, (.co (.v tz2) .no), .v tz2, F10⟩
theorem pe10_ok : pe10.ok Try.prog := pe_of hm tb10_ok ex10_ok in10_ok xf10_ok (by kernel_rfl) (fun _ => rfl)
def xf46 : FX := ⟨(.seq (.reg [(xi 2 (.mov (.c (.v (.bool false)))))]) (.seq (.cut ⟨[2, 4, 5, 6, 7, 8, 9, 10, 11, 12, 13, 14, 15, 16, 17, 18, 19, 20, 21, 22, 23, 24, 25, 26, 27, 28], [0], ⟨[], [], []⟩⟩ (.seq (.reg [(xi 5 (.mov (.t 0))), (xi 6 (.rngS 0 (.t 5)))]) (.blk 0 (.loop ⟨[2, 4, 7, 8, 9, 10, 11, 12, 13, 14, 15, 16, 17, 18, 19, 20, 21, 22, 23, 24, 25, 26, 27, 28], [0], ⟨[], [], [⟨0, .iter, true⟩]⟩⟩ (.seq (.reg [(xi 7 (.nxtS (.t 6))), (xi 8 (.ext (.t 7) 0))]) (.seq (.cond (.t 8) .skip (.exit 0)) (.blk 1 (.seq (.reg [(xi 9 (.ext (.t 7) 2)), (xi 4 (.mov (.t 9)))]) (.seq (.cutN ⟨[10, 11, 12, 13, 14, 15, 16, 17, 18, 19, 20, 21, 22, 23, 24, 25, 26, 27, 28], [], ⟨[], [(28, .v .b)], []⟩⟩ (.reg [(xi 10 (.mov (.t 4))), (xi 11 (.bin .geq (.t 10) (.c (.v (.int .i32 97))))), (xi 12 (.mov (.t 11))), (xg 13 (.mov (.t 4)) 12 true), (xg 14 (.bin .leq (.t 13) (.c (.v (.int .i32 122)))) 12 true), (xi 15 (.pick (.t 12) (.t 14) (.c (.v (.bool false))))), (xi 16 (.mov (.t 15))), (xg 17 (.mov (.t 4)) 16 false), (xg 18 (.bin .geq (.t 17) (.c (.v (.int .i32 48)))) 16 false), (xg 19 (.mov (.t 18)) 16 false), (xg 20 (.mov (.t 4)) 19 true), (xg 21 (.bin .leq (.t 20) (.c (.v (.int .i32 57)))) 19 true), (xg 22 (.pick (.t 19) (.t 21) (.c (.v (.bool false)))) 16 false), (xi 23 (.pick (.t 16) (.c (.v (.bool true))) (.t 22))), (xi 24 (.mov (.t 23))), (xg 25 (.mov (.t 4)) 24 false), (xg 26 (.bin .eql (.t 25) (.c (.v (.int .i32 45)))) 24 false), (xi 27 (.pick (.t 24) (.c (.v (.bool true))) (.t 26))), (xi 28 (.un .not (.t 27)))])) (.cond (.t 28) (.seq (.reg [(xi 2 (.mov (.c (.v (.bool false)))))]) .ret) .skip)))))))))) (.seq (.reg [(xi 29 (.mov (.t 0))), ⟨⟨(some 30), (.bin .neq (.t 29) (.c (.v (.string ⟨#[]⟩)))), none⟩, .b, [], []⟩, (xi 31 (.mov (.t 30))), (xg 32 (.mov (.t 0)) 31 true), (xg 33 (.lenS (.t 32)) 31 true), (xg 34 (.bin .leq (.t 33) (.c (.v (.int .i64 20)))) 31 true), (xi 35 (.pick (.t 31) (.t 34) (.c (.v (.bool false))))), (xi 2 (.mov (.t 35)))]) .ret))), [6], 36, [.t 2], 2⟩
theorem xf46_ok : xf46.ok Try.prog 46 := ⟨_, _, Try.func46, rfl, by kernel_rfl, rfl, by kernel_rfl, rfl, by kernel_rfl, by kernel_rfl⟩
def tb46 : List PE := []
theorem tb46_ok : PEsOk Try.prog tb46 := trivial
def ex46 : List EX := []
theorem ex46_ok : EXsOk Try.prog ex46 := trivial
def in46 : List IN := []
theorem in46_ok : INsOk Try.prog in46 := trivial
def F46 : DT ((.co (.v .s) .no) : Fm).den → Option (DT (.v .b : Fm).den) := pureT tb46 ex46 in46 0 xf46 _ _ []
def pe46 : PE := ⟨46, (.co (.v .s) .no), .v .b, F46⟩
theorem pe46_ok : pe46.ok Try.prog := pe_of hm tb46_ok ex46_ok in46_ok xf46_ok (by kernel_rfl) (fun _ => rfl)
def xf47 : FX := ⟨(.seq (.reg [(xi 6 (.mov (.c (.v (.bool false)))))]) (.seq (.reg [(xi 7 (.mov (.t 0))), (xi 8 (.mov (.t 1))), (xi 9 (.bin .geq (.t 7) (.t 8))), (xi 10 (.mov (.t 9))), (xg 11 (.mov (.t 0)) 10 true), (xg 12 (.mov (.t 2)) 10 true), (xg 13 (.bin .leq (.t 11) (.t 12)) 10 true), (xi 14 (.pick (.t 10) (.t 13) (.c (.v (.bool false))))), (xi 6 (.mov (.t 14)))]) .ret)), [], 15, [.t 6], 1⟩
theorem xf47_ok : xf47.ok Try.prog 47 := ⟨_, _, Try.func47, rfl, by kernel_rfl, rfl, by kernel_rfl, rfl, by kernel_rfl, by kernel_rfl⟩
def tb47 : List PE := []
theorem tb47_ok : PEsOk Try.prog tb47 := trivial
def ex47 : List EX := []
theorem ex47_ok : EXsOk Try.prog ex47 := trivial
def in47 : List IN := []
theorem in47_ok : INsOk Try.prog in47 := trivial
def F47 : DT ((.co (.v (.i .i64)) (.co (.v (.i .i64)) (.co (.v (.i .i64)) .no))) : Fm).den → Option (DT (.v .b : Fm).den) := pureT tb47 ex47 in47 0 xf47 _ _ []
def pe47 : PE := ⟨47, (.co (.v (.i .i64)) (.co (.v (.i .i64)) (.co (.v (.i .i64)) .no))), .v .b, F47⟩
theorem pe47_ok : pe47.ok Try.prog := pe_of hm tb47_ok ex47_ok in47_ok xf47_ok (by kernel_rfl) (fun _ => rfl)
def xf54 : FX := ⟨(.seq (.reg [(xi 2 (.mov (.c (.v (.bool false)))))]) (.seq (.reg [(xi 3 (.mov (.t 0))), (xi 4 (.call 0 47 [(.t 3), (.c (.v (.int .i64 0))), (.c (.v (.int .i64 63)))])), (xi 2 (.mov (.t 4)))]) .ret)), [4], 5, [.t 2], 2⟩
theorem xf54_ok : xf54.ok Try.prog 54 := ⟨_, _, Try.func54, rfl, by kernel_rfl, rfl, by kernel_rfl, rfl, by kernel_rfl, by kernel_rfl⟩
def tb54 : List PE := [pe47]
theorem tb54_ok : PEsOk Try.prog tb54 := ⟨pe47_ok, trivial⟩
def ex54 : List EX := []
theorem ex54_ok : EXsOk Try.prog ex54 := trivial
def in54 : List IN := []
theorem in54_ok : INsOk Try.prog in54 := trivial
def F54 : DT ((.co (.v (.i .i64)) .no) : Fm).den → Option (DT (.v .b : Fm).den) := pureT tb54 ex54 in54 0 xf54 _ _ []
def pe54 : PE := ⟨54, (.co (.v (.i .i64)) .no), .v .b, F54⟩
theorem pe54_ok : pe54.ok Try.prog := pe_of hm tb54_ok ex54_ok in54_ok xf54_ok (by kernel_rfl) (fun _ => rfl)
def xf57 : FX := ⟨(.seq (.reg [(xi 2 (.box 0 7 (.t 0))), (xi 4 (.mov (.c (.v (.bool false)))))]) (.seq (.cutN ⟨[5, 6, 7, 8, 9, 10, 11, 12, 13], [], ⟨[], [(5, .v .b)], []⟩⟩ (.reg [(xi 6 (.fad 5 (.t 2))), (xi 7 (.load false 1 (.t 6))), (xi 8 (.bin .eql (.t 7) (.c (.v (.int .i64 (-1)))))), (xi 9 (.mov (.t 8))), (xg 10 (.fad 6 (.t 2)) 9 true), (xg 11 (.load false 1 (.t 10)) 9 true), (xg 12 (.bin .eql (.t 11) (.c (.v (.int .u64 0)))) 9 true), (xi 13 (.pick (.t 9) (.t 12) (.c (.v (.bool false))))), (xi 5 (.mov (.t 13)))])) (.seq (.cutN ⟨[5, 14, 15, 16, 17, 18, 19, 20, 21, 22, 23, 24], [], ⟨[], [(5, .v .b)], []⟩⟩ (.seq (.reg [(xi 14 (.fad 1 (.t 2))), (xi 15 (.load false 1 (.t 14))), (xi 16 (.bin .eql (.t 15) (.c (.v (.int .i64 1)))))]) (.cond (.t 16) (.reg [(xi 17 (.fad 5 (.t 2))), (xi 18 (.load false 1 (.t 17))), (xi 19 (.call 1 54 [(.t 18)])), (xi 20 (.mov (.t 19))), (xg 21 (.fad 3 (.t 2)) 20 true), (xg 22 (.load false 1 (.t 21)) 20 true), (xg 23 (.bin .gtr (.t 22) (.c (.v (.int .u64 0)))) 20 true), (xi 24 (.pick (.t 20) (.t 23) (.c (.v (.bool false))))), (xi 5 (.mov (.t 24)))]) .skip))) (.seq (.reg [(xi 25 (.fad 0 (.t 2))), (xi 26 (.load false 1 (.t 25))), (xi 27 (.call 2 46 [(.t 26)])), (xi 28 (.un .not (.t 27))), (xi 29 (.mov (.t 28))), (xg 30 (.fad 1 (.t 2)) 29 false), (xg 31 (.load false 1 (.t 30)) 29 false), (xg 32 (.call 3 47 [(.t 31), (.c (.v (.int .i64 0))), (.c (.v (.int .i64 4)))]) 29 false), (xg 33 (.un .not (.t 32)) 29 false), (xi 34 (.pick (.t 29) (.c (.v (.bool true))) (.t 33))), (xi 35 (.mov (.t 34))), (xg 36 (.fad 2 (.t 2)) 35 false), (xg 37 (.load false 1 (.t 36)) 35 false), (xg 38 (.call 4 47 [(.t 37), (.c (.v (.int .i64 0))), (.c (.v (.int .i64 9)))]) 35 false), (xg 39 (.un .not (.t 38)) 35 false), (xi 40 (.pick (.t 35) (.c (.v (.bool true))) (.t 39))), (xi 41 (.mov (.t 40))), (xg 42 (.fad 3 (.t 2)) 41 false), (xg 43 (.load false 1 (.t 42)) 41 false), (xg 44 (.mov (.t 1)) 41 false), (xg 45 (.bin .gtr (.t 43) (.t 44)) 41 false), (xi 46 (.pick (.t 41) (.c (.v (.bool true))) (.t 45))), (xi 47 (.mov (.t 46))), (xg 48 (.fad 3 (.t 2)) 47 false), (xg 49 (.load false 1 (.t 48)) 47 false), (xg 50 (.bin .eql (.t 49) (.c (.v (.int .u64 0)))) 47 false), (xg 51 (.fad 4 (.t 2)) 47 false), (xg 52 (.load false 1 (.t 51)) 47 false), (xg 53 (.bin .eql (.t 52) (.c (.v (.int .i64 0)))) 47 false), (xg 54 (.binB true (.t 50) (.t 53)) 47 false), (xi 55 (.pick (.t 47) (.c (.v (.bool true))) (.t 54))), (xi 56 (.mov (.t 55))), (xg 57 (.fad 4 (.t 2)) 56 false), (xg 58 (.load false 1 (.t 57)) 56 false), (xg 59 (.call 5 47 [(.t 58), (.c (.v (.int .i64 0))), (.c (.v (.int .i64 100)))]) 56 false), (xg 60 (.un .not (.t 59)) 56 false), (xi 61 (.pick (.t 56) (.c (.v (.bool true))) (.t 60))), (xi 62 (.mov (.t 61))), (xg 63 (.mov (.t 5)) 62 false), (xg 64 (.un .not (.t 63)) 62 false), (xi 65 (.pick (.t 62) (.c (.v (.bool true))) (.t 64))), (xi 4 (.mov (.t 65)))]) .ret)))), [2, 19, 27, 32, 38, 59], 66, [.t 4], 7⟩
theorem xf57_ok : xf57.ok Try.prog 57 := ⟨_, _, Try.func57, rfl, by kernel_rfl, rfl, by kernel_rfl, rfl, by kernel_rfl, by kernel_rfl⟩
def tb57 : List PE := [pe46, pe47, pe54]
theorem tb57_ok : PEsOk Try.prog tb57 := ⟨pe46_ok, pe47_ok, pe54_ok, trivial⟩
def ex57 : List EX := []
theorem ex57_ok : EXsOk Try.prog ex57 := trivial
def in57 : List IN := []
theorem in57_ok : INsOk Try.prog in57 := trivial
def F57 : DT ((.co (.v tz1) (.co (.v (.i .u64)) .no)) : Fm).den → Option (DT (.v .b : Fm).den) := pureT tb57 ex57 in57 0 xf57 _ _ []
def pe57 : PE := ⟨57, (.co (.v tz1) (.co (.v (.i .u64)) .no)), .v .b, F57⟩
theorem pe57_ok : pe57.ok Try.prog := pe_of hm tb57_ok ex57_ok in57_ok xf57_ok (by kernel_rfl) (fun _ => rfl)
def xf26 : FX := ⟨(.seq (.reg [(xi 1 (.box 0 3 (.t 0))), (xi 2 (.mov (.c (.v (.int .i64 0)))))]) (.seq (.reg [⟨⟨(some 6), (.mkm 1), none⟩, (.p (.i .u64) .b), [], []⟩, (xi 3 (.mov (.t 6)))]) (.seq (.cut ⟨[2, 4, 5, 7, 8, 9, 10, 11, 12, 13, 14, 15, 16, 17, 18, 19, 20, 21, 22, 23, 24, 25, 26, 27, 28, 29, 30, 31, 32, 33, 34, 35, 36, 37, 38, 39, 40, 41, 42, 43, 44, 45, 46, 47], [1, 2], ⟨[], [], [⟨1, .map (.i .u64) .b, true⟩]⟩⟩ (.seq (.reg [(xi 7 (.fad 2 (.t 1))), (xi 8 (.load false 1 (.t 7))), (xi 9 (.len (.t 8))), (xi 10 (.mov (.c (.v (.int .i64 0)))))]) (.blk 0 (.loop ⟨[2, 4, 5, 10, 11, 12, 13, 14, 15, 16, 17, 18, 19, 20, 21, 22, 23, 24, 25, 26, 27, 28, 29, 30, 31, 32, 33, 34, 35, 36, 37, 38, 39, 40, 41, 42, 43, 44, 45, 46, 47], [1, 2], ⟨[], [(10, .v (.i .i64))], [⟨1, .map (.i .u64) .b, true⟩]⟩⟩ (.seq (.reg [(xi 11 (.bin .lss (.t 10) (.t 9)))]) (.seq (.cond (.t 11) .skip (.exit 0)) (.seq (.cut ⟨[2, 4, 5, 12, 13, 14, 15, 16, 17, 18, 19, 20, 21, 22, 23, 24, 25, 26, 27, 28, 29, 30, 31, 32, 33, 34, 35, 36, 37, 38, 39, 40, 41, 42, 43, 44, 45, 46], [1, 2], ⟨[], [], [⟨1, .map (.i .u64) .b, true⟩]⟩⟩ (.blk 1 (.seq (.reg [(xi 12 (.mov (.t 10))), (xi 13 (.iad 7 (.t 8) (.t 10))), (xi 14 (.load true 7 (.t 13))), ⟨⟨(some 5), (.alloc 2 (.agg [(.v (.string ⟨#[]⟩)), (.v (.int .i64 0)), (.v (.int .i64 0)), (.v (.int .u64 0)), (.v (.int .i64 0)), (.v (.int .i64 0)), (.v (.int .u64 0))])), none⟩, .b, [], []⟩, (xi 4 (.mov (.t 12))), (xz (.store 7 (.t 5) (.t 14)))]) (.seq (.cut ⟨[2, 15, 16, 17, 18, 19, 20, 21, 22, 23, 24, 25, 26, 27, 28, 29, 30, 31, 32, 33, 34, 35, 36, 37, 38, 39, 40], [], ⟨[], [], []⟩⟩ (.seq (.cutN ⟨[15, 16, 17, 18, 19, 20, 21, 22, 23, 24, 25, 26, 27, 28, 29, 30, 31, 32, 33, 34, 35, 36, 37, 38, 39, 40], [], ⟨[], [(40, .v .b)], []⟩⟩ (.dr [] [(xi 15 (.load true 7 (.t 5))), (xi 16 (.fad 1 (.t 1))), (xi 17 (.load false 1 (.t 16))), (xi 18 (.callG 3 57 [(.t 15), (.t 17)])), (xi 19 (.mov (.t 18))), (xg 20 (.mov (.t 4)) 19 false), (xg 21 (.bin .gtr (.t 20) (.c (.v (.int .i64 0)))) 19 false), (xg 22 (.mov (.t 21)) 19 false), (xg 23 (.fad 2 (.t 1)) 22 true), (xg 24 (.load false 1 (.t 23)) 22 true), (xg 25 (.mov (.t 4)) 22 true), (xg 26 (.bin .sub (.t 25) (.c (.v (.int .i64 1)))) 22 true), (xg 27 (.iad 7 (.t 24) (.t 26)) 22 true), (xg 28 (.fad 0 (.t 27)) 22 true), (xg 29 (.load false 1 (.t 28)) 22 true), (xg 30 (.fad 0 (.t 5)) 22 true), (xg 31 (.load false 1 (.t 30)) 22 true), (xg 32 (.bin .geq (.t 29) (.t 31)) 22 true), (xg 33 (.pick (.t 22) (.t 32) (.c (.v (.bool false)))) 19 false), (xi 34 (.pick (.t 19) (.c (.v (.bool true))) (.t 33))), (xi 35 (.mov (.t 34))), (xg 36 (.mov (.t 3)) 35 false), (xg 37 (.fad 3 (.t 5)) 35 false), (xg 38 (.load false 1 (.t 37)) 35 false), (xg 39 (.lkp false .i (.v (.bool false)) (.t 36) (.t 38)) 35 false), (xi 40 (.pick (.t 35) (.c (.v (.bool true))) (.t 39)))])) (.cond (.t 40) (.seq (.reg [(xi 2 (.mov (.c (.v (.int .i64 1)))))]) .ret) .skip))) (.reg [(xi 41 (.mov (.t 3))), (xi 42 (.fad 3 (.t 5))), (xi 43 (.load false 1 (.t 42))), (xi 44 (.fad 3 (.t 5))), (xi 45 (.load false 1 (.t 44))), (xi 46 (.bin .gtr (.t 45) (.c (.v (.int .u64 0))))), (xz (.mup .i (.t 41) (.t 43) (.t 46)))]))))) (.reg [(xi 47 (.bin .add (.t 10) (.c (.v (.int .i64 1))))), (xi 10 (.mov (.t 47)))])))))))) (.seq (.seq (.reg [(xi 48 (.fad 2 (.t 1))), (xi 49 (.load false 1 (.t 48))), (xi 50 (.len (.t 49))), (xi 51 (.bin .gtr (.t 50) (.c (.v (.int .i64 100)))))]) (.cond (.t 51) (.seq (.reg [(xi 2 (.mov (.c (.v (.int .i64 1)))))]) .ret) .skip)) (.seq (.reg [(xi 2 (.mov (.c (.v (.int .i64 0)))))]) .ret))))), [1, 6, 5, 18], 52, [.t 2], 5⟩
theorem xf26_ok : xf26.ok Try.prog 26 := ⟨_, _, Try.func26, rfl, by kernel_rfl, rfl, by kernel_rfl, rfl, by kernel_rfl, by kernel_rfl⟩
def tb26 : List PE := [pe57]
theorem tb26_ok : PEsOk Try.prog tb26 := ⟨pe57_ok, trivial⟩
def ex26 : List EX := []
theorem ex26_ok : EXsOk Try.prog ex26 := trivial
def in26 : List IN := []
theorem in26_ok : INsOk Try.prog in26 := trivial
def F26 : DT ((.co (.v tz2) .no) : Fm).den → Option (DT (.v (.i .i64) : Fm).den) := pureT tb26 ex26 in26 0 xf26 _ _ []
def pe26 : PE := ⟨26, (.co (.v tz2) .no), .v (.i .i64), F26⟩
theorem pe26_ok : pe26.ok Try.prog := pe_of hm tb26_ok ex26_ok in26_ok xf26_ok (by kernel_rfl) (fun _ => rfl)
def xf62 : FX := ⟨(.seq (.reg [(xi 4 (.mov (.c (.v (.int .i64 0)))))]) (.seq (.reg [(xi 7 (.mov (.t 0))), (xi 8 (.call 0 68 [(.t 7)])), (xi 5 (.mov (.t 8)))]) (.seq (.reg [(xi 9 (.mov (.t 1))), (xi 10 (.call 1 68 [(.t 9)])), (xi 6 (.mov (.t 10)))]) (.seq (.seq (.reg [(xi 11 (.mov (.t 5)))]) (.cond (.t 11) (.seq (.seq (.reg [(xi 12 (.mov (.t 6)))]) (.cond (.t 12) (.seq (.reg [(xi 4 (.mov (.c (.v (.int .i64 0)))))]) .ret) .skip)) (.seq (.reg [(xi 4 (.mov (.c (.v (.int .i64 (-1))))))]) .ret)) .skip)) (.seq (.seq (.reg [(xi 13 (.mov (.t 6)))]) (.cond (.t 13) (.seq (.reg [(xi 4 (.mov (.c (.v (.int .i64 1)))))]) .ret) .skip)) (.seq (.seq (.reg [(xi 14 (.mov (.t 0))), (xi 15 (.mov (.t 1))), (xi 16 (.bin .lss (.t 14) (.t 15)))]) (.cond (.t 16) (.seq (.reg [(xi 4 (.mov (.c (.v (.int .i64 (-1))))))]) .ret) .skip)) (.seq (.seq (.reg [(xi 17 (.mov (.t 0))), (xi 18 (.mov (.t 1))), (xi 19 (.bin .gtr (.t 17) (.t 18)))]) (.cond (.t 19) (.seq (.reg [(xi 4 (.mov (.c (.v (.int .i64 1)))))]) .ret) .skip)) (.seq (.reg [(xi 4 (.mov (.c (.v (.int .i64 0)))))]) .ret)))))))), [8, 10], 20, [.t 4], 5⟩
theorem xf62_ok : xf62.ok Try.prog 62 := ⟨_, _, Try.func62, rfl, by kernel_rfl, rfl, by kernel_rfl, rfl, by kernel_rfl, by kernel_rfl⟩
def ff68 : FX := ⟨(.seq (.reg [(xi 2 (.mov (.c (.v (.bool false)))))]) (.seq (.reg [(xi 3 (.mov (.t 0))), (xi 4 (.mov (.t 0))), (xi 5 (.bin .neq (.t 3) (.t 4))), (xi 2 (.mov (.t 5)))]) .ret)), [], 6, [.t 2], 1⟩
theorem ff68_ok : ff68.ok Try.prog 68 := ⟨_, _, Try.func68, rfl, by kernel_rfl, rfl, by kernel_rfl, rfl, by kernel_rfl, by kernel_rfl⟩
def tb62 : List PE := []
theorem tb62_ok : PEsOk Try.prog tb62 := trivial
def ex62 : List EX := []
theorem ex62_ok : EXsOk Try.prog ex62 := trivial
def in62 : List IN := [⟨0, 68, 3, ff68, none⟩, ⟨1, 68, 4, ff68, none⟩]
theorem in62_ok : INsOk Try.prog in62 := ⟨ff68_ok, ff68_ok, trivial⟩
def F62 : DT ((.co (.v .s) (.co (.v .s) .no)) : Fm).den → Option (DT (.v (.i .i64) : Fm).den) := pureT tb62 ex62 in62 9 xf62 _ _ []
def pe62 : PE := ⟨62, (.co (.v .s) (.co (.v .s) .no)), .v (.i .i64), F62⟩
theorem pe62_ok : pe62.ok Try.prog := pe_of hm tb62_ok ex62_ok in62_ok xf62_ok (by kernel_rfl) (fun _ => rfl)
def xf61 : FX := ⟨(.seq (.reg [(xi 2 (.box 0 7 (.t 0))), (xi 4 (.mov (.c (.v (.int .i64 0)))))]) (.seq (.reg [(xi 5 (.fad 0 (.t 2))), (xi 6 (.load false 1 (.t 5))), (xi 7 (.mov (.t 1))), (xi 8 (.call 1 62 [(.t 6), (.t 7)])), (xi 4 (.mov (.t 8)))]) .ret)), [2, 8], 9, [.t 4], 3⟩
theorem xf61_ok : xf61.ok Try.prog 61 := ⟨_, _, Try.func61, rfl, by kernel_rfl, rfl, by kernel_rfl, rfl, by kernel_rfl, by kernel_rfl⟩
def tb61 : List PE := [pe62]
theorem tb61_ok : PEsOk Try.prog tb61 := ⟨pe62_ok, trivial⟩
def ex61 : List EX := []
theorem ex61_ok : EXsOk Try.prog ex61 := trivial
def in61 : List IN := []
theorem in61_ok : INsOk Try.prog in61 := trivial
def F61 : DT ((.co (.v tz1) (.co (.v .s) .no)) : Fm).den → Option (DT (.v (.i .i64) : Fm).den) := pureT tb61 ex61 in61 0 xf61 _ _ []
def pe61 : PE := ⟨61, (.co (.v tz1) (.co (.v .s) .no)), .v (.i .i64), F61⟩
theorem pe61_ok : pe61.ok Try.prog := pe_of hm tb61_ok ex61_ok in61_ok xf61_ok (by kernel_rfl) (fun _ => rfl)
def xf36 : FX := ⟨(.seq (.reg [(xi 2 (.box 0 3 (.t 0))), (xi 4 (.mov (.c (.v (.int .i64 0))))), (xi 5 (.mov (.c (.v (.bool false)))))]) (.seq (.reg [(xi 6 (.fad 2 (.t 2))), (xi 7 (.load false 1 (.t 6))), (xi 8 (.mov (.t 1))), (xi 9 (.call 1 60 [(.t 7), (.t 8), (.c (.clo 61 [] []))])), (xi 10 (.ext (.t 9) 0)), (xi 11 (.ext (.t 9) 1)), (xi 4 (.mov (.t 10))), (xi 5 (.mov (.t 11)))]) .ret)), [2, 9], 12, [.t 4, .t 5], 6⟩
theorem xf36_ok : xf36.ok Try.prog 36 := ⟨_, _, Try.func36, rfl, by kernel_rfl, rfl, by kernel_rfl, rfl, by kernel_rfl, by kernel_rfl⟩
def ff60 : FX := ⟨(.seq (.reg [(xi 6 (.mov (.c (.v (.int .i64 0))))), (xi 7 (.mov (.c (.v (.bool false)))))]) (.seq (.reg [(xi 12 (.mov (.t 0))), (xi 13 (.len (.t 12))), (xi 8 (.mov (.t 13)))]) (.seq (.reg [(xi 14 (.mov (.t 8))), (xi 9 (.mov (.c (.v (.int .i64 0))))), (xi 10 (.mov (.t 14)))]) (.seq (.cutN ⟨[9, 10, 11, 15, 16, 17, 18, 19, 20, 21, 22, 23, 24, 25, 26, 27, 28, 29, 30, 31, 32, 33, 34], [], ⟨[], [(9, .v (.i .i64))], []⟩⟩ (.blk 0 (.loop ⟨[9, 10, 11, 15, 16, 17, 18, 19, 20, 21, 22, 23, 24, 25, 26, 27, 28, 29, 30, 31, 32, 33, 34], [], ⟨[], [(9, .v (.i .i64)), (10, .v (.i .i64))], []⟩⟩ (.seq (.seq (.reg [(xi 15 (.mov (.t 9))), (xi 16 (.mov (.t 10))), (xi 17 (.bin .lss (.t 15) (.t 16)))]) (.cond (.t 17) .skip (.exit 0))) (.blk 1 (.seq (.reg [(xi 18 (.mov (.t 9))), (xi 19 (.mov (.t 10))), (xi 20 (.bin .add (.t 18) (.t 19))), (xi 21 (.conv .u64 (.t 20))), (xi 22 (.bin .shr (.t 21) (.c (.v (.int .u64 1))))), (xi 23 (.conv .i64 (.t 22))), (xi 11 (.mov (.t 23)))]) (.seq (.reg [(xi 24 (.mov (.t 2))), (xi 25 (.mov (.t 0))), (xi 26 (.mov (.t 11))), (xi 27 (.iad 7 (.t 25) (.t 26))), (xi 28 (.load true 7 (.t 27))), (xi 29 (.mov (.t 1))), (xi 30 (.callv 0 (.t 24) [(.t 28), (.t 29)])), (xi 31 (.bin .lss (.t 30) (.c (.v (.int .i64 0)))))]) (.cond (.t 31) (.reg [(xi 32 (.mov (.t 11))), (xi 33 (.bin .add (.t 32) (.c (.v (.int .i64 1))))), (xi 9 (.mov (.t 33)))]) (.reg [(xi 34 (.mov (.t 11))), (xi 10 (.mov (.t 34)))]))))))))) (.seq (.reg [(xi 35 (.mov (.t 9))), (xi 36 (.mov (.t 9))), (xi 37 (.mov (.t 8))), (xi 38 (.bin .lss (.t 36) (.t 37))), (xi 39 (.mov (.t 38))), (xg 40 (.mov (.t 2)) 39 true), (xg 41 (.mov (.t 0)) 39 true), (xg 42 (.mov (.t 9)) 39 true), (xg 43 (.iad 7 (.t 41) (.t 42)) 39 true), (xg 44 (.load true 7 (.t 43)) 39 true), (xg 45 (.mov (.t 1)) 39 true), (xg 46 (.callv 1 (.t 40) [(.t 44), (.t 45)]) 39 true), (xg 47 (.bin .eql (.t 46) (.c (.v (.int .i64 0)))) 39 true), (xi 48 (.pick (.t 39) (.t 47) (.c (.v (.bool false))))), (xi 6 (.mov (.t 35))), (xi 7 (.mov (.t 48)))]) .ret))))), [30, 46], 49, [.t 6, .t 7], 3⟩
theorem ff60_ok : ff60.ok Try.prog 60 := ⟨_, _, Try.func60, rfl, by kernel_rfl, rfl, by kernel_rfl, rfl, by kernel_rfl, by kernel_rfl⟩
def tb36 : List PE := [pe61]
theorem tb36_ok : PEsOk Try.prog tb36 := ⟨pe61_ok, trivial⟩
def ex36 : List EX := []
theorem ex36_ok : EXsOk Try.prog ex36 := trivial
def in36 : List IN := [⟨1, 60, 3, ff60, some ⟨[0, 1, 2, 3, 4, 5, 6, 7, 8, 9, 10, 11, 12, 13, 14, 15, 16, 17, 18, 19, 20, 21, 22, 23, 24, 25, 26, 27, 28, 29, 30, 31, 32, 33, 34, 35, 36, 37, 38, 39, 40, 41, 42, 43, 44, 45, 46, 47, 48], [3, 4, 5], ⟨[], [(6, .v (.i .i64)), (7, .v .b)], []⟩⟩⟩]
theorem in36_ok : INsOk Try.prog in36 := ⟨ff60_ok, trivial⟩
def F36 : DT ((.co (.v tz2) (.co (.v .s) .no)) : Fm).den → Option (DT (.tup (.co (.v (.i .i64)) (.co (.v .b) .no)) : Fm).den) := pureT tb36 ex36 in36 9 xf36 _ _ []
def pe36 : PE := ⟨36, (.co (.v tz2) (.co (.v .s) .no)), .tup (.co (.v (.i .i64)) (.co (.v .b) .no)), F36⟩
theorem pe36_ok : pe36.ok Try.prog := pe_of hm tb36_ok ex36_ok in36_ok xf36_ok (by kernel_rfl) (fun _ => rfl)
def xf11 : FX := ⟨(.seq (.reg [(xi 2 (.box 0 3 (.t 0))), ⟨⟨(some 4), (.alloc 1 (.agg [(.v (.string ⟨#[]⟩)), (.v (.int .i64 0)), (.v (.int .i64 0)), (.v (.int .u64 0)), (.v (.int .i64 0)), (.v (.int .i64 0)), (.v (.int .u64 0))])), none⟩, .b, [], []⟩, (xi 5 (.mov (.c (.v (.int .i64 0)))))]) (.seq (.seq (.reg [(xi 9 (.load true 3 (.t 2))), (xi 10 (.call 2 26 [(.t 9)])), (xi 6 (.mov (.t 10)))]) (.seq (.reg [(xi 11 (.mov (.t 6))), (xi 12 (.bin .neq (.t 11) (.c (.v (.int .i64 0)))))]) (.cond (.t 12) (.seq (.reg [⟨⟨(some 13), (.bld [(.v (.string ⟨#[]⟩)), (.v (.int .i64 0)), (.v (.int .i64 0)), (.v (.int .u64 0)), (.v (.int .i64 0)), (.v (.int .i64 0)), (.v (.int .u64 0))] []), none⟩, .b, [], []⟩, (xi 14 (.mov (.t 6))), (xz (.store 7 (.t 4) (.t 13))), (xi 5 (.mov (.t 14)))]) .ret) .skip))) (.seq (.reg [(xi 16 (.load true 3 (.t 2))), (xi 17 (.mov (.t 1))), (xi 18 (.call 3 36 [(.t 16), (.t 17)])), (xi 15 (.mov (.t 18))), (xi 19 (.ext (.t 15) 0)), (xi 20 (.ext (.t 15) 1)), (xi 7 (.mov (.t 19))), (xi 8 (.mov (.t 20)))]) (.seq (.seq (.reg [(xi 21 (.mov (.t 8))), (xi 22 (.un .not (.t 21)))]) (.cond (.t 22) (.seq (.reg [⟨⟨(some 23), (.bld [(.v (.string ⟨#[]⟩)), (.v (.int .i64 0)), (.v (.int .i64 0)), (.v (.int .u64 0)), (.v (.int .i64 0)), (.v (.int .i64 0)), (.v (.int .u64 0))] []), none⟩, .b, [], []⟩, (xz (.store 7 (.t 4) (.t 23))), (xi 5 (.mov (.c (.v (.int .i64 6)))))]) .ret) .skip)) (.seq (.reg [(xi 24 (.fad 2 (.t 2))), (xi 25 (.load false 1 (.t 24))), (xi 26 (.mov (.t 7))), (xi 27 (.iad 7 (.t 25) (.t 26))), (xi 28 (.load true 7 (.t 27))), (xz (.store 7 (.t 4) (.t 28))), (xi 5 (.mov (.c (.v (.int .i64 0)))))]) .ret))))), [2, 4, 10, 18], 29, [.c 4 32 true 7, .t 5], 5⟩
theorem xf11_ok : xf11.ok Try.prog 11 := ⟨_, _, Try.func11, rfl, by kernel_rfl, rfl, by kernel_rfl, rfl, by kernel_rfl, by kernel_rfl⟩
def tb11 : List PE := [pe26, pe36]
theorem tb11_ok : PEsOk Try.prog tb11 := ⟨pe26_ok, pe36_ok, trivial⟩
def ex11 : List EX := []
theorem ex11_ok : EXsOk Try.prog ex11 := trivial
def in11 : List IN := []
theorem in11_ok : INsOk Try.prog in11 := trivial
def F11 : DT ((.co (.v tz2) (.co (.v .s) .no)) : Fm).den → Option (DT (.tup (.co (.v tz1) (.co (.v (.i .i64)) .no)) : Fm).den) := pureT tb11 ex11 in11 0 xf11 _ _ []
def pe11 : PE := ⟨11, (.co (.v tz2) (.co (.v .s) .no)), .tup (.co (.v tz1) (.co (.v (.i .i64)) .no)), F11⟩
theorem pe11_ok : pe11.ok Try.prog := pe_of hm tb11_ok ex11_ok in11_ok xf11_ok (by kernel_rfl) (fun _ => rfl)
def xf12 : FX := ⟨(.seq (.reg [(xi 1 (.box 0 2 (.t 0))), (xi 2 (.mov (.c (.v (.bool false)))))]) (.seq (.reg [(xi 3 (.fad 0 (.t 1))), (xi 4 (.load false 1 (.t 3))), (xi 5 (.bin .leq (.c (.v (.int .i64 1))) (.t 4))), (xi 6 (.mov (.t 5))), (xg 7 (.fad 0 (.t 1)) 6 true), (xg 8 (.load false 1 (.t 7)) 6 true), (xg 9 (.bin .leq (.t 8) (.c (.v (.int .i64 100)))) 6 true), (xi 10 (.pick (.t 6) (.t 9) (.c (.v (.bool false))))), (xi 11 (.mov (.t 10))), (xg 12 (.fad 1 (.t 1)) 11 true), (xg 13 (.load false 1 (.t 12)) 11 true), (xg 14 (.bin .leq (.c (.v (.int .i64 1))) (.t 13)) 11 true), (xi 15 (.pick (.t 11) (.t 14) (.c (.v (.bool false))))), (xi 16 (.mov (.t 15))), (xg 17 (.fad 1 (.t 1)) 16 true), (xg 18 (.load false 1 (.t 17)) 16 true), (xg 19 (.bin .leq (.t 18) (.c (.v (.int .i64 100)))) 16 true), (xi 20 (.pick (.t 16) (.t 19) (.c (.v (.bool false))))), (xi 2 (.mov (.t 20)))]) .ret)), [1], 21, [.t 2], 2⟩
theorem xf12_ok : xf12.ok Try.prog 12 := ⟨_, _, Try.func12, rfl, by kernel_rfl, rfl, by kernel_rfl, rfl, by kernel_rfl, by kernel_rfl⟩
def tb12 : List PE := []
theorem tb12_ok : PEsOk Try.prog tb12 := trivial
def ex12 : List EX := []
theorem ex12_ok : EXsOk Try.prog ex12 := trivial
def in12 : List IN := []
theorem in12_ok : INsOk Try.prog in12 := trivial
def F12 : DT ((.co (.v (.p (.i .i64) (.i .i64))) .no) : Fm).den → Option (DT (.v .b : Fm).den) := pureT tb12 ex12 in12 0 xf12 _ _ []
def pe12 : PE := ⟨12, (.co (.v (.p (.i .i64) (.i .i64))) .no), .v .b, F12⟩
theorem pe12_ok : pe12.ok Try.prog := pe_of hm tb12_ok ex12_ok in12_ok xf12_ok (by kernel_rfl) (fun _ => rfl)
def xf29 : FX := ⟨(.seq (.reg [(xi 1 (.box 0 2 (.t 0))), (xi 2 (.mov (.c (.v (.int .i64 0)))))]) (.seq (.seq (.cutN ⟨[3, 4, 5, 6, 7, 8, 9, 10, 11, 12], [], ⟨[], [(12, .v .b)], []⟩⟩ (.reg [(xi 3 (.fad 0 (.t 1))), (xi 4 (.load false 1 (.t 3))), (xi 5 (.call 1 47 [(.t 4), (.c (.v (.int .i64 1))), (.c (.v (.int .i64 100)))])), (xi 6 (.un .not (.t 5))), (xi 7 (.mov (.t 6))), (xg 8 (.fad 1 (.t 1)) 7 false), (xg 9 (.load false 1 (.t 8)) 7 false), (xg 10 (.call 2 47 [(.t 9), (.c (.v (.int .i64 1))), (.c (.v (.int .i64 100)))]) 7 false), (xg 11 (.un .not (.t 10)) 7 false), (xi 12 (.pick (.t 7) (.c (.v (.bool true))) (.t 11)))])) (.cond (.t 12) (.seq (.reg [(xi 2 (.mov (.c (.v (.int .i64 1)))))]) .ret) .skip)) (.seq (.reg [(xi 2 (.mov (.c (.v (.int .i64 0)))))]) .ret))), [1, 5, 10], 13, [.t 2], 4⟩
theorem xf29_ok : xf29.ok Try.prog 29 := ⟨_, _, Try.func29, rfl, by kernel_rfl, rfl, by kernel_rfl, rfl, by kernel_rfl, by kernel_rfl⟩
def tb29 : List PE := [pe47]
theorem tb29_ok : PEsOk Try.prog tb29 := ⟨pe47_ok, trivial⟩
def ex29 : List EX := []
theorem ex29_ok : EXsOk Try.prog ex29 := trivial
def in29 : List IN := []
theorem in29_ok : INsOk Try.prog in29 := trivial
def F29 : DT ((.co (.v (.p (.i .i64) (.i .i64))) .no) : Fm).den → Option (DT (.v (.i .i64) : Fm).den) := pureT tb29 ex29 in29 0 xf29 _ _ []
def pe29 : PE := ⟨29, (.co (.v (.p (.i .i64) (.i .i64))) .no), .v (.i .i64), F29⟩
theorem pe29_ok : pe29.ok Try.prog := pe_of hm tb29_ok ex29_ok in29_ok xf29_ok (by kernel_rfl) (fun _ => rfl)
def xf43 : FX := ⟨(.seq (.reg [(xi 1 (.box 0 7 (.t 0))), (xi 2 (.mov (.c (.v (.bool false)))))]) (.seq (.reg [(xi 3 (.fad 1 (.t 1))), (xi 4 (.load false 1 (.t 3))), (xi 5 (.bin .eql (.t 4) (.c (.v (.int .i64 0))))), (xi 6 (.mov (.t 5))), (xg 7 (.fad 1 (.t 1)) 6 false), (xg 8 (.load false 1 (.t 7)) 6 false), (xg 9 (.bin .eql (.t 8) (.c (.v (.int .i64 1)))) 6 false), (xi 10 (.pick (.t 6) (.c (.v (.bool true))) (.t 9))), (xi 2 (.mov (.t 10)))]) .ret)), [1], 11, [.t 2], 2⟩
theorem xf43_ok : xf43.ok Try.prog 43 := ⟨_, _, Try.func43, rfl, by kernel_rfl, rfl, by kernel_rfl, rfl, by kernel_rfl, by kernel_rfl⟩
def tb43 : List PE := []
theorem tb43_ok : PEsOk Try.prog tb43 := trivial
def ex43 : List EX := []
theorem ex43_ok : EXsOk Try.prog ex43 := trivial
def in43 : List IN := []
theorem in43_ok : INsOk Try.prog in43 := trivial
def F43 : DT ((.co (.v tz1) .no) : Fm).den → Option (DT (.v .b : Fm).den) := pureT tb43 ex43 in43 0 xf43 _ _ []
def pe43 : PE := ⟨43, (.co (.v tz1) .no), .v .b, F43⟩
theorem pe43_ok : pe43.ok Try.prog := pe_of hm tb43_ok ex43_ok in43_ok xf43_ok (by kernel_rfl) (fun _ => rfl)
def xf25 : FX := ⟨(.seq (.reg [(xi 1 (.box 0 3 (.t 0))), (xi 2 (.mov (.c (.sl true []))))]) (.seq (.seq (.reg [(xi 6 (.load true 3 (.t 1))), (xi 7 (.call 1 26 [(.t 6)])), (xi 8 (.bin .neq (.t 7) (.c (.v (.int .i64 0)))))]) (.cond (.t 8) (.seq (.reg [(xi 2 (.mov (.c (.sl true []))))]) .ret) .skip)) (.seq (.reg [(xi 3 (.mov (.c (.sl true []))))]) (.seq (.seq (.reg [(xi 9 (.load true 3 (.t 1))), (xi 10 (.call 2 48 [(.t 9), (.c (.clo 43 [] []))])), (xi 11 (.len (.t 10))), (xi 12 (.mov (.c (.v (.int .i64 0)))))]) (.blk 0 (.loop ⟨[3, 5, 12, 13, 14, 15, 16, 17, 18, 19, 20, 21], [3, 4], ⟨[], [(3, .ow 4 1), (12, .v (.i .i64))], [⟨4, .rows .s 1, false⟩]⟩⟩ (.seq (.reg [(xi 13 (.bin .lss (.t 12) (.t 11)))]) (.seq (.cond (.t 13) .skip (.exit 0)) (.seq (.blk 1 (.seq (.reg [(xi 14 (.iad 7 (.t 10) (.t 12))), (xi 15 (.load true 7 (.t 14))), ⟨⟨(some 5), (.alloc 3 (.agg [(.v (.string ⟨#[]⟩)), (.v (.int .i64 0)), (.v (.int .i64 0)), (.v (.int .u64 0)), (.v (.int .i64 0)), (.v (.int .i64 0)), (.v (.int .u64 0))])), none⟩, .b, [], []⟩, (xz (.store 7 (.t 5) (.t 15)))]) (.reg [(xi 16 (.mov (.t 3))), (xi 17 (.fad 0 (.t 5))), (xi 18 (.load false 1 (.t 17))), ⟨⟨(some 19), (.bsl 1 (.v (.string ⟨#[]⟩)) 1 [(0, (.t 18))]), none⟩, .b, [], []⟩, ⟨⟨(some 20), (.app 4 1 16 (.v (.string ⟨#[]⟩)) (.t 16) (.t 19)), none⟩, .s, [], []⟩, (xi 3 (.mov (.t 20)))]))) (.reg [(xi 21 (.bin .add (.t 12) (.c (.v (.int .i64 1))))), (xi 12 (.mov (.t 21)))]))))))) (.seq (.reg [(xi 22 (.mov (.t 3))), (xi 2 (.mov (.t 22)))]) .ret))))), [1, 7, 10, 5, 20], 23, [.t 2], 11⟩
theorem xf25_ok : xf25.ok Try.prog 25 := ⟨_, _, Try.func25, rfl, by kernel_rfl, rfl, by kernel_rfl, rfl, by kernel_rfl, by kernel_rfl⟩
def ff48 : FX := ⟨(.seq (.reg [(xi 2 (.box 0 3 (.t 0))), (xi 4 (.mov (.c (.sl true []))))]) (.seq (.reg [(xi 5 (.mov (.c (.sl true []))))]) (.seq (.seq (.reg [(xi 8 (.fad 2 (.t 2))), (xi 9 (.load false 1 (.t 8))), (xi 10 (.len (.t 9))), (xi 11 (.mov (.c (.v (.int .i64 0)))))]) (.blk 0 (.loop ⟨[5, 7, 11, 12, 13, 14, 15, 16, 17, 18, 19, 20, 21, 22], [7, 9], ⟨[], [(5, .ow 9 7), (11, .v (.i .i64))], [⟨9, .rows tz1 7, false⟩]⟩⟩ (.seq (.reg [(xi 12 (.bin .lss (.t 11) (.t 10)))]) (.seq (.cond (.t 12) .skip (.exit 0)) (.seq (.cutN ⟨[5, 7, 13, 14, 15, 16, 17, 18, 19, 20, 21], [7, 9], ⟨[], [(5, .ow 9 7)], [⟨9, .rows tz1 7, false⟩]⟩⟩ (.blk 1 (.seq (.reg [(xi 13 (.iad 7 (.t 9) (.t 11))), (xi 14 (.load true 7 (.t 13))), ⟨⟨(some 7), (.alloc 1 (.agg [(.v (.string ⟨#[]⟩)), (.v (.int .i64 0)), (.v (.int .i64 0)), (.v (.int .u64 0)), (.v (.int .i64 0)), (.v (.int .i64 0)), (.v (.int .u64 0))])), none⟩, .b, [], []⟩, (xz (.store 7 (.t 7) (.t 14)))]) (.seq (.reg [(xi 15 (.mov (.t 1))), (xi 16 (.load true 7 (.t 7))), (xi 17 (.callv 2 (.t 15) [(.t 16)]))]) (.cond (.t 17) (.reg [(xi 18 (.mov (.t 5))), (xi 19 (.load true 7 (.t 7))), ⟨⟨(some 20), (.bsl 7 (.agg [(.v (.string ⟨#[]⟩)), (.v (.int .i64 0)), (.v (.int .i64 0)), (.v (.int .u64 0)), (.v (.int .i64 0)), (.v (.int .i64 0)), (.v (.int .u64 0))]) 1 [(0, (.t 19))]), none⟩, .b, [], []⟩, ⟨⟨(some 21), (.app 3 7 64 (.agg [(.v (.string ⟨#[]⟩)), (.v (.int .i64 0)), (.v (.int .i64 0)), (.v (.int .u64 0)), (.v (.int .i64 0)), (.v (.int .i64 0)), (.v (.int .u64 0))]) (.t 18) (.t 20)), none⟩, tz1, [], []⟩, (xi 5 (.mov (.t 21)))]) .skip))))) (.reg [(xi 22 (.bin .add (.t 11) (.c (.v (.int .i64 1))))), (xi 11 (.mov (.t 22)))]))))))) (.seq (.reg [(xi 23 (.mov (.t 5))), (xi 4 (.mov (.t 23)))]) .ret)))), [2, 7, 17, 21], 24, [.t 4], 5⟩
theorem ff48_ok : ff48.ok Try.prog 48 := ⟨_, _, Try.func48, rfl, by kernel_rfl, rfl, by kernel_rfl, rfl, by kernel_rfl, by kernel_rfl⟩
def tb25 : List PE := [pe26, pe43]
theorem tb25_ok : PEsOk Try.prog tb25 := ⟨pe26_ok, pe43_ok, trivial⟩
def ex25 : List EX := []
theorem ex25_ok : EXsOk Try.prog ex25 := trivial
def in25 : List IN := [⟨2, 48, 6, ff48, some ⟨[0, 1, 2, 3, 4, 5, 6, 7, 8, 9, 10, 11, 12, 13, 14, 15, 16, 17, 18, 19, 20, 21, 22, 23], [6, 7, 8, 9, 10], ⟨[], [(4, .ow 9 7)], [⟨9, .rows tz1 7, false⟩]⟩⟩⟩]
theorem in25_ok : INsOk Try.prog in25 := ⟨ff48_ok, trivial⟩
def F25 : DT ((.co (.v tz2) .no) : Fm).den → Option (DT (.v (.sl .s) : Fm).den) := pureT tb25 ex25 in25 9 xf25 _ _ [4]
def pe25 : PE := ⟨25, (.co (.v tz2) .no), .v (.sl .s), F25⟩
theorem pe25_ok : pe25.ok Try.prog := pe_of hm tb25_ok ex25_ok in25_ok xf25_ok (by kernel_rfl) (fun _ => rfl)
def xf34 : FX := ⟨(.seq (.reg [(xi 4 (.mov (.c (.v (.bool false)))))]) (.seq (.seq (.reg [(xi 6 (.mov (.t 0))), (xi 7 (.len (.t 6))), (xi 8 (.mov (.t 1))), (xi 9 (.len (.t 8))), (xi 10 (.bin .neq (.t 7) (.t 9)))]) (.cond (.t 10) (.seq (.reg [(xi 4 (.mov (.c (.v (.bool false)))))]) .ret) .skip)) (.seq (.seq (.reg [(xi 5 (.mov (.c (.v (.int .i64 0)))))]) (.blk 0 (.loop ⟨[4, 5, 11, 12, 13, 14, 15, 16, 17, 18, 19, 20, 21, 22, 23, 24, 25], [], ⟨[], [(5, .v (.i .i64))], []⟩⟩ (.seq (.seq (.reg [(xi 11 (.mov (.t 5))), (xi 12 (.mov (.t 0))), (xi 13 (.len (.t 12))), (xi 14 (.bin .lss (.t 11) (.t 13)))]) (.cond (.t 14) .skip (.exit 0))) (.seq (.blk 1 (.seq (.rdr [(xi 17 (.mov (.t 0))), (xi 18 (.mov (.t 5))), (xi 19 (.iad 7 (.t 17) (.t 18))), (xi 20 (.load true 7 (.t 19))), (xi 21 (.mov (.t 1))), (xi 22 (.mov (.t 5))), (xi 23 (.iad 7 (.t 21) (.t 22))), (xi 24 (.load true 7 (.t 23))), (xi 25 (.eqA true 7 [(0, .s), (1, .i), (2, .i), (3, .i), (4, .i), (5, .i), (6, .i)] (.t 20) (.t 24)))]) (.cond (.t 25) (.seq (.reg [(xi 4 (.mov (.c (.v (.bool false)))))]) .ret) .skip))) (.reg [(xi 15 (.mov (.t 5))), (xi 16 (.bin .add (.t 15) (.c (.v (.int .i64 1))))), (xi 5 (.mov (.t 16)))])))))) (.seq (.reg [(xi 4 (.mov (.c (.v (.bool true)))))]) .ret)))), [], 26, [.t 4], 1⟩
theorem xf34_ok : xf34.ok Try.prog 34 := ⟨_, _, Try.func34, rfl, by kernel_rfl, rfl, by kernel_rfl, rfl, by kernel_rfl, by kernel_rfl⟩
def tb34 : List PE := []
theorem tb34_ok : PEsOk Try.prog tb34 := trivial
def ex34 : List EX := []
theorem ex34_ok : EXsOk Try.prog ex34 := trivial
def in34 : List IN := []
theorem in34_ok : INsOk Try.prog in34 := trivial
def F34 : DT ((.co (.v (.sl tz1)) (.co (.v (.sl tz1)) .no)) : Fm).den → Option (DT (.v .b : Fm).den) := pureT tb34 ex34 in34 0 xf34 _ _ []
def pe34 : PE := ⟨34, (.co (.v (.sl tz1)) (.co (.v (.sl tz1)) .no)), .v .b, F34⟩
theorem pe34_ok : pe34.ok Try.prog := pe_of hm tb34_ok ex34_ok in34_ok xf34_ok (by kernel_rfl) (fun _ => rfl)
def xf15 : FX := ⟨(.seq (.reg [(xi 2 (.box 0 3 (.t 0))), (xi 3 (.box 1 3 (.t 1))), (xi 4 (.mov (.c (.v (.bool false)))))]) (.seq (.reg [(xi 5 (.fad 0 (.t 2))), (xi 6 (.load false 1 (.t 5))), (xi 7 (.fad 0 (.t 3))), (xi 8 (.load false 1 (.t 7))), (xi 9 (.bin .eql (.t 6) (.t 8))), (xi 10 (.mov (.t 9))), (xg 11 (.fad 1 (.t 2)) 10 true), (xg 12 (.load false 1 (.t 11)) 10 true), (xg 13 (.fad 1 (.t 3)) 10 true), (xg 14 (.load false 1 (.t 13)) 10 true), (xg 15 (.bin .eql (.t 12) (.t 14)) 10 true), (xi 16 (.pick (.t 10) (.t 15) (.c (.v (.bool false))))), (xi 17 (.mov (.t 16))), (xg 18 (.fad 2 (.t 2)) 17 true), (xg 19 (.load false 1 (.t 18)) 17 true), (xg 20 (.fad 2 (.t 3)) 17 true), (xg 21 (.load false 1 (.t 20)) 17 true), (xg 22 (.call 2 34 [(.t 19), (.t 21)]) 17 true), (xi 23 (.pick (.t 17) (.t 22) (.c (.v (.bool false))))), (xi 4 (.mov (.t 23)))]) .ret)), [2, 3, 22], 24, [.t 4], 4⟩
theorem xf15_ok : xf15.ok Try.prog 15 := ⟨_, _, Try.func15, rfl, by kernel_rfl, rfl, by kernel_rfl, rfl, by kernel_rfl, by kernel_rfl⟩
def tb15 : List PE := [pe34]
theorem tb15_ok : PEsOk Try.prog tb15 := ⟨pe34_ok, trivial⟩
def ex15 : List EX := []
theorem ex15_ok : EXsOk Try.prog ex15 := trivial
def in15 : List IN := []
theorem in15_ok : INsOk Try.prog in15 := trivial
def F15 : DT ((.co (.v tz2) (.co (.v tz2) .no)) : Fm).den → Option (DT (.v .b : Fm).den) := pureT tb15 ex15 in15 0 xf15 _ _ []
def pe15 : PE := ⟨15, (.co (.v tz2) (.co (.v tz2) .no)), .v .b, F15⟩
theorem pe15_ok : pe15.ok Try.prog := pe_of hm tb15_ok ex15_ok in15_ok xf15_ok (by kernel_rfl) (fun _ => rfl)
def xf31 : FX := ⟨(.seq (.reg [(xi 2 (.box 0 3 (.t 0))), (xi 4 (.mov (.c (.v (.int .i64 0)))))]) (.seq (.seq (.reg [(xi 5 (.mov (.c (.v (.int .i64 0)))))]) (.blk 0 (.loop ⟨[4, 5, 6, 7, 8, 9, 10, 11, 12, 13, 14, 15, 16, 17, 18, 19, 20, 21], [], ⟨[], [(5, .v (.i .i64))], []⟩⟩ (.seq (.seq (.reg [(xi 6 (.mov (.t 5))), (xi 7 (.fad 2 (.t 2))), (xi 8 (.load false 1 (.t 7))), (xi 9 (.len (.t 8))), (xi 10 (.bin .lss (.t 6) (.t 9)))]) (.cond (.t 10) .skip (.exit 0))) (.seq (.blk 1 (.seq (.reg [(xi 13 (.fad 2 (.t 2))), (xi 14 (.load false 1 (.t 13))), (xi 15 (.mov (.t 5))), (xi 16 (.iad 7 (.t 14) (.t 15))), (xi 17 (.fad 0 (.t 16))), (xi 18 (.load false 1 (.t 17))), (xi 19 (.mov (.t 1))), (xi 20 (.bin .eql (.t 18) (.t 19)))]) (.cond (.t 20) (.seq (.reg [(xi 21 (.mov (.t 5))), (xi 4 (.mov (.t 21)))]) .ret) .skip))) (.reg [(xi 11 (.mov (.t 5))), (xi 12 (.bin .add (.t 11) (.c (.v (.int .i64 1))))), (xi 5 (.mov (.t 12)))])))))) (.seq (.reg [(xi 4 (.mov (.c (.v (.int .i64 (-1))))))]) .ret))), [2], 22, [.t 4], 2⟩
theorem xf31_ok : xf31.ok Try.prog 31 := ⟨_, _, Try.func31, rfl, by kernel_rfl, rfl, by kernel_rfl, rfl, by kernel_rfl, by kernel_rfl⟩
def tb31 : List PE := []
theorem tb31_ok : PEsOk Try.prog tb31 := trivial
def ex31 : List EX := []
theorem ex31_ok : EXsOk Try.prog ex31 := trivial
def in31 : List IN := []
theorem in31_ok : INsOk Try.prog in31 := trivial
def F31 : DT ((.co (.v tz2) (.co (.v .s) .no)) : Fm).den → Option (DT (.v (.i .i64) : Fm).den) := pureT tb31 ex31 in31 0 xf31 _ _ []
def pe31 : PE := ⟨31, (.co (.v tz2) (.co (.v .s) .no)), .v (.i .i64), F31⟩
theorem pe31_ok : pe31.ok Try.prog := pe_of hm tb31_ok ex31_ok in31_ok xf31_ok (by kernel_rfl) (fun _ => rfl)
def xf33 : FX := ⟨(.seq (.reg [(xi 1 (.box 0 3 (.t 0))), (xi 2 (.mov (.c (.sl true []))))]) (.seq (.reg [(xi 3 (.mov (.c (.sl true []))))]) (.seq (.seq (.reg [(xi 4 (.mov (.c (.v (.int .i64 0)))))]) (.blk 0 (.loop ⟨[3, 4, 5, 6, 7, 8, 9, 10, 11, 12, 13, 14, 15, 16, 17, 18, 19, 20, 21, 22, 23, 24, 25, 26, 27], [1], ⟨[], [(3, .ow 1 1), (4, .v (.i .i64))], [⟨1, .rows .s 1, false⟩]⟩⟩ (.seq (.seq (.reg [(xi 5 (.mov (.t 4))), (xi 6 (.fad 2 (.t 1))), (xi 7 (.load false 1 (.t 6))), (xi 8 (.len (.t 7))), (xi 9 (.bin .lss (.t 5) (.t 8)))]) (.cond (.t 9) .skip (.exit 0))) (.seq (.cutN ⟨[3, 12, 13, 14, 15, 16, 17, 18, 19, 20, 21, 22, 23, 24, 25, 26, 27], [1], ⟨[], [(3, .ow 1 1)], [⟨1, .rows .s 1, false⟩]⟩⟩ (.blk 1 (.seq (.reg [(xi 12 (.fad 2 (.t 1))), (xi 13 (.load false 1 (.t 12))), (xi 14 (.mov (.t 4))), (xi 15 (.iad 7 (.t 13) (.t 14))), (xi 16 (.fad 1 (.t 15))), (xi 17 (.load false 1 (.t 16))), (xi 18 (.bin .lss (.t 17) (.c (.v (.int .i64 2)))))]) (.cond (.t 18) (.reg [(xi 19 (.mov (.t 3))), (xi 20 (.fad 2 (.t 1))), (xi 21 (.load false 1 (.t 20))), (xi 22 (.mov (.t 4))), (xi 23 (.iad 7 (.t 21) (.t 22))), (xi 24 (.fad 0 (.t 23))), (xi 25 (.load false 1 (.t 24))), ⟨⟨(some 26), (.bsl 1 (.v (.string ⟨#[]⟩)) 1 [(0, (.t 25))]), none⟩, .b, [], []⟩, ⟨⟨(some 27), (.app 1 1 16 (.v (.string ⟨#[]⟩)) (.t 19) (.t 26)), none⟩, .s, [], []⟩, (xi 3 (.mov (.t 27)))]) .skip)))) (.reg [(xi 10 (.mov (.t 4))), (xi 11 (.bin .add (.t 10) (.c (.v (.int .i64 1))))), (xi 4 (.mov (.t 11)))])))))) (.seq (.reg [(xi 28 (.mov (.t 3))), (xi 2 (.mov (.t 28)))]) .ret)))), [1, 27], 29, [.t 2], 3⟩
theorem xf33_ok : xf33.ok Try.prog 33 := ⟨_, _, Try.func33, rfl, by kernel_rfl, rfl, by kernel_rfl, rfl, by kernel_rfl, by kernel_rfl⟩
def tb33 : List PE := []
theorem tb33_ok : PEsOk Try.prog tb33 := trivial
def ex33 : List EX := []
theorem ex33_ok : EXsOk Try.prog ex33 := trivial
def in33 : List IN := []
theorem in33_ok : INsOk Try.prog in33 := trivial
def F33 : DT ((.co (.v tz2) .no) : Fm).den → Option (DT (.v (.sl .s) : Fm).den) := pureT tb33 ex33 in33 0 xf33 _ _ [1]
def pe33 : PE := ⟨33, (.co (.v tz2) .no), .v (.sl .s), F33⟩
theorem pe33_ok : pe33.ok Try.prog := pe_of hm tb33_ok ex33_ok in33_ok xf33_ok (by kernel_rfl) (fun _ => rfl)
def xf51 : FX := ⟨(.seq (.reg [(xi 2 (.mov (.c (.v (.bool false)))))]) (.seq (.cut ⟨[2, 3, 4, 5, 6, 7, 8, 9, 10, 11, 12, 13, 14, 15, 16, 17, 18, 19, 20, 21, 22, 23, 24, 25, 26, 27, 28, 29, 30, 31, 32], [], ⟨[], [], []⟩⟩ (.seq (.reg [(xi 3 (.mov (.c (.v (.int .i64 0)))))]) (.blk 0 (.loop ⟨[2, 3, 4, 5, 6, 7, 8, 9, 10, 11, 12, 13, 14, 15, 16, 17, 18, 19, 20, 21, 22, 23, 24, 25, 26, 27, 28, 29, 30, 31, 32], [], ⟨[], [(3, .v (.i .i64))], []⟩⟩ (.seq (.seq (.reg [(xi 5 (.mov (.t 3))), (xi 6 (.mov (.t 0))), (xi 7 (.lenS (.t 6))), (xi 8 (.bin .lss (.t 5) (.t 7)))]) (.cond (.t 8) .skip (.exit 0))) (.seq (.cut ⟨[2, 4, 11, 12, 13, 14, 15, 16, 17, 18, 19, 20, 21, 22, 23, 24, 25, 26, 27, 28, 29, 30, 31, 32], [], ⟨[], [], []⟩⟩ (.blk 1 (.seq (.reg [(xi 11 (.mov (.t 0))), (xi 12 (.mov (.t 3))), (xi 13 (.ixS (.t 11) (.t 12))), (xi 4 (.mov (.t 13)))]) (.seq (.cutN ⟨[14, 15, 16, 17, 18, 19, 20, 21, 22, 23, 24, 25, 26, 27, 28, 29, 30, 31, 32], [], ⟨[], [(32, .v .b)], []⟩⟩ (.reg [(xi 14 (.mov (.t 4))), (xi 15 (.bin .leq (.c (.v (.int .u8 97))) (.t 14))), (xi 16 (.mov (.t 15))), (xg 17 (.mov (.t 4)) 16 true), (xg 18 (.bin .leq (.t 17) (.c (.v (.int .u8 122)))) 16 true), (xi 19 (.pick (.t 16) (.t 18) (.c (.v (.bool false))))), (xi 20 (.mov (.t 19))), (xg 21 (.mov (.t 4)) 20 false), (xg 22 (.bin .leq (.c (.v (.int .u8 48))) (.t 21)) 20 false), (xg 23 (.mov (.t 22)) 20 false), (xg 24 (.mov (.t 4)) 23 true), (xg 25 (.bin .leq (.t 24) (.c (.v (.int .u8 57)))) 23 true), (xg 26 (.pick (.t 23) (.t 25) (.c (.v (.bool false)))) 20 false), (xi 27 (.pick (.t 20) (.c (.v (.bool true))) (.t 26))), (xi 28 (.mov (.t 27))), (xg 29 (.mov (.t 4)) 28 false), (xg 30 (.bin .eql (.t 29) (.c (.v (.int .u8 45)))) 28 false), (xi 31 (.pick (.t 28) (.c (.v (.bool true))) (.t 30))), (xi 32 (.un .not (.t 31)))])) (.cond (.t 32) (.seq (.reg [(xi 2 (.mov (.c (.v (.bool false)))))]) .ret) .skip))))) (.reg [(xi 9 (.mov (.t 3))), (xi 10 (.bin .add (.t 9) (.c (.v (.int .i64 1))))), (xi 3 (.mov (.t 10)))]))))))) (.seq (.reg [(xi 33 (.mov (.t 0))), (xi 34 (.lenS (.t 33))), (xi 35 (.bin .leq (.c (.v (.int .i64 1))) (.t 34))), (xi 36 (.mov (.t 35))), (xg 37 (.mov (.t 0)) 36 true), (xg 38 (.lenS (.t 37)) 36 true), (xg 39 (.bin .leq (.t 38) (.c (.v (.int .i64 20)))) 36 true), (xi 40 (.pick (.t 36) (.t 39) (.c (.v (.bool false))))), (xi 2 (.mov (.t 40)))]) .ret))), [], 41, [.t 2], 1⟩
theorem xf51_ok : xf51.ok Try.prog 51 := ⟨_, _, Try.func51, rfl, by kernel_rfl, rfl, by kernel_rfl, rfl, by kernel_rfl, by kernel_rfl⟩
def tb51 : List PE := []
theorem tb51_ok : PEsOk Try.prog tb51 := trivial
def ex51 : List EX := []
theorem ex51_ok : EXsOk Try.prog ex51 := trivial
def in51 : List IN := []
theorem in51_ok : INsOk Try.prog in51 := trivial
def F51 : DT ((.co (.v .s) .no) : Fm).den → Option (DT (.v .b : Fm).den) := pureT tb51 ex51 in51 0 xf51 _ _ []
def pe51 : PE := ⟨51, (.co (.v .s) .no), .v .b, F51⟩
theorem pe51_ok : pe51.ok Try.prog := pe_of hm tb51_ok ex51_ok in51_ok xf51_ok (by kernel_rfl) (fun _ => rfl)
def xf28 : FX := ⟨(.seq (.reg [(xi 1 (.box 0 3 (.t 0))), (xi 2 (.mov (.c (.v (.bool false)))))]) (.seq (.cut ⟨[2, 3, 4, 5, 6, 7, 8, 9, 10, 11, 12, 13, 14, 15, 16, 17, 18, 19, 20, 21, 22, 23, 24, 25, 26, 27, 28, 29, 30, 31, 32, 33, 34, 35, 36, 37, 38, 39, 40, 41, 42, 43, 44, 45, 46, 47, 48, 49, 50, 51, 52, 53, 54, 55, 56, 57, 58, 59, 60, 61, 62, 63, 64, 65, 66, 67, 68, 69, 70, 71, 72, 73, 74, 75, 76, 77, 78, 79, 80, 81, 82, 83, 84, 85, 86, 87, 88, 89, 90, 91, 92, 93, 94, 95, 96, 97, 98, 99, 100, 101, 102, 103, 104, 105, 106, 107, 108, 109, 110, 111, 112, 113, 114, 115, 116, 117, 118, 119, 120, 121, 122, 123, 124, 125, 126, 127, 128, 129, 130, 131, 132, 133, 134, 135], [1], ⟨[], [], []⟩⟩ (.seq (.reg [(xi 3 (.mov (.c (.v (.int .i64 0)))))]) (.blk 0 (.loop ⟨[2, 3, 4, 5, 6, 7, 8, 9, 10, 11, 12, 13, 14, 15, 16, 17, 18, 19, 20, 21, 22, 23, 24, 25, 26, 27, 28, 29, 30, 31, 32, 33, 34, 35, 36, 37, 38, 39, 40, 41, 42, 43, 44, 45, 46, 47, 48, 49, 50, 51, 52, 53, 54, 55, 56, 57, 58, 59, 60, 61, 62, 63, 64, 65, 66, 67, 68, 69, 70, 71, 72, 73, 74, 75, 76, 77, 78, 79, 80, 81, 82, 83, 84, 85, 86, 87, 88, 89, 90, 91, 92, 93, 94, 95, 96, 97, 98, 99, 100, 101, 102, 103, 104, 105, 106, 107, 108, 109, 110, 111, 112, 113, 114, 115, 116, 117, 118, 119, 120, 121, 122, 123, 124, 125, 126, 127, 128, 129, 130, 131, 132, 133, 134, 135], [1], ⟨[], [(3, .v (.i .i64))], []⟩⟩ (.seq (.seq (.reg [(xi 6 (.mov (.t 3))), (xi 7 (.fad 2 (.t 1))), (xi 8 (.load false 1 (.t 7))), (xi 9 (.len (.t 8))), (xi 10 (.bin .lss (.t 6) (.t 9)))]) (.cond (.t 10) .skip (.exit 0))) (.seq (.cut ⟨[2, 4, 5, 13, 14, 15, 16, 17, 18, 19, 20, 21, 22, 23, 24, 25, 26, 27, 28, 29, 30, 31, 32, 33, 34, 35, 36, 37, 38, 39, 40, 41, 42, 43, 44, 45, 46, 47, 48, 49, 50, 51, 52, 53, 54, 55, 56, 57, 58, 59, 60, 61, 62, 63, 64, 65, 66, 67, 68, 69, 70, 71, 72, 73, 74, 75, 76, 77, 78, 79, 80, 81, 82, 83, 84, 85, 86, 87, 88, 89, 90, 91, 92, 93, 94, 95, 96, 97, 98, 99, 100, 101, 102, 103, 104, 105, 106, 107, 108, 109, 110, 111, 112, 113, 114, 115, 116, 117, 118, 119, 120, 121, 122, 123, 124, 125, 126, 127, 128, 129, 130, 131, 132, 133, 134, 135], [1], ⟨[], [], []⟩⟩ (.blk 1 (.seq (.reg [(xi 13 (.fad 2 (.t 1))), (xi 14 (.load false 1 (.t 13))), (xi 15 (.mov (.t 3))), (xi 16 (.iad 7 (.t 14) (.t 15))), (xi 17 (.load true 7 (.t 16))), ⟨⟨(some 4), (.alloc 1 (.agg [(.v (.string ⟨#[]⟩)), (.v (.int .i64 0)), (.v (.int .i64 0)), (.v (.int .u64 0)), (.v (.int .i64 0)), (.v (.int .i64 0)), (.v (.int .u64 0))])), none⟩, .b, [], []⟩, (xz (.store 7 (.t 4) (.t 17)))]) (.seq (.cut ⟨[2, 18, 19, 20, 21, 22, 23, 24, 25, 26, 27, 28, 29, 30, 31, 32, 33, 34, 35, 36, 37, 38, 39, 40, 41, 42, 43, 44, 45, 46, 47, 48, 49, 50, 51, 52, 53, 54, 55, 56, 57, 58, 59, 60, 61, 62, 63, 64, 65, 66, 67, 68, 69, 70, 71, 72, 73, 74, 75, 76, 77, 78, 79, 80, 81, 82, 83], [], ⟨[], [], []⟩⟩ (.seq (.cutN ⟨[18, 19, 20, 21, 22, 23, 24, 25, 26, 27, 28, 29, 30, 31, 32, 33, 34, 35, 36, 37, 38, 39, 40, 41, 42, 43, 44, 45, 46, 47, 48, 49, 50, 51, 52, 53, 54, 55, 56, 57, 58, 59, 60, 61, 62, 63, 64, 65, 66, 67, 68, 69, 70, 71, 72, 73, 74, 75, 76, 77, 78, 79, 80, 81, 82, 83], [], ⟨[], [(83, .v .b)], []⟩⟩ (.dr [] [(xi 18 (.fad 0 (.t 4))), (xi 19 (.load false 1 (.t 18))), (xi 20 (.callG 2 51 [(.t 19)])), (xi 21 (.un .not (.t 20))), (xi 22 (.mov (.t 21))), (xg 23 (.mov (.t 3)) 22 false), (xg 24 (.bin .gtr (.t 23) (.c (.v (.int .i64 0)))) 22 false), (xg 25 (.mov (.t 24)) 22 false), (xg 26 (.fad 0 (.t 4)) 25 true), (xg 27 (.load false 1 (.t 26)) 25 true), (xg 28 (.fad 2 (.t 1)) 25 true), (xg 29 (.load false 1 (.t 28)) 25 true), (xg 30 (.mov (.t 3)) 25 true), (xg 31 (.bin .sub (.t 30) (.c (.v (.int .i64 1)))) 25 true), (xg 32 (.iad 7 (.t 29) (.t 31)) 25 true), (xg 33 (.fad 0 (.t 32)) 25 true), (xg 34 (.load false 1 (.t 33)) 25 true), (xg 35 (.bin .leq (.t 27) (.t 34)) 25 true), (xg 36 (.pick (.t 25) (.t 35) (.c (.v (.bool false)))) 22 false), (xi 37 (.pick (.t 22) (.c (.v (.bool true))) (.t 36))), (xi 38 (.mov (.t 37))), (xg 39 (.fad 1 (.t 4)) 38 false), (xg 40 (.load false 1 (.t 39)) 38 false), (xg 41 (.bin .lss (.t 40) (.c (.v (.int .i64 0)))) 38 false), (xi 42 (.pick (.t 38) (.c (.v (.bool true))) (.t 41))), (xi 43 (.mov (.t 42))), (xg 44 (.fad 1 (.t 4)) 43 false), (xg 45 (.load false 1 (.t 44)) 43 false), (xg 46 (.bin .gtr (.t 45) (.c (.v (.int .i64 4)))) 43 false), (xi 47 (.pick (.t 43) (.c (.v (.bool true))) (.t 46))), (xi 48 (.mov (.t 47))), (xg 49 (.fad 2 (.t 4)) 48 false), (xg 50 (.load false 1 (.t 49)) 48 false), (xg 51 (.bin .lss (.t 50) (.c (.v (.int .i64 0)))) 48 false), (xi 52 (.pick (.t 48) (.c (.v (.bool true))) (.t 51))), (xi 53 (.mov (.t 52))), (xg 54 (.fad 2 (.t 4)) 53 false), (xg 55 (.load false 1 (.t 54)) 53 false), (xg 56 (.bin .gtr (.t 55) (.c (.v (.int .i64 9)))) 53 false), (xi 57 (.pick (.t 53) (.c (.v (.bool true))) (.t 56))), (xi 58 (.mov (.t 57))), (xg 59 (.fad 3 (.t 4)) 58 false), (xg 60 (.load false 1 (.t 59)) 58 false), (xg 61 (.fad 1 (.t 1)) 58 false), (xg 62 (.load false 1 (.t 61)) 58 false), (xg 63 (.bin .gtr (.t 60) (.t 62)) 58 false), (xi 64 (.pick (.t 58) (.c (.v (.bool true))) (.t 63))), (xi 65 (.mov (.t 64))), (xg 66 (.fad 4 (.t 4)) 65 false), (xg 67 (.load false 1 (.t 66)) 65 false), (xg 68 (.bin .lss (.t 67) (.c (.v (.int .i64 0)))) 65 false), (xi 69 (.pick (.t 65) (.c (.v (.bool true))) (.t 68))), (xi 70 (.mov (.t 69))), (xg 71 (.fad 4 (.t 4)) 70 false), (xg 72 (.load false 1 (.t 71)) 70 false), (xg 73 (.bin .gtr (.t 72) (.c (.v (.int .i64 100)))) 70 false), (xi 74 (.pick (.t 70) (.c (.v (.bool true))) (.t 73))), (xi 75 (.mov (.t 74))), (xg 76 (.fad 3 (.t 4)) 75 false), (xg 77 (.load false 1 (.t 76)) 75 false), (xg 78 (.bin .eql (.t 77) (.c (.v (.int .u64 0)))) 75 false), (xg 79 (.fad 4 (.t 4)) 75 false), (xg 80 (.load false 1 (.t 79)) 75 false), (xg 81 (.bin .eql (.t 80) (.c (.v (.int .i64 0)))) 75 false), (xg 82 (.binB true (.t 78) (.t 81)) 75 false), (xi 83 (.pick (.t 75) (.c (.v (.bool true))) (.t 82)))])) (.cond (.t 83) (.seq (.reg [(xi 2 (.mov (.c (.v (.bool false)))))]) .ret) .skip))) (.seq (.cut ⟨[2, 84, 85, 86, 87, 88, 89, 90, 91, 92, 93, 94, 95, 96, 97, 98, 99, 100, 101, 102, 103, 104, 105, 106, 107, 108, 109, 110, 111, 112, 113, 114, 115, 116], [], ⟨[], [], []⟩⟩ (.seq (.cutN ⟨[84, 85, 86, 87, 88, 89, 90, 91, 92, 93, 94, 95, 96, 97, 98, 99, 100, 101, 102, 103, 104, 105, 106, 107, 108, 109, 110, 111, 112, 113, 114, 115, 116], [], ⟨[], [(116, .v .b)], []⟩⟩ (.reg [(xi 84 (.fad 1 (.t 4))), (xi 85 (.load false 1 (.t 84))), (xi 86 (.bin .eql (.t 85) (.c (.v (.int .i64 1))))), (xi 87 (.mov (.t 86))), (xg 88 (.fad 5 (.t 4)) 87 true), (xg 89 (.load false 1 (.t 88)) 87 true), (xg 90 (.bin .lss (.t 89) (.c (.v (.int .i64 0)))) 87 true), (xg 91 (.mov (.t 90)) 87 true), (xg 92 (.fad 5 (.t 4)) 91 false), (xg 93 (.load false 1 (.t 92)) 91 false), (xg 94 (.bin .gtr (.t 93) (.c (.v (.int .i64 63)))) 91 false), (xg 95 (.pick (.t 91) (.c (.v (.bool true))) (.t 94)) 87 true), (xg 96 (.mov (.t 95)) 87 true), (xg 97 (.fad 3 (.t 4)) 96 false), (xg 98 (.load false 1 (.t 97)) 96 false), (xg 99 (.bin .eql (.t 98) (.c (.v (.int .u64 0)))) 96 false), (xg 100 (.pick (.t 96) (.c (.v (.bool true))) (.t 99)) 87 true), (xi 101 (.pick (.t 87) (.t 100) (.c (.v (.bool false))))), (xi 102 (.mov (.t 101))), (xg 103 (.fad 1 (.t 4)) 102 false), (xg 104 (.load false 1 (.t 103)) 102 false), (xg 105 (.bin .neq (.t 104) (.c (.v (.int .i64 1)))) 102 false), (xg 106 (.mov (.t 105)) 102 false), (xg 107 (.fad 5 (.t 4)) 106 true), (xg 108 (.load false 1 (.t 107)) 106 true), (xg 109 (.bin .neq (.t 108) (.c (.v (.int .i64 (-1))))) 106 true), (xg 110 (.mov (.t 109)) 106 true), (xg 111 (.fad 6 (.t 4)) 110 false), (xg 112 (.load false 1 (.t 111)) 110 false), (xg 113 (.bin .neq (.t 112) (.c (.v (.int .u64 0)))) 110 false), (xg 114 (.pick (.t 110) (.c (.v (.bool true))) (.t 113)) 106 true), (xg 115 (.pick (.t 106) (.t 114) (.c (.v (.bool false)))) 102 false), (xi 116 (.pick (.t 102) (.c (.v (.bool true))) (.t 115)))])) (.cond (.t 116) (.seq (.reg [(xi 2 (.mov (.c (.v (.bool false)))))]) .ret) .skip))) (.seq (.reg [(xi 5 (.mov (.c (.v (.int .i64 0)))))]) (.blk 2 (.loop ⟨[2, 5, 117, 118, 119, 120, 121, 122, 123, 124, 125, 126, 127, 128, 129, 130, 131, 132, 133, 134, 135], [], ⟨[], [(5, .v (.i .i64))], []⟩⟩ (.seq (.seq (.reg [(xi 117 (.mov (.t 5))), (xi 118 (.mov (.t 3))), (xi 119 (.bin .lss (.t 117) (.t 118)))]) (.cond (.t 119) .skip (.exit 2))) (.seq (.cut ⟨[2, 122, 123, 124, 125, 126, 127, 128, 129, 130, 131, 132, 133, 134, 135], [], ⟨[], [], []⟩⟩ (.blk 3 (.seq (.cutN ⟨[122, 123, 124, 125, 126, 127, 128, 129, 130, 131, 132, 133, 134, 135], [], ⟨[], [(135, .v .b)], []⟩⟩ (.rdr [(xi 122 (.fad 3 (.t 4))), (xi 123 (.load false 1 (.t 122))), (xi 124 (.bin .gtr (.t 123) (.c (.v (.int .u64 0))))), (xi 125 (.mov (.t 124))), (xg 126 (.fad 2 (.t 1)) 125 true), (xg 127 (.load false 1 (.t 126)) 125 true), (xg 128 (.mov (.t 5)) 125 true), (xg 129 (.iad 7 (.t 127) (.t 128)) 125 true), (xg 130 (.fad 3 (.t 129)) 125 true), (xg 131 (.load false 1 (.t 130)) 125 true), (xg 132 (.fad 3 (.t 4)) 125 true), (xg 133 (.load false 1 (.t 132)) 125 true), (xg 134 (.bin .eql (.t 131) (.t 133)) 125 true), (xi 135 (.pick (.t 125) (.t 134) (.c (.v (.bool false)))))])) (.cond (.t 135) (.seq (.reg [(xi 2 (.mov (.c (.v (.bool false)))))]) .ret) .skip)))) (.reg [(xi 120 (.mov (.t 5))), (xi 121 (.bin .add (.t 120) (.c (.v (.int .i64 1))))), (xi 5 (.mov (.t 121)))]))))))))))) (.reg [(xi 11 (.mov (.t 3))), (xi 12 (.bin .add (.t 11) (.c (.v (.int .i64 1))))), (xi 3 (.mov (.t 12)))]))))))) (.seq (.reg [(xi 136 (.fad 2 (.t 1))), (xi 137 (.load false 1 (.t 136))), (xi 138 (.len (.t 137))), (xi 139 (.bin .leq (.t 138) (.c (.v (.int .i64 100))))), (xi 2 (.mov (.t 139)))]) .ret))), [1, 4, 20], 140, [.t 2], 4⟩
theorem xf28_ok : xf28.ok Try.prog 28 := ⟨_, _, Try.func28, rfl, by kernel_rfl, rfl, by kernel_rfl, rfl, by kernel_rfl, by kernel_rfl⟩
def tb28 : List PE := [pe51]
theorem tb28_ok : PEsOk Try.prog tb28 := ⟨pe51_ok, trivial⟩
def ex28 : List EX := []
theorem ex28_ok : EXsOk Try.prog ex28 := trivial
def in28 : List IN := []
theorem in28_ok : INsOk Try.prog in28 := trivial
def F28 : DT ((.co (.v tz2) .no) : Fm).den → Option (DT (.v .b : Fm).den) := pureT tb28 ex28 in28 0 xf28 _ _ []
def pe28 : PE := ⟨28, (.co (.v tz2) .no), .v .b, F28⟩
theorem pe28_ok : pe28.ok Try.prog := pe_of hm tb28_ok ex28_ok in28_ok xf28_ok (by kernel_rfl) (fun _ => rfl)
def xf27 : FX := ⟨(.seq (.reg [(xi 2 (.box 0 3 (.t 0))), (xi 3 (.box 1 1 (.t 1))), (xi 4 (.mov (.c (.sl true [])))), (xi 5 (.mov (.c (.v (.int .i64 0)))))]) (.seq (.cut ⟨[4, 5, 6, 7, 8, 9, 10, 11, 12, 13], [], ⟨[], [], []⟩⟩ (.seq (.cutN ⟨[6, 7, 8, 9, 10, 11, 12, 13], [], ⟨[], [(13, .v .b)], []⟩⟩ (.reg [(xi 6 (.load true 3 (.t 2))), (xi 7 (.call 2 26 [(.t 6)])), (xi 8 (.bin .neq (.t 7) (.c (.v (.int .i64 0))))), (xi 9 (.mov (.t 8))), (xg 10 (.load false 1 (.t 3)) 9 false), (xg 11 (.call 3 47 [(.t 10), (.c (.v (.int .i64 0))), (.c (.v (.int .i64 4)))]) 9 false), (xg 12 (.un .not (.t 11)) 9 false), (xi 13 (.pick (.t 9) (.c (.v (.bool true))) (.t 12)))])) (.cond (.t 13) (.seq (.reg [(xi 4 (.mov (.c (.sl true [])))), (xi 5 (.mov (.c (.v (.int .i64 1)))))]) .ret) .skip))) (.seq (.reg [(xi 14 (.load true 3 (.t 2))), (xi 15 (.fn 58 [] [(.t 3)])), (xi 16 (.call 4 48 [(.t 14), (.t 15)])), (xi 4 (.mov (.t 16))), (xi 5 (.mov (.c (.v (.int .i64 0)))))]) .ret))), [2, 3, 7, 11, 16], 17, [.t 4, .t 5], 13⟩
theorem xf27_ok : xf27.ok Try.prog 27 := ⟨_, _, Try.func27, rfl, by kernel_rfl, rfl, by kernel_rfl, rfl, by kernel_rfl, by kernel_rfl⟩
def ff48_1 : FX := ⟨(.seq (.reg [(xi 2 (.box 0 3 (.t 0))), (xi 4 (.mov (.c (.sl true []))))]) (.seq (.reg [(xi 5 (.mov (.c (.sl true []))))]) (.seq (.seq (.reg [(xi 8 (.fad 2 (.t 2))), (xi 9 (.load false 1 (.t 8))), (xi 10 (.len (.t 9))), (xi 11 (.mov (.c (.v (.int .i64 0)))))]) (.blk 0 (.loop ⟨[5, 7, 11, 12, 13, 14, 15, 16, 17, 18, 19, 20, 21, 22], [7, 9, 11, 12], ⟨[], [(5, .ow 9 7), (11, .v (.i .i64))], [⟨9, .rows tz1 7, false⟩]⟩⟩ (.seq (.reg [(xi 12 (.bin .lss (.t 11) (.t 10)))]) (.seq (.cond (.t 12) .skip (.exit 0)) (.seq (.cutN ⟨[5, 7, 13, 14, 15, 16, 17, 18, 19, 20, 21], [7, 9, 11, 12], ⟨[], [(5, .ow 9 7)], [⟨9, .rows tz1 7, false⟩]⟩⟩ (.blk 1 (.seq (.reg [(xi 13 (.iad 7 (.t 9) (.t 11))), (xi 14 (.load true 7 (.t 13))), ⟨⟨(some 7), (.alloc 1 (.agg [(.v (.string ⟨#[]⟩)), (.v (.int .i64 0)), (.v (.int .i64 0)), (.v (.int .u64 0)), (.v (.int .i64 0)), (.v (.int .i64 0)), (.v (.int .u64 0))])), none⟩, .b, [], []⟩, (xz (.store 7 (.t 7) (.t 14)))]) (.seq (.reg [(xi 15 (.mov (.t 1))), (xi 16 (.load true 7 (.t 7))), (xi 17 (.callv 2 (.t 15) [(.t 16)]))]) (.cond (.t 17) (.reg [(xi 18 (.mov (.t 5))), (xi 19 (.load true 7 (.t 7))), ⟨⟨(some 20), (.bsl 7 (.agg [(.v (.string ⟨#[]⟩)), (.v (.int .i64 0)), (.v (.int .i64 0)), (.v (.int .u64 0)), (.v (.int .i64 0)), (.v (.int .i64 0)), (.v (.int .u64 0))]) 1 [(0, (.t 19))]), none⟩, .b, [], []⟩, ⟨⟨(some 21), (.app 3 7 64 (.agg [(.v (.string ⟨#[]⟩)), (.v (.int .i64 0)), (.v (.int .i64 0)), (.v (.int .u64 0)), (.v (.int .i64 0)), (.v (.int .i64 0)), (.v (.int .u64 0))]) (.t 18) (.t 20)), none⟩, tz1, [], []⟩, (xi 5 (.mov (.t 21)))]) .skip))))) (.reg [(xi 22 (.bin .add (.t 11) (.c (.v (.int .i64 1))))), (xi 11 (.mov (.t 22)))]))))))) (.seq (.reg [(xi 23 (.mov (.t 5))), (xi 4 (.mov (.t 23)))]) .ret)))), [2, 7, 17, 21], 24, [.t 4], 5⟩
theorem ff48_1_ok : ff48_1.ok Try.prog 48 := ⟨_, _, Try.func48, rfl, by kernel_rfl, rfl, by kernel_rfl, rfl, by kernel_rfl, by kernel_rfl⟩
def ff58 : FX := ⟨(.seq (.reg [(xi 2 (.box 0 7 (.t 0))), (xi 3 (.mov (.c (.v (.bool false)))))]) (.seq (.reg [(xi 4 (.fad 1 (.t 2))), (xi 5 (.load false 1 (.t 4))), (xi 6 (.load false 1 (.t 1))), (xi 7 (.bin .eql (.t 5) (.t 6))), (xi 3 (.mov (.t 7)))]) .ret)), [2], 8, [.t 3], 2⟩
theorem ff58_ok : ff58.ok Try.prog 58 := ⟨_, _, Try.func58, rfl, by kernel_rfl, rfl, by kernel_rfl, rfl, by kernel_rfl, by kernel_rfl⟩
def tb27 : List PE := [pe26, pe47]
theorem tb27_ok : PEsOk Try.prog tb27 := ⟨pe26_ok, pe47_ok, trivial⟩
def ex27 : List EX := []
theorem ex27_ok : EXsOk Try.prog ex27 := trivial
def in27 : List IN := [⟨4, 48, 6, ff48_1, some ⟨[0, 1, 2, 3, 4, 5, 6, 7, 8, 9, 10, 11, 12, 13, 14, 15, 16, 17, 18, 19, 20, 21, 22, 23], [6, 7, 8, 9, 10, 11, 12], ⟨[], [(4, .ow 9 7)], [⟨9, .rows tz1 7, false⟩]⟩⟩⟩, ⟨8, 58, 11, ff58, none⟩]
theorem in27_ok : INsOk Try.prog in27 := ⟨ff48_1_ok, ff58_ok, trivial⟩
def F27 : DT ((.co (.v tz2) (.co (.v (.i .i64)) .no)) : Fm).den → Option (DT (.tup (.co (.v (.sl tz1)) (.co (.v (.i .i64)) .no)) : Fm).den) := pureT tb27 ex27 in27 9 xf27 _ _ [9]
def pe27 : PE := ⟨27, (.co (.v tz2) (.co (.v (.i .i64)) .no)), .tup (.co (.v (.sl tz1)) (.co (.v (.i .i64)) .no)), F27⟩
theorem pe27_ok : pe27.ok Try.prog := pe_of hm tb27_ok ex27_ok in27_ok xf27_ok (by kernel_rfl) (fun _ => rfl)
def xf59 : FX := ⟨(.seq (.reg [(xi 4 (.mov (.c (.v (.bool false)))))]) (.seq (.seq (.reg [(xi 6 (.mov (.t 0))), (xi 7 (.len (.t 6))), (xi 8 (.mov (.t 1))), (xi 9 (.len (.t 8))), (xi 10 (.bin .neq (.t 7) (.t 9)))]) (.cond (.t 10) (.seq (.reg [(xi 4 (.mov (.c (.v (.bool false)))))]) .ret) .skip)) (.seq (.seq (.reg [(xi 11 (.mov (.t 0))), (xi 12 (.len (.t 11))), (xi 13 (.mov (.c (.v (.int .i64 0)))))]) (.blk 0 (.loop ⟨[4, 5, 13, 14, 15, 16, 17, 18, 19, 20, 21, 22, 23, 24, 25], [], ⟨[], [(13, .v (.i .i64))], []⟩⟩ (.seq (.reg [(xi 14 (.bin .lss (.t 13) (.t 12)))]) (.seq (.cond (.t 14) .skip (.exit 0)) (.seq (.blk 1 (.seq (.reg [(xi 15 (.mov (.t 13))), (xi 5 (.mov (.t 15)))]) (.seq (.rdr [(xi 16 (.mov (.t 0))), (xi 17 (.mov (.t 5))), (xi 18 (.iad 7 (.t 16) (.t 17))), (xi 19 (.load true 7 (.t 18))), (xi 20 (.mov (.t 1))), (xi 21 (.mov (.t 5))), (xi 22 (.iad 7 (.t 20) (.t 21))), (xi 23 (.load true 7 (.t 22))), (xi 24 (.eqA true 7 [(0, .s), (1, .i), (2, .i), (3, .i), (4, .i), (5, .i), (6, .i)] (.t 19) (.t 23)))]) (.cond (.t 24) (.seq (.reg [(xi 4 (.mov (.c (.v (.bool false)))))]) .ret) .skip)))) (.reg [(xi 25 (.bin .add (.t 13) (.c (.v (.int .i64 1))))), (xi 13 (.mov (.t 25)))]))))))) (.seq (.reg [(xi 4 (.mov (.c (.v (.bool true)))))]) .ret)))), [], 26, [.t 4], 1⟩
theorem xf59_ok : xf59.ok Try.prog 59 := ⟨_, _, Try.func59, rfl, by kernel_rfl, rfl, by kernel_rfl, rfl, by kernel_rfl, by kernel_rfl⟩
def tb59 : List PE := []
theorem tb59_ok : PEsOk Try.prog tb59 := trivial
def ex59 : List EX := []
theorem ex59_ok : EXsOk Try.prog ex59 := trivial
def in59 : List IN := []
theorem in59_ok : INsOk Try.prog in59 := trivial
def F59 : DT ((.co (.v (.sl tz1)) (.co (.v (.sl tz1)) .no)) : Fm).den → Option (DT (.v .b : Fm).den) := pureT tb59 ex59 in59 0 xf59 _ _ []
def pe59 : PE := ⟨59, (.co (.v (.sl tz1)) (.co (.v (.sl tz1)) .no)), .v .b, F59⟩
theorem pe59_ok : pe59.ok Try.prog := pe_of hm tb59_ok ex59_ok in59_ok xf59_ok (by kernel_rfl) (fun _ => rfl)
def xf30 : FX := ⟨(.seq (.reg [(xi 2 (.box 0 3 (.t 0))), (xi 3 (.box 1 3 (.t 1))), (xi 4 (.mov (.c (.v (.bool false)))))]) (.seq (.reg [(xi 5 (.fad 0 (.t 2))), (xi 6 (.load false 1 (.t 5))), (xi 7 (.fad 0 (.t 3))), (xi 8 (.load false 1 (.t 7))), (xi 9 (.bin .eql (.t 6) (.t 8))), (xi 10 (.mov (.t 9))), (xg 11 (.fad 1 (.t 2)) 10 true), (xg 12 (.load false 1 (.t 11)) 10 true), (xg 13 (.fad 1 (.t 3)) 10 true), (xg 14 (.load false 1 (.t 13)) 10 true), (xg 15 (.bin .eql (.t 12) (.t 14)) 10 true), (xi 16 (.pick (.t 10) (.t 15) (.c (.v (.bool false))))), (xi 17 (.mov (.t 16))), (xg 18 (.fad 2 (.t 2)) 17 true), (xg 19 (.load false 1 (.t 18)) 17 true), (xg 20 (.fad 2 (.t 3)) 17 true), (xg 21 (.load false 1 (.t 20)) 17 true), (xg 22 (.call 2 59 [(.t 19), (.t 21)]) 17 true), (xi 23 (.pick (.t 17) (.t 22) (.c (.v (.bool false))))), (xi 4 (.mov (.t 23)))]) .ret)), [2, 3, 22], 24, [.t 4], 4⟩
theorem xf30_ok : xf30.ok Try.prog 30 := ⟨_, _, Try.func30, rfl, by kernel_rfl, rfl, by kernel_rfl, rfl, by kernel_rfl, by kernel_rfl⟩
def tb30 : List PE := [pe59]
theorem tb30_ok : PEsOk Try.prog tb30 := ⟨pe59_ok, trivial⟩
def ex30 : List EX := []
theorem ex30_ok : EXsOk Try.prog ex30 := trivial
def in30 : List IN := []
theorem in30_ok : INsOk Try.prog in30 := trivial
def F30 : DT ((.co (.v tz2) (.co (.v tz2) .no)) : Fm).den → Option (DT (.v .b : Fm).den) := pureT tb30 ex30 in30 0 xf30 _ _ []
def pe30 : PE := ⟨30, (.co (.v tz2) (.co (.v tz2) .no)), .v .b, F30⟩
theorem pe30_ok : pe30.ok Try.prog := pe_of hm tb30_ok ex30_ok in30_ok xf30_ok (by kernel_rfl) (fun _ => rfl)
def xf32 : FX := ⟨(.seq (.reg [(xi 4 (.mov (.c (.v (.bool false)))))]) (.seq (.seq (.reg [(xi 6 (.mov (.t 0))), (xi 7 (.len (.t 6))), (xi 8 (.mov (.t 1))), (xi 9 (.len (.t 8))), (xi 10 (.bin .neq (.t 7) (.t 9)))]) (.cond (.t 10) (.seq (.reg [(xi 4 (.mov (.c (.v (.bool false)))))]) .ret) .skip)) (.seq (.seq (.reg [(xi 5 (.mov (.c (.v (.int .i64 0)))))]) (.blk 0 (.loop ⟨[4, 5, 11, 12, 13, 14, 15, 16, 17, 18, 19, 20, 21, 22, 23, 24, 25], [], ⟨[], [(5, .v (.i .i64))], []⟩⟩ (.seq (.seq (.reg [(xi 11 (.mov (.t 5))), (xi 12 (.mov (.t 0))), (xi 13 (.len (.t 12))), (xi 14 (.bin .lss (.t 11) (.t 13)))]) (.cond (.t 14) .skip (.exit 0))) (.seq (.blk 1 (.seq (.rdr [(xi 17 (.mov (.t 0))), (xi 18 (.mov (.t 5))), (xi 19 (.iad 1 (.t 17) (.t 18))), (xi 20 (.load false 1 (.t 19))), (xi 21 (.mov (.t 1))), (xi 22 (.mov (.t 5))), (xi 23 (.iad 1 (.t 21) (.t 22))), (xi 24 (.load false 1 (.t 23))), (xi 25 (.bin .neq (.t 20) (.t 24)))]) (.cond (.t 25) (.seq (.reg [(xi 4 (.mov (.c (.v (.bool false)))))]) .ret) .skip))) (.reg [(xi 15 (.mov (.t 5))), (xi 16 (.bin .add (.t 15) (.c (.v (.int .i64 1))))), (xi 5 (.mov (.t 16)))])))))) (.seq (.reg [(xi 4 (.mov (.c (.v (.bool true)))))]) .ret)))), [], 26, [.t 4], 1⟩
theorem xf32_ok : xf32.ok Try.prog 32 := ⟨_, _, Try.func32, rfl, by kernel_rfl, rfl, by kernel_rfl, rfl, by kernel_rfl, by kernel_rfl⟩
def tb32 : List PE := []
theorem tb32_ok : PEsOk Try.prog tb32 := trivial
def ex32 : List EX := []
theorem ex32_ok : EXsOk Try.prog ex32 := trivial
def in32 : List IN := []
theorem in32_ok : INsOk Try.prog in32 := trivial
def F32 : DT ((.co (.v (.sl .s)) (.co (.v (.sl .s)) .no)) : Fm).den → Option (DT (.v .b : Fm).den) := pureT tb32 ex32 in32 0 xf32 _ _ []
def pe32 : PE := ⟨32, (.co (.v (.sl .s)) (.co (.v (.sl .s)) .no)), .v .b, F32⟩
theorem pe32_ok : pe32.ok Try.prog := pe_of hm tb32_ok ex32_ok in32_ok xf32_ok (by kernel_rfl) (fun _ => rfl)
def xf35 : FX := ⟨(.seq (.reg [(xi 2 (.box 0 3 (.t 0))), (xi 4 (.mov (.c (.sl true []))))]) (.seq (.reg [(xi 5 (.mov (.c (.sl true []))))]) (.seq (.seq (.reg [(xi 6 (.mov (.c (.v (.int .i64 0)))))]) (.blk 0 (.loop ⟨[5, 6, 7, 8, 9, 10, 11, 12, 13, 14, 15, 16, 17, 18, 19, 20, 21, 22, 23, 24, 25, 26, 27, 28, 29], [1], ⟨[], [(5, .ow 1 7), (6, .v (.i .i64))], [⟨1, .rows tz1 7, false⟩]⟩⟩ (.seq (.seq (.reg [(xi 7 (.mov (.t 6))), (xi 8 (.fad 2 (.t 2))), (xi 9 (.load false 1 (.t 8))), (xi 10 (.len (.t 9))), (xi 11 (.bin .lss (.t 7) (.t 10)))]) (.cond (.t 11) .skip (.exit 0))) (.seq (.cutN ⟨[5, 14, 15, 16, 17, 18, 19, 20, 21, 22, 23, 24, 25, 26, 27, 28, 29], [1], ⟨[], [(5, .ow 1 7)], [⟨1, .rows tz1 7, false⟩]⟩⟩ (.blk 1 (.seq (.reg [(xi 14 (.fad 2 (.t 2))), (xi 15 (.load false 1 (.t 14))), (xi 16 (.mov (.t 6))), (xi 17 (.iad 7 (.t 15) (.t 16))), (xi 18 (.fad 1 (.t 17))), (xi 19 (.load false 1 (.t 18))), (xi 20 (.mov (.t 1))), (xi 21 (.bin .eql (.t 19) (.t 20)))]) (.cond (.t 21) (.reg [(xi 22 (.mov (.t 5))), (xi 23 (.fad 2 (.t 2))), (xi 24 (.load false 1 (.t 23))), (xi 25 (.mov (.t 6))), (xi 26 (.iad 7 (.t 24) (.t 25))), (xi 27 (.load true 7 (.t 26))), ⟨⟨(some 28), (.bsl 7 (.agg [(.v (.string ⟨#[]⟩)), (.v (.int .i64 0)), (.v (.int .i64 0)), (.v (.int .u64 0)), (.v (.int .i64 0)), (.v (.int .i64 0)), (.v (.int .u64 0))]) 1 [(0, (.t 27))]), none⟩, .b, [], []⟩, ⟨⟨(some 29), (.app 1 7 64 (.agg [(.v (.string ⟨#[]⟩)), (.v (.int .i64 0)), (.v (.int .i64 0)), (.v (.int .u64 0)), (.v (.int .i64 0)), (.v (.int .i64 0)), (.v (.int .u64 0))]) (.t 22) (.t 28)), none⟩, tz1, [], []⟩, (xi 5 (.mov (.t 29)))]) .skip)))) (.reg [(xi 12 (.mov (.t 6))), (xi 13 (.bin .add (.t 12) (.c (.v (.int .i64 1))))), (xi 6 (.mov (.t 13)))])))))) (.seq (.reg [(xi 30 (.mov (.t 5))), (xi 4 (.mov (.t 30)))]) .ret)))), [2, 29], 31, [.t 4], 3⟩
theorem xf35_ok : xf35.ok Try.prog 35 := ⟨_, _, Try.func35, rfl, by kernel_rfl, rfl, by kernel_rfl, rfl, by kernel_rfl, by kernel_rfl⟩
def tb35 : List PE := []
theorem tb35_ok : PEsOk Try.prog tb35 := trivial
def ex35 : List EX := []
theorem ex35_ok : EXsOk Try.prog ex35 := trivial
def in35 : List IN := []
theorem in35_ok : INsOk Try.prog in35 := trivial
def F35 : DT ((.co (.v tz2) (.co (.v (.i .i64)) .no)) : Fm).den → Option (DT (.v (.sl tz1) : Fm).den) := pureT tb35 ex35 in35 0 xf35 _ _ [1]
def pe35 : PE := ⟨35, (.co (.v tz2) (.co (.v (.i .i64)) .no)), .v (.sl tz1), F35⟩
theorem pe35_ok : pe35.ok Try.prog := pe_of hm tb35_ok ex35_ok in35_ok xf35_ok (by kernel_rfl) (fun _ => rfl)
def xf9 : FX := ⟨(.seq (.reg [(xi 2 (.box 0 10 (.t 0))), (xi 3 (.box 1 3 (.t 1))), (xi 4 (.mov (.c (.v (.bool false)))))]) (.seq (.reg [(xi 12 (.fad 2 (.t 2))), (xi 13 (.load true 3 (.t 12))), (xi 14 (.call 2 10 [(.t 13)])), (xi 5 (.alloc 3 (.agg [(.v (.int .u64 0)), (.v (.int .u64 0)), (.sl true [])]))), (xz (.store 3 (.t 5) (.t 14)))]) (.seq (.reg [(xi 16 (.load true 3 (.t 5))), (xi 17 (.fad 6 (.t 2))), (xi 18 (.load false 1 (.t 17))), (xi 19 (.call 4 11 [(.t 16), (.t 18)])), (xi 15 (.mov (.t 19))), (xi 20 (.ext (.t 15) 0)), (xi 21 (.ext (.t 15) 1)), ⟨⟨(some 6), (.alloc 5 (.agg [(.v (.string ⟨#[]⟩)), (.v (.int .i64 0)), (.v (.int .i64 0)), (.v (.int .u64 0)), (.v (.int .i64 0)), (.v (.int .i64 0)), (.v (.int .u64 0))])), none⟩, .b, [], []⟩, (xz (.store 7 (.t 6) (.t 20))), (xi 7 (.mov (.t 21)))]) (.seq (.reg [(xi 23 (.load true 3 (.t 5))), (xi 24 (.fad 7 (.t 2))), (xi 25 (.load false 1 (.t 24))), (xi 26 (.call 6 27 [(.t 23), (.t 25)])), (xi 22 (.mov (.t 26))), (xi 27 (.ext (.t 22) 0)), (xi 28 (.ext (.t 22) 1)), (xi 8 (.mov (.t 27))), (xi 9 (.mov (.t 28)))]) (.seq (.reg [(xi 29 (.load true 3 (.t 5))), (xi 30 (.call 7 25 [(.t 29)])), (xi 10 (.mov (.t 30)))]) (.seq (.cut ⟨[4, 31, 32, 33, 34, 35, 36, 37, 38, 39, 40, 41, 42, 43, 44, 45, 46, 47, 48, 49, 50, 51, 52, 53, 54, 55], [], ⟨[], [], []⟩⟩ (.seq (.cutN ⟨[31, 32, 33, 34, 35, 36, 37, 38, 39, 40, 41, 42, 43, 44, 45, 46, 47, 48, 49, 50, 51, 52, 53, 54, 55], [], ⟨[], [(55, .v .b)], []⟩⟩ (.dr [(3, 1), (12, 9), (20, 19), (21, 19)] [(xi 31 (.load true 3 (.t 5))), (xi 32 (.callG 8 26 [(.t 31)])), (xi 33 (.bin .eql (.t 32) (.c (.v (.int .i64 0))))), (xi 34 (.load true 3 (.t 5))), (xi 35 (.callG 9 28 [(.t 34)])), (xi 36 (.binB true (.t 33) (.t 35))), (xi 37 (.mov (.t 36))), (xg 38 (.fad 0 (.t 2)) 37 false), (xg 39 (.load true 2 (.t 38)) 37 false), (xg 40 (.callG 10 29 [(.t 39)]) 37 false), (xg 41 (.bin .eql (.t 40) (.c (.v (.int .i64 0)))) 37 false), (xg 42 (.fad 0 (.t 2)) 37 false), (xg 43 (.load true 2 (.t 42)) 37 false), (xg 44 (.callG 11 12 [(.t 43)]) 37 false), (xg 45 (.binB true (.t 41) (.t 44)) 37 false), (xi 46 (.pick (.t 37) (.c (.v (.bool true))) (.t 45))), (xi 47 (.mov (.t 46))), (xg 48 (.load true 3 (.t 5)) 47 false), (xg 49 (.load true 3 (.t 3)) 47 false), (xg 50 (.callG 12 30 [(.t 48), (.t 49)]) 47 false), (xg 51 (.load true 3 (.t 5)) 47 false), (xg 52 (.load true 3 (.t 3)) 47 false), (xg 53 (.callG 13 15 [(.t 51), (.t 52)]) 47 false), (xg 54 (.binB true (.t 50) (.t 53)) 47 false), (xi 55 (.pick (.t 47) (.c (.v (.bool true))) (.t 54)))])) (.cond (.t 55) (.seq (.reg [(xi 4 (.mov (.c (.v (.bool false)))))]) .ret) .skip))) (.seq (.seq (.reg [(xi 56 (.load true 3 (.t 5))), (xi 57 (.call 14 28 [(.t 56)])), (xi 58 (.un .not (.t 57)))]) (.cond (.t 58) (.seq (.reg [(xi 59 (.load true 7 (.t 6))), ⟨⟨(some 60), (.bld [(.v (.string ⟨#[]⟩)), (.v (.int .i64 0)), (.v (.int .i64 0)), (.v (.int .u64 0)), (.v (.int .i64 0)), (.v (.int .i64 0)), (.v (.int .u64 0))] []), none⟩, .b, [], []⟩, (xi 61 (.eqA false 7 [(0, .s), (1, .i), (2, .i), (3, .i), (4, .i), (5, .i), (6, .i)] (.t 59) (.t 60))), (xi 62 (.mov (.t 61))), (xg 63 (.mov (.t 7)) 62 true), (xg 64 (.bin .eql (.t 63) (.c (.v (.int .i64 1)))) 62 true), (xi 65 (.pick (.t 62) (.t 64) (.c (.v (.bool false))))), (xi 66 (.mov (.t 65))), (xg 67 (.mov (.t 8)) 66 true), (xg 68 (.len (.t 67)) 66 true), (xg 69 (.bin .eql (.t 68) (.c (.v (.int .i64 0)))) 66 true), (xi 70 (.pick (.t 66) (.t 69) (.c (.v (.bool false))))), (xi 71 (.mov (.t 70))), (xg 72 (.mov (.t 9)) 71 true), (xg 73 (.bin .eql (.t 72) (.c (.v (.int .i64 1)))) 71 true), (xi 74 (.pick (.t 71) (.t 73) (.c (.v (.bool false))))), (xi 75 (.mov (.t 74))), (xg 76 (.mov (.t 10)) 75 true), (xg 77 (.len (.t 76)) 75 true), (xg 78 (.bin .eql (.t 77) (.c (.v (.int .i64 0)))) 75 true), (xi 79 (.pick (.t 75) (.t 78) (.c (.v (.bool false))))), (xi 80 (.mov (.t 79))), (xg 81 (.call 15 14 []) 80 true), (xi 82 (.pick (.t 80) (.t 81) (.c (.v (.bool false))))), (xi 4 (.mov (.t 82)))]) .ret) .skip)) (.seq (.cut ⟨[4, 11, 83, 84, 85, 86, 87, 88, 89, 90, 91, 92, 93, 94, 95, 96, 97, 98, 99, 100, 101, 102, 103, 104, 105, 106, 107, 108, 109, 110, 111, 112, 113, 114, 115], [], ⟨[], [], []⟩⟩ (.seq (.reg [(xi 83 (.load true 3 (.t 5))), (xi 84 (.fad 6 (.t 2))), (xi 85 (.load false 1 (.t 84))), (xi 86 (.call 16 31 [(.t 83), (.t 85)])), (xi 11 (.mov (.t 86)))]) (.seq (.cutN ⟨[87, 88, 89, 90, 91, 92, 93, 94, 95, 96, 97, 98, 99, 100, 101, 102, 103, 104, 105, 106, 107, 108, 109, 110, 111, 112, 113, 114, 115], [], ⟨[], [(115, .v .b)], []⟩⟩ (.rdr [(xi 87 (.mov (.t 11))), (xi 88 (.bin .lss (.t 87) (.c (.v (.int .i64 0))))), (xi 89 (.mov (.t 88))), (xg 90 (.load true 7 (.t 6)) 89 true), ⟨⟨(some 91), (.bld [(.v (.string ⟨#[]⟩)), (.v (.int .i64 0)), (.v (.int .i64 0)), (.v (.int .u64 0)), (.v (.int .i64 0)), (.v (.int .i64 0)), (.v (.int .u64 0))] []), (some (89, true))⟩, .b, [], []⟩, (xg 92 (.eqA true 7 [(0, .s), (1, .i), (2, .i), (3, .i), (4, .i), (5, .i), (6, .i)] (.t 90) (.t 91)) 89 true), (xg 93 (.mov (.t 92)) 89 true), (xg 94 (.mov (.t 7)) 93 false), (xg 95 (.bin .neq (.t 94) (.c (.v (.int .i64 6)))) 93 false), (xg 96 (.pick (.t 93) (.c (.v (.bool true))) (.t 95)) 89 true), (xi 97 (.pick (.t 89) (.t 96) (.c (.v (.bool false))))), (xi 98 (.mov (.t 97))), (xg 99 (.mov (.t 11)) 98 false), (xg 100 (.bin .geq (.t 99) (.c (.v (.int .i64 0)))) 98 false), (xg 101 (.mov (.t 100)) 98 false), (xg 102 (.load true 7 (.t 6)) 101 true), (xg 103 (.fad 2 (.t 5)) 101 true), (xg 104 (.load false 1 (.t 103)) 101 true), (xg 105 (.mov (.t 11)) 101 true), (xg 106 (.mm true [(.t 105), (.c (.v (.int .i64 0)))]) 101 true), (xg 107 (.iad 7 (.t 104) (.t 106)) 101 true), (xg 108 (.load true 7 (.t 107)) 101 true), (xg 109 (.eqA true 7 [(0, .s), (1, .i), (2, .i), (3, .i), (4, .i), (5, .i), (6, .i)] (.t 102) (.t 108)) 101 true), (xg 110 (.mov (.t 109)) 101 true), (xg 111 (.mov (.t 7)) 110 false), (xg 112 (.bin .neq (.t 111) (.c (.v (.int .i64 0)))) 110 false), (xg 113 (.pick (.t 110) (.c (.v (.bool true))) (.t 112)) 101 true), (xg 114 (.pick (.t 101) (.t 113) (.c (.v (.bool false)))) 98 false), (xi 115 (.pick (.t 98) (.c (.v (.bool true))) (.t 114)))])) (.cond (.t 115) (.seq (.reg [(xi 4 (.mov (.c (.v (.bool false)))))]) .ret) .skip)))) (.seq (.cut ⟨[4, 116, 117, 118, 119, 120, 121, 122, 123, 124, 125, 126, 127, 128, 129, 130, 131, 132, 133, 134, 135, 136, 137, 138, 139], [], ⟨[], [], []⟩⟩ (.seq (.cutN ⟨[116, 117, 118, 119, 120, 121, 122, 123], [], ⟨[], [(123, .v .b)], []⟩⟩ (.reg [(xi 116 (.fad 7 (.t 2))), (xi 117 (.load false 1 (.t 116))), (xi 118 (.bin .lss (.t 117) (.c (.v (.int .i64 0))))), (xi 119 (.mov (.t 118))), (xg 120 (.fad 7 (.t 2)) 119 false), (xg 121 (.load false 1 (.t 120)) 119 false), (xg 122 (.bin .gtr (.t 121) (.c (.v (.int .i64 4)))) 119 false), (xi 123 (.pick (.t 119) (.c (.v (.bool true))) (.t 122)))])) (.cond (.t 123) (.seq (.reg [(xi 124 (.mov (.t 8))), (xi 125 (.len (.t 124))), (xi 126 (.bin .eql (.t 125) (.c (.v (.int .i64 0))))), (xi 127 (.mov (.t 126))), (xg 128 (.mov (.t 9)) 127 true), (xg 129 (.bin .eql (.t 128) (.c (.v (.int .i64 1)))) 127 true), (xi 130 (.pick (.t 127) (.t 129) (.c (.v (.bool false))))), (xi 131 (.mov (.t 130))), (xg 132 (.mov (.t 10)) 131 true), (xg 133 (.load true 3 (.t 5)) 131 true), (xg 134 (.call 17 33 [(.t 133)]) 131 true), (xg 135 (.call 18 32 [(.t 132), (.t 134)]) 131 true), (xi 136 (.pick (.t 131) (.t 135) (.c (.v (.bool false))))), (xi 137 (.mov (.t 136))), (xg 138 (.call 19 14 []) 137 true), (xi 139 (.pick (.t 137) (.t 138) (.c (.v (.bool false))))), (xi 4 (.mov (.t 139)))]) .ret) .skip))) (.seq (.reg [(xi 140 (.mov (.t 8))), (xi 141 (.load true 3 (.t 5))), (xi 142 (.fad 7 (.t 2))), (xi 143 (.load false 1 (.t 142))), (xi 144 (.call 20 35 [(.t 141), (.t 143)])), (xi 145 (.call 21 34 [(.t 140), (.t 144)])), (xi 146 (.mov (.t 145))), (xg 147 (.mov (.t 9)) 146 true), (xg 148 (.bin .eql (.t 147) (.c (.v (.int .i64 0)))) 146 true), (xi 149 (.pick (.t 146) (.t 148) (.c (.v (.bool false))))), (xi 150 (.mov (.t 149))), (xg 151 (.mov (.t 10)) 150 true), (xg 152 (.load true 3 (.t 5)) 150 true), (xg 153 (.call 22 33 [(.t 152)]) 150 true), (xg 154 (.call 23 32 [(.t 151), (.t 153)]) 150 true), (xi 155 (.pick (.t 150) (.t 154) (.c (.v (.bool false))))), (xi 156 (.mov (.t 155))), (xg 157 (.call 24 14 []) 156 true), (xi 158 (.pick (.t 156) (.t 157) (.c (.v (.bool false))))), (xi 4 (.mov (.t 158)))]) .ret)))))))))), [2, 3, 14, 5, 19, 6, 26, 30, 32, 35, 40, 44, 50, 53, 57, 81, 86, 134, 135, 138, 144, 145, 153, 154, 157], 159, [.t 4], 26⟩
theorem xf9_ok : xf9.ok Try.prog 9 := ⟨_, _, Try.func9, rfl, by kernel_rfl, rfl, by kernel_rfl, rfl, by kernel_rfl, by kernel_rfl⟩
def tb9 : List PE := [pe10, pe11, pe12, pe14, pe15, pe25, pe26, pe27, pe28, pe29, pe30, pe31, pe32, pe33, pe34, pe35]
theorem tb9_ok : PEsOk Try.prog tb9 := ⟨pe10_ok, pe11_ok, pe12_ok, pe14_ok, pe15_ok, pe25_ok, pe26_ok, pe27_ok, pe28_ok, pe29_ok, pe30_ok, pe31_ok, pe32_ok, pe33_ok, pe34_ok, pe35_ok, trivial⟩
def ex9 : List EX := []
theorem ex9_ok : EXsOk Try.prog ex9 := trivial
def in9 : List IN := []
theorem in9_ok : INsOk Try.prog in9 := trivial
def F9 : DT ((.co (.v (.p (.i .i64) (.p (.i .i64) (.p (.i .u64) (.p (.i .u64) (.p (.sl tz1) (.p (.i .u64) (.p .s (.p (.i .i64) (.p (.i .u64) .b)))))))))) (.co (.v tz2) .no)) : Fm).den → Option (DT (.v .b : Fm).den) := pureT tb9 ex9 in9 0 xf9 _ _ []
def pe9 : PE := ⟨9, (.co (.v (.p (.i .i64) (.p (.i .i64) (.p (.i .u64) (.p (.i .u64) (.p (.sl tz1) (.p (.i .u64) (.p .s (.p (.i .i64) (.p (.i .u64) .b)))))))))) (.co (.v tz2) .no)), .v .b, F9⟩
theorem pe9_ok : pe9.ok Try.prog := pe_of hm tb9_ok ex9_ok in9_ok xf9_ok (by kernel_rfl) (fun _ => rfl)
end
end Go.Proofs.Ytoblcfkmggbheaa.VL
end
section
namespace Go.Proofs.Ytoblcfkmggbheaa.VL
open Go
set_option maxRecDepth 100000
set_option linter.unusedVariables false
set_option linter.unusedSectionVars false
variable [Val]
abbrev ty1 : Type := (ByteArray × (Int × (Int × (Int × (Int × (Int × Int))))))
theorem F10_eq (v : (Int × (Int × (List ty1)))) : F10 v = (cond (decide (((v.2.2.length : Nat) : Int) > (101 : Int))) (cond (decide ((101 : Int) ≤ ((v.2.2.length : Nat) : Int))) (some (v.1, (v.2.1, (List.take 101 v.2.2)))) none) (some (v.1, (v.2.1, v.2.2)))) := by kernel_rfl
theorem F46_eq (v : ByteArray) : F46 v = (joinX (loopX (fun (v0 : (ByteArray × Nat)) => (cond (decide (v0.2 < (ByteArray.size v0.1))) (Option.bind (cond (decide ((((Utf8.decode v0.1 v0.2).1 : Nat) : Int) ≥ (97 : Int))) (cond (decide ((((Utf8.decode v0.1 v0.2).1 : Nat) : Int) ≤ (122 : Int))) (some false) (cond (decide ((((Utf8.decode v0.1 v0.2).1 : Nat) : Int) ≥ (48 : Int))) (cond (decide ((((Utf8.decode v0.1 v0.2).1 : Nat) : Int) ≤ (57 : Int))) (some false) (some (!((((Utf8.decode v0.1 v0.2).1 : Nat) : Int) == (45 : Int))))) (some (!((((Utf8.decode v0.1 v0.2).1 : Nat) : Int) == (45 : Int)))))) (cond (decide ((((Utf8.decode v0.1 v0.2).1 : Nat) : Int) ≥ (48 : Int))) (cond (decide ((((Utf8.decode v0.1 v0.2).1 : Nat) : Int) ≤ (57 : Int))) (some false) (some (!((((Utf8.decode v0.1 v0.2).1 : Nat) : Int) == (45 : Int))))) (some (!((((Utf8.decode v0.1 v0.2).1 : Nat) : Int) == (45 : Int)))))) (fun (v1 : Bool) => (cond v1 (some (.inr (.inr false))) (some (.inl (v0.1, (v0.2 + (Utf8.decode v0.1 v0.2).2))))))) (some (.inr (.inl ()))))) (v, 0)) (fun (v2 : Unit) => (cond (!((ByteArray.toList v) == (ByteArray.toList (ByteArray.mk #[])))) (some (decide ((((ByteArray.size v) : Nat) : Int) ≤ (20 : Int)))) (some false)))) := by kernel_rfl
theorem F47_eq (v : (Int × (Int × Int))) : F47 v = (cond (decide (v.1 ≥ v.2.1)) (some (decide (v.1 ≤ v.2.2))) (some false)) := by kernel_rfl
theorem F54_eq (v : Int) : F54 v = (Option.bind (F47 (v, ((0 : Int), (63 : Int)))) (fun (v0 : Bool) => (some v0))) := by kernel_rfl
theorem F57_eq (v : (ty1 × Int)) : F57 v = (Option.bind (cond (v.1.2.2.2.2.2.1 == (-1 : Int)) (some (v.1.2.2.2.2.2.2 == (0 : Int))) (some false)) (fun (v0 : Bool) => (Option.bind (cond (v.1.2.1 == (1 : Int)) (Option.bind (F54 v.1.2.2.2.2.2.1) (fun (v1 : Bool) => (cond v1 (some (decide (v.1.2.2.2.1 > (0 : Int)))) (some false)))) (some v0)) (fun (v2 : Bool) => (Option.bind (F46 v.1.1) (fun (v3 : Bool) => (cond (!v3) (some true) (Option.bind (F47 (v.1.2.1, ((0 : Int), (4 : Int)))) (fun (v4 : Bool) => (cond (!v4) (some true) (Option.bind (F47 (v.1.2.2.1, ((0 : Int), (9 : Int)))) (fun (v5 : Bool) => (cond (!v5) (some true) (cond (decide (v.1.2.2.2.1 > v.2)) (some true) (cond (!((v.1.2.2.2.1 == (0 : Int)) == (v.1.2.2.2.2.1 == (0 : Int)))) (some true) (Option.bind (F47 (v.1.2.2.2.2.1, ((0 : Int), (100 : Int)))) (fun (v6 : Bool) => (cond (!v6) (some true) (some (!v2)))))))))))))))))))) := by kernel_rfl
theorem F26_eq (v : (Int × (Int × (List ty1)))) : F26 v = (joinX (loopX (fun (v0 : (Int × (List (Int × Bool)))) => (cond (decide (v0.1 < ((v.2.2.length : Nat) : Int))) (joinX (cond (decide ((0 : Int) ≤ v0.1)) (Option.bind v.2.2[(Int.toNat v0.1)]? (fun (v1 : ty1) => (joinX (Option.bind (Option.bind (F57 ((v1.1, (v1.2.1, (v1.2.2.1, (v1.2.2.2.1, (v1.2.2.2.2.1, (v1.2.2.2.2.2.1, v1.2.2.2.2.2.2)))))), v.2.1)) (fun (v2 : Bool) => (cond v2 (some true) (cond (decide (v0.1 > (0 : Int))) (cond (decide ((0 : Int) ≤ (IntKind.wrap IntKind.i64 (v0.1 - (1 : Int))))) (Option.bind v.2.2[(Int.toNat (IntKind.wrap IntKind.i64 (v0.1 - (1 : Int))))]? (fun (v3 : ty1) => (cond (!(Op.bytesLess (ByteArray.toList v3.1) (ByteArray.toList v1.1))) (some true) (some (Option.getD (mget (kt := (TT.i IntKind.u64)) (vt := TT.b) v1.2.2.2.1 v0.2) false))))) none) (some (Option.getD (mget (kt := (TT.i IntKind.u64)) (vt := TT.b) v1.2.2.2.1 v0.2) false)))))) (fun (v4 : Bool) => (cond v4 (some (.inr (.inr (.inr (.inr (1 : Int)))))) (some (.inl ()))))) (fun (v5 : Unit) => (some (.inl (mput (kt := (TT.i IntKind.u64)) (vt := TT.b) v1.2.2.2.1 (decide (v1.2.2.2.1 > (0 : Int))) v0.2))))))) none) (fun (v6 : (List (Int × Bool))) => (some (.inl ((IntKind.wrap IntKind.i64 (v0.1 + (1 : Int))), v6))))) (some (.inr (.inl v0.2))))) ((0 : Int), [])) (fun (v7 : (List (Int × Bool))) => (cond (decide (((v.2.2.length : Nat) : Int) > (100 : Int))) (some (1 : Int)) (some (0 : Int))))) := by kernel_rfl
theorem F62_eq (v : (ByteArray × ByteArray)) : F62 v = (cond (!((ByteArray.toList v.1) == (ByteArray.toList v.1))) (cond (!((ByteArray.toList v.2) == (ByteArray.toList v.2))) (some (0 : Int)) (some (-1 : Int))) (cond (!((ByteArray.toList v.2) == (ByteArray.toList v.2))) (some (1 : Int)) (cond (Op.bytesLess (ByteArray.toList v.1) (ByteArray.toList v.2)) (some (-1 : Int)) (cond (!((Op.bytesLess (ByteArray.toList v.1) (ByteArray.toList v.2)) || ((ByteArray.toList v.1) == (ByteArray.toList v.2)))) (some (1 : Int)) (some (0 : Int)))))) := by kernel_rfl
theorem F61_eq (v : (ty1 × ByteArray)) : F61 v = (Option.bind (F62 (v.1.1, v.2)) (fun (v0 : Int) => (some v0))) := by kernel_rfl
theorem F36_eq (v : ((Int × (Int × (List ty1))) × ByteArray)) : F36 v = (Option.bind (Option.bind (loopX (fun (v0 : (Int × Int)) => (cond (decide (v0.1 < v0.2)) (cond (decide ((0 : Int) ≤ (IntKind.wrap IntKind.i64 (Int.fdiv (IntKind.wrap IntKind.u64 (IntKind.wrap IntKind.i64 (v0.1 + v0.2))) (2 : Int))))) (Option.bind v.1.2.2[(Int.toNat (IntKind.wrap IntKind.i64 (Int.fdiv (IntKind.wrap IntKind.u64 (IntKind.wrap IntKind.i64 (v0.1 + v0.2))) (2 : Int))))]? (fun (v1 : ty1) => (Option.bind (F61 ((v1.1, (v1.2.1, (v1.2.2.1, (v1.2.2.2.1, (v1.2.2.2.2.1, (v1.2.2.2.2.2.1, v1.2.2.2.2.2.2)))))), v.2)) (fun (v2 : Int) => (cond (decide (v2 < (0 : Int))) (some (.inl ((IntKind.wrap IntKind.i64 ((IntKind.wrap IntKind.i64 (Int.fdiv (IntKind.wrap IntKind.u64 (IntKind.wrap IntKind.i64 (v0.1 + v0.2))) (2 : Int))) + (1 : Int))), v0.2))) (some (.inl (v0.1, (IntKind.wrap IntKind.i64 (Int.fdiv (IntKind.wrap IntKind.u64 (IntKind.wrap IntKind.i64 (v0.1 + v0.2))) (2 : Int))))))))))) none) (some (.inr v0.1)))) ((0 : Int), ((v.1.2.2.length : Nat) : Int))) (fun (v3 : Int) => (cond (decide (v3 < ((v.1.2.2.length : Nat) : Int))) (cond (decide ((0 : Int) ≤ v3)) (Option.bind v.1.2.2[(Int.toNat v3)]? (fun (v4 : ty1) => (Option.bind (F61 ((v4.1, (v4.2.1, (v4.2.2.1, (v4.2.2.2.1, (v4.2.2.2.2.1, (v4.2.2.2.2.2.1, v4.2.2.2.2.2.2)))))), v.2)) (fun (v5 : Int) => (some (v3, (v5 == (0 : Int)))))))) none) (some (v3, false))))) (fun (v6 : (Int × Bool)) => (some (v6.1, v6.2)))) := by kernel_rfl
theorem F11_eq (v : ((Int × (Int × (List ty1))) × ByteArray)) : F11 v = (Option.bind (F26 (v.1.1, (v.1.2.1, v.1.2.2))) (fun (v0 : Int) => (cond (v0 != (0 : Int)) (some (((ByteArray.mk #[]), ((0 : Int), ((0 : Int), ((0 : Int), ((0 : Int), ((0 : Int), (0 : Int))))))), v0)) (Option.bind (F36 ((v.1.1, (v.1.2.1, v.1.2.2)), v.2)) (fun (v1 : (Int × Bool)) => (cond (!v1.2) (some (((ByteArray.mk #[]), ((0 : Int), ((0 : Int), ((0 : Int), ((0 : Int), ((0 : Int), (0 : Int))))))), (6 : Int))) (cond (decide ((0 : Int) ≤ v1.1)) (Option.bind v.1.2.2[(Int.toNat v1.1)]? (fun (v2 : ty1) => (some ((v2.1, (v2.2.1, (v2.2.2.1, (v2.2.2.2.1, (v2.2.2.2.2.1, (v2.2.2.2.2.2.1, v2.2.2.2.2.2.2)))))), (0 : Int))))) none))))))) := by kernel_rfl
theorem F12_eq (v : (Int × Int)) : F12 v = (cond (decide ((1 : Int) ≤ v.1)) (cond (decide (v.1 ≤ (100 : Int))) (cond (decide ((1 : Int) ≤ v.2)) (some (decide (v.2 ≤ (100 : Int)))) (some false)) (some false)) (some false)) := by kernel_rfl
theorem F29_eq (v : (Int × Int)) : F29 v = (Option.bind (Option.bind (F47 (v.1, ((1 : Int), (100 : Int)))) (fun (v0 : Bool) => (cond (!v0) (some true) (Option.bind (F47 (v.2, ((1 : Int), (100 : Int)))) (fun (v1 : Bool) => (some (!v1))))))) (fun (v2 : Bool) => (cond v2 (some (1 : Int)) (some (0 : Int))))) := by kernel_rfl
theorem F43_eq (v : ty1) : F43 v = (cond (v.2.1 == (0 : Int)) (some true) (some (v.2.1 == (1 : Int)))) := by kernel_rfl
theorem F25_eq (v : (Int × (Int × (List ty1)))) : F25 v = (Option.bind (F26 (v.1, (v.2.1, v.2.2))) (fun (v0 : Int) => (cond (v0 != (0 : Int)) (some []) (Option.bind (loopX (fun (v1 : (Int × (List ty1))) => (cond (decide (v1.1 < ((v.2.2.length : Nat) : Int))) (Option.bind (cond (decide ((0 : Int) ≤ v1.1)) (Option.bind v.2.2[(Int.toNat v1.1)]? (fun (v2 : ty1) => (Option.bind (F43 (v2.1, (v2.2.1, (v2.2.2.1, (v2.2.2.2.1, (v2.2.2.2.2.1, (v2.2.2.2.2.2.1, v2.2.2.2.2.2.2))))))) (fun (v3 : Bool) => (cond v3 (cond ((decide (v1.2.length = v1.2.length)) && ((decide (((((v1.2.length + 1) : Nat) : Int) * (64 : Int)) ≤ (70368744177664 : Int))) && (decide ((((v1.2.length + 1) : Nat) : Int) ≤ (70368744177664 : Int))))) (cond (decide ((v1.2.length + 1) = (Append.append v1.2 ((v2.1, (v2.2.1, (v2.2.2.1, (v2.2.2.2.1, (v2.2.2.2.2.1, (v2.2.2.2.2.2.1, v2.2.2.2.2.2.2)))))) :: [])).length)) (some (Append.append v1.2 ((v2.1, (v2.2.1, (v2.2.2.1, (v2.2.2.2.1, (v2.2.2.2.2.1, (v2.2.2.2.2.2.1, v2.2.2.2.2.2.2)))))) :: []))) none) none) (cond (decide (v1.2.length = v1.2.length)) (some v1.2) none)))))) none) (fun (v4 : (List ty1)) => (cond (decide (v4.length = v4.length)) (some (.inl ((IntKind.wrap IntKind.i64 (v1.1 + (1 : Int))), v4))) none))) (Option.map (Sum.inr) (cond (decide (v1.2.length = v1.2.length)) (some v1.2) none)))) ((0 : Int), [])) (fun (v5 : (List ty1)) => (loopX (fun (v6 : (Int × (List ByteArray))) => (cond (decide (v6.1 < ((v5.length : Nat) : Int))) (cond ((decide ((0 : Int) ≤ v6.1)) && (decide (v6.1 < ((v5.length : Nat) : Int)))) (Option.bind v5[(0 + (Int.toNat v6.1))]? (fun (v7 : ty1) => (cond ((decide (v6.2.length = v6.2.length)) && ((decide (((((v6.2.length + 1) : Nat) : Int) * (16 : Int)) ≤ (70368744177664 : Int))) && (decide ((((v6.2.length + 1) : Nat) : Int) ≤ (70368744177664 : Int))))) (cond (decide ((v6.2.length + 1) = (Append.append v6.2 (v7.1 :: [])).length)) (some (.inl ((IntKind.wrap IntKind.i64 (v6.1 + (1 : Int))), (Append.append v6.2 (v7.1 :: []))))) none) none))) none) (Option.map (Sum.inr) (cond (decide ((0 + v6.2.length) ≤ v6.2.length)) (some (List.take v6.2.length v6.2)) none)))) ((0 : Int), []))))))) := by kernel_rfl
theorem F34_eq (v : ((List ty1) × (List ty1))) : F34 v = (cond (((v.1.length : Nat) : Int) != ((v.2.length : Nat) : Int)) (some false) (loopX (fun (v0 : Int) => (cond (decide (v0 < ((v.1.length : Nat) : Int))) (cond (decide ((0 : Int) ≤ v0)) (Option.bind v.1[(Int.toNat v0)]? (fun (v1 : ty1) => (cond (decide ((0 : Int) ≤ v0)) (Option.bind v.2[(Int.toNat v0)]? (fun (v2 : ty1) => (cond (!(((ByteArray.toList v1.1) == (ByteArray.toList v2.1)) && ((v1.2.1 == v2.2.1) && ((v1.2.2.1 == v2.2.2.1) && ((v1.2.2.2.1 == v2.2.2.2.1) && ((v1.2.2.2.2.1 == v2.2.2.2.2.1) && ((v1.2.2.2.2.2.1 == v2.2.2.2.2.2.1) && ((v1.2.2.2.2.2.2 == v2.2.2.2.2.2.2) && true)))))))) (some (.inr false)) (some (.inl (IntKind.wrap IntKind.i64 (v0 + (1 : Int)))))))) none))) none) (some (.inr true)))) (0 : Int))) := by kernel_rfl
theorem F15_eq (v : ((Int × (Int × (List ty1))) × (Int × (Int × (List ty1))))) : F15 v = (cond (v.1.1 == v.2.1) (cond (v.1.2.1 == v.2.2.1) (Option.bind (F34 (v.1.2.2, v.2.2.2)) (fun (v0 : Bool) => (some v0))) (some false)) (some false)) := by kernel_rfl
theorem F31_eq (v : ((Int × (Int × (List ty1))) × ByteArray)) : F31 v = (loopX (fun (v0 : Int) => (cond (decide (v0 < ((v.1.2.2.length : Nat) : Int))) (cond (decide ((0 : Int) ≤ v0)) (Option.bind v.1.2.2[(Int.toNat v0)]? (fun (v1 : ty1) => (cond ((ByteArray.toList v1.1) == (ByteArray.toList v.2)) (some (.inr v0)) (some (.inl (IntKind.wrap IntKind.i64 (v0 + (1 : Int)))))))) none) (some (.inr (-1 : Int))))) (0 : Int)) := by kernel_rfl
theorem F33_eq (v : (Int × (Int × (List ty1)))) : F33 v = (loopX (fun (v0 : (Int × (List ByteArray))) => (cond (decide (v0.1 < ((v.2.2.length : Nat) : Int))) (Option.bind (cond (decide ((0 : Int) ≤ v0.1)) (Option.bind v.2.2[(Int.toNat v0.1)]? (fun (v1 : ty1) => (cond (decide (v1.2.1 < (2 : Int))) (cond (decide ((0 : Int) ≤ v0.1)) (Option.bind v.2.2[(Int.toNat v0.1)]? (fun (v2 : ty1) => (cond ((decide (v0.2.length = v0.2.length)) && ((decide (((((v0.2.length + 1) : Nat) : Int) * (16 : Int)) ≤ (70368744177664 : Int))) && (decide ((((v0.2.length + 1) : Nat) : Int) ≤ (70368744177664 : Int))))) (cond (decide ((v0.2.length + 1) = (Append.append v0.2 (v2.1 :: [])).length)) (some (Append.append v0.2 (v2.1 :: []))) none) none))) none) (cond (decide (v0.2.length = v0.2.length)) (some v0.2) none)))) none) (fun (v3 : (List ByteArray)) => (cond (decide (v3.length = v3.length)) (some (.inl ((IntKind.wrap IntKind.i64 (v0.1 + (1 : Int))), v3))) none))) (Option.map (Sum.inr) (cond (decide ((0 + v0.2.length) ≤ v0.2.length)) (some (List.take v0.2.length v0.2)) none)))) ((0 : Int), [])) := by kernel_rfl
theorem F51_eq (v : ByteArray) : F51 v = (joinX (loopX (fun (v0 : Int) => (cond (decide (v0 < (((ByteArray.size v) : Nat) : Int))) (joinX (cond (decide ((0 : Int) ≤ v0)) (Option.bind v[(Int.toNat v0)]? (fun (v1 : UInt8) => (Option.bind (cond (decide ((97 : Int) ≤ (((UInt8.toNat v1) : Nat) : Int))) (cond (decide ((((UInt8.toNat v1) : Nat) : Int) ≤ (122 : Int))) (some false) (cond (decide ((48 : Int) ≤ (((UInt8.toNat v1) : Nat) : Int))) (cond (decide ((((UInt8.toNat v1) : Nat) : Int) ≤ (57 : Int))) (some false) (some (!((((UInt8.toNat v1) : Nat) : Int) == (45 : Int))))) (some (!((((UInt8.toNat v1) : Nat) : Int) == (45 : Int)))))) (cond (decide ((48 : Int) ≤ (((UInt8.toNat v1) : Nat) : Int))) (cond (decide ((((UInt8.toNat v1) : Nat) : Int) ≤ (57 : Int))) (some false) (some (!((((UInt8.toNat v1) : Nat) : Int) == (45 : Int))))) (some (!((((UInt8.toNat v1) : Nat) : Int) == (45 : Int)))))) (fun (v2 : Bool) => (cond v2 (some (.inr (.inr (.inr false)))) (some (.inl ()))))))) none) (fun (v3 : Unit) => (some (.inl (IntKind.wrap IntKind.i64 (v0 + (1 : Int))))))) (some (.inr (.inl ()))))) (0 : Int)) (fun (v4 : Unit) => (cond (decide ((1 : Int) ≤ (((ByteArray.size v) : Nat) : Int))) (some (decide ((((ByteArray.size v) : Nat) : Int) ≤ (20 : Int)))) (some false)))) := by kernel_rfl
theorem F28_eq (v : (Int × (Int × (List ty1)))) : F28 v = (joinX (loopX (fun (v0 : Int) => (cond (decide (v0 < ((v.2.2.length : Nat) : Int))) (joinX (cond (decide ((0 : Int) ≤ v0)) (Option.bind v.2.2[(Int.toNat v0)]? (fun (v1 : ty1) => (joinX (Option.bind (Option.bind (F51 v1.1) (fun (v2 : Bool) => (cond (!v2) (some true) (cond (decide (v0 > (0 : Int))) (cond (decide ((0 : Int) ≤ (IntKind.wrap IntKind.i64 (v0 - (1 : Int))))) (Option.bind v.2.2[(Int.toNat (IntKind.wrap IntKind.i64 (v0 - (1 : Int))))]? (fun (v3 : ty1) => (cond ((Op.bytesLess (ByteArray.toList v1.1) (ByteArray.toList v3.1)) || ((ByteArray.toList v1.1) == (ByteArray.toList v3.1))) (some true) (cond (decide (v1.2.1 < (0 : Int))) (some true) (cond (decide (v1.2.1 > (4 : Int))) (some true) (cond (decide (v1.2.2.1 < (0 : Int))) (some true) (cond (decide (v1.2.2.1 > (9 : Int))) (some true) (cond (decide (v1.2.2.2.1 > v.2.1)) (some true) (cond (decide (v1.2.2.2.2.1 < (0 : Int))) (some true) (cond (decide (v1.2.2.2.2.1 > (100 : Int))) (some true) (some (!((v1.2.2.2.1 == (0 : Int)) == (v1.2.2.2.2.1 == (0 : Int))))))))))))))) none) (cond (decide (v1.2.1 < (0 : Int))) (some true) (cond (decide (v1.2.1 > (4 : Int))) (some true) (cond (decide (v1.2.2.1 < (0 : Int))) (some true) (cond (decide (v1.2.2.1 > (9 : Int))) (some true) (cond (decide (v1.2.2.2.1 > v.2.1)) (some true) (cond (decide (v1.2.2.2.2.1 < (0 : Int))) (some true) (cond (decide (v1.2.2.2.2.1 > (100 : Int))) (some true) (some (!((v1.2.2.2.1 == (0 : Int)) == (v1.2.2.2.2.1 == (0 : Int)))))))))))))))) (fun (v4 : Bool) => (cond v4 (some (.inr (.inr (.inr (.inr false))))) (some (.inl ()))))) (fun (v5 : Unit) => (joinX (Option.bind (cond (v1.2.1 == (1 : Int)) (cond (decide (v1.2.2.2.2.2.1 < (0 : Int))) (some true) (cond (decide (v1.2.2.2.2.2.1 > (63 : Int))) (some true) (cond (v1.2.2.2.1 == (0 : Int)) (some true) (cond (v1.2.1 != (1 : Int)) (cond (v1.2.2.2.2.2.1 != (-1 : Int)) (some true) (some (v1.2.2.2.2.2.2 != (0 : Int)))) (some false))))) (cond (v1.2.1 != (1 : Int)) (cond (v1.2.2.2.2.2.1 != (-1 : Int)) (some true) (some (v1.2.2.2.2.2.2 != (0 : Int)))) (some false))) (fun (v6 : Bool) => (cond v6 (some (.inr (.inr (.inr (.inr false))))) (some (.inl ()))))) (fun (v7 : Unit) => (loopX (fun (v8 : Int) => (cond (decide (v8 < v0)) (joinX (Option.bind (cond (decide (v1.2.2.2.1 > (0 : Int))) (cond (decide ((0 : Int) ≤ v8)) (Option.bind v.2.2[(Int.toNat v8)]? (fun (v9 : ty1) => (some (v9.2.2.2.1 == v1.2.2.2.1)))) none) (some false)) (fun (v10 : Bool) => (cond v10 (some (.inr (.inr (.inr (.inr (.inr false)))))) (some (.inl ()))))) (fun (v11 : Unit) => (some (.inl (IntKind.wrap IntKind.i64 (v8 + (1 : Int))))))) (some (.inr (.inl ()))))) (0 : Int)))))))) none) (fun (v12 : Unit) => (some (.inl (IntKind.wrap IntKind.i64 (v0 + (1 : Int))))))) (some (.inr (.inl ()))))) (0 : Int)) (fun (v13 : Unit) => (some (decide (((v.2.2.length : Nat) : Int) ≤ (100 : Int)))))) := by kernel_rfl
theorem F27_eq (v : ((Int × (Int × (List ty1))) × Int)) : F27 v = (joinX (Option.bind (Option.bind (F26 (v.1.1, (v.1.2.1, v.1.2.2))) (fun (v0 : Int) => (cond (v0 != (0 : Int)) (some true) (Option.bind (F47 (v.2, ((0 : Int), (4 : Int)))) (fun (v1 : Bool) => (some (!v1))))))) (fun (v2 : Bool) => (cond v2 (some (.inr ([], (1 : Int)))) (some (.inl ()))))) (fun (v3 : Unit) => (Option.bind (loopX (fun (v4 : (Int × (List ty1))) => (cond (decide (v4.1 < ((v.1.2.2.length : Nat) : Int))) (Option.bind (cond (decide ((0 : Int) ≤ v4.1)) (Option.bind v.1.2.2[(Int.toNat v4.1)]? (fun (v5 : ty1) => (cond (v5.2.1 == v.2) (cond ((decide (v4.2.length = v4.2.length)) && ((decide (((((v4.2.length + 1) : Nat) : Int) * (64 : Int)) ≤ (70368744177664 : Int))) && (decide ((((v4.2.length + 1) : Nat) : Int) ≤ (70368744177664 : Int))))) (cond (decide ((v4.2.length + 1) = (Append.append v4.2 ((v5.1, (v5.2.1, (v5.2.2.1, (v5.2.2.2.1, (v5.2.2.2.2.1, (v5.2.2.2.2.2.1, v5.2.2.2.2.2.2)))))) :: [])).length)) (some (Append.append v4.2 ((v5.1, (v5.2.1, (v5.2.2.1, (v5.2.2.2.1, (v5.2.2.2.2.1, (v5.2.2.2.2.2.1, v5.2.2.2.2.2.2)))))) :: []))) none) none) (cond (decide (v4.2.length = v4.2.length)) (some v4.2) none)))) none) (fun (v6 : (List ty1)) => (cond (decide (v6.length = v6.length)) (some (.inl ((IntKind.wrap IntKind.i64 (v4.1 + (1 : Int))), v6))) none))) (Option.map (Sum.inr) (cond (decide (v4.2.length = v4.2.length)) (some v4.2) none)))) ((0 : Int), [])) (fun (v7 : (List ty1)) => (cond (decide ((0 + v7.length) ≤ v7.length)) (some ((List.take v7.length v7), (0 : Int))) none))))) := by kernel_rfl
theorem F59_eq (v : ((List ty1) × (List ty1))) : F59 v = (cond (((v.1.length : Nat) : Int) != ((v.2.length : Nat) : Int)) (some false) (loopX (fun (v0 : Int) => (cond (decide (v0 < ((v.1.length : Nat) : Int))) (cond (decide ((0 : Int) ≤ v0)) (Option.bind v.1[(Int.toNat v0)]? (fun (v1 : ty1) => (cond (decide ((0 : Int) ≤ v0)) (Option.bind v.2[(Int.toNat v0)]? (fun (v2 : ty1) => (cond (!(((ByteArray.toList v1.1) == (ByteArray.toList v2.1)) && ((v1.2.1 == v2.2.1) && ((v1.2.2.1 == v2.2.2.1) && ((v1.2.2.2.1 == v2.2.2.2.1) && ((v1.2.2.2.2.1 == v2.2.2.2.2.1) && ((v1.2.2.2.2.2.1 == v2.2.2.2.2.2.1) && ((v1.2.2.2.2.2.2 == v2.2.2.2.2.2.2) && true)))))))) (some (.inr false)) (some (.inl (IntKind.wrap IntKind.i64 (v0 + (1 : Int)))))))) none))) none) (some (.inr true)))) (0 : Int))) := by kernel_rfl
theorem F30_eq (v : ((Int × (Int × (List ty1))) × (Int × (Int × (List ty1))))) : F30 v = (cond (v.1.1 == v.2.1) (cond (v.1.2.1 == v.2.2.1) (Option.bind (F59 (v.1.2.2, v.2.2.2)) (fun (v0 : Bool) => (some v0))) (some false)) (some false)) := by kernel_rfl
theorem F32_eq (v : ((List ByteArray) × (List ByteArray))) : F32 v = (cond (((v.1.length : Nat) : Int) != ((v.2.length : Nat) : Int)) (some false) (loopX (fun (v0 : Int) => (cond (decide (v0 < ((v.1.length : Nat) : Int))) (cond (decide ((0 : Int) ≤ v0)) (Option.bind v.1[(Int.toNat v0)]? (fun (v1 : ByteArray) => (cond (decide ((0 : Int) ≤ v0)) (Option.bind v.2[(Int.toNat v0)]? (fun (v2 : ByteArray) => (cond (!((ByteArray.toList v1) == (ByteArray.toList v2))) (some (.inr false)) (some (.inl (IntKind.wrap IntKind.i64 (v0 + (1 : Int)))))))) none))) none) (some (.inr true)))) (0 : Int))) := by kernel_rfl
theorem F35_eq (v : ((Int × (Int × (List ty1))) × Int)) : F35 v = (loopX (fun (v0 : (Int × (List ty1))) => (cond (decide (v0.1 < ((v.1.2.2.length : Nat) : Int))) (Option.bind (cond (decide ((0 : Int) ≤ v0.1)) (Option.bind v.1.2.2[(Int.toNat v0.1)]? (fun (v1 : ty1) => (cond (v1.2.1 == v.2) (cond (decide ((0 : Int) ≤ v0.1)) (Option.bind v.1.2.2[(Int.toNat v0.1)]? (fun (v2 : ty1) => (cond ((decide (v0.2.length = v0.2.length)) && ((decide (((((v0.2.length + 1) : Nat) : Int) * (64 : Int)) ≤ (70368744177664 : Int))) && (decide ((((v0.2.length + 1) : Nat) : Int) ≤ (70368744177664 : Int))))) (cond (decide ((v0.2.length + 1) = (Append.append v0.2 ((v2.1, (v2.2.1, (v2.2.2.1, (v2.2.2.2.1, (v2.2.2.2.2.1, (v2.2.2.2.2.2.1, v2.2.2.2.2.2.2)))))) :: [])).length)) (some (Append.append v0.2 ((v2.1, (v2.2.1, (v2.2.2.1, (v2.2.2.2.1, (v2.2.2.2.2.1, (v2.2.2.2.2.2.1, v2.2.2.2.2.2.2)))))) :: []))) none) none))) none) (cond (decide (v0.2.length = v0.2.length)) (some v0.2) none)))) none) (fun (v3 : (List ty1)) => (cond (decide (v3.length = v3.length)) (some (.inl ((IntKind.wrap IntKind.i64 (v0.1 + (1 : Int))), v3))) none))) (Option.map (Sum.inr) (cond (decide ((0 + v0.2.length) ≤ v0.2.length)) (some (List.take v0.2.length v0.2)) none)))) ((0 : Int), [])) := by kernel_rfl
theorem F9_eq (v : ((Int × (Int × (Int × (Int × ((List ty1) × (Int × (ByteArray × (Int × (Int × Bool))))))))) × (Int × (Int × (List ty1))))) : F9 v = (Option.bind (F10 (v.1.2.2.1, (v.1.2.2.2.1, v.1.2.2.2.2.1))) (fun (v0 : (Int × (Int × (List ty1)))) => (Option.bind (F11 ((v0.1, (v0.2.1, v0.2.2)), v.1.2.2.2.2.2.2.1)) (fun (v1 : (ty1 × Int)) => (Option.bind (F27 ((v0.1, (v0.2.1, v0.2.2)), v.1.2.2.2.2.2.2.2.1)) (fun (v2 : ((List ty1) × Int)) => (Option.bind (F25 (v0.1, (v0.2.1, v0.2.2))) (fun (v3 : (List ByteArray)) => (joinX (Option.bind (Option.bind (F26 (v0.1, (v0.2.1, v0.2.2))) (fun (v4 : Int) => (Option.bind (F28 (v0.1, (v0.2.1, v0.2.2))) (fun (v5 : Bool) => (cond (!((v4 == (0 : Int)) == v5)) (some true) (Option.bind (F29 (v.1.1, v.1.2.1)) (fun (v6 : Int) => (Option.bind (F12 (v.1.1, v.1.2.1)) (fun (v7 : Bool) => (cond (!((v6 == (0 : Int)) == v7)) (some true) (Option.bind (F30 ((v0.1, (v0.2.1, v0.2.2)), (v.2.1, (v.2.2.1, v.2.2.2)))) (fun (v8 : Bool) => (Option.bind (F15 ((v0.1, (v0.2.1, v0.2.2)), (v.2.1, (v.2.2.1, v.2.2.2)))) (fun (v9 : Bool) => (some (!(v8 == v9))))))))))))))))) (fun (v10 : Bool) => (cond v10 (some (.inr false)) (some (.inl ()))))) (fun (v11 : Unit) => (Option.bind (F28 (v0.1, (v0.2.1, v0.2.2))) (fun (v12 : Bool) => (cond (!v12) (cond (((ByteArray.toList v1.1.1) == (ByteArray.toList (ByteArray.mk #[]))) && ((v1.1.2.1 == (0 : Int)) && ((v1.1.2.2.1 == (0 : Int)) && ((v1.1.2.2.2.1 == (0 : Int)) && ((v1.1.2.2.2.2.1 == (0 : Int)) && ((v1.1.2.2.2.2.2.1 == (0 : Int)) && ((v1.1.2.2.2.2.2.2 == (0 : Int)) && true))))))) (cond (v1.2 == (1 : Int)) (cond (((v2.1.length : Nat) : Int) == (0 : Int)) (cond (v2.2 == (1 : Int)) (cond (((v3.length : Nat) : Int) == (0 : Int)) (Option.bind (F14 ()) (fun (v13 : Bool) => (some v13))) (some false)) (some false)) (some false)) (some false)) (some false)) (joinX (Option.bind (F31 ((v0.1, (v0.2.1, v0.2.2)), v.1.2.2.2.2.2.2.1)) (fun (v14 : Int) => (Option.bind (cond (decide (v14 < (0 : Int))) (cond (!(((ByteArray.toList v1.1.1) == (ByteArray.toList (ByteArray.mk #[]))) && ((v1.1.2.1 == (0 : Int)) && ((v1.1.2.2.1 == (0 : Int)) && ((v1.1.2.2.2.1 == (0 : Int)) && ((v1.1.2.2.2.2.1 == (0 : Int)) && ((v1.1.2.2.2.2.2.1 == (0 : Int)) && ((v1.1.2.2.2.2.2.2 == (0 : Int)) && true)))))))) (some true) (cond (v1.2 != (6 : Int)) (some true) (cond (decide (v14 ≥ (0 : Int))) (cond (decide ((0 : Int) ≤ (max v14 (0 : Int)))) (Option.bind v0.2.2[(Int.toNat (max v14 (0 : Int)))]? (fun (v15 : ty1) => (cond (!(((ByteArray.toList v1.1.1) == (ByteArray.toList v15.1)) && ((v1.1.2.1 == v15.2.1) && ((v1.1.2.2.1 == v15.2.2.1) && ((v1.1.2.2.2.1 == v15.2.2.2.1) && ((v1.1.2.2.2.2.1 == v15.2.2.2.2.1) && ((v1.1.2.2.2.2.2.1 == v15.2.2.2.2.2.1) && ((v1.1.2.2.2.2.2.2 == v15.2.2.2.2.2.2) && true)))))))) (some true) (some (v1.2 != (0 : Int)))))) none) (some false)))) (cond (decide (v14 ≥ (0 : Int))) (cond (decide ((0 : Int) ≤ (max v14 (0 : Int)))) (Option.bind v0.2.2[(Int.toNat (max v14 (0 : Int)))]? (fun (v16 : ty1) => (cond (!(((ByteArray.toList v1.1.1) == (ByteArray.toList v16.1)) && ((v1.1.2.1 == v16.2.1) && ((v1.1.2.2.1 == v16.2.2.1) && ((v1.1.2.2.2.1 == v16.2.2.2.1) && ((v1.1.2.2.2.2.1 == v16.2.2.2.2.1) && ((v1.1.2.2.2.2.2.1 == v16.2.2.2.2.2.1) && ((v1.1.2.2.2.2.2.2 == v16.2.2.2.2.2.2) && true)))))))) (some true) (some (v1.2 != (0 : Int)))))) none) (some false))) (fun (v17 : Bool) => (cond v17 (some (.inr false)) (some (.inl ()))))))) (fun (v18 : Unit) => (joinX (Option.bind (cond (decide (v.1.2.2.2.2.2.2.2.1 < (0 : Int))) (some true) (some (decide (v.1.2.2.2.2.2.2.2.1 > (4 : Int))))) (fun (v19 : Bool) => (cond v19 (cond (((v2.1.length : Nat) : Int) == (0 : Int)) (cond (v2.2 == (1 : Int)) (Option.bind (F33 (v0.1, (v0.2.1, v0.2.2))) (fun (v20 : (List ByteArray)) => (Option.bind (F32 (v3, v20)) (fun (v21 : Bool) => (cond v21 (Option.bind (F14 ()) (fun (v22 : Bool) => (some (.inr v22)))) (some (.inr false))))))) (some (.inr false))) (some (.inr false))) (some (.inl ()))))) (fun (v23 : Unit) => (Option.bind (F35 ((v0.1, (v0.2.1, v0.2.2)), v.1.2.2.2.2.2.2.2.1)) (fun (v24 : (List ty1)) => (Option.bind (F34 (v2.1, v24)) (fun (v25 : Bool) => (cond v25 (cond (v2.2 == (0 : Int)) (Option.bind (F33 (v0.1, (v0.2.1, v0.2.2))) (fun (v26 : (List ByteArray)) => (Option.bind (F32 (v3, v26)) (fun (v27 : Bool) => (cond v27 (Option.bind (F14 ()) (fun (v28 : Bool) => (some v28))) (some false)))))) (some false)) (some false))))))))))))))))))))))) := by kernel_rfl
end Go.Proofs.Ytoblcfkmggbheaa.VL
end
section
namespace Go.Proofs.Ytoblcfkmggbheaa.VL
open Go
set_option linter.unusedVariables false
set_option linter.unusedSectionVars false
variable [Val]
theorem wi {x : Int} (h0 : -9223372036854775808 ≤ x) (h1 : x ≤ 9223372036854775807) : IntKind.wrap .i64 x = x := by rw [IntKind.wrap_i64]; omega
theorem wu {x : Int} (h0 : 0 ≤ x) (h1 : x ≤ 18446744073709551615) : IntKind.wrap .u64 x = x := by
 simp only [IntKind.wrap, IntKind.bits, IntKind.signed]
 have : x % (2 ^ 64 : Int) = x := Int.emod_eq_of_lt h0 (by omega)
 simp only [this, Bool.false_and]
 rfl
theorem joinX_l {α R : Type} (v : α) (k : α → Option R) : joinX (some (.inl v)) k = k v := rfl
theorem loopX_spec {σ ρ : Type} {f : σ → Option (σ ⊕ ρ)} (I : σ → Prop) (m : σ → Nat) (g : σ → ρ)
  (h : ∀ s, I s → f s = some (.inr (g s)) ∨ ∃ s', f s = some (.inl s') ∧ I s' ∧ m s' < m s ∧ g s' = g s) : ∀ (s : σ), I s → loopX f s = some (g s) := by
 have key : ∀ (n : Nat) (s : σ), m s ≤ n → I s → loopX f s = some (g s) := by
  intro n
  induction n with
  | zero =>
   intro s hn hs
   rw [loopX_eq]
   rcases h s hs with h1 | ⟨s', h1, h2, h3, h4⟩
   ·rw [h1]
   ·omega
  | succ n ih =>
   intro s hn hs
   rw [loopX_eq]
   rcases h s hs with h1 | ⟨s', h1, h2, h3, h4⟩
   ·rw [h1]
   ·rw [h1]
    simp only
    rw [ih s' (by omega) h2, h4]
 exact fun s hs => key (m s) s (Nat.le_refl _) hs
theorem loop_nat {ρ : Type} {f : Int → Option (Int ⊕ ρ)} (n : Nat) (g : Nat → ρ) (hend : f (n : Int) = some (.inr (g n)))
  (hstep : ∀ i : Nat, i < n → f (i : Int) = some (.inr (g i)) ∨ (f (i : Int) = some (.inl ((i + 1 : Nat) : Int)) ∧ g (i + 1) = g i)) (i : Nat) (hi : i ≤ n) : loopX f (i : Int) = some (g i) := by
 have := loopX_spec (f := f) (fun s => 0 ≤ s ∧ s ≤ n) (fun s => n - s.toNat) (fun s => g s.toNat) (fun s hs => ?_) (i : Int) ⟨by omega, by omega⟩
 ·simpa using this
 ·obtain ⟨k, rfl⟩ : ∃ k : Nat, s = k := ⟨s.toNat, by omega⟩
  have hk : k ≤ n := by omega
  simp only [Int.toNat_natCast]
  by_cases he : k = n
  ·subst he; exact .inl hend
  ·rcases hstep k (by omega) with h1 | ⟨h1, h2⟩
   ·exact .inl h1
   ·refine .inr ⟨_, h1, ⟨by omega, by omega⟩, by simp only [Int.toNat_natCast]; omega, by simp only [Int.toNat_natCast]; exact h2⟩
theorem loop_acc {A ρ : Type} {f : Int × A → Option ((Int × A) ⊕ ρ)} (n : Nat) (I : Nat → A → Prop) (g : Nat → A → ρ) (hend : ∀ a, I n a → f ((n : Int), a) = some (.inr (g n a)))
  (hstep : ∀ (i : Nat) (a : A), i < n → I i a → f ((i : Int), a) = some (.inr (g i a)) ∨ ∃ a', f ((i : Int), a) = some (.inl (((i + 1 : Nat) : Int), a')) ∧ I (i + 1) a' ∧ g (i + 1) a' = g i a) (i : Nat) (a : A) (hi : i ≤ n) (ha : I i a) :
  loopX f ((i : Int), a) = some (g i a) := by
 have := loopX_spec (f := f) (fun s => 0 ≤ s.1 ∧ s.1 ≤ n ∧ I s.1.toNat s.2) (fun s => n - s.1.toNat) (fun s => g s.1.toNat s.2) (fun s hs => ?_) ((i : Int), a) ⟨by simp, by simp; omega, by simpa using ha⟩
 ·simpa using this
 ·obtain ⟨s1, s2⟩ := s
  simp only at hs
  obtain ⟨k, rfl⟩ : ∃ k : Nat, s1 = k := ⟨s1.toNat, by omega⟩
  have hk : k ≤ n := by omega
  simp only [Int.toNat_natCast] at hs ⊢
  by_cases he : k = n
  ·subst he; exact .inl (hend _ hs.2.2)
  ·rcases hstep k s2 (by omega) hs.2.2 with h1 | ⟨a', h1, h2, h3⟩
   ·exact .inl h1
   ·refine .inr ⟨_, h1, ⟨by omega, by omega, by simpa using h2⟩, by simp only [Int.toNat_natCast]; omega, by simp only [Int.toNat_natCast]; exact h3⟩
theorem range_all_succ (ok : Nat → Bool) (n : Nat) : (List.range (n + 1)).all ok = ((List.range n).all ok && ok n) := by
 rw [List.range_succ, List.all_append]; simp
theorem loop_allS {A ρ : Type} {f : Int × A → Option ((Int × A) ⊕ ρ)} {n : Nat} (st : Nat → A) (ok : Nat → Bool) (bad : ρ) (good : ρ) (hend : f ((n : Int), st n) = some (.inr good))
  (hstep : ∀ i : Nat, i < n → (∀ j, j < i → ok j = true) → f ((i : Int), st i) = if ok i = true then some (.inl (((i + 1 : Nat) : Int), st (i + 1))) else some (.inr bad)) :
  loopX f ((0 : Int), st 0) = some (if (List.range n).all ok = true then good else bad) := by
 classical
 have := loop_acc (f := f) n (fun i a => a = st i ∧ ∀ j, j < i → ok j = true) (fun i a => if ∀ j, i ≤ j → j < n → ok j = true then good else bad) ?_ ?_ 0 (st 0) (Nat.zero_le _) ⟨rfl, fun j hj => by omega⟩
 ·have e0 : ((0 : Nat) : Int) = 0 := rfl
  rw [e0] at this
  rw [this]
  congr 1
  have e : (∀ j, 0 ≤ j → j < n → ok j = true) ↔ (List.range n).all ok = true := by
   simp [List.all_eq_true]
  by_cases h : (List.range n).all ok = true
  ·rw [if_pos h, if_pos (e.2 h)]
  ·rw [if_neg h, if_neg (fun q => h (e.1 q))]
 ·rintro a ⟨rfl, _⟩
  rw [hend, if_pos (fun j h1 h2 => by omega)]
 ·rintro i a hi ⟨rfl, ha⟩
  rw [hstep i hi ha]
  by_cases h : ok i = true
  ·rw [if_pos h]
   refine .inr ⟨_, rfl, ⟨rfl, fun j hj => ?_⟩, ?_⟩
   ·rcases Nat.lt_or_eq_of_le (Nat.le_of_lt_succ hj) with h1 | h1
    ·exact ha j h1
    ·rw [h1]; exact h
   ·have e : (∀ j, i + 1 ≤ j → j < n → ok j = true) ↔ (∀ j, i ≤ j → j < n → ok j = true) := by
     constructor
     ·intro q j h1 h2
      rcases Nat.lt_or_eq_of_le h1 with h3 | h3
      ·exact q j h3 h2
      ·rw [← h3]; exact h
     ·intro q j h1 h2; exact q j (by omega) h2
    by_cases hq : ∀ j, i ≤ j → j < n → ok j = true
    ·rw [if_pos hq, if_pos (e.2 hq)]
    ·rw [if_neg hq, if_neg (fun q => hq (e.1 q))]
  ·rw [if_neg h]
   left
   rw [if_neg (fun q => h (q i (Nat.le_refl _) hi))]
theorem loop_all {ρ : Type} {f : Int → Option (Int ⊕ ρ)} {n : Nat} (ok : Nat → Bool) (bad good : ρ) (hend : f (n : Int) = some (.inr good))
  (hstep : ∀ i : Nat, i < n → (∀ j, j < i → ok j = true) → f (i : Int) = if ok i = true then some (.inl ((i + 1 : Nat) : Int)) else some (.inr bad)) :
  loopX f (0 : Int) = some (if (List.range n).all ok = true then good else bad) := by
 classical
 have key : ∀ i : Nat, i ≤ n → (∀ j, j < i → ok j = true) → loopX f (i : Int) = some (if ∀ j, i ≤ j → j < n → ok j = true then good else bad) := by
  intro i hi
  generalize hd : n - i = d
  induction d generalizing i with
  | zero =>
   intro ha
   have : i = n := by omega
   subst this
   rw [loopX_eq, hend, if_pos (fun j h1 h2 => by omega)]
  | succ d ih =>
   intro ha
   rw [loopX_eq, hstep i (by omega) ha]
   by_cases h : ok i = true
   ·rw [if_pos h]
    simp only
    rw [ih (i + 1) (by omega) (by omega) (fun j hj => by
     rcases Nat.lt_or_eq_of_le (Nat.le_of_lt_succ hj) with h1 | h1
     ·exact ha j h1
     ·rw [h1]; exact h)]
    have e : (∀ j, i + 1 ≤ j → j < n → ok j = true) ↔ (∀ j, i ≤ j → j < n → ok j = true) := by
     constructor
     ·intro q j h1 h2
      rcases Nat.lt_or_eq_of_le h1 with h3 | h3
      ·exact q j h3 h2
      ·rw [← h3]; exact h
     ·intro q j h1 h2; exact q j (by omega) h2
    by_cases hq : ∀ j, i ≤ j → j < n → ok j = true
    ·rw [if_pos hq, if_pos (e.2 hq)]
    ·rw [if_neg hq, if_neg (fun q => hq (e.1 q))]
   ·rw [if_neg h]
    simp only
    rw [if_neg (fun q => h (q i (Nat.le_refl _) (by omega)))]
 have := key 0 (Nat.zero_le _) (fun j hj => by omega)
 have e0 : ((0 : Nat) : Int) = 0 := rfl
 rw [e0] at this
 rw [this]
 congr 1
 have e : (∀ j, 0 ≤ j → j < n → ok j = true) ↔ (List.range n).all ok = true := by simp [List.all_eq_true]
 by_cases h : (List.range n).all ok = true
 ·rw [if_pos h, if_pos (e.2 h)]
 ·rw [if_neg h, if_neg (fun q => h (e.1 q))]
theorem loop_gather {β ρ : Type} {f : Int × List β → Option ((Int × List β) ⊕ ρ)} {n : Nat} (h : Nat → List β) (fin : List β → ρ) (hl : ∀ i, (h i).length ≤ 1)
  (hend : ∀ a : List β, a.length ≤ n → f ((n : Int), a) = some (.inr (fin a))) (hstep : ∀ (i : Nat) (a : List β), i < n → a.length ≤ i → f ((i : Int), a) = some (.inl (((i + 1 : Nat) : Int), a ++ h i))) :
  loopX f ((0 : Int), []) = some (fin ((List.range n).flatMap h)) := by
 have key : ∀ (d i : Nat) (a : List β), n - i = d → i ≤ n → a.length ≤ i → loopX f ((i : Int), a) = some (fin (a ++ (List.range' i d).flatMap h)) := by
  intro d
  induction d with
  | zero =>
   intro i a hd hi ha
   have : i = n := by omega
   subst this
   rw [loopX_eq, hend a ha]; simp
  | succ d ih =>
   intro i a hd hi ha
   rw [loopX_eq, hstep i a (by omega) ha]
   simp only
   rw [ih (i + 1) _ (by omega) (by omega) (by rw [List.length_append]; have := hl i; omega), List.range'_succ]
   simp
 have := key n 0 [] (by omega) (Nat.zero_le _) (Nat.le_refl _)
 have e0 : ((0 : Nat) : Int) = 0 := rfl
 rw [e0] at this
 rw [this, List.range_eq_range']; simp
def cntP (p : Nat → Bool) : Nat → Nat
 | 0 => 0
 | n + 1 => cntP p n + (if p n = true then 1 else 0)
theorem cntP_le (p : Nat → Bool) : ∀ n, cntP p n ≤ n
 | 0 => Nat.le_refl _
 | n + 1 => by have := cntP_le p n; simp only [cntP]; split <;> omega
theorem cntP_at {p : Nat → Bool} : ∀ {n c : Nat}, c ≤ n → (∀ k, k < c → p k = true) → (∀ k, c ≤ k → k < n → p k = false) → cntP p n = c
 | 0, c, h, _, _ => by simp only [cntP]; omega
 | n + 1, c, h, h1, h2 => by
  simp only [cntP]
  by_cases hc : c = n + 1
  ·have := cntP_at (n := n) (c := n) (Nat.le_refl _) (fun k hk => h1 k (by omega)) (fun k q1 q2 => by omega)
   rw [this, if_pos (h1 n (by omega))]; omega
  ·have := cntP_at (n := n) (c := c) (by omega) h1 (fun k q1 q2 => h2 k q1 (by omega))
   rw [this, h2 n (by omega) (by omega)]; simp
theorem loop_bs {f : Int × Int → Option ((Int × Int) ⊕ Int)} {n : Nat} (p : Nat → Bool) (hmono : ∀ i j, i ≤ j → j < n → p j = true → p i = true)
  (hend : ∀ i : Nat, i ≤ n → f ((i : Int), (i : Int)) = some (.inr (i : Int)))
  (hstep : ∀ i j : Nat, i < j → j ≤ n → f ((i : Int), (j : Int)) = if p ((i + j) / 2) = true then some (.inl ((((i + j) / 2 + 1 : Nat) : Int), (j : Int))) else some (.inl ((i : Int), (((i + j) / 2 : Nat) : Int)))) :
  loopX f ((0 : Int), (n : Int)) = some ((cntP p n : Nat) : Int) := by
 have := loopX_spec (f := f) (fun s => ∃ i j : Nat, s = ((i : Int), (j : Int)) ∧ i ≤ j ∧ j ≤ n ∧ (∀ k, k < i → p k = true) ∧ (∀ k, j ≤ k → k < n → p k = false)) (fun s => s.2.toNat - s.1.toNat) (fun _ => ((cntP p n : Nat) : Int)) ?_ ((0 : Int), (n : Int)) ⟨0, n, rfl, Nat.zero_le _, Nat.le_refl _, fun k hk => by omega, fun k h1 h2 => by omega⟩
 ·exact this
 ·rintro s ⟨i, j, rfl, h1, h2, h3, h4⟩
  by_cases hij : i = j
  ·subst hij
   left
   rw [hend i h2, cntP_at h2 h3 h4]
  ·right
   rw [hstep i j (by omega) h2]
   by_cases hp : p ((i + j) / 2) = true
   ·rw [if_pos hp]
    refine ⟨_, rfl, ⟨_, _, rfl, by omega, h2, fun k hk => hmono k ((i + j) / 2) (by omega) (by omega) hp, h4⟩, by simp only [Int.toNat_natCast]; omega, rfl⟩
   ·rw [if_neg hp]
    refine ⟨_, rfl, ⟨_, _, rfl, by omega, by omega, h3, fun k hk hkn => ?_⟩, by simp only [Int.toNat_natCast]; omega, rfl⟩
    rw [Bool.eq_false_iff]
    intro hpk
    exact hp (hmono ((i + j) / 2) k hk hkn hpk)
theorem xs : (∀ {α : Type} (a b : α), cond true a b = a) ∧ (∀ {α : Type} (a b : α), cond false a b = b) ∧ (∀ {α β : Type} (a : α) (f : α → Option β), (some a).bind f = f a) ∧ (∀ {α β : Type} (a : α) (f : α → β), (some a).map f = some (f a)) ∧
 (∀ {α R : Type} (v : α) (k : α → Option R), joinX (some (.inl v)) k = k v) ∧ (∀ {α R : Type} (r : R) (k : α → Option R), joinX (some (.inr r)) k = some r) ∧ (∀ (h : Decidable True), @decide True h = true) ∧ (∀ (h : Decidable False), @decide False h = false) ∧ ((!true) = false) ∧ ((!false) = true) ∧ (∀ b : Bool, (b && true) = b) ∧ (∀ b : Bool, (true && b) = b) ∧ (∀ b : Bool, (b && b) = b) ∧ (∀ b : Bool, (false && b) = false) ∧ (∀ b : Bool, (b && false) = false) ∧ (∀ b : Bool, (true || b) = true) ∧ (∀ b : Bool, (b || true) = true) ∧ (∀ b : Bool, (false || b) = b) ∧ (∀ b : Bool, (b || false) = b) ∧ (∀ {α : Type} (a b : List α), Append.append a b = a ++ b) ∧ (∀ {α : Type} (a b : List α), (a ++ b).length = a.length + b.length) ∧ (∀ {α : Type} (a : α) (b : List α), (a :: b).length = b.length + 1) ∧ (∀ {α : Type}, ([] : List α).length = 0) ∧ (∀ n : Nat, 0 + n = n) ∧ (∀ n : Nat, n + 0 = n) ∧ (∀ n : Nat, ((n : Int)).toNat = n) ∧ (∀ n : Nat, (n ≤ n) = True) ∧ (∀ n : Int, (n ≤ n) = True) ∧ (∀ {α : Type} (a : List α), a.take a.length = a) ∧ (∀ {α : Type} (a b : α), (some a).getD b = a) ∧ (∀ {α : Type} (b : α), (none : Option α).getD b = b) ∧ (∀ {α : Type} (a b : α), (if True then a else b) = a) ∧ (∀ {α : Type} (a b : α), (if False then a else b) = b) ∧ ((false = true) = False) ∧ ((true = false) = False) := by
 refine ⟨fun _ _ => rfl, fun _ _ => rfl, fun _ _ => rfl, fun _ _ => rfl, fun _ _ => rfl, fun _ _ => rfl, fun _ => by simp, fun _ => by simp, rfl, rfl, ?_, ?_, ?_, ?_, ?_, ?_, ?_, ?_, ?_, fun _ _ => rfl, fun _ _ => List.length_append, fun _ _ => rfl, rfl, Nat.zero_add, fun _ => rfl, fun _ => rfl, fun _ => eq_true (Nat.le_refl _), fun _ => eq_true (Int.le_refl _), fun _ => List.take_length, fun _ _ => rfl, fun _ => rfl, fun _ _ => by simp, fun _ _ => by simp, by simp, by simp⟩ <;> (intro b; cases b <;> rfl)
end Go.Proofs.Ytoblcfkmggbheaa.VL
end
section
namespace Go.Proofs.Ytoblcfkmggbheaa.VL
open Go
set_option linter.unusedVariables false
set_option linter.unusedSectionVars false
set_option linter.unusedSimpArgs false
theorem bl_irrefl : ∀ x : List UInt8, Op.bytesLess x x = false
 | [] => rfl
 | a :: x => by
  have : ¬ (a < a) := by rw [UInt8.lt_iff_toNat_lt]; omega
  simp [Op.bytesLess, this, bl_irrefl x]
theorem bl_trans : ∀ {x y z : List UInt8}, Op.bytesLess x y = true → Op.bytesLess y z = true → Op.bytesLess x z = true
 | _, _, [], _, h => by cases ‹List UInt8› <;> simp [Op.bytesLess] at h
 | [], _, _ :: _, _, _ => rfl
 | _ :: _, [], _ :: _, h, _ => by simp [Op.bytesLess] at h
 | a :: x, b :: y, c :: z, h, k => by
  simp only [Op.bytesLess, Bool.or_eq_true, decide_eq_true_eq, Bool.and_eq_true, beq_iff_eq] at h k ⊢
  rcases h with h | ⟨rfl, h⟩
  ·rcases k with k | ⟨rfl, k⟩
   ·left; rw [UInt8.lt_iff_toNat_lt] at *; omega
   ·left; exact h
  ·rcases k with k | ⟨rfl, k⟩
   ·left; exact k
   ·right; exact ⟨rfl, bl_trans h k⟩
theorem bl_tri : ∀ x y : List UInt8, Op.bytesLess x y = true ∨ x = y ∨ Op.bytesLess y x = true
 | [], [] => .inr (.inl rfl)
 | [], _ :: _ => .inl rfl
 | _ :: _, [] => .inr (.inr rfl)
 | a :: x, b :: y => by
  simp only [Op.bytesLess, Bool.or_eq_true, decide_eq_true_eq, Bool.and_eq_true, beq_iff_eq, List.cons.injEq]
  rcases Nat.lt_trichotomy a.toNat b.toNat with h | h | h
  ·left; left; rw [UInt8.lt_iff_toNat_lt]; exact h
  ·have h := UInt8.toNat_inj.1 h
   subst h
   rcases bl_tri x y with h | h | h
   ·exact .inl (.inr ⟨rfl, h⟩)
   ·exact .inr (.inl ⟨rfl, h⟩)
   ·exact .inr (.inr (.inr ⟨rfl, h⟩))
  ·right; right; left; rw [UInt8.lt_iff_toNat_lt]; exact h
theorem bl_asymm {x y : List UInt8} (h : Op.bytesLess x y = true) : Op.bytesLess y x = false := by
 rw [Bool.eq_false_iff]
 intro k
 have := bl_trans h k
 rw [bl_irrefl] at this; cases this
theorem toList_loop (s : ByteArray) : ∀ (n i : Nat) (r : List UInt8), s.size - i = n → i ≤ s.size → ByteArray.toList.loop s i r = r.reverse ++ (s.data.toList.drop i) := by
 intro n
 induction n with
 | zero =>
  intro i r h hi
  have : i = s.size := by omega
  unfold ByteArray.toList.loop
  rw [if_neg (by omega), List.drop_eq_nil_of_le (by rw [Array.length_toList]; show s.size ≤ i; omega), List.append_nil]
 | succ n ih =>
  intro i r h hi
  unfold ByteArray.toList.loop
  rw [if_pos (by omega), ih (i + 1) _ (by omega) (by omega)]
  have hlt : i < s.data.toList.length := by rw [Array.length_toList]; show i < s.size; omega
  have e : s.get! i = s.data.toList[i] := by
   show s.data[i]! = _
   rw [getElem!_pos s.data i (by rw [Array.length_toList] at hlt; exact hlt)]
   simp
  rw [List.reverse_cons, List.append_assoc, List.singleton_append, e, List.drop_eq_getElem_cons hlt]
theorem toList_data (s : ByteArray) : s.toList = s.data.toList := by
 have := toList_loop s (s.size - 0) 0 [] rfl (Nat.zero_le _)
 unfold ByteArray.toList
 rw [this]; simp
theorem toList_inj {a b : ByteArray} (h : a.toList = b.toList) : a = b := by
 rw [toList_data, toList_data] at h
 cases a; cases b
 simp only [ByteArray.mk.injEq]
 exact Array.toList_inj.1 h
theorem toList_len (s : ByteArray) : s.toList.length = s.size := by rw [toList_data, Array.length_toList]; rfl
theorem toList_nil (s : ByteArray) : (s.toList == (ByteArray.mk #[]).toList) = decide (s.size = 0) := by
 have h0 : (ByteArray.mk #[]).toList = [] := by rw [toList_data]
 rw [h0, Bool.eq_iff_iff, beq_iff_eq, decide_eq_true_iff, ← toList_len]
 exact List.length_eq_zero_iff.symm
theorem ba_get {s : ByteArray} {i : Nat} (h : i < s.size) : s[(Int.toNat (i : Int))]? = some (s.get! i) := by
 rw [Int.toNat_natCast]
 have e : s.get! i = s[i]'h := by
  show s.data[i]! = _
  rw [getElem!_pos s.data i h]
  first | done | rfl
 rw [e]
 exact getElem?_pos s i h
variable [Val]
def okB (n : Nat) : Bool := (decide (97 ≤ n) && decide (n ≤ 122)) || ((decide (48 ≤ n) && decide (n ≤ 57)) || decide (n = 45))
def nmB (s : ByteArray) : Bool := (List.range s.size).all (fun i => okB (s.get! i).toNat) && (decide (1 ≤ s.size) && decide (s.size ≤ 20))
theorem rune_cond (n : Nat) {R : Type} (a b : Option R) : (Option.bind (cond (decide ((97 : Int) ≤ (n : Int))) (cond (decide ((n : Int) ≤ (122 : Int))) (some false) (cond (decide ((48 : Int) ≤ (n : Int))) (cond (decide ((n : Int) ≤ (57 : Int))) (some false) (some (!((n : Int) == (45 : Int))))) (some (!((n : Int) == (45 : Int)))))) (cond (decide ((48 : Int) ≤ (n : Int))) (cond (decide ((n : Int) ≤ (57 : Int))) (some false) (some (!((n : Int) == (45 : Int))))) (some (!((n : Int) == (45 : Int)))))) (fun (v1 : Bool) => cond v1 a b)) = if okB n = true then b else a := by
 have e45 : ((n : Int) == (45 : Int)) = decide (n = 45) := by rw [Bool.eq_iff_iff, beq_iff_eq, decide_eq_true_iff]; omega
 have e1 : decide ((97 : Int) ≤ (n : Int)) = decide (97 ≤ n) := by rw [Bool.eq_iff_iff, decide_eq_true_iff, decide_eq_true_iff]; omega
 have e2 : decide ((n : Int) ≤ (122 : Int)) = decide (n ≤ 122) := by rw [Bool.eq_iff_iff, decide_eq_true_iff, decide_eq_true_iff]; omega
 have e3 : decide ((48 : Int) ≤ (n : Int)) = decide (48 ≤ n) := by rw [Bool.eq_iff_iff, decide_eq_true_iff, decide_eq_true_iff]; omega
 have e4 : decide ((n : Int) ≤ (57 : Int)) = decide (n ≤ 57) := by rw [Bool.eq_iff_iff, decide_eq_true_iff, decide_eq_true_iff]; omega
 rw [e45, e1, e2, e3, e4]
 unfold okB
 cases decide (97 ≤ n) <;> cases decide (n ≤ 122) <;> cases decide (48 ≤ n) <;> cases decide (n ≤ 57) <;> cases decide (n = 45) <;> rfl
theorem runes_loop {s : ByteArray} {f : ByteArray × Nat → Option ((ByteArray × Nat) ⊕ (Unit ⊕ Bool))}
  (hend : ∀ pos, s.size ≤ pos → f (s, pos) = some (.inr (.inl ()))) (hstep : ∀ pos, pos < s.size → f (s, pos) = if okB (Utf8.decode s pos).1 = true then some (.inl (s, pos + (Utf8.decode s pos).2)) else some (.inr (.inr false))) :
  loopX f (s, 0) = some (if (List.range s.size).all (fun i => okB (s.get! i).toNat) = true then .inl () else .inr false) := by
 classical
 have gm : ∀ i (h : i < s.size), s.get! i = s[i]'h := by
  intro i h
  show s.data[i]! = _
  rw [getElem!_pos s.data i h]; rfl
 have := loopX_spec (f := f) (fun x => x.1 = s ∧ ∀ j, j < x.2 → j < s.size → okB (s.get! j).toNat = true) (fun x => s.size - x.2) (fun x => if ∀ j, x.2 ≤ j → j < s.size → okB (s.get! j).toNat = true then .inl () else .inr false) ?_ (s, 0) ⟨rfl, fun j hj => by simp at hj⟩
 ·rw [this]
  have e : (∀ j, 0 ≤ j → j < s.size → okB (s.get! j).toNat = true) ↔ (List.range s.size).all (fun i => okB (s.get! i).toNat) = true := by simp [List.all_eq_true]
  congr 1
  by_cases h : (List.range s.size).all (fun i => okB (s.get! i).toNat) = true
  ·rw [if_pos h, if_pos (e.2 h)]
  ·rw [if_neg h, if_neg (fun q => h (e.1 q))]
 ·rintro ⟨s', pos⟩ ⟨h1, h2⟩
  simp only at h1 h2 ⊢
  subst h1
  by_cases hp : s'.size ≤ pos
  ·left
   rw [hend pos hp, if_pos (fun j q1 q2 => by omega)]
  ·have hlt : pos < s'.size := by omega
   rw [hstep pos hlt]
   by_cases ha : (s'[pos]'hlt).toNat < 128
   ·have hd := decode_ascii s' pos hlt ha
    rw [hd]
    simp only
    rw [← gm pos hlt]
    by_cases hok : okB (s'.get! pos).toNat = true
    ·rw [if_pos hok]
     right
     refine ⟨_, rfl, ⟨rfl, fun j hj hj2 => ?_⟩, by simp only; omega, ?_⟩
     ·rcases Nat.lt_or_eq_of_le (Nat.le_of_lt_succ hj) with q | q
      ·exact h2 j q hj2
      ·rw [q]; exact hok
     ·simp only
      have e : (∀ j, pos + 1 ≤ j → j < s'.size → okB (s'.get! j).toNat = true) ↔ (∀ j, pos ≤ j → j < s'.size → okB (s'.get! j).toNat = true) := by
       constructor
       ·intro q j h1 h2
        rcases Nat.lt_or_eq_of_le h1 with h3 | h3
        ·exact q j h3 h2
        ·rw [← h3]; exact hok
       ·intro q j h1 h2; exact q j (by omega) h2
      by_cases hq : ∀ j, pos ≤ j → j < s'.size → okB (s'.get! j).toNat = true
      ·rw [if_pos hq, if_pos (e.2 hq)]
      ·rw [if_neg hq, if_neg (fun q => hq (e.1 q))]
    ·rw [if_neg hok]
     left
     rw [if_neg (fun q => hok (q pos (Nat.le_refl _) hlt))]
   ·have hd := decode_high s' pos hlt (by omega)
    have hbad : ∀ n, 128 ≤ n → okB n = false := by
     intro n hn
     unfold okB
     have a1 : decide (n ≤ 122) = false := by rw [decide_eq_false_iff_not]; omega
     have a2 : decide (n ≤ 57) = false := by rw [decide_eq_false_iff_not]; omega
     have a3 : decide (n = 45) = false := by rw [decide_eq_false_iff_not]; omega
     rw [a1, a2, a3]
     cases decide (97 ≤ n) <;> cases decide (48 ≤ n) <;> rfl
    rw [hbad _ hd.1]
    left
    rw [if_neg (by simp), if_neg]
    intro q
    have := q pos (Nat.le_refl _) hlt
    rw [gm pos hlt, hbad _ (by omega)] at this
    cases this
theorem octets_loop {s : ByteArray} {ρ : Type} {good bad : ρ} {f : Int → Option (Int ⊕ ρ)} (hend : f (s.size : Int) = some (.inr good))
  (hstep : ∀ i : Nat, i < s.size → f (i : Int) = if okB (s.get! i).toNat = true then some (.inl ((i + 1 : Nat) : Int)) else some (.inr bad)) :
  loopX f 0 = some (if (List.range s.size).all (fun i => okB (s.get! i).toNat) = true then good else bad) :=
 loop_all _ _ _ hend (fun i hi _ => hstep i hi)
end Go.Proofs.Ytoblcfkmggbheaa.VL
end
section
namespace Go.Proofs.Ytoblcfkmggbheaa.VL
open Go
set_option linter.unusedVariables false
set_option linter.unusedSectionVars false
set_option linter.unusedSimpArgs false
variable [Val]
theorem sz_ok {s : ByteArray} (h : s.size ≤ maxLen) : s.size ≤ 9223372036854775807 := by unfold maxLen at h; omega
theorem F46_ok {s : ByteArray} (hs : s.size ≤ maxLen) : F46 s = some (nmB s) := by
 rw [F46_eq, runes_loop]
 ·unfold nmB
  rw [toList_nil]
  cases (List.range s.size).all (fun i => okB (s.get! i).toNat)
  ·rfl
  ·simp only [if_true, joinX_l, Bool.true_and]
   by_cases h0 : s.size = 0
   ·simp [h0]
   ·have e1 : decide (1 ≤ s.size) = true := by rw [decide_eq_true_iff]; omega
    have e2 : decide (((s.size : Nat) : Int) ≤ 20) = decide (s.size ≤ 20) := by rw [Bool.eq_iff_iff, decide_eq_true_iff, decide_eq_true_iff]; omega
    simp only [h0, decide_false, Bool.not_false, cond_true, e1, e2, Bool.true_and]
 ·intro pos hp
  have : ¬ pos < s.size := by omega
  simp only [this, decide_false, cond_false]
 ·intro pos hp
  simp only [hp, decide_true, cond_true]
  exact rune_cond _ _ _
theorem F51_ok {s : ByteArray} (hs : s.size ≤ maxLen) : F51 s = some (nmB s) := by
 rw [F51_eq, octets_loop (good := Sum.inl ()) (bad := Sum.inr false)]
 ·unfold nmB
  cases (List.range s.size).all (fun i => okB (s.get! i).toNat)
  ·rfl
  ·simp only [if_true, joinX_l, Bool.true_and]
   have e1 : decide ((1 : Int) ≤ ((s.size : Nat) : Int)) = decide (1 ≤ s.size) := by rw [Bool.eq_iff_iff, decide_eq_true_iff, decide_eq_true_iff]; omega
   have e2 : decide (((s.size : Nat) : Int) ≤ 20) = decide (s.size ≤ 20) := by rw [Bool.eq_iff_iff, decide_eq_true_iff, decide_eq_true_iff]; omega
   rw [e1, e2]
   cases decide (1 ≤ s.size) <;> rfl
 ·have : ¬ (s.size : Int) < (s.size : Int) := by omega
  simp only [this, decide_false, cond_false]
 ·intro i hi
  have h1 : (i : Int) < (s.size : Int) := by omega
  have h2 : (0 : Int) ≤ (i : Int) := by omega
  have hw : IntKind.wrap .i64 ((i : Int) + 1) = ((i + 1 : Nat) : Int) := by have := sz_ok hs; rw [wi (by omega) (by omega)]; omega
  simp only [h1, h2, decide_true, cond_true, ba_get hi, Option.bind_some, hw]
  rw [rune_cond]
  split <;> rfl
end Go.Proofs.Ytoblcfkmggbheaa.VL
end
section
namespace Go.Proofs.Ytoblcfkmggbheaa.VL
open Go
set_option linter.unusedVariables false
set_option linter.unusedSectionVars false
set_option linter.unusedSimpArgs false
variable [Val]
abbrev TK := ByteArray × (Int × (Int × (Int × (Int × (Int × Int)))))
abbrev BK := Int × (Int × List TK)
theorem F47_ok (n a b : Int) : F47 (n, (a, b)) = some (decide (a ≤ n) && decide (n ≤ b)) := by
 rw [F47_eq]
 show cond (decide (a ≤ n)) (some (decide (n ≤ b))) (some false) = _
 cases decide (a ≤ n) <;> rfl
theorem F54_ok (n : Int) : F54 n = some (decide (0 ≤ n) && decide (n ≤ 63)) := by rw [F54_eq, F47_ok]; rfl
theorem F29_ok (c : Int × Int) : F29 c = some (if (decide (1 ≤ c.1) && decide (c.1 ≤ 100)) && (decide (1 ≤ c.2) && decide (c.2 ≤ 100)) then 0 else 1) := by
 rw [F29_eq]
 simp only [F47_ok c.1 1 100, F47_ok c.2 1 100, Option.bind_some]
 cases (decide (1 ≤ c.1) && decide (c.1 ≤ 100)) <;> cases (decide (1 ≤ c.2) && decide (c.2 ≤ 100)) <;> rfl
def capsB (c : Int × Int) : Bool := (decide (1 ≤ c.1) && decide (c.1 ≤ 100)) && (decide (1 ≤ c.2) && decide (c.2 ≤ 100))
theorem F12_ok (c : Int × Int) : F12 c = some (capsB c) := by
 rw [F12_eq]
 unfold capsB
 cases decide (1 ≤ c.1) <;> cases decide (c.1 ≤ 100) <;> cases decide (1 ≤ c.2) <;> rfl
def ownB (t : TK) : Bool := if (t.2.1 == 1) = true then ((decide (0 ≤ t.2.2.2.2.2.1) && decide (t.2.2.2.2.2.1 ≤ 63)) && decide (0 < t.2.2.2.1)) else (t.2.2.2.2.2.1 == -1) && (t.2.2.2.2.2.2 == 0)
def taskB (t : TK) (g : Int) : Bool :=
 nmB t.1 && ((decide (0 ≤ t.2.1) && decide (t.2.1 ≤ 4)) && ((decide (0 ≤ t.2.2.1) && decide (t.2.2.1 ≤ 9)) && (decide (t.2.2.2.1 ≤ g) && (((t.2.2.2.1 == 0) == (t.2.2.2.2.1 == 0)) && ((decide (0 ≤ t.2.2.2.2.1) && decide (t.2.2.2.2.1 ≤ 100)) && ownB t)))))
theorem F57_ok {t : TK} {g : Int} (hs : t.1.size ≤ maxLen) : F57 (t, g) = some (!taskB t g) := by
 rw [F57_eq]
 simp only [F46_ok hs, F47_ok t.2.1 0 4, F47_ok t.2.2.1 0 9, F47_ok t.2.2.2.2.1 0 100, F54_ok, Option.bind_some]
 unfold taskB ownB
 have e1 : decide (t.2.2.2.1 > g) = !decide (t.2.2.2.1 ≤ g) := by rw [Bool.eq_iff_iff, Bool.not_eq_true', decide_eq_true_iff, decide_eq_false_iff_not]; omega
 have e2 : decide (t.2.2.2.1 > 0) = decide (0 < t.2.2.2.1) := rfl
 rw [e1, e2]
 generalize (decide (0 ≤ t.2.2.2.2.2.1) && decide (t.2.2.2.2.2.1 ≤ 63)) = b1
 generalize (decide (0 ≤ t.2.1) && decide (t.2.1 ≤ 4)) = b2
 generalize (decide (0 ≤ t.2.2.1) && decide (t.2.2.1 ≤ 9)) = b3
 generalize (decide (0 ≤ t.2.2.2.2.1) && decide (t.2.2.2.2.1 ≤ 100)) = b4
 generalize decide (t.2.2.2.1 ≤ g) = b5
 generalize decide (0 < t.2.2.2.1) = b6
 generalize ((t.2.2.2.1 == 0) == (t.2.2.2.2.1 == 0)) = b7
 generalize (t.2.2.2.2.2.1 == -1) = b8
 generalize (t.2.2.2.2.2.2 == 0) = b9
 generalize nmB t.1 = b10
 generalize (t.2.1 == 1) = b11
 cases b10
 ·cases b8 <;> cases b11 <;> cases b1 <;> rfl
 cases b2
 ·cases b8 <;> cases b11 <;> cases b1 <;> rfl
 cases b3
 ·cases b8 <;> cases b11 <;> cases b1 <;> rfl
 cases b5
 ·cases b8 <;> cases b11 <;> cases b1 <;> rfl
 cases b7
 ·cases b8 <;> cases b11 <;> cases b1 <;> rfl
 cases b4
 ·cases b8 <;> cases b11 <;> cases b1 <;> rfl
 cases b8 <;> cases b11 <;> cases b1 <;> cases b6 <;> cases b9 <;> rfl
def ta (l : List TK) (i : Nat) : TK := l.getD i (⟨#[]⟩, 0, 0, 0, 0, 0, 0)
theorem ta_eq {l : List TK} {i : Nat} (h : i < l.length) : l[i] = ta l i := by
 unfold ta
 rw [List.getD_eq_getElem?_getD, List.getElem?_eq_getElem h]; rfl
theorem at_ta {l : List TK} {i : Nat} (h : i < l.length) : l[i]? = some (ta l i) := by rw [List.getElem?_eq_getElem h, ta_eq h]
def ltN (a b : ByteArray) : Bool := Op.bytesLess a.toList b.toList
def eqN (a b : ByteArray) : Bool := a.toList == b.toList
theorem ltN_asymm {a b : ByteArray} (h : ltN a b = true) : ltN b a = false := bl_asymm h
theorem ltN_trans {a b c : ByteArray} (h : ltN a b = true) (k : ltN b c = true) : ltN a c = true := bl_trans h k
theorem ltN_irrefl (a : ByteArray) : ltN a a = false := bl_irrefl _
theorem eqN_eq {a b : ByteArray} (h : eqN a b = true) : a = b := toList_inj (by unfold eqN at h; exact eq_of_beq h)
theorem eqN_refl (a : ByteArray) : eqN a a = true := by unfold eqN; exact beq_self_eq_true _
theorem tri (a b : ByteArray) : ltN a b = true ∨ a = b ∨ ltN b a = true := by
 rcases bl_tri a.toList b.toList with h | h | h
 ·exact .inl h
 ·exact .inr (.inl (toList_inj h))
 ·exact .inr (.inr h)
theorem eqN_of_lt {a b : ByteArray} (h : ltN a b = true) : eqN a b = false := by
 rw [Bool.eq_false_iff]; intro k; rw [eqN_eq k, ltN_irrefl] at h; cases h
theorem eqN_of_gt {a b : ByteArray} (h : ltN b a = true) : eqN a b = false := by
 rw [Bool.eq_false_iff]; intro k; rw [eqN_eq k, ltN_irrefl] at h; cases h
def okAt (l : List TK) (g : Int) (i : Nat) : Bool :=
 taskB (ta l i) g && ((decide (i = 0) || ltN (ta l (i - 1)).1 (ta l i).1) && (List.range i).all fun k => !(decide (0 < (ta l i).2.2.2.1) && ((ta l k).2.2.2.1 == (ta l i).2.2.2.1)))
def bookB (b : BK) : Bool := (List.range b.2.2.length).all (okAt b.2.2 b.2.1) && decide (b.2.2.length ≤ 100)
theorem mget_mput {k : IntKind} {vt : TT} (x y : Int) (v : vt.den) : ∀ l : List (Int × vt.den), mget (kt := .i k) (vt := vt) x (mput (kt := .i k) (vt := vt) y v l) = if x = y then some v else mget (kt := .i k) (vt := vt) x l
 | [] => by
  show cond (x == y) (some v) none = _
  by_cases h : x = y
  ·subst h; simp
  ·rw [if_neg h]
   have : (x == y) = false := by rw [beq_eq_false_iff_ne]; exact h
   rw [this]; rfl
 | p :: r => by
  have e1 : mput (kt := .i k) (vt := vt) y v (p :: r) = cond (y == p.1) ((y, v) :: r) (p :: mput (kt := .i k) (vt := vt) y v r) := rfl
  have e2 : ∀ q r', mget (kt := .i k) (vt := vt) x (q :: r') = cond (x == q.1) (some q.2) (mget (kt := .i k) (vt := vt) x r') := fun q r' => rfl
  rw [e1]
  by_cases hy : y = p.1
  ·have : (y == p.1) = true := by rw [beq_iff_eq]; exact hy
   rw [this, cond_true, e2, e2]
   by_cases h : x = y
   ·subst h; simp
   ·rw [if_neg h]
    have h1 : (x == y) = false := by rw [beq_eq_false_iff_ne]; exact h
    have h2 : (x == p.1) = false := by rw [beq_eq_false_iff_ne, ← hy]; exact h
    rw [h1, h2]; rfl
  ·have : (y == p.1) = false := by rw [beq_eq_false_iff_ne]; exact hy
   rw [this, cond_false, e2, e2, mget_mput x y v r]
   by_cases h : x = y
   ·subst h
    rw [if_pos rfl, if_pos rfl]
    show cond (x == p.1) _ _ = _
    rw [this, cond_false]
   ·rw [if_neg h, if_neg h]
def metM (l : List TK) : Nat → List (Int × Bool)
 | 0 => []
 | i + 1 => mput (kt := .i .u64) (vt := .b) (ta l i).2.2.2.1 (decide (0 < (ta l i).2.2.2.1)) (metM l i)
theorem met_get (l : List TK) (x : Int) : ∀ i, ((mget (kt := .i .u64) (vt := .b) x (metM l i)).getD false : Bool) = !(List.range i).all fun k => !(decide (0 < x) && ((ta l k).2.2.2.1 == x))
 | 0 => rfl
 | i + 1 => by
  rw [metM, mget_mput, range_all_succ]
  by_cases h : x = (ta l i).2.2.2.1
  ·rw [if_pos h, ← h]
   have : (x == x) = true := by simp
   rw [this, Option.getD_some]
   by_cases h0 : 0 < x
   ·simp [h0]
   ·simp [h0]
  ·rw [if_neg h, met_get l x i]
   have : ((ta l i).2.2.2.1 == x) = false := by rw [beq_eq_false_iff_ne]; exact fun e => h e.symm
   rw [this]; simp
def szB (b : BK) : Prop := b.2.2.length ≤ maxLen ∧ ∀ i, i < b.2.2.length → (ta b.2.2 i).1.size ≤ maxLen ∧ 0 ≤ (ta b.2.2 i).2.2.2.1
theorem len63 {n : Nat} (h : n ≤ maxLen) : n ≤ 9223372036854775807 := by unfold maxLen at h; omega
theorem F26_ok {b : BK} (hs : szB b) : F26 b = some (if bookB b = true then 0 else 1) := by
 obtain ⟨h1, h2⟩ := hs
 have h63 := len63 h1
 rw [F26_eq]
 show joinX (loopX _ ((0 : Int), metM b.2.2 0)) _ = _
 rw [loop_allS (n := b.2.2.length) (metM b.2.2) (okAt b.2.2 b.2.1) (Sum.inr 1) (Sum.inl (metM b.2.2 b.2.2.length))]
 ·unfold bookB
  have e : decide (((b.2.2.length : Nat) : Int) > 100) = !decide (b.2.2.length ≤ 100) := by rw [Bool.eq_iff_iff, Bool.not_eq_true', decide_eq_true_iff, decide_eq_false_iff_not]; omega
  cases (List.range b.2.2.length).all (okAt b.2.2 b.2.1)
  ·rfl
  ·simp only [if_true, joinX_l, e, Bool.true_and]
   cases decide (b.2.2.length ≤ 100) <;> rfl
 ·have : ¬ ((b.2.2.length : Nat) : Int) < ((b.2.2.length : Nat) : Int) := by omega
  simp -implicitDefEqProofs only [this, eq_self, xs]
 ·intro i hi _
  have q1 : ((i : Nat) : Int) < ((b.2.2.length : Nat) : Int) := by omega
  have q2 : (0 : Int) ≤ (i : Int) := by omega
  have hw : IntKind.wrap .i64 ((i : Int) + 1) = ((i + 1 : Nat) : Int) := by rw [wi (by omega) (by omega)]; omega
  have hF : F57 (((ta b.2.2 i).1, ((ta b.2.2 i).2.1, ((ta b.2.2 i).2.2.1, ((ta b.2.2 i).2.2.2.1, ((ta b.2.2 i).2.2.2.2.1, ((ta b.2.2 i).2.2.2.2.2.1, (ta b.2.2 i).2.2.2.2.2.2)))))), b.2.1) = some (!taskB (ta b.2.2 i) b.2.1) := F57_ok (h2 i hi).1
  have hm : ((mget (kt := .i .u64) (vt := .b) (ta b.2.2 i).2.2.2.1 (metM b.2.2 i)).getD false : Bool) = !(List.range i).all fun k => !(decide (0 < (ta b.2.2 i).2.2.2.1) && ((ta b.2.2 k).2.2.2.1 == (ta b.2.2 i).2.2.2.1)) := met_get _ _ _
  simp -implicitDefEqProofs only [q1, q2, at_ta hi, hF, hw, hm, eq_self, xs]
  have hst : metM b.2.2 (i + 1) = mput (kt := .i .u64) (vt := .b) (ta b.2.2 i).2.2.2.1 (decide ((ta b.2.2 i).2.2.2.1 > 0)) (metM b.2.2 i) := rfl
  rw [hst]
  unfold okAt
  cases ht : taskB (ta b.2.2 i) b.2.1
  ·rfl
  ·simp -implicitDefEqProofs only [eq_self, xs]
   by_cases h0 : i = 0
   ·subst h0
    rfl
   ·have q3 : (i : Int) > 0 := by omega
    have hw2 : IntKind.wrap .i64 ((i : Int) - 1) = ((i - 1 : Nat) : Int) := by rw [wi (by omega) (by omega)]; omega
    have q4 : (0 : Int) ≤ ((i - 1 : Nat) : Int) := by omega
    simp -implicitDefEqProofs only [q3, hw2, q4, at_ta (show i - 1 < b.2.2.length by omega), h0, eq_self, xs]
    have hl : Op.bytesLess (ByteArray.toList (ta b.2.2 (i - 1)).1) (ByteArray.toList (ta b.2.2 i).1) = ltN (ta b.2.2 (i - 1)).1 (ta b.2.2 i).1 := rfl
    rw [hl]
    cases ltN (ta b.2.2 (i - 1)).1 (ta b.2.2 i).1
    ·rfl
    ·simp -implicitDefEqProofs only [eq_self, xs]
     cases (List.range i).all fun k => !(decide (0 < (ta b.2.2 i).2.2.2.1) && ((ta b.2.2 k).2.2.2.1 == (ta b.2.2 i).2.2.2.1)) <;> rfl
end Go.Proofs.Ytoblcfkmggbheaa.VL
end
section
namespace Go.Proofs.Ytoblcfkmggbheaa.VL
open Go
set_option linter.unusedVariables false
set_option linter.unusedSectionVars false
set_option linter.unusedSimpArgs false
variable [Val]
theorem dlt (a b : Int) : decide (a < b) = !decide (b ≤ a) := by rw [Bool.eq_iff_iff, Bool.not_eq_true', decide_eq_true_iff, decide_eq_false_iff_not]; omega
theorem dgt (a b : Int) : decide (a > b) = !decide (a ≤ b) := by rw [Bool.eq_iff_iff, Bool.not_eq_true', decide_eq_true_iff, decide_eq_false_iff_not]; omega
def cmpN (a b : ByteArray) : Int := if ltN a b = true then -1 else if eqN a b = true then 0 else 1
theorem F61_ok (t : TK) (nm : ByteArray) : F61 (((t).1, ((t).2.1, ((t).2.2.1, ((t).2.2.2.1, ((t).2.2.2.2.1, ((t).2.2.2.2.2.1, (t).2.2.2.2.2.2)))))), nm) = some (cmpN t.1 nm) := by
 rw [F61_eq]
 show (F62 (t.1, nm)).bind _ = _
 rw [F62_eq]
 show Option.bind (cond (!(t.1.toList == t.1.toList)) _ (cond (!(nm.toList == nm.toList)) _ (cond (ltN t.1 nm) (some (-1)) (cond (!((ltN t.1 nm) || (eqN t.1 nm))) (some 1) (some 0))))) _ = _
 rw [beq_self_eq_true, beq_self_eq_true]
 unfold cmpN
 cases ltN t.1 nm <;> cases eqN t.1 nm <;> rfl
theorem cmp_lt (a b : ByteArray) : decide (cmpN a b < 0) = ltN a b := by
 unfold cmpN
 cases ltN a b <;> cases eqN a b <;> rfl
theorem cmp_eq (a b : ByteArray) : (cmpN a b == 0) = eqN a b := by
 unfold cmpN
 cases h : ltN a b
 ·cases eqN a b <;> rfl
 ·rw [eqN_of_lt h]; rfl
theorem mid {i j : Nat} (h : i + j ≤ 9223372036854775807) : IntKind.wrap .i64 (Int.fdiv (IntKind.wrap .u64 (IntKind.wrap .i64 ((i : Int) + (j : Int)))) 2) = (((i + j) / 2 : Nat) : Int) := by
 rw [wi (x := (i : Int) + j) (by omega) (by omega), wu (by omega) (by omega)]
 have e : Int.fdiv ((i : Int) + (j : Int)) 2 = (((i + j) / 2 : Nat) : Int) := by
  rw [Int.fdiv_eq_ediv_of_nonneg _ (by omega)]; omega
 rw [e, wi (by omega) (by omega)]
def srt (l : List TK) : Prop := ∀ i j, i < j → j < l.length → ltN (ta l i).1 (ta l j).1 = true
theorem srt_of {b : BK} (h : bookB b = true) : srt b.2.2 := by
 have h1 : ∀ i, i < b.2.2.length → okAt b.2.2 b.2.1 i = true := by
  unfold bookB at h
  rw [Bool.and_eq_true, List.all_eq_true] at h
  exact fun i hi => h.1 i (List.mem_range.2 hi)
 have h2 : ∀ i, i + 1 < b.2.2.length → ltN (ta b.2.2 i).1 (ta b.2.2 (i + 1)).1 = true := by
  intro i hi
  have := h1 (i + 1) hi
  unfold okAt at this
  rw [Bool.and_eq_true, Bool.and_eq_true, Bool.or_eq_true, decide_eq_true_iff] at this
  rcases this.2.1 with q | q
  ·omega
  ·simpa using q
 intro i j hij
 induction j with
 | zero => omega
 | succ j ih =>
  intro hj
  rcases Nat.lt_or_eq_of_le (Nat.le_of_lt_succ hij) with q | q
  ·exact ltN_trans (ih q (by omega)) (h2 j hj)
  ·rw [q]; exact h2 j hj
theorem len_of {b : BK} (h : bookB b = true) : b.2.2.length ≤ 100 := by
 unfold bookB at h
 rw [Bool.and_eq_true, decide_eq_true_iff] at h
 exact h.2
theorem okAt_of {b : BK} (h : bookB b = true) {i : Nat} (hi : i < b.2.2.length) : okAt b.2.2 b.2.1 i = true := by
 unfold bookB at h
 rw [Bool.and_eq_true, List.all_eq_true] at h
 exact h.1 i (List.mem_range.2 hi)
theorem task_of {b : BK} (h : bookB b = true) {i : Nat} (hi : i < b.2.2.length) : taskB (ta b.2.2 i) b.2.1 = true := by
 have := okAt_of h hi
 unfold okAt at this
 rw [Bool.and_eq_true] at this
 exact this.1
def plc (l : List TK) (nm : ByteArray) : Nat := cntP (fun k => ltN (ta l k).1 nm) l.length
def fnd (l : List TK) (nm : ByteArray) : Bool := decide (plc l nm < l.length) && eqN (ta l (plc l nm)).1 nm
theorem plc_le (l : List TK) (nm : ByteArray) : plc l nm ≤ l.length := cntP_le _ _
theorem plc_mono {l : List TK} (hs : srt l) (nm : ByteArray) : ∀ i j, i ≤ j → j < l.length → ltN (ta l j).1 nm = true → ltN (ta l i).1 nm = true := by
 intro i j hij hj h
 rcases Nat.lt_or_eq_of_le hij with q | q
 ·exact ltN_trans (hs i j q hj) h
 ·rw [q]; exact h
theorem cnt_split {p : Nat → Bool} : ∀ n, (∀ i j, i ≤ j → j < n → p j = true → p i = true) → (∀ k, k < cntP p n → p k = true) ∧ (∀ k, cntP p n ≤ k → k < n → p k = false)
 | 0, _ => ⟨fun k hk => by simp only [cntP] at hk; omega, fun k _ hk => by omega⟩
 | n + 1, hm => by
  have ih := cnt_split n (fun i j h1 h2 h3 => hm i j h1 (by omega) h3)
  simp only [cntP]
  by_cases h : p n = true
  ·have hall : ∀ k, k < n → p k = true := fun k hk => hm k n (by omega) (by omega) h
   have hn : cntP p n = n := cntP_at (Nat.le_refl _) hall (fun k h1 h2 => by omega)
   rw [if_pos h, hn]
   refine ⟨fun k hk => ?_, fun k h1 h2 => by omega⟩
   rcases Nat.lt_or_eq_of_le (Nat.le_of_lt_succ hk) with q | q
   ·exact hall k q
   ·rw [q]; exact h
  ·rw [if_neg h]
   refine ⟨fun k hk => ih.1 k (by omega), fun k h1 h2 => ?_⟩
   rcases Nat.lt_or_eq_of_le (Nat.le_of_lt_succ h2) with q | q
   ·exact ih.2 k (by omega) q
   ·rw [q]; exact Bool.eq_false_iff.2 h
theorem plc_lt {l : List TK} (hs : srt l) {nm : ByteArray} {k : Nat} (hk : k < plc l nm) : ltN (ta l k).1 nm = true := (cnt_split l.length (plc_mono hs nm)).1 k hk
theorem plc_ge {l : List TK} (hs : srt l) {nm : ByteArray} {k : Nat} (hk : plc l nm ≤ k) (h : k < l.length) : ltN (ta l k).1 nm = false := (cnt_split l.length (plc_mono hs nm)).2 k hk h
theorem not_eq_of {l : List TK} (hs : srt l) {nm : ByteArray} {k : Nat} (h : k < l.length) (hk : k ≠ plc l nm) : eqN (ta l k).1 nm = false := by
 rcases Nat.lt_or_gt_of_ne hk with q | q
 ·exact eqN_of_lt (plc_lt hs q)
 ·rw [Bool.eq_false_iff]
  intro e
  have e1 := eqN_eq e
  have h1 := hs _ _ q h
  rw [e1] at h1
  rw [plc_ge hs (Nat.le_refl _) (by omega)] at h1
  cases h1
theorem not_eq_all {l : List TK} (hs : srt l) {nm : ByteArray} (hf : fnd l nm = false) {k : Nat} (h : k < l.length) : eqN (ta l k).1 nm = false := by
 by_cases hk : k = plc l nm
 ·unfold fnd at hf
  rw [← hk, decide_eq_true h, Bool.true_and] at hf
  exact hf
 ·exact not_eq_of hs h hk
theorem srch {l : List TK} (hs : srt l) (nm : ByteArray) {f : Int × Int → Option ((Int × Int) ⊕ Int)} (hend : ∀ i : Nat, i ≤ l.length → f ((i : Int), (i : Int)) = some (.inr (i : Int)))
  (hstep : ∀ i j m : Nat, i < j → j ≤ l.length → m = (i + j) / 2 → m < l.length → (i : Int) < j → f ((i : Int), (j : Int)) = cond (ltN (ta l m).1 nm) (some (.inl (((m + 1 : Nat) : Int), (j : Int)))) (some (.inl ((i : Int), (m : Int))))) :
  loopX f ((0 : Int), (l.length : Int)) = some ((plc l nm : Nat) : Int) := by
 unfold plc
 refine loop_bs (fun k => ltN (ta l k).1 nm) (plc_mono hs nm) hend (fun i j h1 h2 => ?_)
 rw [hstep i j _ h1 h2 rfl (by omega) (by omega)]
 cases ltN (ta l ((i + j) / 2)).1 nm <;> rfl
theorem F36_ok {b : BK} {nm : ByteArray} (hs : srt b.2.2) (h63 : b.2.2.length ≤ 1000) : F36 (b, nm) = some (((plc b.2.2 nm : Nat) : Int), fnd b.2.2 nm) := by
 rw [F36_eq]
 rw [srch hs nm]
 ·have hp := plc_le b.2.2 nm
  by_cases hq : plc b.2.2 nm < b.2.2.length
  ·have q1 : ((plc b.2.2 nm : Nat) : Int) < ((b.2.2.length : Nat) : Int) := by omega
   have q2 : (0 : Int) ≤ ((plc b.2.2 nm : Nat) : Int) := by omega
   simp -implicitDefEqProofs only [q1, q2, at_ta hq, F61_ok (ta b.2.2 (plc b.2.2 nm)) nm, cmp_eq, eq_self, xs]
   unfold fnd
   rw [decide_eq_true hq, Bool.true_and]
  ·have q1 : ¬ ((plc b.2.2 nm : Nat) : Int) < ((b.2.2.length : Nat) : Int) := by omega
   simp -implicitDefEqProofs only [q1, eq_self, xs]
   unfold fnd
   rw [decide_eq_false hq, Bool.false_and]
 ·intro i hi
  have q : ¬ (i : Int) < (i : Int) := by omega
  simp -implicitDefEqProofs only [q, eq_self, xs]
 ·intro i j m hij hj hm hml q1
  have hmid := mid (i := i) (j := j) (by omega)
  rw [← hm] at hmid
  have q3 : (0 : Int) ≤ (m : Int) := by omega
  have hw : IntKind.wrap .i64 ((m : Int) + 1) = ((m + 1 : Nat) : Int) := by rw [wi (by omega) (by omega)]; omega
  simp -implicitDefEqProofs only [q1, hmid, q3, at_ta hml, F61_ok (ta b.2.2 m) nm, cmp_lt, hw, eq_self, xs]
theorem loop_find {ρ : Type} {f : Int → Option (Int ⊕ ρ)} (n : Nat) (r : ρ) (hend : f (n : Int) = some (.inr r)) (hstep : ∀ i : Nat, i < n → f (i : Int) = some (.inl ((i + 1 : Nat) : Int))) : loopX f (0 : Int) = some r :=
 loop_nat n (fun _ => r) hend (fun i hi => .inr ⟨hstep i hi, rfl⟩) 0 (Nat.zero_le _)
theorem nz0 : ((0 : Int) != 0) = false := rfl
theorem nz1 : ((1 : Int) != 0) = true := rfl
theorem F31_ok {b : BK} {nm : ByteArray} (hs : srt b.2.2) (h63 : b.2.2.length ≤ 1000) : F31 (b, nm) = some (if fnd b.2.2 nm = true then ((plc b.2.2 nm : Nat) : Int) else -1) := by
 rw [F31_eq]
 by_cases hf : fnd b.2.2 nm = true
 ·rw [if_pos hf]
  have hf' := hf
  unfold fnd at hf'
  rw [Bool.and_eq_true, decide_eq_true_iff] at hf'
  refine loop_find (plc b.2.2 nm) ((plc b.2.2 nm : Nat) : Int) ?_ ?_
  ·have q1 : ((plc b.2.2 nm : Nat) : Int) < ((b.2.2.length : Nat) : Int) := by omega
   have q2 : (0 : Int) ≤ ((plc b.2.2 nm : Nat) : Int) := by omega
   have q3 : ((ta b.2.2 (plc b.2.2 nm)).1.toList == nm.toList) = true := hf'.2
   simp -implicitDefEqProofs only [q1, q2, at_ta hf'.1, q3, eq_self, xs]
  ·intro i hi
   have hil : i < b.2.2.length := by omega
   have q1 : (i : Int) < ((b.2.2.length : Nat) : Int) := by omega
   have q2 : (0 : Int) ≤ (i : Int) := by omega
   have q3 : ((ta b.2.2 i).1.toList == nm.toList) = false := not_eq_of hs hil (by omega)
   have hw : IntKind.wrap .i64 ((i : Int) + 1) = ((i + 1 : Nat) : Int) := by rw [wi (by omega) (by omega)]; omega
   simp -implicitDefEqProofs only [q1, q2, at_ta hil, q3, hw, eq_self, xs]
 ·rw [if_neg hf]
  refine loop_find b.2.2.length (-1 : Int) ?_ ?_
  ·have q1 : ¬ ((b.2.2.length : Nat) : Int) < ((b.2.2.length : Nat) : Int) := by omega
   simp -implicitDefEqProofs only [q1, eq_self, xs]
  ·intro i hi
   have q1 : (i : Int) < ((b.2.2.length : Nat) : Int) := by omega
   have q2 : (0 : Int) ≤ (i : Int) := by omega
   have q3 : ((ta b.2.2 i).1.toList == nm.toList) = false := not_eq_all hs (Bool.eq_false_iff.2 hf) hi
   have hw : IntKind.wrap .i64 ((i : Int) + 1) = ((i + 1 : Nat) : Int) := by rw [wi (by omega) (by omega)]; omega
   simp -implicitDefEqProofs only [q1, q2, at_ta hi, q3, hw, eq_self, xs]
theorem F11_ok {b : BK} {nm : ByteArray} (hz : szB b) : F11 (b, nm) = some (if bookB b = true then (if fnd b.2.2 nm = true then (ta b.2.2 (plc b.2.2 nm), 0) else ((⟨#[]⟩, (0, (0, (0, (0, (0, 0)))))), 6)) else ((⟨#[]⟩, (0, (0, (0, (0, (0, 0)))))), 1)) := by
 rw [F11_eq]
 have h1 : F26 (((b).1, ((b).2.1, (b).2.2))) = _ := F26_ok hz
 simp only [h1, Option.bind_some]
 by_cases hb : bookB b = true
 ·have hs := srt_of hb
  have hl := len_of hb
  have h2 : F36 (((b).1, ((b).2.1, (b).2.2)), nm) = _ := F36_ok (b := b) hs (by omega)
  rw [if_pos hb, if_pos hb]
  simp only [h2, Option.bind_some, nz0, cond_false]
  cases hf : fnd b.2.2 nm
  ·rfl
  ·have hf' := hf
   unfold fnd at hf'
   rw [Bool.and_eq_true, decide_eq_true_iff] at hf'
   have q2 : (0 : Int) ≤ ((plc b.2.2 nm : Nat) : Int) := by omega
   simp -implicitDefEqProofs only [q2, at_ta hf'.1, eq_self, xs]
 ·rw [if_neg hb, if_neg hb]; rfl
end Go.Proofs.Ytoblcfkmggbheaa.VL
end
section
namespace Go.Proofs.Ytoblcfkmggbheaa.VL
open Go
set_option linter.unusedVariables false
set_option linter.unusedSectionVars false
set_option linter.unusedSimpArgs false
variable [Val]
theorem ltN_not (a b : ByteArray) : (ltN b a || eqN b a) = !ltN a b := by
 rcases tri a b with h | h | h
 ·rw [h, ltN_asymm h, eqN_of_gt h]; rfl
 ·subst h; rw [ltN_irrefl, eqN_refl]; rfl
 ·rw [h, ltN_asymm h]; rfl
theorem F28_ok {b : BK} (hz : szB b) : F28 b = some (bookB b) := by
 obtain ⟨h1, h2⟩ := hz
 have h63 := len63 h1
 rw [F28_eq, loop_all (n := b.2.2.length) (okAt b.2.2 b.2.1) (Sum.inr false) (Sum.inl ())]
 ·unfold bookB
  have e : decide (((b.2.2.length : Nat) : Int) ≤ 100) = decide (b.2.2.length ≤ 100) := by rw [Bool.eq_iff_iff, decide_eq_true_iff, decide_eq_true_iff]; omega
  rw [e]
  cases (List.range b.2.2.length).all (okAt b.2.2 b.2.1) <;> rfl
 ·have : ¬ ((b.2.2.length : Nat) : Int) < ((b.2.2.length : Nat) : Int) := by omega
  simp -implicitDefEqProofs only [this, eq_self, xs]
 ·intro i hi _
  have q1 : ((i : Nat) : Int) < ((b.2.2.length : Nat) : Int) := by omega
  have q2 : (0 : Int) ≤ (i : Int) := by omega
  have hw : IntKind.wrap .i64 ((i : Int) + 1) = ((i + 1 : Nat) : Int) := by rw [wi (by omega) (by omega)]; omega
  have hF : F51 (ta b.2.2 i).1 = some (nmB (ta b.2.2 i).1) := F51_ok (h2 i hi).1
  have hin : ∀ f : Int → Option (Int ⊕ (Unit ⊕ (Int ⊕ (Unit ⊕ Bool)))), f ((i : Nat) : Int) = some (.inr (.inl ())) → (∀ k : Nat, k < i → f (k : Int) = if (!(decide (0 < (ta b.2.2 i).2.2.2.1) && ((ta b.2.2 k).2.2.2.1 == (ta b.2.2 i).2.2.2.1))) = true then some (.inl ((k + 1 : Nat) : Int)) else some (.inr (.inr (.inr (.inr false))))) →
    loopX f (0 : Int) = some (if ((List.range i).all fun k => !(decide (0 < (ta b.2.2 i).2.2.2.1) && ((ta b.2.2 k).2.2.2.1 == (ta b.2.2 i).2.2.2.1))) = true then .inl () else .inr (.inr (.inr false))) :=
   fun f e1 e2 => loop_all _ _ _ e1 (fun k hk _ => e2 k hk)
  simp -implicitDefEqProofs only [q1, q2, at_ta hi, hF, hw, eq_self, xs]
  rw [hin]
  ·unfold okAt taskB ownB
   have eb : (bne (ta b.2.2 i).2.1 1) = !((ta b.2.2 i).2.1 == 1) := rfl
   have ec : (bne (ta b.2.2 i).2.2.2.2.2.1 (-1)) = !((ta b.2.2 i).2.2.2.2.2.1 == -1) := rfl
   have ed : (bne (ta b.2.2 i).2.2.2.2.2.2 0) = !((ta b.2.2 i).2.2.2.2.2.2 == 0) := rfl
   by_cases h0 : i = 0
   ·subst h0
    have q3 : ¬ ((0 : Nat) : Int) > 0 := by omega
    simp -implicitDefEqProofs only [q3, eb, ec, ed, dlt, dgt, Bool.not_not, eq_self, xs]
    have e0 : ((ta b.2.2 0).2.2.2.1 == 0) = decide ((ta b.2.2 0).2.2.2.1 ≤ 0) := by
     have := (h2 0 hi).2
     rw [Bool.eq_iff_iff, beq_iff_eq, decide_eq_true_iff]; omega
    simp only [e0]
    generalize (List.all _ _) = AL
    generalize nmB (ta b.2.2 0).1 = A
    generalize decide (0 ≤ (ta b.2.2 0).2.1) = r1
    generalize decide ((ta b.2.2 0).2.1 ≤ 4) = r2
    generalize decide (0 ≤ (ta b.2.2 0).2.2.1) = r3
    generalize decide ((ta b.2.2 0).2.2.1 ≤ 9) = r4
    generalize decide ((ta b.2.2 0).2.2.2.1 ≤ b.2.1) = t1
    generalize decide ((ta b.2.2 0).2.2.2.1 ≤ 0) = t0
    generalize ((ta b.2.2 0).2.2.2.2.1 == 0) = l0
    generalize decide (0 ≤ (ta b.2.2 0).2.2.2.2.1) = l1
    generalize decide ((ta b.2.2 0).2.2.2.2.1 ≤ 100) = l2
    generalize ((ta b.2.2 0).2.1 == 1) = s1
    generalize decide (0 ≤ (ta b.2.2 0).2.2.2.2.2.1) = w0
    generalize decide ((ta b.2.2 0).2.2.2.2.2.1 ≤ 63) = w1
    generalize ((ta b.2.2 0).2.2.2.2.2.1 == -1) = wm
    generalize ((ta b.2.2 0).2.2.2.2.2.2 == 0) = u0
    cases A
    ·rfl
    cases r1
    ·rfl
    cases r2
    ·rfl
    cases r3
    ·rfl
    cases r4
    ·rfl
    cases t1
    ·rfl
    cases l1
    ·cases t0 <;> cases l0 <;> rfl
    cases l2
    ·cases t0 <;> cases l0 <;> rfl
    cases t0 <;> cases l0 <;> first | rfl | (cases s1 <;> cases w0 <;> cases w1 <;> cases wm <;> cases u0 <;> cases AL <;> rfl)
   ·have q3 : (i : Int) > 0 := by omega
    have hw2 : IntKind.wrap .i64 ((i : Int) - 1) = ((i - 1 : Nat) : Int) := by rw [wi (by omega) (by omega)]; omega
    have q4 : (0 : Int) ≤ ((i - 1 : Nat) : Int) := by omega
    have hl : (Op.bytesLess (ByteArray.toList (ta b.2.2 i).1) (ByteArray.toList (ta b.2.2 (i - 1)).1) || ((ByteArray.toList (ta b.2.2 i).1) == (ByteArray.toList (ta b.2.2 (i - 1)).1))) = !ltN (ta b.2.2 (i - 1)).1 (ta b.2.2 i).1 := ltN_not _ _
    simp -implicitDefEqProofs only [q3, hw2, q4, at_ta (show i - 1 < b.2.2.length by omega), h0, hl, eb, ec, ed, eq_self, xs]
    simp only [dlt, dgt, Bool.not_not]
    have e0 : ((ta b.2.2 i).2.2.2.1 == 0) = decide ((ta b.2.2 i).2.2.2.1 ≤ 0) := by
     have := (h2 i hi).2
     rw [Bool.eq_iff_iff, beq_iff_eq, decide_eq_true_iff]; omega
    simp only [e0]
    generalize (List.all _ _) = AL
    generalize nmB (ta b.2.2 i).1 = A
    generalize decide (0 ≤ (ta b.2.2 i).2.1) = r1
    generalize decide ((ta b.2.2 i).2.1 ≤ 4) = r2
    generalize decide (0 ≤ (ta b.2.2 i).2.2.1) = r3
    generalize decide ((ta b.2.2 i).2.2.1 ≤ 9) = r4
    generalize decide ((ta b.2.2 i).2.2.2.1 ≤ b.2.1) = t1
    generalize decide ((ta b.2.2 i).2.2.2.1 ≤ 0) = t0
    generalize ((ta b.2.2 i).2.2.2.2.1 == 0) = l0
    generalize decide (0 ≤ (ta b.2.2 i).2.2.2.2.1) = l1
    generalize decide ((ta b.2.2 i).2.2.2.2.1 ≤ 100) = l2
    generalize ((ta b.2.2 i).2.1 == 1) = s1
    generalize decide (0 ≤ (ta b.2.2 i).2.2.2.2.2.1) = w0
    generalize decide ((ta b.2.2 i).2.2.2.2.2.1 ≤ 63) = w1
    generalize ((ta b.2.2 i).2.2.2.2.2.1 == -1) = wm
    generalize ((ta b.2.2 i).2.2.2.2.2.2 == 0) = u0
    generalize ltN (ta b.2.2 (i - 1)).1 (ta b.2.2 i).1 = L
    cases A
    ·rfl
    cases r1
    ·cases L <;> rfl
    cases r2
    ·cases L <;> rfl
    cases r3
    ·cases L <;> rfl
    cases r4
    ·cases L <;> rfl
    cases t1
    ·cases L <;> rfl
    cases L
    ·cases t0 <;> cases l0 <;> first | rfl | (cases l1 <;> cases l2 <;> cases s1 <;> cases w0 <;> cases w1 <;> cases wm <;> cases u0 <;> rfl)
    cases l1
    ·cases t0 <;> cases l0 <;> rfl
    cases l2
    ·cases t0 <;> cases l0 <;> rfl
    cases t0 <;> cases l0 <;> first | rfl | (cases s1 <;> cases w0 <;> cases w1 <;> cases wm <;> cases u0 <;> cases AL <;> rfl)
  ·have q : ¬ ((i : Nat) : Int) < (i : Int) := by omega
   simp -implicitDefEqProofs only [q, eq_self, xs]
  ·intro k hk
   have q : ((k : Nat) : Int) < (i : Int) := by omega
   have q0 : (0 : Int) ≤ (k : Int) := by omega
   have hw3 : IntKind.wrap .i64 ((k : Int) + 1) = ((k + 1 : Nat) : Int) := by rw [wi (by omega) (by omega)]; omega
   have e : decide ((ta b.2.2 i).2.2.2.1 > 0) = decide (0 < (ta b.2.2 i).2.2.2.1) := rfl
   simp -implicitDefEqProofs only [q, q0, at_ta (show k < b.2.2.length by omega), hw3, e, eq_self, xs]
   cases decide (0 < (ta b.2.2 i).2.2.2.1)
   ·rfl
   ·simp -implicitDefEqProofs only [eq_self, xs]
    cases ((ta b.2.2 k).2.2.2.1 == (ta b.2.2 i).2.2.2.1) <;> rfl
end Go.Proofs.Ytoblcfkmggbheaa.VL
end
section
namespace Go.Proofs.Ytoblcfkmggbheaa.VL
open Go
set_option linter.unusedVariables false
set_option linter.unusedSectionVars false
set_option linter.unusedSimpArgs false
variable [Val]
theorem flat_filter {β : Type} (p : Nat → Bool) (g : Nat → β) : ∀ l : List Nat, l.flatMap (fun i => if p i = true then [g i] else []) = (l.filter p).map g
 | [] => rfl
 | x :: r => by
  rw [List.flatMap_cons, flat_filter p g r]
  by_cases h : p x = true
  ·rw [if_pos h, List.filter_cons_of_pos h, List.map_cons]; rfl
  ·rw [if_neg h, List.filter_cons_of_neg h]; rfl
def opnL (l : List TK) : List ByteArray := ((List.range l.length).filter fun i => decide ((ta l i).2.1 < 2)).map fun i => (ta l i).1
theorem F33_ok {b : BK} (hl : b.2.2.length ≤ 1000) : F33 b = some (opnL b.2.2) := by
 rw [F33_eq]
 refine (loop_gather (n := b.2.2.length) (fun i => if decide ((ta b.2.2 i).2.1 < 2) = true then [(ta b.2.2 i).1] else []) (fun a => a) ?_ ?_ ?_).trans (by rw [flat_filter]; rfl)
 ·intro i; show (if _ then _ else _ : List ByteArray).length ≤ 1; split <;> simp
 ·intro a ha
  have q : ¬ ((b.2.2.length : Nat) : Int) < ((b.2.2.length : Nat) : Int) := by omega
  simp -implicitDefEqProofs only [q, Option.map_some, eq_self, xs]
 ·intro i a hi ha
  have q1 : ((i : Nat) : Int) < ((b.2.2.length : Nat) : Int) := by omega
  have q2 : (0 : Int) ≤ (i : Int) := by omega
  have hw : IntKind.wrap .i64 ((i : Int) + 1) = ((i + 1 : Nat) : Int) := by rw [wi (by omega) (by omega)]; omega
  have k1 : (((a.length + 1 : Nat) : Int) * 16 ≤ 70368744177664) := by omega
  have k2 : (((a.length + 1 : Nat) : Int) ≤ 70368744177664) := by omega
  simp -implicitDefEqProofs only [q1, q2, at_ta hi, hw, k1, k2, eq_self, xs]
  cases decide ((ta b.2.2 i).2.1 < 2) <;> simp
theorem F10_ok (b : BK) : F10 b = some (if decide (((b.2.2.length : Nat) : Int) > 101) = true then (b.1, (b.2.1, b.2.2.take 101)) else b) := by
 rw [F10_eq]
 by_cases h : ((b.2.2.length : Nat) : Int) > 101
 ·have q : (101 : Int) ≤ ((b.2.2.length : Nat) : Int) := by omega
  have q' : (101 : Nat) ≤ b.2.2.length := by omega
  simp -implicitDefEqProofs only [h, q, q', eq_self, xs]
 ·simp -implicitDefEqProofs only [h, eq_self, xs]
theorem F34_refl (l : List TK) (h63 : l.length ≤ 9223372036854775806) : F34 (l, l) = some true := by
 rw [F34_eq]
 have e : (((l.length : Nat) : Int) != ((l.length : Nat) : Int)) = false := bne_self_eq_false _
 simp only [e, cond_false]
 refine loop_find l.length true ?_ ?_
 ·have q1 : ¬ ((l.length : Nat) : Int) < ((l.length : Nat) : Int) := by omega
  simp -implicitDefEqProofs only [q1, eq_self, xs]
 ·intro i hi
  have q1 : (i : Int) < ((l.length : Nat) : Int) := by omega
  have q2 : (0 : Int) ≤ (i : Int) := by omega
  have hw : IntKind.wrap .i64 ((i : Int) + 1) = ((i + 1 : Nat) : Int) := by rw [wi (by omega) (by omega)]; omega
  simp -implicitDefEqProofs only [q1, q2, at_ta hi, hw, beq_self_eq_true, eq_self, xs]
theorem loop_seq {σ ρ : Type} {f : σ → Option (σ ⊕ ρ)} (S : Nat → σ) (r : ρ) : ∀ (n : Nat), f (S n) = some (.inr r) → (∀ i : Nat, i < n → f (S i) = some (.inl (S (i + 1)))) → loopX f (S 0) = some r := by
 have key : ∀ (d n i : Nat), n - i = d → i ≤ n → f (S n) = some (.inr r) → (∀ i : Nat, i < n → f (S i) = some (.inl (S (i + 1)))) → loopX f (S i) = some r := by
  intro d
  induction d with
  | zero =>
   intro n i hd hi h1 h2
   have : i = n := by omega
   subst this
   rw [loopX_eq, h1]
  | succ d ih =>
   intro n i hd hi h1 h2
   rw [loopX_eq, h2 i (by omega)]
   exact ih n (i + 1) (by omega) (by omega) h1 h2
 exact fun n => key n n 0 rfl (Nat.zero_le _)
def off (l : List TK) (nm : ByteArray) : Nat := if fnd l nm = true then 1 else 0
end Go.Proofs.Ytoblcfkmggbheaa.VL
end
section
namespace Go.Proofs.Ytoblcfkmggbheaa.VL
open Go
set_option linter.unusedVariables false
set_option linter.unusedSectionVars false
set_option linter.unusedSimpArgs false
variable [Val]
theorem F43_ok (t : TK) : F43 (((t).1, ((t).2.1, ((t).2.2.1, ((t).2.2.2.1, ((t).2.2.2.2.1, ((t).2.2.2.2.2.1, (t).2.2.2.2.2.2))))))) = some (t.2.1 == 0 || t.2.1 == 1) := by
 rw [F43_eq]
 show cond (t.2.1 == 0) _ _ = _
 cases (t.2.1 == 0) <;> rfl
end Go.Proofs.Ytoblcfkmggbheaa.VL
end
section
namespace Go.Proofs.Ytoblcfkmggbheaa.VL
open Go
set_option linter.unusedVariables false
set_option linter.unusedSectionVars false
set_option linter.unusedSimpArgs false
variable [Val]
section
variable {l : List TK} {p : Nat} {x : TK} (hp : p < l.length) (hn : x.1 = (ta l p).1)
include hp hn
end
theorem szB_cut {a g : Int} {l : List TK} (hz : szB (a, (g, l))) : ∃ l', F10 (a, (g, l)) = some (a, (g, l')) ∧ szB (a, (g, l')) ∧ l'.length ≤ 101 := by
 rw [F10_ok]
 by_cases h : ((l.length : Nat) : Int) > 101
 ·refine ⟨l.take 101, by rw [if_pos (decide_eq_true h)], ⟨by have := hz.1; simp only [List.length_take] at *; omega, fun i hi => ?_⟩, by rw [List.length_take]; omega⟩
  have hi' : i < l.length ∧ i < 101 := by simp only [List.length_take] at hi; omega
  have e : ta (l.take 101) i = ta l i := by
   unfold ta
   rw [List.getD_eq_getElem?_getD, List.getD_eq_getElem?_getD, List.getElem?_take, if_pos hi'.2]
  simp only [e]
  exact hz.2 i hi'.1
 ·exact ⟨l, by rw [if_neg (fun q => h (of_decide_eq_true q))], hz, by omega⟩
end Go.Proofs.Ytoblcfkmggbheaa.VL
end
section
namespace Go.Proofs.Ytoblcfkmggbheaa.VL
open Go
set_option linter.unusedVariables false
set_option linter.unusedSectionVars false
set_option linter.unusedSimpArgs false
variable [Val]
def opnT (l : List TK) : List TK := ((List.range l.length).filter fun i => decide ((ta l i).2.1 < 2)).map (ta l)
theorem gathO {l : List TK} {f : Int × List TK → Option ((Int × List TK) ⊕ List TK)} (hend : ∀ a : List TK, a.length ≤ l.length → f ((l.length : Int), a) = some (.inr a))
  (hstep : ∀ (i : Nat) (a : List TK), i < l.length → a.length ≤ i → f ((i : Int), a) = some (.inl (((i + 1 : Nat) : Int), a ++ (if decide ((ta l i).2.1 < 2) = true then [ta l i] else [])))) : loopX f ((0 : Int), []) = some (opnT l) := by
 refine (loop_gather (n := l.length) (fun i => if decide ((ta l i).2.1 < 2) = true then [ta l i] else []) (fun a => a) ?_ hend hstep).trans (by rw [flat_filter]; rfl)
 intro i; show (if _ then _ else _ : List TK).length ≤ 1; split <;> simp
end Go.Proofs.Ytoblcfkmggbheaa.VL
end
section
namespace Go.Proofs.Ytoblcfkmggbheaa.VL
open Go
set_option linter.unusedVariables false
set_option linter.unusedSectionVars false
set_option linter.unusedSimpArgs false
variable [Val]
theorem F25_ok {b : BK} (hz : szB b) : F25 b = some (if bookB b = true then opnL b.2.2 else []) := by
 rw [F25_eq]
 have h1 : F26 (((b).1, ((b).2.1, (b).2.2))) = _ := F26_ok hz
 cases hb : bookB b
 ·rw [hb] at h1
  simp -implicitDefEqProofs only [h1, nz1, eq_self, xs]
 ·rw [hb] at h1
  have hl := len_of hb
  simp -implicitDefEqProofs only [h1, nz0, eq_self, xs]
  rw [gathO (l := b.2.2)]
  rotate_left
  ·intro a ha
   have q : ¬ ((b.2.2.length : Nat) : Int) < ((b.2.2.length : Nat) : Int) := by omega
   simp -implicitDefEqProofs only [q, eq_self, xs]
  ·intro i a hi ha
   have q1 : ((i : Nat) : Int) < ((b.2.2.length : Nat) : Int) := by omega
   have q2 : (0 : Int) ≤ (i : Int) := by omega
   have hw : IntKind.wrap .i64 ((i : Int) + 1) = ((i + 1 : Nat) : Int) := by rw [wi (by omega) (by omega)]; omega
   have k1 : (((a.length + 1 : Nat) : Int) * 64 ≤ 70368744177664) := by omega
   have k2 : (((a.length + 1 : Nat) : Int) ≤ 70368744177664) := by omega
   simp -implicitDefEqProofs only [q1, q2, at_ta hi, hw, k1, k2, F43_ok (ta b.2.2 i), eq_self, xs]
   have hst : decide ((ta b.2.2 i).2.1 < 2) = ((ta b.2.2 i).2.1 == 0 || (ta b.2.2 i).2.1 == 1) := by
    have h0 := task_of hb hi
    unfold taskB at h0
    simp only [Bool.and_eq_true, decide_eq_true_eq] at h0
    rw [Bool.eq_iff_iff, decide_eq_true_iff, Bool.or_eq_true, beq_iff_eq, beq_iff_eq]
    omega
   rw [hst]
   cases ((ta b.2.2 i).2.1 == 0 || (ta b.2.2 i).2.1 == 1) <;> simp
  have hlo : (opnT b.2.2).length ≤ 100 := by
   unfold opnT
   rw [List.length_map]
   exact Nat.le_trans (List.length_filter_le _ _) (by rw [List.length_range]; exact hl)
  have hmap : opnL b.2.2 = (opnT b.2.2).map (fun t => t.1) := by unfold opnL opnT; rw [List.map_map]; rfl
  rw [hmap]
  generalize opnT b.2.2 = L at *
  simp -implicitDefEqProofs only [eq_self, xs]
  refine loop_seq (fun i => ((i : Int), (L.take i).map (fun t => t.1))) (L.map (fun t => t.1)) L.length ?_ ?_
  ·have q : ¬ ((L.length : Nat) : Int) < ((L.length : Nat) : Int) := by omega
   simp -implicitDefEqProofs only [q, Option.map_some, eq_self, xs]
  ·intro i hi
   have q1 : ((i : Nat) : Int) < ((L.length : Nat) : Int) := by omega
   have q2 : (0 : Int) ≤ (i : Int) := by omega
   have hw : IntKind.wrap .i64 ((i : Int) + 1) = ((i + 1 : Nat) : Int) := by rw [wi (by omega) (by omega)]; omega
   have e : (L.take (i + 1)).map (fun t => t.1) = (L.take i).map (fun t => t.1) ++ [(ta L i).1] := by rw [List.take_succ_eq_append_getElem hi, List.map_append, ta_eq hi]; rfl
   have ha : ((L.take i).map (fun t => t.1)).length ≤ 100 := by rw [List.length_map, List.length_take]; omega
   rw [e]
   generalize (L.take i).map (fun t => t.1) = a at *
   have k1 : (((a.length + 1 : Nat) : Int) * 16 ≤ 70368744177664) := by omega
   have k2 : (((a.length + 1 : Nat) : Int) ≤ 70368744177664) := by omega
   simp -implicitDefEqProofs only [q1, q2, at_ta hi, hw, k1, k2, eq_self, xs]
def lstT (l : List TK) (s : Int) : List TK := ((List.range l.length).filter fun i => (ta l i).2.1 == s).map (ta l)
theorem gathS {l : List TK} {s : Int} {f : Int × List TK → Option ((Int × List TK) ⊕ List TK)} (hend : ∀ a : List TK, a.length ≤ l.length → f ((l.length : Int), a) = some (.inr a))
  (hstep : ∀ (i : Nat) (a : List TK), i < l.length → a.length ≤ i → f ((i : Int), a) = some (.inl (((i + 1 : Nat) : Int), a ++ (if ((ta l i).2.1 == s) = true then [ta l i] else [])))) : loopX f ((0 : Int), []) = some (lstT l s) := by
 refine (loop_gather (n := l.length) (fun i => if ((ta l i).2.1 == s) = true then [ta l i] else []) (fun a => a) ?_ hend hstep).trans (by rw [flat_filter]; rfl)
 intro i; show (if _ then _ else _ : List TK).length ≤ 1; split <;> simp
theorem lstT_len (l : List TK) (s : Int) : (lstT l s).length ≤ l.length := by
 unfold lstT
 rw [List.length_map]
 exact Nat.le_trans (List.length_filter_le _ _) (by rw [List.length_range]; exact Nat.le_refl _)
theorem F27_ok {b : BK} {s : Int} (hz : szB b) : F27 (b, s) = some (if (bookB b && (decide (0 ≤ s) && decide (s ≤ 4))) = true then (lstT b.2.2 s, 0) else ([], 1)) := by
 rw [F27_eq]
 have h1 : F26 (((b).1, ((b).2.1, (b).2.2))) = _ := F26_ok hz
 cases hb : bookB b
 ·rw [hb] at h1
  simp -implicitDefEqProofs only [h1, nz1, eq_self, xs]
 ·rw [hb] at h1
  have hl := len_of hb
  simp -implicitDefEqProofs only [h1, nz0, F47_ok s 0 4, eq_self, xs]
  cases hs : (decide (0 ≤ s) && decide (s ≤ 4))
  ·simp -implicitDefEqProofs only [eq_self, xs]
  ·simp -implicitDefEqProofs only [eq_self, xs]
   rw [gathS (l := b.2.2) (s := s)]
   ·simp -implicitDefEqProofs only [eq_self, xs]
   ·intro a ha
    have q : ¬ ((b.2.2.length : Nat) : Int) < ((b.2.2.length : Nat) : Int) := by omega
    simp -implicitDefEqProofs only [q, eq_self, xs]
   ·intro i a hi ha
    have q1 : ((i : Nat) : Int) < ((b.2.2.length : Nat) : Int) := by omega
    have q2 : (0 : Int) ≤ (i : Int) := by omega
    have hw : IntKind.wrap .i64 ((i : Int) + 1) = ((i + 1 : Nat) : Int) := by rw [wi (by omega) (by omega)]; omega
    have k1 : (((a.length + 1 : Nat) : Int) * 64 ≤ 70368744177664) := by omega
    have k2 : (((a.length + 1 : Nat) : Int) ≤ 70368744177664) := by omega
    simp -implicitDefEqProofs only [q1, q2, at_ta hi, hw, k1, k2, eq_self, xs]
    cases (ta b.2.2 i).2.1 == s <;> simp
theorem F35_ok {b : BK} {s : Int} (hl : b.2.2.length ≤ 1000) : F35 (b, s) = some (lstT b.2.2 s) := by
 rw [F35_eq]
 simp -implicitDefEqProofs only [eq_self, xs]
 refine gathS (l := b.2.2) (s := s) ?_ ?_
 ·intro a ha
  have q : ¬ ((b.2.2.length : Nat) : Int) < ((b.2.2.length : Nat) : Int) := by omega
  simp -implicitDefEqProofs only [q, eq_self, xs]
 ·intro i a hi ha
  have q1 : ((i : Nat) : Int) < ((b.2.2.length : Nat) : Int) := by omega
  have q2 : (0 : Int) ≤ (i : Int) := by omega
  have hw : IntKind.wrap .i64 ((i : Int) + 1) = ((i + 1 : Nat) : Int) := by rw [wi (by omega) (by omega)]; omega
  have k1 : (((a.length + 1 : Nat) : Int) * 64 ≤ 70368744177664) := by omega
  have k2 : (((a.length + 1 : Nat) : Int) ≤ 70368744177664) := by omega
  simp -implicitDefEqProofs only [q1, q2, at_ta hi, hw, k1, k2, eq_self, xs]
  cases (ta b.2.2 i).2.1 == s <;> simp
theorem F32_refl (l : List ByteArray) (hl : l.length ≤ 1000) : F32 (l, l) = some true := by
 rw [F32_eq]
 have e : (((l.length : Nat) : Int) != ((l.length : Nat) : Int)) = false := bne_self_eq_false _
 simp only [e, cond_false]
 refine loop_find l.length true ?_ ?_
 ·have q1 : ¬ ((l.length : Nat) : Int) < ((l.length : Nat) : Int) := by omega
  simp -implicitDefEqProofs only [q1, eq_self, xs]
 ·intro i hi
  have q1 : (i : Int) < ((l.length : Nat) : Int) := by omega
  have q2 : (0 : Int) ≤ (i : Int) := by omega
  have hw : IntKind.wrap .i64 ((i : Int) + 1) = ((i + 1 : Nat) : Int) := by rw [wi (by omega) (by omega)]; omega
  simp -implicitDefEqProofs only [q1, q2, List.getElem?_eq_getElem hi, hw, beq_self_eq_true, eq_self, xs]
theorem F34_some (l m : List TK) (hl : l.length ≤ 1000) : ∃ r, F34 (l, m) = some r := by
 rw [F34_eq]
 by_cases hlen : l.length = m.length
 ·have e : (((l.length : Nat) : Int) != ((m.length : Nat) : Int)) = false := by rw [hlen]; exact bne_self_eq_false _
  simp only [e, cond_false]
  refine ⟨_, loop_all (n := l.length) (fun i => ((ByteArray.toList (ta l i).1 == ByteArray.toList (ta m i).1) && (((ta l i).2.1 == (ta m i).2.1) && (((ta l i).2.2.1 == (ta m i).2.2.1) && (((ta l i).2.2.2.1 == (ta m i).2.2.2.1) && (((ta l i).2.2.2.2.1 == (ta m i).2.2.2.2.1) && (((ta l i).2.2.2.2.2.1 == (ta m i).2.2.2.2.2.1) && (((ta l i).2.2.2.2.2.2 == (ta m i).2.2.2.2.2.2) && true)))))))) false true ?_ ?_⟩
  ·have q1 : ¬ ((l.length : Nat) : Int) < ((l.length : Nat) : Int) := by omega
   simp -implicitDefEqProofs only [q1, eq_self, xs]
  ·intro i hi _
   have q1 : (i : Int) < ((l.length : Nat) : Int) := by omega
   have q2 : (0 : Int) ≤ (i : Int) := by omega
   have hw : IntKind.wrap .i64 ((i : Int) + 1) = ((i + 1 : Nat) : Int) := by rw [wi (by omega) (by omega)]; omega
   simp -implicitDefEqProofs only [q1, q2, at_ta hi, at_ta (show i < m.length by omega), hw, eq_self, xs]
   generalize ((ByteArray.toList (ta l i).1 == ByteArray.toList (ta m i).1) && (((ta l i).2.1 == (ta m i).2.1) && (((ta l i).2.2.1 == (ta m i).2.2.1) && (((ta l i).2.2.2.1 == (ta m i).2.2.2.1) && (((ta l i).2.2.2.2.1 == (ta m i).2.2.2.2.1) && (((ta l i).2.2.2.2.2.1 == (ta m i).2.2.2.2.2.1) && ((ta l i).2.2.2.2.2.2 == (ta m i).2.2.2.2.2.2))))))) = q
   cases q <;> rfl
 ·have e : (((l.length : Nat) : Int) != ((m.length : Nat) : Int)) = true := by rw [bne_iff_ne]; omega
  simp only [e, cond_true]
  exact ⟨_, rfl⟩
theorem F59_34 (l m : List TK) : F59 (l, m) = F34 (l, m) := (F59_eq (l, m)).trans (F34_eq (l, m)).symm
theorem both_same (b o : BK) (hl : b.2.2.length ≤ 1000) : ∃ r, F30 (b, o) = some r ∧ F15 (b, o) = some r := by
 rw [F30_eq, F15_eq]
 obtain ⟨r, hr⟩ := F34_some b.2.2 o.2.2 hl
 have h2 : F59 (b.2.2, o.2.2) = some r := (F59_34 _ _).trans hr
 simp -implicitDefEqProofs only [hr, h2, eq_self, xs]
 cases b.1 == o.1
 ·exact ⟨_, rfl, rfl⟩
 ·cases b.2.1 == o.2.1
  ·exact ⟨_, rfl, rfl⟩
  ·exact ⟨_, rfl, rfl⟩
theorem eqq (b : Bool) : ((if b = true then (0 : Int) else 1) == 0) = b := by cases b <;> rfl
theorem F9_ok {c1 c2 : Int} {a g0 : Int} {l : List TK} {k : Int} {nm : ByteArray} {x g : Int} {d : Bool} {o : BK} (hz : szB (a, (g0, l))) (h14 : F14 () = some true) :
  F9 ((c1, (c2, (a, (g0, (l, (k, (nm, (x, (g, d))))))))), o) = some true := by
 rw [F9_eq]
 obtain ⟨l', h10, hz', hl⟩ := szB_cut hz
 clear hz
 have h11 := F11_ok (b := (a, (g0, l'))) (nm := nm) hz'
 have h27 := F27_ok (b := (a, (g0, l'))) (s := x) hz'
 have h25 := F25_ok (b := (a, (g0, l'))) hz'
 have h26 := F26_ok (b := (a, (g0, l'))) hz'
 have h28 := F28_ok (b := (a, (g0, l'))) hz'
 have h29 := F29_ok (c1, c2)
 have h12 := F12_ok (c1, c2)
 obtain ⟨r, h30, h15⟩ := both_same (a, (g0, l')) o (show l'.length ≤ 1000 by omega)
 simp -implicitDefEqProofs only [h10, h11, h27, h25, h26, h28, h29, h12, h30, h15, eq_self, xs]
 have ec : ((if (decide (1 ≤ c1) && decide (c1 ≤ 100) && (decide (1 ≤ c2) && decide (c2 ≤ 100))) = true then (0 : Int) else 1) == 0) = capsB (c1, c2) := eqq _
 simp -implicitDefEqProofs only [eqq, ec, beq_self_eq_true, eq_self, xs]
 cases hb : bookB (a, (g0, l'))
 ·simp -implicitDefEqProofs only [h14, beq_self_eq_true, eq_self, xs]
  rfl
 have hs : srt l' := srt_of hb
 have hL : l'.length ≤ 100 := len_of hb
 have h31 := F31_ok (b := (a, (g0, l'))) (nm := nm) hs (show l'.length ≤ 1000 by omega)
 have h33 := F33_ok (b := (a, (g0, l'))) (show l'.length ≤ 1000 by omega)
 have h35 := F35_ok (b := (a, (g0, l'))) (s := x) (show l'.length ≤ 1000 by omega)
 have hol : (opnL l').length ≤ 1000 := by
  unfold opnL
  rw [List.length_map]
  exact Nat.le_trans (List.length_filter_le _ _) (by rw [List.length_range]; omega)
 have h32 := F32_refl (opnL l') hol
 have h34 := F34_refl (lstT l' x) (by have := lstT_len l' x; omega)
 have hx : (decide (0 ≤ x) && decide (x ≤ 4)) = !(decide (x < 0) || decide (x > 4)) := by
  rw [Bool.eq_iff_iff, Bool.not_eq_true', Bool.or_eq_false_iff, Bool.and_eq_true, decide_eq_true_iff, decide_eq_true_iff, decide_eq_false_iff_not, decide_eq_false_iff_not]; omega
 have tail : ∀ q : List TK × Int, q = (if (decide (0 ≤ x) && decide (x ≤ 4)) = true then (lstT l' x, 0) else ([], 1)) →
   (joinX (Option.bind (cond (decide (x < 0)) (some true) (some (decide (x > 4)))) (fun v19 : Bool => cond v19 (cond (((q.1.length : Nat) : Int) == 0) (cond (q.2 == 1) (Option.bind (F33 (a, (g0, l'))) (fun v20 => Option.bind (F32 (opnL l', v20)) (fun v21 : Bool => cond v21 (Option.bind (F14 ()) (fun v22 => some (Sum.inr v22))) (some (Sum.inr false))))) (some (Sum.inr false))) (some (Sum.inr false))) (some (Sum.inl ()))))
    (fun _ : Unit => Option.bind (F35 ((a, (g0, l')), x)) (fun v24 => Option.bind (F34 (q.1, v24)) (fun v25 : Bool => cond v25 (cond (q.2 == 0) (Option.bind (F33 (a, (g0, l'))) (fun v26 => Option.bind (F32 (opnL l', v26)) (fun v27 : Bool => cond v27 (Option.bind (F14 ()) (fun v28 => some v28)) (some false)))) (some false)) (some false))))) = some true := by
  rintro q rfl
  rw [hx]
  by_cases k1 : x < 0
  ·simp -implicitDefEqProofs only [k1, h33, h32, h14, eq_self, xs]
   rfl
  by_cases k2 : x > 4
  ·simp -implicitDefEqProofs only [k1, k2, h33, h32, h14, eq_self, xs]
   rfl
  simp -implicitDefEqProofs only [k1, k2, h33, h32, h14, h35, h34, eq_self, xs]
  rfl
 cases hf : fnd l' nm
 ·have k1 : (-1 : Int) < 0 := by omega
  have k2 : ¬ ((-1 : Int) ≥ 0) := by omega
  have n6 : ((6 : Int) != 6) = false := rfl
  simp -implicitDefEqProofs only [h31, hf, k1, k2, n6, beq_self_eq_true, eq_self, xs]
  exact tail _ rfl
 ·have hf' := hf
  unfold fnd at hf'
  rw [Bool.and_eq_true, decide_eq_true_iff] at hf'
  have k1 : ¬ (((plc l' nm : Nat) : Int) < 0) := by omega
  have k2 : ((plc l' nm : Nat) : Int) ≥ 0 := by omega
  have k3 : max ((plc l' nm : Nat) : Int) 0 = ((plc l' nm : Nat) : Int) := by omega
  have k4 : (0 : Int) ≤ ((plc l' nm : Nat) : Int) := by omega
  simp -implicitDefEqProofs only [h31, hf, k1, k2, k3, k4, at_ta hf'.1, beq_self_eq_true, nz0, eq_self, xs]
  exact tail _ rfl
end Go.Proofs.Ytoblcfkmggbheaa.VL
end
