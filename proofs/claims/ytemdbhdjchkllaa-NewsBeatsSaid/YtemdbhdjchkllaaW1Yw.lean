import Derived.Test.YtemdbhdjchkllaaW1Ta
import Derived.Test.YtemdbhdjchkllaaW1Ya
import Derived.Test.YtemdbhdjchkllaaW1Wc
import Derived.Test.YtemdbhdjchkllaaW1Xr
import Derived.Laws.RangeString
import Derived.Laws.RangeAny
section
namespace Go.Proofs.Ytemdbhdjchkllaa.VL
open Go
set_option maxRecDepth 100000
set_option linter.unusedSectionVars false
variable [Val]
def clones:List (Nat×Nat×Nat×PV):=[]
theorem clones_ok:CalleeOk Try.prog (cloneOv clones):=cloneOv_ok hm (l:=clones) trivial
abbrev fz:List Nat:=[10,13]
noncomputable abbrev run0:=runR (cloneOv clones) fz tab 1000 50
theorem awake_run:run0 14 []=.ok (vb true):=by kernel_rfl
theorem awake_ok:VPure Try.prog 14 [] (vb true):=vpure_runR hm clones_ok fz tab_ok 1000 50 awake_run
def F14:Unit→Option Bool:=fun _=>some true
def pe14:PE:=⟨14,.no,.v .b,F14⟩
theorem pe14_ok:pe14.ok Try.prog:=⟨rfl,rfl,rfl,rfl,rfl,fun v y h=>by cases h; exact awake_ok⟩
end Go.Proofs.Ytemdbhdjchkllaa.VL
end
section
namespace Go.Proofs.Ytemdbhdjchkllaa.VL
open Go
set_option maxRecDepth 100000
set_option linter.unusedVariables false
set_option linter.unusedSectionVars false
variable [Val]
noncomputable section
abbrev tz1:TT:=(.p (.i .i64) (.p (.i .u64) (.p (.i .i64) (.i .i64))))
abbrev xi (n:Nat) (o:IOp):XO:=⟨⟨some n,o,none⟩,.b,[],[]⟩
abbrev xg (n:Nat) (o:IOp) (m:Nat) (b:Bool):XO:=⟨⟨some n,o,some (m,b)⟩,.b,[],[]⟩
abbrev xz (o:IOp):XO:=⟨⟨none,o,none⟩,.b,[],[]⟩
def xf24:FX:=⟨(.seq (.reg [(xi 1 (.box 0 2 (.t 0))),(xi 2 (.mov (.c (.v (.bool false)))))]) (.seq (.reg [(xi 3 (.fad 1 (.t 1))),(xi 4 (.load false 1 (.t 3))),(xi 5 (.bin .leq (.c (.v (.int .i64 0))) (.t 4))),(xi 6 (.mov (.t 5))),(xg 7 (.fad 1 (.t 1)) 6 true),(xg 8 (.load false 1 (.t 7)) 6 true),(xg 9 (.bin .leq (.t 8) (.c (.v (.int .i64 3)))) 6 true),(xi 10 (.pick (.t 6) (.t 9) (.c (.v (.bool false))))),(xi 2 (.mov (.t 10)))]) .ret)),[1],11,[.t 2],2⟩
theorem xf24_ok:xf24.ok Try.prog 24:=⟨_,_,Try.func24,rfl,by kernel_rfl,rfl,by kernel_rfl,rfl,by kernel_rfl,by kernel_rfl⟩
def tb24:List PE:=[]
theorem tb24_ok:PEsOk Try.prog tb24:=trivial
def ex24:List EX:=[]
theorem ex24_ok:EXsOk Try.prog ex24:=trivial
def in24:List IN:=[]
theorem in24_ok:INsOk Try.prog in24:=trivial
def F24:DT ((.co (.v (.p (.i .u64) (.i .i64))) .no):Fm).den→Option (DT (.v .b:Fm).den):=pureT tb24 ex24 in24 0 xf24 _ _ []
def pe24:PE:=⟨24,(.co (.v (.p (.i .u64) (.i .i64))) .no),.v .b,F24⟩
theorem pe24_ok:pe24.ok Try.prog:=pe_of hm tb24_ok ex24_ok in24_ok xf24_ok (by kernel_rfl) (fun _=>rfl)
def xf40:FX:=⟨(.seq (.reg [(xi 2 (.mov (.c (.v (.int .i64 0)))))]) (.seq (.seq (.reg [(xi 5 (.mov (.t 0))),(xi 6 (.len (.t 5))),(xi 7 (.mov (.c (.v (.int .i64 0)))))]) (.blk 0 (.loop ⟨[2,4,7,8,9,10,11,12,13,14,15,16,17,18,19],[0],⟨[],[(7,.v (.i .i64))],[]⟩⟩ (.seq (.reg [(xi 8 (.bin .lss (.t 7) (.t 6)))]) (.seq (.cond (.t 8) .skip (.exit 0)) (.seq (.cut ⟨[2,4,9,10,11,12,13,14,15,16,17,18],[0],⟨[],[],[]⟩⟩ (.blk 1 (.seq (.reg [(xi 9 (.iad 2 (.t 5) (.t 7))),(xi 10 (.load true 2 (.t 9))),(xi 4 (.alloc 0 (.agg [(.v (.int .u64 0)),(.v (.int .i64 0))]))),(xz (.store 2 (.t 4) (.t 10)))]) (.seq (.cutN ⟨[11,12,13,14,15,16,17,18],[],⟨[],[(18,.v .b)],[]⟩⟩ (.reg [(xi 11 (.fad 1 (.t 4))),(xi 12 (.load false 1 (.t 11))),(xi 13 (.bin .lss (.t 12) (.c (.v (.int .i64 0))))),(xi 14 (.mov (.t 13))),(xg 15 (.fad 1 (.t 4)) 14 false),(xg 16 (.load false 1 (.t 15)) 14 false),(xg 17 (.bin .gtr (.t 16) (.c (.v (.int .i64 3)))) 14 false),(xi 18 (.pick (.t 14) (.c (.v (.bool true))) (.t 17)))])) (.cond (.t 18) (.seq (.reg [(xi 2 (.mov (.c (.v (.int .i64 1)))))]) .ret) .skip))))) (.reg [(xi 19 (.bin .add (.t 7) (.c (.v (.int .i64 1))))),(xi 7 (.mov (.t 19)))]))))))) (.seq (.reg [(xi 2 (.mov (.c (.v (.int .i64 0)))))]) .ret))),[4],20,[.t 2],2⟩
theorem xf40_ok:xf40.ok Try.prog 40:=⟨_,_,Try.func40,rfl,by kernel_rfl,rfl,by kernel_rfl,rfl,by kernel_rfl,by kernel_rfl⟩
def tb40:List PE:=[]
theorem tb40_ok:PEsOk Try.prog tb40:=trivial
def ex40:List EX:=[]
theorem ex40_ok:EXsOk Try.prog ex40:=trivial
def in40:List IN:=[]
theorem in40_ok:INsOk Try.prog in40:=trivial
def F40:DT ((.co (.v (.sl (.p (.i .u64) (.i .i64)))) .no):Fm).den→Option (DT (.v (.i .i64):Fm).den):=pureT tb40 ex40 in40 0 xf40 _ _ []
def pe40:PE:=⟨40,(.co (.v (.sl (.p (.i .u64) (.i .i64)))) .no),.v (.i .i64),F40⟩
theorem pe40_ok:pe40.ok Try.prog:=pe_of hm tb40_ok ex40_ok in40_ok xf40_ok (by kernel_rfl) (fun _=>rfl)
def xf25:FX:=⟨(.seq (.reg [(xi 1 (.box 0 3 (.t 0))),(xi 2 (.mov (.c (.v (.bool false)))))]) (.seq (.reg [(xi 3 (.fad 0 (.t 1))),(xi 4 (.load false 1 (.t 3))),(xi 5 (.bin .geq (.t 4) (.c (.v (.int .i64 0))))),(xi 6 (.mov (.t 5))),(xg 7 (.fad 0 (.t 1)) 6 true),(xg 8 (.load false 1 (.t 7)) 6 true),(xg 9 (.bin .lss (.t 8) (.c (.v (.int .i64 64)))) 6 true),(xi 10 (.pick (.t 6) (.t 9) (.c (.v (.bool false))))),(xi 11 (.mov (.t 10))),(xg 12 (.fad 1 (.t 1)) 11 true),(xg 13 (.load true 2 (.t 12)) 11 true),(xg 14 (.bsl 2 (.agg [(.v (.int .u64 0)),(.v (.int .i64 0))]) 1 [(0,(.t 13))]) 11 true),(xg 15 (.call 1 40 [(.t 14)]) 11 true),(xg 16 (.bin .eql (.t 15) (.c (.v (.int .i64 0)))) 11 true),(xi 17 (.pick (.t 11) (.t 16) (.c (.v (.bool false))))),(xi 2 (.mov (.t 17)))]) .ret)),[1,15],18,[.t 2],3⟩
theorem xf25_ok:xf25.ok Try.prog 25:=⟨_,_,Try.func25,rfl,by kernel_rfl,rfl,by kernel_rfl,rfl,by kernel_rfl,by kernel_rfl⟩
def tb25:List PE:=[pe40]
theorem tb25_ok:PEsOk Try.prog tb25:=⟨pe40_ok,trivial⟩
def ex25:List EX:=[]
theorem ex25_ok:EXsOk Try.prog ex25:=trivial
def in25:List IN:=[]
theorem in25_ok:INsOk Try.prog in25:=trivial
def F25:DT ((.co (.v (.p (.i .i64) (.p (.i .u64) (.i .i64)))) .no):Fm).den→Option (DT (.v .b:Fm).den):=pureT tb25 ex25 in25 0 xf25 _ _ []
def pe25:PE:=⟨25,(.co (.v (.p (.i .i64) (.p (.i .u64) (.i .i64)))) .no),.v .b,F25⟩
theorem pe25_ok:pe25.ok Try.prog:=pe_of hm tb25_ok ex25_ok in25_ok xf25_ok (by kernel_rfl) (fun _=>rfl)
def xf26:FX:=⟨(.seq (.reg [(xi 2 (.mov (.c (.v (.bool false)))))]) (.seq (.reg [(xi 3 (.mov (.t 0))),(xi 4 (.bin .geq (.t 3) (.c (.v (.int .i64 1))))),(xi 5 (.mov (.t 4))),(xg 6 (.mov (.t 0)) 5 true),(xg 7 (.bin .leq (.t 6) (.c (.v (.int .i64 64)))) 5 true),(xi 8 (.pick (.t 5) (.t 7) (.c (.v (.bool false))))),(xi 2 (.mov (.t 8)))]) .ret)),[],9,[.t 2],1⟩
theorem xf26_ok:xf26.ok Try.prog 26:=⟨_,_,Try.func26,rfl,by kernel_rfl,rfl,by kernel_rfl,rfl,by kernel_rfl,by kernel_rfl⟩
def tb26:List PE:=[]
theorem tb26_ok:PEsOk Try.prog tb26:=trivial
def ex26:List EX:=[]
theorem ex26_ok:EXsOk Try.prog ex26:=trivial
def in26:List IN:=[]
theorem in26_ok:INsOk Try.prog in26:=trivial
def F26:DT ((.co (.v (.i .i64)) .no):Fm).den→Option (DT (.v .b:Fm).den):=pureT tb26 ex26 in26 0 xf26 _ _ []
def pe26:PE:=⟨26,(.co (.v (.i .i64)) .no),.v .b,F26⟩
theorem pe26_ok:pe26.ok Try.prog:=pe_of hm tb26_ok ex26_ok in26_ok xf26_ok (by kernel_rfl) (fun _=>rfl)
def xf11:FX:=⟨(.seq (.reg [(xi 2 (.mov (.c (.v (.int .i64 0)))))]) (.seq (.seq (.reg [(xi 5 (.mov (.t 0))),(xi 6 (.len (.t 5))),(xi 7 (.mov (.c (.v (.int .i64 0)))))]) (.blk 0 (.loop ⟨[2,3,4,7,8,9,10,11,12,13,14,15,16,17,18,19,20,21,22,23,24,25,26,27,28,29,30,31,32,33,34,35,36,37,38,39],[0],⟨[],[(7,.v (.i .i64))],[]⟩⟩ (.seq (.reg [(xi 8 (.bin .lss (.t 7) (.t 6)))]) (.seq (.cond (.t 8) .skip (.exit 0)) (.seq (.cut ⟨[2,3,4,9,10,11,12,13,14,15,16,17,18,19,20,21,22,23,24,25,26,27,28,29,30,31,32,33,34,35,36,37,38],[0],⟨[],[],[]⟩⟩ (.blk 1 (.seq (.reg [(xi 9 (.mov (.t 7))),(xi 10 (.iad 4 (.t 5) (.t 7))),(xi 11 (.load true 4 (.t 10))),(xi 4 (.alloc 0 (.agg [(.v (.int .i64 0)),(.v (.int .u64 0)),(.v (.int .i64 0)),(.v (.int .i64 0))]))),(xi 3 (.mov (.t 9))),(xz (.store 4 (.t 4) (.t 11)))]) (.seq (.cutN ⟨[12,13,14,15,16,17,18,19,20,21,22,23,24,25,26,27,28,29,30,31,32,33,34,35,36,37,38],[],⟨[],[(38,.v .b)],[]⟩⟩ (.dr [] [(xi 12 (.fad 0 (.t 4))),(xi 13 (.load true 3 (.t 12))),(xi 14 (.callG 1 25 [(.t 13)])),(xi 15 (.un .not (.t 14))),(xi 16 (.mov (.t 15))),(xg 17 (.fad 3 (.t 4)) 16 false),(xg 18 (.load false 1 (.t 17)) 16 false),(xg 19 (.callG 2 26 [(.t 18)]) 16 false),(xg 20 (.un .not (.t 19)) 16 false),(xi 21 (.pick (.t 16) (.c (.v (.bool true))) (.t 20))),(xi 22 (.mov (.t 21))),(xg 23 (.mov (.t 3)) 22 false),(xg 24 (.bin .gtr (.t 23) (.c (.v (.int .i64 0)))) 22 false),(xg 25 (.mov (.t 24)) 22 false),(xg 26 (.mov (.t 0)) 25 true),(xg 27 (.mov (.t 3)) 25 true),(xg 28 (.bin .sub (.t 27) (.c (.v (.int .i64 1)))) 25 true),(xg 29 (.iad 4 (.t 26) (.t 28)) 25 true),(xg 30 (.fad 0 (.t 29)) 25 true),(xg 31 (.fad 0 (.t 30)) 25 true),(xg 32 (.load false 1 (.t 31)) 25 true),(xg 33 (.fad 0 (.t 4)) 25 true),(xg 34 (.fad 0 (.t 33)) 25 true),(xg 35 (.load false 1 (.t 34)) 25 true),(xg 36 (.bin .geq (.t 32) (.t 35)) 25 true),(xg 37 (.pick (.t 25) (.t 36) (.c (.v (.bool false)))) 22 false),(xi 38 (.pick (.t 22) (.c (.v (.bool true))) (.t 37)))])) (.cond (.t 38) (.seq (.reg [(xi 2 (.mov (.c (.v (.int .i64 1)))))]) .ret) .skip))))) (.reg [(xi 39 (.bin .add (.t 7) (.c (.v (.int .i64 1))))),(xi 7 (.mov (.t 39)))]))))))) (.seq (.reg [(xi 2 (.mov (.c (.v (.int .i64 0)))))]) .ret))),[4,14,19],40,[.t 2],4⟩
theorem xf11_ok:xf11.ok Try.prog 11:=⟨_,_,Try.func11,rfl,by kernel_rfl,rfl,by kernel_rfl,rfl,by kernel_rfl,by kernel_rfl⟩
def tb11:List PE:=[pe25,pe26]
theorem tb11_ok:PEsOk Try.prog tb11:=⟨pe25_ok,pe26_ok,trivial⟩
def ex11:List EX:=[]
theorem ex11_ok:EXsOk Try.prog ex11:=trivial
def in11:List IN:=[]
theorem in11_ok:INsOk Try.prog in11:=trivial
def F11:DT ((.co (.v (.sl tz1)) .no):Fm).den→Option (DT (.v (.i .i64):Fm).den):=pureT tb11 ex11 in11 0 xf11 _ _ []
def pe11:PE:=⟨11,(.co (.v (.sl tz1)) .no),.v (.i .i64),F11⟩
theorem pe11_ok:pe11.ok Try.prog:=pe_of hm tb11_ok ex11_ok in11_ok xf11_ok (by kernel_rfl) (fun _=>rfl)
def xf41:FX:=⟨(.seq (.reg [(xi 2 (.mov (.c (.v (.bool false)))))]) (.seq (.reg [(xi 3 (.mov (.t 0))),(xi 4 (.mov (.t 0))),(xi 5 (.bin .neq (.t 3) (.t 4))),(xi 2 (.mov (.t 5)))]) .ret)),[],6,[.t 2],1⟩
theorem xf41_ok:xf41.ok Try.prog 41:=⟨_,_,Try.func41,rfl,by kernel_rfl,rfl,by kernel_rfl,rfl,by kernel_rfl,by kernel_rfl⟩
def tb41:List PE:=[]
theorem tb41_ok:PEsOk Try.prog tb41:=trivial
def ex41:List EX:=[]
theorem ex41_ok:EXsOk Try.prog ex41:=trivial
def in41:List IN:=[]
theorem in41_ok:INsOk Try.prog in41:=trivial
def F41:DT ((.co (.v (.i .i64)) .no):Fm).den→Option (DT (.v .b:Fm).den):=pureT tb41 ex41 in41 0 xf41 _ _ []
def pe41:PE:=⟨41,(.co (.v (.i .i64)) .no),.v .b,F41⟩
theorem pe41_ok:pe41.ok Try.prog:=pe_of hm tb41_ok ex41_ok in41_ok xf41_ok (by kernel_rfl) (fun _=>rfl)
def xf29:FX:=⟨(.seq (.reg [(xi 4 (.mov (.c (.v (.int .i64 0)))))]) (.seq (.reg [(xi 7 (.mov (.t 0))),(xi 8 (.call 0 41 [(.t 7)])),(xi 5 (.mov (.t 8)))]) (.seq (.reg [(xi 9 (.mov (.t 1))),(xi 10 (.call 1 41 [(.t 9)])),(xi 6 (.mov (.t 10)))]) (.seq (.seq (.reg [(xi 11 (.mov (.t 5)))]) (.cond (.t 11) (.seq (.seq (.reg [(xi 12 (.mov (.t 6)))]) (.cond (.t 12) (.seq (.reg [(xi 4 (.mov (.c (.v (.int .i64 0)))))]) .ret) .skip)) (.seq (.reg [(xi 4 (.mov (.c (.v (.int .i64 (-1))))))]) .ret)) .skip)) (.seq (.seq (.reg [(xi 13 (.mov (.t 6)))]) (.cond (.t 13) (.seq (.reg [(xi 4 (.mov (.c (.v (.int .i64 1)))))]) .ret) .skip)) (.seq (.seq (.reg [(xi 14 (.mov (.t 0))),(xi 15 (.mov (.t 1))),(xi 16 (.bin .lss (.t 14) (.t 15)))]) (.cond (.t 16) (.seq (.reg [(xi 4 (.mov (.c (.v (.int .i64 (-1))))))]) .ret) .skip)) (.seq (.seq (.reg [(xi 17 (.mov (.t 0))),(xi 18 (.mov (.t 1))),(xi 19 (.bin .gtr (.t 17) (.t 18)))]) (.cond (.t 19) (.seq (.reg [(xi 4 (.mov (.c (.v (.int .i64 1)))))]) .ret) .skip)) (.seq (.reg [(xi 4 (.mov (.c (.v (.int .i64 0)))))]) .ret)))))))),[8,10],20,[.t 4],3⟩
theorem xf29_ok:xf29.ok Try.prog 29:=⟨_,_,Try.func29,rfl,by kernel_rfl,rfl,by kernel_rfl,rfl,by kernel_rfl,by kernel_rfl⟩
def tb29:List PE:=[pe41]
theorem tb29_ok:PEsOk Try.prog tb29:=⟨pe41_ok,trivial⟩
def ex29:List EX:=[]
theorem ex29_ok:EXsOk Try.prog ex29:=trivial
def in29:List IN:=[]
theorem in29_ok:INsOk Try.prog in29:=trivial
def F29:DT ((.co (.v (.i .i64)) (.co (.v (.i .i64)) .no)):Fm).den→Option (DT (.v (.i .i64):Fm).den):=pureT tb29 ex29 in29 0 xf29 _ _ []
def pe29:PE:=⟨29,(.co (.v (.i .i64)) (.co (.v (.i .i64)) .no)),.v (.i .i64),F29⟩
theorem pe29_ok:pe29.ok Try.prog:=pe_of hm tb29_ok ex29_ok in29_ok xf29_ok (by kernel_rfl) (fun _=>rfl)
def xf28:FX:=⟨(.seq (.reg [(xi 2 (.box 0 4 (.t 0))),(xi 4 (.mov (.c (.v (.int .i64 0)))))]) (.seq (.reg [(xi 5 (.fad 0 (.t 2))),(xi 6 (.fad 0 (.t 5))),(xi 7 (.load false 1 (.t 6))),(xi 8 (.mov (.t 1))),(xi 9 (.call 1 29 [(.t 7),(.t 8)])),(xi 4 (.mov (.t 9)))]) .ret)),[2,9],10,[.t 4],3⟩
theorem xf28_ok:xf28.ok Try.prog 28:=⟨_,_,Try.func28,rfl,by kernel_rfl,rfl,by kernel_rfl,rfl,by kernel_rfl,by kernel_rfl⟩
def tb28:List PE:=[pe29]
theorem tb28_ok:PEsOk Try.prog tb28:=⟨pe29_ok,trivial⟩
def ex28:List EX:=[]
theorem ex28_ok:EXsOk Try.prog ex28:=trivial
def in28:List IN:=[]
theorem in28_ok:INsOk Try.prog in28:=trivial
def F28:DT ((.co (.v tz1) (.co (.v (.i .i64)) .no)):Fm).den→Option (DT (.v (.i .i64):Fm).den):=pureT tb28 ex28 in28 0 xf28 _ _ []
def pe28:PE:=⟨28,(.co (.v tz1) (.co (.v (.i .i64)) .no)),.v (.i .i64),F28⟩
theorem pe28_ok:pe28.ok Try.prog:=pe_of hm tb28_ok ex28_ok in28_ok xf28_ok (by kernel_rfl) (fun _=>rfl)
def xf32:FX:=⟨(.seq (.reg [(xi 2 (.box 0 2 (.t 0))),(xi 3 (.box 1 2 (.t 1))),(xi 4 (.mov (.c (.v (.bool false)))))]) (.seq (.cut ⟨[4,5,6,7,8,9,10,11,12,13,14,15,16,17,18,19,20,21,22,23,24,25,26],[],⟨[],[],[]⟩⟩ (.blk 0 (.seq (.cutN ⟨[5,6,7,8,9,10,11,12,13,14,15],[],⟨[],[(5,.v .b)],[]⟩⟩ (.reg [(xi 6 (.load true 2 (.t 2))),(xi 7 (.load true 2 (.t 3))),(xi 8 (.bsl 2 (.agg [(.v (.int .u64 0)),(.v (.int .i64 0))]) 2 [(0,(.t 6)),(1,(.t 7))])),(xi 9 (.call 2 40 [(.t 8)])),(xi 10 (.bin .neq (.t 9) (.c (.v (.int .i64 0))))),(xi 11 (.mov (.t 10))),(xg 12 (.load true 2 (.t 2)) 11 false),(xg 13 (.load true 2 (.t 3)) 11 false),(xg 14 (.eqA false 2 [(0,.i),(1,.i)] (.t 12) (.t 13)) 11 false),(xi 15 (.pick (.t 11) (.c (.v (.bool true))) (.t 14))),(xi 5 (.mov (.t 15)))])) (.cond (.t 5) (.seq (.reg [(xi 4 (.mov (.c (.v (.bool false)))))]) .ret) (.seq (.reg [(xi 17 (.fad 0 (.t 2))),(xi 18 (.load false 1 (.t 17))),(xi 19 (.fad 0 (.t 3))),(xi 20 (.load false 1 (.t 19))),(xi 21 (.bin .neq (.t 18) (.t 20))),(xi 16 (.mov (.t 21)))]) (.cond (.t 16) (.seq (.reg [(xi 22 (.fad 0 (.t 2))),(xi 23 (.load false 1 (.t 22))),(xi 24 (.fad 0 (.t 3))),(xi 25 (.load false 1 (.t 24))),(xi 26 (.bin .gtr (.t 23) (.t 25))),(xi 4 (.mov (.t 26)))]) .ret) .skip)))))) (.seq (.reg [(xi 27 (.fad 1 (.t 2))),(xi 28 (.load false 1 (.t 27))),(xi 29 (.fad 1 (.t 3))),(xi 30 (.load false 1 (.t 29))),(xi 31 (.bin .gtr (.t 28) (.t 30))),(xi 4 (.mov (.t 31)))]) .ret))),[2,3,9],32,[.t 4],4⟩
theorem xf32_ok:xf32.ok Try.prog 32:=⟨_,_,Try.func32,rfl,by kernel_rfl,rfl,by kernel_rfl,rfl,by kernel_rfl,by kernel_rfl⟩
def tb32:List PE:=[pe40]
theorem tb32_ok:PEsOk Try.prog tb32:=⟨pe40_ok,trivial⟩
def ex32:List EX:=[]
theorem ex32_ok:EXsOk Try.prog ex32:=trivial
def in32:List IN:=[]
theorem in32_ok:INsOk Try.prog in32:=trivial
def F32:DT ((.co (.v (.p (.i .u64) (.i .i64))) (.co (.v (.p (.i .u64) (.i .i64))) .no)):Fm).den→Option (DT (.v .b:Fm).den):=pureT tb32 ex32 in32 0 xf32 _ _ []
def pe32:PE:=⟨32,(.co (.v (.p (.i .u64) (.i .i64))) (.co (.v (.p (.i .u64) (.i .i64))) .no)),.v .b,F32⟩
theorem pe32_ok:pe32.ok Try.prog:=pe_of hm tb32_ok ex32_ok in32_ok xf32_ok (by kernel_rfl) (fun _=>rfl)
def xf10:FX:=⟨(.seq (.reg [(xi 4 (.box 0 3 (.t 1))),(xi 6 (.mov (.c (.sl true [])))),(xi 7 (.mov (.c (.v (.int .i64 0)))))]) (.seq (.cut ⟨[6,7,12,13,14,15,16,17,18,19,20,21,22,23,24,25],[],⟨[],[],[]⟩⟩ (.seq (.cutN ⟨[12,13,14,15,16,17,18,19,20,21,22,23,24],[],⟨[],[(24,.v .b)],[]⟩⟩ (.reg [(xi 12 (.mov (.t 0))),(xi 13 (.call 1 11 [(.t 12)])),(xi 14 (.bin .neq (.t 13) (.c (.v (.int .i64 0))))),(xi 15 (.mov (.t 14))),(xg 16 (.load true 3 (.t 4)) 15 false),(xg 17 (.call 2 25 [(.t 16)]) 15 false),(xg 18 (.un .not (.t 17)) 15 false),(xi 19 (.pick (.t 15) (.c (.v (.bool true))) (.t 18))),(xi 20 (.mov (.t 19))),(xg 21 (.mov (.t 2)) 20 false),(xg 22 (.call 3 26 [(.t 21)]) 20 false),(xg 23 (.un .not (.t 22)) 20 false),(xi 24 (.pick (.t 20) (.c (.v (.bool true))) (.t 23)))])) (.cond (.t 24) (.seq (.reg [(xi 25 (.mov (.t 0))),(xi 6 (.mov (.t 25))),(xi 7 (.mov (.c (.v (.int .i64 1)))))]) .ret) .skip))) (.seq (.reg [(xi 27 (.mov (.t 0))),(xi 28 (.fad 0 (.t 4))),(xi 29 (.load false 1 (.t 28))),(xi 30 (.call 4 27 [(.t 27),(.t 29),(.c (.clo 28 [] []))])),(xi 26 (.mov (.t 30))),(xi 31 (.ext (.t 26) 0)),(xi 32 (.ext (.t 26) 1)),(xi 8 (.mov (.t 31))),(xi 9 (.mov (.t 32)))]) (.seq (.reg [(xi 33 (.load true 3 (.t 4))),(xi 34 (.mov (.t 2))),(xi 35 (.bld [(.v (.int .i64 0)),(.v (.int .u64 0)),(.v (.int .i64 0)),(.v (.int .i64 0))] [(0,3,(.t 33)),(3,1,(.t 34))])),(xi 10 (.alloc 5 (.agg [(.v (.int .i64 0)),(.v (.int .u64 0)),(.v (.int .i64 0)),(.v (.int .i64 0))]))),(xz (.store 4 (.t 10) (.t 35)))]) (.seq (.blk 0 (.seq (.reg [(xi 37 (.mov (.t 9))),(xi 38 (.un .not (.t 37))),(xi 36 (.mov (.t 38)))]) (.cond (.t 36) (.seq (.dr [(3,1)] [(xi 39 (.mov (.t 0))),⟨⟨(some 40),(.callG 6 31 [(.t 39)]),none⟩,.b,[],[14,15]⟩,(xi 41 (.mov (.t 8))),(xi 42 (.load true 4 (.t 10))),(xi 43 (.bsl 4 (.agg [(.v (.int .i64 0)),(.v (.int .u64 0)),(.v (.int .i64 0)),(.v (.int .i64 0))]) 1 [(0,(.t 42))])),⟨⟨(some 44),(.callG 7 30 [(.t 40),(.t 41),(.t 43)]),none⟩,.b,[],[7,14]⟩,(xi 6 (.mov (.t 44))),(xi 7 (.mov (.c (.v (.int .i64 0)))))]) .ret) (.seq (.dr [] [(xi 46 (.fad 1 (.t 4))),(xi 47 (.load true 2 (.t 46))),(xi 48 (.mov (.t 0))),(xi 49 (.mov (.t 8))),(xi 50 (.iad 4 (.t 48) (.t 49))),(xi 51 (.fad 0 (.t 50))),(xi 52 (.fad 1 (.t 51))),(xi 53 (.load true 2 (.t 52))),(xi 54 (.callG 8 32 [(.t 47),(.t 53)])),(xi 55 (.un .not (.t 54))),(xi 45 (.mov (.t 55)))]) (.cond (.t 45) (.seq (.reg [(xi 56 (.mov (.t 0))),(xi 6 (.mov (.t 56))),(xi 7 (.mov (.c (.v (.int .i64 0)))))]) .ret) .skip))))) (.seq (.reg [(xi 57 (.mov (.t 0))),(xi 58 (.call 9 31 [(.t 57)])),(xi 11 (.mov (.t 58)))]) (.seq (.reg [(xi 59 (.mov (.t 11))),(xi 60 (.mov (.t 8))),(xi 61 (.load true 4 (.t 10))),(xi 62 (.iad 4 (.t 59) (.t 60))),(xz (.store 4 (.t 62) (.t 61)))]) (.seq (.reg [(xi 63 (.mov (.t 11))),(xi 6 (.mov (.t 63))),(xi 7 (.mov (.c (.v (.int .i64 0)))))]) .ret)))))))),[4,13,17,22,30,10,40,44,54,58],64,[.t 6,.t 7],18⟩
theorem xf10_ok:xf10.ok Try.prog 10:=⟨_,_,Try.func10,rfl,by kernel_rfl,rfl,by kernel_rfl,rfl,by kernel_rfl,by kernel_rfl⟩
def ff27:FX:=⟨(.seq (.reg [(xi 6 (.mov (.c (.v (.int .i64 0))))),(xi 7 (.mov (.c (.v (.bool false)))))]) (.seq (.reg [(xi 12 (.mov (.t 0))),(xi 13 (.len (.t 12))),(xi 8 (.mov (.t 13)))]) (.seq (.reg [(xi 14 (.mov (.t 8))),(xi 9 (.mov (.c (.v (.int .i64 0))))),(xi 10 (.mov (.t 14)))]) (.seq (.cutN ⟨[9,10,11,15,16,17,18,19,20,21,22,23,24,25,26,27,28,29,30,31,32,33,34],[],⟨[],[(9,.v (.i .i64))],[]⟩⟩ (.blk 0 (.loop ⟨[9,10,11,15,16,17,18,19,20,21,22,23,24,25,26,27,28,29,30,31,32,33,34],[],⟨[],[(9,.v (.i .i64)),(10,.v (.i .i64))],[]⟩⟩ (.seq (.seq (.reg [(xi 15 (.mov (.t 9))),(xi 16 (.mov (.t 10))),(xi 17 (.bin .lss (.t 15) (.t 16)))]) (.cond (.t 17) .skip (.exit 0))) (.blk 1 (.seq (.reg [(xi 18 (.mov (.t 9))),(xi 19 (.mov (.t 10))),(xi 20 (.bin .add (.t 18) (.t 19))),(xi 21 (.conv .u64 (.t 20))),(xi 22 (.bin .shr (.t 21) (.c (.v (.int .u64 1))))),(xi 23 (.conv .i64 (.t 22))),(xi 11 (.mov (.t 23)))]) (.seq (.reg [(xi 24 (.mov (.t 2))),(xi 25 (.mov (.t 0))),(xi 26 (.mov (.t 11))),(xi 27 (.iad 4 (.t 25) (.t 26))),(xi 28 (.load true 4 (.t 27))),(xi 29 (.mov (.t 1))),(xi 30 (.callv 0 (.t 24) [(.t 28),(.t 29)])),(xi 31 (.bin .lss (.t 30) (.c (.v (.int .i64 0)))))]) (.cond (.t 31) (.reg [(xi 32 (.mov (.t 11))),(xi 33 (.bin .add (.t 32) (.c (.v (.int .i64 1))))),(xi 9 (.mov (.t 33)))]) (.reg [(xi 34 (.mov (.t 11))),(xi 10 (.mov (.t 34)))]))))))))) (.seq (.reg [(xi 35 (.mov (.t 9))),(xi 36 (.mov (.t 9))),(xi 37 (.mov (.t 8))),(xi 38 (.bin .lss (.t 36) (.t 37))),(xi 39 (.mov (.t 38))),(xg 40 (.mov (.t 2)) 39 true),(xg 41 (.mov (.t 0)) 39 true),(xg 42 (.mov (.t 9)) 39 true),(xg 43 (.iad 4 (.t 41) (.t 42)) 39 true),(xg 44 (.load true 4 (.t 43)) 39 true),(xg 45 (.mov (.t 1)) 39 true),(xg 46 (.callv 1 (.t 40) [(.t 44),(.t 45)]) 39 true),(xg 47 (.bin .eql (.t 46) (.c (.v (.int .i64 0)))) 39 true),(xi 48 (.pick (.t 39) (.t 47) (.c (.v (.bool false))))),(xi 6 (.mov (.t 35))),(xi 7 (.mov (.t 48)))]) .ret))))),[30,46],49,[.t 6,.t 7],3⟩
theorem ff27_ok:ff27.ok Try.prog 27:=⟨_,_,Try.func27,rfl,by kernel_rfl,rfl,by kernel_rfl,rfl,by kernel_rfl,by kernel_rfl⟩
def ff31:FX:=⟨(.seq (.reg [(xi 2 (.mov (.c (.sl true []))))]) (.seq (.reg [(xi 4 (.mov (.t 0))),(xi 5 (.len (.t 4))),⟨⟨(some 6),(.mksl 0 4 32 (.agg [(.v (.int .i64 0)),(.v (.int .u64 0)),(.v (.int .i64 0)),(.v (.int .i64 0))]) (.t 5) (.t 5)),none⟩,tz1,[],[]⟩,(xi 3 (.mov (.t 6)))]) (.seq (.reg [(xi 7 (.mov (.t 3))),(xi 8 (.mov (.t 0))),(xi 9 (.cpy 4 (.t 7) (.t 8)))]) (.seq (.reg [(xi 10 (.mov (.t 3))),(xi 2 (.mov (.t 10)))]) .ret)))),[6],11,[.t 2],2⟩
theorem ff31_ok:ff31.ok Try.prog 31:=⟨_,_,Try.func31,rfl,by kernel_rfl,rfl,by kernel_rfl,rfl,by kernel_rfl,by kernel_rfl⟩
def tb10:List PE:=[pe11,pe25,pe26,pe28,pe32]
theorem tb10_ok:PEsOk Try.prog tb10:=⟨pe11_ok,pe25_ok,pe26_ok,pe28_ok,pe32_ok,trivial⟩
def ix30:EX:=⟨30,4,32,(.agg [(.v (.int .i64 0)),(.v (.int .u64 0)),(.v (.int .i64 0)),(.v (.int .i64 0))]),tz1⟩
theorem ix30_ok:ix30.ok Try.prog:=⟨⟨⟨_,_,43,Try.func30,rfl,by kernel_rfl,rfl,by kernel_rfl,by kernel_rfl⟩,by decide,by kernel_rfl,by kernel_rfl⟩,by kernel_rfl⟩
def ex10:List EX:=[ix30]
theorem ex10_ok:EXsOk Try.prog ex10:=⟨ix30_ok,trivial⟩
def in10:List IN:=[⟨4,27,11,ff27,some ⟨[0,1,2,3,4,5,6,7,8,9,10,11,12,13,14,15,16,17,18,19,20,21,22,23,24,25,26,27,28,29,30,31,32,33,34,35,36,37,38,39,40,41,42,43,44,45,46,47,48],[11,12,13],⟨[],[(6,.v (.i .i64)),(7,.v .b)],[]⟩⟩⟩,⟨6,31,14,ff31,some ⟨[0,1,2,3,4,5,6,7,8,9,10],[14,15],⟨[],[(2,.oc 14 4)],[⟨14,.rows tz1 4,false⟩]⟩⟩⟩,⟨9,31,16,ff31,none⟩]
theorem in10_ok:INsOk Try.prog in10:=⟨ff27_ok,ff31_ok,ff31_ok,trivial⟩
def F10:DT ((.co (.v (.sl tz1)) (.co (.v (.p (.i .i64) (.p (.i .u64) (.i .i64)))) (.co (.v (.i .i64)) .no))):Fm).den→Option (DT (.tup (.co (.v (.sl tz1)) (.co (.v (.i .i64)) .no)):Fm).den):=pureT tb10 ex10 in10 9 xf10 _ _ [14,16]
def pe10:PE:=⟨10,(.co (.v (.sl tz1)) (.co (.v (.p (.i .i64) (.p (.i .u64) (.i .i64)))) (.co (.v (.i .i64)) .no))),.tup (.co (.v (.sl tz1)) (.co (.v (.i .i64)) .no)),F10⟩
theorem pe10_ok:pe10.ok Try.prog:=pe_of hm tb10_ok ex10_ok in10_ok xf10_ok (by kernel_rfl) (fun _=>rfl)
def xf12:FX:=⟨(.seq (.reg [(xi 2 (.box 0 2 (.t 0))),(xi 3 (.box 1 2 (.t 1))),(xi 4 (.mov (.c (.v (.bool false)))))]) (.seq (.reg [(xi 5 (.load true 2 (.t 2))),(xi 6 (.call 2 24 [(.t 5)])),(xi 7 (.mov (.t 6))),(xg 8 (.load true 2 (.t 3)) 7 true),(xg 9 (.call 3 24 [(.t 8)]) 7 true),(xi 10 (.pick (.t 7) (.t 9) (.c (.v (.bool false))))),(xi 11 (.mov (.t 10))),(xg 12 (.fad 0 (.t 2)) 11 true),(xg 13 (.load false 1 (.t 12)) 11 true),(xg 14 (.fad 0 (.t 3)) 11 true),(xg 15 (.load false 1 (.t 14)) 11 true),(xg 16 (.bin .gtr (.t 13) (.t 15)) 11 true),(xg 17 (.mov (.t 16)) 11 true),(xg 18 (.fad 0 (.t 2)) 17 false),(xg 19 (.load false 1 (.t 18)) 17 false),(xg 20 (.fad 0 (.t 3)) 17 false),(xg 21 (.load false 1 (.t 20)) 17 false),(xg 22 (.bin .eql (.t 19) (.t 21)) 17 false),(xg 23 (.mov (.t 22)) 17 false),(xg 24 (.fad 1 (.t 2)) 23 true),(xg 25 (.load false 1 (.t 24)) 23 true),(xg 26 (.fad 1 (.t 3)) 23 true),(xg 27 (.load false 1 (.t 26)) 23 true),(xg 28 (.bin .gtr (.t 25) (.t 27)) 23 true),(xg 29 (.pick (.t 23) (.t 28) (.c (.v (.bool false)))) 17 false),(xg 30 (.pick (.t 17) (.c (.v (.bool true))) (.t 29)) 11 true),(xi 31 (.pick (.t 11) (.t 30) (.c (.v (.bool false))))),(xi 4 (.mov (.t 31)))]) .ret)),[2,3,6,9],32,[.t 4],5⟩
theorem xf12_ok:xf12.ok Try.prog 12:=⟨_,_,Try.func12,rfl,by kernel_rfl,rfl,by kernel_rfl,rfl,by kernel_rfl,by kernel_rfl⟩
def tb12:List PE:=[pe24]
theorem tb12_ok:PEsOk Try.prog tb12:=⟨pe24_ok,trivial⟩
def ex12:List EX:=[]
theorem ex12_ok:EXsOk Try.prog ex12:=trivial
def in12:List IN:=[]
theorem in12_ok:INsOk Try.prog in12:=trivial
def F12:DT ((.co (.v (.p (.i .u64) (.i .i64))) (.co (.v (.p (.i .u64) (.i .i64))) .no)):Fm).den→Option (DT (.v .b:Fm).den):=pureT tb12 ex12 in12 0 xf12 _ _ []
def pe12:PE:=⟨12,(.co (.v (.p (.i .u64) (.i .i64))) (.co (.v (.p (.i .u64) (.i .i64))) .no)),.v .b,F12⟩
theorem pe12_ok:pe12.ok Try.prog:=pe_of hm tb12_ok ex12_ok in12_ok xf12_ok (by kernel_rfl) (fun _=>rfl)
def xf16:FX:=⟨(.seq (.reg [(xi 4 (.mov (.c (.v (.bool false)))))]) (.seq (.seq (.reg [(xi 6 (.mov (.t 0))),(xi 7 (.len (.t 6))),(xi 8 (.mov (.t 1))),(xi 9 (.len (.t 8))),(xi 10 (.bin .neq (.t 7) (.t 9)))]) (.cond (.t 10) (.seq (.reg [(xi 4 (.mov (.c (.v (.bool false)))))]) .ret) .skip)) (.seq (.seq (.reg [(xi 5 (.mov (.c (.v (.int .i64 0)))))]) (.blk 0 (.loop ⟨[4,5,11,12,13,14,15,16,17,18,19,20,21,22,23,24,25],[],⟨[],[(5,.v (.i .i64))],[]⟩⟩ (.seq (.seq (.reg [(xi 11 (.mov (.t 5))),(xi 12 (.mov (.t 0))),(xi 13 (.len (.t 12))),(xi 14 (.bin .lss (.t 11) (.t 13)))]) (.cond (.t 14) .skip (.exit 0))) (.seq (.blk 1 (.seq (.rdr [(xi 17 (.mov (.t 0))),(xi 18 (.mov (.t 5))),(xi 19 (.iad 4 (.t 17) (.t 18))),(xi 20 (.load true 4 (.t 19))),(xi 21 (.mov (.t 1))),(xi 22 (.mov (.t 5))),(xi 23 (.iad 4 (.t 21) (.t 22))),(xi 24 (.load true 4 (.t 23))),(xi 25 (.eqA true 4 [(0,.i),(1,.i),(2,.i),(3,.i)] (.t 20) (.t 24)))]) (.cond (.t 25) (.seq (.reg [(xi 4 (.mov (.c (.v (.bool false)))))]) .ret) .skip))) (.reg [(xi 15 (.mov (.t 5))),(xi 16 (.bin .add (.t 15) (.c (.v (.int .i64 1))))),(xi 5 (.mov (.t 16)))])))))) (.seq (.reg [(xi 4 (.mov (.c (.v (.bool true)))))]) .ret)))),[],26,[.t 4],1⟩
theorem xf16_ok:xf16.ok Try.prog 16:=⟨_,_,Try.func16,rfl,by kernel_rfl,rfl,by kernel_rfl,rfl,by kernel_rfl,by kernel_rfl⟩
def tb16:List PE:=[]
theorem tb16_ok:PEsOk Try.prog tb16:=trivial
def ex16:List EX:=[]
theorem ex16_ok:EXsOk Try.prog ex16:=trivial
def in16:List IN:=[]
theorem in16_ok:INsOk Try.prog in16:=trivial
def F16:DT ((.co (.v (.sl tz1)) (.co (.v (.sl tz1)) .no)):Fm).den→Option (DT (.v .b:Fm).den):=pureT tb16 ex16 in16 0 xf16 _ _ []
def pe16:PE:=⟨16,(.co (.v (.sl tz1)) (.co (.v (.sl tz1)) .no)),.v .b,F16⟩
theorem pe16_ok:pe16.ok Try.prog:=pe_of hm tb16_ok ex16_ok in16_ok xf16_ok (by kernel_rfl) (fun _=>rfl)
def xf15:FX:=⟨(.seq (.reg [(xi 2 (.mov (.c (.sl true []))))]) (.seq (.seq (.reg [(xi 3 (.mov (.t 0))),(xi 4 (.len (.t 3))),(xi 5 (.bin .gtr (.t 4) (.c (.v (.int .i64 65)))))]) (.cond (.t 5) (.seq (.reg [(xi 6 (.mov (.t 0))),(xi 7 (.slc 4 (.t 6) none (some (.c (.v (.int .i64 65)))) none)),(xi 2 (.mov (.t 7)))]) .ret) .skip)) (.seq (.reg [(xi 8 (.mov (.t 0))),(xi 2 (.mov (.t 8)))]) .ret))),[],9,[.t 2],1⟩
theorem xf15_ok:xf15.ok Try.prog 15:=⟨_,_,Try.func15,rfl,by kernel_rfl,rfl,by kernel_rfl,rfl,by kernel_rfl,by kernel_rfl⟩
def tb15:List PE:=[]
theorem tb15_ok:PEsOk Try.prog tb15:=trivial
def ex15:List EX:=[]
theorem ex15_ok:EXsOk Try.prog ex15:=trivial
def in15:List IN:=[]
theorem in15_ok:INsOk Try.prog in15:=trivial
def F15:DT ((.co (.v (.sl tz1)) .no):Fm).den→Option (DT (.v (.sl tz1):Fm).den):=pureT tb15 ex15 in15 0 xf15 _ _ []
def pe15:PE:=⟨15,(.co (.v (.sl tz1)) .no),.v (.sl tz1),F15⟩
theorem pe15_ok:pe15.ok Try.prog:=pe_of hm tb15_ok ex15_ok in15_ok xf15_ok (by kernel_rfl) (fun _=>rfl)
def xf6:FX:=⟨(.seq (.reg [(xi 1 (.box 0 6 (.t 0))),(xi 2 (.mov (.c (.v (.bool false)))))]) (.seq (.reg [(xi 11 (.fad 0 (.t 1))),(xi 12 (.load false 1 (.t 11))),(xi 13 (.call 1 15 [(.t 12)])),(xi 3 (.mov (.t 13)))]) (.seq (.reg [(xi 14 (.fad 4 (.t 1))),(xi 15 (.load false 1 (.t 14))),(xi 16 (.bin .rem (.t 15) (.c (.v (.int .i64 64))))),(xi 17 (.bin .add (.t 16) (.c (.v (.int .i64 64))))),(xi 18 (.bin .rem (.t 17) (.c (.v (.int .i64 64))))),(xi 19 (.bin .add (.c (.v (.int .i64 1))) (.t 18))),(xi 4 (.mov (.t 19)))]) (.seq (.reg [(xi 21 (.mov (.t 3))),(xi 22 (.fad 1 (.t 1))),(xi 23 (.load true 3 (.t 22))),(xi 24 (.mov (.t 4))),(xi 25 (.call 2 10 [(.t 21),(.t 23),(.t 24)])),(xi 20 (.mov (.t 25))),(xi 26 (.ext (.t 20) 0)),(xi 27 (.ext (.t 20) 1)),(xi 5 (.mov (.t 26))),(xi 6 (.mov (.t 27)))]) (.seq (.reg [(xi 29 (.mov (.t 5))),(xi 30 (.fad 1 (.t 1))),(xi 31 (.load true 3 (.t 30))),(xi 32 (.mov (.t 4))),(xi 33 (.bin .rem (.t 32) (.c (.v (.int .i64 64))))),(xi 34 (.bin .add (.c (.v (.int .i64 1))) (.t 33))),(xi 35 (.call 3 10 [(.t 29),(.t 31),(.t 34)])),(xi 28 (.mov (.t 35))),(xi 36 (.ext (.t 28) 0)),(xi 37 (.ext (.t 28) 1)),(xi 7 (.mov (.t 36))),(xi 8 (.mov (.t 37)))]) (.seq (.seq (.reg [(xi 38 (.mov (.t 6))),(xi 39 (.bin .neq (.t 38) (.c (.v (.int .i64 0)))))]) (.cond (.t 39) (.seq (.reg [(xi 40 (.mov (.t 5))),(xi 41 (.mov (.t 3))),(xi 42 (.call 4 16 [(.t 40),(.t 41)])),(xi 43 (.mov (.t 42))),(xg 44 (.call 5 14 []) 43 true),(xi 45 (.pick (.t 43) (.t 44) (.c (.v (.bool false))))),(xi 2 (.mov (.t 45)))]) .ret) .skip)) (.seq (.cut ⟨[2,46,47,48,49,50,51,52,53],[],⟨[],[],[]⟩⟩ (.seq (.cutN ⟨[46,47,48,49,50,51,52,53],[],⟨[],[(53,.v .b)],[]⟩⟩ (.reg [(xi 46 (.mov (.t 8))),(xi 47 (.bin .neq (.t 46) (.c (.v (.int .i64 0))))),(xi 48 (.mov (.t 47))),(xg 49 (.mov (.t 5)) 48 false),(xg 50 (.mov (.t 7)) 48 false),(xg 51 (.call 6 16 [(.t 49),(.t 50)]) 48 false),(xg 52 (.un .not (.t 51)) 48 false),(xi 53 (.pick (.t 48) (.c (.v (.bool true))) (.t 52)))])) (.cond (.t 53) (.seq (.reg [(xi 2 (.mov (.c (.v (.bool false)))))]) .ret) .skip))) (.seq (.reg [(xi 9 (.mov (.c (.v (.bool false)))))]) (.seq (.cutN ⟨[9,10,54,55,56,57,58,59,60,61,62,63,64,65,66,67,68,69,70,71,72,73,74,75,76,77,78,79,80],[],⟨[],[(9,.v .b)],[]⟩⟩ (.seq (.reg [(xi 10 (.mov (.c (.v (.int .i64 0)))))]) (.blk 0 (.loop ⟨[9,10,54,55,56,57,58,59,60,61,62,63,64,65,66,67,68,69,70,71,72,73,74,75,76,77,78,79,80],[],⟨[],[(9,.v .b),(10,.v (.i .i64))],[]⟩⟩ (.seq (.seq (.reg [(xi 54 (.mov (.t 10))),(xi 55 (.mov (.t 5))),(xi 56 (.len (.t 55))),(xi 57 (.bin .lss (.t 54) (.t 56)))]) (.cond (.t 57) .skip (.exit 0))) (.seq (.cutN ⟨[9,60,61,62,63,64,65,66,67,68,69,70,71,72,73,74,75,76,77,78,79,80],[],⟨[],[(9,.v .b)],[]⟩⟩ (.blk 1 (.seq (.rdr [(xi 60 (.mov (.t 5))),(xi 61 (.mov (.t 10))),(xi 62 (.iad 4 (.t 60) (.t 61))),(xi 63 (.fad 0 (.t 62))),(xi 64 (.fad 0 (.t 63))),(xi 65 (.load false 1 (.t 64))),(xi 66 (.fad 1 (.t 1))),(xi 67 (.fad 0 (.t 66))),(xi 68 (.load false 1 (.t 67))),(xi 69 (.bin .eql (.t 65) (.t 68)))]) (.cond (.t 69) (.dr [] [(xi 70 (.fad 1 (.t 1))),(xi 71 (.fad 1 (.t 70))),(xi 72 (.load true 2 (.t 71))),(xi 73 (.mov (.t 5))),(xi 74 (.mov (.t 10))),(xi 75 (.iad 4 (.t 73) (.t 74))),(xi 76 (.fad 0 (.t 75))),(xi 77 (.fad 1 (.t 76))),(xi 78 (.load true 2 (.t 77))),(xi 79 (.callG 7 12 [(.t 72),(.t 78)])),(xi 80 (.un .not (.t 79))),(xi 9 (.mov (.t 80)))]) .skip)))) (.reg [(xi 58 (.mov (.t 10))),(xi 59 (.bin .add (.t 58) (.c (.v (.int .i64 1))))),(xi 10 (.mov (.t 59)))]))))))) (.seq (.reg [(xi 81 (.mov (.t 9))),(xi 82 (.mov (.t 81))),(xg 83 (.mov (.t 5)) 82 true),(xg 84 (.len (.t 83)) 82 true),(xg 85 (.mov (.t 3)) 82 true),(xg 86 (.len (.t 85)) 82 true),(xg 87 (.bin .geq (.t 84) (.t 86)) 82 true),(xi 88 (.pick (.t 82) (.t 87) (.c (.v (.bool false))))),(xi 89 (.mov (.t 88))),(xg 90 (.mov (.t 5)) 89 true),(xg 91 (.len (.t 90)) 89 true),(xg 92 (.mov (.t 3)) 89 true),(xg 93 (.len (.t 92)) 89 true),(xg 94 (.bin .add (.t 93) (.c (.v (.int .i64 1)))) 89 true),(xg 95 (.bin .leq (.t 91) (.t 94)) 89 true),(xi 96 (.pick (.t 89) (.t 95) (.c (.v (.bool false))))),(xi 97 (.mov (.t 96))),(xg 98 (.call 8 14 []) 97 true),(xi 99 (.pick (.t 97) (.t 98) (.c (.v (.bool false))))),(xi 2 (.mov (.t 99)))]) .ret)))))))))),[1,13,25,35,42,44,51,79,98],100,[.t 2],10⟩
theorem xf6_ok:xf6.ok Try.prog 6:=⟨_,_,Try.func6,rfl,by kernel_rfl,rfl,by kernel_rfl,rfl,by kernel_rfl,by kernel_rfl⟩
def tb6:List PE:=[pe10,pe12,pe14,pe15,pe16]
theorem tb6_ok:PEsOk Try.prog tb6:=⟨pe10_ok,pe12_ok,pe14_ok,pe15_ok,pe16_ok,trivial⟩
def ex6:List EX:=[]
theorem ex6_ok:EXsOk Try.prog ex6:=trivial
def in6:List IN:=[]
theorem in6_ok:INsOk Try.prog in6:=trivial
def F6:DT ((.co (.v (.p (.sl tz1) (.p (.i .i64) (.p (.i .u64) (.p (.i .i64) (.p (.i .i64) (.i .i64))))))) .no):Fm).den→Option (DT (.v .b:Fm).den):=pureT tb6 ex6 in6 0 xf6 _ _ []
def pe6:PE:=⟨6,(.co (.v (.p (.sl tz1) (.p (.i .i64) (.p (.i .u64) (.p (.i .i64) (.p (.i .i64) (.i .i64))))))) .no),.v .b,F6⟩
theorem pe6_ok:pe6.ok Try.prog:=pe_of hm tb6_ok ex6_ok in6_ok xf6_ok (by kernel_rfl) (fun _=>rfl)
end
end Go.Proofs.Ytemdbhdjchkllaa.VL
end
section
namespace Go.Proofs.Ytemdbhdjchkllaa.VL
open Go
set_option maxRecDepth 100000
set_option linter.unusedVariables false
set_option linter.unusedSectionVars false
variable [Val]

theorem F24_eq (v:(Int×Int)):F24 v=(cond (decide ((0:Int)≤v.2)) (some (decide (v.2≤(3:Int)))) (some false)):=by kernel_rfl
theorem F40_eq (v:(List (Int×Int))):F40 v=(loopX (fun (v0:Int)=>(cond (decide (v0 < ((v.length:Nat):Int))) (joinX (cond (decide ((0:Int)≤v0)) (Option.bind v[(Int.toNat v0)]? (fun (v1:(Int×Int))=>(Option.bind (cond (decide (v1.2 < (0:Int))) (some true) (some (decide (v1.2 > (3:Int))))) (fun (v2:Bool)=>(cond v2 (some (.inr (.inr (1:Int)))) (some (.inl ()))))))) none) (fun (v3:Unit)=>(some (.inl (IntKind.wrap IntKind.i64 (v0+(1:Int))))))) (some (.inr (0:Int))))) (0:Int)):=by kernel_rfl
theorem F25_eq (v:(Int×(Int×Int))):F25 v=(cond (decide (v.1 ≥ (0:Int))) (cond (decide (v.1 < (64:Int))) (Option.bind (F40 ((v.2.1,v.2.2)::[])) (fun (v0:Int)=>(some (v0==(0:Int))))) (some false)) (some false)):=by kernel_rfl
theorem F26_eq (v:Int):F26 v=(cond (decide (v ≥ (1:Int))) (some (decide (v≤(64:Int)))) (some false)):=by kernel_rfl
theorem F11_eq (v:(List (Int×(Int×(Int×Int))))):F11 v=(loopX (fun (v0:Int)=>(cond (decide (v0 < ((v.length:Nat):Int))) (joinX (cond (decide ((0:Int)≤v0)) (Option.bind v[(Int.toNat v0)]? (fun (v1:(Int×(Int×(Int×Int))))=>(Option.bind (Option.bind (F25 (v1.1,v1.2.1,v1.2.2.1)) (fun (v2:Bool)=>(cond (!v2) (some true) (Option.bind (F26 v1.2.2.2) (fun (v3:Bool)=>(cond (!v3) (some true) (cond (decide (v0 > (0:Int))) (cond (decide ((0:Int)≤(IntKind.wrap IntKind.i64 (v0 - (1:Int))))) (Option.bind v[(Int.toNat (IntKind.wrap IntKind.i64 (v0 - (1:Int))))]? (fun (v4:(Int×(Int×(Int×Int))))=>(some (decide (v4.1 ≥ v1.1))))) none) (some false)))))))) (fun (v5:Bool)=>(cond v5 (some (.inr (.inr (1:Int)))) (some (.inl ()))))))) none) (fun (v6:Unit)=>(some (.inl (IntKind.wrap IntKind.i64 (v0+(1:Int))))))) (some (.inr (0:Int))))) (0:Int)):=by kernel_rfl
theorem F41_eq (v:Int):F41 v=(some (v != v)):=by kernel_rfl
theorem F29_eq (v:(Int×Int)):F29 v=(Option.bind (F41 v.1) (fun (v0:Bool)=>(Option.bind (F41 v.2) (fun (v1:Bool)=>(cond v0 (cond v1 (some (0:Int)) (some (-1:Int))) (cond v1 (some (1:Int)) (cond (decide (v.1 < v.2)) (some (-1:Int)) (cond (decide (v.1 > v.2)) (some (1:Int)) (some (0:Int)))))))))):=by kernel_rfl
theorem F28_eq (v:((Int×(Int×(Int×Int)))×Int)):F28 v=(Option.bind (F29 (v.1.1,v.2)) (fun (v0:Int)=>(some v0))):=by kernel_rfl
theorem F32_eq (v:((Int×Int)×(Int×Int))):F32 v=(joinX (Option.bind (Option.bind (F40 ((v.1.1,v.1.2)::((v.2.1,v.2.2)::[]))) (fun (v0:Int)=>(cond (v0 != (0:Int)) (some true) (some ((v.1.1==v.2.1)&&((v.1.2==v.2.2)&&true)))))) (fun (v1:Bool)=>(cond v1 (some (.inr false)) (cond (v.1.1 != v.2.1) (some (.inr (decide (v.1.1 > v.2.1)))) (some (.inl ())))))) (fun (v2:Unit)=>(some (decide (v.1.2 > v.2.2))))):=by kernel_rfl
theorem F10_eq (v:((List (Int×(Int×(Int×Int))))×((Int×(Int×Int))×Int))):F10 v=(joinX (Option.bind (Option.bind (F11 v.1) (fun (v0:Int)=>(cond (v0 != (0:Int)) (some true) (Option.bind (F25 (v.2.1.1,v.2.1.2.1,v.2.1.2.2)) (fun (v1:Bool)=>(cond (!v1) (some true) (Option.bind (F26 v.2.2) (fun (v2:Bool)=>(some (!v2)))))))))) (fun (v3:Bool)=>(cond v3 (some (.inr (v.1,(1:Int)))) (some (.inl ()))))) (fun (v4:Unit)=>(Option.bind (Option.bind (loopX (fun (v5:(Int×Int))=>(cond (decide (v5.1 < v5.2)) (cond (decide ((0:Int)≤(IntKind.wrap IntKind.i64 (Int.fdiv (IntKind.wrap IntKind.u64 (IntKind.wrap IntKind.i64 (v5.1+v5.2))) (2:Int))))) (Option.bind v.1[(Int.toNat (IntKind.wrap IntKind.i64 (Int.fdiv (IntKind.wrap IntKind.u64 (IntKind.wrap IntKind.i64 (v5.1+v5.2))) (2:Int))))]? (fun (v6:(Int×(Int×(Int×Int))))=>(Option.bind (F28 ((v6.1,v6.2.1,v6.2.2.1,v6.2.2.2),v.2.1.1)) (fun (v7:Int)=>(cond (decide (v7 < (0:Int))) (some (.inl ((IntKind.wrap IntKind.i64 ((IntKind.wrap IntKind.i64 (Int.fdiv (IntKind.wrap IntKind.u64 (IntKind.wrap IntKind.i64 (v5.1+v5.2))) (2:Int)))+(1:Int))),v5.2))) (some (.inl (v5.1,(IntKind.wrap IntKind.i64 (Int.fdiv (IntKind.wrap IntKind.u64 (IntKind.wrap IntKind.i64 (v5.1+v5.2))) (2:Int))))))))))) none) (some (.inr v5.1)))) ((0:Int),((v.1.length:Nat):Int))) (fun (v8:Int)=>(cond (decide (v8 < ((v.1.length:Nat):Int))) (cond (decide ((0:Int)≤v8)) (Option.bind v.1[(Int.toNat v8)]? (fun (v9:(Int×(Int×(Int×Int))))=>(Option.bind (F28 ((v9.1,v9.2.1,v9.2.2.1,v9.2.2.2),v.2.1.1)) (fun (v10:Int)=>(some (v8,(v10==(0:Int)))))))) none) (some (v8,false))))) (fun (v11:(Int×Bool))=>(cond (!v11.2) (Option.bind (cond ((decide ((0:Int)≤((v.1.length:Nat):Int)))&&((decide (((v.1.length:Nat):Int)≤((v.1.length:Nat):Int)))&&((decide ((((v.1.length:Nat):Int) * (32:Int))≤(70368744177664:Int)))&&(decide (((v.1.length:Nat):Int)≤(70368744177664:Int)))))) (cond (decide ((0+(Int.toNat ((v.1.length:Nat):Int)))≤(List.replicate (Int.toNat ((v.1.length:Nat):Int)) ((0:Int),(0:Int),(0:Int),(0:Int))).length)) (cond (decide ((Int.toNat ((v.1.length:Nat):Int))=(Append.append (List.take (min v.1.length (Int.toNat ((v.1.length:Nat):Int))) v.1) (List.drop (0+(min v.1.length (Int.toNat ((v.1.length:Nat):Int)))) (List.replicate (Int.toNat ((v.1.length:Nat):Int)) ((0:Int),(0:Int),(0:Int),(0:Int))))).length)) (cond (decide ((Int.toNat ((v.1.length:Nat):Int))=(Append.append (List.take (min v.1.length (Int.toNat ((v.1.length:Nat):Int))) v.1) (List.drop (0+(min v.1.length (Int.toNat ((v.1.length:Nat):Int)))) (List.replicate (Int.toNat ((v.1.length:Nat):Int)) ((0:Int),(0:Int),(0:Int),(0:Int))))).length)) (some (Append.append (List.take (min v.1.length (Int.toNat ((v.1.length:Nat):Int))) v.1) (List.drop (0+(min v.1.length (Int.toNat ((v.1.length:Nat):Int)))) (List.replicate (Int.toNat ((v.1.length:Nat):Int)) ((0:Int),(0:Int),(0:Int),(0:Int)))))) none) none) none) none) (fun (v12:(List (Int×(Int×(Int×Int)))))=>(cond ((decide (v12.length=v12.length))&&((decide ((0:Int)≤v11.1))&&((decide (v11.1≤((v12.length:Nat):Int)))&&(((decide (((((v12.length+1):Nat):Int) * (32:Int))≤(70368744177664:Int)))&&(decide ((((v12.length+1):Nat):Int)≤(70368744177664:Int))))&&(decide (v12.length=v12.length)))))) (cond (decide ((0+(v12.length+1))≤(insL v12 ((v.2.1.1,v.2.1.2.1,v.2.1.2.2,v.2.2)::[]) v11.1).length)) (some ((List.take (v12.length+1) (insL v12 ((v.2.1.1,v.2.1.2.1,v.2.1.2.2,v.2.2)::[]) v11.1)),(0:Int))) none) none))) (cond (decide ((0:Int)≤v11.1)) (Option.bind v.1[(Int.toNat v11.1)]? (fun (v13:(Int×(Int×(Int×Int))))=>(Option.bind (F32 ((v.2.1.2.1,v.2.1.2.2),v13.2.1,v13.2.2.1)) (fun (v14:Bool)=>(cond (!v14) (some (v.1,(0:Int))) (cond ((decide ((0:Int)≤((v.1.length:Nat):Int)))&&((decide (((v.1.length:Nat):Int)≤((v.1.length:Nat):Int)))&&((decide ((((v.1.length:Nat):Int) * (32:Int))≤(70368744177664:Int)))&&(decide (((v.1.length:Nat):Int)≤(70368744177664:Int)))))) (cond (decide ((0+(Int.toNat ((v.1.length:Nat):Int)))≤(List.replicate (Int.toNat ((v.1.length:Nat):Int)) ((0:Int),(0:Int),(0:Int),(0:Int))).length)) (cond ((decide ((0:Int)≤v11.1))&&(decide (v11.1 < (((Int.toNat ((v.1.length:Nat):Int)):Nat):Int)))) (Option.bind (Append.append (List.take (min v.1.length (Int.toNat ((v.1.length:Nat):Int))) v.1) (List.drop (0+(min v.1.length (Int.toNat ((v.1.length:Nat):Int)))) (List.replicate (Int.toNat ((v.1.length:Nat):Int)) ((0:Int),(0:Int),(0:Int),(0:Int)))))[(0+(Int.toNat v11.1))]? (fun (v15:(Int×(Int×(Int×Int))))=>(cond (decide ((0+(Int.toNat ((v.1.length:Nat):Int)))≤(List.set (Append.append (List.take (min v.1.length (Int.toNat ((v.1.length:Nat):Int))) v.1) (List.drop (0+(min v.1.length (Int.toNat ((v.1.length:Nat):Int)))) (List.replicate (Int.toNat ((v.1.length:Nat):Int)) ((0:Int),(0:Int),(0:Int),(0:Int))))) (0+(Int.toNat v11.1)) (v.2.1.1,v.2.1.2.1,v.2.1.2.2,v.2.2)).length)) (some ((List.take (Int.toNat ((v.1.length:Nat):Int)) (List.set (Append.append (List.take (min v.1.length (Int.toNat ((v.1.length:Nat):Int))) v.1) (List.drop (0+(min v.1.length (Int.toNat ((v.1.length:Nat):Int)))) (List.replicate (Int.toNat ((v.1.length:Nat):Int)) ((0:Int),(0:Int),(0:Int),(0:Int))))) (0+(Int.toNat v11.1)) (v.2.1.1,v.2.1.2.1,v.2.1.2.2,v.2.2))),(0:Int))) none))) none) none) none)))))) none)))))):=by kernel_rfl
theorem F12_eq (v:((Int×Int)×(Int×Int))):F12 v=(Option.bind (F24 (v.1.1,v.1.2)) (fun (v0:Bool)=>(cond v0 (Option.bind (F24 (v.2.1,v.2.2)) (fun (v1:Bool)=>(cond v1 (cond (decide (v.1.1 > v.2.1)) (some true) (cond (v.1.1==v.2.1) (some (decide (v.1.2 > v.2.2))) (some false))) (some false)))) (some false)))):=by kernel_rfl
theorem F16_eq (v:((List (Int×(Int×(Int×Int))))×(List (Int×(Int×(Int×Int)))))):F16 v=(cond (((v.1.length:Nat):Int) != ((v.2.length:Nat):Int)) (some false) (loopX (fun (v0:Int)=>(cond (decide (v0 < ((v.1.length:Nat):Int))) (cond (decide ((0:Int)≤v0)) (Option.bind v.1[(Int.toNat v0)]? (fun (v1:(Int×(Int×(Int×Int))))=>(cond (decide ((0:Int)≤v0)) (Option.bind v.2[(Int.toNat v0)]? (fun (v2:(Int×(Int×(Int×Int))))=>(cond (!((v1.1==v2.1)&&((v1.2.1==v2.2.1)&&((v1.2.2.1==v2.2.2.1)&&((v1.2.2.2==v2.2.2.2)&&true))))) (some (.inr false)) (some (.inl (IntKind.wrap IntKind.i64 (v0+(1:Int)))))))) none))) none) (some (.inr true)))) (0:Int))):=by kernel_rfl
theorem F15_eq (v:(List (Int×(Int×(Int×Int))))):F15 v=(cond (decide (((v.length:Nat):Int) > (65:Int))) (cond (decide ((65:Int)≤((v.length:Nat):Int))) (some (List.take 65 v)) none) (some v)):=by kernel_rfl
theorem F6_eq (v:((List (Int×(Int×(Int×Int))))×(Int×(Int×(Int×(Int×Int)))))):F6 v=(Option.bind (F15 v.1) (fun (v0:(List (Int×(Int×(Int×Int)))))=>(Option.bind (F10 (v0,(v.2.1,v.2.2.1,v.2.2.2.1),(IntKind.wrap IntKind.i64 ((1:Int)+(Int.tmod (IntKind.wrap IntKind.i64 ((Int.tmod v.2.2.2.2.1 (64:Int))+(64:Int))) (64:Int)))))) (fun (v1:((List (Int×(Int×(Int×Int))))×Int))=>(Option.bind (F10 (v1.1,(v.2.1,v.2.2.1,v.2.2.2.1),(IntKind.wrap IntKind.i64 ((1:Int)+(Int.tmod (IntKind.wrap IntKind.i64 ((1:Int)+(Int.tmod (IntKind.wrap IntKind.i64 ((Int.tmod v.2.2.2.2.1 (64:Int))+(64:Int))) (64:Int)))) (64:Int)))))) (fun (v2:((List (Int×(Int×(Int×Int))))×Int))=>(cond (v1.2 != (0:Int)) (Option.bind (F16 (v1.1,v0)) (fun (v3:Bool)=>(cond v3 (Option.bind (F14 ()) (fun (v4:Bool)=>(some v4))) (some false)))) (joinX (Option.bind (cond (v2.2 != (0:Int)) (some true) (Option.bind (F16 (v1.1,v2.1)) (fun (v5:Bool)=>(some (!v5))))) (fun (v6:Bool)=>(cond v6 (some (.inr false)) (some (.inl ()))))) (fun (v7:Unit)=>(Option.bind (loopX (fun (v8:(Bool×Int))=>(cond (decide (v8.2 < ((v1.1.length:Nat):Int))) (Option.bind (cond (decide ((0:Int)≤v8.2)) (Option.bind v1.1[(Int.toNat v8.2)]? (fun (v9:(Int×(Int×(Int×Int))))=>(cond (v9.1==v.2.1) (cond (decide ((0:Int)≤v8.2)) (Option.bind v1.1[(Int.toNat v8.2)]? (fun (v10:(Int×(Int×(Int×Int))))=>(Option.bind (F12 ((v.2.2.1,v.2.2.2.1),v10.2.1,v10.2.2.1)) (fun (v11:Bool)=>(some (!v11)))))) none) (some v8.1)))) none) (fun (v12:Bool)=>(some (.inl (v12,(IntKind.wrap IntKind.i64 (v8.2+(1:Int)))))))) (some (.inr v8.1)))) (false,(0:Int))) (fun (v13:Bool)=>(cond v13 (cond (decide (((v1.1.length:Nat):Int) ≥ ((v0.length:Nat):Int))) (cond (decide (((v1.1.length:Nat):Int)≤(IntKind.wrap IntKind.i64 (((v0.length:Nat):Int)+(1:Int))))) (Option.bind (F14 ()) (fun (v14:Bool)=>(some v14))) (some false)) (some false)) (some false))))))))))))):=by kernel_rfl
end Go.Proofs.Ytemdbhdjchkllaa.VL
end
section
namespace Go.Proofs.Ytemdbhdjchkllaa.VL
open Go
set_option linter.unusedVariables false
set_option linter.unusedSectionVars false
variable [Val]
theorem wi {x:Int} (h0:-9223372036854775808≤x) (h1:x≤9223372036854775807):IntKind.wrap .i64 x=x:=by rw [IntKind.wrap_i64]; omega
theorem wu {x:Int} (h0:0≤x) (h1:x≤18446744073709551615):IntKind.wrap .u64 x=x:=by
 simp only [IntKind.wrap,IntKind.bits,IntKind.signed]
 have:x % (2 ^ 64:Int)=x:=Int.emod_eq_of_lt h0 (by omega)
 simp only [this,Bool.false_and]
 rfl
theorem loopX_spec {σ ρ:Type} {f:σ→Option (σ ⊕ ρ)} (I:σ→Prop) (m:σ→Nat) (g:σ→ρ)
  (h:∀ s,I s→f s=some (.inr (g s))∨∃ s',f s=some (.inl s')∧I s'∧m s' < m s∧g s'=g s):∀ (s:σ),I s→loopX f s=some (g s):=by
 have key:∀ (n:Nat) (s:σ),m s≤n→I s→loopX f s=some (g s):=by
  intro n
  induction n with
  | zero =>
   intro s hn hs
   rw [loopX_eq]
   rcases h s hs with h1 | ⟨s',h1,h2,h3,h4⟩
   ·rw [h1]
   ·omega
  | succ n ih =>
   intro s hn hs
   rw [loopX_eq]
   rcases h s hs with h1 | ⟨s',h1,h2,h3,h4⟩
   ·rw [h1]
   ·rw [h1]
    simp only
    rw [ih s' (by omega) h2,h4]
 exact fun s hs=>key (m s) s (Nat.le_refl _) hs
theorem loop_all {ρ:Type} {f:Int→Option (Int ⊕ ρ)} {n:Nat} (ok:Nat→Bool) (bad good:ρ) (hend:f (n:Int)=some (.inr good))
  (hstep:∀ i:Nat,i < n→(∀ j,j < i→ok j=true)→f (i:Int)=if ok i=true then some (.inl ((i+1:Nat):Int)) else some (.inr bad)) :
  loopX f (0:Int)=some (if (List.range n).all ok=true then good else bad):=by
 classical
 have key:∀ i:Nat,i≤n→(∀ j,j < i→ok j=true)→loopX f (i:Int)=some (if ∀ j,i≤j→j < n→ok j=true then good else bad):=by
  intro i hi
  generalize hd:n - i=d
  induction d generalizing i with
  | zero =>
   intro ha
   have:i=n:=by omega
   subst this
   rw [loopX_eq,hend,if_pos (fun j h1 h2=>by omega)]
  | succ d ih =>
   intro ha
   rw [loopX_eq,hstep i (by omega) ha]
   by_cases h:ok i=true
   ·rw [if_pos h]
    simp only
    rw [ih (i+1) (by omega) (by omega) (fun j hj=>by
     rcases Nat.lt_or_eq_of_le (Nat.le_of_lt_succ hj) with h1 | h1
     ·exact ha j h1
     ·rw [h1]; exact h)]
    have e:(∀ j,i+1≤j→j < n→ok j=true) ↔ (∀ j,i≤j→j < n→ok j=true):=by
     constructor
     ·intro q j h1 h2
      rcases Nat.lt_or_eq_of_le h1 with h3 | h3
      ·exact q j h3 h2
      ·rw [← h3]; exact h
     ·intro q j h1 h2; exact q j (by omega) h2
    by_cases hq:∀ j,i≤j→j < n→ok j=true
    ·rw [if_pos hq,if_pos (e.2 hq)]
    ·rw [if_neg hq,if_neg (fun q=>hq (e.1 q))]
   ·rw [if_neg h]
    simp only
    rw [if_neg (fun q=>h (q i (Nat.le_refl _) (by omega)))]
 have:=key 0 (Nat.zero_le _) (fun j hj=>by omega)
 have e0:((0:Nat):Int)=0:=rfl
 rw [e0] at this
 rw [this]
 congr 1
 have e:(∀ j,0≤j→j < n→ok j=true) ↔ (List.range n).all ok=true:=by simp [List.all_eq_true]
 by_cases h:(List.range n).all ok=true
 ·rw [if_pos h,if_pos (e.2 h)]
 ·rw [if_neg h,if_neg (fun q=>h (e.1 q))]
def cntP (p:Nat→Bool):Nat→Nat
 | 0=>0
 | n+1=>cntP p n+(if p n=true then 1 else 0)
theorem cntP_at {p:Nat→Bool}:∀ {n c:Nat},c≤n→(∀ k,k < c→p k=true)→(∀ k,c≤k→k < n→p k=false)→cntP p n=c
 | 0,c,h,_,_=>by simp only [cntP]; omega
 | n+1,c,h,h1,h2=>by
  simp only [cntP]
  by_cases hc:c=n+1
  ·have:=cntP_at (n:=n) (c:=n) (Nat.le_refl _) (fun k hk=>h1 k (by omega)) (fun k q1 q2=>by omega)
   rw [this,if_pos (h1 n (by omega))]; omega
  ·have:=cntP_at (n:=n) (c:=c) (by omega) h1 (fun k q1 q2=>h2 k q1 (by omega))
   rw [this,h2 n (by omega) (by omega)]; simp
theorem loop_bs {f:Int×Int→Option ((Int×Int) ⊕ Int)} {n:Nat} (p:Nat→Bool) (hmono:∀ i j,i≤j→j < n→p j=true→p i=true)
  (hend:∀ i:Nat,i≤n→f ((i:Int),(i:Int))=some (.inr (i:Int)))
  (hstep:∀ i j:Nat,i < j→j≤n→f ((i:Int),(j:Int))=if p ((i+j) / 2)=true then some (.inl ((((i+j) / 2+1:Nat):Int),(j:Int))) else some (.inl ((i:Int),(((i+j) / 2:Nat):Int)))) :
  loopX f ((0:Int),(n:Int))=some ((cntP p n:Nat):Int):=by
 have:=loopX_spec (f:=f) (fun s=>∃ i j:Nat,s=((i:Int),(j:Int))∧i≤j∧j≤n∧(∀ k,k < i→p k=true)∧(∀ k,j≤k→k < n→p k=false)) (fun s=>s.2.toNat - s.1.toNat) (fun _=>((cntP p n:Nat):Int)) ?_ ((0:Int),(n:Int)) ⟨0,n,rfl,Nat.zero_le _,Nat.le_refl _,fun k hk=>by omega,fun k h1 h2=>by omega⟩
 ·exact this
 ·rintro s ⟨i,j,rfl,h1,h2,h3,h4⟩
  by_cases hij:i=j
  ·subst hij
   left
   rw [hend i h2,cntP_at h2 h3 h4]
  ·right
   rw [hstep i j (by omega) h2]
   by_cases hp:p ((i+j) / 2)=true
   ·rw [if_pos hp]
    refine ⟨_,rfl,⟨_,_,rfl,by omega,h2,fun k hk=>hmono k ((i+j) / 2) (by omega) (by omega) hp,h4⟩,by simp only [Int.toNat_natCast]; omega,rfl⟩
   ·rw [if_neg hp]
    refine ⟨_,rfl,⟨_,_,rfl,by omega,by omega,h3,fun k hk hkn=>?_⟩,by simp only [Int.toNat_natCast]; omega,rfl⟩
    rw [Bool.eq_false_iff]
    intro hpk
    exact hp (hmono ((i+j) / 2) k hk hkn hpk)
theorem xs:(∀ {α:Type} (a b:α),cond true a b=a)∧(∀ {α:Type} (a b:α),cond false a b=b)∧(∀ {α β:Type} (a:α) (f:α→Option β),(some a).bind f=f a)∧(∀ {α β:Type} (a:α) (f:α→β),(some a).map f=some (f a)) ∧
 (∀ {α R:Type} (v:α) (k:α→Option R),joinX (some (.inl v)) k=k v)∧(∀ {α R:Type} (r:R) (k:α→Option R),joinX (some (.inr r)) k=some r)∧(∀ (h:Decidable True),@decide True h=true)∧(∀ (h:Decidable False),@decide False h=false)∧((!true)=false)∧((!false)=true)∧(∀ b:Bool,(b&&true)=b)∧(∀ b:Bool,(true&&b)=b)∧(∀ b:Bool,(b&&b)=b)∧(∀ b:Bool,(false&&b)=false)∧(∀ b:Bool,(b&&false)=false)∧(∀ b:Bool,(true || b)=true)∧(∀ b:Bool,(b || true)=true)∧(∀ b:Bool,(false || b)=b)∧(∀ b:Bool,(b || false)=b)∧(∀ {α:Type} (a b:List α),Append.append a b=a++b)∧(∀ {α:Type} (a b:List α),(a++b).length=a.length+b.length)∧(∀ {α:Type} (a:α) (b:List α),(a::b).length=b.length+1)∧(∀ {α:Type},([]:List α).length=0)∧(∀ n:Nat,0+n=n)∧(∀ n:Nat,n+0=n)∧(∀ n:Nat,((n:Int)).toNat=n)∧(∀ n:Nat,(n≤n)=True)∧(∀ n:Int,(n≤n)=True)∧(∀ {α:Type} (a:List α),a.take a.length=a)∧(∀ {α:Type} (a b:α),(some a).getD b=a)∧(∀ {α:Type} (b:α),(none:Option α).getD b=b)∧(∀ {α:Type} (a b:α),(if True then a else b)=a)∧(∀ {α:Type} (a b:α),(if False then a else b)=b)∧((false=true)=False)∧((true=false)=False):=by
 refine ⟨fun _ _=>rfl,fun _ _=>rfl,fun _ _=>rfl,fun _ _=>rfl,fun _ _=>rfl,fun _ _=>rfl,fun _=>by simp,fun _=>by simp,rfl,rfl,?_,?_,?_,?_,?_,?_,?_,?_,?_,fun _ _=>rfl,fun _ _=>List.length_append,fun _ _=>rfl,rfl,Nat.zero_add,fun _=>rfl,fun _=>rfl,fun _=>eq_true (Nat.le_refl _),fun _=>eq_true (Int.le_refl _),fun _=>List.take_length,fun _ _=>rfl,fun _=>rfl,fun _ _=>by simp,fun _ _=>by simp,by simp,by simp⟩<;>(intro b; cases b<;>rfl)
end Go.Proofs.Ytemdbhdjchkllaa.VL
end
section
namespace Go.Proofs.Ytemdbhdjchkllaa.VL
open Go
set_option linter.unusedVariables false
set_option linter.unusedSectionVars false
set_option linter.unusedSimpArgs false
theorem bl_tri:∀ x y:List UInt8,Op.bytesLess x y=true∨x=y∨Op.bytesLess y x=true
 | [],[]=>.inr (.inl rfl)
 | [],_::_=>.inl rfl
 | _::_,[]=>.inr (.inr rfl)
 | a::x,b::y=>by
  simp only [Op.bytesLess,Bool.or_eq_true,decide_eq_true_eq,Bool.and_eq_true,beq_iff_eq,List.cons.injEq]
  rcases Nat.lt_trichotomy a.toNat b.toNat with h | h | h
  ·left; left; rw [UInt8.lt_iff_toNat_lt]; exact h
  ·have h:=UInt8.toNat_inj.1 h
   subst h
   rcases bl_tri x y with h | h | h
   ·exact .inl (.inr ⟨rfl,h⟩)
   ·exact .inr (.inl ⟨rfl,h⟩)
   ·exact .inr (.inr (.inr ⟨rfl,h⟩))
  ·right; right; left; rw [UInt8.lt_iff_toNat_lt]; exact h
theorem toList_loop (s:ByteArray):∀ (n i:Nat) (r:List UInt8),s.size - i=n→i≤s.size→ByteArray.toList.loop s i r=r.reverse++(s.data.toList.drop i):=by
 intro n
 induction n with
 | zero =>
  intro i r h hi
  have:i=s.size:=by omega
  unfold ByteArray.toList.loop
  rw [if_neg (by omega),List.drop_eq_nil_of_le (by rw [Array.length_toList]; show s.size≤i; omega),List.append_nil]
 | succ n ih =>
  intro i r h hi
  unfold ByteArray.toList.loop
  rw [if_pos (by omega),ih (i+1) _ (by omega) (by omega)]
  have hlt:i < s.data.toList.length:=by rw [Array.length_toList]; show i < s.size; omega
  have e:s.get! i=s.data.toList[i]:=by
   show s.data[i]! = _
   rw [getElem!_pos s.data i (by rw [Array.length_toList] at hlt; exact hlt)]
   simp
  rw [List.reverse_cons,List.append_assoc,List.singleton_append,e,List.drop_eq_getElem_cons hlt]
theorem toList_data (s:ByteArray):s.toList=s.data.toList:=by
 have:=toList_loop s (s.size - 0) 0 [] rfl (Nat.zero_le _)
 unfold ByteArray.toList
 rw [this]; simp
theorem toList_inj {a b:ByteArray} (h:a.toList=b.toList):a=b:=by
 rw [toList_data,toList_data] at h
 cases a; cases b
 simp only [ByteArray.mk.injEq]
 exact Array.toList_inj.1 h
variable [Val]
def okB (n:Nat):Bool:=(decide (97≤n)&&decide (n≤122)) || ((decide (48≤n)&&decide (n≤57)) || decide (n=45))
end Go.Proofs.Ytemdbhdjchkllaa.VL
end
section
namespace Go.Proofs.Ytemdbhdjchkllaa.VL
open Go
set_option linter.unusedVariables false
set_option linter.unusedSectionVars false
set_option linter.unusedSimpArgs false
structure KOrd (κ:Type) where
 lt:κ→κ→Bool
 irr:∀ a,lt a a=false
 trn:∀ a b c,lt a b=true→lt b c=true→lt a c=true
 tri:∀ a b,lt a b=true∨a=b∨lt b a=true
namespace KOrd
variable {κ α:Type} (O:KOrd κ) (key:α→κ)
theorem asym {a b:κ} (h:O.lt a b=true):O.lt b a=false:=by
 rw [Bool.eq_false_iff]; intro k
 have:=O.trn _ _ _ h k
 rw [O.irr] at this; cases this
theorem ne {a b:κ} (h:O.lt a b=true):a≠b:=by rintro rfl; rw [O.irr] at h; cases h
def Srt (l:List α):Prop:=l.Pairwise (fun a b=>O.lt (key a) (key b)=true)
def plc (l:List α) (k:κ):Nat:=l.countP (fun x=>O.lt (key x) k)
open Classical in
noncomputable def look (l:List α) (k:κ):Option α:=l.find? (fun x=>decide (key x=k))
def put (l:List α) (x:α):List α:=l.filter (fun y=>O.lt (key y) (key x))++x::l.filter (fun y=>O.lt (key x) (key y))
variable {O key}
theorem Srt.tail {a:α} {l:List α} (h:O.Srt key (a::l)):O.Srt key l:=(List.pairwise_cons.1 h).2
theorem Srt.head {a:α} {l:List α} (h:O.Srt key (a::l)):∀ b ∈ l,O.lt (key a) (key b)=true:=(List.pairwise_cons.1 h).1
theorem plc_le (l:List α) (k:κ):O.plc key l k≤l.length:=List.countP_le_length
theorem split {l:List α} (hs:O.Srt key l) (k:κ):l.take (O.plc key l k)=l.filter (fun y=>O.lt (key y) k)∧l.drop (O.plc key l k)=l.filter (fun y=>!O.lt (key y) k):=by
 induction l with
 | nil=>exact ⟨rfl,rfl⟩
 | cons a l ih =>
  obtain ⟨i1,i2⟩:=ih hs.tail
  cases h:O.lt (key a) k with
  | true =>
   have e:O.plc key (a::l) k=O.plc key l k+1:=by unfold plc; simp [List.countP_cons,h]
   rw [e,List.take_succ_cons,List.drop_succ_cons,i1,i2]
   constructor<;>simp [h]
  | false =>
   have hall:∀ b ∈ l,O.lt (key b) k=false:=by
    intro b hb
    rw [Bool.eq_false_iff]; intro hk
    have:=O.trn _ _ _ (hs.head b hb) hk
    rw [h] at this; cases this
   have e:O.plc key (a::l) k=0:=by
    unfold plc
    simp only [List.countP_cons,h,Bool.false_eq_true,if_false,Nat.add_zero,List.countP_eq_zero]
    intro b hb; rw [hall b hb]; decide
   have f1:(a::l).filter (fun y=>O.lt (key y) k)=l.filter (fun y=>O.lt (key y) k):=by simp [h]
   have f2:(a::l).filter (fun y=>!O.lt (key y) k)=a::l.filter (fun y=>!O.lt (key y) k):=by simp [h]
   rw [e,List.take_zero,List.drop_zero,f1,f2]
   refine ⟨?_,?_⟩
   ·symm; rw [List.filter_eq_nil_iff]; intro b hb; rw [hall b hb]; decide
   ·rw [List.filter_eq_self.2]; intro b hb; rw [hall b hb]; rfl
theorem look_some {l:List α} {k:κ} {x:α} (h:look key l k=some x):x ∈ l∧key x=k:=by
 unfold look at h
 exact ⟨List.mem_of_find?_eq_some h,by have:=List.find?_some h; simpa using this⟩
theorem look_none {l:List α} {k:κ} (h:look key l k=none):∀ x ∈ l,key x≠k:=by
 unfold look at h
 rw [List.find?_eq_none] at h
 intro x hx; have:=h x hx; simpa using this
theorem look_none' {l:List α} {k:κ} (h:∀ x ∈ l,key x≠k):look key l k=none:=by
 unfold look
 rw [List.find?_eq_none]
 intro x hx; have:=h x hx; simpa using this
theorem look_mem {l:List α} (hs:O.Srt key l) {x:α} (hx:x ∈ l):look key l (key x)=some x:=by
 induction l with
 | nil=>cases hx
 | cons a l ih =>
  unfold look
  by_cases he:key a=key x
  ·rw [List.find?_cons_of_pos (by simpa using he)]
   rcases List.mem_cons.1 hx with rfl | hx
   ·rfl
   ·exact absurd he (O.ne (hs.head x hx))
  ·rw [List.find?_cons_of_neg (by simpa using he)]
   rcases List.mem_cons.1 hx with rfl | hx
   ·exact absurd rfl he
   ·exact ih hs.tail hx
theorem look_at {l:List α} (hs:O.Srt key l) (k:κ):look key l k=(match l[O.plc key l k]? with | some x=>(if O.lt k (key x)=true then none else some x) | none=>none):=by
 have h2:=(split hs k).2
 have h3:l[O.plc key l k]?=(l.drop (O.plc key l k))[0]?:=by rw [List.getElem?_drop]; rfl
 rw [h3,h2]
 cases hd:l.filter (fun y=>!O.lt (key y) k) with
 | nil =>
  simp only [List.getElem?_nil]
  refine look_none' fun x hx he=>?_
  rw [List.filter_eq_nil_iff] at hd
  have:=hd x hx
  rw [he,O.irr] at this; exact this rfl
 | cons y r =>
  simp only [List.getElem?_cons_zero]
  have hy:y ∈ l∧O.lt (key y) k=false:=by
   have:y ∈ l.filter (fun y=>!O.lt (key y) k):=by rw [hd]; exact List.mem_cons_self
   rw [List.mem_filter] at this
   exact ⟨this.1,by simpa using this.2⟩
  have hsr:O.Srt key (y::r):=by rw [← hd]; exact List.Pairwise.filter _ hs
  cases hk:O.lt k (key y) with
  | true =>
   rw [if_pos rfl]
   refine look_none' fun x hx he=>?_
   have:x ∈ l.filter (fun y=>!O.lt (key y) k):=by rw [List.mem_filter]; exact ⟨hx,by rw [he,O.irr]; rfl⟩
   rw [hd] at this
   rcases List.mem_cons.1 this with rfl | hx'
   ·rw [he,O.irr] at hk; cases hk
   ·have:=O.trn _ _ _ hk (hsr.head x hx')
    rw [he,O.irr] at this; cases this
  | false =>
   rw [if_neg (by decide)]
   have he:key y=k:=by
    rcases O.tri (key y) k with q | q | q
    ·rw [hy.2] at q; cases q
    ·exact q
    ·rw [hk] at q; cases q
   rw [← he]
   exact look_mem hs hy.1
theorem mem_put {l:List α} {x y:α}:y ∈ O.put key l x ↔ y=x∨(y ∈ l∧key y≠key x):=by
 unfold put
 rw [List.mem_append,List.mem_cons,List.mem_filter,List.mem_filter]
 constructor
 ·rintro (⟨h1,h2⟩ | rfl | ⟨h1,h2⟩)
  ·exact .inr ⟨h1,O.ne h2⟩
  ·exact .inl rfl
  ·exact .inr ⟨h1,fun e=>O.ne h2 e.symm⟩
 ·rintro (rfl | ⟨h1,h2⟩)
  ·exact .inr (.inl rfl)
  ·rcases O.tri (key y) (key x) with q | q | q
   ·exact .inl ⟨h1,q⟩
   ·exact absurd q h2
   ·exact .inr (.inr ⟨h1,q⟩)
theorem srt_put {l:List α} (hs:O.Srt key l) (x:α):O.Srt key (O.put key l x):=by
 unfold put Srt
 rw [List.pairwise_append]
 refine ⟨List.Pairwise.filter _ hs,?_,?_⟩
 ·rw [List.pairwise_cons]
  exact ⟨fun b hb=>(List.mem_filter.1 hb).2,List.Pairwise.filter _ hs⟩
 ·intro a ha b hb
  have ha:=(List.mem_filter.1 ha).2
  rcases List.mem_cons.1 hb with rfl | hb
  ·exact ha
  ·exact O.trn _ _ _ ha (List.mem_filter.1 hb).2
theorem look_put {l:List α} (hs:O.Srt key l) (x:α) (k:κ):look key (O.put key l x) k=(open Classical in if key x=k then some x else look key l k):=by
 split
 ·rename_i h
  rw [← h]
  exact look_mem (srt_put hs x) (mem_put.2 (.inl rfl))
 ·rename_i h
  cases hl:look key l k with
  | none =>
   refine look_none' fun y hy he=>?_
   ·rcases mem_put.1 hy with rfl | ⟨h1,h2⟩
    ·exact h he
    ·exact look_none hl y h1 he
  | some y =>
   obtain ⟨h1,h2⟩:=look_some hl
   rw [← h2]
   exact look_mem (srt_put hs x) (mem_put.2 (.inr ⟨h1,by rw [h2]; exact fun e=>h e.symm⟩))
theorem put_set {l:List α} (hs:O.Srt key l) {x y:α} (h:l[O.plc key l (key x)]?=some y) (he:key y=key x):l.set (O.plc key l (key x)) x=O.put key l x:=by
 obtain ⟨h1,h2⟩:=split hs (key x)
 have hlt:=(List.getElem?_eq_some_iff.1 h).1
 rw [List.set_eq_take_append_cons_drop,if_pos hlt,h1]
 unfold put
 congr 2
 have hd:l.drop (O.plc key l (key x))=y::l.drop (O.plc key l (key x)+1):=by
  rw [List.drop_eq_getElem_cons hlt]
  congr 1
  exact (List.getElem?_eq_some_iff.1 h).2
 have hsd:O.Srt key (y::l.drop (O.plc key l (key x)+1)):=by rw [← hd]; exact List.Pairwise.drop hs
 have hall:∀ b ∈ l.drop (O.plc key l (key x)+1),O.lt (key x) (key b)=true:=by
  intro b hb; rw [← he]; exact hsd.head b hb
 have e:l.filter (fun z=>O.lt (key x) (key z))=(l.filter (fun z=>!O.lt (key z) (key x))).filter (fun z=>O.lt (key x) (key z)):=by
  rw [List.filter_filter]
  refine List.filter_congr fun z _=>?_
  cases hz:O.lt (key x) (key z) with
  | false=>rfl
  | true=>rw [O.asym hz]; rfl
 have f:(y::l.drop (O.plc key l (key x)+1)).filter (fun z=>O.lt (key x) (key z))=l.drop (O.plc key l (key x)+1):=by
  have:O.lt (key x) (key y)=false:=by rw [he,O.irr]
  simp only [List.filter_cons,this,Bool.false_eq_true,if_false]
  exact List.filter_eq_self.2 hall
 rw [e,← h2,hd,f]
theorem put_ins {l:List α} (hs:O.Srt key l) {x:α} (h:look key l (key x)=none):l.take (O.plc key l (key x))++x::l.drop (O.plc key l (key x))=O.put key l x:=by
 obtain ⟨h1,h2⟩:=split hs (key x)
 rw [h1,h2]
 unfold put
 congr 2
 refine List.filter_congr fun z hz=>?_
 have hn:=look_none h z hz
 rcases O.tri (key z) (key x) with q | q | q
 ·rw [q,O.asym q]; rfl
 ·exact absurd q hn
 ·rw [O.asym q,q]; rfl
theorem len_put {l:List α} (hs:O.Srt key l) (x:α):(O.put key l x).length=if (look key l (key x)).isSome=true then l.length else l.length+1:=by
 cases h:look key l (key x) with
 | none =>
  rw [← put_ins hs h]
  have:=plc_le (O:=O) (key:=key) l (key x)
  simp only [List.length_append,List.length_cons,List.length_take,List.length_drop,Option.isSome_none,Bool.false_eq_true,if_false]; omega
 | some y =>
  have ha:=look_at hs (key x)
  rw [h] at ha
  cases hg:l[O.plc key l (key x)]? with
  | none=>rw [hg] at ha; cases ha
  | some z =>
   rw [hg] at ha
   simp only at ha
   split at ha
   ·cases ha
   ·have:y=z:=Option.some.inj ha
    subst this
    rw [← put_set hs hg (look_some h).2]
    simp
end KOrd
end Go.Proofs.Ytemdbhdjchkllaa.VL
end
section
namespace Go.Proofs.Ytemdbhdjchkllaa.VL
open Go
set_option linter.unusedVariables false
set_option linter.unusedSectionVars false
set_option linter.unusedSimpArgs false
def ltN (a b:ByteArray):Bool:=Op.bytesLess a.toList b.toList
theorem tri (a b:ByteArray):ltN a b=true∨a=b∨ltN b a=true:=by
 rcases bl_tri a.toList b.toList with h | h | h
 ·exact .inl h
 ·exact .inr (.inl (toList_inj h))
 ·exact .inr (.inr h)
def inO:KOrd Int:=⟨fun a b=>decide (a < b),fun a=>by simp,fun a b c h k=>by simp at *; omega,fun a b=>by simp; omega⟩
variable [Val]
theorem mid {i j:Nat} (h:i+j≤9223372036854775807):IntKind.wrap .i64 (Int.fdiv (IntKind.wrap .u64 (IntKind.wrap .i64 ((i:Int)+(j:Int)))) 2)=(((i+j) / 2:Nat):Int):=by
 rw [wi (x:=(i:Int)+j) (by omega) (by omega),wu (by omega) (by omega)]
 have e:Int.fdiv ((i:Int)+(j:Int)) 2=(((i+j) / 2:Nat):Int):=by
  rw [Int.fdiv_eq_ediv_of_nonneg _ (by omega)]; omega
 rw [e,wi (by omega) (by omega)]
theorem not_lt_self (n:Nat):¬ ((n:Nat):Int) < ((n:Nat):Int):=by omega
theorem w1 {i:Nat} (h:i≤9223372036854775806):IntKind.wrap .i64 ((i:Int)+1)=((i+1:Nat):Int):=by rw [wi (by omega) (by omega)]; omega
theorem wm {i:Nat} (h:i≤9223372036854775806) (h0:0 < i):IntKind.wrap .i64 ((i:Int) - 1)=((i - 1:Nat):Int):=by rw [wi (by omega) (by omega)]; omega
theorem dlt (a b:Int):decide (a < b)=!decide (b≤a):=by rw [Bool.eq_iff_iff,Bool.not_eq_true',decide_eq_true_iff,decide_eq_false_iff_not]; omega
theorem dgt (a b:Int):decide (a > b)=!decide (a≤b):=by rw [Bool.eq_iff_iff,Bool.not_eq_true',decide_eq_true_iff,decide_eq_false_iff_not]; omega
theorem nz0:((0:Int) != 0)=false:=rfl
theorem nz1:((1:Int) != 0)=true:=rfl
theorem loop_detE {σ ρ:Type} {f:σ→Option (σ ⊕ ρ)} {s0:σ} (n:Nat) (st:Nat→σ) (r:ρ) (h0:s0=st 0) (hend:f (st n)=some (.inr r)) (hstep:∀ i,i < n→f (st i)=some (.inl (st (i+1)))):loopX f s0=some r:=by
 have key:∀ d i,n - i=d→i≤n→loopX f (st i)=some r:=by
  intro d
  induction d with
  | zero =>
   intro i h1 h2
   have:i=n:=by omega
   subst this; rw [loopX_eq,hend]
  | succ d ih=>intro i h1 h2; rw [loopX_eq,hstep i (by omega)]; exact ih (i+1) (by omega) (by omega)
 rw [h0]; exact key n 0 (by omega) (Nat.zero_le _)
theorem loop_list {α ρ:Type} {f:Int→Option (Int ⊕ ρ)} {s0:Int} (l:List α) (ok:α→Bool) (bad good:ρ) (h0:s0=0) (hend:f (l.length:Int)=some (.inr good))
  (hstep:∀ (i:Nat) (x:α),i < l.length→l[i]?=some x→f (i:Int)=if ok x=true then some (.inl ((i+1:Nat):Int)) else some (.inr bad)) :
  loopX f s0=some (if l.all ok=true then good else bad):=by
 subst h0
 rw [loop_all (n:=l.length) (fun i=>match l[i]? with | some x=>ok x | none=>true) bad good hend ?_]
 ·congr 2
  rw [eq_iff_iff,List.all_eq_true,List.all_eq_true]
  constructor
  ·intro h x hx
   obtain ⟨i,hi,rfl⟩:=List.getElem_of_mem hx
   have:=h i (List.mem_range.2 hi)
   rw [List.getElem?_eq_getElem hi] at this; exact this
  ·intro h i hi
   have hi:=List.mem_range.1 hi
   rw [List.getElem?_eq_getElem hi]; exact h _ (List.getElem_mem hi)
 ·intro i hi _
  rw [hstep i l[i] hi (List.getElem?_eq_getElem hi),List.getElem?_eq_getElem hi]
theorem loop_find {κ α:Type} {O:KOrd κ} {key:α→κ} {l:List α} (hs:O.Srt key l) (k:κ) {f:Int×Int→Option ((Int×Int) ⊕ Int)} {s0:Int×Int} (h0:s0=(0,(l.length:Int)))
  (hend:∀ i:Nat,i≤l.length→f ((i:Int),(i:Int))=some (.inr (i:Int)))
  (hstep:∀ (i j m:Nat) (x:α),i < j→j≤l.length→m=(i+j) / 2→m < l.length→l[m]?=some x→f ((i:Int),(j:Int))=cond (O.lt (key x) k) (some (.inl (((m+1:Nat):Int),(j:Int)))) (some (.inl ((i:Int),(m:Int))))) :
  loopX f s0=some ((O.plc key l k:Nat):Int):=by
 subst h0
 have hsp:∀ i:Nat,(hi:i < l.length)→(O.lt (key l[i]) k=true ↔ i < O.plc key l k):=by
  intro i hi
  obtain ⟨e1,e2⟩:=KOrd.split hs k
  have hle:=KOrd.plc_le (O:=O) (key:=key) l k
  constructor
  ·intro h
   refine Nat.not_le.1 fun hge=>?_
   have hm:l[i] ∈ l.drop (O.plc key l k):=by rw [List.mem_iff_getElem?]; exact ⟨i - O.plc key l k,by rw [List.getElem?_drop,show O.plc key l k+(i - O.plc key l k)=i by omega,List.getElem?_eq_getElem hi]⟩
   rw [e2,List.mem_filter] at hm
   rw [h] at hm; exact absurd hm.2 (by decide)
  ·intro h
   have hm:l[i] ∈ l.take (O.plc key l k):=by rw [List.mem_iff_getElem?]; exact ⟨i,by rw [List.getElem?_take,if_pos h,List.getElem?_eq_getElem hi]⟩
   rw [e1,List.mem_filter] at hm
   exact hm.2
 have hle:=KOrd.plc_le (O:=O) (key:=key) l k
 have e:cntP (fun i=>decide (i < O.plc key l k)) l.length=O.plc key l k:=cntP_at hle (fun k hk=>decide_eq_true hk) (fun k h1 h2=>decide_eq_false (by omega))
 have:=loop_bs (f:=f) (n:=l.length) (fun i=>decide (i < O.plc key l k)) (fun i j h1 h2 h3=>by rw [decide_eq_true_iff] at *; omega) hend (fun i j h1 h2=>?_)
 ·rw [e] at this; exact this
 ·have hm:(i+j) / 2 < l.length:=by omega
  rw [hstep i j _ l[(i+j) / 2] h1 h2 rfl hm (List.getElem?_eq_getElem hm)]
  have hd:O.lt (key l[(i+j) / 2]) k=decide ((i+j) / 2 < O.plc key l k):=by rw [Bool.eq_iff_iff,decide_eq_true_iff]; exact hsp _ hm
  rw [hd]
  cases decide ((i+j) / 2 < O.plc key l k)<;>rfl
end Go.Proofs.Ytemdbhdjchkllaa.VL
end
section
namespace Go.Proofs.Ytemdbhdjchkllaa.VL
open Go
set_option linter.unusedVariables false
set_option linter.unusedSectionVars false
set_option linter.unusedSimpArgs false
set_option maxRecDepth 100000
variable [Val]
abbrev QE:=Int×(Int×(Int×Int))
def okS (s:Int):Bool:=decide (0≤s)&&decide (s≤3)
theorem F24_ok (a s:Int):F24 (a,s)=some (okS s):=by
 rw [F24_eq]
 unfold okS
 show cond (decide (0≤s)) (some (decide (s≤3))) (some false)=_
 cases decide (0≤s)<;>rfl
def beatB (a b:Int×Int):Bool:=(okS a.2&&okS b.2)&&(decide (a.1 > b.1) || ((a.1==b.1)&&decide (a.2 > b.2)))
theorem beat_self (a:Int×Int):beatB a a=false:=by
 unfold beatB
 rw [decide_eq_false (show ¬ a.1 > a.1 by omega),decide_eq_false (show ¬ a.2 > a.2 by omega)]
 simp
theorem F12_ok (a b:Int×Int):F12 (a,b)=some (beatB a b):=by
 rw [F12_eq]
 unfold beatB
 have h1:=F24_ok a.1 a.2
 have h2:=F24_ok b.1 b.2
 simp -implicitDefEqProofs only [h1,h2,eq_self,xs]
 cases okS a.2<;>cases okS b.2<;>cases decide (a.1 > b.1)<;>cases (a.1==b.1)<;>rfl
theorem F40_ok {l:List (Int×Int)} (hl:l.length≤1000):F40 l=some (if l.all (fun x=>okS x.2)=true then 0 else 1):=by
 rw [F40_eq]
 rw [loop_list (s0:=(0:Int)) l (fun x=>okS x.2) (1:Int) 0 rfl]
 ·simp -implicitDefEqProofs only [not_lt_self,eq_self,xs]
 ·intro i x hi hx
  have q1:((i:Nat):Int) < ((l.length:Nat):Int):=by omega
  have q2:(0:Int)≤(i:Int):=by omega
  simp -implicitDefEqProofs only [q1,q2,hx,w1 (show i≤9223372036854775806 by omega),dlt x.2 0,dgt x.2 3,eq_self,xs]
  unfold okS
  cases decide (0≤x.2)<;>cases decide (x.2≤3)<;>rfl
theorem F32_ok (a b:Int×Int):F32 (a,b)=some (beatB a b):=by
 have h40:=F40_ok (l:=[a,b]) (show 2≤1000 by decide)
 simp only [List.all_cons,List.all_nil,Bool.and_true] at h40
 rw [F32_eq]
 unfold beatB
 cases ha:okS a.2
 ·rw [ha,Bool.false_and,if_neg (by decide)] at h40
  simp -implicitDefEqProofs only [h40,nz1,eq_self,xs]
 cases hb:okS b.2
 ·rw [ha,hb,if_neg (by decide)] at h40
  simp -implicitDefEqProofs only [h40,nz1,eq_self,xs]
 rw [ha,hb,if_pos (by decide)] at h40
 by_cases h1:a.1=b.1
 ·have e1:(a.1==b.1)=true:=by rw [h1]; exact beq_self_eq_true _
  have e2:(a.1 != b.1)=false:=by unfold bne; rw [e1]; rfl
  have e3:decide (a.1 > b.1)=false:=decide_eq_false (by omega)
  by_cases h2:a.2=b.2
  ·have e4:(a.2==b.2)=true:=by rw [h2]; exact beq_self_eq_true _
   have e5:decide (a.2 > b.2)=false:=decide_eq_false (by omega)
   simp -implicitDefEqProofs only [h40,nz0,e1,e2,e3,e4,e5,eq_self,xs]
  ·have e4:(a.2==b.2)=false:=by rw [beq_eq_false_iff_ne]; exact h2
   simp -implicitDefEqProofs only [h40,nz0,e1,e2,e3,e4,eq_self,xs]
 ·have e1:(a.1==b.1)=false:=by rw [beq_eq_false_iff_ne]; exact h1
  have e2:(a.1 != b.1)=true:=by unfold bne; rw [e1]; rfl
  simp -implicitDefEqProofs only [h40,nz0,e1,e2,eq_self,xs]
def mayN (n:Int×(Int×Int)):Bool:=(decide (n.1 ≥ 0)&&decide (n.1 < 64))&&okS n.2.2
theorem F25_ok (n:Int×(Int×Int)):F25 n=some (mayN n):=by
 rw [F25_eq]
 have h40:=F40_ok (l:=[(n.2.1,n.2.2)]) (show 1≤1000 by decide)
 simp only [List.all_cons,List.all_nil,Bool.and_true] at h40
 unfold mayN
 have e:((if okS n.2.2=true then (0:Int) else 1)==0)=okS n.2.2:=by cases okS n.2.2<;>rfl
 simp -implicitDefEqProofs only [h40,e,eq_self,xs]
 cases decide (n.1 ≥ 0)<;>cases decide (n.1 < 64)<;>rfl
def oftB (v:Int):Bool:=decide (v ≥ 1)&&decide (v≤64)
theorem F26_ok (v:Int):F26 v=some (oftB v):=by
 rw [F26_eq]
 unfold oftB
 cases decide (v ≥ 1)<;>rfl
def mayE (x:QE):Bool:=mayN (x.1,x.2.1,x.2.2.1)&&oftB x.2.2.2
def qt (l:List QE) (i:Nat):QE:=l.getD i (0,0,0,0)
theorem qt_eq {l:List QE} {i:Nat} (h:i < l.length):l[i]=qt l i:=by
 unfold qt
 rw [List.getD_eq_getElem?_getD,List.getElem?_eq_getElem h]; rfl
theorem at_qt {l:List QE} {i:Nat} (h:i < l.length):l[i]?=some (qt l i):=by rw [List.getElem?_eq_getElem h,qt_eq h]
def upQ (l:List QE) (i:Nat):Bool:=mayE (qt l i)&&(decide (i=0) || decide ((qt l (i - 1)).1 < (qt l i).1))
def queueB (l:List QE):Bool:=(List.range l.length).all (upQ l)
theorem F11_ok {l:List QE} (hl:l.length≤1000):F11 l=some (if queueB l=true then 0 else 1):=by
 rw [F11_eq]
 unfold queueB
 rw [loop_all (n:=l.length) (upQ l) (1:Int) 0]
 ·simp -implicitDefEqProofs only [not_lt_self,eq_self,xs]
 ·intro i hi _
  have q1:((i:Nat):Int) < ((l.length:Nat):Int):=by omega
  have q2:(0:Int)≤(i:Int):=by omega
  have f25:=F25_ok ((qt l i).1,(qt l i).2.1,(qt l i).2.2.1)
  have f26:=F26_ok (qt l i).2.2.2
  simp -implicitDefEqProofs only [q1,q2,at_qt hi,f25,f26,w1 (show i≤9223372036854775806 by omega),eq_self,xs]
  unfold upQ mayE
  cases mayN ((qt l i).1,(qt l i).2.1,(qt l i).2.2.1)
  ·rfl
  cases oftB (qt l i).2.2.2
  ·rfl
  by_cases h0:i=0
  ·subst h0
   rfl
  ·have q3:(i:Int) > 0:=by omega
   have q4:(0:Int)≤((i - 1:Nat):Int):=by omega
   simp -implicitDefEqProofs only [q3,wm (show i≤9223372036854775806 by omega) (show 0 < i by omega),q4,at_qt (show i - 1 < l.length by omega),h0,eq_self,xs]
   have e:decide ((qt l (i - 1)).1 ≥ (qt l i).1)=!decide ((qt l (i - 1)).1 < (qt l i).1):=by
    rw [Bool.eq_iff_iff,Bool.not_eq_true',decide_eq_true_iff,decide_eq_false_iff_not]; omega
   rw [e]
   cases decide ((qt l (i - 1)).1 < (qt l i).1)<;>rfl
theorem queue_iff (l:List QE):queueB l=true ↔ (∀ x ∈ l,mayE x=true)∧inO.Srt Prod.fst l:=by
 unfold queueB
 rw [List.all_eq_true]
 constructor
 ·intro h2
  have h2:∀ i,i < l.length→upQ l i=true:=fun i hi=>h2 i (List.mem_range.2 hi)
  refine ⟨fun x hx=>?_,?_⟩
  ·obtain ⟨i,hi,rfl⟩:=List.getElem_of_mem hx
   have:=h2 i hi
   unfold upQ at this
   rw [Bool.and_eq_true] at this
   rw [qt_eq hi]; exact this.1
  ·have step:∀ i,i+1 < l.length→(qt l i).1 < (qt l (i+1)).1:=by
    intro i hi
    have:=h2 (i+1) hi
    unfold upQ at this
    rw [Bool.and_eq_true,Bool.or_eq_true,decide_eq_true_iff] at this
    rcases this.2 with q | q
    ·omega
    ·simpa using q
   have all:∀ i j,i < j→j < l.length→(qt l i).1 < (qt l j).1:=by
    intro i j hij
    induction j with
    | zero=>omega
    | succ j ih =>
     intro hj
     rcases Nat.lt_or_eq_of_le (Nat.le_of_lt_succ hij) with q | q
     ·have:=ih q (by omega)
      have:=step j hj
      omega
     ·rw [q]; exact step j hj
   unfold KOrd.Srt
   rw [List.pairwise_iff_getElem]
   intro i j hi hj hij
   show decide ((l[i]).1 < (l[j]).1)=true
   rw [qt_eq hi,qt_eq hj]; exact decide_eq_true (all i j hij hj)
 ·rintro ⟨h2,h3⟩
  intro i hi
  have hi:=List.mem_range.1 hi
  unfold upQ
  rw [Bool.and_eq_true,Bool.or_eq_true,decide_eq_true_iff]
  refine ⟨by rw [← qt_eq hi]; exact h2 _ (List.getElem_mem hi),?_⟩
  by_cases h0:i=0
  ·exact .inl h0
  ·right
   unfold KOrd.Srt at h3
   rw [List.pairwise_iff_getElem] at h3
   have:=h3 (i - 1) i (by omega) hi (by omega)
   rw [← qt_eq hi,← qt_eq (show i - 1 < l.length by omega)]; exact this
theorem F28_ok (x:QE) (w:Int):F28 (x,w)=some (if x.1 < w then -1 else if x.1 > w then 1 else 0):=by
 rw [F28_eq,F29_eq]
 have h1:=F41_eq x.1
 have h2:=F41_eq w
 rw [bne_self_eq_false] at h1 h2
 simp -implicitDefEqProofs only [h1,h2,eq_self,xs]
 by_cases a:x.1 < w
 ·simp -implicitDefEqProofs only [a,eq_self,xs]
 ·by_cases b:x.1 > w
  ·simp -implicitDefEqProofs only [a,b,eq_self,xs]
  ·simp -implicitDefEqProofs only [a,b,eq_self,xs]
theorem F16_refl {l:List QE} (hl:l.length≤1000):F16 (l,l)=some true:=by
 rw [F16_eq]
 simp -implicitDefEqProofs only [bne_self_eq_false,eq_self,xs]
 rw [loop_detE (s0:=(0:Int)) l.length (fun i=>(i:Int)) true rfl]
 ·simp -implicitDefEqProofs only [not_lt_self,eq_self,xs]
 ·intro i hi
  have q1:((i:Nat):Int) < ((l.length:Nat):Int):=by omega
  have q2:(0:Int)≤(i:Int):=by omega
  simp -implicitDefEqProofs only [q1,q2,List.getElem?_eq_getElem hi,beq_self_eq_true,w1 (show i≤9223372036854775806 by omega),eq_self,xs]
theorem F15_ok {l:List QE} (hl:l.length≤maxLen):∃ q:List QE,F15 l=some q∧q.length≤65:=by
 rw [F15_eq]
 by_cases h:((l.length:Nat):Int) > 65
 ·have h2:(65:Int)≤((l.length:Nat):Int):=by omega
  simp -implicitDefEqProofs only [h,h2,eq_self,xs]
  exact ⟨_,rfl,by rw [List.length_take]; exact Nat.min_le_left _ _⟩
 ·simp -implicitDefEqProofs only [h,eq_self,xs]
  exact ⟨_,rfl,by omega⟩
end Go.Proofs.Ytemdbhdjchkllaa.VL
end
section
namespace Go.Proofs.Ytemdbhdjchkllaa.VL
open Go
set_option linter.unusedVariables false
set_option linter.unusedSectionVars false
set_option linter.unusedSimpArgs false
set_option maxRecDepth 100000
variable [Val]
noncomputable def lkq (q:List QE) (w:Int):Option QE:=KOrd.look (Prod.fst:QE→Int) q w
def mkE (n:Int×(Int×Int)) (left:Int):QE:=(n.1,n.2.1,n.2.2,left)
noncomputable def addR (q:List QE) (n:Int×(Int×Int)) (left:Int):List QE×Int :=
 if (queueB q&&(mayN n&&oftB left))=true then (match lkq q n.1 with
  | none=>(inO.put Prod.fst q (mkE n left),0)
  | some y=>if beatB n.2 (y.2.1,y.2.2.1)=true then (inO.put Prod.fst q (mkE n left),0) else (q,0))
 else (q,1)
theorem srchQ {q:List QE} (hs:inO.Srt Prod.fst q) (hl:q.length≤1000) (w:Int) {f:Int×Int→Option ((Int×Int) ⊕ Int)} {K:Int→Option (Int×Bool)}
  (hend:∀ i:Nat,i≤q.length→f ((i:Int),(i:Int))=some (.inr (i:Int)))
  (hstep:∀ (i j m:Nat) (x:QE),i < j→j≤q.length→m=(i+j) / 2→m < q.length→q[m]?=some x→f ((i:Int),(j:Int))=cond (decide (x.1 < w)) (some (.inl (((m+1:Nat):Int),(j:Int)))) (some (.inl ((i:Int),(m:Int)))))
  (hK1:∀ (p:Nat) (x:QE),q[p]?=some x→K (p:Int)=some ((p:Int),(if x.1 < w then (-1:Int) else if x.1 > w then 1 else 0)==0)) (hK2:K (q.length:Int)=some ((q.length:Int),false)) :
  Option.bind (loopX f ((0:Int),(q.length:Int))) K=some (((inO.plc Prod.fst q w:Nat):Int),(lkq q w).isSome):=by
 rw [loop_find (O:=inO) (key:=Prod.fst) hs w rfl hend hstep]
 show K _=_
 have hp:=KOrd.plc_le (O:=inO) (key:=Prod.fst) q w
 have ha:=KOrd.look_at (O:=inO) (key:=(Prod.fst:QE→Int)) hs w
 unfold lkq
 rw [ha]
 by_cases hq:inO.plc Prod.fst q w < q.length
 ·have hx:=List.getElem?_eq_getElem hq
  have hnl:¬ (q[inO.plc Prod.fst q w]).1 < w:=by
   intro h
   obtain ⟨e1,e2⟩:=KOrd.split (O:=inO) (key:=(Prod.fst:QE→Int)) hs w
   have hm:q[inO.plc Prod.fst q w] ∈ q.drop (inO.plc Prod.fst q w):=by rw [List.drop_eq_getElem_cons hq]; exact List.mem_cons_self
   rw [e2,List.mem_filter] at hm
   have:=hm.2
   show False
   have e:inO.lt (q[inO.plc Prod.fst q w]).1 w=true:=decide_eq_true h
   rw [e] at this; cases this
  rw [hK1 _ _ hx,hx]
  generalize q[inO.plc Prod.fst q w]=x at *
  rw [if_neg hnl]
  show some _=some (_,(if decide (w < x.1)=true then none else some x:Option QE).isSome)
  by_cases hg:x.1 > w
  ·rw [if_pos hg,decide_eq_true (show w < x.1 from hg),if_pos rfl]; rfl
  ·rw [if_neg hg,decide_eq_false (show ¬ w < x.1 from hg),if_neg (by decide)]; rfl
 ·have e:inO.plc Prod.fst q w=q.length:=by omega
  rw [e,hK2,List.getElem?_eq_none (Nat.le_refl _)]; rfl
theorem F10_ok {q:List QE} (hl:q.length≤1000) (n:Int×(Int×Int)) (left:Int):F10 (q,(n.1,n.2.1,n.2.2),left)=some (addR q n left):=by
 have h11:=F11_ok hl
 have h25:=F25_ok n
 have h26:=F26_ok left
 obtain ⟨w,inc,st⟩:=n
 rw [F10_eq]
 unfold addR
 cases h1:queueB q
 ·rw [h1,if_neg (by decide)] at h11
  simp -implicitDefEqProofs only [h11,nz1,eq_self,xs]
 rw [h1,if_pos rfl] at h11
 cases h2:mayN (w,inc,st)
 ·rw [h2] at h25
  simp -implicitDefEqProofs only [h11,nz0,h25,eq_self,xs]
 rw [h2] at h25
 cases h3:oftB left
 ·rw [h3] at h26
  simp -implicitDefEqProofs only [h11,nz0,h25,h26,eq_self,xs]
 rw [h3] at h26
 obtain ⟨hmay,hs⟩:=(queue_iff q).1 h1
 simp -implicitDefEqProofs only [h11,nz0,h25,h26,eq_self,xs]
 rw [srchQ hs hl w]
 rotate_left
 ·intro i hi; simp -implicitDefEqProofs only [not_lt_self,eq_self,xs]
 ·intro i j m x hij hj hm hml hx
  have q1:(i:Int) < (j:Int):=by omega
  have hmid:=mid (i:=i) (j:=j) (by omega)
  rw [← hm] at hmid
  have q3:(0:Int)≤(m:Int):=by omega
  have h28:=F28_ok x w
  have e:decide ((if x.1 < w then (-1:Int) else if x.1 > w then 1 else 0) < 0)=decide (x.1 < w):=by
   by_cases a:x.1 < w
   ·rw [if_pos a,decide_eq_true a]; rfl
   ·rw [if_neg a,decide_eq_false a]; split<;>rfl
  simp -implicitDefEqProofs only [q1,hmid,q3,hx,h28,e,w1 (show m≤9223372036854775806 by omega),eq_self,xs]
 ·intro p x hx
  have q1:((p:Nat):Int) < ((q.length:Nat):Int):=by have:=(List.getElem?_eq_some_iff.1 hx).1; omega
  have q2:(0:Int)≤(p:Int):=by omega
  have h28:=F28_ok x w
  simp -implicitDefEqProofs only [q1,q2,hx,h28,eq_self,xs]
 ·simp -implicitDefEqProofs only [not_lt_self,eq_self,xs]
 have hd:List.drop q.length (List.replicate q.length (((0:Int),(0:Int),(0:Int),(0:Int))))=[]:=by simp
 have r1:((q.length:Nat):Int) * 32≤70368744177664:=by omega
 have r2:((q.length:Nat):Int)≤70368744177664:=by omega
 have r3:(0:Int)≤((q.length:Nat):Int):=by omega
 have r4:((q.length+1:Nat):Int) * 32≤70368744177664:=by omega
 have r5:((q.length+1:Nat):Int)≤70368744177664:=by omega
 have hple:=KOrd.plc_le (O:=inO) (key:=Prod.fst) q w
 have r6:((inO.plc Prod.fst q w:Nat):Int)≤((q.length:Nat):Int):=by omega
 have r7:(0:Int)≤((inO.plc Prod.fst q w:Nat):Int):=by omega
 cases hlk:lkq q w with
 | none =>
  have hins:insL q [(w,inc,st,left)] ((inO.plc Prod.fst q w:Nat):Int)=inO.put Prod.fst q (mkE (w,inc,st) left):=by
   have:=KOrd.put_ins (O:=inO) (key:=(Prod.fst:QE→Int)) hs (x:=mkE (w,inc,st) left) hlk
   rw [← this]
   unfold insL mkE
   rw [Int.toNat_natCast]; simp
  have hpl:(inO.put Prod.fst q (mkE (w,inc,st) left)).length=q.length+1:=by
   rw [KOrd.len_put hs]
   have e:KOrd.look (Prod.fst:QE→Int) q (mkE (w,inc,st) left).1=none:=hlk
   rw [e]; rfl
  simp -implicitDefEqProofs only [Option.isSome_none,Nat.min_self,List.take_length,hd,List.append_nil,List.length_replicate,List.length_nil,Nat.add_zero,r1,r2,r3,r4,r5,r6,r7,hins,hpl,eq_self,xs]
  rw [List.take_of_length_le (by omega)]
 | some y =>
  have hat:q[inO.plc Prod.fst q w]?=some y∧y.1=w:=by
   have ha:=KOrd.look_at (O:=inO) (key:=(Prod.fst:QE→Int)) hs w
   have hy:=KOrd.look_some (key:=(Prod.fst:QE→Int)) hlk
   unfold lkq at hlk
   rw [hlk] at ha
   cases hx:q[inO.plc Prod.fst q w]? with
   | none=>rw [hx] at ha; cases ha
   | some x =>
    rw [hx] at ha
    simp only at ha
    split at ha
    ·cases ha
    ·cases ha; exact ⟨rfl,hy.2⟩
  have hlt:=(List.getElem?_eq_some_iff.1 hat.1).1
  have r8:((inO.plc Prod.fst q w:Nat):Int) < ((q.length:Nat):Int):=by omega
  have h32:=F32_ok (inc,st) (y.2.1,y.2.2.1)
  have hset:q.set (inO.plc Prod.fst q w) (w,inc,st,left)=inO.put Prod.fst q (mkE (w,inc,st) left):=KOrd.put_set (O:=inO) (key:=(Prod.fst:QE→Int)) hs (x:=mkE (w,inc,st) left) (y:=y) hat.1 hat.2
  have hpl:(inO.put Prod.fst q (mkE (w,inc,st) left)).length=q.length:=by rw [← hset,List.length_set]
  cases hbt:beatB (inc,st) (y.2.1,y.2.2.1)
  ·rw [hbt] at h32
   simp -implicitDefEqProofs only [Option.isSome_some,r7,hat.1,h32,eq_self,xs]
   rw [hbt]; rfl
  ·rw [hbt] at h32
   simp -implicitDefEqProofs only [Option.isSome_some,r7,hat.1,h32,Nat.min_self,List.take_length,hd,List.append_nil,List.length_replicate,r1,r2,r3,r8,hset,hpl,eq_self,xs]
   rw [hbt,if_pos rfl,List.take_of_length_le (by omega)]
end Go.Proofs.Ytemdbhdjchkllaa.VL
end
section
namespace Go.Proofs.Ytemdbhdjchkllaa.VL
open Go
set_option linter.unusedVariables false
set_option linter.unusedSectionVars false
set_option linter.unusedSimpArgs false
set_option maxRecDepth 100000
variable [Val]
theorem put_queue {q:List QE} (h:queueB q=true) {n:Int×(Int×Int)} (hn:mayN n=true) {o:Int} (ho:oftB o=true):queueB (inO.put Prod.fst q (mkE n o))=true:=by
 obtain ⟨h1,h2⟩:=(queue_iff q).1 h
 refine (queue_iff _).2 ⟨fun x hx=>?_,KOrd.srt_put h2 _⟩
 rcases KOrd.mem_put.1 hx with rfl | ⟨hx,_⟩
 ·unfold mayE mkE
  show (mayN n&&oftB o)=true
  rw [hn,ho]; rfl
 ·exact h1 x hx
theorem add_facts {q:List QE} (h:queueB q=true) {n:Int×(Int×Int)} (hn:mayN n=true) {o:Int} (ho:oftB o=true) :
  ∃ a y,addR q n o=(a,0)∧queueB a=true∧lkq a n.1=some y∧beatB n.2 (y.2.1,y.2.2.1)=false∧q.length≤a.length∧a.length≤q.length+1:=by
 obtain ⟨h1,h2⟩:=(queue_iff q).1 h
 have hc:(queueB q&&(mayN n&&oftB o))=true:=by rw [h,hn,ho]; rfl
 have hl:=KOrd.len_put (O:=inO) (key:=(Prod.fst:QE→Int)) h2 (mkE n o)
 have hlen:q.length≤(inO.put Prod.fst q (mkE n o)).length∧(inO.put Prod.fst q (mkE n o)).length≤q.length+1:=by
  rw [hl]; split<;>omega
 have hlk:lkq (inO.put Prod.fst q (mkE n o)) n.1=some (mkE n o):=by
  unfold lkq
  rw [KOrd.look_put h2]
  exact if_pos rfl
 have hb:beatB n.2 ((mkE n o).2.1,(mkE n o).2.2.1)=false:=beat_self n.2
 unfold addR
 rw [if_pos hc]
 cases hq:lkq q n.1 with
 | none=>exact ⟨_,_,rfl,put_queue h hn ho,hlk,hb,hlen.1,hlen.2⟩
 | some y =>
  simp only
  cases hbt:beatB n.2 (y.2.1,y.2.2.1)
  ·exact ⟨q,y,by rw [if_neg (by decide)],h,hq,hbt,Nat.le_refl _,Nat.le_succ _⟩
  ·exact ⟨_,_,by rw [if_pos rfl],put_queue h hn ho,hlk,hb,hlen.1,hlen.2⟩
theorem tmod_rng (A:Int):-63≤Int.tmod A 64∧Int.tmod A 64≤63:=by
 by_cases h:0≤A
 ·rw [Int.tmod_eq_emod_of_nonneg h]; omega
 ·have e:Int.tmod A 64=-(Int.tmod (-A) 64):=by rw [Int.neg_tmod,Int.neg_neg]
  rw [e,Int.tmod_eq_emod_of_nonneg (by omega)]; omega
theorem often_rng (A:Int):∃ o:Int,IntKind.wrap .i64 (1+Int.tmod (IntKind.wrap .i64 (Int.tmod A 64+64)) 64)=o∧1≤o∧o≤64:=by
 obtain ⟨h1,h2⟩:=tmod_rng A
 rw [wi (x:=Int.tmod A 64+64) (by omega) (by omega),Int.tmod_eq_emod_of_nonneg (a:=Int.tmod A 64+64) (by omega),wi (by omega) (by omega)]
 exact ⟨_,rfl,by omega,by omega⟩
theorem often2_rng {o:Int} (h:1≤o∧o≤64):∃ p:Int,IntKind.wrap .i64 (1+Int.tmod o 64)=p∧1≤p∧p≤64:=by
 rw [Int.tmod_eq_emod_of_nonneg (a:=o) (by omega),wi (by omega) (by omega)]
 exact ⟨_,rfl,by omega,by omega⟩
theorem oft_ok {o:Int} (h:1≤o∧o≤64):oftB o=true:=by
 unfold oftB
 rw [decide_eq_true (show o ≥ 1 from h.1),decide_eq_true h.2]; rfl
theorem F6_ok {Q:List QE} (hQ:Q.length≤maxLen) (w inc st A B:Int):F6 (Q,w,inc,st,A,B)=some true:=by
 rw [F6_eq]
 have h14:F14 ()=some true:=rfl
 obtain ⟨q,h15,hq⟩:=F15_ok hQ
 obtain ⟨o,e1,ho⟩:=often_rng A
 obtain ⟨p,e2,hp⟩:=often2_rng ho
 have h10:=F10_ok (q:=q) (by omega) (w,inc,st) o
 simp only at h10
 cases hB:(queueB q&&mayN (w,inc,st))
 ·have hr:addR q (w,inc,st) o=(q,1):=by
   unfold addR
   rw [oft_ok ho,Bool.and_true,hB,if_neg (by decide)]
  rw [hr] at h10
  have h10b:=F10_ok (q:=q) (by omega) (w,inc,st) p
  have hr2:addR q (w,inc,st) p=(q,1):=by
   unfold addR
   rw [oft_ok hp,Bool.and_true,hB,if_neg (by decide)]
  rw [hr2] at h10b
  simp only at h10b
  have h16:=F16_refl (l:=q) (by omega)
  simp -implicitDefEqProofs only [h15,e1,e2,h10,h10b,nz1,h16,h14,eq_self,xs]
 rw [Bool.and_eq_true] at hB
 obtain ⟨a,y,f1,f2,f3,f4,f5,f6⟩:=add_facts hB.1 hB.2 (oft_ok ho)
 rw [f1] at h10
 have h10b:=F10_ok (q:=a) (by omega) (w,inc,st) p
 have hr:addR a (w,inc,st) p=(a,0):=by
  unfold addR
  rw [f2,hB.2,oft_ok hp,if_pos (show (true&&(true&&true))=true from rfl),f3]
  simp only
  rw [f4,if_neg (by decide)]
 rw [hr] at h10b
 simp only at h10b f3 f4
 have h16:=F16_refl (l:=a) (by omega)
 simp -implicitDefEqProofs only [h15,e1,e2,h10,h10b,nz0,h16,h14,eq_self,xs]
 obtain ⟨hmay,hs⟩:=(queue_iff a).1 f2
 rw [loop_detE (s0:=(false,(0:Int))) a.length (fun i=>((a.take i).any (fun x=>x.1==w),(i:Int))) (a.any (fun x=>x.1==w)) rfl]
 rotate_left
 ·rw [List.take_length]
  simp -implicitDefEqProofs only [not_lt_self,eq_self,xs]
 ·intro i hi
  have q1:((i:Nat):Int) < ((a.length:Nat):Int):=by omega
  have q2:(0:Int)≤(i:Int):=by omega
  have hx:a[i]?=some a[i]:=List.getElem?_eq_getElem hi
  have hm:a[i] ∈ a:=List.getElem_mem hi
  have tk:a.take (i+1)=a.take i++[a[i]]:=(List.take_append_getElem hi).symm
  have hw:=w1 (show i≤9223372036854775806 by omega)
  rw [tk]
  generalize a[i]=x at *
  rw [List.any_append,List.any_cons,List.any_nil,Bool.or_false]
  cases hxw:(x.1==w)
  ·simp -implicitDefEqProofs only [q1,q2,hx,hxw,hw,eq_self,xs]
  ·have hxy:x=y:=by
    have h1:=KOrd.look_mem hs hm
    rw [eq_of_beq hxw] at h1
    have h2:some x=some y:=h1.symm.trans f3
    exact Option.some.inj h2
   have h12:=F12_ok (inc,st) (x.2.1,x.2.2.1)
   rw [hxy,f4,← hxy] at h12
   simp -implicitDefEqProofs only [q1,q2,hx,hxw,hw,h12,eq_self,xs]
 have hany:a.any (fun x=>x.1==w)=true:=by
  have hy:=KOrd.look_some (key:=(Prod.fst:QE→Int)) f3
  rw [List.any_eq_true]
  exact ⟨y,hy.1,by have:=hy.2; simpa using this⟩
 have r1:((a.length:Nat):Int) ≥ ((q.length:Nat):Int):=by omega
 have r2:((a.length:Nat):Int)≤((q.length+1:Nat):Int):=by omega
 have hw:=w1 (show q.length≤9223372036854775806 by omega)
 simp -implicitDefEqProofs only [hany,r1,r2,hw,h14,eq_self,xs]
end Go.Proofs.Ytemdbhdjchkllaa.VL
end
