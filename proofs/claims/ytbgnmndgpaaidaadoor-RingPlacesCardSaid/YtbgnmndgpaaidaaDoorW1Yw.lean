import Derived.Test.YtbgnmndgpaaidaaDoorW1Ya
import Derived.Test.YtbgnmndgpaaidaaDoorW1Wc
import Derived.Test.YtbgnmndgpaaidaaDoorW1Xr
import Derived.Laws.RangeString
import Derived.Laws.RangeAny
section
namespace Go.Proofs.YtbgnmndgpaaidaaDoor.VL
open Go
set_option maxRecDepth 100000
set_option linter.unusedSectionVars false
variable [Val]
def clones:List (Nat×Nat×Nat×PV):=[]
theorem clones_ok:CalleeOk Tryd.prog (cloneOv clones):=cloneOv_ok hm (l:=clones) trivial
abbrev fz:List Nat:=[12]
noncomputable abbrev run0:=runR (cloneOv clones) fz tab 1000 50
theorem awake_run:run0 11 []=.ok (vb true):=by kernel_rfl
theorem awake_ok:VPure Tryd.prog 11 [] (vb true):=vpure_runR hm clones_ok fz tab_ok 1000 50 awake_run
def F11:Unit→Option Bool:=fun _=>some true
def pe11:PE:=⟨11,.no,.v .b,F11⟩
theorem pe11_ok:pe11.ok Tryd.prog:=⟨rfl,rfl,rfl,rfl,rfl,fun v y h=>by cases h; exact awake_ok⟩
end Go.Proofs.YtbgnmndgpaaidaaDoor.VL
end
section
namespace Go.Proofs.YtbgnmndgpaaidaaDoor.VL
open Go
set_option maxRecDepth 100000
set_option linter.unusedVariables false
set_option linter.unusedSectionVars false
variable [Val]
noncomputable section

abbrev xi (n:Nat) (o:IOp):XO:=⟨⟨some n,o,none⟩,.b,[],[]⟩
abbrev xg (n:Nat) (o:IOp) (m:Nat) (b:Bool):XO:=⟨⟨some n,o,some (m,b)⟩,.b,[],[]⟩
abbrev xz (o:IOp):XO:=⟨⟨none,o,none⟩,.b,[],[]⟩
def ff62:FX:=⟨(.seq (.reg [(xi 2 (.mov (.c (.v (.bool false)))))]) (.seq (.reg [(xi 3 (.mov (.t 0))),(xi 4 (.mov (.t 0))),(xi 5 (.bin .neq (.t 3) (.t 4))),(xi 2 (.mov (.t 5)))]) .ret)),[],6,[.t 2],1⟩
theorem ff62_ok:ff62.ok Tryd.prog 62:=⟨_,_,Tryd.func62,rfl,by kernel_rfl,rfl,by kernel_rfl,rfl,by kernel_rfl,by kernel_rfl⟩
def xf42:FX:=⟨(.seq (.reg [(xi 4 (.mov (.c (.v (.int .u64 0)))))]) (.seq (.seq (.reg [(xi 6 (.mov (.t 1))),(xi 7 (.lenS (.t 6))),(xi 8 (.mov (.c (.v (.int .i64 0)))))]) (.blk 0 (.loop ⟨[0,5,8,9,10,11,12,13,14,15,16,17,18],[],⟨[],[(0,.v (.i .u64)),(8,.v (.i .i64))],[]⟩⟩ (.seq (.reg [(xi 9 (.bin .lss (.t 8) (.t 7)))]) (.seq (.cond (.t 9) .skip (.exit 0)) (.seq (.blk 1 (.seq (.reg [(xi 10 (.mov (.t 8))),(xi 5 (.mov (.t 10)))]) (.reg [(xi 11 (.mov (.t 0))),(xi 12 (.mov (.t 1))),(xi 13 (.mov (.t 5))),(xi 14 (.ixS (.t 12) (.t 13))),(xi 15 (.conv .u64 (.t 14))),(xi 16 (.bin .xor (.t 11) (.t 15))),(xi 17 (.bin .mul (.t 16) (.c (.v (.int .u64 1099511628211))))),(xi 0 (.mov (.t 17)))]))) (.reg [(xi 18 (.bin .add (.t 8) (.c (.v (.int .i64 1))))),(xi 8 (.mov (.t 18)))]))))))) (.seq (.reg [(xi 19 (.mov (.t 0))),(xi 4 (.mov (.t 19)))]) .ret))),[],20,[.t 4],1⟩
theorem xf42_ok:xf42.ok Tryd.prog 42:=⟨_,_,Tryd.func42,rfl,by kernel_rfl,rfl,by kernel_rfl,rfl,by kernel_rfl,by kernel_rfl⟩
def tb42:List PE:=[]
theorem tb42_ok:PEsOk Tryd.prog tb42:=trivial
def ex42:List EX:=[]
theorem ex42_ok:EXsOk Tryd.prog ex42:=trivial
def in42:List IN:=[]
theorem in42_ok:INsOk Tryd.prog in42:=trivial
def F42:DT ((.co (.v (.i .u64)) (.co (.v .s) .no)):Fm).den→Option (DT (.v (.i .u64):Fm).den):=pureT tb42 ex42 in42 0 xf42 _ _ []
def pe42:PE:=⟨42,(.co (.v (.i .u64)) (.co (.v .s) .no)),.v (.i .u64),F42⟩
theorem pe42_ok:pe42.ok Tryd.prog:=pe_of hm tb42_ok ex42_ok in42_ok xf42_ok (by kernel_rfl) (fun _=>rfl)
def xf30:FX:=⟨(.seq (.reg [(xi 2 (.mov (.c (.v (.int .u64 0)))))]) (.seq (.reg [(xi 3 (.mov (.c (.v (.int .u64 14695981039346656037)))))]) (.seq (.seq (.reg [(xi 6 (.mov (.t 0))),(xi 7 (.len (.t 6))),(xi 8 (.mov (.c (.v (.int .i64 0)))))]) (.blk 0 (.loop ⟨[3,5,8,9,10,11,12,13,14,15],[],⟨[],[(3,.v (.i .u64)),(8,.v (.i .i64))],[]⟩⟩ (.seq (.reg [(xi 9 (.bin .lss (.t 8) (.t 7)))]) (.seq (.cond (.t 9) .skip (.exit 0)) (.seq (.blk 1 (.seq (.reg [(xi 10 (.iad 1 (.t 6) (.t 8))),(xi 11 (.load false 1 (.t 10))),(xi 5 (.mov (.t 11)))]) (.reg [(xi 12 (.mov (.t 3))),(xi 13 (.mov (.t 5))),(xi 14 (.call 0 42 [(.t 12),(.t 13)])),(xi 3 (.mov (.t 14)))]))) (.reg [(xi 15 (.bin .add (.t 8) (.c (.v (.int .i64 1))))),(xi 8 (.mov (.t 15)))]))))))) (.seq (.reg [(xi 16 (.mov (.t 3))),(xi 2 (.mov (.t 16)))]) .ret)))),[14],17,[.t 2],2⟩
theorem xf30_ok:xf30.ok Tryd.prog 30:=⟨_,_,Tryd.func30,rfl,by kernel_rfl,rfl,by kernel_rfl,rfl,by kernel_rfl,by kernel_rfl⟩
def tb30:List PE:=[pe42]
theorem tb30_ok:PEsOk Tryd.prog tb30:=⟨pe42_ok,trivial⟩
def ex30:List EX:=[]
theorem ex30_ok:EXsOk Tryd.prog ex30:=trivial
def in30:List IN:=[]
theorem in30_ok:INsOk Tryd.prog in30:=trivial
def F30:DT ((.co (.v (.sl .s)) .no):Fm).den→Option (DT (.v (.i .u64):Fm).den):=pureT tb30 ex30 in30 0 xf30 _ _ []
def pe30:PE:=⟨30,(.co (.v (.sl .s)) .no),.v (.i .u64),F30⟩
theorem pe30_ok:pe30.ok Tryd.prog:=pe_of hm tb30_ok ex30_ok in30_ok xf30_ok (by kernel_rfl) (fun _=>rfl)
def xf36:FX:=⟨(.seq (.reg [(xi 4 (.mov (.c (.v (.int .i64 0)))))]) (.seq (.reg [(xi 7 (.mov (.t 0))),(xi 8 (.call 0 48 [(.t 7)])),(xi 5 (.mov (.t 8)))]) (.seq (.reg [(xi 9 (.mov (.t 1))),(xi 10 (.call 1 48 [(.t 9)])),(xi 6 (.mov (.t 10)))]) (.seq (.seq (.reg [(xi 11 (.mov (.t 5)))]) (.cond (.t 11) (.seq (.seq (.reg [(xi 12 (.mov (.t 6)))]) (.cond (.t 12) (.seq (.reg [(xi 4 (.mov (.c (.v (.int .i64 0)))))]) .ret) .skip)) (.seq (.reg [(xi 4 (.mov (.c (.v (.int .i64 (-1))))))]) .ret)) .skip)) (.seq (.seq (.reg [(xi 13 (.mov (.t 6)))]) (.cond (.t 13) (.seq (.reg [(xi 4 (.mov (.c (.v (.int .i64 1)))))]) .ret) .skip)) (.seq (.seq (.reg [(xi 14 (.mov (.t 0))),(xi 15 (.mov (.t 1))),(xi 16 (.bin .lss (.t 14) (.t 15)))]) (.cond (.t 16) (.seq (.reg [(xi 4 (.mov (.c (.v (.int .i64 (-1))))))]) .ret) .skip)) (.seq (.seq (.reg [(xi 17 (.mov (.t 0))),(xi 18 (.mov (.t 1))),(xi 19 (.bin .gtr (.t 17) (.t 18)))]) (.cond (.t 19) (.seq (.reg [(xi 4 (.mov (.c (.v (.int .i64 1)))))]) .ret) .skip)) (.seq (.reg [(xi 4 (.mov (.c (.v (.int .i64 0)))))]) .ret)))))))),[8,10],20,[.t 4],5⟩
theorem xf36_ok:xf36.ok Tryd.prog 36:=⟨_,_,Tryd.func36,rfl,by kernel_rfl,rfl,by kernel_rfl,rfl,by kernel_rfl,by kernel_rfl⟩
def ff48:FX:=⟨(.seq (.reg [(xi 2 (.mov (.c (.v (.bool false)))))]) (.seq (.reg [(xi 3 (.mov (.t 0))),(xi 4 (.mov (.t 0))),(xi 5 (.bin .neq (.t 3) (.t 4))),(xi 2 (.mov (.t 5)))]) .ret)),[],6,[.t 2],1⟩
theorem ff48_ok:ff48.ok Tryd.prog 48:=⟨_,_,Tryd.func48,rfl,by kernel_rfl,rfl,by kernel_rfl,rfl,by kernel_rfl,by kernel_rfl⟩
def tb36:List PE:=[]
theorem tb36_ok:PEsOk Tryd.prog tb36:=trivial
def ex36:List EX:=[]
theorem ex36_ok:EXsOk Tryd.prog ex36:=trivial
def in36:List IN:=[⟨0,48,3,ff48,none⟩,⟨1,48,4,ff48,none⟩]
theorem in36_ok:INsOk Tryd.prog in36:=⟨ff48_ok,ff48_ok,trivial⟩
def F36:DT ((.co (.v (.i .u64)) (.co (.v (.i .u64)) .no)):Fm).den→Option (DT (.v (.i .i64):Fm).den):=pureT tb36 ex36 in36 9 xf36 _ _ []
def pe36:PE:=⟨36,(.co (.v (.i .u64)) (.co (.v (.i .u64)) .no)),.v (.i .i64),F36⟩
theorem pe36_ok:pe36.ok Tryd.prog:=pe_of hm tb36_ok ex36_ok in36_ok xf36_ok (by kernel_rfl) (fun _=>rfl)
def xf46:FX:=⟨(.seq (.reg [(xi 2 (.mov (.c (.v (.int .i64 0)))))]) (.seq (.reg [(xi 3 (.mov (.c (.v (.int .i64 0)))))]) (.seq (.seq (.reg [(xi 6 (.mov (.t 0))),(xi 7 (.len (.t 6))),(xi 8 (.mov (.c (.v (.int .i64 0)))))]) (.blk 0 (.loop ⟨[2,5,8,9,10,11,12,13,14,15,16],[],⟨[],[(8,.v (.i .i64))],[]⟩⟩ (.seq (.reg [(xi 9 (.bin .lss (.t 8) (.t 7)))]) (.seq (.cond (.t 9) .skip (.exit 0)) (.seq (.blk 1 (.seq (.reg [(xi 10 (.iad 1 (.t 6) (.t 8))),(xi 11 (.load false 1 (.t 10))),(xi 5 (.mov (.t 11)))]) (.seq (.reg [(xi 12 (.mov (.t 5))),(xi 13 (.mov (.t 3))),(xi 14 (.bin .neq (.t 12) (.t 13)))]) (.cond (.t 14) (.seq (.reg [(xi 15 (.mov (.t 5))),(xi 2 (.mov (.t 15)))]) .ret) .skip)))) (.reg [(xi 16 (.bin .add (.t 8) (.c (.v (.int .i64 1))))),(xi 8 (.mov (.t 16)))]))))))) (.seq (.reg [(xi 17 (.mov (.t 3))),(xi 2 (.mov (.t 17)))]) .ret)))),[],18,[.t 2],1⟩
theorem xf46_ok:xf46.ok Tryd.prog 46:=⟨_,_,Tryd.func46,rfl,by kernel_rfl,rfl,by kernel_rfl,rfl,by kernel_rfl,by kernel_rfl⟩
def tb46:List PE:=[]
theorem tb46_ok:PEsOk Tryd.prog tb46:=trivial
def ex46:List EX:=[]
theorem ex46_ok:EXsOk Tryd.prog ex46:=trivial
def in46:List IN:=[]
theorem in46_ok:INsOk Tryd.prog in46:=trivial
def F46:DT ((.co (.v (.sl (.i .i64))) .no):Fm).den→Option (DT (.v (.i .i64):Fm).den):=pureT tb46 ex46 in46 0 xf46 _ _ []
def pe46:PE:=⟨46,(.co (.v (.sl (.i .i64))) .no),.v (.i .i64),F46⟩
theorem pe46_ok:pe46.ok Tryd.prog:=pe_of hm tb46_ok ex46_ok in46_ok xf46_ok (by kernel_rfl) (fun _=>rfl)
def xf47:FX:=⟨(.seq (.reg [(xi 4 (.mov (.c (.v (.int .i64 0)))))]) (.seq (.reg [(xi 7 (.mov (.t 0))),(xi 8 (.call 0 62 [(.t 7)])),(xi 5 (.mov (.t 8)))]) (.seq (.reg [(xi 9 (.mov (.t 1))),(xi 10 (.call 1 62 [(.t 9)])),(xi 6 (.mov (.t 10)))]) (.seq (.seq (.reg [(xi 11 (.mov (.t 5)))]) (.cond (.t 11) (.seq (.seq (.reg [(xi 12 (.mov (.t 6)))]) (.cond (.t 12) (.seq (.reg [(xi 4 (.mov (.c (.v (.int .i64 0)))))]) .ret) .skip)) (.seq (.reg [(xi 4 (.mov (.c (.v (.int .i64 (-1))))))]) .ret)) .skip)) (.seq (.seq (.reg [(xi 13 (.mov (.t 6)))]) (.cond (.t 13) (.seq (.reg [(xi 4 (.mov (.c (.v (.int .i64 1)))))]) .ret) .skip)) (.seq (.seq (.reg [(xi 14 (.mov (.t 0))),(xi 15 (.mov (.t 1))),(xi 16 (.bin .lss (.t 14) (.t 15)))]) (.cond (.t 16) (.seq (.reg [(xi 4 (.mov (.c (.v (.int .i64 (-1))))))]) .ret) .skip)) (.seq (.seq (.reg [(xi 17 (.mov (.t 0))),(xi 18 (.mov (.t 1))),(xi 19 (.bin .gtr (.t 17) (.t 18)))]) (.cond (.t 19) (.seq (.reg [(xi 4 (.mov (.c (.v (.int .i64 1)))))]) .ret) .skip)) (.seq (.reg [(xi 4 (.mov (.c (.v (.int .i64 0)))))]) .ret)))))))),[8,10],20,[.t 4],5⟩
theorem xf47_ok:xf47.ok Tryd.prog 47:=⟨_,_,Tryd.func47,rfl,by kernel_rfl,rfl,by kernel_rfl,rfl,by kernel_rfl,by kernel_rfl⟩
def tb47:List PE:=[]
theorem tb47_ok:PEsOk Tryd.prog tb47:=trivial
def ex47:List EX:=[]
theorem ex47_ok:EXsOk Tryd.prog ex47:=trivial
def in47:List IN:=[⟨0,62,3,ff62,none⟩,⟨1,62,4,ff62,none⟩]
theorem in47_ok:INsOk Tryd.prog in47:=⟨ff62_ok,ff62_ok,trivial⟩
def F47:DT ((.co (.v (.i .i64)) (.co (.v (.i .i64)) .no)):Fm).den→Option (DT (.v (.i .i64):Fm).den):=pureT tb47 ex47 in47 9 xf47 _ _ []
def pe47:PE:=⟨47,(.co (.v (.i .i64)) (.co (.v (.i .i64)) .no)),.v (.i .i64),F47⟩
theorem pe47_ok:pe47.ok Tryd.prog:=pe_of hm tb47_ok ex47_ok in47_ok xf47_ok (by kernel_rfl) (fun _=>rfl)
def xf33:FX:=⟨(.seq (.reg [(xi 2 (.box 0 3 (.t 0))),(xi 3 (.box 1 3 (.t 1))),(xi 4 (.mov (.c (.v (.int .i64 0)))))]) (.seq (.dr [(6,4),(8,4),(11,4),(11,9),(13,4),(13,9)] [(xi 5 (.fad 0 (.t 2))),(xi 6 (.load false 1 (.t 5))),(xi 7 (.fad 0 (.t 3))),(xi 8 (.load false 1 (.t 7))),(xi 9 (.callG 2 36 [(.t 6),(.t 8)])),(xi 10 (.fad 1 (.t 2))),(xi 11 (.load false 1 (.t 10))),(xi 12 (.fad 1 (.t 3))),(xi 13 (.load false 1 (.t 12))),(xi 14 (.callG 3 47 [(.t 11),(.t 13)])),(xi 15 (.fad 2 (.t 2))),(xi 16 (.load false 1 (.t 15))),(xi 17 (.fad 2 (.t 3))),(xi 18 (.load false 1 (.t 17))),(xi 19 (.callG 4 47 [(.t 16),(.t 18)])),(xi 20 (.bsl 1 (.v (.int .i64 0)) 3 [(0,(.t 9)),(1,(.t 14)),(2,(.t 19))])),(xi 21 (.callG 5 46 [(.t 20)])),(xi 4 (.mov (.t 21)))]) .ret)),[2,3,9,14,19,21],22,[.t 4],7⟩
theorem xf33_ok:xf33.ok Tryd.prog 33:=⟨_,_,Tryd.func33,rfl,by kernel_rfl,rfl,by kernel_rfl,rfl,by kernel_rfl,by kernel_rfl⟩
def tb33:List PE:=[pe36,pe46,pe47]
theorem tb33_ok:PEsOk Tryd.prog tb33:=⟨pe36_ok,pe46_ok,pe47_ok,trivial⟩
def ex33:List EX:=[]
theorem ex33_ok:EXsOk Tryd.prog ex33:=trivial
def in33:List IN:=[]
theorem in33_ok:INsOk Tryd.prog in33:=trivial
def F33:DT ((.co (.v (.p (.i .u64) (.p (.i .i64) (.i .i64)))) (.co (.v (.p (.i .u64) (.p (.i .i64) (.i .i64)))) .no)):Fm).den→Option (DT (.v (.i .i64):Fm).den):=pureT tb33 ex33 in33 0 xf33 _ _ []
def pe33:PE:=⟨33,(.co (.v (.p (.i .u64) (.p (.i .i64) (.i .i64)))) (.co (.v (.p (.i .u64) (.p (.i .i64) (.i .i64)))) .no)),.v (.i .i64),F33⟩
theorem pe33_ok:pe33.ok Tryd.prog:=pe_of hm tb33_ok ex33_ok in33_ok xf33_ok (by kernel_rfl) (fun _=>rfl)
def xf13:FX:=⟨(.seq (.reg [(xi 2 (.mov (.c (.v (.int .i64 0)))))]) (.seq (.seq (.reg [(xi 5 (.mov (.t 0))),(xi 6 (.len (.t 5))),(xi 7 (.bin .gtr (.t 6) (.c (.v (.int .i64 2048)))))]) (.cond (.t 7) (.seq (.reg [(xi 2 (.mov (.c (.v (.int .i64 1)))))]) .ret) .skip)) (.seq (.seq (.reg [(xi 8 (.mov (.t 0))),(xi 9 (.len (.t 8))),(xi 10 (.mov (.c (.v (.int .i64 0)))))]) (.blk 0 (.loop ⟨[2,3,4,10,11,12,13,14,15,16,17,18,19,20,21,22,23,24,25,26,27,28,29,30,31,32,33,34,35,36,37],[0],⟨[],[(10,.v (.i .i64))],[]⟩⟩ (.seq (.reg [(xi 11 (.bin .lss (.t 10) (.t 9)))]) (.seq (.cond (.t 11) .skip (.exit 0)) (.seq (.cut ⟨[2,3,4,12,13,14,15,16,17,18,19,20,21,22,23,24,25,26,27,28,29,30,31,32,33,34,35,36],[0],⟨[],[],[]⟩⟩ (.blk 1 (.seq (.reg [(xi 12 (.mov (.t 10))),(xi 13 (.iad 3 (.t 8) (.t 10))),(xi 14 (.load true 3 (.t 13))),(xi 4 (.alloc 0 (.agg [(.v (.int .u64 0)),(.v (.int .i64 0)),(.v (.int .i64 0))]))),(xi 3 (.mov (.t 12))),(xz (.store 3 (.t 4) (.t 14)))]) (.seq (.cutN ⟨[15,16,17,18,19,20,21,22,23,24,25,26,27,28,29,30,31,32,33,34,35,36],[],⟨[],[(36,.v .b)],[]⟩⟩ (.dr [] [(xi 15 (.fad 1 (.t 4))),(xi 16 (.load false 1 (.t 15))),(xi 17 (.bin .lss (.t 16) (.c (.v (.int .i64 0))))),(xi 18 (.mov (.t 17))),(xg 19 (.fad 1 (.t 4)) 18 false),(xg 20 (.load false 1 (.t 19)) 18 false),(xg 21 (.bin .geq (.t 20) (.c (.v (.int .i64 64)))) 18 false),(xi 22 (.pick (.t 18) (.c (.v (.bool true))) (.t 21))),(xi 23 (.mov (.t 22))),(xg 24 (.mov (.t 3)) 23 false),(xg 25 (.bin .gtr (.t 24) (.c (.v (.int .i64 0)))) 23 false),(xg 26 (.mov (.t 25)) 23 false),(xg 27 (.mov (.t 0)) 26 true),(xg 28 (.mov (.t 3)) 26 true),(xg 29 (.bin .sub (.t 28) (.c (.v (.int .i64 1)))) 26 true),(xg 30 (.iad 3 (.t 27) (.t 29)) 26 true),(xg 31 (.load true 3 (.t 30)) 26 true),(xg 32 (.load true 3 (.t 4)) 26 true),(xg 33 (.callG 1 33 [(.t 31),(.t 32)]) 26 true),(xg 34 (.bin .geq (.t 33) (.c (.v (.int .i64 0)))) 26 true),(xg 35 (.pick (.t 26) (.t 34) (.c (.v (.bool false)))) 23 false),(xi 36 (.pick (.t 23) (.c (.v (.bool true))) (.t 35)))])) (.cond (.t 36) (.seq (.reg [(xi 2 (.mov (.c (.v (.int .i64 1)))))]) .ret) .skip))))) (.reg [(xi 37 (.bin .add (.t 10) (.c (.v (.int .i64 1))))),(xi 10 (.mov (.t 37)))]))))))) (.seq (.reg [(xi 2 (.mov (.c (.v (.int .i64 0)))))]) .ret)))),[4,33],38,[.t 2],3⟩
theorem xf13_ok:xf13.ok Tryd.prog 13:=⟨_,_,Tryd.func13,rfl,by kernel_rfl,rfl,by kernel_rfl,rfl,by kernel_rfl,by kernel_rfl⟩
def tb13:List PE:=[pe33]
theorem tb13_ok:PEsOk Tryd.prog tb13:=⟨pe33_ok,trivial⟩
def ex13:List EX:=[]
theorem ex13_ok:EXsOk Tryd.prog ex13:=trivial
def in13:List IN:=[]
theorem in13_ok:INsOk Tryd.prog in13:=trivial
def F13:DT ((.co (.v (.sl (.p (.i .u64) (.p (.i .i64) (.i .i64))))) .no):Fm).den→Option (DT (.v (.i .i64):Fm).den):=pureT tb13 ex13 in13 0 xf13 _ _ []
def pe13:PE:=⟨13,(.co (.v (.sl (.p (.i .u64) (.p (.i .i64) (.i .i64))))) .no),.v (.i .i64),F13⟩
theorem pe13_ok:pe13.ok Tryd.prog:=pe_of hm tb13_ok ex13_ok in13_ok xf13_ok (by kernel_rfl) (fun _=>rfl)
def xf14:FX:=⟨(.seq (.reg [(xi 4 (.mov (.c (.v (.int .i64 0))))),(xi 5 (.mov (.c (.v (.int .i64 0)))))]) (.seq (.blk 0 (.seq (.reg [(xi 9 (.mov (.t 0))),(xi 10 (.call 0 13 [(.t 9)])),(xi 11 (.bin .neq (.t 10) (.c (.v (.int .i64 0))))),(xi 8 (.mov (.t 11)))]) (.cond (.t 8) (.seq (.reg [(xi 4 (.mov (.c (.v (.int .i64 0))))),(xi 5 (.mov (.c (.v (.int .i64 1)))))]) .ret) (.seq (.reg [(xi 13 (.mov (.t 0))),(xi 14 (.len (.t 13))),(xi 15 (.bin .eql (.t 14) (.c (.v (.int .i64 0))))),(xi 12 (.mov (.t 15)))]) (.cond (.t 12) (.seq (.reg [(xi 4 (.mov (.c (.v (.int .i64 0))))),(xi 5 (.mov (.c (.v (.int .i64 6)))))]) .ret) .skip))))) (.seq (.reg [(xi 17 (.mov (.t 0))),(xi 18 (.mov (.t 1))),⟨⟨(some 19),(.bsl 1 (.v (.string ⟨#[]⟩)) 1 [(0,(.t 18))]),none⟩,.b,[],[]⟩,(xi 20 (.call 1 30 [(.t 19)])),(xi 21 (.call 2 34 [(.t 17),(.t 20),(.c (.clo 35 [] []))])),(xi 16 (.mov (.t 21))),(xi 22 (.ext (.t 16) 0)),(xi 23 (.ext (.t 16) 1)),(xi 6 (.mov (.t 22))),(xi 7 (.mov (.t 23)))]) (.seq (.reg [(xi 24 (.mov (.t 6))),(xi 25 (.mov (.t 0))),(xi 26 (.len (.t 25))),(xi 27 (.bin .rem (.t 24) (.t 26))),(xi 4 (.mov (.t 27))),(xi 5 (.mov (.c (.v (.int .i64 0)))))]) .ret)))),[10,20,21],28,[.t 4,.t 5],13⟩
theorem xf14_ok:xf14.ok Tryd.prog 14:=⟨_,_,Tryd.func14,rfl,by kernel_rfl,rfl,by kernel_rfl,rfl,by kernel_rfl,by kernel_rfl⟩
def ff34:FX:=⟨(.seq (.reg [(xi 6 (.mov (.c (.v (.int .i64 0))))),(xi 7 (.mov (.c (.v (.bool false)))))]) (.seq (.reg [(xi 12 (.mov (.t 0))),(xi 13 (.len (.t 12))),(xi 8 (.mov (.t 13)))]) (.seq (.reg [(xi 14 (.mov (.t 8))),(xi 9 (.mov (.c (.v (.int .i64 0))))),(xi 10 (.mov (.t 14)))]) (.seq (.cutN ⟨[9,10,11,15,16,17,18,19,20,21,22,23,24,25,26,27,28,29,30,31,32,33,34],[7,8,9],⟨[],[(9,.v (.i .i64))],[]⟩⟩ (.blk 0 (.loop ⟨[9,10,11,15,16,17,18,19,20,21,22,23,24,25,26,27,28,29,30,31,32,33,34],[7,8,9],⟨[],[(9,.v (.i .i64)),(10,.v (.i .i64))],[]⟩⟩ (.seq (.seq (.reg [(xi 15 (.mov (.t 9))),(xi 16 (.mov (.t 10))),(xi 17 (.bin .lss (.t 15) (.t 16)))]) (.cond (.t 17) .skip (.exit 0))) (.blk 1 (.seq (.reg [(xi 18 (.mov (.t 9))),(xi 19 (.mov (.t 10))),(xi 20 (.bin .add (.t 18) (.t 19))),(xi 21 (.conv .u64 (.t 20))),(xi 22 (.bin .shr (.t 21) (.c (.v (.int .u64 1))))),(xi 23 (.conv .i64 (.t 22))),(xi 11 (.mov (.t 23)))]) (.seq (.reg [(xi 24 (.mov (.t 2))),(xi 25 (.mov (.t 0))),(xi 26 (.mov (.t 11))),(xi 27 (.iad 3 (.t 25) (.t 26))),(xi 28 (.load true 3 (.t 27))),(xi 29 (.mov (.t 1))),(xi 30 (.callv 0 (.t 24) [(.t 28),(.t 29)])),(xi 31 (.bin .lss (.t 30) (.c (.v (.int .i64 0)))))]) (.cond (.t 31) (.reg [(xi 32 (.mov (.t 11))),(xi 33 (.bin .add (.t 32) (.c (.v (.int .i64 1))))),(xi 9 (.mov (.t 33)))]) (.reg [(xi 34 (.mov (.t 11))),(xi 10 (.mov (.t 34)))]))))))))) (.seq (.reg [(xi 35 (.mov (.t 9))),(xi 36 (.mov (.t 9))),(xi 37 (.mov (.t 8))),(xi 38 (.bin .lss (.t 36) (.t 37))),(xi 39 (.mov (.t 38))),(xg 40 (.mov (.t 2)) 39 true),(xg 41 (.mov (.t 0)) 39 true),(xg 42 (.mov (.t 9)) 39 true),(xg 43 (.iad 3 (.t 41) (.t 42)) 39 true),(xg 44 (.load true 3 (.t 43)) 39 true),(xg 45 (.mov (.t 1)) 39 true),(xg 46 (.callv 1 (.t 40) [(.t 44),(.t 45)]) 39 true),(xg 47 (.bin .eql (.t 46) (.c (.v (.int .i64 0)))) 39 true),(xi 48 (.pick (.t 39) (.t 47) (.c (.v (.bool false))))),(xi 6 (.mov (.t 35))),(xi 7 (.mov (.t 48)))]) .ret))))),[30,46],49,[.t 6,.t 7],3⟩
theorem ff34_ok:ff34.ok Tryd.prog 34:=⟨_,_,Tryd.func34,rfl,by kernel_rfl,rfl,by kernel_rfl,rfl,by kernel_rfl,by kernel_rfl⟩
def ff35:FX:=⟨(.seq (.reg [(xi 2 (.box 0 3 (.t 0))),(xi 4 (.mov (.c (.v (.int .i64 0)))))]) (.seq (.reg [(xi 5 (.fad 0 (.t 2))),(xi 6 (.load false 1 (.t 5))),(xi 7 (.mov (.t 1))),(xi 8 (.call 1 36 [(.t 6),(.t 7)])),(xi 4 (.mov (.t 8)))]) .ret)),[2,8],9,[.t 4],3⟩
theorem ff35_ok:ff35.ok Tryd.prog 35:=⟨_,_,Tryd.func35,rfl,by kernel_rfl,rfl,by kernel_rfl,rfl,by kernel_rfl,by kernel_rfl⟩
def tb14:List PE:=[pe13,pe30,pe36]
theorem tb14_ok:PEsOk Tryd.prog tb14:=⟨pe13_ok,pe30_ok,pe36_ok,trivial⟩
def ex14:List EX:=[]
theorem ex14_ok:EXsOk Tryd.prog ex14:=trivial
def in14:List IN:=[⟨2,34,4,ff34,some ⟨[0,1,2,3,4,5,6,7,8,9,10,11,12,13,14,15,16,17,18,19,20,21,22,23,24,25,26,27,28,29,30,31,32,33,34,35,36,37,38,39,40,41,42,43,44,45,46,47,48],[4,5,6,7,8,9,10,11,12],⟨[],[(6,.v (.i .i64)),(7,.v .b)],[]⟩⟩⟩,⟨4,35,7,ff35,none⟩,⟨5,35,10,ff35,none⟩]
theorem in14_ok:INsOk Tryd.prog in14:=⟨ff34_ok,ff35_ok,ff35_ok,trivial⟩
def F14:DT ((.co (.v (.sl (.p (.i .u64) (.p (.i .i64) (.i .i64))))) (.co (.v .s) .no)):Fm).den→Option (DT (.tup (.co (.v (.i .i64)) (.co (.v (.i .i64)) .no)):Fm).den):=pureT tb14 ex14 in14 9 xf14 _ _ []
def pe14:PE:=⟨14,(.co (.v (.sl (.p (.i .u64) (.p (.i .i64) (.i .i64))))) (.co (.v .s) .no)),.tup (.co (.v (.i .i64)) (.co (.v (.i .i64)) .no)),F14⟩
theorem pe14_ok:pe14.ok Tryd.prog:=pe_of hm tb14_ok ex14_ok in14_ok xf14_ok (by kernel_rfl) (fun _=>rfl)
def xf16:FX:=⟨(.seq (.reg [(xi 2 (.mov (.c (.sl true []))))]) (.seq (.cut ⟨[2,3,4,5,6,7,8,9,10,11,12],[],⟨[],[],[]⟩⟩ (.seq (.cutN ⟨[3,4,5,6,7,8,9,10],[],⟨[],[(10,.v .b)],[]⟩⟩ (.reg [(xi 3 (.mov (.t 0))),(xi 4 (.len (.t 3))),(xi 5 (.bin .gtr (.t 4) (.c (.v (.int .i64 60))))),(xi 6 (.mov (.t 5))),(xg 7 (.mov (.t 0)) 6 true),(xg 8 (.len (.t 7)) 6 true),(xg 9 (.bin .leq (.t 8) (.c (.v (.int .i64 2048)))) 6 true),(xi 10 (.pick (.t 6) (.t 9) (.c (.v (.bool false)))))])) (.cond (.t 10) (.seq (.reg [(xi 11 (.mov (.t 0))),(xi 12 (.slc 3 (.t 11) none (some (.c (.v (.int .i64 60)))) none)),(xi 2 (.mov (.t 12)))]) .ret) .skip))) (.seq (.seq (.reg [(xi 13 (.mov (.t 0))),(xi 14 (.len (.t 13))),(xi 15 (.bin .gtr (.t 14) (.c (.v (.int .i64 2049)))))]) (.cond (.t 15) (.seq (.reg [(xi 16 (.mov (.t 0))),(xi 17 (.slc 3 (.t 16) none (some (.c (.v (.int .i64 2049)))) none)),(xi 2 (.mov (.t 17)))]) .ret) .skip)) (.seq (.reg [(xi 18 (.mov (.t 0))),(xi 2 (.mov (.t 18)))]) .ret)))),[],19,[.t 2],1⟩
theorem xf16_ok:xf16.ok Tryd.prog 16:=⟨_,_,Tryd.func16,rfl,by kernel_rfl,rfl,by kernel_rfl,rfl,by kernel_rfl,by kernel_rfl⟩
def tb16:List PE:=[]
theorem tb16_ok:PEsOk Tryd.prog tb16:=trivial
def ex16:List EX:=[]
theorem ex16_ok:EXsOk Tryd.prog ex16:=trivial
def in16:List IN:=[]
theorem in16_ok:INsOk Tryd.prog in16:=trivial
def F16:DT ((.co (.v (.sl (.p (.i .u64) (.p (.i .i64) (.i .i64))))) .no):Fm).den→Option (DT (.v (.sl (.p (.i .u64) (.p (.i .i64) (.i .i64)))):Fm).den):=pureT tb16 ex16 in16 0 xf16 _ _ []
def pe16:PE:=⟨16,(.co (.v (.sl (.p (.i .u64) (.p (.i .i64) (.i .i64))))) .no),.v (.sl (.p (.i .u64) (.p (.i .i64) (.i .i64)))),F16⟩
theorem pe16_ok:pe16.ok Tryd.prog:=pe_of hm tb16_ok ex16_ok in16_ok xf16_ok (by kernel_rfl) (fun _=>rfl)
def xf17:FX:=⟨(.seq (.reg [⟨⟨(some 2),(.mov (.c (.v (.string ⟨#[]⟩)))),none⟩,.b,[],[]⟩]) (.seq (.seq (.reg [(xi 3 (.mov (.t 0))),(xi 4 (.lenS (.t 3))),(xi 5 (.bin .gtr (.t 4) (.c (.v (.int .i64 300)))))]) (.cond (.t 5) (.seq (.reg [(xi 6 (.mov (.t 0))),(xi 7 (.slS (.t 6) none (some (.c (.v (.int .i64 300)))))),(xi 2 (.mov (.t 7)))]) .ret) .skip)) (.seq (.reg [(xi 8 (.mov (.t 0))),(xi 2 (.mov (.t 8)))]) .ret))),[],9,[.t 2],1⟩
theorem xf17_ok:xf17.ok Tryd.prog 17:=⟨_,_,Tryd.func17,rfl,by kernel_rfl,rfl,by kernel_rfl,rfl,by kernel_rfl,by kernel_rfl⟩
def tb17:List PE:=[]
theorem tb17_ok:PEsOk Tryd.prog tb17:=trivial
def ex17:List EX:=[]
theorem ex17_ok:EXsOk Tryd.prog ex17:=trivial
def in17:List IN:=[]
theorem in17_ok:INsOk Tryd.prog in17:=trivial
def F17:DT ((.co (.v .s) .no):Fm).den→Option (DT (.v .s:Fm).den):=pureT tb17 ex17 in17 0 xf17 _ _ []
def pe17:PE:=⟨17,(.co (.v .s) .no),.v .s,F17⟩
theorem pe17_ok:pe17.ok Tryd.prog:=pe_of hm tb17_ok ex17_ok in17_ok xf17_ok (by kernel_rfl) (fun _=>rfl)
def xf49:FX:=⟨(.seq (.reg [(xi 2 (.mov (.c (.v (.int .u64 0)))))]) (.seq (.reg [(xi 5 (.mov (.t 0))),(xi 6 (.bin .shl (.t 5) (.c (.v (.int .u64 40))))),(xi 3 (.mov (.t 6)))]) (.seq (.seq (.reg [(xi 4 (.mov (.c (.v (.int .i64 0)))))]) (.blk 0 (.loop ⟨[3,4,7,8,9,10,11,12,13],[],⟨[],[(3,.v (.i .u64)),(4,.v (.i .i64))],[]⟩⟩ (.seq (.seq (.reg [(xi 7 (.mov (.t 4))),(xi 8 (.bin .lss (.t 7) (.c (.v (.int .i64 435)))))]) (.cond (.t 8) .skip (.exit 0))) (.seq (.blk 1 (.reg [(xi 11 (.mov (.t 3))),(xi 12 (.mov (.t 0))),(xi 13 (.bin .add (.t 11) (.t 12))),(xi 3 (.mov (.t 13)))])) (.reg [(xi 9 (.mov (.t 4))),(xi 10 (.bin .add (.t 9) (.c (.v (.int .i64 1))))),(xi 4 (.mov (.t 10)))])))))) (.seq (.reg [(xi 14 (.mov (.t 3))),(xi 2 (.mov (.t 14)))]) .ret)))),[],15,[.t 2],1⟩
theorem xf49_ok:xf49.ok Tryd.prog 49:=⟨_,_,Tryd.func49,rfl,by kernel_rfl,rfl,by kernel_rfl,rfl,by kernel_rfl,by kernel_rfl⟩
def tb49:List PE:=[]
theorem tb49_ok:PEsOk Tryd.prog tb49:=trivial
def ex49:List EX:=[]
theorem ex49_ok:EXsOk Tryd.prog ex49:=trivial
def in49:List IN:=[]
theorem in49_ok:INsOk Tryd.prog in49:=trivial
def F49:DT ((.co (.v (.i .u64)) .no):Fm).den→Option (DT (.v (.i .u64):Fm).den):=pureT tb49 ex49 in49 0 xf49 _ _ []
def pe49:PE:=⟨49,(.co (.v (.i .u64)) .no),.v (.i .u64),F49⟩
theorem pe49_ok:pe49.ok Tryd.prog:=pe_of hm tb49_ok ex49_ok in49_ok xf49_ok (by kernel_rfl) (fun _=>rfl)
def xf37:FX:=⟨(.seq (.reg [(xi 4 (.mov (.c (.v (.int .u64 0)))))]) (.seq (.seq (.reg [(xi 5 (.mov (.c (.v (.int .i64 0)))))]) (.blk 0 (.loop ⟨[0,5,6,7,8,9,10,11,12,13,14,15,16,17,18],[],⟨[],[(0,.v (.i .u64)),(5,.v (.i .i64))],[]⟩⟩ (.seq (.seq (.reg [(xi 6 (.mov (.t 5))),(xi 7 (.mov (.t 1))),(xi 8 (.lenS (.t 7))),(xi 9 (.bin .lss (.t 6) (.t 8)))]) (.cond (.t 9) .skip (.exit 0))) (.seq (.blk 1 (.reg [(xi 12 (.mov (.t 0))),(xi 13 (.mov (.t 1))),(xi 14 (.mov (.t 5))),(xi 15 (.ixS (.t 13) (.t 14))),(xi 16 (.conv .u64 (.t 15))),(xi 17 (.bin .xor (.t 12) (.t 16))),(xi 18 (.call 0 49 [(.t 17)])),(xi 0 (.mov (.t 18)))])) (.reg [(xi 10 (.mov (.t 5))),(xi 11 (.bin .add (.t 10) (.c (.v (.int .i64 1))))),(xi 5 (.mov (.t 11)))])))))) (.seq (.reg [(xi 19 (.mov (.t 0))),(xi 4 (.mov (.t 19)))]) .ret))),[18],20,[.t 4],2⟩
theorem xf37_ok:xf37.ok Tryd.prog 37:=⟨_,_,Tryd.func37,rfl,by kernel_rfl,rfl,by kernel_rfl,rfl,by kernel_rfl,by kernel_rfl⟩
def tb37:List PE:=[pe49]
theorem tb37_ok:PEsOk Tryd.prog tb37:=⟨pe49_ok,trivial⟩
def ex37:List EX:=[]
theorem ex37_ok:EXsOk Tryd.prog ex37:=trivial
def in37:List IN:=[]
theorem in37_ok:INsOk Tryd.prog in37:=trivial
def F37:DT ((.co (.v (.i .u64)) (.co (.v .s) .no)):Fm).den→Option (DT (.v (.i .u64):Fm).den):=pureT tb37 ex37 in37 0 xf37 _ _ []
def pe37:PE:=⟨37,(.co (.v (.i .u64)) (.co (.v .s) .no)),.v (.i .u64),F37⟩
theorem pe37_ok:pe37.ok Tryd.prog:=pe_of hm tb37_ok ex37_ok in37_ok xf37_ok (by kernel_rfl) (fun _=>rfl)
def xf18:FX:=⟨(.seq (.reg [(xi 2 (.mov (.c (.v (.int .u64 0)))))]) (.seq (.reg [⟨⟨(some 3),(.mov (.c (.v (.string ⟨#[]⟩)))),none⟩,.b,[],[]⟩]) (.seq (.seq (.reg [(xi 4 (.mov (.c (.v (.int .i64 0)))))]) (.blk 0 (.loop ⟨[3,4,5,6,7,8,9,10,11,12,13,14,15,16],[],⟨[],[(3,.v .s),(4,.v (.i .i64))],[]⟩⟩ (.seq (.seq (.reg [(xi 5 (.mov (.t 4))),(xi 6 (.mov (.t 0))),(xi 7 (.len (.t 6))),(xi 8 (.bin .lss (.t 5) (.t 7)))]) (.cond (.t 8) .skip (.exit 0))) (.seq (.blk 1 (.reg [(xi 11 (.mov (.t 3))),(xi 12 (.mov (.t 0))),(xi 13 (.mov (.t 4))),(xi 14 (.iad 1 (.t 12) (.t 13))),(xi 15 (.load false 1 (.t 14))),(xi 16 (.bin .add (.t 11) (.t 15))),(xi 3 (.mov (.t 16)))])) (.reg [(xi 9 (.mov (.t 4))),(xi 10 (.bin .add (.t 9) (.c (.v (.int .i64 1))))),(xi 4 (.mov (.t 10)))])))))) (.seq (.reg [(xi 17 (.mov (.t 3))),(xi 18 (.call 0 37 [(.c (.v (.int .u64 14695981039346656037))),(.t 17)])),(xi 2 (.mov (.t 18)))]) .ret)))),[18],19,[.t 2],2⟩
theorem xf18_ok:xf18.ok Tryd.prog 18:=⟨_,_,Tryd.func18,rfl,by kernel_rfl,rfl,by kernel_rfl,rfl,by kernel_rfl,by kernel_rfl⟩
def tb18:List PE:=[pe37]
theorem tb18_ok:PEsOk Tryd.prog tb18:=⟨pe37_ok,trivial⟩
def ex18:List EX:=[]
theorem ex18_ok:EXsOk Tryd.prog ex18:=trivial
def in18:List IN:=[]
theorem in18_ok:INsOk Tryd.prog in18:=trivial
def F18:DT ((.co (.v (.sl .s)) .no):Fm).den→Option (DT (.v (.i .u64):Fm).den):=pureT tb18 ex18 in18 0 xf18 _ _ []
def pe18:PE:=⟨18,(.co (.v (.sl .s)) .no),.v (.i .u64),F18⟩
theorem pe18_ok:pe18.ok Tryd.prog:=pe_of hm tb18_ok ex18_ok in18_ok xf18_ok (by kernel_rfl) (fun _=>rfl)
def xf4:FX:=⟨(.seq (.reg [(xi 4 (.mov (.c (.v (.bool false)))))]) (.seq (.reg [(xi 9 (.mov (.t 0))),(xi 10 (.call 0 16 [(.t 9)])),(xi 11 (.mov (.t 1))),(xi 12 (.call 1 17 [(.t 11)])),(xi 0 (.mov (.t 10))),(xi 1 (.mov (.t 12)))]) (.seq (.reg [(xi 14 (.mov (.t 0))),(xi 15 (.mov (.t 1))),(xi 16 (.call 2 14 [(.t 14),(.t 15)])),(xi 13 (.mov (.t 16))),(xi 17 (.ext (.t 13) 0)),(xi 18 (.ext (.t 13) 1)),(xi 5 (.mov (.t 17))),(xi 6 (.mov (.t 18)))]) (.seq (.seq (.reg [(xi 19 (.mov (.t 6))),(xi 20 (.bin .neq (.t 19) (.c (.v (.int .i64 0)))))]) (.cond (.t 20) (.seq (.reg [(xi 21 (.mov (.t 5))),(xi 22 (.bin .eql (.t 21) (.c (.v (.int .i64 0))))),(xi 23 (.mov (.t 22))),(xg 24 (.call 3 11 []) 23 true),(xi 25 (.pick (.t 23) (.t 24) (.c (.v (.bool false))))),(xi 4 (.mov (.t 25)))]) .ret) .skip)) (.seq (.cut ⟨[4,26,27,28,29,30,31,32,33],[],⟨[],[],[]⟩⟩ (.seq (.cutN ⟨[26,27,28,29,30,31,32,33],[],⟨[],[(33,.v .b)],[]⟩⟩ (.reg [(xi 26 (.mov (.t 5))),(xi 27 (.bin .lss (.t 26) (.c (.v (.int .i64 0))))),(xi 28 (.mov (.t 27))),(xg 29 (.mov (.t 5)) 28 false),(xg 30 (.mov (.t 0)) 28 false),(xg 31 (.len (.t 30)) 28 false),(xg 32 (.bin .geq (.t 29) (.t 31)) 28 false),(xi 33 (.pick (.t 28) (.c (.v (.bool true))) (.t 32)))])) (.cond (.t 33) (.seq (.reg [(xi 4 (.mov (.c (.v (.bool false)))))]) .ret) .skip))) (.seq (.reg [(xi 34 (.mov (.t 1))),⟨⟨(some 35),(.bsl 1 (.v (.string ⟨#[]⟩)) 1 [(0,(.t 34))]),none⟩,.b,[],[]⟩,(xi 36 (.call 4 18 [(.t 35)])),(xi 7 (.mov (.t 36)))]) (.seq (.seq (.reg [(xi 8 (.mov (.c (.v (.int .i64 0)))))]) (.blk 0 (.loop ⟨[4,8,37,38,39,40,41,42,43,44,45,46,47,48,49,50,51,52,53,54,55,56,57],[],⟨[],[(8,.v (.i .i64))],[]⟩⟩ (.seq (.seq (.reg [(xi 37 (.mov (.t 8))),(xi 38 (.mov (.t 0))),(xi 39 (.len (.t 38))),(xi 40 (.bin .lss (.t 37) (.t 39)))]) (.cond (.t 40) .skip (.exit 0))) (.seq (.blk 1 (.seq (.rdr [(xi 43 (.mov (.t 0))),(xi 44 (.mov (.t 8))),(xi 45 (.iad 3 (.t 43) (.t 44))),(xi 46 (.fad 0 (.t 45))),(xi 47 (.load false 1 (.t 46))),(xi 48 (.mov (.t 7))),(xi 49 (.bin .sub (.t 47) (.t 48))),(xi 50 (.mov (.t 0))),(xi 51 (.mov (.t 5))),(xi 52 (.iad 3 (.t 50) (.t 51))),(xi 53 (.fad 0 (.t 52))),(xi 54 (.load false 1 (.t 53))),(xi 55 (.mov (.t 7))),(xi 56 (.bin .sub (.t 54) (.t 55))),(xi 57 (.bin .lss (.t 49) (.t 56)))]) (.cond (.t 57) (.seq (.reg [(xi 4 (.mov (.c (.v (.bool false)))))]) .ret) .skip))) (.reg [(xi 41 (.mov (.t 8))),(xi 42 (.bin .add (.t 41) (.c (.v (.int .i64 1))))),(xi 8 (.mov (.t 42)))])))))) (.seq (.reg [(xi 58 (.call 5 11 [])),(xi 4 (.mov (.t 58)))]) .ret)))))))),[10,12,16,24,36,58],59,[.t 4],7⟩
theorem xf4_ok:xf4.ok Tryd.prog 4:=⟨_,_,Tryd.func4,rfl,by kernel_rfl,rfl,by kernel_rfl,rfl,by kernel_rfl,by kernel_rfl⟩
def tb4:List PE:=[pe11,pe14,pe16,pe17,pe18]
theorem tb4_ok:PEsOk Tryd.prog tb4:=⟨pe11_ok,pe14_ok,pe16_ok,pe17_ok,pe18_ok,trivial⟩
def ex4:List EX:=[]
theorem ex4_ok:EXsOk Tryd.prog ex4:=trivial
def in4:List IN:=[]
theorem in4_ok:INsOk Tryd.prog in4:=trivial
def F4:DT ((.co (.v (.sl (.p (.i .u64) (.p (.i .i64) (.i .i64))))) (.co (.v .s) .no)):Fm).den→Option (DT (.v .b:Fm).den):=pureT tb4 ex4 in4 0 xf4 _ _ []
def pe4:PE:=⟨4,(.co (.v (.sl (.p (.i .u64) (.p (.i .i64) (.i .i64))))) (.co (.v .s) .no)),.v .b,F4⟩
theorem pe4_ok:pe4.ok Tryd.prog:=pe_of hm tb4_ok ex4_ok in4_ok xf4_ok (by kernel_rfl) (fun _=>rfl)
end
end Go.Proofs.YtbgnmndgpaaidaaDoor.VL
end
section
namespace Go.Proofs.YtbgnmndgpaaidaaDoor.VL
open Go
set_option maxRecDepth 100000
set_option linter.unusedVariables false
set_option linter.unusedSectionVars false
variable [Val]

theorem F42_eq (v:(Int×ByteArray)):F42 v=(loopX (fun (v0:(Int×Int))=>(cond (decide (v0.2 < (((ByteArray.size v.2):Nat):Int))) (cond (decide ((0:Int)≤v0.2)) (Option.bind v.2[(Int.toNat v0.2)]? (fun (v1:UInt8)=>(some (.inl ((IntKind.wrap IntKind.u64 ((IntKind.wrap IntKind.u64 (((BitVec.toNat (BitVec.xor (BitVec.ofInt 64 v0.1) (BitVec.ofInt 64 (IntKind.wrap IntKind.u64 (((UInt8.toNat v1):Nat):Int))))):Nat):Int)) * (1099511628211:Int))),(IntKind.wrap IntKind.i64 (v0.2+(1:Int)))))))) none) (some (.inr v0.1)))) (v.1,(0:Int))):=by kernel_rfl
theorem F30_eq (v:(List ByteArray)):F30 v=(loopX (fun (v0:(Int×Int))=>(cond (decide (v0.2 < ((v.length:Nat):Int))) (cond (decide ((0:Int)≤v0.2)) (Option.bind v[(Int.toNat v0.2)]? (fun (v1:ByteArray)=>(Option.bind (F42 (v0.1,v1)) (fun (v2:Int)=>(some (.inl (v2,(IntKind.wrap IntKind.i64 (v0.2+(1:Int)))))))))) none) (some (.inr v0.1)))) ((14695981039346656037:Int),(0:Int))):=by kernel_rfl
theorem F36_eq (v:(Int×Int)):F36 v=(cond (v.1 != v.1) (cond (v.2 != v.2) (some (0:Int)) (some (-1:Int))) (cond (v.2 != v.2) (some (1:Int)) (cond (decide (v.1 < v.2)) (some (-1:Int)) (cond (decide (v.1 > v.2)) (some (1:Int)) (some (0:Int)))))):=by kernel_rfl
theorem F46_eq (v:(List Int)):F46 v=(loopX (fun (v0:Int)=>(cond (decide (v0 < ((v.length:Nat):Int))) (cond (decide ((0:Int)≤v0)) (Option.bind v[(Int.toNat v0)]? (fun (v1:Int)=>(cond (v1 != (0:Int)) (some (.inr v1)) (some (.inl (IntKind.wrap IntKind.i64 (v0+(1:Int)))))))) none) (some (.inr (0:Int))))) (0:Int)):=by kernel_rfl
theorem F47_eq (v:(Int×Int)):F47 v=(cond (v.1 != v.1) (cond (v.2 != v.2) (some (0:Int)) (some (-1:Int))) (cond (v.2 != v.2) (some (1:Int)) (cond (decide (v.1 < v.2)) (some (-1:Int)) (cond (decide (v.1 > v.2)) (some (1:Int)) (some (0:Int)))))):=by kernel_rfl
theorem F33_eq (v:((Int×(Int×Int))×(Int×(Int×Int)))):F33 v=(Option.bind (F36 (v.1.1,v.2.1)) (fun (v0:Int)=>(Option.bind (F47 (v.1.2.1,v.2.2.1)) (fun (v1:Int)=>(Option.bind (F47 (v.1.2.2,v.2.2.2)) (fun (v2:Int)=>(Option.bind (F46 (v0::(v1::(v2::[])))) (fun (v3:Int)=>(some v3))))))))):=by kernel_rfl
theorem F13_eq (v:(List (Int×(Int×Int)))):F13 v=(cond (decide (((v.length:Nat):Int) > (2048:Int))) (some (1:Int)) (loopX (fun (v0:Int)=>(cond (decide (v0 < ((v.length:Nat):Int))) (joinX (cond (decide ((0:Int)≤v0)) (Option.bind v[(Int.toNat v0)]? (fun (v1:(Int×(Int×Int)))=>(Option.bind (cond (decide (v1.2.1 < (0:Int))) (some true) (cond (decide (v1.2.1 ≥ (64:Int))) (some true) (cond (decide (v0 > (0:Int))) (cond (decide ((0:Int)≤(IntKind.wrap IntKind.i64 (v0 - (1:Int))))) (Option.bind v[(Int.toNat (IntKind.wrap IntKind.i64 (v0 - (1:Int))))]? (fun (v2:(Int×(Int×Int)))=>(Option.bind (F33 ((v2.1,v2.2.1,v2.2.2),v1.1,v1.2.1,v1.2.2)) (fun (v3:Int)=>(some (decide (v3 ≥ (0:Int)))))))) none) (some false)))) (fun (v4:Bool)=>(cond v4 (some (.inr (.inr (1:Int)))) (some (.inl ()))))))) none) (fun (v5:Unit)=>(some (.inl (IntKind.wrap IntKind.i64 (v0+(1:Int))))))) (some (.inr (0:Int))))) (0:Int))):=by kernel_rfl
theorem F14_eq (v:((List (Int×(Int×Int)))×ByteArray)):F14 v=(Option.bind (F13 v.1) (fun (v0:Int)=>(cond (v0 != (0:Int)) (some ((0:Int),(1:Int))) (cond (((v.1.length:Nat):Int)==(0:Int)) (some ((0:Int),(6:Int))) (Option.bind (F30 (v.2::[])) (fun (v1:Int)=>(Option.bind (Option.bind (loopX (fun (v2:(Int×Int))=>(cond (decide (v2.1 < v2.2)) (cond (decide ((0:Int)≤(IntKind.wrap IntKind.i64 (Int.fdiv (IntKind.wrap IntKind.u64 (IntKind.wrap IntKind.i64 (v2.1+v2.2))) (2:Int))))) (Option.bind v.1[(Int.toNat (IntKind.wrap IntKind.i64 (Int.fdiv (IntKind.wrap IntKind.u64 (IntKind.wrap IntKind.i64 (v2.1+v2.2))) (2:Int))))]? (fun (v3:(Int×(Int×Int)))=>(Option.bind (F36 (v3.1,v1)) (fun (v4:Int)=>(cond (decide (v4 < (0:Int))) (some (.inl ((IntKind.wrap IntKind.i64 ((IntKind.wrap IntKind.i64 (Int.fdiv (IntKind.wrap IntKind.u64 (IntKind.wrap IntKind.i64 (v2.1+v2.2))) (2:Int)))+(1:Int))),v2.2))) (some (.inl (v2.1,(IntKind.wrap IntKind.i64 (Int.fdiv (IntKind.wrap IntKind.u64 (IntKind.wrap IntKind.i64 (v2.1+v2.2))) (2:Int))))))))))) none) (some (.inr v2.1)))) ((0:Int),((v.1.length:Nat):Int))) (fun (v5:Int)=>(cond (decide (v5 < ((v.1.length:Nat):Int))) (cond (decide ((0:Int)≤v5)) (Option.bind v.1[(Int.toNat v5)]? (fun (v6:(Int×(Int×Int)))=>(Option.bind (F36 (v6.1,v1)) (fun (v7:Int)=>(some (v5,(v7==(0:Int)))))))) none) (some (v5,false))))) (fun (v8:(Int×Bool))=>(cond (decide (((v.1.length:Nat):Int)=(0:Int))) none (some ((Int.tmod v8.1 ((v.1.length:Nat):Int)),(0:Int)))))))))))):=by kernel_rfl
theorem F16_eq (v:(List (Int×(Int×Int)))):F16 v=(joinX (Option.bind (cond (decide (((v.length:Nat):Int) > (60:Int))) (some (decide (((v.length:Nat):Int)≤(2048:Int)))) (some false)) (fun (v0:Bool)=>(cond v0 (cond (decide ((60:Int)≤((v.length:Nat):Int))) (some (.inr (List.take 60 v))) none) (some (.inl ()))))) (fun (v1:Unit)=>(cond (decide (((v.length:Nat):Int) > (2049:Int))) (cond (decide ((2049:Int)≤((v.length:Nat):Int))) (some (List.take 2049 v)) none) (some v)))):=by kernel_rfl
theorem F17_eq (v:ByteArray):F17 v=(cond (decide ((((ByteArray.size v):Nat):Int) > (300:Int))) (cond (decide ((300:Int)≤(((ByteArray.size v):Nat):Int))) (some (ByteArray.extract v 0 300)) none) (some v)):=by kernel_rfl
theorem F49_eq (v:Int):F49 v=(loopX (fun (v0:(Int×Int))=>(cond (decide (v0.2 < (435:Int))) (some (.inl ((IntKind.wrap IntKind.u64 (v0.1+v)),(IntKind.wrap IntKind.i64 (v0.2+(1:Int)))))) (some (.inr v0.1)))) ((IntKind.wrap IntKind.u64 (v * (1099511627776:Int))),(0:Int))):=by kernel_rfl
theorem F37_eq (v:(Int×ByteArray)):F37 v=(loopX (fun (v0:(Int×Int))=>(cond (decide (v0.2 < (((ByteArray.size v.2):Nat):Int))) (cond (decide ((0:Int)≤v0.2)) (Option.bind v.2[(Int.toNat v0.2)]? (fun (v1:UInt8)=>(Option.bind (F49 (IntKind.wrap IntKind.u64 (((BitVec.toNat (BitVec.xor (BitVec.ofInt 64 v0.1) (BitVec.ofInt 64 (IntKind.wrap IntKind.u64 (((UInt8.toNat v1):Nat):Int))))):Nat):Int))) (fun (v2:Int)=>(some (.inl (v2,(IntKind.wrap IntKind.i64 (v0.2+(1:Int)))))))))) none) (some (.inr v0.1)))) (v.1,(0:Int))):=by kernel_rfl
theorem F18_eq (v:(List ByteArray)):F18 v=(loopX (fun (v0:(ByteArray×Int))=>(cond (decide (v0.2 < ((v.length:Nat):Int))) (cond (decide ((0:Int)≤v0.2)) (Option.bind v[(Int.toNat v0.2)]? (fun (v1:ByteArray)=>(cond (decide (((ByteArray.size v0.1)+(ByteArray.size v1))≤4611686018427387904)) (some (.inl ((v0.1++v1),(IntKind.wrap IntKind.i64 (v0.2+(1:Int)))))) none))) none) (Option.map (Sum.inr) (Option.bind (F37 ((14695981039346656037:Int),v0.1)) (fun (v2:Int)=>(some v2)))))) ((ByteArray.mk #[]),(0:Int))):=by kernel_rfl
theorem F4_eq (v:((List (Int×(Int×Int)))×ByteArray)):F4 v=(Option.bind (F16 v.1) (fun (v0:(List (Int×(Int×Int))))=>(Option.bind (F17 v.2) (fun (v1:ByteArray)=>(Option.bind (F14 (v0,v1)) (fun (v2:(Int×Int))=>(cond (v2.2 != (0:Int)) (cond (v2.1==(0:Int)) (Option.bind (F11 ()) (fun (v3:Bool)=>(some v3))) (some false)) (joinX (Option.bind (cond (decide (v2.1 < (0:Int))) (some true) (some (decide (v2.1 ≥ ((v0.length:Nat):Int))))) (fun (v4:Bool)=>(cond v4 (some (.inr false)) (some (.inl ()))))) (fun (v5:Unit)=>(Option.bind (F18 (v1::[])) (fun (v6:Int)=>(loopX (fun (v7:Int)=>(cond (decide (v7 < ((v0.length:Nat):Int))) (cond (decide ((0:Int)≤v7)) (Option.bind v0[(Int.toNat v7)]? (fun (v8:(Int×(Int×Int)))=>(cond (decide ((0:Int)≤v2.1)) (Option.bind v0[(Int.toNat v2.1)]? (fun (v9:(Int×(Int×Int)))=>(cond (decide ((IntKind.wrap IntKind.u64 (v8.1 - v6)) < (IntKind.wrap IntKind.u64 (v9.1 - v6)))) (some (.inr false)) (some (.inl (IntKind.wrap IntKind.i64 (v7+(1:Int)))))))) none))) none) (Option.map (Sum.inr) (Option.bind (F11 ()) (fun (v10:Bool)=>(some v10)))))) (0:Int))))))))))))):=by kernel_rfl
end Go.Proofs.YtbgnmndgpaaidaaDoor.VL
end
section
namespace Go.Proofs.YtbgnmndgpaaidaaDoor.VL
open Go
set_option linter.unusedVariables false
set_option linter.unusedSectionVars false
variable [Val]
theorem wi {x:Int} (h0:-9223372036854775808≤x) (h1:x≤9223372036854775807):IntKind.wrap .i64 x=x:=by rw [IntKind.wrap_i64]; omega
theorem wu {x:Int} (h0:0≤x) (h1:x≤18446744073709551615):IntKind.wrap .u64 x=x:=by
 simp only [IntKind.wrap,IntKind.bits,IntKind.signed]
 have:x % (2 ^ 64:Int)=x:=Int.emod_eq_of_lt h0 (by omega)
 simp only [this,Bool.false_and]
 rfl
theorem loopX_spec {σ ρ:Type} {f:σ→Option (σ ⊕ ρ)} (I:σ→Prop) (m:σ→Nat) (g:σ→ρ)
  (h:∀ s,I s→f s=some (.inr (g s))∨∃ s',f s=some (.inl s')∧I s'∧m s' < m s∧g s'=g s):∀ (s:σ),I s→loopX f s=some (g s):=by
 have key:∀ (n:Nat) (s:σ),m s≤n→I s→loopX f s=some (g s):=by
  intro n
  induction n with
  | zero =>
   intro s hn hs
   rw [loopX_eq]
   rcases h s hs with h1 | ⟨s',h1,h2,h3,h4⟩
   ·rw [h1]
   ·omega
  | succ n ih =>
   intro s hn hs
   rw [loopX_eq]
   rcases h s hs with h1 | ⟨s',h1,h2,h3,h4⟩
   ·rw [h1]
   ·rw [h1]
    simp only
    rw [ih s' (by omega) h2,h4]
 exact fun s hs=>key (m s) s (Nat.le_refl _) hs
theorem loop_all {ρ:Type} {f:Int→Option (Int ⊕ ρ)} {n:Nat} (ok:Nat→Bool) (bad good:ρ) (hend:f (n:Int)=some (.inr good))
  (hstep:∀ i:Nat,i < n→(∀ j,j < i→ok j=true)→f (i:Int)=if ok i=true then some (.inl ((i+1:Nat):Int)) else some (.inr bad)) :
  loopX f (0:Int)=some (if (List.range n).all ok=true then good else bad):=by
 classical
 have key:∀ i:Nat,i≤n→(∀ j,j < i→ok j=true)→loopX f (i:Int)=some (if ∀ j,i≤j→j < n→ok j=true then good else bad):=by
  intro i hi
  generalize hd:n - i=d
  induction d generalizing i with
  | zero =>
   intro ha
   have:i=n:=by omega
   subst this
   rw [loopX_eq,hend,if_pos (fun j h1 h2=>by omega)]
  | succ d ih =>
   intro ha
   rw [loopX_eq,hstep i (by omega) ha]
   by_cases h:ok i=true
   ·rw [if_pos h]
    simp only
    rw [ih (i+1) (by omega) (by omega) (fun j hj=>by
     rcases Nat.lt_or_eq_of_le (Nat.le_of_lt_succ hj) with h1 | h1
     ·exact ha j h1
     ·rw [h1]; exact h)]
    have e:(∀ j,i+1≤j→j < n→ok j=true) ↔ (∀ j,i≤j→j < n→ok j=true):=by
     constructor
     ·intro q j h1 h2
      rcases Nat.lt_or_eq_of_le h1 with h3 | h3
      ·exact q j h3 h2
      ·rw [← h3]; exact h
     ·intro q j h1 h2; exact q j (by omega) h2
    by_cases hq:∀ j,i≤j→j < n→ok j=true
    ·rw [if_pos hq,if_pos (e.2 hq)]
    ·rw [if_neg hq,if_neg (fun q=>hq (e.1 q))]
   ·rw [if_neg h]
    simp only
    rw [if_neg (fun q=>h (q i (Nat.le_refl _) (by omega)))]
 have:=key 0 (Nat.zero_le _) (fun j hj=>by omega)
 have e0:((0:Nat):Int)=0:=rfl
 rw [e0] at this
 rw [this]
 congr 1
 have e:(∀ j,0≤j→j < n→ok j=true) ↔ (List.range n).all ok=true:=by simp [List.all_eq_true]
 by_cases h:(List.range n).all ok=true
 ·rw [if_pos h,if_pos (e.2 h)]
 ·rw [if_neg h,if_neg (fun q=>h (e.1 q))]
theorem xs:(∀ {α:Type} (a b:α),cond true a b=a)∧(∀ {α:Type} (a b:α),cond false a b=b)∧(∀ {α β:Type} (a:α) (f:α→Option β),(some a).bind f=f a)∧(∀ {α β:Type} (a:α) (f:α→β),(some a).map f=some (f a)) ∧
 (∀ {α R:Type} (v:α) (k:α→Option R),joinX (some (.inl v)) k=k v)∧(∀ {α R:Type} (r:R) (k:α→Option R),joinX (some (.inr r)) k=some r)∧(∀ (h:Decidable True),@decide True h=true)∧(∀ (h:Decidable False),@decide False h=false)∧((!true)=false)∧((!false)=true)∧(∀ b:Bool,(b&&true)=b)∧(∀ b:Bool,(true&&b)=b)∧(∀ b:Bool,(b&&b)=b)∧(∀ b:Bool,(false&&b)=false)∧(∀ b:Bool,(b&&false)=false)∧(∀ b:Bool,(true || b)=true)∧(∀ b:Bool,(b || true)=true)∧(∀ b:Bool,(false || b)=b)∧(∀ b:Bool,(b || false)=b)∧(∀ {α:Type} (a b:List α),Append.append a b=a++b)∧(∀ {α:Type} (a b:List α),(a++b).length=a.length+b.length)∧(∀ {α:Type} (a:α) (b:List α),(a::b).length=b.length+1)∧(∀ {α:Type},([]:List α).length=0)∧(∀ n:Nat,0+n=n)∧(∀ n:Nat,n+0=n)∧(∀ n:Nat,((n:Int)).toNat=n)∧(∀ n:Nat,(n≤n)=True)∧(∀ n:Int,(n≤n)=True)∧(∀ {α:Type} (a:List α),a.take a.length=a)∧(∀ {α:Type} (a b:α),(some a).getD b=a)∧(∀ {α:Type} (b:α),(none:Option α).getD b=b)∧(∀ {α:Type} (a b:α),(if True then a else b)=a)∧(∀ {α:Type} (a b:α),(if False then a else b)=b)∧((false=true)=False)∧((true=false)=False):=by
 refine ⟨fun _ _=>rfl,fun _ _=>rfl,fun _ _=>rfl,fun _ _=>rfl,fun _ _=>rfl,fun _ _=>rfl,fun _=>by simp,fun _=>by simp,rfl,rfl,?_,?_,?_,?_,?_,?_,?_,?_,?_,fun _ _=>rfl,fun _ _=>List.length_append,fun _ _=>rfl,rfl,Nat.zero_add,fun _=>rfl,fun _=>rfl,fun _=>eq_true (Nat.le_refl _),fun _=>eq_true (Int.le_refl _),fun _=>List.take_length,fun _ _=>rfl,fun _=>rfl,fun _ _=>by simp,fun _ _=>by simp,by simp,by simp⟩<;>(intro b; cases b<;>rfl)
end Go.Proofs.YtbgnmndgpaaidaaDoor.VL
end
section
namespace Go.Proofs.YtbgnmndgpaaidaaDoor.VL
open Go
set_option linter.unusedVariables false
set_option linter.unusedSectionVars false
set_option linter.unusedSimpArgs false
theorem bl_tri:∀ x y:List UInt8,Op.bytesLess x y=true∨x=y∨Op.bytesLess y x=true
 | [],[]=>.inr (.inl rfl)
 | [],_::_=>.inl rfl
 | _::_,[]=>.inr (.inr rfl)
 | a::x,b::y=>by
  simp only [Op.bytesLess,Bool.or_eq_true,decide_eq_true_eq,Bool.and_eq_true,beq_iff_eq,List.cons.injEq]
  rcases Nat.lt_trichotomy a.toNat b.toNat with h | h | h
  ·left; left; rw [UInt8.lt_iff_toNat_lt]; exact h
  ·have h:=UInt8.toNat_inj.1 h
   subst h
   rcases bl_tri x y with h | h | h
   ·exact .inl (.inr ⟨rfl,h⟩)
   ·exact .inr (.inl ⟨rfl,h⟩)
   ·exact .inr (.inr (.inr ⟨rfl,h⟩))
  ·right; right; left; rw [UInt8.lt_iff_toNat_lt]; exact h
theorem toList_loop (s:ByteArray):∀ (n i:Nat) (r:List UInt8),s.size - i=n→i≤s.size→ByteArray.toList.loop s i r=r.reverse++(s.data.toList.drop i):=by
 intro n
 induction n with
 | zero =>
  intro i r h hi
  have:i=s.size:=by omega
  unfold ByteArray.toList.loop
  rw [if_neg (by omega),List.drop_eq_nil_of_le (by rw [Array.length_toList]; show s.size≤i; omega),List.append_nil]
 | succ n ih =>
  intro i r h hi
  unfold ByteArray.toList.loop
  rw [if_pos (by omega),ih (i+1) _ (by omega) (by omega)]
  have hlt:i < s.data.toList.length:=by rw [Array.length_toList]; show i < s.size; omega
  have e:s.get! i=s.data.toList[i]:=by
   show s.data[i]! = _
   rw [getElem!_pos s.data i (by rw [Array.length_toList] at hlt; exact hlt)]
   simp
  rw [List.reverse_cons,List.append_assoc,List.singleton_append,e,List.drop_eq_getElem_cons hlt]
theorem toList_data (s:ByteArray):s.toList=s.data.toList:=by
 have:=toList_loop s (s.size - 0) 0 [] rfl (Nat.zero_le _)
 unfold ByteArray.toList
 rw [this]; simp
theorem toList_inj {a b:ByteArray} (h:a.toList=b.toList):a=b:=by
 rw [toList_data,toList_data] at h
 cases a; cases b
 simp only [ByteArray.mk.injEq]
 exact Array.toList_inj.1 h
theorem toList_len (s:ByteArray):s.toList.length=s.size:=by rw [toList_data,Array.length_toList]; rfl
theorem ba_get {s:ByteArray} {i:Nat} (h:i < s.size):s[(Int.toNat (i:Int))]?=some (s.get! i):=by
 rw [Int.toNat_natCast]
 have e:s.get! i=s[i]'h:=by
  show s.data[i]! = _
  rw [getElem!_pos s.data i h]
  first | done | rfl
 rw [e]
 exact getElem?_pos s i h
variable [Val]
def okB (n:Nat):Bool:=(decide (97≤n)&&decide (n≤122)) || ((decide (48≤n)&&decide (n≤57)) || decide (n=45))
end Go.Proofs.YtbgnmndgpaaidaaDoor.VL
end
section
namespace Go.Proofs.YtbgnmndgpaaidaaDoor.VL
open Go
set_option linter.unusedVariables false
set_option linter.unusedSectionVars false
set_option linter.unusedSimpArgs false
structure KOrd (κ:Type) where
 lt:κ→κ→Bool
 irr:∀ a,lt a a=false
 trn:∀ a b c,lt a b=true→lt b c=true→lt a c=true
 tri:∀ a b,lt a b=true∨a=b∨lt b a=true
namespace KOrd
variable {κ α:Type} (O:KOrd κ) (key:α→κ)
def Srt (l:List α):Prop:=l.Pairwise (fun a b=>O.lt (key a) (key b)=true)
def plc (l:List α) (k:κ):Nat:=l.countP (fun x=>O.lt (key x) k)
def put (l:List α) (x:α):List α:=l.filter (fun y=>O.lt (key y) (key x))++x::l.filter (fun y=>O.lt (key x) (key y))
variable {O key}
theorem Srt.tail {a:α} {l:List α} (h:O.Srt key (a::l)):O.Srt key l:=(List.pairwise_cons.1 h).2
theorem Srt.head {a:α} {l:List α} (h:O.Srt key (a::l)):∀ b ∈ l,O.lt (key a) (key b)=true:=(List.pairwise_cons.1 h).1
theorem split {l:List α} (hs:O.Srt key l) (k:κ):l.take (O.plc key l k)=l.filter (fun y=>O.lt (key y) k)∧l.drop (O.plc key l k)=l.filter (fun y=>!O.lt (key y) k):=by
 induction l with
 | nil=>exact ⟨rfl,rfl⟩
 | cons a l ih =>
  obtain ⟨i1,i2⟩:=ih hs.tail
  cases h:O.lt (key a) k with
  | true =>
   have e:O.plc key (a::l) k=O.plc key l k+1:=by unfold plc; simp [List.countP_cons,h]
   rw [e,List.take_succ_cons,List.drop_succ_cons,i1,i2]
   constructor<;>simp [h]
  | false =>
   have hall:∀ b ∈ l,O.lt (key b) k=false:=by
    intro b hb
    rw [Bool.eq_false_iff]; intro hk
    have:=O.trn _ _ _ (hs.head b hb) hk
    rw [h] at this; cases this
   have e:O.plc key (a::l) k=0:=by
    unfold plc
    simp only [List.countP_cons,h,Bool.false_eq_true,if_false,Nat.add_zero,List.countP_eq_zero]
    intro b hb; rw [hall b hb]; decide
   have f1:(a::l).filter (fun y=>O.lt (key y) k)=l.filter (fun y=>O.lt (key y) k):=by simp [h]
   have f2:(a::l).filter (fun y=>!O.lt (key y) k)=a::l.filter (fun y=>!O.lt (key y) k):=by simp [h]
   rw [e,List.take_zero,List.drop_zero,f1,f2]
   refine ⟨?_,?_⟩
   ·symm; rw [List.filter_eq_nil_iff]; intro b hb; rw [hall b hb]; decide
   ·rw [List.filter_eq_self.2]; intro b hb; rw [hall b hb]; rfl
end KOrd
end Go.Proofs.YtbgnmndgpaaidaaDoor.VL
end
section
namespace Go.Proofs.YtbgnmndgpaaidaaDoor.VL
open Go
set_option linter.unusedVariables false
set_option linter.unusedSectionVars false
set_option linter.unusedSimpArgs false
def ltN (a b:ByteArray):Bool:=Op.bytesLess a.toList b.toList
theorem tri (a b:ByteArray):ltN a b=true∨a=b∨ltN b a=true:=by
 rcases bl_tri a.toList b.toList with h | h | h
 ·exact .inl h
 ·exact .inr (.inl (toList_inj h))
 ·exact .inr (.inr h)
variable [Val]
theorem mid {i j:Nat} (h:i+j≤9223372036854775807):IntKind.wrap .i64 (Int.fdiv (IntKind.wrap .u64 (IntKind.wrap .i64 ((i:Int)+(j:Int)))) 2)=(((i+j) / 2:Nat):Int):=by
 rw [wi (x:=(i:Int)+j) (by omega) (by omega),wu (by omega) (by omega)]
 have e:Int.fdiv ((i:Int)+(j:Int)) 2=(((i+j) / 2:Nat):Int):=by
  rw [Int.fdiv_eq_ediv_of_nonneg _ (by omega)]; omega
 rw [e,wi (by omega) (by omega)]
theorem w1 {i:Nat} (h:i≤9223372036854775806):IntKind.wrap .i64 ((i:Int)+1)=((i+1:Nat):Int):=by rw [wi (by omega) (by omega)]; omega
theorem nz0:((0:Int) != 0)=false:=rfl
theorem nz1:((1:Int) != 0)=true:=rfl
theorem loop_detE {σ ρ:Type} {f:σ→Option (σ ⊕ ρ)} {s0:σ} (n:Nat) (st:Nat→σ) (r:ρ) (h0:s0=st 0) (hend:f (st n)=some (.inr r)) (hstep:∀ i,i < n→f (st i)=some (.inl (st (i+1)))):loopX f s0=some r:=by
 have key:∀ d i,n - i=d→i≤n→loopX f (st i)=some r:=by
  intro d
  induction d with
  | zero =>
   intro i h1 h2
   have:i=n:=by omega
   subst this; rw [loopX_eq,hend]
  | succ d ih=>intro i h1 h2; rw [loopX_eq,hstep i (by omega)]; exact ih (i+1) (by omega) (by omega)
 rw [h0]; exact key n 0 (by omega) (Nat.zero_le _)
end Go.Proofs.YtbgnmndgpaaidaaDoor.VL
end
section
namespace Go.Proofs.YtbgnmndgpaaidaaDoor.VL
open Go
set_option linter.unusedVariables false
set_option linter.unusedSectionVars false
set_option linter.unusedSimpArgs false
set_option maxRecDepth 100000
section
variable [Val]
abbrev PT:=Int×(Int×Int)
def cm (a b:Int):Int:=cond (decide (a < b)) (-1) (cond (decide (b < a)) 1 0)
theorem cm_lt {a b:Int} (h:a < b):cm a b=-1:=by unfold cm; rw [decide_eq_true h]; rfl
theorem cm_gt {a b:Int} (h:b < a):cm a b=1:=by unfold cm; rw [decide_eq_false (by omega),decide_eq_true h]; rfl
theorem cm_eq (a:Int):cm a a=0:=by unfold cm; rw [decide_eq_false (by omega)]; rfl
theorem cm_cases (a b:Int):(a < b∧cm a b=-1)∨(a=b∧cm a b=0)∨(b < a∧cm a b=1):=by
 rcases Int.lt_trichotomy a b with h | h | h
 ·exact .inl ⟨h,cm_lt h⟩
 ·exact .inr (.inl ⟨h,by rw [h]; exact cm_eq b⟩)
 ·exact .inr (.inr ⟨h,cm_gt h⟩)
theorem F36_ok (a b:Int):F36 (a,b)=some (cm a b):=by
 rw [F36_eq]
 have e1:(a != a)=false:=by simp
 have e2:(b != b)=false:=by simp
 unfold cm
 simp -implicitDefEqProofs only [e1,e2,eq_self,xs]
 show cond (decide (a < b)) (some (-1)) (cond (decide (b < a)) (some 1) (some 0))=_
 cases decide (a < b)<;>cases decide (b < a)<;>rfl
theorem F47_ok (a b:Int):F47 (a,b)=some (cm a b):=by
 rw [F47_eq]
 have e1:(a != a)=false:=by simp
 have e2:(b != b)=false:=by simp
 unfold cm
 simp -implicitDefEqProofs only [e1,e2,eq_self,xs]
 show cond (decide (a < b)) (some (-1)) (cond (decide (b < a)) (some 1) (some 0))=_
 cases decide (a < b)<;>cases decide (b < a)<;>rfl
theorem F46_ok (x y z:Int):F46 [x,y,z]=some (if x=0 then (if y=0 then z else y) else x):=by
 have h0:(0:Int)≤0:=by omega
 have a0:decide ((0:Int) < (([x,y,z].length:Nat):Int))=true:=by rfl
 have a1:decide ((1:Int) < (([x,y,z].length:Nat):Int))=true:=by rfl
 have a2:decide ((2:Int) < (([x,y,z].length:Nat):Int))=true:=by rfl
 have a3:decide ((3:Int) < (([x,y,z].length:Nat):Int))=false:=by rfl
 have w0:IntKind.wrap .i64 ((0:Int)+1)=1:=by rfl
 have w1':IntKind.wrap .i64 ((1:Int)+1)=2:=by rfl
 have w2:IntKind.wrap .i64 ((2:Int)+1)=3:=by rfl
 have g0:[x,y,z][(0:Int).toNat]?=some x:=rfl
 have g1:[x,y,z][(1:Int).toNat]?=some y:=rfl
 have g2:[x,y,z][(2:Int).toNat]?=some z:=rfl
 have n0:decide ((0:Int)≤0)=true:=rfl
 have n1:decide ((0:Int)≤1)=true:=rfl
 have n2:decide ((0:Int)≤2)=true:=rfl
 rw [F46_eq,loopX_eq]
 simp only [a0,g0,n0,w0,cond_true,Option.bind_some]
 by_cases hx:x=0
 ·subst hx
  simp only [bne_self_eq_false,cond_false,if_true]
  rw [loopX_eq]
  simp only [a1,g1,n1,w1',cond_true,Option.bind_some]
  by_cases hy:y=0
  ·subst hy
   simp only [bne_self_eq_false,cond_false,if_true]
   rw [loopX_eq]
   simp only [a2,g2,n2,w2,cond_true,Option.bind_some]
   by_cases hz:z=0
   ·subst hz
    simp only [bne_self_eq_false,cond_false]
    rw [loopX_eq]
    simp only [a3,cond_false]
   ·have e:(z != 0)=true:=by simpa using hz
    simp only [e,cond_true]
  ·have e:(y != 0)=true:=by simpa using hy
   simp only [e,cond_true,if_neg hy]
 ·have e:(x != 0)=true:=by simpa using hx
  simp only [e,cond_true,if_neg hx]
def cmpP (a b:PT):Int:=if cm a.1 b.1=0 then (if cm a.2.1 b.2.1=0 then cm a.2.2 b.2.2 else cm a.2.1 b.2.1) else cm a.1 b.1
theorem F33_ok (a b:PT):F33 (a,b)=some (cmpP a b):=by
 rw [F33_eq]
 have h1:=F36_ok a.1 b.1
 have h2:=F47_ok a.2.1 b.2.1
 have h3:=F47_ok a.2.2 b.2.2
 have h4:=F46_ok (cm a.1 b.1) (cm a.2.1 b.2.1) (cm a.2.2 b.2.2)
 simp -implicitDefEqProofs only [h1,h2,h3,h4,eq_self,xs]
 rfl
def ltP (a b:PT):Bool:=decide (a.1 < b.1) || (decide (a.1=b.1)&&(decide (a.2.1 < b.2.1) || (decide (a.2.1=b.2.1)&&decide (a.2.2 < b.2.2))))
theorem ltP_iff {a b:PT}:ltP a b=true ↔ a.1 < b.1∨(a.1=b.1∧(a.2.1 < b.2.1∨(a.2.1=b.2.1∧a.2.2 < b.2.2))):=by
 simp [ltP]
theorem cmpP_lt (a b:PT):decide (cmpP a b < 0)=ltP a b:=by
 rw [Bool.eq_iff_iff,decide_eq_true_iff,ltP_iff]
 unfold cmpP
 rcases cm_cases a.1 b.1 with ⟨h1,e1⟩ | ⟨h1,e1⟩ | ⟨h1,e1⟩<;>rcases cm_cases a.2.1 b.2.1 with ⟨h2,e2⟩ | ⟨h2,e2⟩ | ⟨h2,e2⟩<;>rcases cm_cases a.2.2 b.2.2 with ⟨h3,e3⟩ | ⟨h3,e3⟩ | ⟨h3,e3⟩<;>rw [e1,e2,e3]<;>simp<;>omega
theorem cmpP_ge (a b:PT):decide (cmpP a b ≥ 0)=!ltP a b:=by
 rw [← cmpP_lt,Bool.eq_iff_iff,Bool.not_eq_true',decide_eq_true_iff,decide_eq_false_iff_not]; omega
def ptO:KOrd PT:=⟨ltP,fun a=>by rw [Bool.eq_false_iff]; intro h; rw [ltP_iff] at h; omega,fun a b c h k=>by rw [ltP_iff] at *; omega,fun a b=>by
 obtain ⟨a1,a2,a3⟩:=a
 obtain ⟨b1,b2,b3⟩:=b
 rw [ltP_iff,ltP_iff]
 simp only [Prod.mk.injEq]
 omega⟩
theorem ltP_trans {a b c:PT} (h:ltP a b=true) (k:ltP b c=true):ltP a c=true:=ptO.trn _ _ _ h k
end
end Go.Proofs.YtbgnmndgpaaidaaDoor.VL
end
section
namespace Go.Proofs.YtbgnmndgpaaidaaDoor.VL
open Go
set_option linter.unusedVariables false
set_option linter.unusedSectionVars false
set_option linter.unusedSimpArgs false
set_option maxRecDepth 100000
variable [Val]
theorem wrapU (x:Int):IntKind.wrap .u64 x=x % 18446744073709551616:=by rw [IntKind.wrap_u64]
theorem u_range (x:Int):0≤IntKind.wrap .u64 x∧IntKind.wrap .u64 x≤18446744073709551615:=by rw [wrapU]; omega
theorem ul_get {s:ByteArray} {i:Nat} (h:i < s.size):s[(Int.toNat (i:Int))]?=some (s.toList[i]'(by rw [toList_len]; exact h)):=by
 rw [ba_get h]
 congr 1
 have h1:i < s.data.size:=h
 have:s.get! i=s.data[i]:=by
  show s.data[i]! = _
  rw [getElem!_pos s.data i h1]
 rw [this]
 have h2:=toList_data s
 have h3:∀ (l:List UInt8) (e:l=s.data.toList) (hi:i < l.length),s.data[i]=l[i]:=by
  intro l e hi; subst e; simp
 exact h3 _ h2 _
def stepF (h:Int) (c:UInt8):Int:=IntKind.wrap .u64 (IntKind.wrap .u64 (((BitVec.ofInt 64 h).xor (BitVec.ofInt 64 (IntKind.wrap .u64 ((c.toNat:Nat):Int)))).toNat:Nat) * 1099511628211)
def onL (h:Int) (l:List UInt8):Int:=l.foldl stepF h
def onF (h:Int) (s:ByteArray):Int:=onL h s.toList
theorem onL_snoc (h:Int) (l:List UInt8) (c:UInt8):onL h (l++[c])=stepF (onL h l) c:=by unfold onL; rw [List.foldl_append]; rfl
theorem onL_range {h:Int} (hh:0≤h∧h≤18446744073709551615):∀ l:List UInt8,0≤onL h l∧onL h l≤18446744073709551615:=by
 intro l
 induction l generalizing h with
 | nil=>exact hh
 | cons c r ih=>exact ih (u_range _)
theorem F42_ok (h:Int) {s:ByteArray} (hs:s.size≤9223372036854775806):F42 (h,s)=some (onF h s):=by
 rw [F42_eq]
 have hl:=toList_len s
 rw [loop_detE (s0:=(h,(0:Int))) s.size (fun i=>(onL h (s.toList.take i),((i:Nat):Int))) (onF h s) rfl]
 ·have q:¬ ((s.size:Nat):Int) < ((s.size:Nat):Int):=by omega
  simp -implicitDefEqProofs only [q,eq_self,xs]
  rw [List.take_of_length_le (by omega)]
  rfl
 ·intro i hi
  have q1:((i:Nat):Int) < ((s.size:Nat):Int):=by omega
  have q2:(0:Int)≤(i:Int):=by omega
  have e:onL h (s.toList.take (i+1))=stepF (onL h (s.toList.take i)) (s.toList[i]'(by omega)):=by
   rw [List.take_succ_eq_append_getElem (by omega),onL_snoc]
  have g:=ul_get hi
  rw [Int.toNat_natCast] at g
  simp -implicitDefEqProofs only [q1,q2,g,w1 (show i≤9223372036854775806 by omega),eq_self,xs]
  rw [e]
  rfl
theorem F49_ok {n:Int} (h:0≤n∧n≤18446744073709551615):F49 n=some (IntKind.wrap .u64 (n * 1099511628211)):=by
 rw [F49_eq]
 rw [loop_detE (s0:=(IntKind.wrap .u64 (n * 1099511627776),(0:Int))) 435 (fun i=>(IntKind.wrap .u64 (n * 1099511627776+(i:Int) * n),((i:Nat):Int))) (IntKind.wrap .u64 (n * 1099511628211)) (by simp)]
 ·have q:¬ ((435:Nat):Int) < 435:=by omega
  have e:n * 1099511627776+((435:Nat):Int) * n=n * 1099511628211:=by omega
  simp -implicitDefEqProofs only [q,e,eq_self,xs]
 ·intro i hi
  have q:((i:Nat):Int) < 435:=by omega
  have e:IntKind.wrap .u64 (IntKind.wrap .u64 (n * 1099511627776+(i:Int) * n)+n)=IntKind.wrap .u64 (n * 1099511627776+((i+1:Nat):Int) * n):=by
   have e1:((i+1:Nat):Int) * n=(i:Int) * n+n:=by rw [Int.natCast_add,Int.add_mul]; simp
   rw [e1]
   generalize (i:Int) * n=x
   rw [wrapU,wrapU,wrapU]; omega
  simp -implicitDefEqProofs only [q,e,w1 (show i≤9223372036854775806 by omega),eq_self,xs]
theorem F37_ok (h:Int) {s:ByteArray} (hs:s.size≤9223372036854775806):F37 (h,s)=some (onF h s):=by
 rw [F37_eq]
 have hl:=toList_len s
 rw [loop_detE (s0:=(h,(0:Int))) s.size (fun i=>(onL h (s.toList.take i),((i:Nat):Int))) (onF h s) rfl]
 ·have q:¬ ((s.size:Nat):Int) < ((s.size:Nat):Int):=by omega
  simp -implicitDefEqProofs only [q,eq_self,xs]
  rw [List.take_of_length_le (by omega)]
  rfl
 ·intro i hi
  have q1:((i:Nat):Int) < ((s.size:Nat):Int):=by omega
  have q2:(0:Int)≤(i:Int):=by omega
  have e:onL h (s.toList.take (i+1))=stepF (onL h (s.toList.take i)) (s.toList[i]'(by omega)):=by
   rw [List.take_succ_eq_append_getElem (by omega),onL_snoc]
  have g:=ul_get hi
  rw [Int.toNat_natCast] at g
  have f:=F49_ok (u_range (((BitVec.ofInt 64 (onL h (s.toList.take i))).xor (BitVec.ofInt 64 (IntKind.wrap .u64 (((s.toList[i]'(by omega)).toNat:Nat):Int)))).toNat:Nat))
  simp -implicitDefEqProofs only [q1,q2,g,f,w1 (show i≤9223372036854775806 by omega),eq_self,xs]
  rw [e]
  rfl
abbrev fst0:Int:=14695981039346656037
theorem F30_ok {l:List ByteArray} (hl:l.length≤9223372036854775806) (hs:∀ s ∈ l,s.size≤9223372036854775806):F30 l=some (l.foldl onF fst0):=by
 rw [F30_eq]
 rw [loop_detE (s0:=(fst0,(0:Int))) l.length (fun i=>((l.take i).foldl onF fst0,((i:Nat):Int))) (l.foldl onF fst0) rfl]
 ·have q:¬ ((l.length:Nat):Int) < ((l.length:Nat):Int):=by omega
  simp -implicitDefEqProofs only [q,List.take_length,eq_self,xs]
 ·intro i hi
  have q1:((i:Nat):Int) < ((l.length:Nat):Int):=by omega
  have q2:(0:Int)≤(i:Int):=by omega
  have g:=List.getElem?_eq_getElem hi
  have f:=F42_ok ((l.take i).foldl onF fst0) (hs _ (List.getElem_mem hi))
  simp -implicitDefEqProofs only [q1,q2,g,f,w1 (show i≤9223372036854775806 by omega),eq_self,xs]
  rw [List.take_succ_eq_append_getElem hi,List.foldl_append]
  rfl
def keyH (s:ByteArray):Int:=onF fst0 s
theorem keyH_range (s:ByteArray):0≤keyH s∧keyH s≤18446744073709551615:=onL_range (by decide) _
theorem F30_one {s:ByteArray} (hs:s.size≤9223372036854775806):F30 [s]=some (keyH s):=F30_ok (l:=[s]) (show 1≤9223372036854775806 by decide) (fun t ht=>by rw [List.mem_singleton] at ht; subst ht; exact hs)
theorem ba_nil (s:ByteArray):ByteArray.mk #[]++s=s:=by
 apply toList_inj
 rw [toList_data,toList_data]
 simp [ByteArray.data_append]
theorem F18_one {s:ByteArray} (hs:s.size≤4611686018427387904):F18 [s]=some (keyH s):=by
 rw [F18_eq]
 have f:=F37_ok fst0 (show s.size≤9223372036854775806 by omega)
 rw [loop_detE (s0:=(ByteArray.mk #[],(0:Int))) 1 (fun i=>match i with | 0=>(ByteArray.mk #[],0) | _=>(s,1)) (keyH s) rfl]
 ·have q:¬ (1:Int) < (([s].length:Nat):Int):=by simp
  simp -implicitDefEqProofs only [q,f,eq_self,xs]
  rfl
 ·intro i hi
  obtain rfl:i=0:=by omega
  have q:(0:Int) < (([s].length:Nat):Int):=by simp
  have q2:(0:Int)≤(0:Int):=by decide
  have g:[s][(0:Nat)]?=some s:=rfl
  have g':[s][(Int.toNat (0:Int))]?=some s:=rfl
  have z:(ByteArray.mk #[]).size+s.size≤4611686018427387904:=by rw [show (ByteArray.mk #[]).size=0 from rfl]; omega
  have ww:IntKind.wrap .i64 ((0:Int)+1)=1:=by rfl
  have q0:(0:Int) < ((1:Nat):Int):=by decide
  simp -implicitDefEqProofs only [q,q0,q2,g,g',z,ww,ba_nil,eq_self,xs]
end Go.Proofs.YtbgnmndgpaaidaaDoor.VL
end
section
namespace Go.Proofs.YtbgnmndgpaaidaaDoor.VL
open Go
set_option linter.unusedVariables false
set_option linter.unusedSectionVars false
set_option linter.unusedSimpArgs false
set_option maxRecDepth 100000
variable [Val]
def rngB (x:Int):Bool:=decide (0≤x)&&decide (x < 64)
theorem rngB_iff {x:Int}:rngB x=true ↔ 0≤x∧x < 64:=by simp [rngB]
theorem get!_of {l:List Int} {i:Nat} (h:i < l.length):l[i]! = l[i]:=getElem!_pos l i h
def nodP (l:List Int):Prop:=(∀ x ∈ l,0≤x∧x < 64)∧l.Pairwise (· < ·)
end Go.Proofs.YtbgnmndgpaaidaaDoor.VL
end
section
namespace Go.Proofs.YtbgnmndgpaaidaaDoor.VL
open Go
set_option linter.unusedVariables false
set_option linter.unusedSectionVars false
set_option linter.unusedSimpArgs false
set_option maxRecDepth 100000
variable [Val]
theorem pw_adj {α:Type} {R:α→α→Prop} (tr:∀ a b c,R a b→R b c→R a c) {l:List α}:(∀ (i:Nat) (h:i+1 < l.length),R (l[i]'(by omega)) l[i+1]) ↔ l.Pairwise R:=by
 constructor
 ·intro h3
  rw [List.pairwise_iff_getElem]
  have key:∀ (d i:Nat) (hi:i+d+1 < l.length),R (l[i]'(by omega)) l[i+d+1]:=by
   intro d
   induction d with
   | zero=>intro i hi; exact h3 i hi
   | succ d ih =>
    intro i hi
    exact tr _ _ _ (ih i (by omega)) (h3 (i+d+1) hi)
  intro i j hi hj hij
  have:=key (j - i - 1) i (by omega)
  have e:i+(j - i - 1)+1=j:=by omega
  simpa only [e] using this
 ·intro h i hi
  rw [List.pairwise_iff_getElem] at h
  exact h i (i+1) (by omega) hi (by omega)
def sP (l:List PT):Prop:=l.Pairwise (fun a b=>ltP a b=true)
def okP (l:List PT):Prop:=l.length≤2048∧(∀ p ∈ l,0≤p.2.1∧p.2.1 < 64)∧sP l
def okA (l:List PT) (i:Nat):Bool:=match l[i]? with
 | some p=>rngB p.2.1&&(decide (i=0) || (match l[i - 1]? with | some q=>ltP q p | none=>false))
 | none=>true
theorem okA_iff {l:List PT}:(List.range l.length).all (okA l)=true ↔ (∀ p ∈ l,0≤p.2.1∧p.2.1 < 64)∧sP l:=by
 rw [List.all_eq_true]
 have h':(∀ i ∈ List.range l.length,okA l i=true) ↔ ∀ (i:Nat) (hi:i < l.length),rngB l[i].2.1=true∧(i=0∨ltP (l[i - 1]'(by omega)) l[i]=true):=by
  constructor
  ·intro h i hi
   have:=h i (List.mem_range.2 hi)
   unfold okA at this
   rw [List.getElem?_eq_getElem hi,List.getElem?_eq_getElem (show i - 1 < l.length by omega)] at this
   simpa only [Bool.and_eq_true,Bool.or_eq_true,decide_eq_true_iff] using this
  ·intro h i hi
   have hi:=List.mem_range.1 hi
   have:=h i hi
   unfold okA
   rw [List.getElem?_eq_getElem hi,List.getElem?_eq_getElem (show i - 1 < l.length by omega)]
   simpa only [Bool.and_eq_true,Bool.or_eq_true,decide_eq_true_iff] using this
 rw [h']
 constructor
 ·intro h
  refine ⟨fun p hp=>?_,?_⟩
  ·obtain ⟨i,hi,rfl⟩:=List.getElem_of_mem hp
   exact rngB_iff.1 (h i hi).1
  ·refine (pw_adj (R:=fun a b=>ltP a b=true) (fun a b c=>ltP_trans)).1 fun i hi=>?_
   rcases (h (i+1) hi).2 with q | q
   ·omega
   ·exact q
 ·rintro ⟨h1,h2⟩ i hi
  refine ⟨rngB_iff.2 (h1 _ (List.getElem_mem hi)),?_⟩
  by_cases h0:i=0
  ·exact .inl h0
  ·right
   have:=(pw_adj (R:=fun a b=>ltP a b=true) (fun a b c=>ltP_trans)).2 h2 (i - 1) (by omega)
   have e:i - 1+1=i:=by omega
   simpa only [e] using this
open Classical in
theorem F13_ok {l:List PT} (hl:l.length≤9223372036854775806):F13 l=some (if okP l then 0 else 1):=by
 rw [F13_eq]
 by_cases hlen:l.length≤2048
 ·have q0:¬ ((l.length:Nat):Int) > 2048:=by omega
  rw [decide_eq_false q0,cond_false]
  rw [loop_all (n:=l.length) (okA l) (1:Int) 0]
  ·congr 1
   by_cases h:(List.range l.length).all (okA l)=true
   ·rw [if_pos h,if_pos ⟨hlen,okA_iff.1 h⟩]
   ·rw [if_neg h,if_neg (fun q=>h (okA_iff.2 q.2))]
  ·have q:¬ ((l.length:Nat):Int) < ((l.length:Nat):Int):=by omega
   simp -implicitDefEqProofs only [q,eq_self,xs]
  ·intro i hi _
   have q1:((i:Nat):Int) < ((l.length:Nat):Int):=by omega
   have q2:(0:Int)≤(i:Int):=by omega
   have g:=List.getElem?_eq_getElem hi
   by_cases h0:l[i].2.1 < 0
   ·have e:rngB l[i].2.1=false:=by rw [Bool.eq_false_iff]; intro h; rw [rngB_iff] at h; omega
    have e':okA l i=false:=by unfold okA; rw [g]; simp only [e,Bool.false_and]
    rw [e']
    simp -implicitDefEqProofs only [q1,q2,g,h0,eq_self,xs]
   by_cases h1:l[i].2.1 ≥ 64
   ·have e:rngB l[i].2.1=false:=by rw [Bool.eq_false_iff]; intro h; rw [rngB_iff] at h; omega
    have e':okA l i=false:=by unfold okA; rw [g]; simp only [e,Bool.false_and]
    rw [e']
    simp -implicitDefEqProofs only [q1,q2,g,h0,h1,eq_self,xs]
   have e:rngB l[i].2.1=true:=rngB_iff.2 (by omega)
   by_cases hi0:i=0
   ·subst hi0
    have e':okA l 0=true:=by unfold okA; rw [g]; simp only [e,decide_true,Bool.true_or,Bool.and_self]
    rw [e']
    have q3:¬ ((0:Nat):Int) > 0:=by omega
    simp -implicitDefEqProofs only [q1,q2,q3,g,h0,h1,w1 (show 0≤9223372036854775806 by omega),eq_self,xs]
   ·obtain ⟨k,rfl⟩:∃ k,i=k+1:=⟨i - 1,by omega⟩
    have gk:=List.getElem?_eq_getElem (show k < l.length by omega)
    have e':okA l (k+1)=ltP l[k] l[k+1]:=by
     unfold okA
     rw [g]
     have e1:decide (k+1=0)=false:=decide_eq_false (by omega)
     have e2:k+1 - 1=k:=rfl
     simp only [e,e1,e2,gk,Bool.false_or,Bool.true_and]
    rw [e']
    have q3:((k+1:Nat):Int) > 0:=by omega
    have ww:IntKind.wrap .i64 (((k+1:Nat):Int) - 1)=((k:Nat):Int):=by rw [wi (by omega) (by omega)]; omega
    have q4:(0:Int)≤(k:Int):=by omega
    have f:=F33_ok l[k] l[k+1]
    have t:Int.toNat ((k+1:Nat):Int)=k+1:=Int.toNat_natCast _
    have c:=cmpP_ge l[k] l[k+1]
    have ww2:=w1 (show k+1≤9223372036854775806 by omega)
    cases hc:ltP l[k] l[k+1]
    ·rw [hc] at c
     simp -implicitDefEqProofs only [q1,q2,q3,q4,ww,t,g,gk,h0,h1,f,c,eq_self,xs]
    ·rw [hc] at c
     simp -implicitDefEqProofs only [q1,q2,q3,q4,ww,t,g,gk,h0,h1,f,c,ww2,eq_self,xs]
 ·have q0:((l.length:Nat):Int) > 2048:=by omega
  rw [decide_eq_true q0,cond_true,if_neg (fun h=>hlen h.1)]
def hP (l:List PT):Prop:=l.Pairwise (fun a b=>a.1≤b.1)
theorem sP.hP {l:List PT} (h:sP l):hP l:=h.imp fun q=>by rw [ltP_iff] at q; omega
def lb (l:List PT) (k:Int):Nat:=l.countP fun p=>decide (p.1 < k)
theorem lb_le (l:List PT) (k:Int):lb l k≤l.length:=List.countP_le_length
theorem lb_all {l:List PT} (h:hP l) (k:Int):(∀ (i:Nat) (hi:i < l.length),l[i].1 < k ↔ i < lb l k)∧l.take (lb l k)=l.filter (fun p=>decide (p.1 < k))∧l.drop (lb l k)=l.filter (fun p=>!decide (p.1 < k)):=by
 induction l with
 | nil=>exact ⟨fun i hi=>by simp at hi,rfl,rfl⟩
 | cons a r ih =>
  obtain ⟨h1,h2⟩:=List.pairwise_cons.1 h
  obtain ⟨i1,i2,i3⟩:=ih h2
  by_cases ha:a.1 < k
  ·have e:lb (a::r) k=lb r k+1:=by unfold lb; rw [List.countP_cons_of_pos (by simpa using ha)]
   rw [e]
   refine ⟨fun i hi=>?_,?_,?_⟩
   ·cases i with
    | zero=>simp [ha]
    | succ i =>
     have:=i1 i (by simpa using hi)
     simp only [List.getElem_cons_succ]
     omega
   ·rw [List.take_succ_cons,i2,List.filter_cons_of_pos (by simpa using ha)]
   ·rw [List.drop_succ_cons,i3,List.filter_cons_of_neg (by simpa using ha)]
  ·have hall:∀ b ∈ a::r,¬ b.1 < k:=by
    intro b hb
    rcases List.mem_cons.1 hb with rfl | hb
    ·exact ha
    ·have:=h1 b hb; omega
   have e:lb (a::r) k=0:=by
    unfold lb
    rw [List.countP_eq_zero]
    intro b hb
    simpa using hall b hb
   rw [e]
   refine ⟨fun i hi=>?_,?_,?_⟩
   ·have:=hall _ (List.getElem_mem hi)
    omega
   ·rw [List.take_zero]
    symm
    rw [List.filter_eq_nil_iff]
    intro b hb; simpa using hall b hb
   ·rw [List.drop_zero]
    symm
    rw [List.filter_eq_self]
    intro b hb; simpa using hall b hb
open Classical in
theorem F14_ok {l:List PT} {key:ByteArray} (hl:l.length≤9223372036854775806) (hk:key.size≤9223372036854775806):F14 (l,key)=some (if okP l then (if l=[] then (0,6) else (((lb l (keyH key) % l.length:Nat):Int),0)) else (0,1)):=by
 rw [F14_eq]
 have f13:=F13_ok hl
 have f30:=F30_one hk
 by_cases hok:okP l
 ·rw [if_pos hok] at f13 ⊢
  by_cases he:l=[]
  ·subst he
   simp -implicitDefEqProofs only [f13,nz0,eq_self,xs]
   rfl
  rw [if_neg he]
  have hpos:0 < l.length:=List.length_pos_iff.2 he
  have hlen:=hok.1
  have hb:=lb_all hok.2.2.hP (keyH key)
  have hle:=lb_le l (keyH key)
  have en:(((l.length:Nat):Int)==0)=false:=by rw [beq_eq_false_iff_ne]; omega
  simp -implicitDefEqProofs only [f13,nz0,en,f30,eq_self,xs]
  rw [loopX_spec (ρ:=Int) (fun s:Int×Int=>0≤s.1∧s.1≤lb l (keyH key)∧(lb l (keyH key):Int)≤s.2∧s.2≤l.length) (fun s=>(s.2 - s.1).toNat) (fun s=>((lb l (keyH key):Nat):Int)) ?_ (0,((l.length:Nat):Int)) ⟨by omega,by omega,by omega,by omega⟩]
  rotate_left
  ·rintro ⟨i,j⟩ ⟨h1,h2,h3,h4⟩
   simp only at h1 h2 h3 h4
   obtain ⟨i,rfl⟩:∃ n:Nat,i=n:=⟨i.toNat,by omega⟩
   obtain ⟨j,rfl⟩:∃ n:Nat,j=n:=⟨j.toNat,by omega⟩
   by_cases hij:i < j
   ·right
    have q1:((i:Nat):Int) < ((j:Nat):Int):=by omega
    have hm:=mid (i:=i) (j:=j) (by omega)
    have q2:(0:Int)≤(((i+j) / 2:Nat):Int):=by omega
    have hlt:(i+j) / 2 < l.length:=by omega
    have g:=List.getElem?_eq_getElem hlt
    have f:=F36_ok l[(i+j) / 2].1 (keyH key)
    have hi:=hb.1 ((i+j) / 2) hlt
    by_cases hc:l[(i+j) / 2].1 < keyH key
    ·have c:decide (cm l[(i+j) / 2].1 (keyH key) < 0)=true:=by rw [cm_lt hc]; rfl
     have ww:=w1 (show (i+j) / 2≤9223372036854775806 by omega)
     have t:Int.toNat (((i+j) / 2:Nat):Int)=(i+j) / 2:=Int.toNat_natCast _
     refine ⟨((((i+j) / 2+1:Nat):Int),((j:Nat):Int)),?_,⟨by omega,by omega,by omega,by omega⟩,by omega,rfl⟩
     simp -implicitDefEqProofs only [q1,hm,q2,t,g,f,c,ww,eq_self,xs]
    ·have c:decide (cm l[(i+j) / 2].1 (keyH key) < 0)=false:=by
      rcases cm_cases l[(i+j) / 2].1 (keyH key) with ⟨x,_⟩ | ⟨_,x⟩ | ⟨_,x⟩
      ·exact absurd x hc
      ·rw [x]; rfl
      ·rw [x]; rfl
     have t:Int.toNat (((i+j) / 2:Nat):Int)=(i+j) / 2:=Int.toNat_natCast _
     refine ⟨(((i:Nat):Int),(((i+j) / 2:Nat):Int)),?_,⟨by omega,by omega,by omega,by omega⟩,by omega,rfl⟩
     simp -implicitDefEqProofs only [q1,hm,q2,t,g,f,c,eq_self,xs]
   ·left
    have q1:¬ ((i:Nat):Int) < ((j:Nat):Int):=by omega
    have e:lb l (keyH key)=i:=by omega
    simp -implicitDefEqProofs only [q1,e,eq_self,xs]
  have nz:¬ (((l.length:Nat):Int)=0):=by omega
  have em:Int.tmod ((lb l (keyH key):Nat):Int) ((l.length:Nat):Int)=((lb l (keyH key) % l.length:Nat):Int):=by
   rw [Int.tmod_eq_emod_of_nonneg (by omega)]; rfl
  by_cases hlt:lb l (keyH key) < l.length
  ·have q1:((lb l (keyH key):Nat):Int) < ((l.length:Nat):Int):=by omega
   have q2:(0:Int)≤((lb l (keyH key):Nat):Int):=by omega
   have g:=List.getElem?_eq_getElem hlt
   have f:=F36_ok l[lb l (keyH key)].1 (keyH key)
   simp -implicitDefEqProofs only [q1,q2,g,f,nz,em,eq_self,xs]
  ·have q1:¬ ((lb l (keyH key):Nat):Int) < ((l.length:Nat):Int):=by omega
   simp -implicitDefEqProofs only [q1,nz,em,eq_self,xs]
 ·rw [if_neg hok] at f13 ⊢
  simp -implicitDefEqProofs only [f13,nz1,eq_self,xs]
end Go.Proofs.YtbgnmndgpaaidaaDoor.VL
end
section
namespace Go.Proofs.YtbgnmndgpaaidaaDoor.VL
open Go
set_option linter.unusedVariables false
set_option linter.unusedSectionVars false
set_option linter.unusedSimpArgs false
set_option maxRecDepth 100000
variable [Val]
theorem sP.filter {l:List PT} (h:sP l) (p:PT→Bool):sP (l.filter p):=List.Pairwise.filter p h
theorem nodP.filter {l:List Int} (h:nodP l) (p:Int→Bool):nodP (l.filter p):=⟨fun x hx=>h.1 x (List.mem_filter.1 hx).1,List.Pairwise.filter p h.2⟩
def own (l:List PT) (k:Int):Int:=(l[lb l k % l.length]!).2.1
theorem F17_ok (s:ByteArray):∃ t,F17 s=some t∧t.size≤300:=by
 rw [F17_eq]
 by_cases h:s.size≤300
 ·have q:¬ ((s.size:Nat):Int) > 300:=by omega
  exact ⟨s,by simp -implicitDefEqProofs only [q,eq_self,xs],h⟩
 ·have q:((s.size:Nat):Int) > 300:=by omega
  have q2:(300:Int)≤((s.size:Nat):Int):=by omega
  refine ⟨s.extract 0 300,by simp -implicitDefEqProofs only [q,q2,eq_self,xs],?_⟩
  rw [ByteArray.size_extract]; omega
end Go.Proofs.YtbgnmndgpaaidaaDoor.VL
end
section
namespace Go.Proofs.YtbgnmndgpaaidaaDoor.VL
open Go
set_option linter.unusedVariables false
set_option linter.unusedSectionVars false
set_option linter.unusedSimpArgs false
set_option maxRecDepth 100000
variable [Val]
theorem F16_ok (l:List PT):∃ t:List PT,F16 l=some t∧t.length≤2049∧∀ p ∈ t,p ∈ l:=by
 rw [F16_eq]
 by_cases h1:l.length > 60
 ·have q1:((l.length:Nat):Int) > 60:=by omega
  have q2:(60:Int)≤((l.length:Nat):Int):=by omega
  by_cases h2:l.length≤2048
  ·have q3:((l.length:Nat):Int)≤2048:=by omega
   exact ⟨l.take 60,by simp -implicitDefEqProofs only [q1,q2,q3,eq_self,xs],by rw [List.length_take]; omega,fun p hp=>List.mem_of_mem_take hp⟩
  ·have q3:¬ ((l.length:Nat):Int)≤2048:=by omega
   by_cases h3:l.length > 2049
   ·have q4:((l.length:Nat):Int) > 2049:=by omega
    have q5:(2049:Int)≤((l.length:Nat):Int):=by omega
    exact ⟨l.take 2049,by simp -implicitDefEqProofs only [q1,q2,q3,q4,q5,eq_self,xs],by rw [List.length_take]; omega,fun p hp=>List.mem_of_mem_take hp⟩
   ·have q4:¬ ((l.length:Nat):Int) > 2049:=by omega
    exact ⟨l,by simp -implicitDefEqProofs only [q1,q2,q3,q4,eq_self,xs],by omega,fun p hp=>hp⟩
 ·have q1:¬ ((l.length:Nat):Int) > 60:=by omega
  have q4:¬ ((l.length:Nat):Int) > 2049:=by omega
  exact ⟨l,by simp -implicitDefEqProofs only [q1,q4,eq_self,xs],by omega,fun p hp=>hp⟩
theorem F4_ok {l0:List PT} {key:ByteArray} (hh:∀ p ∈ l0,0≤p.1∧p.1≤18446744073709551615):F4 (l0,key)=some true:=by
 rw [F4_eq]
 obtain ⟨l,f16,hl,hm⟩:=F16_ok l0
 obtain ⟨t,f17,ht⟩:=F17_ok key
 have f14:=F14_ok (l:=l) (key:=t) (by omega) (by omega)
 have fa:F11 ()=some true:=rfl
 have n6:((6:Int) != 0)=true:=rfl
 have b0:((0:Int)==0)=true:=rfl
 by_cases hok:¬ okP l
 ·rw [if_neg hok] at f14
  simp -implicitDefEqProofs only [f16,f17,f14,nz1,b0,fa,eq_self,xs]
 have hok:okP l:=Classical.not_not.1 hok
 rw [if_pos hok] at f14
 by_cases he:l=[]
 ·rw [if_pos he] at f14
  simp -implicitDefEqProofs only [f16,f17,f14,n6,b0,fa,eq_self,xs]
 rw [if_neg he] at f14
 have hpos:0 < l.length:=List.length_pos_iff.2 he
 have f18:=F18_one (s:=t) (by omega)
 obtain ⟨hk0,hk1⟩:=keyH_range t
 have hb:=(lb_all hok.2.2.hP (keyH t)).1
 have hle:=lb_le l (keyH t)
 have hp:=hok.2.2.hP
 unfold hP at hp
 rw [List.pairwise_iff_getElem] at hp
 have hat:lb l (keyH t) % l.length < l.length:=Nat.mod_lt _ hpos
 have main:∀ (i:Nat) (hi:i < l.length),¬ IntKind.wrap .u64 (l[i].1 - keyH t) < IntKind.wrap .u64 ((l[lb l (keyH t) % l.length]).1 - keyH t):=by
  intro i hi
  obtain ⟨r1,r2⟩:=hh _ (hm _ (List.getElem_mem hi))
  obtain ⟨r3,r4⟩:=hh _ (hm _ (List.getElem_mem hat))
  rw [wrapU,wrapU]
  have c1:=hb i hi
  have c2:=hb _ hat
  by_cases hlt:lb l (keyH t) < l.length
  ·have e:lb l (keyH t) % l.length=lb l (keyH t):=Nat.mod_eq_of_lt hlt
   have c3:∀ (j:Nat) (hj:j < l.length),j=lb l (keyH t)→¬ l[j].1 < keyH t:=fun j hj hjj h=>by
    have:=(hb j hj).1 h; omega
   have c4:=c3 _ hat e
   by_cases hil:i < lb l (keyH t)
   ·have:=c1.2 hil
    omega
   ·have c5:¬ l[i].1 < keyH t:=fun h=>hil (c1.1 h)
    by_cases hie:i=lb l (keyH t) % l.length
    ·subst hie; omega
    ·have:=hp (lb l (keyH t) % l.length) i hat hi (by omega)
     omega
  ·have e:lb l (keyH t)=l.length:=by omega
   have e0:lb l (keyH t) % l.length=0:=by rw [e,Nat.mod_self]
   have c4:=c1.2 (by omega)
   have c5:=c2.2 (by omega)
   by_cases hie:i=lb l (keyH t) % l.length
   ·subst hie; omega
   ·have:=hp (lb l (keyH t) % l.length) i hat hi (by omega)
    omega
 generalize hL:lb l (keyH t) % l.length=m at *
 generalize keyH t=h at *
 have q0:¬ ((m:Nat):Int) < 0:=by omega
 have q1:¬ ((m:Nat):Int) ≥ ((l.length:Nat):Int):=by omega
 simp -implicitDefEqProofs only [f16,f17,f14,nz0,q0,q1,f18,eq_self,xs]
 rw [loop_all (n:=l.length) (fun i=>true) false true]
 ·rw [if_pos (by rw [List.all_eq_true]; intro _ _; rfl)]
 ·have q:¬ ((l.length:Nat):Int) < ((l.length:Nat):Int):=by omega
  simp -implicitDefEqProofs only [q,fa,eq_self,xs]
 ·intro i hi _
  have q2:((i:Nat):Int) < ((l.length:Nat):Int):=by omega
  have q3:(0:Int)≤(i:Int):=by omega
  have q4:(0:Int)≤(m:Int):=by omega
  have g:=List.getElem?_eq_getElem hi
  have g2:=List.getElem?_eq_getElem hat
  have mm:=main i hi
  have w:=w1 (show i≤9223372036854775806 by omega)
  simp -implicitDefEqProofs only [q2,q3,q4,g,g2,mm,w,eq_self,xs]
end Go.Proofs.YtbgnmndgpaaidaaDoor.VL
end
