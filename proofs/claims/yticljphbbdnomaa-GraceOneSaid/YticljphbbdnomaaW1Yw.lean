import Derived.Test.YticljphbbdnomaaW1Ta
import Derived.Test.YticljphbbdnomaaW1Ya
import Derived.Test.YticljphbbdnomaaW1Vx
section
namespace Go.Proofs.Yticljphbbdnomaa.VL
open Go
set_option maxRecDepth 100000
set_option linter.unusedSectionVars false
variable [Val]
def clones:List (Nat×Nat×Nat×PV):=[(46,4,48,.agg [vi 0,vu 0,vi 0,.sl true []]),(47,1,8,vi 0)]
theorem clones_ok:CalleeOk Try.prog (cloneOv clones):=cloneOv_ok hm (l:=clones) ⟨fi46,fi47,trivial⟩
abbrev run:=runF (cloneOv clones) [12,13] tab 1000 50
theorem awake_run:run 11 []=.ok (vb true):=by kernel_rfl
theorem awake_ok:VPure Try.prog 11 [] (vb true):=vpure_run hm clones_ok [12,13] tab_ok 1000 50 awake_run
def F11:Unit→Option Bool:=fun _=>some true
def pe11:PE:=⟨11,.no,.v .b,F11⟩
theorem pe11_ok:pe11.ok Try.prog:=⟨rfl,rfl,rfl,rfl,rfl,fun v y h=>by cases h; exact awake_ok⟩
end Go.Proofs.Yticljphbbdnomaa.VL
end
section
namespace Go.Proofs.Yticljphbbdnomaa.VL
open Go
set_option maxRecDepth 100000
set_option linter.unusedVariables false
set_option linter.unusedSectionVars false
variable [Val]
noncomputable section
abbrev tza1:TT:=(.p (.i .i64) (.p (.i .u64) (.p (.i .i64) (.sl (.i .i64)))))

abbrev xi (n:Nat) (o:IOp):XO:=⟨⟨some n,o,none⟩,.b,[],[]⟩
abbrev xg (n:Nat) (o:IOp) (m:Nat) (b:Bool):XO:=⟨⟨some n,o,some (m,b)⟩,.b,[],[]⟩
abbrev xz (o:IOp):XO:=⟨⟨none,o,none⟩,.b,[],[]⟩
abbrev xm (n k:Nat):XO:=xi n (.mov (.t k))
def xf27:FX:=⟨(.seq (.reg [(xi 6 (.mov (.c (.v (.bool false)))))]) (.seq (.reg [(xm 7 0),(xm 8 1),(xi 9 (.bin .geq (.t 7) (.t 8))),(xm 10 9),(xg 11 (.mov (.t 0)) 10 true),(xg 12 (.mov (.t 2)) 10 true),(xg 13 (.bin .leq (.t 11) (.t 12)) 10 true),(xi 14 (.pick (.t 10) (.t 13) (.c (.v (.bool false))))),(xm 6 14)]) .ret)),[],15,[.t 6],1⟩
theorem xf27_ok:xf27.ok Try.prog 27:=⟨_,_,Try.func27,rfl,by kernel_rfl,rfl,by kernel_rfl,rfl,by kernel_rfl,by kernel_rfl⟩
def tb27:List PE:=[]
theorem tb27_ok:PEsOk Try.prog tb27:=trivial
def ex27:List EX:=[]
theorem ex27_ok:EXsOk Try.prog ex27:=trivial
def in27:List IN:=[]
theorem in27_ok:INsOk Try.prog in27:=trivial
def F27:DT ((.co (.v (.i .i64)) (.co (.v (.i .i64)) (.co (.v (.i .i64)) .no))):Fm).den→Option (DT (.v .b:Fm).den):=pureT tb27 ex27 in27 0 xf27 _ _ []
def pe27:PE:=⟨27,(.co (.v (.i .i64)) (.co (.v (.i .i64)) (.co (.v (.i .i64)) .no))),.v .b,F27⟩
theorem pe27_ok:pe27.ok Try.prog:=pe_of hm tb27_ok ex27_ok in27_ok xf27_ok (by kernel_rfl) (fun _=>rfl)
def xf32:FX:=⟨(.seq (.reg [(xi 2 (.mov (.c (.v (.bool false)))))]) (.seq (.reg [(xm 3 0),(xi 4 (.call 0 27 [(.t 3),(.c (.v (.int .i64 0))),(.c (.v (.int .i64 63)))])),(xm 2 4)]) .ret)),[4],5,[.t 2],2⟩
theorem xf32_ok:xf32.ok Try.prog 32:=⟨_,_,Try.func32,rfl,by kernel_rfl,rfl,by kernel_rfl,rfl,by kernel_rfl,by kernel_rfl⟩
def tb32:List PE:=[pe27]
theorem tb32_ok:PEsOk Try.prog tb32:=⟨pe27_ok,trivial⟩
def ex32:List EX:=[]
theorem ex32_ok:EXsOk Try.prog ex32:=trivial
def in32:List IN:=[]
theorem in32_ok:INsOk Try.prog in32:=trivial
def F32:DT ((.co (.v (.i .i64)) .no):Fm).den→Option (DT (.v .b:Fm).den):=pureT tb32 ex32 in32 0 xf32 _ _ []
def pe32:PE:=⟨32,(.co (.v (.i .i64)) .no),.v .b,F32⟩
theorem pe32_ok:pe32.ok Try.prog:=pe_of hm tb32_ok ex32_ok in32_ok xf32_ok (by kernel_rfl) (fun _=>rfl)
def xf33:FX:=⟨(.seq (.reg [(xi 2 (.mov (.c (.v (.bool false)))))]) (.seq (.reg [(xm 3 0),(xi 4 (.bin .geq (.t 3) (.c (.v (.int .i64 0))))),(xm 5 4),(xg 6 (.mov (.t 0)) 5 true),(xg 7 (.bin .leq (.t 6) (.c (.v (.int .i64 1099511627776)))) 5 true),(xi 8 (.pick (.t 5) (.t 7) (.c (.v (.bool false))))),(xm 2 8)]) .ret)),[],9,[.t 2],1⟩
theorem xf33_ok:xf33.ok Try.prog 33:=⟨_,_,Try.func33,rfl,by kernel_rfl,rfl,by kernel_rfl,rfl,by kernel_rfl,by kernel_rfl⟩
def tb33:List PE:=[]
theorem tb33_ok:PEsOk Try.prog tb33:=trivial
def ex33:List EX:=[]
theorem ex33_ok:EXsOk Try.prog ex33:=trivial
def in33:List IN:=[]
theorem in33_ok:INsOk Try.prog in33:=trivial
def F33:DT ((.co (.v (.i .i64)) .no):Fm).den→Option (DT (.v .b:Fm).den):=pureT tb33 ex33 in33 0 xf33 _ _ []
def pe33:PE:=⟨33,(.co (.v (.i .i64)) .no),.v .b,F33⟩
theorem pe33_ok:pe33.ok Try.prog:=pe_of hm tb33_ok ex33_ok in33_ok xf33_ok (by kernel_rfl) (fun _=>rfl)
def xf37:FX:=⟨(.seq (.reg [(xi 2 (.mov (.c (.v (.bool false)))))]) (.seq (.seq (.reg [(xm 5 0),(xi 6 (.len (.t 5))),(xi 7 (.mov (.c (.v (.int .i64 0)))))]) (.blk 0 (.loop ⟨[2,3,4,7,8,9,10,11,12,13,14,15,16,17,18,19,20,21,22,23,24,25,26,27,28],[],⟨[],[(7,.v (.i .i64))],[]⟩⟩ (.seq (.reg [(xi 8 (.bin .lss (.t 7) (.t 6)))]) (.seq (.cond (.t 8) .skip (.exit 0)) (.seq (.cut ⟨[2,3,4,9,10,11,12,13,14,15,16,17,18,19,20,21,22,23,24,25,26,27],[],⟨[],[],[]⟩⟩ (.blk 1 (.seq (.reg [(xm 9 7),(xi 10 (.iad 1 (.t 5) (.t 7))),(xi 11 (.load false 1 (.t 10))),(xm 3 9),(xm 4 11)]) (.seq (.cutN ⟨[12,13,14,15,16,17,18,19,20,21,22,23,24,25,26,27],[],⟨[],[(27,.v .b)],[]⟩⟩ (.reg [(xm 12 4),(xi 13 (.call 0 32 [(.t 12)])),(xi 14 (.un .not (.t 13))),(xm 15 14),(xg 16 (.mov (.t 3)) 15 false),(xg 17 (.bin .gtr (.t 16) (.c (.v (.int .i64 0)))) 15 false),(xg 18 (.mov (.t 17)) 15 false),(xg 19 (.mov (.t 0)) 18 true),(xg 20 (.mov (.t 3)) 18 true),(xg 21 (.bin .sub (.t 20) (.c (.v (.int .i64 1)))) 18 true),(xg 22 (.iad 1 (.t 19) (.t 21)) 18 true),(xg 23 (.load false 1 (.t 22)) 18 true),(xg 24 (.mov (.t 4)) 18 true),(xg 25 (.bin .geq (.t 23) (.t 24)) 18 true),(xg 26 (.pick (.t 18) (.t 25) (.c (.v (.bool false)))) 15 false),(xi 27 (.pick (.t 15) (.c (.v (.bool true))) (.t 26)))])) (.cond (.t 27) (.seq (.reg [(xi 2 (.mov (.c (.v (.bool false)))))]) .ret) .skip))))) (.reg [(xi 28 (.bin .add (.t 7) (.c (.v (.int .i64 1))))),(xm 7 28)]))))))) (.seq (.reg [(xm 29 0),(xi 30 (.len (.t 29))),(xi 31 (.bin .gtr (.t 30) (.c (.v (.int .i64 0))))),(xm 2 31)]) .ret))),[13],32,[.t 2],2⟩
theorem xf37_ok:xf37.ok Try.prog 37:=⟨_,_,Try.func37,rfl,by kernel_rfl,rfl,by kernel_rfl,rfl,by kernel_rfl,by kernel_rfl⟩
def tb37:List PE:=[pe32]
theorem tb37_ok:PEsOk Try.prog tb37:=⟨pe32_ok,trivial⟩
def ex37:List EX:=[]
theorem ex37_ok:EXsOk Try.prog ex37:=trivial
def in37:List IN:=[]
theorem in37_ok:INsOk Try.prog in37:=trivial
def F37:DT ((.co (.v (.sl (.i .i64))) .no):Fm).den→Option (DT (.v .b:Fm).den):=pureT tb37 ex37 in37 0 xf37 _ _ []
def pe37:PE:=⟨37,(.co (.v (.sl (.i .i64))) .no),.v .b,F37⟩
theorem pe37_ok:pe37.ok Try.prog:=pe_of hm tb37_ok ex37_ok in37_ok xf37_ok (by kernel_rfl) (fun _=>rfl)
def xf14:FX:=⟨(.seq (.reg [(xi 2 (.mov (.c (.v (.int .i64 0)))))]) (.seq (.seq (.reg [(xm 5 0),(xi 6 (.len (.t 5))),(xi 7 (.mov (.c (.v (.int .i64 0)))))]) (.blk 0 (.loop ⟨[2,3,4,7,8,9,10,11,12,13,14,15,16,17,18,19,20,21,22,23,24,25,26,27,28,29,30,31,32,33,34,35,36,37,38,39,40,41,42,43],[0],⟨[],[(7,.v (.i .i64))],[]⟩⟩ (.seq (.reg [(xi 8 (.bin .lss (.t 7) (.t 6)))]) (.seq (.cond (.t 8) .skip (.exit 0)) (.seq (.cut ⟨[2,3,4,9,10,11,12,13,14,15,16,17,18,19,20,21,22,23,24,25,26,27,28,29,30,31,32,33,34,35,36,37,38,39,40,41,42],[0],⟨[],[],[]⟩⟩ (.blk 1 (.seq (.reg [(xm 9 7),(xi 10 (.iad 4 (.t 5) (.t 7))),(xi 11 (.load true 4 (.t 10))),(xi 4 (.alloc 0 (.agg [(.v (.int .i64 0)),(.v (.int .u64 0)),(.v (.int .i64 0)),(.sl true [])]))),(xm 3 9),(xz (.store 4 (.t 4) (.t 11)))]) (.seq (.cutN ⟨[12,13,14,15,16,17,18,19,20,21,22,23,24,25,26,27,28,29,30,31,32,33,34,35,36,37,38,39,40,41,42],[],⟨[],[(42,.v .b)],[]⟩⟩ (.dr [] [(xi 12 (.fad 0 (.t 4))),(xi 13 (.load false 1 (.t 12))),(xi 14 (.callG 1 32 [(.t 13)])),(xi 15 (.un .not (.t 14))),(xm 16 15),(xg 17 (.mov (.t 3)) 16 false),(xg 18 (.bin .gtr (.t 17) (.c (.v (.int .i64 0)))) 16 false),(xg 19 (.mov (.t 18)) 16 false),(xg 20 (.mov (.t 0)) 19 true),(xg 21 (.mov (.t 3)) 19 true),(xg 22 (.bin .sub (.t 21) (.c (.v (.int .i64 1)))) 19 true),(xg 23 (.iad 4 (.t 20) (.t 22)) 19 true),(xg 24 (.fad 0 (.t 23)) 19 true),(xg 25 (.load false 1 (.t 24)) 19 true),(xg 26 (.fad 0 (.t 4)) 19 true),(xg 27 (.load false 1 (.t 26)) 19 true),(xg 28 (.bin .geq (.t 25) (.t 27)) 19 true),(xg 29 (.pick (.t 19) (.t 28) (.c (.v (.bool false)))) 16 false),(xi 30 (.pick (.t 16) (.c (.v (.bool true))) (.t 29))),(xm 31 30),(xg 32 (.fad 2 (.t 4)) 31 false),(xg 33 (.load false 1 (.t 32)) 31 false),(xg 34 (.callG 2 33 [(.t 33)]) 31 false),(xg 35 (.un .not (.t 34)) 31 false),(xi 36 (.pick (.t 31) (.c (.v (.bool true))) (.t 35))),(xm 37 36),(xg 38 (.fad 3 (.t 4)) 37 false),(xg 39 (.load false 1 (.t 38)) 37 false),(xg 40 (.callG 3 37 [(.t 39)]) 37 false),(xg 41 (.un .not (.t 40)) 37 false),(xi 42 (.pick (.t 37) (.c (.v (.bool true))) (.t 41)))])) (.cond (.t 42) (.seq (.reg [(xi 2 (.mov (.c (.v (.int .i64 1)))))]) .ret) .skip))))) (.reg [(xi 43 (.bin .add (.t 7) (.c (.v (.int .i64 1))))),(xm 7 43)]))))))) (.seq (.reg [(xi 2 (.mov (.c (.v (.int .i64 0)))))]) .ret))),[4,14,34,40],44,[.t 2],5⟩
theorem xf14_ok:xf14.ok Try.prog 14:=⟨_,_,Try.func14,rfl,by kernel_rfl,rfl,by kernel_rfl,rfl,by kernel_rfl,by kernel_rfl⟩
def tb14:List PE:=[pe32,pe33,pe37]
theorem tb14_ok:PEsOk Try.prog tb14:=⟨pe32_ok,pe33_ok,pe37_ok,trivial⟩
def ex14:List EX:=[]
theorem ex14_ok:EXsOk Try.prog ex14:=trivial
def in14:List IN:=[]
theorem in14_ok:INsOk Try.prog in14:=trivial
def F14:DT ((.co (.v (.sl tza1)) .no):Fm).den→Option (DT (.v (.i .i64):Fm).den):=pureT tb14 ex14 in14 0 xf14 _ _ []
def pe14:PE:=⟨14,(.co (.v (.sl tza1)) .no),.v (.i .i64),F14⟩
theorem pe14_ok:pe14.ok Try.prog:=pe_of hm tb14_ok ex14_ok in14_ok xf14_ok (by kernel_rfl) (fun _=>rfl)
def xf56:FX:=⟨(.seq (.reg [(xi 2 (.mov (.c (.v (.bool false)))))]) (.seq (.reg [(xm 3 0),(xm 4 0),(xi 5 (.bin .neq (.t 3) (.t 4))),(xm 2 5)]) .ret)),[],6,[.t 2],1⟩
theorem xf56_ok:xf56.ok Try.prog 56:=⟨_,_,Try.func56,rfl,by kernel_rfl,rfl,by kernel_rfl,rfl,by kernel_rfl,by kernel_rfl⟩
def tb56:List PE:=[]
theorem tb56_ok:PEsOk Try.prog tb56:=trivial
def ex56:List EX:=[]
theorem ex56_ok:EXsOk Try.prog ex56:=trivial
def in56:List IN:=[]
theorem in56_ok:INsOk Try.prog in56:=trivial
def F56:DT ((.co (.v (.i .i64)) .no):Fm).den→Option (DT (.v .b:Fm).den):=pureT tb56 ex56 in56 0 xf56 _ _ []
def pe56:PE:=⟨56,(.co (.v (.i .i64)) .no),.v .b,F56⟩
theorem pe56_ok:pe56.ok Try.prog:=pe_of hm tb56_ok ex56_ok in56_ok xf56_ok (by kernel_rfl) (fun _=>rfl)
def xf50:FX:=⟨(.seq (.reg [(xi 4 (.mov (.c (.v (.int .i64 0)))))]) (.seq (.reg [(xm 7 0),(xi 8 (.call 0 56 [(.t 7)])),(xm 5 8)]) (.seq (.reg [(xm 9 1),(xi 10 (.call 1 56 [(.t 9)])),(xm 6 10)]) (.seq (.seq (.reg [(xm 11 5)]) (.cond (.t 11) (.seq (.seq (.reg [(xm 12 6)]) (.cond (.t 12) (.seq (.reg [(xi 4 (.mov (.c (.v (.int .i64 0)))))]) .ret) .skip)) (.seq (.reg [(xi 4 (.mov (.c (.v (.int .i64 (-1))))))]) .ret)) .skip)) (.seq (.seq (.reg [(xm 13 6)]) (.cond (.t 13) (.seq (.reg [(xi 4 (.mov (.c (.v (.int .i64 1)))))]) .ret) .skip)) (.seq (.seq (.reg [(xm 14 0),(xm 15 1),(xi 16 (.bin .lss (.t 14) (.t 15)))]) (.cond (.t 16) (.seq (.reg [(xi 4 (.mov (.c (.v (.int .i64 (-1))))))]) .ret) .skip)) (.seq (.seq (.reg [(xm 17 0),(xm 18 1),(xi 19 (.bin .gtr (.t 17) (.t 18)))]) (.cond (.t 19) (.seq (.reg [(xi 4 (.mov (.c (.v (.int .i64 1)))))]) .ret) .skip)) (.seq (.reg [(xi 4 (.mov (.c (.v (.int .i64 0)))))]) .ret)))))))),[8,10],20,[.t 4],3⟩
theorem xf50_ok:xf50.ok Try.prog 50:=⟨_,_,Try.func50,rfl,by kernel_rfl,rfl,by kernel_rfl,rfl,by kernel_rfl,by kernel_rfl⟩
def tb50:List PE:=[pe56]
theorem tb50_ok:PEsOk Try.prog tb50:=⟨pe56_ok,trivial⟩
def ex50:List EX:=[]
theorem ex50_ok:EXsOk Try.prog ex50:=trivial
def in50:List IN:=[]
theorem in50_ok:INsOk Try.prog in50:=trivial
def F50:DT ((.co (.v (.i .i64)) (.co (.v (.i .i64)) .no)):Fm).den→Option (DT (.v (.i .i64):Fm).den):=pureT tb50 ex50 in50 0 xf50 _ _ []
def pe50:PE:=⟨50,(.co (.v (.i .i64)) (.co (.v (.i .i64)) .no)),.v (.i .i64),F50⟩
theorem pe50_ok:pe50.ok Try.prog:=pe_of hm tb50_ok ex50_ok in50_ok xf50_ok (by kernel_rfl) (fun _=>rfl)
def xf49:FX:=⟨(.seq (.reg [(xi 2 (.box 0 4 (.t 0))),(xi 4 (.mov (.c (.v (.int .i64 0)))))]) (.seq (.reg [(xi 5 (.fad 0 (.t 2))),(xi 6 (.load false 1 (.t 5))),(xm 7 1),(xi 8 (.call 1 50 [(.t 6),(.t 7)])),(xm 4 8)]) .ret)),[2,8],9,[.t 4],3⟩
theorem xf49_ok:xf49.ok Try.prog 49:=⟨_,_,Try.func49,rfl,by kernel_rfl,rfl,by kernel_rfl,rfl,by kernel_rfl,by kernel_rfl⟩
def tb49:List PE:=[pe50]
theorem tb49_ok:PEsOk Try.prog tb49:=⟨pe50_ok,trivial⟩
def ex49:List EX:=[]
theorem ex49_ok:EXsOk Try.prog ex49:=trivial
def in49:List IN:=[]
theorem in49_ok:INsOk Try.prog in49:=trivial
def F49:DT ((.co (.v tza1) (.co (.v (.i .i64)) .no)):Fm).den→Option (DT (.v (.i .i64):Fm).den):=pureT tb49 ex49 in49 0 xf49 _ _ []
def pe49:PE:=⟨49,(.co (.v tza1) (.co (.v (.i .i64)) .no)),.v (.i .i64),F49⟩
theorem pe49_ok:pe49.ok Try.prog:=pe_of hm tb49_ok ex49_ok in49_ok xf49_ok (by kernel_rfl) (fun _=>rfl)
def xf34:FX:=⟨(.seq (.reg [(xi 4 (.mov (.c (.v (.int .i64 0))))),(xi 5 (.mov (.c (.v (.bool false)))))]) (.seq (.reg [(xm 6 0),(xm 7 1),(xi 8 (.call 0 48 [(.t 6),(.t 7),(.c (.clo 49 [] []))])),(xi 9 (.ext (.t 8) 0)),(xi 10 (.ext (.t 8) 1)),(xm 4 9),(xm 5 10)]) .ret)),[8],11,[.t 4,.t 5],5⟩
theorem xf34_ok:xf34.ok Try.prog 34:=⟨_,_,Try.func34,rfl,by kernel_rfl,rfl,by kernel_rfl,rfl,by kernel_rfl,by kernel_rfl⟩
def ff48:FX:=⟨(.seq (.reg [(xi 6 (.mov (.c (.v (.int .i64 0))))),(xi 7 (.mov (.c (.v (.bool false)))))]) (.seq (.reg [(xm 12 0),(xi 13 (.len (.t 12))),(xm 8 13)]) (.seq (.reg [(xm 14 8),(xi 9 (.mov (.c (.v (.int .i64 0))))),(xm 10 14)]) (.seq (.cutN ⟨[9,10,11,15,16,17,18,19,20,21,22,23,24,25,26,27,28,29,30,31,32,33,34],[],⟨[],[(9,.v (.i .i64))],[]⟩⟩ (.blk 0 (.loop ⟨[9,10,11,15,16,17,18,19,20,21,22,23,24,25,26,27,28,29,30,31,32,33,34],[],⟨[],[(9,.v (.i .i64)),(10,.v (.i .i64))],[]⟩⟩ (.seq (.seq (.reg [(xm 15 9),(xm 16 10),(xi 17 (.bin .lss (.t 15) (.t 16)))]) (.cond (.t 17) .skip (.exit 0))) (.blk 1 (.seq (.reg [(xm 18 9),(xm 19 10),(xi 20 (.bin .add (.t 18) (.t 19))),(xi 21 (.conv .u64 (.t 20))),(xi 22 (.bin .shr (.t 21) (.c (.v (.int .u64 1))))),(xi 23 (.conv .i64 (.t 22))),(xm 11 23)]) (.seq (.reg [(xm 24 2),(xm 25 0),(xm 26 11),(xi 27 (.iad 4 (.t 25) (.t 26))),(xi 28 (.load true 4 (.t 27))),(xm 29 1),(xi 30 (.callv 0 (.t 24) [(.t 28),(.t 29)])),(xi 31 (.bin .lss (.t 30) (.c (.v (.int .i64 0)))))]) (.cond (.t 31) (.reg [(xm 32 11),(xi 33 (.bin .add (.t 32) (.c (.v (.int .i64 1))))),(xm 9 33)]) (.reg [(xm 34 11),(xm 10 34)]))))))))) (.seq (.reg [(xm 35 9),(xm 36 9),(xm 37 8),(xi 38 (.bin .lss (.t 36) (.t 37))),(xm 39 38),(xg 40 (.mov (.t 2)) 39 true),(xg 41 (.mov (.t 0)) 39 true),(xg 42 (.mov (.t 9)) 39 true),(xg 43 (.iad 4 (.t 41) (.t 42)) 39 true),(xg 44 (.load true 4 (.t 43)) 39 true),(xg 45 (.mov (.t 1)) 39 true),(xg 46 (.callv 1 (.t 40) [(.t 44),(.t 45)]) 39 true),(xg 47 (.bin .eql (.t 46) (.c (.v (.int .i64 0)))) 39 true),(xi 48 (.pick (.t 39) (.t 47) (.c (.v (.bool false))))),(xm 6 35),(xm 7 48)]) .ret))))),[30,46],49,[.t 6,.t 7],3⟩
theorem ff48_ok:ff48.ok Try.prog 48:=⟨_,_,Try.func48,rfl,by kernel_rfl,rfl,by kernel_rfl,rfl,by kernel_rfl,by kernel_rfl⟩
def tb34:List PE:=[pe49]
theorem tb34_ok:PEsOk Try.prog tb34:=⟨pe49_ok,trivial⟩
def ex34:List EX:=[]
theorem ex34_ok:EXsOk Try.prog ex34:=trivial
def in34:List IN:=[⟨0,48,2,ff48,some ⟨[0,1,2,3,4,5,6,7,8,9,10,11,12,13,14,15,16,17,18,19,20,21,22,23,24,25,26,27,28,29,30,31,32,33,34,35,36,37,38,39,40,41,42,43,44,45,46,47,48],[2,3,4],⟨[],[(6,.v (.i .i64)),(7,.v .b)],[]⟩⟩⟩]
theorem in34_ok:INsOk Try.prog in34:=⟨ff48_ok,trivial⟩
def F34:DT ((.co (.v (.sl tza1)) (.co (.v (.i .i64)) .no)):Fm).den→Option (DT (.tup (.co (.v (.i .i64)) (.co (.v .b) .no)):Fm).den):=pureT tb34 ex34 in34 9 xf34 _ _ []
def pe34:PE:=⟨34,(.co (.v (.sl tza1)) (.co (.v (.i .i64)) .no)),.tup (.co (.v (.i .i64)) (.co (.v .b) .no)),F34⟩
theorem pe34_ok:pe34.ok Try.prog:=pe_of hm tb34_ok ex34_ok in34_ok xf34_ok (by kernel_rfl) (fun _=>rfl)
def xf51:FX:=⟨(.seq (.reg [(xi 4 (.mov (.c (.v (.bool false)))))]) (.seq (.reg [(xm 5 0),(xi 6 (.call 0 56 [(.t 5)])),(xm 7 6),(xg 8 (.mov (.t 1)) 7 true),(xg 9 (.call 1 56 [(.t 8)]) 7 true),(xg 10 (.un .not (.t 9)) 7 true),(xi 11 (.pick (.t 7) (.t 10) (.c (.v (.bool false))))),(xm 12 11),(xg 13 (.mov (.t 0)) 12 false),(xg 14 (.mov (.t 1)) 12 false),(xg 15 (.bin .lss (.t 13) (.t 14)) 12 false),(xi 16 (.pick (.t 12) (.c (.v (.bool true))) (.t 15))),(xm 4 16)]) .ret)),[6,9],17,[.t 4],3⟩
theorem xf51_ok:xf51.ok Try.prog 51:=⟨_,_,Try.func51,rfl,by kernel_rfl,rfl,by kernel_rfl,rfl,by kernel_rfl,by kernel_rfl⟩
def tb51:List PE:=[pe56]
theorem tb51_ok:PEsOk Try.prog tb51:=⟨pe56_ok,trivial⟩
def ex51:List EX:=[]
theorem ex51_ok:EXsOk Try.prog ex51:=trivial
def in51:List IN:=[]
theorem in51_ok:INsOk Try.prog in51:=trivial
def F51:DT ((.co (.v (.i .i64)) (.co (.v (.i .i64)) .no)):Fm).den→Option (DT (.v .b:Fm).den):=pureT tb51 ex51 in51 0 xf51 _ _ []
def pe51:PE:=⟨51,(.co (.v (.i .i64)) (.co (.v (.i .i64)) .no)),.v .b,F51⟩
theorem pe51_ok:pe51.ok Try.prog:=pe_of hm tb51_ok ex51_ok in51_ok xf51_ok (by kernel_rfl) (fun _=>rfl)
def xf52:FX:=⟨(.seq (.reg [(xi 2 (.mov (.c (.v (.bool false)))))]) (.seq (.reg [(xm 3 0),(xm 4 0),(xi 5 (.bin .neq (.t 3) (.t 4))),(xm 2 5)]) .ret)),[],6,[.t 2],1⟩
theorem xf52_ok:xf52.ok Try.prog 52:=⟨_,_,Try.func52,rfl,by kernel_rfl,rfl,by kernel_rfl,rfl,by kernel_rfl,by kernel_rfl⟩
def tb52:List PE:=[]
theorem tb52_ok:PEsOk Try.prog tb52:=trivial
def ex52:List EX:=[]
theorem ex52_ok:EXsOk Try.prog ex52:=trivial
def in52:List IN:=[]
theorem in52_ok:INsOk Try.prog in52:=trivial
def F52:DT ((.co (.v (.i .i64)) .no):Fm).den→Option (DT (.v .b:Fm).den):=pureT tb52 ex52 in52 0 xf52 _ _ []
def pe52:PE:=⟨52,(.co (.v (.i .i64)) .no),.v .b,F52⟩
theorem pe52_ok:pe52.ok Try.prog:=pe_of hm tb52_ok ex52_ok in52_ok xf52_ok (by kernel_rfl) (fun _=>rfl)
def xf35:FX:=⟨(.seq (.reg [(xi 4 (.mov (.c (.v (.int .i64 0))))),(xi 5 (.mov (.c (.v (.bool false)))))]) (.seq (.reg [(xm 10 0),(xi 11 (.len (.t 10))),(xm 6 11)]) (.seq (.reg [(xm 12 6),(xi 7 (.mov (.c (.v (.int .i64 0))))),(xm 8 12)]) (.seq (.cutN ⟨[7,8,9,13,14,15,16,17,18,19,20,21,22,23,24,25,26,27,28,29,30],[],⟨[],[(7,.v (.i .i64))],[]⟩⟩ (.blk 0 (.loop ⟨[7,8,9,13,14,15,16,17,18,19,20,21,22,23,24,25,26,27,28,29,30],[],⟨[],[(7,.v (.i .i64)),(8,.v (.i .i64))],[]⟩⟩ (.seq (.seq (.reg [(xm 13 7),(xm 14 8),(xi 15 (.bin .lss (.t 13) (.t 14)))]) (.cond (.t 15) .skip (.exit 0))) (.blk 1 (.seq (.reg [(xm 16 7),(xm 17 8),(xi 18 (.bin .add (.t 16) (.t 17))),(xi 19 (.conv .u64 (.t 18))),(xi 20 (.bin .shr (.t 19) (.c (.v (.int .u64 1))))),(xi 21 (.conv .i64 (.t 20))),(xm 9 21)]) (.seq (.reg [(xm 22 0),(xm 23 9),(xi 24 (.iad 1 (.t 22) (.t 23))),(xi 25 (.load false 1 (.t 24))),(xm 26 1),(xi 27 (.call 0 51 [(.t 25),(.t 26)]))]) (.cond (.t 27) (.reg [(xm 28 9),(xi 29 (.bin .add (.t 28) (.c (.v (.int .i64 1))))),(xm 7 29)]) (.reg [(xm 30 9),(xm 8 30)]))))))))) (.seq (.reg [(xm 31 7),(xm 32 7),(xm 33 6),(xi 34 (.bin .lss (.t 32) (.t 33))),(xm 35 34),(xg 36 (.mov (.t 0)) 35 true),(xg 37 (.mov (.t 7)) 35 true),(xg 38 (.iad 1 (.t 36) (.t 37)) 35 true),(xg 39 (.load false 1 (.t 38)) 35 true),(xg 40 (.mov (.t 1)) 35 true),(xg 41 (.bin .eql (.t 39) (.t 40)) 35 true),(xg 42 (.mov (.t 41)) 35 true),(xg 43 (.mov (.t 0)) 42 false),(xg 44 (.mov (.t 7)) 42 false),(xg 45 (.iad 1 (.t 43) (.t 44)) 42 false),(xg 46 (.load false 1 (.t 45)) 42 false),(xg 47 (.call 1 52 [(.t 46)]) 42 false),(xg 48 (.mov (.t 47)) 42 false),(xg 49 (.mov (.t 1)) 48 true),(xg 50 (.call 2 52 [(.t 49)]) 48 true),(xg 51 (.pick (.t 48) (.t 50) (.c (.v (.bool false)))) 42 false),(xg 52 (.pick (.t 42) (.c (.v (.bool true))) (.t 51)) 35 true),(xi 53 (.pick (.t 35) (.t 52) (.c (.v (.bool false))))),(xm 4 31),(xm 5 53)]) .ret))))),[27,47,50],54,[.t 4,.t 5],4⟩
theorem xf35_ok:xf35.ok Try.prog 35:=⟨_,_,Try.func35,rfl,by kernel_rfl,rfl,by kernel_rfl,rfl,by kernel_rfl,by kernel_rfl⟩
def tb35:List PE:=[pe51,pe52]
theorem tb35_ok:PEsOk Try.prog tb35:=⟨pe51_ok,pe52_ok,trivial⟩
def ex35:List EX:=[]
theorem ex35_ok:EXsOk Try.prog ex35:=trivial
def in35:List IN:=[]
theorem in35_ok:INsOk Try.prog in35:=trivial
def F35:DT ((.co (.v (.sl (.i .i64))) (.co (.v (.i .i64)) .no)):Fm).den→Option (DT (.tup (.co (.v (.i .i64)) (.co (.v .b) .no)):Fm).den):=pureT tb35 ex35 in35 0 xf35 _ _ []
def pe35:PE:=⟨35,(.co (.v (.sl (.i .i64))) (.co (.v (.i .i64)) .no)),.tup (.co (.v (.i .i64)) (.co (.v .b) .no)),F35⟩
theorem pe35_ok:pe35.ok Try.prog:=pe_of hm tb35_ok ex35_ok in35_ok xf35_ok (by kernel_rfl) (fun _=>rfl)
def ff46:FX:=⟨(.seq (.reg [(xi 2 (.mov (.c (.sl true []))))]) (.seq (.seq (.reg [(xm 3 0),(xi 4 (.nilq false (.t 3)))]) (.cond (.t 4) (.seq (.reg [(xi 2 (.mov (.c (.sl true []))))]) .ret) .skip)) (.seq (.reg [(xi 5 (.bsl 4 (.agg [(.v (.int .i64 0)),(.v (.int .u64 0)),(.v (.int .i64 0)),(.sl true [])]) 0 [])),(xm 6 0),⟨⟨(some 7),(.app 0 4 48 (.agg [(.v (.int .i64 0)),(.v (.int .u64 0)),(.v (.int .i64 0)),(.sl true [])]) (.t 5) (.t 6)),none⟩,tza1,[],[]⟩,(xm 2 7)]) .ret))),[7],8,[.t 2],2⟩
theorem ff46_ok:ff46.ok Try.prog 46:=⟨_,_,Try.func46,rfl,by kernel_rfl,rfl,by kernel_rfl,rfl,by kernel_rfl,by kernel_rfl⟩
def ff47:FX:=⟨(.seq (.reg [(xi 2 (.mov (.c (.sl true []))))]) (.seq (.seq (.reg [(xm 3 0),(xi 4 (.nilq false (.t 3)))]) (.cond (.t 4) (.seq (.reg [(xi 2 (.mov (.c (.sl true []))))]) .ret) .skip)) (.seq (.reg [(xi 5 (.bsl 1 (.v (.int .i64 0)) 0 [])),(xm 6 0),⟨⟨(some 7),(.app 0 1 8 (.v (.int .i64 0)) (.t 5) (.t 6)),none⟩,(.i .i64),[],[]⟩,(xm 2 7)]) .ret))),[7],8,[.t 2],2⟩
theorem ff47_ok:ff47.ok Try.prog 47:=⟨_,_,Try.func47,rfl,by kernel_rfl,rfl,by kernel_rfl,rfl,by kernel_rfl,by kernel_rfl⟩
def xf12:FX:=⟨(.seq (.reg [(xi 4 (.box 0 1 (.t 1))),(xi 5 (.box 1 1 (.t 2))),(xi 6 (.mov (.c (.sl true [])))),(xi 7 (.mov (.c (.v (.int .i64 0)))))]) (.seq (.seq (.reg [(xm 9 0),(xi 10 (.call 2 14 [(.t 9)])),(xm 8 10)]) (.seq (.reg [(xm 11 8),(xi 12 (.bin .neq (.t 11) (.c (.v (.int .i64 0)))))]) (.cond (.t 12) (.seq (.reg [(xm 13 0),(xm 14 8),(xm 6 13),(xm 7 14)]) .ret) .skip))) (.seq (.reg [(xm 15 0),(xi 16 (.call 3 30 [(.t 15)])),(xi 17 (.fn 31 [] [(.t 4),(.t 5)])),(xi 18 (.call 4 29 [(.t 16),(.t 17)])),(xm 6 18),(xi 7 (.mov (.c (.v (.int .i64 0)))))]) .ret))),[4,5,10,16,18],19,[.t 6,.t 7],24⟩
theorem xf12_ok:xf12.ok Try.prog 12:=⟨_,_,Try.func12,rfl,by kernel_rfl,rfl,by kernel_rfl,rfl,by kernel_rfl,by kernel_rfl⟩
def ff30_1:FX:=⟨(.seq (.reg [(xi 2 (.mov (.c (.sl true []))))]) (.seq (.reg [(xm 6 0),(xi 7 (.call 0 46 [(.t 6)])),(xm 3 7)]) (.seq (.seq (.reg [(xm 8 3),(xi 9 (.len (.t 8))),(xi 10 (.mov (.c (.v (.int .i64 0)))))]) (.blk 0 (.loop ⟨[4,5,10,11,12,13,14,15,16,17,18,19,20,21,22],[7,10,12,13],⟨[],[(10,.v (.i .i64))],[⟨10,.rows tza1 4,true⟩]⟩⟩ (.seq (.reg [(xi 11 (.bin .lss (.t 10) (.t 9)))]) (.seq (.cond (.t 11) .skip (.exit 0)) (.seq (.blk 1 (.seq (.reg [(xm 12 10),(xi 13 (.iad 4 (.t 8) (.t 10))),(xi 14 (.load true 4 (.t 13))),(xi 5 (.alloc 1 (.agg [(.v (.int .i64 0)),(.v (.int .u64 0)),(.v (.int .i64 0)),(.sl true [])]))),(xm 4 12),(xz (.store 4 (.t 5) (.t 14)))]) (.reg [(xm 15 3),(xm 16 4),(xi 17 (.fad 3 (.t 5))),(xi 18 (.load false 1 (.t 17))),(xi 19 (.call 2 47 [(.t 18)])),(xi 20 (.iad 4 (.t 15) (.t 16))),(xi 21 (.fad 3 (.t 20))),⟨⟨none,(.store 1 (.t 21) (.t 19)),none⟩,.b,[19],[]⟩]))) (.reg [(xi 22 (.bin .add (.t 10) (.c (.v (.int .i64 1))))),(xm 10 22)]))))))) (.seq (.reg [(xm 23 3),(xm 2 23)]) .ret)))),[7,5,19],24,[.t 2],4⟩
theorem ff30_1_ok:ff30_1.ok Try.prog 30:=⟨_,_,Try.func30,rfl,by kernel_rfl,rfl,by kernel_rfl,rfl,by kernel_rfl,by kernel_rfl⟩
def ff29:FX:=⟨(.seq (.reg [(xi 4 (.mov (.c (.sl true []))))]) (.seq (.reg [(xm 8 0),(xm 9 1),(xi 10 (.call 0 45 [(.t 8),(.t 9)])),(xm 5 10)]) (.seq (.seq (.reg [(xm 11 5),(xi 12 (.bin .eql (.t 11) (.c (.v (.int .i64 (-1))))))]) (.cond (.t 12) (.seq (.reg [(xm 13 0),(xm 4 13)]) .ret) .skip)) (.seq (.cutN ⟨[5,6,7,14,15,16,17,18,19,20,21,22,23,24,25,26,27,28,29,30,31,32,33,34,35],[10,15,22,23],⟨[],[(5,.v (.i .i64))],[⟨10,.rows tza1 4,true⟩]⟩⟩ (.seq (.reg [(xm 14 5),(xi 15 (.bin .add (.t 14) (.c (.v (.int .i64 1))))),(xm 6 15)]) (.blk 0 (.loop ⟨[5,6,7,16,17,18,19,20,21,22,23,24,25,26,27,28,29,30,31,32,33,34,35],[10,15,22,23],⟨[],[(5,.v (.i .i64)),(6,.v (.i .i64))],[⟨10,.rows tza1 4,true⟩]⟩⟩ (.seq (.seq (.reg [(xm 16 6),(xm 17 0),(xi 18 (.len (.t 17))),(xi 19 (.bin .lss (.t 16) (.t 18)))]) (.cond (.t 19) .skip (.exit 0))) (.seq (.cutN ⟨[5,7,22,23,24,25,26,27,28,29,30,31,32,33,34,35],[10,15,22,23],⟨[],[(5,.v (.i .i64))],[⟨10,.rows tza1 4,true⟩]⟩⟩ (.blk 1 (.seq (.reg [(xm 22 0),(xm 23 6),(xi 24 (.iad 4 (.t 22) (.t 23))),(xi 25 (.load true 4 (.t 24))),(xi 7 (.alloc 1 (.agg [(.v (.int .i64 0)),(.v (.int .u64 0)),(.v (.int .i64 0)),(.sl true [])]))),(xz (.store 4 (.t 7) (.t 25)))]) (.seq (.reg [(xm 26 1),(xi 27 (.load true 4 (.t 7))),(xi 28 (.callv 2 (.t 26) [(.t 27)])),(xi 29 (.un .not (.t 28)))]) (.cond (.t 29) (.seq (.reg [(xm 30 0),(xm 31 5),(xi 32 (.load true 4 (.t 7))),(xi 33 (.iad 4 (.t 30) (.t 31))),(xz (.store 4 (.t 33) (.t 32)))]) (.reg [(xm 34 5),(xi 35 (.bin .add (.t 34) (.c (.v (.int .i64 1))))),(xm 5 35)])) .skip))))) (.reg [(xm 20 6),(xi 21 (.bin .add (.t 20) (.c (.v (.int .i64 1))))),(xm 6 21)]))))))) (.seq (.reg [(xm 36 0),(xm 37 5),(xi 38 (.slc 4 (.t 36) (some (.t 37)) none none)),(xz (.clr 4 (.agg [(.v (.int .i64 0)),(.v (.int .u64 0)),(.v (.int .i64 0)),(.sl true [])]) (.t 38)))]) (.seq (.reg [(xm 39 0),(xm 40 5),(xi 41 (.slc 4 (.t 39) none (some (.t 40)) none)),(xm 4 41)]) .ret)))))),[10,7,28],42,[.t 4],4⟩
theorem ff29_ok:ff29.ok Try.prog 29:=⟨_,_,Try.func29,rfl,by kernel_rfl,rfl,by kernel_rfl,rfl,by kernel_rfl,by kernel_rfl⟩
def ff45:FX:=⟨(.seq (.reg [(xi 4 (.mov (.c (.v (.int .i64 0)))))]) (.seq (.seq (.reg [(xm 6 0),(xi 7 (.len (.t 6))),(xi 8 (.mov (.c (.v (.int .i64 0)))))]) (.blk 0 (.loop ⟨[4,5,8,9,10,11,12,13,14,15,16,17,18],[20,21],⟨[],[(8,.v (.i .i64))],[]⟩⟩ (.seq (.reg [(xi 9 (.bin .lss (.t 8) (.t 7)))]) (.seq (.cond (.t 9) .skip (.exit 0)) (.seq (.blk 1 (.seq (.reg [(xm 10 8),(xm 5 10)]) (.seq (.reg [(xm 11 1),(xm 12 0),(xm 13 5),(xi 14 (.iad 4 (.t 12) (.t 13))),(xi 15 (.load true 4 (.t 14))),(xi 16 (.callv 0 (.t 11) [(.t 15)]))]) (.cond (.t 16) (.seq (.reg [(xm 17 5),(xm 4 17)]) .ret) .skip)))) (.reg [(xi 18 (.bin .add (.t 8) (.c (.v (.int .i64 1))))),(xm 8 18)]))))))) (.seq (.reg [(xi 4 (.mov (.c (.v (.int .i64 (-1))))))]) .ret))),[16],19,[.t 4],2⟩
theorem ff45_ok:ff45.ok Try.prog 45:=⟨_,_,Try.func45,rfl,by kernel_rfl,rfl,by kernel_rfl,rfl,by kernel_rfl,by kernel_rfl⟩
def ff31:FX:=⟨(.seq (.reg [(xi 3 (.box 0 4 (.t 0))),(xi 4 (.mov (.c (.v (.bool false)))))]) (.seq (.reg [(xi 5 (.fad 0 (.t 3))),(xi 6 (.load false 1 (.t 5))),(xi 7 (.load false 1 (.t 1))),(xi 8 (.bin .eql (.t 6) (.t 7))),(xm 9 8),(xg 10 (.fad 1 (.t 3)) 9 true),(xg 11 (.load false 1 (.t 10)) 9 true),(xg 12 (.load false 1 (.t 2)) 9 true),(xg 13 (.bin .leq (.t 11) (.t 12)) 9 true),(xi 14 (.pick (.t 9) (.t 13) (.c (.v (.bool false))))),(xm 4 14)]) .ret)),[3],15,[.t 4],2⟩
theorem ff31_ok:ff31.ok Try.prog 31:=⟨_,_,Try.func31,rfl,by kernel_rfl,rfl,by kernel_rfl,rfl,by kernel_rfl,by kernel_rfl⟩
def tb12:List PE:=[pe14]
theorem tb12_ok:PEsOk Try.prog tb12:=⟨pe14_ok,trivial⟩
def ex12:List EX:=[]
theorem ex12_ok:EXsOk Try.prog ex12:=trivial
def in12:List IN:=[⟨3,30,6,ff30_1,some ⟨[0,1,2,3,4,5,6,7,8,9,10,11,12,13,14,15,16,17,18,19,20,21,22,23],[6,7,8,9,10,11,12,13],⟨[],[(2,.ow 10 4)],[⟨10,.rows tza1 4,false⟩]⟩⟩⟩,⟨4,29,14,ff29,some ⟨[0,1,2,3,4,5,6,7,8,9,10,11,12,13,14,15,16,17,18,19,20,21,22,23,24,25,26,27,28,29,30,31,32,33,34,35,36,37,38,39,40,41],[10,14,15,16,17,18,19,20,21,22,23],⟨[],[(4,.op 10 4)],[⟨10,.rows tza1 4,true⟩]⟩⟩⟩,⟨6,46,10,ff46,some ⟨[0,1,2,3,4,5,6,7],[10,11],⟨[],[(2,.ow 10 4)],[⟨10,.rows tza1 4,false⟩]⟩⟩⟩,⟨8,47,12,ff47,some ⟨[0,1,2,3,4,5,6,7],[12,13],⟨[],[(2,.ow 12 1)],[⟨12,.rows (.i .i64) 1,false⟩]⟩⟩⟩,⟨14,45,18,ff45,some ⟨[0,1,2,3,4,5,6,7,8,9,10,11,12,13,14,15,16,17,18],[18,19,20,21],⟨[],[(4,.v (.i .i64))],[]⟩⟩⟩,⟨16,31,22,ff31,some ⟨[0,1,2,3,4,5,6,7,8,9,10,11,12,13,14],[22,23],⟨[],[(4,.v .b)],[]⟩⟩⟩,⟨18,31,20,ff31,some ⟨[0,1,2,3,4,5,6,7,8,9,10,11,12,13,14],[20,21],⟨[],[(4,.v .b)],[]⟩⟩⟩]
theorem in12_ok:INsOk Try.prog in12:=⟨ff30_1_ok,ff29_ok,ff46_ok,ff47_ok,ff45_ok,ff31_ok,ff31_ok,trivial⟩
def F12:DT ((.co (.v (.sl tza1)) (.co (.v (.i .i64)) (.co (.v (.i .u64)) .no))):Fm).den→Option (DT (.tup (.co (.v (.sl tza1)) (.co (.v (.i .i64)) .no)):Fm).den):=pureT tb12 ex12 in12 9 xf12 _ _ [10]
def pe12:PE:=⟨12,(.co (.v (.sl tza1)) (.co (.v (.i .i64)) (.co (.v (.i .u64)) .no))),.tup (.co (.v (.sl tza1)) (.co (.v (.i .i64)) .no)),F12⟩
theorem pe12_ok:pe12.ok Try.prog:=pe_of hm tb12_ok ex12_ok in12_ok xf12_ok (by kernel_rfl) (fun _=>rfl)
end
end Go.Proofs.Yticljphbbdnomaa.VL
end
section
namespace Go.Proofs.Yticljphbbdnomaa.VL
open Go
set_option maxRecDepth 100000
set_option linter.unusedVariables false
set_option linter.unusedSectionVars false
variable [Val]
theorem F27_eq (v:(Int×(Int×Int))):F27 v=(cond (decide (v.1 ≥ v.2.1)) (some (decide (v.1≤v.2.2))) (some false)):=by kernel_rfl
theorem F32_eq (v:Int):F32 v=(Option.bind (F27 (v,(0:Int),(63:Int))) (fun (v0:Bool)=>(some v0))):=by kernel_rfl
theorem F33_eq (v:Int):F33 v=(cond (decide (v ≥ (0:Int))) (some (decide (v≤(1099511627776:Int)))) (some false)):=by kernel_rfl
theorem F37_eq (v:(List Int)):F37 v=(loopX (fun (v0:Int)=>(cond (decide (v0 < ((v.length:Nat):Int))) (joinX (cond (decide ((0:Int)≤v0)) (Option.bind v[(Int.toNat v0)]? (fun (v1:Int)=>(Option.bind (Option.bind (F32 v1) (fun (v2:Bool)=>(cond (!v2) (some true) (cond (decide (v0 > (0:Int))) (cond (decide ((0:Int)≤(IntKind.wrap IntKind.i64 (v0 - (1:Int))))) (Option.bind v[(Int.toNat (IntKind.wrap IntKind.i64 (v0 - (1:Int))))]? (fun (v3:Int)=>(some (decide (v3 ≥ v1))))) none) (some false))))) (fun (v4:Bool)=>(cond v4 (some (.inr (.inr false))) (some (.inl ()))))))) none) (fun (v5:Unit)=>(some (.inl (IntKind.wrap IntKind.i64 (v0+(1:Int))))))) (some (.inr (decide (((v.length:Nat):Int) > (0:Int))))))) (0:Int)):=by kernel_rfl
theorem F14_eq (v:(List (Int×(Int×(Int×(List Int)))))):F14 v=(loopX (fun (v0:Int)=>(cond (decide (v0 < ((v.length:Nat):Int))) (joinX (cond (decide ((0:Int)≤v0)) (Option.bind v[(Int.toNat v0)]? (fun (v1:(Int×(Int×(Int×(List Int)))))=>(Option.bind (Option.bind (F32 v1.1) (fun (v2:Bool)=>(cond (!v2) (some true) (cond (decide (v0 > (0:Int))) (cond (decide ((0:Int)≤(IntKind.wrap IntKind.i64 (v0 - (1:Int))))) (Option.bind v[(Int.toNat (IntKind.wrap IntKind.i64 (v0 - (1:Int))))]? (fun (v3:(Int×(Int×(Int×(List Int)))))=>(cond (decide (v3.1 ≥ v1.1)) (some true) (Option.bind (F33 v1.2.2.1) (fun (v4:Bool)=>(cond (!v4) (some true) (Option.bind (F37 v1.2.2.2) (fun (v5:Bool)=>(some (!v5)))))))))) none) (Option.bind (F33 v1.2.2.1) (fun (v6:Bool)=>(cond (!v6) (some true) (Option.bind (F37 v1.2.2.2) (fun (v7:Bool)=>(some (!v7))))))))))) (fun (v8:Bool)=>(cond v8 (some (.inr (.inr (1:Int)))) (some (.inl ()))))))) none) (fun (v9:Unit)=>(some (.inl (IntKind.wrap IntKind.i64 (v0+(1:Int))))))) (some (.inr (0:Int))))) (0:Int)):=by kernel_rfl
theorem F50_eq (v:(Int×Int)):F50 v=(Option.bind (F56 v.1) (fun (v0:Bool)=>(Option.bind (F56 v.2) (fun (v1:Bool)=>(cond v0 (cond v1 (some (0:Int)) (some (-1:Int))) (cond v1 (some (1:Int)) (cond (decide (v.1 < v.2)) (some (-1:Int)) (cond (decide (v.1 > v.2)) (some (1:Int)) (some (0:Int)))))))))):=by kernel_rfl
theorem F49_eq (v:((Int×(Int×(Int×(List Int))))×Int)):F49 v=(Option.bind (F50 (v.1.1,v.2)) (fun (v0:Int)=>(some v0))):=by kernel_rfl
theorem F34_eq (v:((List (Int×(Int×(Int×(List Int)))))×Int)):F34 v=(Option.bind (Option.bind (loopX (fun (v0:(Int×Int))=>(cond (decide (v0.1 < v0.2)) (cond (decide ((0:Int)≤(IntKind.wrap IntKind.i64 (Int.fdiv (IntKind.wrap IntKind.u64 (IntKind.wrap IntKind.i64 (v0.1+v0.2))) (2:Int))))) (Option.bind v.1[(Int.toNat (IntKind.wrap IntKind.i64 (Int.fdiv (IntKind.wrap IntKind.u64 (IntKind.wrap IntKind.i64 (v0.1+v0.2))) (2:Int))))]? (fun (v1:(Int×(Int×(Int×(List Int)))))=>(Option.bind (F49 ((v1.1,v1.2.1,v1.2.2.1,v1.2.2.2),v.2)) (fun (v2:Int)=>(cond (decide (v2 < (0:Int))) (some (.inl ((IntKind.wrap IntKind.i64 ((IntKind.wrap IntKind.i64 (Int.fdiv (IntKind.wrap IntKind.u64 (IntKind.wrap IntKind.i64 (v0.1+v0.2))) (2:Int)))+(1:Int))),v0.2))) (some (.inl (v0.1,(IntKind.wrap IntKind.i64 (Int.fdiv (IntKind.wrap IntKind.u64 (IntKind.wrap IntKind.i64 (v0.1+v0.2))) (2:Int))))))))))) none) (some (.inr v0.1)))) ((0:Int),((v.1.length:Nat):Int))) (fun (v3:Int)=>(cond (decide (v3 < ((v.1.length:Nat):Int))) (cond (decide ((0:Int)≤v3)) (Option.bind v.1[(Int.toNat v3)]? (fun (v4:(Int×(Int×(Int×(List Int)))))=>(Option.bind (F49 ((v4.1,v4.2.1,v4.2.2.1,v4.2.2.2),v.2)) (fun (v5:Int)=>(some (v3,(v5==(0:Int)))))))) none) (some (v3,false))))) (fun (v6:(Int×Bool))=>(some (v6.1,v6.2)))):=by kernel_rfl
theorem F51_eq (v:(Int×Int)):F51 v=(Option.bind (F56 v.1) (fun (v0:Bool)=>(cond v0 (Option.bind (F56 v.2) (fun (v1:Bool)=>(cond (!v1) (some true) (some (decide (v.1 < v.2)))))) (some (decide (v.1 < v.2)))))):=by kernel_rfl
theorem F35_eq (v:((List Int)×Int)):F35 v=(Option.bind (loopX (fun (v0:(Int×Int))=>(cond (decide (v0.1 < v0.2)) (cond (decide ((0:Int)≤(IntKind.wrap IntKind.i64 (Int.fdiv (IntKind.wrap IntKind.u64 (IntKind.wrap IntKind.i64 (v0.1+v0.2))) (2:Int))))) (Option.bind v.1[(Int.toNat (IntKind.wrap IntKind.i64 (Int.fdiv (IntKind.wrap IntKind.u64 (IntKind.wrap IntKind.i64 (v0.1+v0.2))) (2:Int))))]? (fun (v1:Int)=>(Option.bind (F51 (v1,v.2)) (fun (v2:Bool)=>(cond v2 (some (.inl ((IntKind.wrap IntKind.i64 ((IntKind.wrap IntKind.i64 (Int.fdiv (IntKind.wrap IntKind.u64 (IntKind.wrap IntKind.i64 (v0.1+v0.2))) (2:Int)))+(1:Int))),v0.2))) (some (.inl (v0.1,(IntKind.wrap IntKind.i64 (Int.fdiv (IntKind.wrap IntKind.u64 (IntKind.wrap IntKind.i64 (v0.1+v0.2))) (2:Int))))))))))) none) (some (.inr v0.1)))) ((0:Int),((v.1.length:Nat):Int))) (fun (v3:Int)=>(cond (decide (v3 < ((v.1.length:Nat):Int))) (cond (decide ((0:Int)≤v3)) (Option.bind v.1[(Int.toNat v3)]? (fun (v4:Int)=>(cond (v4==v.2) (some (v3,true)) (cond (decide ((0:Int)≤v3)) (Option.bind v.1[(Int.toNat v3)]? (fun (v5:Int)=>(Option.bind (F52 v5) (fun (v6:Bool)=>(cond v6 (Option.bind (F52 v.2) (fun (v7:Bool)=>(some (v3,v7)))) (some (v3,false))))))) none)))) none) (some (v3,false))))):=by kernel_rfl
theorem F12_eq (v:((List (Int×(Int×(Int×(List Int)))))×(Int×Int))):F12 v=(Option.bind (F14 v.1) (fun (v0:Int)=>(cond (v0 != (0:Int)) (some (v.1,v0)) (Option.bind (Option.bind (bothX (List.isEmpty v.1) (some []) (cond ((decide ((((v.1.length:Nat):Int) * (48:Int))≤(70368744177664:Int)))&&(decide (((v.1.length:Nat):Int)≤(70368744177664:Int)))) (cond (decide (v.1.length=v.1.length)) (some v.1) none) none)) (fun (v1:(List (Int×(Int×(Int×(List Int))))))=>(loopX (fun (v2:(Int×(List (Int×(Int×(Int×(List Int)))))))=>(cond (decide (v2.1 < ((v1.length:Nat):Int))) (cond ((decide ((0:Int)≤v2.1))&&(decide (v2.1 < ((v1.length:Nat):Int)))) (Option.bind v2.2[(0+(Int.toNat v2.1))]? (fun (v3:(Int×(Int×(Int×(List Int)))))=>(Option.bind (bothX (List.isEmpty v3.2.2.2) (some []) (cond ((decide ((((v3.2.2.2.length:Nat):Int) * (8:Int))≤(70368744177664:Int)))&&(decide (((v3.2.2.2.length:Nat):Int)≤(70368744177664:Int)))) (cond (decide (v3.2.2.2.length=v3.2.2.2.length)) (some v3.2.2.2) none) none)) (fun (v4:(List Int))=>(cond ((decide ((0:Int)≤v2.1))&&(decide (v2.1 < ((v1.length:Nat):Int)))) (cond (decide ((0+v4.length)≤v4.length)) (Option.bind v2.2[(0+(Int.toNat v2.1))]? (fun (v5:(Int×(Int×(Int×(List Int)))))=>(some (.inl ((IntKind.wrap IntKind.i64 (v2.1+(1:Int))),(List.set v2.2 (0+(Int.toNat v2.1)) (v5.1,v5.2.1,v5.2.2.1,(List.take v4.length v4)))))))) none) none))))) none) (Option.map (Sum.inr) (cond (decide (v1.length=v2.2.length)) (some v2.2) none)))) ((0:Int),v1)))) (fun (v6:(List (Int×(Int×(Int×(List Int))))))=>(Option.bind (Option.bind (loopX (fun (v7:Int)=>(cond (decide (v7 < ((v6.length:Nat):Int))) (cond ((decide ((0:Int)≤v7))&&(decide (v7 < ((v6.length:Nat):Int)))) (Option.bind v6[(0+(Int.toNat v7))]? (fun (v8:(Int×(Int×(Int×(List Int)))))=>(Option.bind (cond (v8.1==v.2.1) (some (decide (v8.2.1≤v.2.2))) (some false)) (fun (v9:Bool)=>(cond v9 (some (.inr v7)) (some (.inl (IntKind.wrap IntKind.i64 (v7+(1:Int)))))))))) none) (some (.inr (-1:Int))))) (0:Int)) (fun (v10:Int)=>(cond (v10==(-1:Int)) (some ((0,v6.length),v6)) (Option.bind (loopX (fun (v11:((Int×Int)×(List (Int×(Int×(Int×(List Int)))))))=>(cond (decide (v11.1.2 < ((v6.length:Nat):Int))) (Option.bind (cond ((decide ((0:Int)≤v11.1.2))&&(decide (v11.1.2 < ((v6.length:Nat):Int)))) (Option.bind v11.2[(0+(Int.toNat v11.1.2))]? (fun (v12:(Int×(Int×(Int×(List Int)))))=>(Option.bind (cond (v12.1==v.2.1) (some (decide (v12.2.1≤v.2.2))) (some false)) (fun (v13:Bool)=>(cond (!v13) (cond ((decide ((0:Int)≤v11.1.1))&&(decide (v11.1.1 < ((v6.length:Nat):Int)))) (Option.bind v11.2[(0+(Int.toNat v11.1.1))]? (fun (v14:(Int×(Int×(Int×(List Int)))))=>(some ((IntKind.wrap IntKind.i64 (v11.1.1+(1:Int))),(List.set v11.2 (0+(Int.toNat v11.1.1)) (v12.1,v12.2.1,v12.2.2.1,v12.2.2.2)))))) none) (some (v11.1.1,v11.2))))))) none) (fun (v15:(Int×(List (Int×(Int×(Int×(List Int)))))))=>(some (.inl ((v15.1,(IntKind.wrap IntKind.i64 (v11.1.2+(1:Int)))),v15.2))))) (some (.inr (v11.1.1,v11.2))))) ((v10,(IntKind.wrap IntKind.i64 (v10+(1:Int)))),v6)) (fun (v16:(Int×(List (Int×(Int×(Int×(List Int)))))))=>(cond (((decide ((0:Int)≤v16.1))&&(decide (v16.1≤((v6.length:Nat):Int))))&&true) (cond (decide (((0+(Int.toNat v16.1))+(v6.length - (Int.toNat v16.1)))≤v16.2.length)) (cond (((decide ((0:Int)≤v16.1))&&(decide (v16.1≤((v6.length:Nat):Int))))&&true) (some ((0,(Int.toNat v16.1)),(Append.append (Append.append (List.take (0+(Int.toNat v16.1)) v16.2) (List.replicate (v6.length - (Int.toNat v16.1)) ((0:Int),(0:Int),(0:Int),[]))) (List.drop ((0+(Int.toNat v16.1))+(v6.length - (Int.toNat v16.1))) v16.2)))) none) none) none)))))) (fun (v17:((Nat×Nat)×(List (Int×(Int×(Int×(List Int)))))))=>(cond (decide ((v17.1.1+v17.1.2)≤v17.2.length)) (some ((List.take v17.1.2 (List.drop v17.1.1 v17.2)),(0:Int))) none)))))))):=by kernel_rfl
end Go.Proofs.Yticljphbbdnomaa.VL
end
