import Derived.Test.YtianfmdemgfgaaaDoorW1Ya
import Derived.Test.YtianfmdemgfgaaaDoorW1Wc
import Derived.Test.YtianfmdemgfgaaaDoorW1Xr
import Derived.Laws.RangeString
import Derived.Laws.RangeAny
section
namespace Go.Proofs.YtianfmdemgfgaaaDoor.VL
open Go
set_option maxRecDepth 100000
set_option linter.unusedSectionVars false
variable [Val]
def clones:List (Nat×Nat×Nat×PV):=[]
theorem clones_ok:CalleeOk Tryd.prog (cloneOv clones):=cloneOv_ok hm (l:=clones) trivial
abbrev fz:List Nat:=[29,30,12]
noncomputable abbrev run0:=runR (cloneOv clones) fz tab 1000 50
def itoa (n:Nat):ByteArray:=cond (Nat.blt n 10) ⟨#[UInt8.ofNat (48+n)]⟩ ⟨#[UInt8.ofNat (48+n / 10),UInt8.ofNat (48+n % 10)]⟩
theorem itoa_run:((List.range 64).map fun n:Nat=>run0 43 [vi n])=(List.range 64).map fun n:Nat=>.ok (.v (.string (itoa n))):=by kernel_rfl
theorem itoa_ok (n:Nat) (h:n < 64):VPure Tryd.prog 43 [vi n] (.v (.string (itoa n))):=by
 have:=congrArg (fun l=>l[n]?) itoa_run
 simp only [List.getElem?_map,List.getElem?_range h,Option.map_some,Option.some.injEq] at this
 exact vpure_runR hm clones_ok fz tab_ok 1000 50 this
def F43:Int→Option ByteArray:=fun n=>cond (decide (0≤n)&&decide (n < 64)) (some (itoa n.toNat)) none
def pe43:PE:=⟨43,.co (.v (.i .i64)) .no,.v .s,F43⟩
theorem f43_ok (v:Int) (y:ByteArray) (h:F43 v=some y):VPure Tryd.prog 43 [vi v] (.v (.string y)):=by
 obtain ⟨hg,hk⟩:=guard_some h
 simp only [Bool.and_eq_true,decide_eq_true_eq] at hg
 cases hk
 obtain ⟨n,rfl⟩:∃ n:Nat,v=n:=⟨v.toNat,by omega⟩
 exact itoa_ok n (by omega)
theorem pe43_ok:pe43.ok Tryd.prog:=⟨rfl,rfl,rfl,rfl,rfl,fun v y h=>f43_ok v y h⟩
theorem awake_run:run0 11 []=.ok (vb true):=by kernel_rfl
theorem awake_ok:VPure Tryd.prog 11 [] (vb true):=vpure_runR hm clones_ok fz tab_ok 1000 50 awake_run
def F11:Unit→Option Bool:=fun _=>some true
def pe11:PE:=⟨11,.no,.v .b,F11⟩
theorem pe11_ok:pe11.ok Tryd.prog:=⟨rfl,rfl,rfl,rfl,rfl,fun v y h=>by cases h; exact awake_ok⟩
end Go.Proofs.YtianfmdemgfgaaaDoor.VL
end
section
namespace Go.Proofs.YtianfmdemgfgaaaDoor.VL
open Go
set_option maxRecDepth 100000
set_option linter.unusedVariables false
set_option linter.unusedSectionVars false
variable [Val]
noncomputable section
abbrev tza1:TT:=(.p (.i .u64) (.p (.i .i64) (.i .i64)))

abbrev xi (n:Nat) (o:IOp):XO:=⟨⟨some n,o,none⟩,.b,[],[]⟩
abbrev xg (n:Nat) (o:IOp) (m:Nat) (b:Bool):XO:=⟨⟨some n,o,some (m,b)⟩,.b,[],[]⟩
abbrev xz (o:IOp):XO:=⟨⟨none,o,none⟩,.b,[],[]⟩
abbrev xm (n k:Nat):XO:=xi n (.mov (.t k))
def xf28:FX:=⟨(.seq (.reg [(xi 4 (.mov (.c (.v (.int .i64 0)))))]) (.seq (.reg [(xi 5 (.mov (.c (.v (.int .i64 0)))))]) (.seq (.seq (.reg [(xi 6 (.mov (.c (.v (.int .i64 0)))))]) (.blk 0 (.loop ⟨[5,6,7,8,9,10,11,12,13,14,15,16,17,18,19,20],[],⟨[],[(5,.v (.i .i64)),(6,.v (.i .i64))],[]⟩⟩ (.seq (.seq (.reg [(xm 7 6),(xm 8 0),(xi 9 (.len (.t 8))),(xi 10 (.bin .lss (.t 7) (.t 9)))]) (.cond (.t 10) .skip (.exit 0))) (.seq (.cutN ⟨[5,13,14,15,16,17,18,19,20],[],⟨[],[(5,.v (.i .i64))],[]⟩⟩ (.blk 1 (.seq (.reg [(xm 13 0),(xm 14 6),(xi 15 (.iad 1 (.t 13) (.t 14))),(xi 16 (.load false 1 (.t 15))),(xm 17 1),(xi 18 (.bin .eql (.t 16) (.t 17)))]) (.cond (.t 18) (.reg [(xm 19 5),(xi 20 (.bin .add (.t 19) (.c (.v (.int .i64 1))))),(xm 5 20)]) .skip)))) (.reg [(xm 11 6),(xi 12 (.bin .add (.t 11) (.c (.v (.int .i64 1))))),(xm 6 12)])))))) (.seq (.reg [(xm 21 5),(xm 4 21)]) .ret)))),[],22,[.t 4],1⟩
theorem xf28_ok:xf28.ok Tryd.prog 28:=⟨_,_,Tryd.func28,rfl,by kernel_rfl,rfl,by kernel_rfl,rfl,by kernel_rfl,by kernel_rfl⟩
def tb28:List PE:=[]
theorem tb28_ok:PEsOk Tryd.prog tb28:=trivial
def ex28:List EX:=[]
theorem ex28_ok:EXsOk Tryd.prog ex28:=trivial
def in28:List IN:=[]
theorem in28_ok:INsOk Tryd.prog in28:=trivial
def F28:DT ((.co (.v (.sl (.i .i64))) (.co (.v (.i .i64)) .no)):Fm).den→Option (DT (.v (.i .i64):Fm).den):=pureT tb28 ex28 in28 0 xf28 _ _ []
def pe28:PE:=⟨28,(.co (.v (.sl (.i .i64))) (.co (.v (.i .i64)) .no)),.v (.i .i64),F28⟩
theorem pe28_ok:pe28.ok Tryd.prog:=pe_of hm tb28_ok ex28_ok in28_ok xf28_ok (by kernel_rfl) (fun _=>rfl)
def xf35:FX:=⟨(.seq (.reg [(xi 2 (.mov (.c (.v (.bool false)))))]) (.seq (.seq (.reg [(xi 3 (.mov (.c (.v (.int .i64 0)))))]) (.blk 0 (.loop ⟨[2,3,4,5,6,7,8,9,10,11,12,13,14,15,16,17,18,19,20,21,22,23,24,25,26,27,28,29,30],[],⟨[],[(3,.v (.i .i64))],[]⟩⟩ (.seq (.seq (.reg [(xm 4 3),(xm 5 0),(xi 6 (.len (.t 5))),(xi 7 (.bin .lss (.t 4) (.t 6)))]) (.cond (.t 7) .skip (.exit 0))) (.seq (.cut ⟨[2,10,11,12,13,14,15,16,17,18,19,20,21,22,23,24,25,26,27,28,29,30],[],⟨[],[],[]⟩⟩ (.blk 1 (.seq (.cutN ⟨[10,11,12,13,14,15,16,17,18,19,20,21,22,23,24,25,26,27,28,29,30],[],⟨[],[(30,.v .b)],[]⟩⟩ (.reg [(xm 10 0),(xm 11 3),(xi 12 (.iad 1 (.t 10) (.t 11))),(xi 13 (.load false 1 (.t 12))),(xi 14 (.bin .lss (.t 13) (.c (.v (.int .i64 0))))),(xm 15 14),(xg 16 (.mov (.t 0)) 15 false),(xg 17 (.mov (.t 3)) 15 false),(xg 18 (.iad 1 (.t 16) (.t 17)) 15 false),(xg 19 (.load false 1 (.t 18)) 15 false),(xg 20 (.bin .gtr (.t 19) (.c (.v (.int .i64 63)))) 15 false),(xi 21 (.pick (.t 15) (.c (.v (.bool true))) (.t 20))),(xm 22 21),(xg 23 (.mov (.t 0)) 22 false),(xg 24 (.mov (.t 0)) 22 false),(xg 25 (.mov (.t 3)) 22 false),(xg 26 (.iad 1 (.t 24) (.t 25)) 22 false),(xg 27 (.load false 1 (.t 26)) 22 false),(xg 28 (.call 0 28 [(.t 23),(.t 27)]) 22 false),(xg 29 (.bin .neq (.t 28) (.c (.v (.int .i64 1)))) 22 false),(xi 30 (.pick (.t 22) (.c (.v (.bool true))) (.t 29)))])) (.cond (.t 30) (.seq (.reg [(xi 2 (.mov (.c (.v (.bool false)))))]) .ret) .skip)))) (.reg [(xm 8 3),(xi 9 (.bin .add (.t 8) (.c (.v (.int .i64 1))))),(xm 3 9)])))))) (.seq (.reg [(xi 2 (.mov (.c (.v (.bool true)))))]) .ret))),[28],31,[.t 2],2⟩
theorem xf35_ok:xf35.ok Tryd.prog 35:=⟨_,_,Tryd.func35,rfl,by kernel_rfl,rfl,by kernel_rfl,rfl,by kernel_rfl,by kernel_rfl⟩
def tb35:List PE:=[pe28]
theorem tb35_ok:PEsOk Tryd.prog tb35:=⟨pe28_ok,trivial⟩
def ex35:List EX:=[]
theorem ex35_ok:EXsOk Tryd.prog ex35:=trivial
def in35:List IN:=[]
theorem in35_ok:INsOk Tryd.prog in35:=trivial
def F35:DT ((.co (.v (.sl (.i .i64))) .no):Fm).den→Option (DT (.v .b:Fm).den):=pureT tb35 ex35 in35 0 xf35 _ _ []
def pe35:PE:=⟨35,(.co (.v (.sl (.i .i64))) .no),.v .b,F35⟩
theorem pe35_ok:pe35.ok Tryd.prog:=pe_of hm tb35_ok ex35_ok in35_ok xf35_ok (by kernel_rfl) (fun _=>rfl)
def xf20:FX:=⟨(.seq (.reg [(xi 2 (.mov (.c (.v (.bool false)))))]) (.seq (.cut ⟨[2,3,4,5,6,7,8,9,10,11,12,13,14,15,16,17,18,19],[],⟨[],[],[]⟩⟩ (.seq (.reg [(xi 3 (.mov (.c (.v (.int .i64 1)))))]) (.blk 0 (.loop ⟨[2,3,4,5,6,7,8,9,10,11,12,13,14,15,16,17,18,19],[],⟨[],[(3,.v (.i .i64))],[]⟩⟩ (.seq (.seq (.reg [(xm 4 3),(xm 5 0),(xi 6 (.len (.t 5))),(xi 7 (.bin .lss (.t 4) (.t 6)))]) (.cond (.t 7) .skip (.exit 0))) (.seq (.blk 1 (.seq (.rdr [(xm 10 0),(xm 11 3),(xi 12 (.iad 1 (.t 10) (.t 11))),(xi 13 (.load false 1 (.t 12))),(xm 14 0),(xm 15 3),(xi 16 (.bin .sub (.t 15) (.c (.v (.int .i64 1))))),(xi 17 (.iad 1 (.t 14) (.t 16))),(xi 18 (.load false 1 (.t 17))),(xi 19 (.bin .leq (.t 13) (.t 18)))]) (.cond (.t 19) (.seq (.reg [(xi 2 (.mov (.c (.v (.bool false)))))]) .ret) .skip))) (.reg [(xm 8 3),(xi 9 (.bin .add (.t 8) (.c (.v (.int .i64 1))))),(xm 3 9)]))))))) (.seq (.reg [(xm 20 0),(xi 21 (.len (.t 20))),(xi 22 (.bin .leq (.t 21) (.c (.v (.int .i64 64))))),(xm 23 22),(xg 24 (.mov (.t 0)) 23 true),(xg 25 (.call 0 35 [(.t 24)]) 23 true),(xi 26 (.pick (.t 23) (.t 25) (.c (.v (.bool false))))),(xm 2 26)]) .ret))),[25],27,[.t 2],2⟩
theorem xf20_ok:xf20.ok Tryd.prog 20:=⟨_,_,Tryd.func20,rfl,by kernel_rfl,rfl,by kernel_rfl,rfl,by kernel_rfl,by kernel_rfl⟩
def tb20:List PE:=[pe35]
theorem tb20_ok:PEsOk Tryd.prog tb20:=⟨pe35_ok,trivial⟩
def ex20:List EX:=[]
theorem ex20_ok:EXsOk Tryd.prog ex20:=trivial
def in20:List IN:=[]
theorem in20_ok:INsOk Tryd.prog in20:=trivial
def F20:DT ((.co (.v (.sl (.i .i64))) .no):Fm).den→Option (DT (.v .b:Fm).den):=pureT tb20 ex20 in20 0 xf20 _ _ []
def pe20:PE:=⟨20,(.co (.v (.sl (.i .i64))) .no),.v .b,F20⟩
theorem pe20_ok:pe20.ok Tryd.prog:=pe_of hm tb20_ok ex20_ok in20_ok xf20_ok (by kernel_rfl) (fun _=>rfl)
def xf49:FX:=⟨(.seq (.reg [(xi 2 (.mov (.c (.v (.bool false)))))]) (.seq (.reg [⟨⟨(some 3),(.alloc 0 (.agg [(.v (.bool false)),(.v (.bool false)),(.v (.bool false)),(.v (.bool false)),(.v (.bool false)),(.v (.bool false)),(.v (.bool false)),(.v (.bool false)),(.v (.bool false)),(.v (.bool false)),(.v (.bool false)),(.v (.bool false)),(.v (.bool false)),(.v (.bool false)),(.v (.bool false)),(.v (.bool false)),(.v (.bool false)),(.v (.bool false)),(.v (.bool false)),(.v (.bool false)),(.v (.bool false)),(.v (.bool false)),(.v (.bool false)),(.v (.bool false)),(.v (.bool false)),(.v (.bool false)),(.v (.bool false)),(.v (.bool false)),(.v (.bool false)),(.v (.bool false)),(.v (.bool false)),(.v (.bool false)),(.v (.bool false)),(.v (.bool false)),(.v (.bool false)),(.v (.bool false)),(.v (.bool false)),(.v (.bool false)),(.v (.bool false)),(.v (.bool false)),(.v (.bool false)),(.v (.bool false)),(.v (.bool false)),(.v (.bool false)),(.v (.bool false)),(.v (.bool false)),(.v (.bool false)),(.v (.bool false)),(.v (.bool false)),(.v (.bool false)),(.v (.bool false)),(.v (.bool false)),(.v (.bool false)),(.v (.bool false)),(.v (.bool false)),(.v (.bool false)),(.v (.bool false)),(.v (.bool false)),(.v (.bool false)),(.v (.bool false)),(.v (.bool false)),(.v (.bool false)),(.v (.bool false)),(.v (.bool false))])),none⟩,(.ar .b),[],[]⟩]) (.seq (.seq (.reg [(xm 6 0),(xi 7 (.len (.t 6))),(xi 8 (.mov (.c (.v (.int .i64 0)))))]) (.blk 0 (.loop ⟨[2,5,8,9,10,11,12,13,14,15,16,17,18,19,20,21,22,23,24,25],[0],⟨[],[(8,.v (.i .i64))],[⟨0,.row (.v (.ar .b)),true⟩]⟩⟩ (.seq (.reg [(xi 9 (.bin .lss (.t 8) (.t 7)))]) (.seq (.cond (.t 9) .skip (.exit 0)) (.seq (.cut ⟨[2,5,10,11,12,13,14,15,16,17,18,19,20,21,22,23,24],[0],⟨[],[],[⟨0,.row (.v (.ar .b)),true⟩]⟩⟩ (.blk 1 (.seq (.reg [(xi 10 (.iad 1 (.t 6) (.t 8))),(xi 11 (.load false 1 (.t 10))),(xm 5 11)]) (.seq (.cut ⟨[2,12,13,14,15,16,17,18,19,20,21,22],[],⟨[],[],[]⟩⟩ (.seq (.cutN ⟨[12,13,14,15,16,17,18,19,20,21,22],[],⟨[],[(22,.v .b)],[]⟩⟩ (.reg [(xm 12 5),(xi 13 (.bin .lss (.t 12) (.c (.v (.int .i64 0))))),(xm 14 13),(xg 15 (.mov (.t 5)) 14 false),(xg 16 (.bin .geq (.t 15) (.c (.v (.int .i64 64)))) 14 false),(xi 17 (.pick (.t 14) (.c (.v (.bool true))) (.t 16))),(xm 18 17),(xg 19 (.mov (.t 5)) 18 false),(xg 20 (.iaA 64 1 (.t 3) (.t 19)) 18 false),(xg 21 (.load false 1 (.t 20)) 18 false),(xi 22 (.pick (.t 18) (.c (.v (.bool true))) (.t 21)))])) (.cond (.t 22) (.seq (.reg [(xi 2 (.mov (.c (.v (.bool false)))))]) .ret) .skip))) (.reg [(xm 23 5),(xi 24 (.iaA 64 1 (.t 3) (.t 23))),(xz (.store 1 (.t 24) (.c (.v (.bool true)))))]))))) (.reg [(xi 25 (.bin .add (.t 8) (.c (.v (.int .i64 1))))),(xm 8 25)]))))))) (.seq (.reg [(xi 2 (.mov (.c (.v (.bool true)))))]) .ret)))),[3],26,[.t 2],2⟩
theorem xf49_ok:xf49.ok Tryd.prog 49:=⟨_,_,Tryd.func49,rfl,by kernel_rfl,rfl,by kernel_rfl,rfl,by kernel_rfl,by kernel_rfl⟩
def tb49:List PE:=[]
theorem tb49_ok:PEsOk Tryd.prog tb49:=trivial
def ex49:List EX:=[]
theorem ex49_ok:EXsOk Tryd.prog ex49:=trivial
def in49:List IN:=[]
theorem in49_ok:INsOk Tryd.prog in49:=trivial
def F49:DT ((.co (.v (.sl (.i .i64))) .no):Fm).den→Option (DT (.v .b:Fm).den):=pureT tb49 ex49 in49 0 xf49 _ _ []
def pe49:PE:=⟨49,(.co (.v (.sl (.i .i64))) .no),.v .b,F49⟩
theorem pe49_ok:pe49.ok Tryd.prog:=pe_of hm tb49_ok ex49_ok in49_ok xf49_ok (by kernel_rfl) (fun _=>rfl)
def xf50:FX:=⟨(.seq (.reg [(xi 2 (.mov (.c (.v (.bool false)))))]) (.seq (.seq (.reg [(xm 4 0),(xi 5 (.len (.t 4))),(xi 6 (.bin .sub (.t 5) (.c (.v (.int .i64 1))))),(xm 3 6)]) (.blk 0 (.loop ⟨[2,3,7,8,9,10,11,12,13,14,15,16,17,18,19,20],[2,3,4,5,6],⟨[],[(3,.v (.i .i64))],[]⟩⟩ (.seq (.seq (.reg [(xm 7 3),(xi 8 (.bin .gtr (.t 7) (.c (.v (.int .i64 0)))))]) (.cond (.t 8) .skip (.exit 0))) (.seq (.blk 1 (.seq (.dr [] [(xm 11 0),(xm 12 3),(xi 13 (.iad 1 (.t 11) (.t 12))),(xi 14 (.load false 1 (.t 13))),(xm 15 0),(xm 16 3),(xi 17 (.bin .sub (.t 16) (.c (.v (.int .i64 1))))),(xi 18 (.iad 1 (.t 15) (.t 17))),(xi 19 (.load false 1 (.t 18))),⟨⟨(some 20),(.callG 0 62 [(.t 14),(.t 19)]),none⟩,.b,[],[2,3,4,5,6]⟩]) (.cond (.t 20) (.seq (.reg [(xi 2 (.mov (.c (.v (.bool false)))))]) .ret) .skip))) (.reg [(xm 9 3),(xi 10 (.bin .sub (.t 9) (.c (.v (.int .i64 1))))),(xm 3 10)])))))) (.seq (.reg [(xi 2 (.mov (.c (.v (.bool true)))))]) .ret))),[20],21,[.t 2],7⟩
theorem xf50_ok:xf50.ok Tryd.prog 50:=⟨_,_,Tryd.func50,rfl,by kernel_rfl,rfl,by kernel_rfl,rfl,by kernel_rfl,by kernel_rfl⟩
def ff62:FX:=⟨(.seq (.reg [(xi 4 (.mov (.c (.v (.bool false)))))]) (.seq (.reg [(xm 5 0),(xi 6 (.call 0 75 [(.t 5)])),(xm 7 6),(xg 8 (.mov (.t 1)) 7 true),(xg 9 (.call 1 75 [(.t 8)]) 7 true),(xg 10 (.un .not (.t 9)) 7 true),(xi 11 (.pick (.t 7) (.t 10) (.c (.v (.bool false))))),(xm 12 11),(xg 13 (.mov (.t 0)) 12 false),(xg 14 (.mov (.t 1)) 12 false),(xg 15 (.bin .lss (.t 13) (.t 14)) 12 false),(xi 16 (.pick (.t 12) (.c (.v (.bool true))) (.t 15))),(xm 4 16)]) .ret)),[6,9],17,[.t 4],3⟩
theorem ff62_ok:ff62.ok Tryd.prog 62:=⟨_,_,Tryd.func62,rfl,by kernel_rfl,rfl,by kernel_rfl,rfl,by kernel_rfl,by kernel_rfl⟩
def ff75:FX:=⟨(.seq (.reg [(xi 2 (.mov (.c (.v (.bool false)))))]) (.seq (.reg [(xm 3 0),(xm 4 0),(xi 5 (.bin .neq (.t 3) (.t 4))),(xm 2 5)]) .ret)),[],6,[.t 2],1⟩
theorem ff75_ok:ff75.ok Tryd.prog 75:=⟨_,_,Tryd.func75,rfl,by kernel_rfl,rfl,by kernel_rfl,rfl,by kernel_rfl,by kernel_rfl⟩
def tb50:List PE:=[]
theorem tb50_ok:PEsOk Tryd.prog tb50:=trivial
def ex50:List EX:=[]
theorem ex50_ok:EXsOk Tryd.prog ex50:=trivial
def in50:List IN:=[⟨0,62,2,ff62,some ⟨[0,1,2,3,4,5,6,7,8,9,10,11,12,13,14,15,16],[2,3,4,5,6],⟨[],[(4,.v .b)],[]⟩⟩⟩,⟨2,75,5,ff75,none⟩,⟨3,75,6,ff75,none⟩]
theorem in50_ok:INsOk Tryd.prog in50:=⟨ff62_ok,ff75_ok,ff75_ok,trivial⟩
def F50:DT ((.co (.v (.sl (.i .i64))) .no):Fm).den→Option (DT (.v .b:Fm).den):=pureT tb50 ex50 in50 9 xf50 _ _ []
def pe50:PE:=⟨50,(.co (.v (.sl (.i .i64))) .no),.v .b,F50⟩
theorem pe50_ok:pe50.ok Tryd.prog:=pe_of hm tb50_ok ex50_ok in50_ok xf50_ok (by kernel_rfl) (fun _=>rfl)
def xf41:FX:=⟨(.seq (.reg [(xi 2 (.mov (.c (.v (.int .i64 0)))))]) (.seq (.seq (.cutN ⟨[3,4,5,6,7,8,9,10],[],⟨[],[(10,.v .b)],[]⟩⟩ (.reg [(xm 3 0),(xi 4 (.call 0 49 [(.t 3)])),(xi 5 (.un .not (.t 4))),(xm 6 5),(xg 7 (.mov (.t 0)) 6 false),(xg 8 (.call 1 50 [(.t 7)]) 6 false),(xg 9 (.un .not (.t 8)) 6 false),(xi 10 (.pick (.t 6) (.c (.v (.bool true))) (.t 9)))])) (.cond (.t 10) (.seq (.reg [(xi 2 (.mov (.c (.v (.int .i64 1)))))]) .ret) .skip)) (.seq (.reg [(xi 2 (.mov (.c (.v (.int .i64 0)))))]) .ret))),[4,8],11,[.t 2],3⟩
theorem xf41_ok:xf41.ok Tryd.prog 41:=⟨_,_,Tryd.func41,rfl,by kernel_rfl,rfl,by kernel_rfl,rfl,by kernel_rfl,by kernel_rfl⟩
def tb41:List PE:=[pe49,pe50]
theorem tb41_ok:PEsOk Tryd.prog tb41:=⟨pe49_ok,pe50_ok,trivial⟩
def ex41:List EX:=[]
theorem ex41_ok:EXsOk Tryd.prog ex41:=trivial
def in41:List IN:=[]
theorem in41_ok:INsOk Tryd.prog in41:=trivial
def F41:DT ((.co (.v (.sl (.i .i64))) .no):Fm).den→Option (DT (.v (.i .i64):Fm).den):=pureT tb41 ex41 in41 0 xf41 _ _ []
def pe41:PE:=⟨41,(.co (.v (.sl (.i .i64))) .no),.v (.i .i64),F41⟩
theorem pe41_ok:pe41.ok Tryd.prog:=pe_of hm tb41_ok ex41_ok in41_ok xf41_ok (by kernel_rfl) (fun _=>rfl)
def xf51:FX:=⟨(.seq (.reg [(xi 4 (.mov (.c (.v (.int .u64 0)))))]) (.seq (.seq (.reg [(xm 6 1),(xi 7 (.lenS (.t 6))),(xi 8 (.mov (.c (.v (.int .i64 0)))))]) (.blk 0 (.loop ⟨[0,5,8,9,10,11,12,13,14,15,16,17,18],[],⟨[],[(0,.v (.i .u64)),(8,.v (.i .i64))],[]⟩⟩ (.seq (.reg [(xi 9 (.bin .lss (.t 8) (.t 7)))]) (.seq (.cond (.t 9) .skip (.exit 0)) (.seq (.blk 1 (.seq (.reg [(xm 10 8),(xm 5 10)]) (.reg [(xm 11 0),(xm 12 1),(xm 13 5),(xi 14 (.ixS (.t 12) (.t 13))),(xi 15 (.conv .u64 (.t 14))),(xi 16 (.bin .xor (.t 11) (.t 15))),(xi 17 (.bin .mul (.t 16) (.c (.v (.int .u64 1099511628211))))),(xm 0 17)]))) (.reg [(xi 18 (.bin .add (.t 8) (.c (.v (.int .i64 1))))),(xm 8 18)]))))))) (.seq (.reg [(xm 19 0),(xm 4 19)]) .ret))),[],20,[.t 4],1⟩
theorem xf51_ok:xf51.ok Tryd.prog 51:=⟨_,_,Tryd.func51,rfl,by kernel_rfl,rfl,by kernel_rfl,rfl,by kernel_rfl,by kernel_rfl⟩
def tb51:List PE:=[]
theorem tb51_ok:PEsOk Tryd.prog tb51:=trivial
def ex51:List EX:=[]
theorem ex51_ok:EXsOk Tryd.prog ex51:=trivial
def in51:List IN:=[]
theorem in51_ok:INsOk Tryd.prog in51:=trivial
def F51:DT ((.co (.v (.i .u64)) (.co (.v .s) .no)):Fm).den→Option (DT (.v (.i .u64):Fm).den):=pureT tb51 ex51 in51 0 xf51 _ _ []
def pe51:PE:=⟨51,(.co (.v (.i .u64)) (.co (.v .s) .no)),.v (.i .u64),F51⟩
theorem pe51_ok:pe51.ok Tryd.prog:=pe_of hm tb51_ok ex51_ok in51_ok xf51_ok (by kernel_rfl) (fun _=>rfl)
def xf42:FX:=⟨(.seq (.reg [(xi 2 (.mov (.c (.v (.int .u64 0)))))]) (.seq (.reg [(xi 3 (.mov (.c (.v (.int .u64 14695981039346656037)))))]) (.seq (.seq (.reg [(xm 6 0),(xi 7 (.len (.t 6))),(xi 8 (.mov (.c (.v (.int .i64 0)))))]) (.blk 0 (.loop ⟨[3,5,8,9,10,11,12,13,14,15],[],⟨[],[(3,.v (.i .u64)),(8,.v (.i .i64))],[]⟩⟩ (.seq (.reg [(xi 9 (.bin .lss (.t 8) (.t 7)))]) (.seq (.cond (.t 9) .skip (.exit 0)) (.seq (.blk 1 (.seq (.reg [(xi 10 (.iad 1 (.t 6) (.t 8))),(xi 11 (.load false 1 (.t 10))),(xm 5 11)]) (.reg [(xm 12 3),(xm 13 5),(xi 14 (.call 0 51 [(.t 12),(.t 13)])),(xm 3 14)]))) (.reg [(xi 15 (.bin .add (.t 8) (.c (.v (.int .i64 1))))),(xm 8 15)]))))))) (.seq (.reg [(xm 16 3),(xm 2 16)]) .ret)))),[14],17,[.t 2],2⟩
theorem xf42_ok:xf42.ok Tryd.prog 42:=⟨_,_,Tryd.func42,rfl,by kernel_rfl,rfl,by kernel_rfl,rfl,by kernel_rfl,by kernel_rfl⟩
def tb42:List PE:=[pe51]
theorem tb42_ok:PEsOk Tryd.prog tb42:=⟨pe51_ok,trivial⟩
def ex42:List EX:=[]
theorem ex42_ok:EXsOk Tryd.prog ex42:=trivial
def in42:List IN:=[]
theorem in42_ok:INsOk Tryd.prog in42:=trivial
def F42:DT ((.co (.v (.sl .s)) .no):Fm).den→Option (DT (.v (.i .u64):Fm).den):=pureT tb42 ex42 in42 0 xf42 _ _ []
def pe42:PE:=⟨42,(.co (.v (.sl .s)) .no),.v (.i .u64),F42⟩
theorem pe42_ok:pe42.ok Tryd.prog:=pe_of hm tb42_ok ex42_ok in42_ok xf42_ok (by kernel_rfl) (fun _=>rfl)
def xf56:FX:=⟨(.seq (.reg [(xi 4 (.mov (.c (.v (.int .i64 0)))))]) (.seq (.reg [(xm 7 0),(xi 8 (.call 0 74 [(.t 7)])),(xm 5 8)]) (.seq (.reg [(xm 9 1),(xi 10 (.call 1 74 [(.t 9)])),(xm 6 10)]) (.seq (.seq (.reg [(xm 11 5)]) (.cond (.t 11) (.seq (.seq (.reg [(xm 12 6)]) (.cond (.t 12) (.seq (.reg [(xi 4 (.mov (.c (.v (.int .i64 0)))))]) .ret) .skip)) (.seq (.reg [(xi 4 (.mov (.c (.v (.int .i64 (-1))))))]) .ret)) .skip)) (.seq (.seq (.reg [(xm 13 6)]) (.cond (.t 13) (.seq (.reg [(xi 4 (.mov (.c (.v (.int .i64 1)))))]) .ret) .skip)) (.seq (.seq (.reg [(xm 14 0),(xm 15 1),(xi 16 (.bin .lss (.t 14) (.t 15)))]) (.cond (.t 16) (.seq (.reg [(xi 4 (.mov (.c (.v (.int .i64 (-1))))))]) .ret) .skip)) (.seq (.seq (.reg [(xm 17 0),(xm 18 1),(xi 19 (.bin .gtr (.t 17) (.t 18)))]) (.cond (.t 19) (.seq (.reg [(xi 4 (.mov (.c (.v (.int .i64 1)))))]) .ret) .skip)) (.seq (.reg [(xi 4 (.mov (.c (.v (.int .i64 0)))))]) .ret)))))))),[8,10],20,[.t 4],5⟩
theorem xf56_ok:xf56.ok Tryd.prog 56:=⟨_,_,Tryd.func56,rfl,by kernel_rfl,rfl,by kernel_rfl,rfl,by kernel_rfl,by kernel_rfl⟩
def ff74:FX:=⟨(.seq (.reg [(xi 2 (.mov (.c (.v (.bool false)))))]) (.seq (.reg [(xm 3 0),(xm 4 0),(xi 5 (.bin .neq (.t 3) (.t 4))),(xm 2 5)]) .ret)),[],6,[.t 2],1⟩
theorem ff74_ok:ff74.ok Tryd.prog 74:=⟨_,_,Tryd.func74,rfl,by kernel_rfl,rfl,by kernel_rfl,rfl,by kernel_rfl,by kernel_rfl⟩
def tb56:List PE:=[]
theorem tb56_ok:PEsOk Tryd.prog tb56:=trivial
def ex56:List EX:=[]
theorem ex56_ok:EXsOk Tryd.prog ex56:=trivial
def in56:List IN:=[⟨0,74,3,ff74,none⟩,⟨1,74,4,ff74,none⟩]
theorem in56_ok:INsOk Tryd.prog in56:=⟨ff74_ok,ff74_ok,trivial⟩
def F56:DT ((.co (.v (.i .u64)) (.co (.v (.i .u64)) .no)):Fm).den→Option (DT (.v (.i .i64):Fm).den):=pureT tb56 ex56 in56 9 xf56 _ _ []
def pe56:PE:=⟨56,(.co (.v (.i .u64)) (.co (.v (.i .u64)) .no)),.v (.i .i64),F56⟩
theorem pe56_ok:pe56.ok Tryd.prog:=pe_of hm tb56_ok ex56_ok in56_ok xf56_ok (by kernel_rfl) (fun _=>rfl)
def xf55:FX:=⟨(.seq (.reg [(xi 2 (.mov (.c (.v (.int .i64 0)))))]) (.seq (.reg [(xi 3 (.mov (.c (.v (.int .i64 0)))))]) (.seq (.seq (.reg [(xm 6 0),(xi 7 (.len (.t 6))),(xi 8 (.mov (.c (.v (.int .i64 0)))))]) (.blk 0 (.loop ⟨[2,5,8,9,10,11,12,13,14,15,16],[],⟨[],[(8,.v (.i .i64))],[]⟩⟩ (.seq (.reg [(xi 9 (.bin .lss (.t 8) (.t 7)))]) (.seq (.cond (.t 9) .skip (.exit 0)) (.seq (.blk 1 (.seq (.reg [(xi 10 (.iad 1 (.t 6) (.t 8))),(xi 11 (.load false 1 (.t 10))),(xm 5 11)]) (.seq (.reg [(xm 12 5),(xm 13 3),(xi 14 (.bin .neq (.t 12) (.t 13)))]) (.cond (.t 14) (.seq (.reg [(xm 15 5),(xm 2 15)]) .ret) .skip)))) (.reg [(xi 16 (.bin .add (.t 8) (.c (.v (.int .i64 1))))),(xm 8 16)]))))))) (.seq (.reg [(xm 17 3),(xm 2 17)]) .ret)))),[],18,[.t 2],1⟩
theorem xf55_ok:xf55.ok Tryd.prog 55:=⟨_,_,Tryd.func55,rfl,by kernel_rfl,rfl,by kernel_rfl,rfl,by kernel_rfl,by kernel_rfl⟩
def tb55:List PE:=[]
theorem tb55_ok:PEsOk Tryd.prog tb55:=trivial
def ex55:List EX:=[]
theorem ex55_ok:EXsOk Tryd.prog ex55:=trivial
def in55:List IN:=[]
theorem in55_ok:INsOk Tryd.prog in55:=trivial
def F55:DT ((.co (.v (.sl (.i .i64))) .no):Fm).den→Option (DT (.v (.i .i64):Fm).den):=pureT tb55 ex55 in55 0 xf55 _ _ []
def pe55:PE:=⟨55,(.co (.v (.sl (.i .i64))) .no),.v (.i .i64),F55⟩
theorem pe55_ok:pe55.ok Tryd.prog:=pe_of hm tb55_ok ex55_ok in55_ok xf55_ok (by kernel_rfl) (fun _=>rfl)
def xf57:FX:=⟨(.seq (.reg [(xi 4 (.mov (.c (.v (.int .i64 0)))))]) (.seq (.reg [(xm 7 0),(xi 8 (.call 0 75 [(.t 7)])),(xm 5 8)]) (.seq (.reg [(xm 9 1),(xi 10 (.call 1 75 [(.t 9)])),(xm 6 10)]) (.seq (.seq (.reg [(xm 11 5)]) (.cond (.t 11) (.seq (.seq (.reg [(xm 12 6)]) (.cond (.t 12) (.seq (.reg [(xi 4 (.mov (.c (.v (.int .i64 0)))))]) .ret) .skip)) (.seq (.reg [(xi 4 (.mov (.c (.v (.int .i64 (-1))))))]) .ret)) .skip)) (.seq (.seq (.reg [(xm 13 6)]) (.cond (.t 13) (.seq (.reg [(xi 4 (.mov (.c (.v (.int .i64 1)))))]) .ret) .skip)) (.seq (.seq (.reg [(xm 14 0),(xm 15 1),(xi 16 (.bin .lss (.t 14) (.t 15)))]) (.cond (.t 16) (.seq (.reg [(xi 4 (.mov (.c (.v (.int .i64 (-1))))))]) .ret) .skip)) (.seq (.seq (.reg [(xm 17 0),(xm 18 1),(xi 19 (.bin .gtr (.t 17) (.t 18)))]) (.cond (.t 19) (.seq (.reg [(xi 4 (.mov (.c (.v (.int .i64 1)))))]) .ret) .skip)) (.seq (.reg [(xi 4 (.mov (.c (.v (.int .i64 0)))))]) .ret)))))))),[8,10],20,[.t 4],5⟩
theorem xf57_ok:xf57.ok Tryd.prog 57:=⟨_,_,Tryd.func57,rfl,by kernel_rfl,rfl,by kernel_rfl,rfl,by kernel_rfl,by kernel_rfl⟩
def tb57:List PE:=[]
theorem tb57_ok:PEsOk Tryd.prog tb57:=trivial
def ex57:List EX:=[]
theorem ex57_ok:EXsOk Tryd.prog ex57:=trivial
def in57:List IN:=[⟨0,75,3,ff75,none⟩,⟨1,75,4,ff75,none⟩]
theorem in57_ok:INsOk Tryd.prog in57:=⟨ff75_ok,ff75_ok,trivial⟩
def F57:DT ((.co (.v (.i .i64)) (.co (.v (.i .i64)) .no)):Fm).den→Option (DT (.v (.i .i64):Fm).den):=pureT tb57 ex57 in57 9 xf57 _ _ []
def pe57:PE:=⟨57,(.co (.v (.i .i64)) (.co (.v (.i .i64)) .no)),.v (.i .i64),F57⟩
theorem pe57_ok:pe57.ok Tryd.prog:=pe_of hm tb57_ok ex57_ok in57_ok xf57_ok (by kernel_rfl) (fun _=>rfl)
def xf45:FX:=⟨(.seq (.reg [(xi 2 (.box 0 3 (.t 0))),(xi 3 (.box 1 3 (.t 1))),(xi 4 (.mov (.c (.v (.int .i64 0)))))]) (.seq (.dr [(6,4),(8,4),(11,4),(11,9),(13,4),(13,9)] [(xi 5 (.fad 0 (.t 2))),(xi 6 (.load false 1 (.t 5))),(xi 7 (.fad 0 (.t 3))),(xi 8 (.load false 1 (.t 7))),(xi 9 (.callG 2 56 [(.t 6),(.t 8)])),(xi 10 (.fad 1 (.t 2))),(xi 11 (.load false 1 (.t 10))),(xi 12 (.fad 1 (.t 3))),(xi 13 (.load false 1 (.t 12))),(xi 14 (.callG 3 57 [(.t 11),(.t 13)])),(xi 15 (.fad 2 (.t 2))),(xi 16 (.load false 1 (.t 15))),(xi 17 (.fad 2 (.t 3))),(xi 18 (.load false 1 (.t 17))),(xi 19 (.callG 4 57 [(.t 16),(.t 18)])),(xi 20 (.bsl 1 (.v (.int .i64 0)) 3 [(0,(.t 9)),(1,(.t 14)),(2,(.t 19))])),(xi 21 (.callG 5 55 [(.t 20)])),(xm 4 21)]) .ret)),[2,3,9,14,19,21],22,[.t 4],7⟩
theorem xf45_ok:xf45.ok Tryd.prog 45:=⟨_,_,Tryd.func45,rfl,by kernel_rfl,rfl,by kernel_rfl,rfl,by kernel_rfl,by kernel_rfl⟩
def tb45:List PE:=[pe55,pe56,pe57]
theorem tb45_ok:PEsOk Tryd.prog tb45:=⟨pe55_ok,pe56_ok,pe57_ok,trivial⟩
def ex45:List EX:=[]
theorem ex45_ok:EXsOk Tryd.prog ex45:=trivial
def in45:List IN:=[]
theorem in45_ok:INsOk Tryd.prog in45:=trivial
def F45:DT ((.co (.v tza1) (.co (.v tza1) .no)):Fm).den→Option (DT (.v (.i .i64):Fm).den):=pureT tb45 ex45 in45 0 xf45 _ _ []
def pe45:PE:=⟨45,(.co (.v tza1) (.co (.v tza1) .no)),.v (.i .i64),F45⟩
theorem pe45_ok:pe45.ok Tryd.prog:=pe_of hm tb45_ok ex45_ok in45_ok xf45_ok (by kernel_rfl) (fun _=>rfl)
def xf58:FX:=⟨(.seq (.reg [(xi 2 (.mov (.c (.v (.int .i64 0)))))]) (.seq (.seq (.reg [(xm 5 0),(xi 6 (.len (.t 5))),(xi 7 (.bin .gtr (.t 6) (.c (.v (.int .i64 2048)))))]) (.cond (.t 7) (.seq (.reg [(xi 2 (.mov (.c (.v (.int .i64 1)))))]) .ret) .skip)) (.seq (.seq (.reg [(xm 8 0),(xi 9 (.len (.t 8))),(xi 10 (.mov (.c (.v (.int .i64 0)))))]) (.blk 0 (.loop ⟨[2,3,4,10,11,12,13,14,15,16,17,18,19,20,21,22,23,24,25,26,27,28,29,30,31,32,33,34,35,36,37],[0],⟨[],[(10,.v (.i .i64))],[]⟩⟩ (.seq (.reg [(xi 11 (.bin .lss (.t 10) (.t 9)))]) (.seq (.cond (.t 11) .skip (.exit 0)) (.seq (.cut ⟨[2,3,4,12,13,14,15,16,17,18,19,20,21,22,23,24,25,26,27,28,29,30,31,32,33,34,35,36],[0],⟨[],[],[]⟩⟩ (.blk 1 (.seq (.reg [(xm 12 10),(xi 13 (.iad 3 (.t 8) (.t 10))),(xi 14 (.load true 3 (.t 13))),(xi 4 (.alloc 0 (.agg [(.v (.int .u64 0)),(.v (.int .i64 0)),(.v (.int .i64 0))]))),(xm 3 12),(xz (.store 3 (.t 4) (.t 14)))]) (.seq (.cutN ⟨[15,16,17,18,19,20,21,22,23,24,25,26,27,28,29,30,31,32,33,34,35,36],[],⟨[],[(36,.v .b)],[]⟩⟩ (.dr [] [(xi 15 (.fad 1 (.t 4))),(xi 16 (.load false 1 (.t 15))),(xi 17 (.bin .lss (.t 16) (.c (.v (.int .i64 0))))),(xm 18 17),(xg 19 (.fad 1 (.t 4)) 18 false),(xg 20 (.load false 1 (.t 19)) 18 false),(xg 21 (.bin .geq (.t 20) (.c (.v (.int .i64 64)))) 18 false),(xi 22 (.pick (.t 18) (.c (.v (.bool true))) (.t 21))),(xm 23 22),(xg 24 (.mov (.t 3)) 23 false),(xg 25 (.bin .gtr (.t 24) (.c (.v (.int .i64 0)))) 23 false),(xg 26 (.mov (.t 25)) 23 false),(xg 27 (.mov (.t 0)) 26 true),(xg 28 (.mov (.t 3)) 26 true),(xg 29 (.bin .sub (.t 28) (.c (.v (.int .i64 1)))) 26 true),(xg 30 (.iad 3 (.t 27) (.t 29)) 26 true),(xg 31 (.load true 3 (.t 30)) 26 true),(xg 32 (.load true 3 (.t 4)) 26 true),(xg 33 (.callG 1 45 [(.t 31),(.t 32)]) 26 true),(xg 34 (.bin .geq (.t 33) (.c (.v (.int .i64 0)))) 26 true),(xg 35 (.pick (.t 26) (.t 34) (.c (.v (.bool false)))) 23 false),(xi 36 (.pick (.t 23) (.c (.v (.bool true))) (.t 35)))])) (.cond (.t 36) (.seq (.reg [(xi 2 (.mov (.c (.v (.int .i64 1)))))]) .ret) .skip))))) (.reg [(xi 37 (.bin .add (.t 10) (.c (.v (.int .i64 1))))),(xm 10 37)]))))))) (.seq (.reg [(xi 2 (.mov (.c (.v (.int .i64 0)))))]) .ret)))),[4,33],38,[.t 2],3⟩
theorem xf58_ok:xf58.ok Tryd.prog 58:=⟨_,_,Tryd.func58,rfl,by kernel_rfl,rfl,by kernel_rfl,rfl,by kernel_rfl,by kernel_rfl⟩
def tb58:List PE:=[pe45]
theorem tb58_ok:PEsOk Tryd.prog tb58:=⟨pe45_ok,trivial⟩
def ex58:List EX:=[]
theorem ex58_ok:EXsOk Tryd.prog ex58:=trivial
def in58:List IN:=[]
theorem in58_ok:INsOk Tryd.prog in58:=trivial
def F58:DT ((.co (.v (.sl tza1)) .no):Fm).den→Option (DT (.v (.i .i64):Fm).den):=pureT tb58 ex58 in58 0 xf58 _ _ []
def pe58:PE:=⟨58,(.co (.v (.sl tza1)) .no),.v (.i .i64),F58⟩
theorem pe58_ok:pe58.ok Tryd.prog:=pe_of hm tb58_ok ex58_ok in58_ok xf58_ok (by kernel_rfl) (fun _=>rfl)
def xf46:FX:=⟨(.seq (.reg [(xi 4 (.mov (.c (.v (.int .i64 0))))),(xi 5 (.mov (.c (.v (.int .i64 0)))))]) (.seq (.blk 0 (.seq (.reg [(xm 9 0),(xi 10 (.call 0 58 [(.t 9)])),(xi 11 (.bin .neq (.t 10) (.c (.v (.int .i64 0))))),(xm 8 11)]) (.cond (.t 8) (.seq (.reg [(xi 4 (.mov (.c (.v (.int .i64 0))))),(xi 5 (.mov (.c (.v (.int .i64 1)))))]) .ret) (.seq (.reg [(xm 13 0),(xi 14 (.len (.t 13))),(xi 15 (.bin .eql (.t 14) (.c (.v (.int .i64 0))))),(xm 12 15)]) (.cond (.t 12) (.seq (.reg [(xi 4 (.mov (.c (.v (.int .i64 0))))),(xi 5 (.mov (.c (.v (.int .i64 6)))))]) .ret) .skip))))) (.seq (.reg [(xm 17 0),(xm 18 1),⟨⟨(some 19),(.bsl 1 (.v (.string ⟨#[]⟩)) 1 [(0,(.t 18))]),none⟩,.b,[],[]⟩,(xi 20 (.call 1 42 [(.t 19)])),(xi 21 (.call 2 59 [(.t 17),(.t 20),(.c (.clo 60 [] []))])),(xm 16 21),(xi 22 (.ext (.t 16) 0)),(xi 23 (.ext (.t 16) 1)),(xm 6 22),(xm 7 23)]) (.seq (.reg [(xm 24 6),(xm 25 0),(xi 26 (.len (.t 25))),(xi 27 (.bin .rem (.t 24) (.t 26))),(xm 4 27),(xi 5 (.mov (.c (.v (.int .i64 0)))))]) .ret)))),[10,20,21],28,[.t 4,.t 5],13⟩
theorem xf46_ok:xf46.ok Tryd.prog 46:=⟨_,_,Tryd.func46,rfl,by kernel_rfl,rfl,by kernel_rfl,rfl,by kernel_rfl,by kernel_rfl⟩
def ff59:FX:=⟨(.seq (.reg [(xi 6 (.mov (.c (.v (.int .i64 0))))),(xi 7 (.mov (.c (.v (.bool false)))))]) (.seq (.reg [(xm 12 0),(xi 13 (.len (.t 12))),(xm 8 13)]) (.seq (.reg [(xm 14 8),(xi 9 (.mov (.c (.v (.int .i64 0))))),(xm 10 14)]) (.seq (.cutN ⟨[9,10,11,15,16,17,18,19,20,21,22,23,24,25,26,27,28,29,30,31,32,33,34],[7,8,9],⟨[],[(9,.v (.i .i64))],[]⟩⟩ (.blk 0 (.loop ⟨[9,10,11,15,16,17,18,19,20,21,22,23,24,25,26,27,28,29,30,31,32,33,34],[7,8,9],⟨[],[(9,.v (.i .i64)),(10,.v (.i .i64))],[]⟩⟩ (.seq (.seq (.reg [(xm 15 9),(xm 16 10),(xi 17 (.bin .lss (.t 15) (.t 16)))]) (.cond (.t 17) .skip (.exit 0))) (.blk 1 (.seq (.reg [(xm 18 9),(xm 19 10),(xi 20 (.bin .add (.t 18) (.t 19))),(xi 21 (.conv .u64 (.t 20))),(xi 22 (.bin .shr (.t 21) (.c (.v (.int .u64 1))))),(xi 23 (.conv .i64 (.t 22))),(xm 11 23)]) (.seq (.reg [(xm 24 2),(xm 25 0),(xm 26 11),(xi 27 (.iad 3 (.t 25) (.t 26))),(xi 28 (.load true 3 (.t 27))),(xm 29 1),(xi 30 (.callv 0 (.t 24) [(.t 28),(.t 29)])),(xi 31 (.bin .lss (.t 30) (.c (.v (.int .i64 0)))))]) (.cond (.t 31) (.reg [(xm 32 11),(xi 33 (.bin .add (.t 32) (.c (.v (.int .i64 1))))),(xm 9 33)]) (.reg [(xm 34 11),(xm 10 34)]))))))))) (.seq (.reg [(xm 35 9),(xm 36 9),(xm 37 8),(xi 38 (.bin .lss (.t 36) (.t 37))),(xm 39 38),(xg 40 (.mov (.t 2)) 39 true),(xg 41 (.mov (.t 0)) 39 true),(xg 42 (.mov (.t 9)) 39 true),(xg 43 (.iad 3 (.t 41) (.t 42)) 39 true),(xg 44 (.load true 3 (.t 43)) 39 true),(xg 45 (.mov (.t 1)) 39 true),(xg 46 (.callv 1 (.t 40) [(.t 44),(.t 45)]) 39 true),(xg 47 (.bin .eql (.t 46) (.c (.v (.int .i64 0)))) 39 true),(xi 48 (.pick (.t 39) (.t 47) (.c (.v (.bool false))))),(xm 6 35),(xm 7 48)]) .ret))))),[30,46],49,[.t 6,.t 7],3⟩
theorem ff59_ok:ff59.ok Tryd.prog 59:=⟨_,_,Tryd.func59,rfl,by kernel_rfl,rfl,by kernel_rfl,rfl,by kernel_rfl,by kernel_rfl⟩
def ff60:FX:=⟨(.seq (.reg [(xi 2 (.box 0 3 (.t 0))),(xi 4 (.mov (.c (.v (.int .i64 0)))))]) (.seq (.reg [(xi 5 (.fad 0 (.t 2))),(xi 6 (.load false 1 (.t 5))),(xm 7 1),(xi 8 (.call 1 56 [(.t 6),(.t 7)])),(xm 4 8)]) .ret)),[2,8],9,[.t 4],3⟩
theorem ff60_ok:ff60.ok Tryd.prog 60:=⟨_,_,Tryd.func60,rfl,by kernel_rfl,rfl,by kernel_rfl,rfl,by kernel_rfl,by kernel_rfl⟩
def tb46:List PE:=[pe42,pe56,pe58]
theorem tb46_ok:PEsOk Tryd.prog tb46:=⟨pe42_ok,pe56_ok,pe58_ok,trivial⟩
def ex46:List EX:=[]
theorem ex46_ok:EXsOk Tryd.prog ex46:=trivial
def in46:List IN:=[⟨2,59,4,ff59,some ⟨[0,1,2,3,4,5,6,7,8,9,10,11,12,13,14,15,16,17,18,19,20,21,22,23,24,25,26,27,28,29,30,31,32,33,34,35,36,37,38,39,40,41,42,43,44,45,46,47,48],[4,5,6,7,8,9,10,11,12],⟨[],[(6,.v (.i .i64)),(7,.v .b)],[]⟩⟩⟩,⟨4,60,7,ff60,none⟩,⟨5,60,10,ff60,none⟩]
theorem in46_ok:INsOk Tryd.prog in46:=⟨ff59_ok,ff60_ok,ff60_ok,trivial⟩
def F46:DT ((.co (.v (.sl tza1)) (.co (.v .s) .no)):Fm).den→Option (DT (.tup (.co (.v (.i .i64)) (.co (.v (.i .i64)) .no)):Fm).den):=pureT tb46 ex46 in46 9 xf46 _ _ []
def pe46:PE:=⟨46,(.co (.v (.sl tza1)) (.co (.v .s) .no)),.tup (.co (.v (.i .i64)) (.co (.v (.i .i64)) .no)),F46⟩
theorem pe46_ok:pe46.ok Tryd.prog:=pe_of hm tb46_ok ex46_ok in46_ok xf46_ok (by kernel_rfl) (fun _=>rfl)
def xf30:FX:=⟨(.seq (.reg [(xi 4 (.mov (.c (.sl true [])))),(xi 5 (.mov (.c (.v (.int .i64 0)))))]) (.seq (.reg [(xm 13 0),(xm 14 1),(xi 15 (.call 0 46 [(.t 13),(.t 14)])),(xm 12 15),(xi 16 (.ext (.t 12) 0)),(xi 17 (.ext (.t 12) 1)),(xm 6 16),(xm 7 17)]) (.seq (.seq (.reg [(xm 18 7),(xi 19 (.bin .neq (.t 18) (.c (.v (.int .i64 0)))))]) (.cond (.t 19) (.seq (.reg [(xm 20 7),(xi 4 (.mov (.c (.sl true [])))),(xm 5 20)]) .ret) .skip)) (.seq (.reg [⟨⟨(some 8),(.alloc 1 (.agg [(.v (.bool false)),(.v (.bool false)),(.v (.bool false)),(.v (.bool false)),(.v (.bool false)),(.v (.bool false)),(.v (.bool false)),(.v (.bool false)),(.v (.bool false)),(.v (.bool false)),(.v (.bool false)),(.v (.bool false)),(.v (.bool false)),(.v (.bool false)),(.v (.bool false)),(.v (.bool false)),(.v (.bool false)),(.v (.bool false)),(.v (.bool false)),(.v (.bool false)),(.v (.bool false)),(.v (.bool false)),(.v (.bool false)),(.v (.bool false)),(.v (.bool false)),(.v (.bool false)),(.v (.bool false)),(.v (.bool false)),(.v (.bool false)),(.v (.bool false)),(.v (.bool false)),(.v (.bool false)),(.v (.bool false)),(.v (.bool false)),(.v (.bool false)),(.v (.bool false)),(.v (.bool false)),(.v (.bool false)),(.v (.bool false)),(.v (.bool false)),(.v (.bool false)),(.v (.bool false)),(.v (.bool false)),(.v (.bool false)),(.v (.bool false)),(.v (.bool false)),(.v (.bool false)),(.v (.bool false)),(.v (.bool false)),(.v (.bool false)),(.v (.bool false)),(.v (.bool false)),(.v (.bool false)),(.v (.bool false)),(.v (.bool false)),(.v (.bool false)),(.v (.bool false)),(.v (.bool false)),(.v (.bool false)),(.v (.bool false)),(.v (.bool false)),(.v (.bool false)),(.v (.bool false)),(.v (.bool false))])),none⟩,(.ar .b),[],[]⟩]) (.seq (.reg [(xi 9 (.mov (.c (.sl true []))))]) (.seq (.seq (.reg [(xm 21 0),(xi 22 (.len (.t 21))),(xi 23 (.mov (.c (.v (.int .i64 0)))))]) (.blk 0 (.loop ⟨[9,10,11,23,24,25,26,27,28,29,30,31,32,33,34,35,36,37,38,39,40,41,42,43,44,45,46],[1,2],⟨[],[(9,.ow 2 1),(23,.v (.i .i64))],[⟨1,.row (.v (.ar .b)),true⟩,⟨2,.rows (.i .i64) 1,false⟩]⟩⟩ (.seq (.reg [(xi 24 (.bin .lss (.t 23) (.t 22)))]) (.seq (.cond (.t 24) .skip (.exit 0)) (.seq (.cutN ⟨[9,10,11,25,26,27,28,29,30,31,32,33,34,35,36,37,38,39,40,41,42,43,44,45],[1,2],⟨[],[(9,.ow 2 1)],[⟨1,.row (.v (.ar .b)),true⟩,⟨2,.rows (.i .i64) 1,false⟩]⟩⟩ (.blk 1 (.seq (.reg [(xm 25 23),(xm 10 25)]) (.seq (.reg [(xm 26 0),(xm 27 6),(xm 28 10),(xi 29 (.bin .add (.t 27) (.t 28))),(xm 30 0),(xi 31 (.len (.t 30))),(xi 32 (.bin .rem (.t 29) (.t 31))),(xi 33 (.iad 3 (.t 26) (.t 32))),(xi 34 (.fad 1 (.t 33))),(xi 35 (.load false 1 (.t 34))),(xm 11 35)]) (.seq (.reg [(xm 36 11),(xi 37 (.iaA 64 1 (.t 8) (.t 36))),(xi 38 (.load false 1 (.t 37))),(xi 39 (.un .not (.t 38)))]) (.cond (.t 39) (.seq (.reg [(xm 40 11),(xi 41 (.iaA 64 1 (.t 8) (.t 40))),(xz (.store 1 (.t 41) (.c (.v (.bool true)))))]) (.reg [(xm 42 9),(xm 43 11),(xi 44 (.bsl 1 (.v (.int .i64 0)) 1 [(0,(.t 43))])),⟨⟨(some 45),(.app 2 1 8 (.v (.int .i64 0)) (.t 42) (.t 44)),none⟩,(.i .i64),[],[]⟩,(xm 9 45)])) .skip)))))) (.reg [(xi 46 (.bin .add (.t 23) (.c (.v (.int .i64 1))))),(xm 23 46)]))))))) (.seq (.reg [(xm 47 9),(xm 4 47),(xi 5 (.mov (.c (.v (.int .i64 0)))))]) .ret))))))),[15,8,45],48,[.t 4,.t 5],4⟩
theorem xf30_ok:xf30.ok Tryd.prog 30:=⟨_,_,Tryd.func30,rfl,by kernel_rfl,rfl,by kernel_rfl,rfl,by kernel_rfl,by kernel_rfl⟩
def tb30:List PE:=[pe46]
theorem tb30_ok:PEsOk Tryd.prog tb30:=⟨pe46_ok,trivial⟩
def ex30:List EX:=[]
theorem ex30_ok:EXsOk Tryd.prog ex30:=trivial
def in30:List IN:=[]
theorem in30_ok:INsOk Tryd.prog in30:=trivial
def F30:DT ((.co (.v (.sl tza1)) (.co (.v .s) .no)):Fm).den→Option (DT (.tup (.co (.v (.sl (.i .i64))) (.co (.v (.i .i64)) .no)):Fm).den):=pureT tb30 ex30 in30 0 xf30 _ _ [2]
def pe30:PE:=⟨30,(.co (.v (.sl tza1)) (.co (.v .s) .no)),.tup (.co (.v (.sl (.i .i64))) (.co (.v (.i .i64)) .no)),F30⟩
theorem pe30_ok:pe30.ok Tryd.prog:=pe_of hm tb30_ok ex30_ok in30_ok xf30_ok (by kernel_rfl) (fun _=>rfl)
def xf61:FX:=⟨(.seq (.reg [(xi 2 (.mov (.c (.v (.int .u64 0)))))]) (.seq (.reg [(xm 5 0),(xi 6 (.bin .shl (.t 5) (.c (.v (.int .u64 40))))),(xm 3 6)]) (.seq (.seq (.reg [(xi 4 (.mov (.c (.v (.int .i64 0)))))]) (.blk 0 (.loop ⟨[3,4,7,8,9,10,11,12,13],[],⟨[],[(3,.v (.i .u64)),(4,.v (.i .i64))],[]⟩⟩ (.seq (.seq (.reg [(xm 7 4),(xi 8 (.bin .lss (.t 7) (.c (.v (.int .i64 435)))))]) (.cond (.t 8) .skip (.exit 0))) (.seq (.blk 1 (.reg [(xm 11 3),(xm 12 0),(xi 13 (.bin .add (.t 11) (.t 12))),(xm 3 13)])) (.reg [(xm 9 4),(xi 10 (.bin .add (.t 9) (.c (.v (.int .i64 1))))),(xm 4 10)])))))) (.seq (.reg [(xm 14 3),(xm 2 14)]) .ret)))),[],15,[.t 2],1⟩
def tb61:List PE:=[]
def ex61:List EX:=[]
def in61:List IN:=[]
def F61:DT ((.co (.v (.i .u64)) .no):Fm).den→Option (DT (.v (.i .u64):Fm).den):=pureT tb61 ex61 in61 0 xf61 _ _ []
def pe61:PE:=⟨61,(.co (.v (.i .u64)) .no),.v (.i .u64),F61⟩
def xf47:FX:=⟨(.seq (.reg [(xi 4 (.mov (.c (.v (.int .u64 0)))))]) (.seq (.seq (.reg [(xi 5 (.mov (.c (.v (.int .i64 0)))))]) (.blk 0 (.loop ⟨[0,5,6,7,8,9,10,11,12,13,14,15,16,17,18],[],⟨[],[(0,.v (.i .u64)),(5,.v (.i .i64))],[]⟩⟩ (.seq (.seq (.reg [(xm 6 5),(xm 7 1),(xi 8 (.lenS (.t 7))),(xi 9 (.bin .lss (.t 6) (.t 8)))]) (.cond (.t 9) .skip (.exit 0))) (.seq (.blk 1 (.reg [(xm 12 0),(xm 13 1),(xm 14 5),(xi 15 (.ixS (.t 13) (.t 14))),(xi 16 (.conv .u64 (.t 15))),(xi 17 (.bin .xor (.t 12) (.t 16))),(xi 18 (.call 0 61 [(.t 17)])),(xm 0 18)])) (.reg [(xm 10 5),(xi 11 (.bin .add (.t 10) (.c (.v (.int .i64 1))))),(xm 5 11)])))))) (.seq (.reg [(xm 19 0),(xm 4 19)]) .ret))),[18],20,[.t 4],2⟩
def tb47:List PE:=[pe61]
def ex47:List EX:=[]
def in47:List IN:=[]
def F47:DT ((.co (.v (.i .u64)) (.co (.v .s) .no)):Fm).den→Option (DT (.v (.i .u64):Fm).den):=pureT tb47 ex47 in47 0 xf47 _ _ []
def pe47:PE:=⟨47,(.co (.v (.i .u64)) (.co (.v .s) .no)),.v (.i .u64),F47⟩
def xf31:FX:=⟨(.seq (.reg [(xi 2 (.mov (.c (.v (.int .u64 0)))))]) (.seq (.reg [⟨⟨(some 3),(.mov (.c (.v (.string ⟨#[]⟩)))),none⟩,.b,[],[]⟩]) (.seq (.seq (.reg [(xi 4 (.mov (.c (.v (.int .i64 0)))))]) (.blk 0 (.loop ⟨[3,4,5,6,7,8,9,10,11,12,13,14,15,16],[],⟨[],[(3,.v .s),(4,.v (.i .i64))],[]⟩⟩ (.seq (.seq (.reg [(xm 5 4),(xm 6 0),(xi 7 (.len (.t 6))),(xi 8 (.bin .lss (.t 5) (.t 7)))]) (.cond (.t 8) .skip (.exit 0))) (.seq (.blk 1 (.reg [(xm 11 3),(xm 12 0),(xm 13 4),(xi 14 (.iad 1 (.t 12) (.t 13))),(xi 15 (.load false 1 (.t 14))),(xi 16 (.bin .add (.t 11) (.t 15))),(xm 3 16)])) (.reg [(xm 9 4),(xi 10 (.bin .add (.t 9) (.c (.v (.int .i64 1))))),(xm 4 10)])))))) (.seq (.reg [(xm 17 3),(xi 18 (.call 0 47 [(.c (.v (.int .u64 14695981039346656037))),(.t 17)])),(xm 2 18)]) .ret)))),[18],19,[.t 2],2⟩
def tb31:List PE:=[pe47]
def ex31:List EX:=[]
def in31:List IN:=[]
def F31:DT ((.co (.v (.sl .s)) .no):Fm).den→Option (DT (.v (.i .u64):Fm).den):=pureT tb31 ex31 in31 0 xf31 _ _ []
def pe31:PE:=⟨31,(.co (.v (.sl .s)) .no),.v (.i .u64),F31⟩
def xf32:FX:=⟨(.seq (.reg [⟨⟨(some 2),(.mov (.c (.v (.string ⟨#[]⟩)))),none⟩,.b,[],[]⟩]) (.seq (.seq (.reg [(xm 3 0),(xi 4 (.bin .lss (.t 3) (.c (.v (.int .i64 10)))))]) (.cond (.t 4) (.seq (.reg [(xm 5 0),(xi 6 (.bin .add (.c (.v (.int .i64 48))) (.t 5))),(xi 7 (.conv .u8 (.t 6))),(xi 8 (.bsl 1 (.v (.int .u8 0)) 1 [(0,(.t 7))])),(xi 9 (.bts (.t 8))),(xm 2 9)]) .ret) .skip)) (.seq (.reg [(xm 10 0),(xi 11 (.bin .quo (.t 10) (.c (.v (.int .i64 10))))),(xi 12 (.call 0 32 [(.t 11)])),(xm 13 0),(xi 14 (.bin .rem (.t 13) (.c (.v (.int .i64 10))))),(xi 15 (.call 1 32 [(.t 14)])),(xi 16 (.bin .add (.t 12) (.t 15))),(xm 2 16)]) .ret))),[12,15],17,[.t 2],3⟩
def tb32 (F:DT ((.co (.v (.i .i64)) .no):Fm).den→Option (DT (.v .s:Fm).den)):List PE:=[⟨32,(.co (.v (.i .i64)) .no),.v .s,F⟩]
def ex32:List EX:=[]
def in32:List IN:=[]
def G32 (F:DT ((.co (.v (.i .i64)) .no):Fm).den→Option (DT (.v .s:Fm).den)):DT ((.co (.v (.i .i64)) .no):Fm).den→Option (DT (.v .s:Fm).den):=pureT (tb32 F) ex32 in32 0 xf32 _ _ []
def K32:Nat→DT ((.co (.v (.i .i64)) .no):Fm).den→Option (DT (.v .s:Fm).den)
 | 0=>fun _=>none
 | k+1=>G32 (K32 k)
def F32:DT ((.co (.v (.i .i64)) .no):Fm).den→Option (DT (.v .s:Fm).den):=K32 12
def pe32:PE:=⟨32,(.co (.v (.i .i64)) .no),.v .s,F32⟩
def xf33:FX:=⟨(.seq (.reg [(xi 2 (.box 0 3 (.t 0))),(xi 3 (.box 1 3 (.t 1))),(xi 4 (.mov (.c (.v (.bool false)))))]) (.seq (.seq (.reg [(xi 5 (.fad 0 (.t 2))),(xi 6 (.load false 1 (.t 5))),(xi 7 (.fad 0 (.t 3))),(xi 8 (.load false 1 (.t 7))),(xi 9 (.bin .neq (.t 6) (.t 8)))]) (.cond (.t 9) (.seq (.reg [(xi 10 (.fad 0 (.t 2))),(xi 11 (.load false 1 (.t 10))),(xi 12 (.fad 0 (.t 3))),(xi 13 (.load false 1 (.t 12))),(xi 14 (.bin .lss (.t 11) (.t 13))),(xm 4 14)]) .ret) .skip)) (.seq (.seq (.reg [(xi 15 (.fad 1 (.t 2))),(xi 16 (.load false 1 (.t 15))),(xi 17 (.fad 1 (.t 3))),(xi 18 (.load false 1 (.t 17))),(xi 19 (.bin .neq (.t 16) (.t 18)))]) (.cond (.t 19) (.seq (.reg [(xi 20 (.fad 1 (.t 2))),(xi 21 (.load false 1 (.t 20))),(xi 22 (.fad 1 (.t 3))),(xi 23 (.load false 1 (.t 22))),(xi 24 (.bin .lss (.t 21) (.t 23))),(xm 4 24)]) .ret) .skip)) (.seq (.reg [(xi 25 (.fad 2 (.t 2))),(xi 26 (.load false 1 (.t 25))),(xi 27 (.fad 2 (.t 3))),(xi 28 (.load false 1 (.t 27))),(xi 29 (.bin .lss (.t 26) (.t 28))),(xm 4 29)]) .ret)))),[2,3],30,[.t 4],3⟩
def tb33:List PE:=[]
def ex33:List EX:=[]
def in33:List IN:=[]
def F33:DT ((.co (.v tza1) (.co (.v tza1) .no)):Fm).den→Option (DT (.v .b:Fm).den):=pureT tb33 ex33 in33 0 xf33 _ _ []
def pe33:PE:=⟨33,(.co (.v tza1) (.co (.v tza1) .no)),.v .b,F33⟩
def xf14:FX:=⟨(.seq (.reg [(xi 4 (.mov (.c (.sl true []))))]) (.seq (.reg [(xi 5 (.mov (.c (.sl true []))))]) (.seq (.seq (.reg [(xi 6 (.mov (.c (.v (.int .i64 0)))))]) (.blk 0 (.loop ⟨[5,6,7,8,9,10,11,12,13,14,15,16,17,18,19,20,21,22,23,24,25,26,27,28,29,30,31,32,33,34,35,36,37,38,39,40,41,42,43,44,45,46,47,48,49,50,51,52,53,54,55,56,57,58,59,60,61,62,63],[3,5,6,7],⟨[],[(5,.v (.sl tza1)),(6,.v (.i .i64))],[]⟩⟩ (.seq (.seq (.reg [(xm 10 6),(xm 11 0),(xi 12 (.len (.t 11))),(xi 13 (.bin .lss (.t 10) (.t 12)))]) (.cond (.t 13) .skip (.exit 0))) (.seq (.cutN ⟨[5,7,8,9,16,17,18,19,20,21,22,23,24,25,26,27,28,29,30,31,32,33,34,35,36,37,38,39,40,41,42,43,44,45,46,47,48,49,50,51,52,53,54,55,56,57,58,59,60,61,62,63],[3,5,6,7],⟨[],[(5,.v (.sl tza1))],[]⟩⟩ (.blk 1 (.seq (.reg [(xi 7 (.mov (.c (.v (.int .i64 0)))))]) (.blk 2 (.loop ⟨[5,7,8,9,16,17,18,19,20,21,22,23,24,25,26,27,28,29,30,31,32,33,34,35,36,37,38,39,40,41,42,43,44,45,46,47,48,49,50,51,52,53,54,55,56,57,58,59,60,61,62,63],[3,5,6,7],⟨[],[(5,.v (.sl tza1)),(7,.v (.i .i64))],[]⟩⟩ (.seq (.seq (.reg [(xm 16 7),(xm 17 1),(xi 18 (.bin .lss (.t 16) (.t 17)))]) (.cond (.t 18) .skip (.exit 2))) (.seq (.cutN ⟨[5,8,9,21,22,23,24,25,26,27,28,29,30,31,32,33,34,35,36,37,38,39,40,41,42,43,44,45,46,47,48,49,50,51,52,53,54,55,56,57,58,59,60,61,62,63],[3,5,6,7],⟨[5,6,7],[(5,.v (.sl tza1))],[]⟩⟩ (.blk 3 (.seq (.dr [(14,4),(14,7),(14,10)] [(xm 21 0),(xm 22 6),(xi 23 (.iad 1 (.t 21) (.t 22))),(xi 24 (.load false 1 (.t 23))),(xi 25 (.callG 0 32 [(.t 24)])),⟨⟨(some 26),(.bin .add (.t 25) (.c (.v (.string ⟨#[47]⟩)))),none⟩,.b,[],[]⟩,(xm 27 7),(xi 28 (.callG 1 32 [(.t 27)])),(xi 29 (.bin .add (.t 26) (.t 28))),⟨⟨(some 30),(.bsl 1 (.v (.string ⟨#[]⟩)) 1 [(0,(.t 29))]),none⟩,.b,[],[]⟩,(xi 31 (.callG 2 31 [(.t 30)])),(xm 32 0),(xm 33 6),(xi 34 (.iad 1 (.t 32) (.t 33))),(xi 35 (.load false 1 (.t 34))),(xm 36 7),(xi 37 (.bld [(.v (.int .u64 0)),(.v (.int .i64 0)),(.v (.int .i64 0))] [(0,1,(.t 31)),(1,1,(.t 35)),(2,1,(.t 36))])),(xi 8 (.mov (.c .dead))),(xi 8 (.box 3 3 (.t 37)))]) (.seq (.reg [(xi 9 (.mov (.c (.v (.int .i64 0)))))]) (.seq (.cutN ⟨[9,38,39,40,41,42,43,44,45,46,47,48,49,50,51],[],⟨[],[(9,.v (.i .i64))],[]⟩⟩ (.blk 4 (.loop ⟨[9,38,39,40,41,42,43,44,45,46,47,48,49,50,51],[],⟨[],[(9,.v (.i .i64))],[]⟩⟩ (.seq (.cut ⟨[38,39,40,41,42,43,44,45,46,47,48,49],[],⟨[],[],[]⟩⟩ (.seq (.cutN ⟨[38,39,40,41,42,43,44,45,46,47,48,49],[],⟨[],[(49,.v .b)],[]⟩⟩ (.dr [] [(xm 38 9),(xm 39 5),(xi 40 (.len (.t 39))),(xi 41 (.bin .lss (.t 38) (.t 40))),(xm 42 41),(xg 43 (.mov (.t 5)) 42 true),(xg 44 (.mov (.t 9)) 42 true),(xg 45 (.iad 3 (.t 43) (.t 44)) 42 true),(xg 46 (.load true 3 (.t 45)) 42 true),(xg 47 (.load true 3 (.t 8)) 42 true),(xg 48 (.callG 4 33 [(.t 46),(.t 47)]) 42 true),(xi 49 (.pick (.t 42) (.t 48) (.c (.v (.bool false)))))])) (.cond (.t 49) .skip (.exit 4)))) (.blk 5 (.reg [(xm 50 9),(xi 51 (.bin .add (.t 50) (.c (.v (.int .i64 1))))),(xm 9 51)])))))) (.dr [(5,4)] [(xi 52 (.bsl 3 (.agg [(.v (.int .u64 0)),(.v (.int .i64 0)),(.v (.int .i64 0))]) 0 [])),(xm 53 5),(xm 54 9),(xi 55 (.slc 3 (.t 53) none (some (.t 54)) none)),⟨⟨(some 56),(.app 5 3 24 (.agg [(.v (.int .u64 0)),(.v (.int .i64 0)),(.v (.int .i64 0))]) (.t 52) (.t 55)),none⟩,tza1,[],[]⟩,(xi 57 (.load true 3 (.t 8))),(xi 58 (.bsl 3 (.agg [(.v (.int .u64 0)),(.v (.int .i64 0)),(.v (.int .i64 0))]) 1 [(0,(.t 57))])),⟨⟨(some 59),(.app 6 3 24 (.agg [(.v (.int .u64 0)),(.v (.int .i64 0)),(.v (.int .i64 0))]) (.t 56) (.t 58)),none⟩,tza1,[],[]⟩,(xm 60 5),(xm 61 9),(xi 62 (.slc 3 (.t 60) (some (.t 61)) none none)),⟨⟨(some 63),(.app 7 3 24 (.agg [(.v (.int .u64 0)),(.v (.int .i64 0)),(.v (.int .i64 0))]) (.t 59) (.t 62)),none⟩,tza1,[],[]⟩,(xm 5 63)])))))) (.reg [(xm 19 7),(xi 20 (.bin .add (.t 19) (.c (.v (.int .i64 1))))),(xm 7 20)])))))))) (.reg [(xm 14 6),(xi 15 (.bin .add (.t 14) (.c (.v (.int .i64 1))))),(xm 6 15)])))))) (.seq (.reg [(xm 64 5),(xm 4 64)]) .ret)))),[25,28,31,8,48,56,59,63],65,[.t 4],9⟩
def tb14:List PE:=[pe31,pe32,pe33]
def ex14:List EX:=[]
def in14:List IN:=[]
def F14:DT ((.co (.v (.sl (.i .i64))) (.co (.v (.i .i64)) .no)):Fm).den→Option (DT (.v (.sl tza1):Fm).den):=pureT tb14 ex14 in14 0 xf14 _ _ []
def xf40:FX:=⟨(.seq (.reg [(xi 2 (.mov (.c (.v (.bool false)))))]) (.seq (.cut ⟨[2,3,4,5,6,7,8,9,10,11,12,13,14,15,16,17,18,19,20,21,22,23,24,25,26,27,28,29,30,31,32],[],⟨[],[],[]⟩⟩ (.seq (.reg [(xi 3 (.mov (.c (.v (.int .i64 0)))))]) (.blk 0 (.loop ⟨[2,3,4,5,6,7,8,9,10,11,12,13,14,15,16,17,18,19,20,21,22,23,24,25,26,27,28,29,30,31,32],[],⟨[],[(3,.v (.i .i64))],[]⟩⟩ (.seq (.seq (.reg [(xm 5 3),(xm 6 0),(xi 7 (.lenS (.t 6))),(xi 8 (.bin .lss (.t 5) (.t 7)))]) (.cond (.t 8) .skip (.exit 0))) (.seq (.cut ⟨[2,4,11,12,13,14,15,16,17,18,19,20,21,22,23,24,25,26,27,28,29,30,31,32],[],⟨[],[],[]⟩⟩ (.blk 1 (.seq (.reg [(xm 11 0),(xm 12 3),(xi 13 (.ixS (.t 11) (.t 12))),(xm 4 13)]) (.seq (.cutN ⟨[14,15,16,17,18,19,20,21,22,23,24,25,26,27,28,29,30,31,32],[],⟨[],[(32,.v .b)],[]⟩⟩ (.reg [(xm 14 4),(xi 15 (.bin .leq (.c (.v (.int .u8 97))) (.t 14))),(xm 16 15),(xg 17 (.mov (.t 4)) 16 true),(xg 18 (.bin .leq (.t 17) (.c (.v (.int .u8 122)))) 16 true),(xi 19 (.pick (.t 16) (.t 18) (.c (.v (.bool false))))),(xm 20 19),(xg 21 (.mov (.t 4)) 20 false),(xg 22 (.bin .leq (.c (.v (.int .u8 48))) (.t 21)) 20 false),(xg 23 (.mov (.t 22)) 20 false),(xg 24 (.mov (.t 4)) 23 true),(xg 25 (.bin .leq (.t 24) (.c (.v (.int .u8 57)))) 23 true),(xg 26 (.pick (.t 23) (.t 25) (.c (.v (.bool false)))) 20 false),(xi 27 (.pick (.t 20) (.c (.v (.bool true))) (.t 26))),(xm 28 27),(xg 29 (.mov (.t 4)) 28 false),(xg 30 (.bin .eql (.t 29) (.c (.v (.int .u8 45)))) 28 false),(xi 31 (.pick (.t 28) (.c (.v (.bool true))) (.t 30))),(xi 32 (.un .not (.t 31)))])) (.cond (.t 32) (.seq (.reg [(xi 2 (.mov (.c (.v (.bool false)))))]) .ret) .skip))))) (.reg [(xm 9 3),(xi 10 (.bin .add (.t 9) (.c (.v (.int .i64 1))))),(xm 3 10)]))))))) (.seq (.reg [(xm 33 0),(xi 34 (.lenS (.t 33))),(xi 35 (.bin .leq (.c (.v (.int .i64 1))) (.t 34))),(xm 36 35),(xg 37 (.mov (.t 0)) 36 true),(xg 38 (.lenS (.t 37)) 36 true),(xg 39 (.bin .leq (.t 38) (.c (.v (.int .i64 20)))) 36 true),(xi 40 (.pick (.t 36) (.t 39) (.c (.v (.bool false))))),(xm 2 40)]) .ret))),[],41,[.t 2],1⟩
theorem xf40_ok:xf40.ok Tryd.prog 40:=⟨_,_,Tryd.func40,rfl,by kernel_rfl,rfl,by kernel_rfl,rfl,by kernel_rfl,by kernel_rfl⟩
def tb40:List PE:=[]
theorem tb40_ok:PEsOk Tryd.prog tb40:=trivial
def ex40:List EX:=[]
theorem ex40_ok:EXsOk Tryd.prog ex40:=trivial
def in40:List IN:=[]
theorem in40_ok:INsOk Tryd.prog in40:=trivial
def F40:DT ((.co (.v .s) .no):Fm).den→Option (DT (.v .b:Fm).den):=pureT tb40 ex40 in40 0 xf40 _ _ []
def pe40:PE:=⟨40,(.co (.v .s) .no),.v .b,F40⟩
theorem pe40_ok:pe40.ok Tryd.prog:=pe_of hm tb40_ok ex40_ok in40_ok xf40_ok (by kernel_rfl) (fun _=>rfl)
def xf26:FX:=⟨(.seq (.reg [(xi 2 (.mov (.c (.v (.bool false)))))]) (.seq (.seq (.reg [(xi 3 (.mov (.c (.v (.int .i64 0)))))]) (.blk 0 (.loop ⟨[2,3,4,5,6,7,8,9,10,11,12,13,14,15,16,17,18,19,20,21,22,23,24,25,26,27,28,29,30,31],[],⟨[],[(3,.v (.i .i64))],[]⟩⟩ (.seq (.seq (.reg [(xm 4 3),(xm 5 0),(xi 6 (.len (.t 5))),(xi 7 (.bin .lss (.t 4) (.t 6)))]) (.cond (.t 7) .skip (.exit 0))) (.seq (.cut ⟨[2,10,11,12,13,14,15,16,17,18,19,20,21,22,23,24,25,26,27,28,29,30,31],[],⟨[],[],[]⟩⟩ (.blk 1 (.seq (.cutN ⟨[10,11,12,13,14,15,16,17,18,19,20,21,22,23,24,25,26,27,28,29,30,31],[],⟨[],[(31,.v .b)],[]⟩⟩ (.dr [] [(xm 10 0),(xm 11 3),(xi 12 (.iad 1 (.t 10) (.t 11))),(xi 13 (.load false 1 (.t 12))),(xi 14 (.callG 0 40 [(.t 13)])),(xi 15 (.un .not (.t 14))),(xm 16 15),(xg 17 (.mov (.t 3)) 16 false),(xg 18 (.bin .gtr (.t 17) (.c (.v (.int .i64 0)))) 16 false),(xg 19 (.mov (.t 18)) 16 false),(xg 20 (.mov (.t 0)) 19 true),(xg 21 (.mov (.t 3)) 19 true),(xg 22 (.iad 1 (.t 20) (.t 21)) 19 true),(xg 23 (.load false 1 (.t 22)) 19 true),(xg 24 (.mov (.t 0)) 19 true),(xg 25 (.mov (.t 3)) 19 true),(xg 26 (.bin .sub (.t 25) (.c (.v (.int .i64 1)))) 19 true),(xg 27 (.iad 1 (.t 24) (.t 26)) 19 true),(xg 28 (.load false 1 (.t 27)) 19 true),(xg 29 (.bin .leq (.t 23) (.t 28)) 19 true),(xg 30 (.pick (.t 19) (.t 29) (.c (.v (.bool false)))) 16 false),(xi 31 (.pick (.t 16) (.c (.v (.bool true))) (.t 30)))])) (.cond (.t 31) (.seq (.reg [(xi 2 (.mov (.c (.v (.bool false)))))]) .ret) .skip)))) (.reg [(xm 8 3),(xi 9 (.bin .add (.t 8) (.c (.v (.int .i64 1))))),(xm 3 9)])))))) (.seq (.reg [(xm 32 0),(xi 33 (.len (.t 32))),(xi 34 (.bin .leq (.t 33) (.c (.v (.int .i64 100))))),(xm 2 34)]) .ret))),[14],35,[.t 2],2⟩
theorem xf26_ok:xf26.ok Tryd.prog 26:=⟨_,_,Tryd.func26,rfl,by kernel_rfl,rfl,by kernel_rfl,rfl,by kernel_rfl,by kernel_rfl⟩
def tb26:List PE:=[pe40]
theorem tb26_ok:PEsOk Tryd.prog tb26:=⟨pe40_ok,trivial⟩
def ex26:List EX:=[]
theorem ex26_ok:EXsOk Tryd.prog ex26:=trivial
def in26:List IN:=[]
theorem in26_ok:INsOk Tryd.prog in26:=trivial
def F26:DT ((.co (.v (.sl .s)) .no):Fm).den→Option (DT (.v .b:Fm).den):=pureT tb26 ex26 in26 0 xf26 _ _ []
def pe26:PE:=⟨26,(.co (.v (.sl .s)) .no),.v .b,F26⟩
theorem pe26_ok:pe26.ok Tryd.prog:=pe_of hm tb26_ok ex26_ok in26_ok xf26_ok (by kernel_rfl) (fun _=>rfl)
def xf10:FX:=⟨(.seq (.reg [(xi 1 (.box 0 5 (.t 0))),(xi 2 (.mov (.c (.v (.bool false)))))]) (.seq (.reg [(xi 3 (.fad 0 (.t 1))),(xi 4 (.load false 1 (.t 3))),(xi 5 (.len (.t 4))),(xi 6 (.bin .geq (.t 5) (.c (.v (.int .i64 1))))),(xm 7 6),(xg 8 (.fad 0 (.t 1)) 7 true),(xg 9 (.load false 1 (.t 8)) 7 true),(xg 10 (.len (.t 9)) 7 true),(xg 11 (.bin .leq (.t 10) (.c (.v (.int .i64 6)))) 7 true),(xi 12 (.pick (.t 7) (.t 11) (.c (.v (.bool false))))),(xm 13 12),(xg 14 (.fad 2 (.t 1)) 13 true),(xg 15 (.load false 1 (.t 14)) 13 true),(xg 16 (.len (.t 15)) 13 true),(xg 17 (.bin .leq (.t 16) (.c (.v (.int .i64 20)))) 13 true),(xi 18 (.pick (.t 13) (.t 17) (.c (.v (.bool false))))),(xm 19 18),(xg 20 (.fad 0 (.t 1)) 19 true),(xg 21 (.load false 1 (.t 20)) 19 true),(xg 22 (.call 1 20 [(.t 21)]) 19 true),(xi 23 (.pick (.t 19) (.t 22) (.c (.v (.bool false))))),(xm 24 23),(xg 25 (.fad 2 (.t 1)) 24 true),(xg 26 (.load false 1 (.t 25)) 24 true),(xg 27 (.call 2 26 [(.t 26)]) 24 true),(xi 28 (.pick (.t 24) (.t 27) (.c (.v (.bool false))))),(xm 29 28),(xg 30 (.fad 1 (.t 1)) 29 true),(xg 31 (.load false 1 (.t 30)) 29 true),(xg 32 (.bin .geq (.t 31) (.c (.v (.int .i64 1)))) 29 true),(xi 33 (.pick (.t 29) (.t 32) (.c (.v (.bool false))))),(xm 34 33),(xg 35 (.fad 1 (.t 1)) 34 true),(xg 36 (.load false 1 (.t 35)) 34 true),(xg 37 (.bin .leq (.t 36) (.c (.v (.int .i64 8)))) 34 true),(xi 38 (.pick (.t 34) (.t 37) (.c (.v (.bool false))))),(xm 2 38)]) .ret)),[1,22,27],39,[.t 2],4⟩
theorem xf10_ok:xf10.ok Tryd.prog 10:=⟨_,_,Tryd.func10,rfl,by kernel_rfl,rfl,by kernel_rfl,rfl,by kernel_rfl,by kernel_rfl⟩
def tb10:List PE:=[pe20,pe26]
theorem tb10_ok:PEsOk Tryd.prog tb10:=⟨pe20_ok,pe26_ok,trivial⟩
def ex10:List EX:=[]
theorem ex10_ok:EXsOk Tryd.prog ex10:=trivial
def in10:List IN:=[]
theorem in10_ok:INsOk Tryd.prog in10:=trivial
def F10:DT ((.co (.v (.p (.sl (.i .i64)) (.p (.i .i64) (.p (.sl .s) (.p (.sl (.p .s (.i .i64))) (.i .i64)))))) .no):Fm).den→Option (DT (.v .b:Fm).den):=pureT tb10 ex10 in10 0 xf10 _ _ []
def pe10:PE:=⟨10,(.co (.v (.p (.sl (.i .i64)) (.p (.i .i64) (.p (.sl .s) (.p (.sl (.p .s (.i .i64))) (.i .i64)))))) .no),.v .b,F10⟩
theorem pe10_ok:pe10.ok Tryd.prog:=pe_of hm tb10_ok ex10_ok in10_ok xf10_ok (by kernel_rfl) (fun _=>rfl)
def xf13:FX:=⟨(.seq (.reg [(xi 4 (.mov (.c (.v (.int .i64 0))))),(xi 5 (.mov (.c (.v (.int .i64 0)))))]) (.seq (.cut ⟨[4,5,6,7,8,9,10,11,12,13,14,15,16,17,18,19],[],⟨[],[],[]⟩⟩ (.seq (.cutN ⟨[6,7,8,9,10,11,12,13,14,15,16,17,18,19],[],⟨[],[(19,.v .b)],[]⟩⟩ (.reg [(xm 6 0),(xi 7 (.bin .lss (.t 6) (.c (.v (.int .i64 0))))),(xm 8 7),(xg 9 (.mov (.t 0)) 8 false),(xg 10 (.bin .gtr (.t 9) (.c (.v (.int .i64 100)))) 8 false),(xi 11 (.pick (.t 8) (.c (.v (.bool true))) (.t 10))),(xm 12 11),(xg 13 (.mov (.t 1)) 12 false),(xg 14 (.bin .lss (.t 13) (.c (.v (.int .i64 1)))) 12 false),(xi 15 (.pick (.t 12) (.c (.v (.bool true))) (.t 14))),(xm 16 15),(xg 17 (.mov (.t 1)) 16 false),(xg 18 (.bin .gtr (.t 17) (.c (.v (.int .i64 64)))) 16 false),(xi 19 (.pick (.t 16) (.c (.v (.bool true))) (.t 18)))])) (.cond (.t 19) (.seq (.reg [(xi 4 (.mov (.c (.v (.int .i64 0))))),(xi 5 (.mov (.c (.v (.int .i64 1)))))]) .ret) .skip))) (.seq (.reg [(xm 20 0),(xi 21 (.bin .mul (.c (.v (.int .i64 5))) (.t 20))),(xm 22 1),(xi 23 (.bin .mul (.c (.v (.int .i64 4))) (.t 22))),(xi 24 (.bin .add (.t 21) (.t 23))),(xi 25 (.bin .sub (.t 24) (.c (.v (.int .i64 1))))),(xm 26 1),(xi 27 (.bin .mul (.c (.v (.int .i64 4))) (.t 26))),(xi 28 (.bin .quo (.t 25) (.t 27))),(xm 4 28),(xi 5 (.mov (.c (.v (.int .i64 0)))))]) .ret))),[],29,[.t 4,.t 5],1⟩
theorem xf13_ok:xf13.ok Tryd.prog 13:=⟨_,_,Tryd.func13,rfl,by kernel_rfl,rfl,by kernel_rfl,rfl,by kernel_rfl,by kernel_rfl⟩
def tb13:List PE:=[]
theorem tb13_ok:PEsOk Tryd.prog tb13:=trivial
def ex13:List EX:=[]
theorem ex13_ok:EXsOk Tryd.prog ex13:=trivial
def in13:List IN:=[]
theorem in13_ok:INsOk Tryd.prog in13:=trivial
def F13:DT ((.co (.v (.i .i64)) (.co (.v (.i .i64)) .no)):Fm).den→Option (DT (.tup (.co (.v (.i .i64)) (.co (.v (.i .i64)) .no)):Fm).den):=pureT tb13 ex13 in13 0 xf13 _ _ []
def pe13:PE:=⟨13,(.co (.v (.i .i64)) (.co (.v (.i .i64)) .no)),.tup (.co (.v (.i .i64)) (.co (.v (.i .i64)) .no)),F13⟩
theorem pe13_ok:pe13.ok Tryd.prog:=pe_of hm tb13_ok ex13_ok in13_ok xf13_ok (by kernel_rfl) (fun _=>rfl)
def xf39:FX:=⟨(.seq (.reg [(xi 2 (.mov (.c (.v (.bool false)))))]) (.seq (.cut ⟨[2,4,5,6,7,8,9,10,11,12,13,14,15,16,17,18,19,20,21,22,23,24,25,26,27,28],[0],⟨[],[],[]⟩⟩ (.seq (.reg [(xm 5 0),(xi 6 (.rngS 0 (.t 5)))]) (.blk 0 (.loop ⟨[2,4,7,8,9,10,11,12,13,14,15,16,17,18,19,20,21,22,23,24,25,26,27,28],[0],⟨[],[],[⟨0,.iter,true⟩]⟩⟩ (.seq (.reg [(xi 7 (.nxtS (.t 6))),(xi 8 (.ext (.t 7) 0))]) (.seq (.cond (.t 8) .skip (.exit 0)) (.blk 1 (.seq (.reg [(xi 9 (.ext (.t 7) 2)),(xm 4 9)]) (.seq (.cutN ⟨[10,11,12,13,14,15,16,17,18,19,20,21,22,23,24,25,26,27,28],[],⟨[],[(28,.v .b)],[]⟩⟩ (.reg [(xm 10 4),(xi 11 (.bin .geq (.t 10) (.c (.v (.int .i32 97))))),(xm 12 11),(xg 13 (.mov (.t 4)) 12 true),(xg 14 (.bin .leq (.t 13) (.c (.v (.int .i32 122)))) 12 true),(xi 15 (.pick (.t 12) (.t 14) (.c (.v (.bool false))))),(xm 16 15),(xg 17 (.mov (.t 4)) 16 false),(xg 18 (.bin .geq (.t 17) (.c (.v (.int .i32 48)))) 16 false),(xg 19 (.mov (.t 18)) 16 false),(xg 20 (.mov (.t 4)) 19 true),(xg 21 (.bin .leq (.t 20) (.c (.v (.int .i32 57)))) 19 true),(xg 22 (.pick (.t 19) (.t 21) (.c (.v (.bool false)))) 16 false),(xi 23 (.pick (.t 16) (.c (.v (.bool true))) (.t 22))),(xm 24 23),(xg 25 (.mov (.t 4)) 24 false),(xg 26 (.bin .eql (.t 25) (.c (.v (.int .i32 45)))) 24 false),(xi 27 (.pick (.t 24) (.c (.v (.bool true))) (.t 26))),(xi 28 (.un .not (.t 27)))])) (.cond (.t 28) (.seq (.reg [(xi 2 (.mov (.c (.v (.bool false)))))]) .ret) .skip)))))))))) (.seq (.reg [(xm 29 0),⟨⟨(some 30),(.bin .neq (.t 29) (.c (.v (.string ⟨#[]⟩)))),none⟩,.b,[],[]⟩,(xm 31 30),(xg 32 (.mov (.t 0)) 31 true),(xg 33 (.lenS (.t 32)) 31 true),(xg 34 (.bin .leq (.t 33) (.c (.v (.int .i64 20)))) 31 true),(xi 35 (.pick (.t 31) (.t 34) (.c (.v (.bool false))))),(xm 2 35)]) .ret))),[6],36,[.t 2],2⟩
theorem xf39_ok:xf39.ok Tryd.prog 39:=⟨_,_,Tryd.func39,rfl,by kernel_rfl,rfl,by kernel_rfl,rfl,by kernel_rfl,by kernel_rfl⟩
def tb39:List PE:=[]
theorem tb39_ok:PEsOk Tryd.prog tb39:=trivial
def ex39:List EX:=[]
theorem ex39_ok:EXsOk Tryd.prog ex39:=trivial
def in39:List IN:=[]
theorem in39_ok:INsOk Tryd.prog in39:=trivial
def F39:DT ((.co (.v .s) .no):Fm).den→Option (DT (.v .b:Fm).den):=pureT tb39 ex39 in39 0 xf39 _ _ []
def pe39:PE:=⟨39,(.co (.v .s) .no),.v .b,F39⟩
theorem pe39_ok:pe39.ok Tryd.prog:=pe_of hm tb39_ok ex39_ok in39_ok xf39_ok (by kernel_rfl) (fun _=>rfl)
def xf25:FX:=⟨(.seq (.reg [(xi 2 (.mov (.c (.v (.int .i64 0)))))]) (.seq (.seq (.reg [(xm 5 0),(xi 6 (.len (.t 5))),(xi 7 (.bin .gtr (.t 6) (.c (.v (.int .i64 100)))))]) (.cond (.t 7) (.seq (.reg [(xi 2 (.mov (.c (.v (.int .i64 1)))))]) .ret) .skip)) (.seq (.seq (.reg [(xm 8 0),(xi 9 (.len (.t 8))),(xi 10 (.mov (.c (.v (.int .i64 0)))))]) (.blk 0 (.loop ⟨[2,3,4,10,11,12,13,14,15,16,17,18,19,20,21,22,23,24,25,26,27,28,29,30,31],[],⟨[],[(10,.v (.i .i64))],[]⟩⟩ (.seq (.reg [(xi 11 (.bin .lss (.t 10) (.t 9)))]) (.seq (.cond (.t 11) .skip (.exit 0)) (.seq (.cut ⟨[2,3,4,12,13,14,15,16,17,18,19,20,21,22,23,24,25,26,27,28,29,30],[],⟨[],[],[]⟩⟩ (.blk 1 (.seq (.reg [(xm 12 10),(xi 13 (.iad 1 (.t 8) (.t 10))),(xi 14 (.load false 1 (.t 13))),(xm 3 12),(xm 4 14)]) (.seq (.cutN ⟨[15,16,17,18,19,20,21,22,23,24,25,26,27,28,29,30],[],⟨[],[(30,.v .b)],[]⟩⟩ (.reg [(xm 15 4),(xi 16 (.call 0 39 [(.t 15)])),(xi 17 (.un .not (.t 16))),(xm 18 17),(xg 19 (.mov (.t 3)) 18 false),(xg 20 (.bin .gtr (.t 19) (.c (.v (.int .i64 0)))) 18 false),(xg 21 (.mov (.t 20)) 18 false),(xg 22 (.mov (.t 0)) 21 true),(xg 23 (.mov (.t 3)) 21 true),(xg 24 (.bin .sub (.t 23) (.c (.v (.int .i64 1)))) 21 true),(xg 25 (.iad 1 (.t 22) (.t 24)) 21 true),(xg 26 (.load false 1 (.t 25)) 21 true),(xg 27 (.mov (.t 4)) 21 true),(xg 28 (.bin .geq (.t 26) (.t 27)) 21 true),(xg 29 (.pick (.t 21) (.t 28) (.c (.v (.bool false)))) 18 false),(xi 30 (.pick (.t 18) (.c (.v (.bool true))) (.t 29)))])) (.cond (.t 30) (.seq (.reg [(xi 2 (.mov (.c (.v (.int .i64 1)))))]) .ret) .skip))))) (.reg [(xi 31 (.bin .add (.t 10) (.c (.v (.int .i64 1))))),(xm 10 31)]))))))) (.seq (.reg [(xi 2 (.mov (.c (.v (.int .i64 0)))))]) .ret)))),[16],32,[.t 2],2⟩
theorem xf25_ok:xf25.ok Tryd.prog 25:=⟨_,_,Tryd.func25,rfl,by kernel_rfl,rfl,by kernel_rfl,rfl,by kernel_rfl,by kernel_rfl⟩
def tb25:List PE:=[pe39]
theorem tb25_ok:PEsOk Tryd.prog tb25:=⟨pe39_ok,trivial⟩
def ex25:List EX:=[]
theorem ex25_ok:EXsOk Tryd.prog ex25:=trivial
def in25:List IN:=[]
theorem in25_ok:INsOk Tryd.prog in25:=trivial
def F25:DT ((.co (.v (.sl .s)) .no):Fm).den→Option (DT (.v (.i .i64):Fm).den):=pureT tb25 ex25 in25 0 xf25 _ _ []
def pe25:PE:=⟨25,(.co (.v (.sl .s)) .no),.v (.i .i64),F25⟩
theorem pe25_ok:pe25.ok Tryd.prog:=pe_of hm tb25_ok ex25_ok in25_ok xf25_ok (by kernel_rfl) (fun _=>rfl)
def xf17:FX:=⟨(.seq (.reg [(xi 4 (.mov (.c (.v (.bool false)))))]) (.seq (.seq (.reg [(xm 6 0),(xi 7 (.len (.t 6))),(xm 8 1),(xi 9 (.len (.t 8))),(xi 10 (.bin .neq (.t 7) (.t 9)))]) (.cond (.t 10) (.seq (.reg [(xi 4 (.mov (.c (.v (.bool false)))))]) .ret) .skip)) (.seq (.seq (.reg [(xi 5 (.mov (.c (.v (.int .i64 0)))))]) (.blk 0 (.loop ⟨[4,5,11,12,13,14,15,16,17,18,19,20,21,22,23,24,25],[],⟨[],[(5,.v (.i .i64))],[]⟩⟩ (.seq (.seq (.reg [(xm 11 5),(xm 12 0),(xi 13 (.len (.t 12))),(xi 14 (.bin .lss (.t 11) (.t 13)))]) (.cond (.t 14) .skip (.exit 0))) (.seq (.blk 1 (.seq (.rdr [(xm 17 0),(xm 18 5),(xi 19 (.iad 2 (.t 17) (.t 18))),(xi 20 (.load true 2 (.t 19))),(xm 21 1),(xm 22 5),(xi 23 (.iad 2 (.t 21) (.t 22))),(xi 24 (.load true 2 (.t 23))),(xi 25 (.eqA true 2 [(0,.s),(1,.i)] (.t 20) (.t 24)))]) (.cond (.t 25) (.seq (.reg [(xi 4 (.mov (.c (.v (.bool false)))))]) .ret) .skip))) (.reg [(xm 15 5),(xi 16 (.bin .add (.t 15) (.c (.v (.int .i64 1))))),(xm 5 16)])))))) (.seq (.reg [(xi 4 (.mov (.c (.v (.bool true)))))]) .ret)))),[],26,[.t 4],1⟩
theorem xf17_ok:xf17.ok Tryd.prog 17:=⟨_,_,Tryd.func17,rfl,by kernel_rfl,rfl,by kernel_rfl,rfl,by kernel_rfl,by kernel_rfl⟩
def tb17:List PE:=[]
theorem tb17_ok:PEsOk Tryd.prog tb17:=trivial
def ex17:List EX:=[]
theorem ex17_ok:EXsOk Tryd.prog ex17:=trivial
def in17:List IN:=[]
theorem in17_ok:INsOk Tryd.prog in17:=trivial
def F17:DT ((.co (.v (.sl (.p .s (.i .i64)))) (.co (.v (.sl (.p .s (.i .i64)))) .no)):Fm).den→Option (DT (.v .b:Fm).den):=pureT tb17 ex17 in17 0 xf17 _ _ []
def pe17:PE:=⟨17,(.co (.v (.sl (.p .s (.i .i64)))) (.co (.v (.sl (.p .s (.i .i64)))) .no)),.v .b,F17⟩
theorem pe17_ok:pe17.ok Tryd.prog:=pe_of hm tb17_ok ex17_ok in17_ok xf17_ok (by kernel_rfl) (fun _=>rfl)
def xf24:FX:=⟨(.seq (.reg [(xi 2 (.mov (.c (.v (.int .i64 0)))))]) (.seq (.reg [(xi 3 (.mov (.c (.sl true []))))]) (.seq (.seq (.reg [(xm 6 0),(xi 7 (.len (.t 6))),(xi 8 (.mov (.c (.v (.int .i64 0)))))]) (.blk 0 (.loop ⟨[2,3,5,8,9,10,11,12,13,14,15,16,17,18,19,20,21,22,23,24,25],[0,1],⟨[],[(3,.ow 1 1),(8,.v (.i .i64))],[⟨1,.rows .s 1,false⟩]⟩⟩ (.seq (.reg [(xi 9 (.bin .lss (.t 8) (.t 7)))]) (.seq (.cond (.t 9) .skip (.exit 0)) (.seq (.cut ⟨[2,3,5,10,11,12,13,14,15,16,17,18,19,20,21,22,23,24],[0,1],⟨[],[(3,.ow 1 1)],[⟨1,.rows .s 1,false⟩]⟩⟩ (.blk 1 (.seq (.reg [(xi 10 (.iad 2 (.t 6) (.t 8))),(xi 11 (.load true 2 (.t 10))),⟨⟨(some 5),(.alloc 0 (.agg [(.v (.string ⟨#[]⟩)),(.v (.int .i64 0))])),none⟩,.b,[],[]⟩,(xz (.store 2 (.t 5) (.t 11)))]) (.seq (.cut ⟨[2,12,13,14,15,16,17,18,19],[],⟨[],[],[]⟩⟩ (.seq (.cutN ⟨[12,13,14,15,16,17,18,19],[],⟨[],[(19,.v .b)],[]⟩⟩ (.reg [(xi 12 (.fad 1 (.t 5))),(xi 13 (.load false 1 (.t 12))),(xi 14 (.bin .lss (.t 13) (.c (.v (.int .i64 0))))),(xm 15 14),(xg 16 (.fad 1 (.t 5)) 15 false),(xg 17 (.load false 1 (.t 16)) 15 false),(xg 18 (.bin .geq (.t 17) (.c (.v (.int .i64 64)))) 15 false),(xi 19 (.pick (.t 15) (.c (.v (.bool true))) (.t 18)))])) (.cond (.t 19) (.seq (.reg [(xi 2 (.mov (.c (.v (.int .i64 1)))))]) .ret) .skip))) (.reg [(xm 20 3),(xi 21 (.fad 0 (.t 5))),(xi 22 (.load false 1 (.t 21))),⟨⟨(some 23),(.bsl 1 (.v (.string ⟨#[]⟩)) 1 [(0,(.t 22))]),none⟩,.b,[],[]⟩,⟨⟨(some 24),(.app 1 1 16 (.v (.string ⟨#[]⟩)) (.t 20) (.t 23)),none⟩,.s,[],[]⟩,(xm 3 24)]))))) (.reg [(xi 25 (.bin .add (.t 8) (.c (.v (.int .i64 1))))),(xm 8 25)]))))))) (.seq (.reg [(xm 26 3),(xi 27 (.call 2 25 [(.t 26)])),(xm 2 27)]) .ret)))),[5,24,27],28,[.t 2],4⟩
theorem xf24_ok:xf24.ok Tryd.prog 24:=⟨_,_,Tryd.func24,rfl,by kernel_rfl,rfl,by kernel_rfl,rfl,by kernel_rfl,by kernel_rfl⟩
def tb24:List PE:=[pe25]
theorem tb24_ok:PEsOk Tryd.prog tb24:=⟨pe25_ok,trivial⟩
def ex24:List EX:=[]
theorem ex24_ok:EXsOk Tryd.prog ex24:=trivial
def in24:List IN:=[]
theorem in24_ok:INsOk Tryd.prog in24:=trivial
def F24:DT ((.co (.v (.sl (.p .s (.i .i64)))) .no):Fm).den→Option (DT (.v (.i .i64):Fm).den):=pureT tb24 ex24 in24 0 xf24 _ _ []
def pe24:PE:=⟨24,(.co (.v (.sl (.p .s (.i .i64)))) .no),.v (.i .i64),F24⟩
theorem pe24_ok:pe24.ok Tryd.prog:=pe_of hm tb24_ok ex24_ok in24_ok xf24_ok (by kernel_rfl) (fun _=>rfl)
def xf48:FX:=⟨(.seq (.reg [(xi 2 (.mov (.c (.v (.bool false)))))]) (.seq (.reg [(xm 3 0),(xm 4 0),(xi 5 (.bin .neq (.t 3) (.t 4))),(xm 2 5)]) .ret)),[],6,[.t 2],1⟩
theorem xf48_ok:xf48.ok Tryd.prog 48:=⟨_,_,Tryd.func48,rfl,by kernel_rfl,rfl,by kernel_rfl,rfl,by kernel_rfl,by kernel_rfl⟩
def tb48:List PE:=[]
theorem tb48_ok:PEsOk Tryd.prog tb48:=trivial
def ex48:List EX:=[]
theorem ex48_ok:EXsOk Tryd.prog ex48:=trivial
def in48:List IN:=[]
theorem in48_ok:INsOk Tryd.prog in48:=trivial
def F48:DT ((.co (.v .s) .no):Fm).den→Option (DT (.v .b:Fm).den):=pureT tb48 ex48 in48 0 xf48 _ _ []
def pe48:PE:=⟨48,(.co (.v .s) .no),.v .b,F48⟩
theorem pe48_ok:pe48.ok Tryd.prog:=pe_of hm tb48_ok ex48_ok in48_ok xf48_ok (by kernel_rfl) (fun _=>rfl)
def xf38:FX:=⟨(.seq (.reg [(xi 4 (.mov (.c (.v (.int .i64 0)))))]) (.seq (.reg [(xm 7 0),(xi 8 (.call 0 48 [(.t 7)])),(xm 5 8)]) (.seq (.reg [(xm 9 1),(xi 10 (.call 1 48 [(.t 9)])),(xm 6 10)]) (.seq (.seq (.reg [(xm 11 5)]) (.cond (.t 11) (.seq (.seq (.reg [(xm 12 6)]) (.cond (.t 12) (.seq (.reg [(xi 4 (.mov (.c (.v (.int .i64 0)))))]) .ret) .skip)) (.seq (.reg [(xi 4 (.mov (.c (.v (.int .i64 (-1))))))]) .ret)) .skip)) (.seq (.seq (.reg [(xm 13 6)]) (.cond (.t 13) (.seq (.reg [(xi 4 (.mov (.c (.v (.int .i64 1)))))]) .ret) .skip)) (.seq (.seq (.reg [(xm 14 0),(xm 15 1),(xi 16 (.bin .lss (.t 14) (.t 15)))]) (.cond (.t 16) (.seq (.reg [(xi 4 (.mov (.c (.v (.int .i64 (-1))))))]) .ret) .skip)) (.seq (.seq (.reg [(xm 17 0),(xm 18 1),(xi 19 (.bin .gtr (.t 17) (.t 18)))]) (.cond (.t 19) (.seq (.reg [(xi 4 (.mov (.c (.v (.int .i64 1)))))]) .ret) .skip)) (.seq (.reg [(xi 4 (.mov (.c (.v (.int .i64 0)))))]) .ret)))))))),[8,10],20,[.t 4],3⟩
theorem xf38_ok:xf38.ok Tryd.prog 38:=⟨_,_,Tryd.func38,rfl,by kernel_rfl,rfl,by kernel_rfl,rfl,by kernel_rfl,by kernel_rfl⟩
def tb38:List PE:=[pe48]
theorem tb38_ok:PEsOk Tryd.prog tb38:=⟨pe48_ok,trivial⟩
def ex38:List EX:=[]
theorem ex38_ok:EXsOk Tryd.prog ex38:=trivial
def in38:List IN:=[]
theorem in38_ok:INsOk Tryd.prog in38:=trivial
def F38:DT ((.co (.v .s) (.co (.v .s) .no)):Fm).den→Option (DT (.v (.i .i64):Fm).den):=pureT tb38 ex38 in38 0 xf38 _ _ []
def pe38:PE:=⟨38,(.co (.v .s) (.co (.v .s) .no)),.v (.i .i64),F38⟩
theorem pe38_ok:pe38.ok Tryd.prog:=pe_of hm tb38_ok ex38_ok in38_ok xf38_ok (by kernel_rfl) (fun _=>rfl)
def xf37:FX:=⟨(.seq (.reg [(xi 2 (.box 0 2 (.t 0))),(xi 4 (.mov (.c (.v (.int .i64 0)))))]) (.seq (.reg [(xi 5 (.fad 0 (.t 2))),(xi 6 (.load false 1 (.t 5))),(xm 7 1),(xi 8 (.call 1 38 [(.t 6),(.t 7)])),(xm 4 8)]) .ret)),[2,8],9,[.t 4],3⟩
theorem xf37_ok:xf37.ok Tryd.prog 37:=⟨_,_,Tryd.func37,rfl,by kernel_rfl,rfl,by kernel_rfl,rfl,by kernel_rfl,by kernel_rfl⟩
def tb37:List PE:=[pe38]
theorem tb37_ok:PEsOk Tryd.prog tb37:=⟨pe38_ok,trivial⟩
def ex37:List EX:=[]
theorem ex37_ok:EXsOk Tryd.prog ex37:=trivial
def in37:List IN:=[]
theorem in37_ok:INsOk Tryd.prog in37:=trivial
def F37:DT ((.co (.v (.p .s (.i .i64))) (.co (.v .s) .no)):Fm).den→Option (DT (.v (.i .i64):Fm).den):=pureT tb37 ex37 in37 0 xf37 _ _ []
def pe37:PE:=⟨37,(.co (.v (.p .s (.i .i64))) (.co (.v .s) .no)),.v (.i .i64),F37⟩
theorem pe37_ok:pe37.ok Tryd.prog:=pe_of hm tb37_ok ex37_ok in37_ok xf37_ok (by kernel_rfl) (fun _=>rfl)
def xf22:FX:=⟨(.seq (.reg [(xi 4 (.mov (.c (.v (.int .i64 0))))),(xi 5 (.mov (.c (.v (.int .i64 0)))))]) (.seq (.seq (.reg [(xm 9 0),(xi 10 (.call 0 24 [(.t 9)])),(xm 6 10)]) (.seq (.reg [(xm 11 6),(xi 12 (.bin .neq (.t 11) (.c (.v (.int .i64 0)))))]) (.cond (.t 12) (.seq (.reg [(xm 13 6),(xi 4 (.mov (.c (.v (.int .i64 0))))),(xm 5 13)]) .ret) .skip))) (.seq (.reg [(xm 15 0),(xm 16 1),(xi 17 (.call 1 36 [(.t 15),(.t 16),(.c (.clo 37 [] []))])),(xm 14 17),(xi 18 (.ext (.t 14) 0)),(xi 19 (.ext (.t 14) 1)),(xm 7 18),(xm 8 19)]) (.seq (.seq (.reg [(xm 20 8),(xi 21 (.un .not (.t 20)))]) (.cond (.t 21) (.seq (.reg [(xi 4 (.mov (.c (.v (.int .i64 0))))),(xi 5 (.mov (.c (.v (.int .i64 6)))))]) .ret) .skip)) (.seq (.reg [(xm 22 0),(xm 23 7),(xi 24 (.iad 2 (.t 22) (.t 23))),(xi 25 (.fad 1 (.t 24))),(xi 26 (.load false 1 (.t 25))),(xm 4 26),(xi 5 (.mov (.c (.v (.int .i64 0)))))]) .ret))))),[10,17],27,[.t 4,.t 5],6⟩
theorem xf22_ok:xf22.ok Tryd.prog 22:=⟨_,_,Tryd.func22,rfl,by kernel_rfl,rfl,by kernel_rfl,rfl,by kernel_rfl,by kernel_rfl⟩
def ff36:FX:=⟨(.seq (.reg [(xi 6 (.mov (.c (.v (.int .i64 0))))),(xi 7 (.mov (.c (.v (.bool false)))))]) (.seq (.reg [(xm 12 0),(xi 13 (.len (.t 12))),(xm 8 13)]) (.seq (.reg [(xm 14 8),(xi 9 (.mov (.c (.v (.int .i64 0))))),(xm 10 14)]) (.seq (.cutN ⟨[9,10,11,15,16,17,18,19,20,21,22,23,24,25,26,27,28,29,30,31,32,33,34],[],⟨[],[(9,.v (.i .i64))],[]⟩⟩ (.blk 0 (.loop ⟨[9,10,11,15,16,17,18,19,20,21,22,23,24,25,26,27,28,29,30,31,32,33,34],[],⟨[],[(9,.v (.i .i64)),(10,.v (.i .i64))],[]⟩⟩ (.seq (.seq (.reg [(xm 15 9),(xm 16 10),(xi 17 (.bin .lss (.t 15) (.t 16)))]) (.cond (.t 17) .skip (.exit 0))) (.blk 1 (.seq (.reg [(xm 18 9),(xm 19 10),(xi 20 (.bin .add (.t 18) (.t 19))),(xi 21 (.conv .u64 (.t 20))),(xi 22 (.bin .shr (.t 21) (.c (.v (.int .u64 1))))),(xi 23 (.conv .i64 (.t 22))),(xm 11 23)]) (.seq (.reg [(xm 24 2),(xm 25 0),(xm 26 11),(xi 27 (.iad 2 (.t 25) (.t 26))),(xi 28 (.load true 2 (.t 27))),(xm 29 1),(xi 30 (.callv 0 (.t 24) [(.t 28),(.t 29)])),(xi 31 (.bin .lss (.t 30) (.c (.v (.int .i64 0)))))]) (.cond (.t 31) (.reg [(xm 32 11),(xi 33 (.bin .add (.t 32) (.c (.v (.int .i64 1))))),(xm 9 33)]) (.reg [(xm 34 11),(xm 10 34)]))))))))) (.seq (.reg [(xm 35 9),(xm 36 9),(xm 37 8),(xi 38 (.bin .lss (.t 36) (.t 37))),(xm 39 38),(xg 40 (.mov (.t 2)) 39 true),(xg 41 (.mov (.t 0)) 39 true),(xg 42 (.mov (.t 9)) 39 true),(xg 43 (.iad 2 (.t 41) (.t 42)) 39 true),(xg 44 (.load true 2 (.t 43)) 39 true),(xg 45 (.mov (.t 1)) 39 true),(xg 46 (.callv 1 (.t 40) [(.t 44),(.t 45)]) 39 true),(xg 47 (.bin .eql (.t 46) (.c (.v (.int .i64 0)))) 39 true),(xi 48 (.pick (.t 39) (.t 47) (.c (.v (.bool false))))),(xm 6 35),(xm 7 48)]) .ret))))),[30,46],49,[.t 6,.t 7],3⟩
theorem ff36_ok:ff36.ok Tryd.prog 36:=⟨_,_,Tryd.func36,rfl,by kernel_rfl,rfl,by kernel_rfl,rfl,by kernel_rfl,by kernel_rfl⟩
def tb22:List PE:=[pe24,pe37]
theorem tb22_ok:PEsOk Tryd.prog tb22:=⟨pe24_ok,pe37_ok,trivial⟩
def ex22:List EX:=[]
theorem ex22_ok:EXsOk Tryd.prog ex22:=trivial
def in22:List IN:=[⟨1,36,3,ff36,some ⟨[0,1,2,3,4,5,6,7,8,9,10,11,12,13,14,15,16,17,18,19,20,21,22,23,24,25,26,27,28,29,30,31,32,33,34,35,36,37,38,39,40,41,42,43,44,45,46,47,48],[3,4,5],⟨[],[(6,.v (.i .i64)),(7,.v .b)],[]⟩⟩⟩]
theorem in22_ok:INsOk Tryd.prog in22:=⟨ff36_ok,trivial⟩
def F22:DT ((.co (.v (.sl (.p .s (.i .i64)))) (.co (.v .s) .no)):Fm).den→Option (DT (.tup (.co (.v (.i .i64)) (.co (.v (.i .i64)) .no)):Fm).den):=pureT tb22 ex22 in22 9 xf22 _ _ []
def pe22:PE:=⟨22,(.co (.v (.sl (.p .s (.i .i64)))) (.co (.v .s) .no)),.tup (.co (.v (.i .i64)) (.co (.v (.i .i64)) .no)),F22⟩
theorem pe22_ok:pe22.ok Tryd.prog:=pe_of hm tb22_ok ex22_ok in22_ok xf22_ok (by kernel_rfl) (fun _=>rfl)
end
end Go.Proofs.YtianfmdemgfgaaaDoor.VL
end
section
namespace Go.Proofs.YtianfmdemgfgaaaDoor.VL
open Go
set_option maxRecDepth 100000
set_option linter.unusedVariables false
set_option linter.unusedSectionVars false
variable [Val]

theorem F28_eq (v:((List Int)×Int)):F28 v=(loopX (fun (v0:(Int×Int))=>(cond (decide (v0.2 < ((v.1.length:Nat):Int))) (Option.bind (cond (decide ((0:Int)≤v0.2)) (Option.bind v.1[(Int.toNat v0.2)]? (fun (v1:Int)=>(cond (v1==v.2) (some (IntKind.wrap .i64 (v0.1+(1:Int)))) (some v0.1)))) none) (fun (v2:Int)=>(some (.inl (v2,(IntKind.wrap .i64 (v0.2+(1:Int)))))))) (some (.inr v0.1)))) ((0:Int),(0:Int))):=by kernel_rfl
theorem F35_eq (v:(List Int)):F35 v=(loopX (fun (v0:Int)=>(cond (decide (v0 < ((v.length:Nat):Int))) (joinX (Option.bind (cond (decide ((0:Int)≤v0)) (Option.bind v[(Int.toNat v0)]? (fun (v1:Int)=>(cond (decide (v1 < (0:Int))) (some true) (cond (decide ((0:Int)≤v0)) (Option.bind v[(Int.toNat v0)]? (fun (v2:Int)=>(cond (decide (v2 > (63:Int))) (some true) (cond (decide ((0:Int)≤v0)) (Option.bind v[(Int.toNat v0)]? (fun (v3:Int)=>(Option.bind (F28 (v,v3)) (fun (v4:Int)=>(some (v4 != (1:Int))))))) none)))) none)))) none) (fun (v5:Bool)=>(cond v5 (some (.inr (.inr false))) (some (.inl ()))))) (fun (v6:Unit)=>(some (.inl (IntKind.wrap .i64 (v0+(1:Int))))))) (some (.inr true)))) (0:Int)):=by kernel_rfl
theorem F20_eq (v:(List Int)):F20 v=(joinX (loopX (fun (v0:Int)=>(cond (decide (v0 < ((v.length:Nat):Int))) (cond (decide ((0:Int)≤v0)) (Option.bind v[(Int.toNat v0)]? (fun (v1:Int)=>(cond (decide ((0:Int)≤(IntKind.wrap .i64 (v0 - (1:Int))))) (Option.bind v[(Int.toNat (IntKind.wrap .i64 (v0 - (1:Int))))]? (fun (v2:Int)=>(cond (decide (v1≤v2)) (some (.inr (.inr false))) (some (.inl (IntKind.wrap .i64 (v0+(1:Int)))))))) none))) none) (some (.inr (.inl ()))))) (1:Int)) (fun (v3:Unit)=>(cond (decide (((v.length:Nat):Int)≤(64:Int))) (Option.bind (F35 v) (fun (v4:Bool)=>(some v4))) (some false)))):=by kernel_rfl
theorem F49_eq (v:(List Int)):F49 v=(loopX (fun (v0:(Int×(List Bool)))=>(cond (decide (v0.1 < ((v.length:Nat):Int))) (joinX (cond (decide ((0:Int)≤v0.1)) (Option.bind v[(Int.toNat v0.1)]? (fun (v1:Int)=>(joinX (Option.bind (cond (decide (v1 < (0:Int))) (some true) (cond (decide (v1 ≥ (64:Int))) (some true) (cond ((decide ((0:Int)≤v1))&&(decide (v1 < (64:Int)))) (Option.bind v0.2[(0+((Int.toNat v1) * 1))]? (fun (v2:Bool)=>(some v2))) none))) (fun (v3:Bool)=>(cond v3 (some (.inr (.inr (.inr false)))) (some (.inl ()))))) (fun (v4:Unit)=>(cond ((decide ((0:Int)≤v1))&&(decide (v1 < (64:Int)))) (cond ((decide ((0+((Int.toNat v1) * 1)) < v0.2.length))&&(decide (1 < v0.2.length))) (some (.inl (List.set v0.2 (0+((Int.toNat v1) * 1)) true))) none) none))))) none) (fun (v5:(List Bool))=>(some (.inl ((IntKind.wrap .i64 (v0.1+(1:Int))),v5))))) (some (.inr true)))) ((0:Int),(List.replicate 64 false))):=by kernel_rfl
theorem F50_eq (v:(List Int)):F50 v=(loopX (fun (v0:Int)=>(cond (decide (v0 > (0:Int))) (cond (decide ((0:Int)≤v0)) (Option.bind v[(Int.toNat v0)]? (fun (v1:Int)=>(cond (decide ((0:Int)≤(IntKind.wrap .i64 (v0 - (1:Int))))) (Option.bind v[(Int.toNat (IntKind.wrap .i64 (v0 - (1:Int))))]? (fun (v2:Int)=>(Option.bind (cond (v1 != v1) (cond (!(v2 != v2)) (some true) (some (decide (v1 < v2)))) (some (decide (v1 < v2)))) (fun (v3:Bool)=>(cond v3 (some (.inr false)) (some (.inl (IntKind.wrap .i64 (v0 - (1:Int)))))))))) none))) none) (some (.inr true)))) (IntKind.wrap .i64 (((v.length:Nat):Int) - (1:Int)))):=by kernel_rfl
theorem F41_eq (v:(List Int)):F41 v=(Option.bind (Option.bind (F49 v) (fun (v0:Bool)=>(cond (!v0) (some true) (Option.bind (F50 v) (fun (v1:Bool)=>(some (!v1))))))) (fun (v2:Bool)=>(cond v2 (some (1:Int)) (some (0:Int))))):=by kernel_rfl
theorem F51_eq (v:(Int×ByteArray)):F51 v=(loopX (fun (v0:(Int×Int))=>(cond (decide (v0.2 < (((ByteArray.size v.2):Nat):Int))) (cond (decide ((0:Int)≤v0.2)) (Option.bind v.2[(Int.toNat v0.2)]? (fun (v1:UInt8)=>(some (.inl ((IntKind.wrap .u64 ((IntKind.wrap .u64 (((BitVec.toNat (BitVec.xor (BitVec.ofInt 64 v0.1) (BitVec.ofInt 64 (IntKind.wrap .u64 (((UInt8.toNat v1):Nat):Int))))):Nat):Int)) * (1099511628211:Int))),(IntKind.wrap .i64 (v0.2+(1:Int)))))))) none) (some (.inr v0.1)))) (v.1,(0:Int))):=by kernel_rfl
theorem F42_eq (v:(List ByteArray)):F42 v=(loopX (fun (v0:(Int×Int))=>(cond (decide (v0.2 < ((v.length:Nat):Int))) (cond (decide ((0:Int)≤v0.2)) (Option.bind v[(Int.toNat v0.2)]? (fun (v1:ByteArray)=>(Option.bind (F51 (v0.1,v1)) (fun (v2:Int)=>(some (.inl (v2,(IntKind.wrap .i64 (v0.2+(1:Int)))))))))) none) (some (.inr v0.1)))) ((14695981039346656037:Int),(0:Int))):=by kernel_rfl
theorem F56_eq (v:(Int×Int)):F56 v=(cond (v.1 != v.1) (cond (v.2 != v.2) (some (0:Int)) (some (-1:Int))) (cond (v.2 != v.2) (some (1:Int)) (cond (decide (v.1 < v.2)) (some (-1:Int)) (cond (decide (v.1 > v.2)) (some (1:Int)) (some (0:Int)))))):=by kernel_rfl
theorem F55_eq (v:(List Int)):F55 v=(loopX (fun (v0:Int)=>(cond (decide (v0 < ((v.length:Nat):Int))) (cond (decide ((0:Int)≤v0)) (Option.bind v[(Int.toNat v0)]? (fun (v1:Int)=>(cond (v1 != (0:Int)) (some (.inr v1)) (some (.inl (IntKind.wrap .i64 (v0+(1:Int)))))))) none) (some (.inr (0:Int))))) (0:Int)):=by kernel_rfl
theorem F57_eq (v:(Int×Int)):F57 v=(cond (v.1 != v.1) (cond (v.2 != v.2) (some (0:Int)) (some (-1:Int))) (cond (v.2 != v.2) (some (1:Int)) (cond (decide (v.1 < v.2)) (some (-1:Int)) (cond (decide (v.1 > v.2)) (some (1:Int)) (some (0:Int)))))):=by kernel_rfl
theorem F45_eq (v:((Int×(Int×Int))×(Int×(Int×Int)))):F45 v=(Option.bind (F56 (v.1.1,v.2.1)) (fun (v0:Int)=>(Option.bind (F57 (v.1.2.1,v.2.2.1)) (fun (v1:Int)=>(Option.bind (F57 (v.1.2.2,v.2.2.2)) (fun (v2:Int)=>(Option.bind (F55 (v0::(v1::(v2::[])))) (fun (v3:Int)=>(some v3))))))))):=by kernel_rfl
theorem F58_eq (v:(List (Int×(Int×Int)))):F58 v=(cond (decide (((v.length:Nat):Int) > (2048:Int))) (some (1:Int)) (loopX (fun (v0:Int)=>(cond (decide (v0 < ((v.length:Nat):Int))) (joinX (cond (decide ((0:Int)≤v0)) (Option.bind v[(Int.toNat v0)]? (fun (v1:(Int×(Int×Int)))=>(Option.bind (cond (decide (v1.2.1 < (0:Int))) (some true) (cond (decide (v1.2.1 ≥ (64:Int))) (some true) (cond (decide (v0 > (0:Int))) (cond (decide ((0:Int)≤(IntKind.wrap .i64 (v0 - (1:Int))))) (Option.bind v[(Int.toNat (IntKind.wrap .i64 (v0 - (1:Int))))]? (fun (v2:(Int×(Int×Int)))=>(Option.bind (F45 (v2,v1)) (fun (v3:Int)=>(some (decide (v3 ≥ (0:Int)))))))) none) (some false)))) (fun (v4:Bool)=>(cond v4 (some (.inr (.inr (1:Int)))) (some (.inl ()))))))) none) (fun (v5:Unit)=>(some (.inl (IntKind.wrap .i64 (v0+(1:Int))))))) (some (.inr (0:Int))))) (0:Int))):=by kernel_rfl
theorem F46_eq (v:((List (Int×(Int×Int)))×ByteArray)):F46 v=(Option.bind (F58 v.1) (fun (v0:Int)=>(cond (v0 != (0:Int)) (some ((0:Int),(1:Int))) (cond (((v.1.length:Nat):Int)==(0:Int)) (some ((0:Int),(6:Int))) (Option.bind (F42 (v.2::[])) (fun (v1:Int)=>(Option.bind (Option.bind (loopX (fun (v2:(Int×Int))=>(cond (decide (v2.1 < v2.2)) (cond (decide ((0:Int)≤(IntKind.wrap .i64 (Int.fdiv (IntKind.wrap .u64 (IntKind.wrap .i64 (v2.1+v2.2))) (2:Int))))) (Option.bind v.1[(Int.toNat (IntKind.wrap .i64 (Int.fdiv (IntKind.wrap .u64 (IntKind.wrap .i64 (v2.1+v2.2))) (2:Int))))]? (fun (v3:(Int×(Int×Int)))=>(Option.bind (F56 (v3.1,v1)) (fun (v4:Int)=>(cond (decide (v4 < (0:Int))) (some (.inl ((IntKind.wrap .i64 ((IntKind.wrap .i64 (Int.fdiv (IntKind.wrap .u64 (IntKind.wrap .i64 (v2.1+v2.2))) (2:Int)))+(1:Int))),v2.2))) (some (.inl (v2.1,(IntKind.wrap .i64 (Int.fdiv (IntKind.wrap .u64 (IntKind.wrap .i64 (v2.1+v2.2))) (2:Int))))))))))) none) (some (.inr v2.1)))) ((0:Int),((v.1.length:Nat):Int))) (fun (v5:Int)=>(cond (decide (v5 < ((v.1.length:Nat):Int))) (cond (decide ((0:Int)≤v5)) (Option.bind v.1[(Int.toNat v5)]? (fun (v6:(Int×(Int×Int)))=>(Option.bind (F56 (v6.1,v1)) (fun (v7:Int)=>(some (v5,(v7==(0:Int)))))))) none) (some (v5,false))))) (fun (v8:(Int×Bool))=>(cond (decide (((v.1.length:Nat):Int)=(0:Int))) none (some ((Int.tmod v8.1 ((v.1.length:Nat):Int)),(0:Int)))))))))))):=by kernel_rfl
theorem F30_eq (v:((List (Int×(Int×Int)))×ByteArray)):F30 v=(Option.bind (F46 v) (fun (v0:(Int×Int))=>(cond (v0.2 != (0:Int)) (some ([],v0.2)) (loopX (fun (v1:(Int×((List Bool)×(List Int))))=>(cond (decide (v1.1 < ((v.1.length:Nat):Int))) (Option.bind (cond (decide (((v.1.length:Nat):Int)=(0:Int))) none (cond (decide ((0:Int)≤(Int.tmod (IntKind.wrap .i64 (v0.1+v1.1)) ((v.1.length:Nat):Int)))) (Option.bind v.1[(Int.toNat (Int.tmod (IntKind.wrap .i64 (v0.1+v1.1)) ((v.1.length:Nat):Int)))]? (fun (v2:(Int×(Int×Int)))=>(cond ((decide ((0:Int)≤v2.2.1))&&(decide (v2.2.1 < (64:Int)))) (Option.bind v1.2.1[(0+((Int.toNat v2.2.1) * 1))]? (fun (v3:Bool)=>(cond (!v3) (cond ((decide ((0:Int)≤v2.2.1))&&(decide (v2.2.1 < (64:Int)))) (cond ((decide ((0+((Int.toNat v2.2.1) * 1)) < v1.2.1.length))&&(decide (1 < v1.2.1.length))) (cond ((decide (v1.2.2.length=v1.2.2.length))&&((decide (((((v1.2.2.length+1):Nat):Int) * (8:Int))≤(70368744177664:Int)))&&(decide ((((v1.2.2.length+1):Nat):Int)≤(70368744177664:Int))))) (cond (decide ((v1.2.2.length+1)=(Append.append v1.2.2 (v2.2.1::[])).length)) (some ((List.set v1.2.1 (0+((Int.toNat v2.2.1) * 1)) true),(Append.append v1.2.2 (v2.2.1::[])))) none) none) none) none) (cond (decide (v1.2.2.length=v1.2.2.length)) (some v1.2) none)))) none))) none)) (fun (v4:((List Bool)×(List Int)))=>(cond (decide (v4.2.length=v4.2.length)) (some (.inl ((IntKind.wrap .i64 (v1.1+(1:Int))),v4))) none))) (Option.map (Sum.inr) (cond (decide ((0+v1.2.2.length)≤v1.2.2.length)) (some ((List.take v1.2.2.length v1.2.2),(0:Int))) none)))) ((0:Int),(List.replicate 64 false),[]))))):=by kernel_rfl
theorem F61_eq (v:Int):F61 v=(loopX (fun (v0:(Int×Int))=>(cond (decide (v0.2 < (435:Int))) (some (.inl ((IntKind.wrap .u64 (v0.1+v)),(IntKind.wrap .i64 (v0.2+(1:Int)))))) (some (.inr v0.1)))) ((IntKind.wrap .u64 (v * (1099511627776:Int))),(0:Int))):=by kernel_rfl
theorem F47_eq (v:(Int×ByteArray)):F47 v=(loopX (fun (v0:(Int×Int))=>(cond (decide (v0.2 < (((ByteArray.size v.2):Nat):Int))) (cond (decide ((0:Int)≤v0.2)) (Option.bind v.2[(Int.toNat v0.2)]? (fun (v1:UInt8)=>(Option.bind (F61 (IntKind.wrap .u64 (((BitVec.toNat (BitVec.xor (BitVec.ofInt 64 v0.1) (BitVec.ofInt 64 (IntKind.wrap .u64 (((UInt8.toNat v1):Nat):Int))))):Nat):Int))) (fun (v2:Int)=>(some (.inl (v2,(IntKind.wrap .i64 (v0.2+(1:Int)))))))))) none) (some (.inr v0.1)))) (v.1,(0:Int))):=by kernel_rfl
theorem F31_eq (v:(List ByteArray)):F31 v=(loopX (fun (v0:(ByteArray×Int))=>(cond (decide (v0.2 < ((v.length:Nat):Int))) (cond (decide ((0:Int)≤v0.2)) (Option.bind v[(Int.toNat v0.2)]? (fun (v1:ByteArray)=>(cond (decide (((ByteArray.size v0.1)+(ByteArray.size v1))≤4611686018427387904)) (some (.inl ((v0.1++v1),(IntKind.wrap .i64 (v0.2+(1:Int)))))) none))) none) (Option.map (Sum.inr) (Option.bind (F47 ((14695981039346656037:Int),v0.1)) (fun (v2:Int)=>(some v2)))))) ((ByteArray.mk #[]),(0:Int))):=by kernel_rfl
theorem F33_eq (v:((Int×(Int×Int))×(Int×(Int×Int)))):F33 v=(cond (v.1.1 != v.2.1) (some (decide (v.1.1 < v.2.1))) (cond (v.1.2.1 != v.2.2.1) (some (decide (v.1.2.1 < v.2.2.1))) (some (decide (v.1.2.2 < v.2.2.2))))):=by kernel_rfl
theorem F40_eq (v:ByteArray):F40 v=(joinX (loopX (fun (v0:Int)=>(cond (decide (v0 < (((ByteArray.size v):Nat):Int))) (joinX (cond (decide ((0:Int)≤v0)) (Option.bind v[(Int.toNat v0)]? (fun (v1:UInt8)=>(Option.bind (cond (decide ((97:Int)≤(((UInt8.toNat v1):Nat):Int))) (cond (decide ((((UInt8.toNat v1):Nat):Int)≤(122:Int))) (some false) (cond (decide ((48:Int)≤(((UInt8.toNat v1):Nat):Int))) (cond (decide ((((UInt8.toNat v1):Nat):Int)≤(57:Int))) (some false) (some (!((((UInt8.toNat v1):Nat):Int)==(45:Int))))) (some (!((((UInt8.toNat v1):Nat):Int)==(45:Int)))))) (cond (decide ((48:Int)≤(((UInt8.toNat v1):Nat):Int))) (cond (decide ((((UInt8.toNat v1):Nat):Int)≤(57:Int))) (some false) (some (!((((UInt8.toNat v1):Nat):Int)==(45:Int))))) (some (!((((UInt8.toNat v1):Nat):Int)==(45:Int)))))) (fun (v2:Bool)=>(cond v2 (some (.inr (.inr (.inr false)))) (some (.inl ()))))))) none) (fun (v3:Unit)=>(some (.inl (IntKind.wrap .i64 (v0+(1:Int))))))) (some (.inr (.inl ()))))) (0:Int)) (fun (v4:Unit)=>(cond (decide ((1:Int)≤(((ByteArray.size v):Nat):Int))) (some (decide ((((ByteArray.size v):Nat):Int)≤(20:Int)))) (some false)))):=by kernel_rfl
theorem F26_eq (v:(List ByteArray)):F26 v=(loopX (fun (v0:Int)=>(cond (decide (v0 < ((v.length:Nat):Int))) (joinX (Option.bind (cond (decide ((0:Int)≤v0)) (Option.bind v[(Int.toNat v0)]? (fun (v1:ByteArray)=>(Option.bind (F40 v1) (fun (v2:Bool)=>(cond (!v2) (some true) (cond (decide (v0 > (0:Int))) (cond (decide ((0:Int)≤v0)) (Option.bind v[(Int.toNat v0)]? (fun (v3:ByteArray)=>(cond (decide ((0:Int)≤(IntKind.wrap .i64 (v0 - (1:Int))))) (Option.bind v[(Int.toNat (IntKind.wrap .i64 (v0 - (1:Int))))]? (fun (v4:ByteArray)=>(some ((Op.bytesLess (ByteArray.toList v3) (ByteArray.toList v4)) || ((ByteArray.toList v3)==(ByteArray.toList v4)))))) none))) none) (some false))))))) none) (fun (v5:Bool)=>(cond v5 (some (.inr (.inr false))) (some (.inl ()))))) (fun (v6:Unit)=>(some (.inl (IntKind.wrap .i64 (v0+(1:Int))))))) (some (.inr (decide (((v.length:Nat):Int)≤(100:Int))))))) (0:Int)):=by kernel_rfl
theorem F10_eq (v:((List Int)×(Int×((List ByteArray)×((List (ByteArray×Int))×Int))))):F10 v=(cond (decide (((v.1.length:Nat):Int) ≥ (1:Int))) (cond (decide (((v.1.length:Nat):Int)≤(6:Int))) (cond (decide (((v.2.2.1.length:Nat):Int)≤(20:Int))) (Option.bind (F20 v.1) (fun (v0:Bool)=>(cond v0 (Option.bind (F26 v.2.2.1) (fun (v1:Bool)=>(cond v1 (cond (decide (v.2.1 ≥ (1:Int))) (some (decide (v.2.1≤(8:Int)))) (some false)) (some false)))) (some false)))) (some false)) (some false)) (some false)):=by kernel_rfl
theorem F13_eq (v:(Int×Int)):F13 v=(joinX (Option.bind (cond (decide (v.1 < (0:Int))) (some true) (cond (decide (v.1 > (100:Int))) (some true) (cond (decide (v.2 < (1:Int))) (some true) (some (decide (v.2 > (64:Int))))))) (fun (v0:Bool)=>(cond v0 (some (.inr ((0:Int),(1:Int)))) (some (.inl ()))))) (fun (v1:Unit)=>(cond (decide ((IntKind.wrap .i64 ((4:Int) * v.2))=(0:Int))) none (some ((IntKind.wrap .i64 (Int.tdiv (IntKind.wrap .i64 ((IntKind.wrap .i64 ((IntKind.wrap .i64 ((5:Int) * v.1))+(IntKind.wrap .i64 ((4:Int) * v.2)))) - (1:Int))) (IntKind.wrap .i64 ((4:Int) * v.2)))),(0:Int)))))):=by kernel_rfl
theorem F39_eq (v:ByteArray):F39 v=(joinX (loopX (fun (v0:(ByteArray×Nat))=>(cond (decide (v0.2 < (ByteArray.size v0.1))) (Option.bind (cond (decide ((((Utf8.decode v0.1 v0.2).1:Nat):Int) ≥ (97:Int))) (cond (decide ((((Utf8.decode v0.1 v0.2).1:Nat):Int)≤(122:Int))) (some false) (cond (decide ((((Utf8.decode v0.1 v0.2).1:Nat):Int) ≥ (48:Int))) (cond (decide ((((Utf8.decode v0.1 v0.2).1:Nat):Int)≤(57:Int))) (some false) (some (!((((Utf8.decode v0.1 v0.2).1:Nat):Int)==(45:Int))))) (some (!((((Utf8.decode v0.1 v0.2).1:Nat):Int)==(45:Int)))))) (cond (decide ((((Utf8.decode v0.1 v0.2).1:Nat):Int) ≥ (48:Int))) (cond (decide ((((Utf8.decode v0.1 v0.2).1:Nat):Int)≤(57:Int))) (some false) (some (!((((Utf8.decode v0.1 v0.2).1:Nat):Int)==(45:Int))))) (some (!((((Utf8.decode v0.1 v0.2).1:Nat):Int)==(45:Int)))))) (fun (v1:Bool)=>(cond v1 (some (.inr (.inr false))) (some (.inl (v0.1,(v0.2+(Utf8.decode v0.1 v0.2).2))))))) (some (.inr (.inl ()))))) (v,0)) (fun (v2:Unit)=>(cond (!((ByteArray.toList v)==(ByteArray.toList (ByteArray.mk #[])))) (some (decide ((((ByteArray.size v):Nat):Int)≤(20:Int)))) (some false)))):=by kernel_rfl
theorem F25_eq (v:(List ByteArray)):F25 v=(cond (decide (((v.length:Nat):Int) > (100:Int))) (some (1:Int)) (loopX (fun (v0:Int)=>(cond (decide (v0 < ((v.length:Nat):Int))) (joinX (cond (decide ((0:Int)≤v0)) (Option.bind v[(Int.toNat v0)]? (fun (v1:ByteArray)=>(Option.bind (Option.bind (F39 v1) (fun (v2:Bool)=>(cond (!v2) (some true) (cond (decide (v0 > (0:Int))) (cond (decide ((0:Int)≤(IntKind.wrap .i64 (v0 - (1:Int))))) (Option.bind v[(Int.toNat (IntKind.wrap .i64 (v0 - (1:Int))))]? (fun (v3:ByteArray)=>(some (!(Op.bytesLess (ByteArray.toList v3) (ByteArray.toList v1)))))) none) (some false))))) (fun (v4:Bool)=>(cond v4 (some (.inr (.inr (1:Int)))) (some (.inl ()))))))) none) (fun (v5:Unit)=>(some (.inl (IntKind.wrap .i64 (v0+(1:Int))))))) (some (.inr (0:Int))))) (0:Int))):=by kernel_rfl
theorem F17_eq (v:((List (ByteArray×Int))×(List (ByteArray×Int)))):F17 v=(cond (((v.1.length:Nat):Int) != ((v.2.length:Nat):Int)) (some false) (loopX (fun (v0:Int)=>(cond (decide (v0 < ((v.1.length:Nat):Int))) (cond (decide ((0:Int)≤v0)) (Option.bind v.1[(Int.toNat v0)]? (fun (v1:(ByteArray×Int))=>(cond (decide ((0:Int)≤v0)) (Option.bind v.2[(Int.toNat v0)]? (fun (v2:(ByteArray×Int))=>(cond (!(((ByteArray.toList v1.1)==(ByteArray.toList v2.1))&&((v1.2==v2.2)&&true))) (some (.inr false)) (some (.inl (IntKind.wrap .i64 (v0+(1:Int)))))))) none))) none) (some (.inr true)))) (0:Int))):=by kernel_rfl
theorem F24_eq (v:(List (ByteArray×Int))):F24 v=(loopX (fun (v0:(Int×(List ByteArray)))=>(cond (decide (v0.1 < ((v.length:Nat):Int))) (joinX (cond (decide ((0:Int)≤v0.1)) (Option.bind v[(Int.toNat v0.1)]? (fun (v1:(ByteArray×Int))=>(joinX (Option.bind (cond (decide (v1.2 < (0:Int))) (some true) (some (decide (v1.2 ≥ (64:Int))))) (fun (v2:Bool)=>(cond v2 (some (.inr (.inr (.inr (1:Int))))) (some (.inl ()))))) (fun (v3:Unit)=>(cond ((decide (v0.2.length=v0.2.length))&&((decide (((((v0.2.length+1):Nat):Int) * (16:Int))≤(70368744177664:Int)))&&(decide ((((v0.2.length+1):Nat):Int)≤(70368744177664:Int))))) (cond (decide ((v0.2.length+1)=(Append.append v0.2 (v1.1::[])).length)) (some (.inl (Append.append v0.2 (v1.1::[])))) none) none))))) none) (fun (v4:(List ByteArray))=>(cond (decide (v4.length=v4.length)) (some (.inl ((IntKind.wrap .i64 (v0.1+(1:Int))),v4))) none))) (Option.map (Sum.inr) (cond (decide ((0+v0.2.length)≤v0.2.length)) (Option.bind (F25 (List.take v0.2.length v0.2)) (fun (v5:Int)=>(some v5))) none)))) ((0:Int),[])):=by kernel_rfl
theorem F48_eq (v:ByteArray):F48 v=(some (!((ByteArray.toList v)==(ByteArray.toList v)))):=by kernel_rfl
theorem F38_eq (v:(ByteArray×ByteArray)):F38 v=(Option.bind (F48 v.1) (fun (v0:Bool)=>(Option.bind (F48 v.2) (fun (v1:Bool)=>(cond v0 (cond v1 (some (0:Int)) (some (-1:Int))) (cond v1 (some (1:Int)) (cond (Op.bytesLess (ByteArray.toList v.1) (ByteArray.toList v.2)) (some (-1:Int)) (cond (!((Op.bytesLess (ByteArray.toList v.1) (ByteArray.toList v.2)) || ((ByteArray.toList v.1)==(ByteArray.toList v.2)))) (some (1:Int)) (some (0:Int)))))))))):=by kernel_rfl
theorem F37_eq (v:((ByteArray×Int)×ByteArray)):F37 v=(Option.bind (F38 (v.1.1,v.2)) (fun (v0:Int)=>(some v0))):=by kernel_rfl
theorem F22_eq (v:((List (ByteArray×Int))×ByteArray)):F22 v=(Option.bind (F24 v.1) (fun (v0:Int)=>(cond (v0 != (0:Int)) (some ((0:Int),v0)) (Option.bind (Option.bind (loopX (fun (v1:(Int×Int))=>(cond (decide (v1.1 < v1.2)) (cond (decide ((0:Int)≤(IntKind.wrap .i64 (Int.fdiv (IntKind.wrap .u64 (IntKind.wrap .i64 (v1.1+v1.2))) (2:Int))))) (Option.bind v.1[(Int.toNat (IntKind.wrap .i64 (Int.fdiv (IntKind.wrap .u64 (IntKind.wrap .i64 (v1.1+v1.2))) (2:Int))))]? (fun (v2:(ByteArray×Int))=>(Option.bind (F37 (v2,v.2)) (fun (v3:Int)=>(cond (decide (v3 < (0:Int))) (some (.inl ((IntKind.wrap .i64 ((IntKind.wrap .i64 (Int.fdiv (IntKind.wrap .u64 (IntKind.wrap .i64 (v1.1+v1.2))) (2:Int)))+(1:Int))),v1.2))) (some (.inl (v1.1,(IntKind.wrap .i64 (Int.fdiv (IntKind.wrap .u64 (IntKind.wrap .i64 (v1.1+v1.2))) (2:Int))))))))))) none) (some (.inr v1.1)))) ((0:Int),((v.1.length:Nat):Int))) (fun (v4:Int)=>(cond (decide (v4 < ((v.1.length:Nat):Int))) (cond (decide ((0:Int)≤v4)) (Option.bind v.1[(Int.toNat v4)]? (fun (v5:(ByteArray×Int))=>(Option.bind (F37 (v5,v.2)) (fun (v6:Int)=>(some (v4,(v6==(0:Int)))))))) none) (some (v4,false))))) (fun (v7:(Int×Bool))=>(cond (!v7.2) (some ((0:Int),(6:Int))) (cond (decide ((0:Int)≤v7.1)) (Option.bind v.1[(Int.toNat v7.1)]? (fun (v8:(ByteArray×Int))=>(some (v8.2,(0:Int))))) none))))))):=by kernel_rfl
end Go.Proofs.YtianfmdemgfgaaaDoor.VL
end
section
namespace Go.Proofs.YtianfmdemgfgaaaDoor.VL
open Go
set_option linter.unusedVariables false
set_option linter.unusedSectionVars false
variable [Val]
theorem wi {x:Int} (h0:-9223372036854775808≤x) (h1:x≤9223372036854775807):IntKind.wrap .i64 x=x:=by rw [IntKind.wrap_i64]; omega
theorem wu {x:Int} (h0:0≤x) (h1:x≤18446744073709551615):IntKind.wrap .u64 x=x:=by
 simp only [IntKind.wrap,IntKind.bits,IntKind.signed]
 have:x % (2 ^ 64:Int)=x:=Int.emod_eq_of_lt h0 (by omega)
 simp only [this,Bool.false_and]
 rfl
theorem app_eq {α:Type} (a b:List α):Append.append a b=a++b:=rfl
theorem joinX_l {α R:Type} (v:α) (k:α→Option R):joinX (some (.inl v)) k=k v:=rfl
theorem loopX_spec {σ ρ:Type} {f:σ→Option (σ ⊕ ρ)} (I:σ→Prop) (m:σ→Nat) (g:σ→ρ)
  (h:∀ s,I s→f s=some (.inr (g s))∨∃ s',f s=some (.inl s')∧I s'∧m s' < m s∧g s'=g s):∀ (s:σ),I s→loopX f s=some (g s):=by
 have key:∀ (n:Nat) (s:σ),m s≤n→I s→loopX f s=some (g s):=by
  intro n
  induction n with
  | zero =>
   intro s hn hs
   rw [loopX_eq]
   rcases h s hs with h1 | ⟨s',h1,h2,h3,h4⟩
   ·rw [h1]
   ·omega
  | succ n ih =>
   intro s hn hs
   rw [loopX_eq]
   rcases h s hs with h1 | ⟨s',h1,h2,h3,h4⟩
   ·rw [h1]
   ·rw [h1]
    simp only
    rw [ih s' (by omega) h2,h4]
 exact fun s hs=>key (m s) s (Nat.le_refl _) hs
theorem loop_acc {A ρ:Type} {f:Int×A→Option ((Int×A) ⊕ ρ)} (n:Nat) (I:Nat→A→Prop) (g:Nat→A→ρ) (hend:∀ a,I n a→f ((n:Int),a)=some (.inr (g n a)))
  (hstep:∀ (i:Nat) (a:A),i < n→I i a→f ((i:Int),a)=some (.inr (g i a))∨∃ a',f ((i:Int),a)=some (.inl (((i+1:Nat):Int),a'))∧I (i+1) a'∧g (i+1) a'=g i a) (i:Nat) (a:A) (hi:i≤n) (ha:I i a) :
  loopX f ((i:Int),a)=some (g i a):=by
 have:=loopX_spec (f:=f) (fun s=>0≤s.1∧s.1≤n∧I s.1.toNat s.2) (fun s=>n - s.1.toNat) (fun s=>g s.1.toNat s.2) (fun s hs=>?_) ((i:Int),a) ⟨by simp,by simp; omega,by simpa using ha⟩
 ·simpa using this
 ·obtain ⟨s1,s2⟩:=s
  simp only at hs
  obtain ⟨k,rfl⟩:∃ k:Nat,s1=k:=⟨s1.toNat,by omega⟩
  have hk:k≤n:=by omega
  simp only [Int.toNat_natCast] at hs ⊢
  by_cases he:k=n
  ·subst he; exact .inl (hend _ hs.2.2)
  ·rcases hstep k s2 (by omega) hs.2.2 with h1 | ⟨a',h1,h2,h3⟩
   ·exact .inl h1
   ·refine .inr ⟨_,h1,⟨by omega,by omega,by simpa using h2⟩,by simp only [Int.toNat_natCast]; omega,by simp only [Int.toNat_natCast]; exact h3⟩
theorem loop_allS {A ρ:Type} {f:Int×A→Option ((Int×A) ⊕ ρ)} {n:Nat} (st:Nat→A) (ok:Nat→Bool) (bad:ρ) (good:ρ) (hend:f ((n:Int),st n)=some (.inr good))
  (hstep:∀ i:Nat,i < n→(∀ j,j < i→ok j=true)→f ((i:Int),st i)=if ok i=true then some (.inl (((i+1:Nat):Int),st (i+1))) else some (.inr bad)) :
  loopX f ((0:Int),st 0)=some (if (List.range n).all ok=true then good else bad):=by
 classical
 have:=loop_acc (f:=f) n (fun i a=>a=st i∧∀ j,j < i→ok j=true) (fun i a=>if ∀ j,i≤j→j < n→ok j=true then good else bad) ?_ ?_ 0 (st 0) (Nat.zero_le _) ⟨rfl,fun j hj=>by omega⟩
 ·have e0:((0:Nat):Int)=0:=rfl
  rw [e0] at this
  rw [this]
  congr 1
  have e:(∀ j,0≤j→j < n→ok j=true) ↔ (List.range n).all ok=true:=by
   simp [List.all_eq_true]
  by_cases h:(List.range n).all ok=true
  ·rw [if_pos h,if_pos (e.2 h)]
  ·rw [if_neg h,if_neg (fun q=>h (e.1 q))]
 ·rintro a ⟨rfl,_⟩
  rw [hend,if_pos (fun j h1 h2=>by omega)]
 ·rintro i a hi ⟨rfl,ha⟩
  rw [hstep i hi ha]
  by_cases h:ok i=true
  ·rw [if_pos h]
   refine .inr ⟨_,rfl,⟨rfl,fun j hj=>?_⟩,?_⟩
   ·rcases Nat.lt_or_eq_of_le (Nat.le_of_lt_succ hj) with h1 | h1
    ·exact ha j h1
    ·rw [h1]; exact h
   ·have e:(∀ j,i+1≤j→j < n→ok j=true) ↔ (∀ j,i≤j→j < n→ok j=true):=by
     constructor
     ·intro q j h1 h2
      rcases Nat.lt_or_eq_of_le h1 with h3 | h3
      ·exact q j h3 h2
      ·rw [← h3]; exact h
     ·intro q j h1 h2; exact q j (by omega) h2
    by_cases hq:∀ j,i≤j→j < n→ok j=true
    ·rw [if_pos hq,if_pos (e.2 hq)]
    ·rw [if_neg hq,if_neg (fun q=>hq (e.1 q))]
  ·rw [if_neg h]
   left
   rw [if_neg (fun q=>h (q i (Nat.le_refl _) hi))]
theorem loop_all {ρ:Type} {f:Int→Option (Int ⊕ ρ)} {n:Nat} (ok:Nat→Bool) (bad good:ρ) (hend:f (n:Int)=some (.inr good))
  (hstep:∀ i:Nat,i < n→(∀ j,j < i→ok j=true)→f (i:Int)=if ok i=true then some (.inl ((i+1:Nat):Int)) else some (.inr bad)) :
  loopX f (0:Int)=some (if (List.range n).all ok=true then good else bad):=by
 classical
 have key:∀ i:Nat,i≤n→(∀ j,j < i→ok j=true)→loopX f (i:Int)=some (if ∀ j,i≤j→j < n→ok j=true then good else bad):=by
  intro i hi
  generalize hd:n - i=d
  induction d generalizing i with
  | zero =>
   intro ha
   have:i=n:=by omega
   subst this
   rw [loopX_eq,hend,if_pos (fun j h1 h2=>by omega)]
  | succ d ih =>
   intro ha
   rw [loopX_eq,hstep i (by omega) ha]
   by_cases h:ok i=true
   ·rw [if_pos h]
    simp only
    rw [ih (i+1) (by omega) (by omega) (fun j hj=>by
     rcases Nat.lt_or_eq_of_le (Nat.le_of_lt_succ hj) with h1 | h1
     ·exact ha j h1
     ·rw [h1]; exact h)]
    have e:(∀ j,i+1≤j→j < n→ok j=true) ↔ (∀ j,i≤j→j < n→ok j=true):=by
     constructor
     ·intro q j h1 h2
      rcases Nat.lt_or_eq_of_le h1 with h3 | h3
      ·exact q j h3 h2
      ·rw [← h3]; exact h
     ·intro q j h1 h2; exact q j (by omega) h2
    by_cases hq:∀ j,i≤j→j < n→ok j=true
    ·rw [if_pos hq,if_pos (e.2 hq)]
    ·rw [if_neg hq,if_neg (fun q=>hq (e.1 q))]
   ·rw [if_neg h]
    simp only
    rw [if_neg (fun q=>h (q i (Nat.le_refl _) (by omega)))]
 have:=key 0 (Nat.zero_le _) (fun j hj=>by omega)
 have e0:((0:Nat):Int)=0:=rfl
 rw [e0] at this
 rw [this]
 congr 1
 have e:(∀ j,0≤j→j < n→ok j=true) ↔ (List.range n).all ok=true:=by simp [List.all_eq_true]
 by_cases h:(List.range n).all ok=true
 ·rw [if_pos h,if_pos (e.2 h)]
 ·rw [if_neg h,if_neg (fun q=>h (e.1 q))]
def cntP (p:Nat→Bool):Nat→Nat
 | 0=>0
 | n+1=>cntP p n+(if p n=true then 1 else 0)
theorem cntP_at {p:Nat→Bool}:∀ {n c:Nat},c≤n→(∀ k,k < c→p k=true)→(∀ k,c≤k→k < n→p k=false)→cntP p n=c
 | 0,c,h,_,_=>by simp only [cntP]; omega
 | n+1,c,h,h1,h2=>by
  simp only [cntP]
  by_cases hc:c=n+1
  ·have:=cntP_at (n:=n) (c:=n) (Nat.le_refl _) (fun k hk=>h1 k (by omega)) (fun k q1 q2=>by omega)
   rw [this,if_pos (h1 n (by omega))]; omega
  ·have:=cntP_at (n:=n) (c:=c) (by omega) h1 (fun k q1 q2=>h2 k q1 (by omega))
   rw [this,h2 n (by omega) (by omega)]; simp
theorem loop_bs {f:Int×Int→Option ((Int×Int) ⊕ Int)} {n:Nat} (p:Nat→Bool) (hmono:∀ i j,i≤j→j < n→p j=true→p i=true)
  (hend:∀ i:Nat,i≤n→f ((i:Int),(i:Int))=some (.inr (i:Int)))
  (hstep:∀ i j:Nat,i < j→j≤n→f ((i:Int),(j:Int))=if p ((i+j) / 2)=true then some (.inl ((((i+j) / 2+1:Nat):Int),(j:Int))) else some (.inl ((i:Int),(((i+j) / 2:Nat):Int)))) :
  loopX f ((0:Int),(n:Int))=some ((cntP p n:Nat):Int):=by
 have:=loopX_spec (f:=f) (fun s=>∃ i j:Nat,s=((i:Int),(j:Int))∧i≤j∧j≤n∧(∀ k,k < i→p k=true)∧(∀ k,j≤k→k < n→p k=false)) (fun s=>s.2.toNat - s.1.toNat) (fun _=>((cntP p n:Nat):Int)) ?_ ((0:Int),(n:Int)) ⟨0,n,rfl,Nat.zero_le _,Nat.le_refl _,fun k hk=>by omega,fun k h1 h2=>by omega⟩
 ·exact this
 ·rintro s ⟨i,j,rfl,h1,h2,h3,h4⟩
  by_cases hij:i=j
  ·subst hij
   left
   rw [hend i h2,cntP_at h2 h3 h4]
  ·right
   rw [hstep i j (by omega) h2]
   by_cases hp:p ((i+j) / 2)=true
   ·rw [if_pos hp]
    refine ⟨_,rfl,⟨_,_,rfl,by omega,h2,fun k hk=>hmono k ((i+j) / 2) (by omega) (by omega) hp,h4⟩,by simp only [Int.toNat_natCast]; omega,rfl⟩
   ·rw [if_neg hp]
    refine ⟨_,rfl,⟨_,_,rfl,by omega,by omega,h3,fun k hk hkn=>?_⟩,by simp only [Int.toNat_natCast]; omega,rfl⟩
    rw [Bool.eq_false_iff]
    intro hpk
    exact hp (hmono ((i+j) / 2) k hk hkn hpk)
theorem xs:(∀ {α:Type} (a b:α),cond true a b=a)∧(∀ {α:Type} (a b:α),cond false a b=b)∧(∀ {α β:Type} (a:α) (f:α→Option β),(some a).bind f=f a)∧(∀ {α β:Type} (a:α) (f:α→β),(some a).map f=some (f a)) ∧
 (∀ {α R:Type} (v:α) (k:α→Option R),joinX (some (.inl v)) k=k v)∧(∀ {α R:Type} (r:R) (k:α→Option R),joinX (some (.inr r)) k=some r)∧(∀ (h:Decidable True),@decide True h=true)∧(∀ (h:Decidable False),@decide False h=false)∧((!true)=false)∧((!false)=true)∧(∀ b:Bool,(b&&true)=b)∧(∀ b:Bool,(true&&b)=b)∧(∀ b:Bool,(b&&b)=b)∧(∀ b:Bool,(false&&b)=false)∧(∀ b:Bool,(b&&false)=false)∧(∀ b:Bool,(true || b)=true)∧(∀ b:Bool,(b || true)=true)∧(∀ b:Bool,(false || b)=b)∧(∀ b:Bool,(b || false)=b)∧(∀ {α:Type} (a b:List α),Append.append a b=a++b)∧(∀ {α:Type} (a b:List α),(a++b).length=a.length+b.length)∧(∀ {α:Type} (a:α) (b:List α),(a::b).length=b.length+1)∧(∀ {α:Type},([]:List α).length=0)∧(∀ n:Nat,0+n=n)∧(∀ n:Nat,n+0=n)∧(∀ n:Nat,((n:Int)).toNat=n)∧(∀ n:Nat,(n≤n)=True)∧(∀ n:Int,(n≤n)=True)∧(∀ {α:Type} (a:List α),a.take a.length=a)∧(∀ {α:Type} (a b:α),(some a).getD b=a)∧(∀ {α:Type} (b:α),(none:Option α).getD b=b)∧(∀ {α:Type} (a b:α),(if True then a else b)=a)∧(∀ {α:Type} (a b:α),(if False then a else b)=b)∧((false=true)=False)∧((true=false)=False):=by
 refine ⟨fun _ _=>rfl,fun _ _=>rfl,fun _ _=>rfl,fun _ _=>rfl,fun _ _=>rfl,fun _ _=>rfl,fun _=>by simp,fun _=>by simp,rfl,rfl,?_,?_,?_,?_,?_,?_,?_,?_,?_,fun _ _=>rfl,fun _ _=>List.length_append,fun _ _=>rfl,rfl,Nat.zero_add,fun _=>rfl,fun _=>rfl,fun _=>eq_true (Nat.le_refl _),fun _=>eq_true (Int.le_refl _),fun _=>List.take_length,fun _ _=>rfl,fun _=>rfl,fun _ _=>by simp,fun _ _=>by simp,by simp,by simp⟩<;>(intro b; cases b<;>rfl)
end Go.Proofs.YtianfmdemgfgaaaDoor.VL
end
section
namespace Go.Proofs.YtianfmdemgfgaaaDoor.VL
open Go
set_option linter.unusedVariables false
set_option linter.unusedSectionVars false
set_option linter.unusedSimpArgs false
theorem bl_irrefl:∀ x:List UInt8,Op.bytesLess x x=false
 | []=>rfl
 | a::x=>by
  have:¬ (a < a):=by rw [UInt8.lt_iff_toNat_lt]; omega
  simp [Op.bytesLess,this,bl_irrefl x]
theorem bl_trans:∀ {x y z:List UInt8},Op.bytesLess x y=true→Op.bytesLess y z=true→Op.bytesLess x z=true
 | _,_,[],_,h=>by cases ‹List UInt8›<;>simp [Op.bytesLess] at h
 | [],_,_::_,_,_=>rfl
 | _::_,[],_::_,h,_=>by simp [Op.bytesLess] at h
 | a::x,b::y,c::z,h,k=>by
  simp only [Op.bytesLess,Bool.or_eq_true,decide_eq_true_eq,Bool.and_eq_true,beq_iff_eq] at h k ⊢
  rcases h with h | ⟨rfl,h⟩
  ·rcases k with k | ⟨rfl,k⟩
   ·left; rw [UInt8.lt_iff_toNat_lt] at *; omega
   ·left; exact h
  ·rcases k with k | ⟨rfl,k⟩
   ·left; exact k
   ·right; exact ⟨rfl,bl_trans h k⟩
theorem bl_tri:∀ x y:List UInt8,Op.bytesLess x y=true∨x=y∨Op.bytesLess y x=true
 | [],[]=>.inr (.inl rfl)
 | [],_::_=>.inl rfl
 | _::_,[]=>.inr (.inr rfl)
 | a::x,b::y=>by
  simp only [Op.bytesLess,Bool.or_eq_true,decide_eq_true_eq,Bool.and_eq_true,beq_iff_eq,List.cons.injEq]
  rcases Nat.lt_trichotomy a.toNat b.toNat with h | h | h
  ·left; left; rw [UInt8.lt_iff_toNat_lt]; exact h
  ·have h:=UInt8.toNat_inj.1 h
   subst h
   rcases bl_tri x y with h | h | h
   ·exact .inl (.inr ⟨rfl,h⟩)
   ·exact .inr (.inl ⟨rfl,h⟩)
   ·exact .inr (.inr (.inr ⟨rfl,h⟩))
  ·right; right; left; rw [UInt8.lt_iff_toNat_lt]; exact h
theorem bl_asymm {x y:List UInt8} (h:Op.bytesLess x y=true):Op.bytesLess y x=false:=by
 rw [Bool.eq_false_iff]
 intro k
 have:=bl_trans h k
 rw [bl_irrefl] at this; cases this
theorem toList_loop (s:ByteArray):∀ (n i:Nat) (r:List UInt8),s.size - i=n→i≤s.size→ByteArray.toList.loop s i r=r.reverse++(s.data.toList.drop i):=by
 intro n
 induction n with
 | zero =>
  intro i r h hi
  have:i=s.size:=by omega
  unfold ByteArray.toList.loop
  rw [if_neg (by omega),List.drop_eq_nil_of_le (by rw [Array.length_toList]; show s.size≤i; omega),List.append_nil]
 | succ n ih =>
  intro i r h hi
  unfold ByteArray.toList.loop
  rw [if_pos (by omega),ih (i+1) _ (by omega) (by omega)]
  have hlt:i < s.data.toList.length:=by rw [Array.length_toList]; show i < s.size; omega
  have e:s.get! i=s.data.toList[i]:=by
   show s.data[i]! = _
   rw [getElem!_pos s.data i (by rw [Array.length_toList] at hlt; exact hlt)]
   simp
  rw [List.reverse_cons,List.append_assoc,List.singleton_append,e,List.drop_eq_getElem_cons hlt]
theorem toList_data (s:ByteArray):s.toList=s.data.toList:=by
 have:=toList_loop s (s.size - 0) 0 [] rfl (Nat.zero_le _)
 unfold ByteArray.toList
 rw [this]; simp
theorem toList_inj {a b:ByteArray} (h:a.toList=b.toList):a=b:=by
 rw [toList_data,toList_data] at h
 cases a; cases b
 simp only [ByteArray.mk.injEq]
 exact Array.toList_inj.1 h
theorem toList_len (s:ByteArray):s.toList.length=s.size:=by rw [toList_data,Array.length_toList]; rfl
theorem toList_nil (s:ByteArray):(s.toList==(ByteArray.mk #[]).toList)=decide (s.size=0):=by
 have h0:(ByteArray.mk #[]).toList=[]:=by rw [toList_data]
 rw [h0,Bool.eq_iff_iff,beq_iff_eq,decide_eq_true_iff,← toList_len]
 exact List.length_eq_zero_iff.symm
theorem ba_get {s:ByteArray} {i:Nat} (h:i < s.size):s[(Int.toNat (i:Int))]?=some (s.get! i):=by
 rw [Int.toNat_natCast]
 have e:s.get! i=s[i]'h:=by
  show s.data[i]! = _
  rw [getElem!_pos s.data i h]
  first | done | rfl
 rw [e]
 exact getElem?_pos s i h
variable [Val]
def okB (n:Nat):Bool:=(decide (97≤n)&&decide (n≤122)) || ((decide (48≤n)&&decide (n≤57)) || decide (n=45))
def nmB (s:ByteArray):Bool:=(List.range s.size).all (fun i=>okB (s.get! i).toNat)&&(decide (1≤s.size)&&decide (s.size≤20))
theorem rune_cond (n:Nat) {R:Type} (a b:Option R):(Option.bind (cond (decide ((97:Int)≤(n:Int))) (cond (decide ((n:Int)≤(122:Int))) (some false) (cond (decide ((48:Int)≤(n:Int))) (cond (decide ((n:Int)≤(57:Int))) (some false) (some (!((n:Int)==(45:Int))))) (some (!((n:Int)==(45:Int)))))) (cond (decide ((48:Int)≤(n:Int))) (cond (decide ((n:Int)≤(57:Int))) (some false) (some (!((n:Int)==(45:Int))))) (some (!((n:Int)==(45:Int)))))) (fun (v1:Bool)=>cond v1 a b))=if okB n=true then b else a:=by
 have e45:((n:Int)==(45:Int))=decide (n=45):=by rw [Bool.eq_iff_iff,beq_iff_eq,decide_eq_true_iff]; omega
 have e1:decide ((97:Int)≤(n:Int))=decide (97≤n):=by rw [Bool.eq_iff_iff,decide_eq_true_iff,decide_eq_true_iff]; omega
 have e2:decide ((n:Int)≤(122:Int))=decide (n≤122):=by rw [Bool.eq_iff_iff,decide_eq_true_iff,decide_eq_true_iff]; omega
 have e3:decide ((48:Int)≤(n:Int))=decide (48≤n):=by rw [Bool.eq_iff_iff,decide_eq_true_iff,decide_eq_true_iff]; omega
 have e4:decide ((n:Int)≤(57:Int))=decide (n≤57):=by rw [Bool.eq_iff_iff,decide_eq_true_iff,decide_eq_true_iff]; omega
 rw [e45,e1,e2,e3,e4]
 unfold okB
 cases decide (97≤n)<;>cases decide (n≤122)<;>cases decide (48≤n)<;>cases decide (n≤57)<;>cases decide (n=45)<;>rfl
theorem runes_loop {s:ByteArray} {f:ByteArray×Nat→Option ((ByteArray×Nat) ⊕ (Unit ⊕ Bool))}
  (hend:∀ pos,s.size≤pos→f (s,pos)=some (.inr (.inl ()))) (hstep:∀ pos,pos < s.size→f (s,pos)=if okB (Utf8.decode s pos).1=true then some (.inl (s,pos+(Utf8.decode s pos).2)) else some (.inr (.inr false))) :
  loopX f (s,0)=some (if (List.range s.size).all (fun i=>okB (s.get! i).toNat)=true then .inl () else .inr false):=by
 classical
 have gm:∀ i (h:i < s.size),s.get! i=s[i]'h:=by
  intro i h
  show s.data[i]! = _
  rw [getElem!_pos s.data i h]; rfl
 have:=loopX_spec (f:=f) (fun x=>x.1=s∧∀ j,j < x.2→j < s.size→okB (s.get! j).toNat=true) (fun x=>s.size - x.2) (fun x=>if ∀ j,x.2≤j→j < s.size→okB (s.get! j).toNat=true then .inl () else .inr false) ?_ (s,0) ⟨rfl,fun j hj=>by simp at hj⟩
 ·rw [this]
  have e:(∀ j,0≤j→j < s.size→okB (s.get! j).toNat=true) ↔ (List.range s.size).all (fun i=>okB (s.get! i).toNat)=true:=by simp [List.all_eq_true]
  congr 1
  by_cases h:(List.range s.size).all (fun i=>okB (s.get! i).toNat)=true
  ·rw [if_pos h,if_pos (e.2 h)]
  ·rw [if_neg h,if_neg (fun q=>h (e.1 q))]
 ·rintro ⟨s',pos⟩ ⟨h1,h2⟩
  simp only at h1 h2 ⊢
  subst h1
  by_cases hp:s'.size≤pos
  ·left
   rw [hend pos hp,if_pos (fun j q1 q2=>by omega)]
  ·have hlt:pos < s'.size:=by omega
   rw [hstep pos hlt]
   by_cases ha:(s'[pos]'hlt).toNat < 128
   ·have hd:=decode_ascii s' pos hlt ha
    rw [hd]
    simp only
    rw [← gm pos hlt]
    by_cases hok:okB (s'.get! pos).toNat=true
    ·rw [if_pos hok]
     right
     refine ⟨_,rfl,⟨rfl,fun j hj hj2=>?_⟩,by simp only; omega,?_⟩
     ·rcases Nat.lt_or_eq_of_le (Nat.le_of_lt_succ hj) with q | q
      ·exact h2 j q hj2
      ·rw [q]; exact hok
     ·simp only
      have e:(∀ j,pos+1≤j→j < s'.size→okB (s'.get! j).toNat=true) ↔ (∀ j,pos≤j→j < s'.size→okB (s'.get! j).toNat=true):=by
       constructor
       ·intro q j h1 h2
        rcases Nat.lt_or_eq_of_le h1 with h3 | h3
        ·exact q j h3 h2
        ·rw [← h3]; exact hok
       ·intro q j h1 h2; exact q j (by omega) h2
      by_cases hq:∀ j,pos≤j→j < s'.size→okB (s'.get! j).toNat=true
      ·rw [if_pos hq,if_pos (e.2 hq)]
      ·rw [if_neg hq,if_neg (fun q=>hq (e.1 q))]
    ·rw [if_neg hok]
     left
     rw [if_neg (fun q=>hok (q pos (Nat.le_refl _) hlt))]
   ·have hd:=decode_high s' pos hlt (by omega)
    have hbad:∀ n,128≤n→okB n=false:=by
     intro n hn
     unfold okB
     have a1:decide (n≤122)=false:=by rw [decide_eq_false_iff_not]; omega
     have a2:decide (n≤57)=false:=by rw [decide_eq_false_iff_not]; omega
     have a3:decide (n=45)=false:=by rw [decide_eq_false_iff_not]; omega
     rw [a1,a2,a3]
     cases decide (97≤n)<;>cases decide (48≤n)<;>rfl
    rw [hbad _ hd.1]
    left
    rw [if_neg (by simp),if_neg]
    intro q
    have:=q pos (Nat.le_refl _) hlt
    rw [gm pos hlt,hbad _ (by omega)] at this
    cases this
theorem octets_loop {s:ByteArray} {ρ:Type} {good bad:ρ} {f:Int→Option (Int ⊕ ρ)} (hend:f (s.size:Int)=some (.inr good))
  (hstep:∀ i:Nat,i < s.size→f (i:Int)=if okB (s.get! i).toNat=true then some (.inl ((i+1:Nat):Int)) else some (.inr bad)) :
  loopX f 0=some (if (List.range s.size).all (fun i=>okB (s.get! i).toNat)=true then good else bad) :=
 loop_all _ _ _ hend (fun i hi _=>hstep i hi)
end Go.Proofs.YtianfmdemgfgaaaDoor.VL
end
section
namespace Go.Proofs.YtianfmdemgfgaaaDoor.VL
open Go
set_option linter.unusedVariables false
set_option linter.unusedSectionVars false
set_option linter.unusedSimpArgs false
structure KOrd (κ:Type) where
 lt:κ→κ→Bool
 irr:∀ a,lt a a=false
 trn:∀ a b c,lt a b=true→lt b c=true→lt a c=true
 tri:∀ a b,lt a b=true∨a=b∨lt b a=true
namespace KOrd
variable {κ α:Type} (O:KOrd κ) (key:α→κ)
theorem asym {a b:κ} (h:O.lt a b=true):O.lt b a=false:=by
 rw [Bool.eq_false_iff]; intro k
 have:=O.trn _ _ _ h k
 rw [O.irr] at this; cases this
theorem ne {a b:κ} (h:O.lt a b=true):a≠b:=by rintro rfl; rw [O.irr] at h; cases h
def Srt (l:List α):Prop:=l.Pairwise (fun a b=>O.lt (key a) (key b)=true)
def plc (l:List α) (k:κ):Nat:=l.countP (fun x=>O.lt (key x) k)
open Classical in
noncomputable def look (l:List α) (k:κ):Option α:=l.find? (fun x=>decide (key x=k))
def put (l:List α) (x:α):List α:=l.filter (fun y=>O.lt (key y) (key x))++x::l.filter (fun y=>O.lt (key x) (key y))
variable {O key}
theorem Srt.tail {a:α} {l:List α} (h:O.Srt key (a::l)):O.Srt key l:=(List.pairwise_cons.1 h).2
theorem Srt.head {a:α} {l:List α} (h:O.Srt key (a::l)):∀ b ∈ l,O.lt (key a) (key b)=true:=(List.pairwise_cons.1 h).1
theorem plc_le (l:List α) (k:κ):O.plc key l k≤l.length:=List.countP_le_length
theorem split {l:List α} (hs:O.Srt key l) (k:κ):l.take (O.plc key l k)=l.filter (fun y=>O.lt (key y) k)∧l.drop (O.plc key l k)=l.filter (fun y=>!O.lt (key y) k):=by
 induction l with
 | nil=>exact ⟨rfl,rfl⟩
 | cons a l ih =>
  obtain ⟨i1,i2⟩:=ih hs.tail
  cases h:O.lt (key a) k with
  | true =>
   have e:O.plc key (a::l) k=O.plc key l k+1:=by unfold plc; simp [List.countP_cons,h]
   rw [e,List.take_succ_cons,List.drop_succ_cons,i1,i2]
   constructor<;>simp [h]
  | false =>
   have hall:∀ b ∈ l,O.lt (key b) k=false:=by
    intro b hb
    rw [Bool.eq_false_iff]; intro hk
    have:=O.trn _ _ _ (hs.head b hb) hk
    rw [h] at this; cases this
   have e:O.plc key (a::l) k=0:=by
    unfold plc
    simp only [List.countP_cons,h,Bool.false_eq_true,if_false,Nat.add_zero,List.countP_eq_zero]
    intro b hb; rw [hall b hb]; decide
   have f1:(a::l).filter (fun y=>O.lt (key y) k)=l.filter (fun y=>O.lt (key y) k):=by simp [h]
   have f2:(a::l).filter (fun y=>!O.lt (key y) k)=a::l.filter (fun y=>!O.lt (key y) k):=by simp [h]
   rw [e,List.take_zero,List.drop_zero,f1,f2]
   refine ⟨?_,?_⟩
   ·symm; rw [List.filter_eq_nil_iff]; intro b hb; rw [hall b hb]; decide
   ·rw [List.filter_eq_self.2]; intro b hb; rw [hall b hb]; rfl
theorem look_some {l:List α} {k:κ} {x:α} (h:look key l k=some x):x ∈ l∧key x=k:=by
 unfold look at h
 exact ⟨List.mem_of_find?_eq_some h,by have:=List.find?_some h; simpa using this⟩
theorem look_none' {l:List α} {k:κ} (h:∀ x ∈ l,key x≠k):look key l k=none:=by
 unfold look
 rw [List.find?_eq_none]
 intro x hx; have:=h x hx; simpa using this
theorem look_mem {l:List α} (hs:O.Srt key l) {x:α} (hx:x ∈ l):look key l (key x)=some x:=by
 induction l with
 | nil=>cases hx
 | cons a l ih =>
  unfold look
  by_cases he:key a=key x
  ·rw [List.find?_cons_of_pos (by simpa using he)]
   rcases List.mem_cons.1 hx with rfl | hx
   ·rfl
   ·exact absurd he (O.ne (hs.head x hx))
  ·rw [List.find?_cons_of_neg (by simpa using he)]
   rcases List.mem_cons.1 hx with rfl | hx
   ·exact absurd rfl he
   ·exact ih hs.tail hx
theorem look_at {l:List α} (hs:O.Srt key l) (k:κ):look key l k=(match l[O.plc key l k]? with | some x=>(if O.lt k (key x)=true then none else some x) | none=>none):=by
 have h2:=(split hs k).2
 have h3:l[O.plc key l k]?=(l.drop (O.plc key l k))[0]?:=by rw [List.getElem?_drop]; rfl
 rw [h3,h2]
 cases hd:l.filter (fun y=>!O.lt (key y) k) with
 | nil =>
  simp only [List.getElem?_nil]
  refine look_none' fun x hx he=>?_
  rw [List.filter_eq_nil_iff] at hd
  have:=hd x hx
  rw [he,O.irr] at this; exact this rfl
 | cons y r =>
  simp only [List.getElem?_cons_zero]
  have hy:y ∈ l∧O.lt (key y) k=false:=by
   have:y ∈ l.filter (fun y=>!O.lt (key y) k):=by rw [hd]; exact List.mem_cons_self
   rw [List.mem_filter] at this
   exact ⟨this.1,by simpa using this.2⟩
  have hsr:O.Srt key (y::r):=by rw [← hd]; exact List.Pairwise.filter _ hs
  cases hk:O.lt k (key y) with
  | true =>
   rw [if_pos rfl]
   refine look_none' fun x hx he=>?_
   have:x ∈ l.filter (fun y=>!O.lt (key y) k):=by rw [List.mem_filter]; exact ⟨hx,by rw [he,O.irr]; rfl⟩
   rw [hd] at this
   rcases List.mem_cons.1 this with rfl | hx'
   ·rw [he,O.irr] at hk; cases hk
   ·have:=O.trn _ _ _ hk (hsr.head x hx')
    rw [he,O.irr] at this; cases this
  | false =>
   rw [if_neg (by decide)]
   have he:key y=k:=by
    rcases O.tri (key y) k with q | q | q
    ·rw [hy.2] at q; cases q
    ·exact q
    ·rw [hk] at q; cases q
   rw [← he]
   exact look_mem hs hy.1
theorem srt_ext:∀ {l m:List α},O.Srt key l→O.Srt key m→(∀ x,x ∈ l ↔ x ∈ m)→l=m
 | [],[],_,_,_=>rfl
 | [],b::m,_,_,h=>by have:=(h b).2 List.mem_cons_self; cases this
 | a::l,[],_,_,h=>by have:=(h a).1 List.mem_cons_self; cases this
 | a::l,b::m,h1,h2,h=>by
  have hab:a=b:=by
   rcases List.mem_cons.1 ((h a).1 List.mem_cons_self) with q | q
   ·exact q
   ·rcases List.mem_cons.1 ((h b).2 List.mem_cons_self) with q2 | q2
    ·exact q2.symm
    ·have e1:=h2.head a q
     have e2:=h1.head b q2
     rw [O.asym e1] at e2; cases e2
  subst hab
  congr 1
  refine srt_ext h1.tail h2.tail fun x=>?_
  constructor
  ·intro hx
   rcases List.mem_cons.1 ((h x).1 (List.mem_cons_of_mem _ hx)) with rfl | q
   ·have:=h1.head x hx; rw [O.irr] at this; cases this
   ·exact q
  ·intro hx
   rcases List.mem_cons.1 ((h x).2 (List.mem_cons_of_mem _ hx)) with rfl | q
   ·have:=h2.head x hx; rw [O.irr] at this; cases this
   ·exact q
end KOrd
end Go.Proofs.YtianfmdemgfgaaaDoor.VL
end
section
namespace Go.Proofs.YtianfmdemgfgaaaDoor.VL
open Go
set_option linter.unusedVariables false
set_option linter.unusedSectionVars false
set_option linter.unusedSimpArgs false
def ltN (a b:ByteArray):Bool:=Op.bytesLess a.toList b.toList
def eqN (a b:ByteArray):Bool:=a.toList==b.toList
theorem eqN_eq {a b:ByteArray} (h:eqN a b=true):a=b:=toList_inj (by unfold eqN at h; exact eq_of_beq h)
theorem eqN_refl (a:ByteArray):eqN a a=true:=by unfold eqN; exact beq_self_eq_true _
theorem eqN_iff {a b:ByteArray}:eqN a b=true ↔ a=b:=⟨eqN_eq,fun h=>by rw [h]; exact eqN_refl _⟩
theorem tri (a b:ByteArray):ltN a b=true∨a=b∨ltN b a=true:=by
 rcases bl_tri a.toList b.toList with h | h | h
 ·exact .inl h
 ·exact .inr (.inl (toList_inj h))
 ·exact .inr (.inr h)
def nmO:KOrd ByteArray:=⟨ltN,fun a=>bl_irrefl _,fun a b c h k=>bl_trans h k,tri⟩
theorem eqN_of_lt {a b:ByteArray} (h:ltN a b=true):eqN a b=false:=by
 rw [Bool.eq_false_iff]; intro k; rw [eqN_eq k] at h; have:=bl_irrefl b.toList; unfold ltN at h; rw [this] at h; cases h
def cmpN (a b:ByteArray):Int:=if ltN a b=true then -1 else if eqN a b=true then 0 else 1
theorem cmp_lt (a b:ByteArray):decide (cmpN a b < 0)=ltN a b:=by
 unfold cmpN
 cases ltN a b<;>cases eqN a b<;>rfl
theorem cmp_eq (a b:ByteArray):(cmpN a b==0)=eqN a b:=by
 unfold cmpN
 cases h:ltN a b
 ·cases eqN a b<;>rfl
 ·rw [eqN_of_lt h]; rfl
variable [Val]
theorem mid {i j:Nat} (h:i+j≤9223372036854775807):IntKind.wrap .i64 (Int.fdiv (IntKind.wrap .u64 (IntKind.wrap .i64 ((i:Int)+(j:Int)))) 2)=(((i+j) / 2:Nat):Int):=by
 rw [wi (x:=(i:Int)+j) (by omega) (by omega),wu (by omega) (by omega)]
 have e:Int.fdiv ((i:Int)+(j:Int)) 2=(((i+j) / 2:Nat):Int):=by
  rw [Int.fdiv_eq_ediv_of_nonneg _ (by omega)]; omega
 rw [e,wi (by omega) (by omega)]
theorem not_lt_self (n:Nat):¬ ((n:Nat):Int) < ((n:Nat):Int):=by omega
theorem w1 {i:Nat} (h:i≤9223372036854775806):IntKind.wrap .i64 ((i:Int)+1)=((i+1:Nat):Int):=by rw [wi (by omega) (by omega)]; omega
theorem nz0:((0:Int) != 0)=false:=rfl
theorem nz1:((1:Int) != 0)=true:=rfl
theorem loop_detE {σ ρ:Type} {f:σ→Option (σ ⊕ ρ)} {s0:σ} (n:Nat) (st:Nat→σ) (r:ρ) (h0:s0=st 0) (hend:f (st n)=some (.inr r)) (hstep:∀ i,i < n→f (st i)=some (.inl (st (i+1)))):loopX f s0=some r:=by
 have key:∀ d i,n - i=d→i≤n→loopX f (st i)=some r:=by
  intro d
  induction d with
  | zero =>
   intro i h1 h2
   have:i=n:=by omega
   subst this; rw [loopX_eq,hend]
  | succ d ih=>intro i h1 h2; rw [loopX_eq,hstep i (by omega)]; exact ih (i+1) (by omega) (by omega)
 rw [h0]; exact key n 0 (by omega) (Nat.zero_le _)
theorem loop_ex {σ ρ:Type} {f:σ→Option (σ ⊕ ρ)} (I:σ→Prop) (m:σ→Nat) (P:ρ→Prop) (h:∀ s,I s→(∃ r,f s=some (.inr r)∧P r)∨∃ s',f s=some (.inl s')∧I s'∧m s' < m s) (s:σ) (hs:I s):∃ r,loopX f s=some r∧P r:=by
 have key:∀ (n:Nat) (s:σ),m s≤n→I s→∃ r,loopX f s=some r∧P r:=by
  intro n
  induction n with
  | zero =>
   intro s hn hs
   rw [loopX_eq]
   rcases h s hs with ⟨r,h1,h2⟩ | ⟨s',h1,h2,h3⟩
   ·rw [h1]; exact ⟨r,rfl,h2⟩
   ·omega
  | succ n ih =>
   intro s hn hs
   rw [loopX_eq]
   rcases h s hs with ⟨r,h1,h2⟩ | ⟨s',h1,h2,h3⟩
   ·rw [h1]; exact ⟨r,rfl,h2⟩
   ·rw [h1]; exact ih s' (by omega) h2
 exact key (m s) s (Nat.le_refl _) hs
theorem loop_list {α ρ:Type} {f:Int→Option (Int ⊕ ρ)} {s0:Int} (l:List α) (ok:α→Bool) (bad good:ρ) (h0:s0=0) (hend:f (l.length:Int)=some (.inr good))
  (hstep:∀ (i:Nat) (x:α),i < l.length→l[i]?=some x→f (i:Int)=if ok x=true then some (.inl ((i+1:Nat):Int)) else some (.inr bad)) :
  loopX f s0=some (if l.all ok=true then good else bad):=by
 subst h0
 rw [loop_all (n:=l.length) (fun i=>match l[i]? with | some x=>ok x | none=>true) bad good hend ?_]
 ·congr 2
  rw [eq_iff_iff,List.all_eq_true,List.all_eq_true]
  constructor
  ·intro h x hx
   obtain ⟨i,hi,rfl⟩:=List.getElem_of_mem hx
   have:=h i (List.mem_range.2 hi)
   rw [List.getElem?_eq_getElem hi] at this; exact this
  ·intro h i hi
   have hi:=List.mem_range.1 hi
   rw [List.getElem?_eq_getElem hi]; exact h _ (List.getElem_mem hi)
 ·intro i hi _
  rw [hstep i l[i] hi (List.getElem?_eq_getElem hi),List.getElem?_eq_getElem hi]
theorem loop_first {α ρ:Type} {f:Int→Option (Int ⊕ ρ)} {s0:Int} (l:List α) (p:α→Bool) (g:Nat→ρ) (no:ρ) (h0:s0=0) (hend:f (l.length:Int)=some (.inr no))
  (hstep:∀ (i:Nat) (x:α),i < l.length→l[i]?=some x→f (i:Int)=if p x=true then some (.inr (g i)) else some (.inl ((i+1:Nat):Int))) :
  loopX f s0=some (if l.any p=true then g (l.findIdx p) else no):=by
 subst h0
 have key:∀ d i,l.length - i=d→i≤l.length→(∀ j x,j < i→l[j]?=some x→p x=false)→loopX f (i:Int)=some (if l.any p=true then g (l.findIdx p) else no):=by
  intro d
  induction d with
  | zero =>
   intro i h1 h2 h3
   have:i=l.length:=by omega
   subst this
   rw [loopX_eq,hend,if_neg]
   rw [Bool.not_eq_true,List.any_eq_false]
   intro x hx
   obtain ⟨j,hj,rfl⟩:=List.getElem_of_mem hx
   rw [h3 j _ hj (List.getElem?_eq_getElem hj)]; decide
  | succ d ih =>
   intro i h1 h2 h3
   have hi:i < l.length:=by omega
   rw [loopX_eq,hstep i l[i] hi (List.getElem?_eq_getElem hi)]
   by_cases hp:p l[i]=true
   ·rw [if_pos hp]
    have ha:l.any p=true:=List.any_eq_true.2 ⟨_,List.getElem_mem hi,hp⟩
    have hf:l.findIdx p=i:=by
     refine (List.findIdx_eq hi).2 ⟨hp,fun j hj=>?_⟩
     exact h3 j _ hj (List.getElem?_eq_getElem (by omega))
    rw [if_pos ha,hf]
   ·rw [if_neg hp]
    simp only
    refine ih (i+1) (by omega) (by omega) fun j x hj hx=>?_
    rcases Nat.lt_or_eq_of_le (Nat.le_of_lt_succ hj) with q | q
    ·exact h3 j x q hx
    ·subst q
     rw [List.getElem?_eq_getElem hi] at hx
     cases hx
     exact Bool.eq_false_iff.2 hp
 exact key l.length 0 (by omega) (Nat.zero_le _) fun j x hj=>by omega
theorem loop_same {α:Type} [DecidableEq α] {f:Int→Option (Int ⊕ Bool)} {s0:Int} (a b:List α) (hl:a.length=b.length) (h0:s0=0) (hend:f (a.length:Int)=some (.inr true))
  (hstep:∀ (i:Nat) (x y:α),i < a.length→a[i]?=some x→b[i]?=some y→f (i:Int)=if x=y then some (.inl ((i+1:Nat):Int)) else some (.inr false)) :
  loopX f s0=some (decide (a=b)):=by
 have:=loop_list (f:=f) (s0:=s0) (a.zip b) (fun p=>decide (p.1=p.2)) false true h0 (by rw [List.length_zip,← hl,Nat.min_self]; exact hend) (fun i p hi hp=>by
  have hi:i < a.length:=by rw [List.length_zip,← hl,Nat.min_self] at hi; exact hi
  rw [List.getElem?_zip_eq_some] at hp
  rw [hstep i p.1 p.2 hi hp.1 hp.2]
  by_cases he:p.1=p.2<;>simp [he])
 rw [this]
 congr 1
 rw [Bool.eq_iff_iff,decide_eq_true_iff]
 have e:((a.zip b).all fun p=>decide (p.1=p.2))=true ↔ a=b:=by
  rw [List.all_eq_true]
  constructor
  ·intro h
   refine List.ext_getElem hl fun i h1 h2=>?_
   have:=h (a[i],b[i]) (by rw [List.mem_iff_getElem?]; exact ⟨i,by rw [List.getElem?_zip_eq_some]; exact ⟨List.getElem?_eq_getElem h1,List.getElem?_eq_getElem h2⟩⟩)
   simpa using this
  ·rintro rfl p hp
   rw [List.mem_iff_getElem?] at hp
   obtain ⟨i,hi⟩:=hp
   rw [List.getElem?_zip_eq_some] at hi
   have:=hi.1.symm.trans hi.2
   simpa using this
 by_cases h:((a.zip b).all fun p=>decide (p.1=p.2))=true
 ·rw [if_pos h]; simp [e.1 h]
 ·rw [if_neg h]; simp; exact fun q=>h (e.2 q)
theorem loop_find {κ α:Type} {O:KOrd κ} {key:α→κ} {l:List α} (hs:O.Srt key l) (k:κ) {f:Int×Int→Option ((Int×Int) ⊕ Int)} {s0:Int×Int} (h0:s0=(0,(l.length:Int)))
  (hend:∀ i:Nat,i≤l.length→f ((i:Int),(i:Int))=some (.inr (i:Int)))
  (hstep:∀ (i j m:Nat) (x:α),i < j→j≤l.length→m=(i+j) / 2→m < l.length→l[m]?=some x→f ((i:Int),(j:Int))=cond (O.lt (key x) k) (some (.inl (((m+1:Nat):Int),(j:Int)))) (some (.inl ((i:Int),(m:Int))))) :
  loopX f s0=some ((O.plc key l k:Nat):Int):=by
 subst h0
 have hsp:∀ i:Nat,(hi:i < l.length)→(O.lt (key l[i]) k=true ↔ i < O.plc key l k):=by
  intro i hi
  obtain ⟨e1,e2⟩:=KOrd.split hs k
  have hle:=KOrd.plc_le (O:=O) (key:=key) l k
  constructor
  ·intro h
   refine Nat.not_le.1 fun hge=>?_
   have hm:l[i] ∈ l.drop (O.plc key l k):=by rw [List.mem_iff_getElem?]; exact ⟨i - O.plc key l k,by rw [List.getElem?_drop,show O.plc key l k+(i - O.plc key l k)=i by omega,List.getElem?_eq_getElem hi]⟩
   rw [e2,List.mem_filter] at hm
   rw [h] at hm; exact absurd hm.2 (by decide)
  ·intro h
   have hm:l[i] ∈ l.take (O.plc key l k):=by rw [List.mem_iff_getElem?]; exact ⟨i,by rw [List.getElem?_take,if_pos h,List.getElem?_eq_getElem hi]⟩
   rw [e1,List.mem_filter] at hm
   exact hm.2
 have hle:=KOrd.plc_le (O:=O) (key:=key) l k
 have e:cntP (fun i=>decide (i < O.plc key l k)) l.length=O.plc key l k:=cntP_at hle (fun k hk=>decide_eq_true hk) (fun k h1 h2=>decide_eq_false (by omega))
 have:=loop_bs (f:=f) (n:=l.length) (fun i=>decide (i < O.plc key l k)) (fun i j h1 h2 h3=>by rw [decide_eq_true_iff] at *; omega) hend (fun i j h1 h2=>?_)
 ·rw [e] at this; exact this
 ·have hm:(i+j) / 2 < l.length:=by omega
  rw [hstep i j _ l[(i+j) / 2] h1 h2 rfl hm (List.getElem?_eq_getElem hm)]
  have hd:O.lt (key l[(i+j) / 2]) k=decide ((i+j) / 2 < O.plc key l k):=by rw [Bool.eq_iff_iff,decide_eq_true_iff]; exact hsp _ hm
  rw [hd]
  cases decide ((i+j) / 2 < O.plc key l k)<;>rfl
theorem find_at {κ α:Type} {O:KOrd κ} {key:α→κ} (e:κ→κ→Bool) (he:∀ a b,e a b=true ↔ a=b) {l:List α} (hs:O.Srt key l) (k:κ):l.find? (fun x=>e (key x) k)=(match l[O.plc key l k]? with | some x=>(if e (key x) k=true then some x else none) | none=>none):=by
 have h1:l.find? (fun x=>e (key x) k)=KOrd.look key l k:=by
  unfold KOrd.look
  congr 1
  funext x
  cases hq:e (key x) k
  ·exact (@decide_eq_false _ (Classical.propDecidable _) (fun h=>by rw [(he _ _).2 h] at hq; cases hq)).symm
  ·exact (@decide_eq_true _ (Classical.propDecidable _) ((he _ _).1 hq)).symm
 rw [h1,KOrd.look_at hs k]
 cases hx:l[O.plc key l k]? with
 | none=>rfl
 | some x =>
  simp only
  have hge:O.lt (key x) k=false:=by
   have hm:x ∈ l.drop (O.plc key l k):=by rw [List.mem_iff_getElem?]; exact ⟨0,by rw [List.getElem?_drop]; exact hx⟩
   rw [(KOrd.split hs k).2,List.mem_filter] at hm
   simpa using hm.2
  by_cases hq:e (key x) k=true
  ·have:=(he _ _).1 hq
   rw [if_pos hq,this,O.irr,if_neg (by decide)]
  ·rw [if_neg hq]
   rcases O.tri (key x) k with q | q | q
   ·rw [hge] at q; cases q
   ·exact absurd ((he _ _).2 q) hq
   ·rw [if_pos q]
theorem find_look {κ α:Type} {key:α→κ} (e:κ→κ→Bool) (he:∀ a b,e a b=true ↔ a=b) (l:List α) (k:κ):l.find? (fun x=>e (key x) k)=KOrd.look key l k:=by
 unfold KOrd.look
 congr 1
 funext x
 cases hq:e (key x) k
 ·exact (@decide_eq_false _ (Classical.propDecidable _) (fun h=>by rw [(he _ _).2 h] at hq; cases hq)).symm
 ·exact (@decide_eq_true _ (Classical.propDecidable _) ((he _ _).1 hq)).symm
def lkn {α:Type} (key:α→ByteArray) (l:List α) (nm:ByteArray):Option α:=l.find? (fun x=>eqN (key x) nm)
theorem lkn_at {α:Type} {key:α→ByteArray} {l:List α} (hs:nmO.Srt key l) (nm:ByteArray):lkn key l nm=(match l[nmO.plc key l nm]? with | some x=>(if eqN (key x) nm=true then some x else none) | none=>none):=find_at eqN (fun a b=>eqN_iff) hs nm
theorem lkn_look {α:Type} {key:α→ByteArray} (l:List α) (nm:ByteArray):lkn key l nm=KOrd.look key l nm:=find_look eqN (fun a b=>eqN_iff) l nm
end Go.Proofs.YtianfmdemgfgaaaDoor.VL
end
section
namespace Go.Proofs.YtianfmdemgfgaaaDoor.VL
open Go
set_option linter.unusedVariables false
set_option linter.unusedSectionVars false
set_option linter.unusedSimpArgs false
set_option maxRecDepth 100000
def sortP_ren:Go.Shelf.Ren:=⟨fun | 6=>44 | 15=>54 | 14=>53 | 28=>72 | 29=>73 | 20=>64 | 21=>65 | 22=>66 | 23=>67 | 24=>68 | 25=>69 | 26=>70 | 27=>71 | 46=>80 | 47=>81 | 48=>82 | 49=>83 | 50=>84 | 57=>89 | n=>n,fun | 22=>34 | 24=>64 | 25=>75 | 3=>3 | 39=>80 | 0=>0 | 53=>99 | 55=>60 | 4=>4 | 46=>93 | 45=>92 | 50=>67 | 5=>5 | 9=>9 | 66=>107 | 70=>111 | 76=>117 | 77=>118 | n=>n,fun | n=>n⟩
theorem sortP:Go.Proofs.SlLaysF0.n6 Tryd.prog sortP_ren:={
  mixed:=by kernel_rfl
  f6:=⟨Tryd.f44.name,by decide,Tryd.func44.trans (congrArg some (by kernel_rfl))⟩
  f14:=⟨Tryd.f53.name,by decide,Tryd.func53.trans (congrArg some (by kernel_rfl))⟩
  f15:=Tryd.func54.trans (congrArg some (by kernel_rfl))
  f20:=⟨Tryd.f64.name,by decide,Tryd.func64.trans (congrArg some (by kernel_rfl))⟩
  f21:=⟨Tryd.f65.name,by decide,Tryd.func65.trans (congrArg some (by kernel_rfl))⟩
  f22:=⟨Tryd.f66.name,by decide,Tryd.func66.trans (congrArg some (by kernel_rfl))⟩
  f23:=⟨Tryd.f67.name,by decide,Tryd.func67.trans (congrArg some (by kernel_rfl))⟩
  f24:=⟨Tryd.f68.name,by decide,Tryd.func68.trans (congrArg some (by kernel_rfl))⟩
  f25:=⟨Tryd.f69.name,by decide,Tryd.func69.trans (congrArg some (by kernel_rfl))⟩
  f26:=⟨Tryd.f70.name,by decide,Tryd.func70.trans (congrArg some (by kernel_rfl))⟩
  f27:=⟨Tryd.f71.name,by decide,Tryd.func71.trans (congrArg some (by kernel_rfl))⟩
  f28:=Tryd.func72.trans (congrArg some (by kernel_rfl))
  f29:=Tryd.func73.trans (congrArg some (by kernel_rfl))
  f46:=⟨Tryd.f80.name,by decide,Tryd.func80.trans (congrArg some (by kernel_rfl))⟩
  f47:=Tryd.func81.trans (congrArg some (by kernel_rfl))
  f48:=Tryd.func82.trans (congrArg some (by kernel_rfl))
  f49:=⟨Tryd.f83.name,by decide,Tryd.func83.trans (congrArg some (by kernel_rfl))⟩
  f50:=⟨Tryd.f84.name,by decide,Tryd.func84.trans (congrArg some (by kernel_rfl))⟩
  f57:=⟨Tryd.f89.name,by decide,Tryd.func89.trans (congrArg some (by kernel_rfl))⟩
  t0:=Tryd.underlying0
  a0:=Tryd.isAgg0
  z0:=Tryd.sizeOf0
  v0:=Tryd.zeroValue0
  t3:=Tryd.underlying3
  a3:=Tryd.isAgg3
  z3:=Tryd.sizeOf3
  v3:=Tryd.zeroValue3
  t4:=Tryd.underlying4
  a4:=Tryd.isAgg4
  z4:=Tryd.sizeOf4
  v4:=Tryd.zeroValue4
  t5:=Tryd.underlying5
  a5:=Tryd.isAgg5
  z5:=Tryd.sizeOf5
  v5:=Tryd.zeroValue5
  t9:=Tryd.underlying9
  a9:=Tryd.isAgg9
  z9:=Tryd.sizeOf9
  v9:=Tryd.zeroValue9
  t22:=Tryd.underlying34
  a22:=Tryd.isAgg34
  z22:=Tryd.sizeOf34
  v22:=Tryd.zeroValue34
  t25:=Tryd.underlying75
  a25:=Tryd.isAgg75
  z25:=Tryd.sizeOf75
  v25:=Tryd.zeroValue75
  t39:=Tryd.underlying80
  a39:=Tryd.isAgg80
  z39:=Tryd.sizeOf80
  v39:=Tryd.zeroValue80
  t45:=Tryd.underlying92
  a45:=Tryd.isAgg92
  z45:=Tryd.sizeOf92
  v45:=Tryd.zeroValue92
  t46:=Tryd.underlying93
  a46:=Tryd.isAgg93
  z46:=Tryd.sizeOf93
  v46:=Tryd.zeroValue93
  t50:=Tryd.underlying67
  a50:=Tryd.isAgg67
  z50:=Tryd.sizeOf67
  v50:=Tryd.zeroValue67
  t53:=Tryd.underlying99
  a53:=Tryd.isAgg99
  z53:=Tryd.sizeOf99
  v53:=Tryd.zeroValue99
  t55:=Tryd.underlying60
  a55:=Tryd.isAgg60
  z55:=Tryd.sizeOf60
  v55:=Tryd.zeroValue60
  t66:=Tryd.underlying107
  a66:=Tryd.isAgg107
  z66:=Tryd.sizeOf107
  v66:=Tryd.zeroValue107
  t70:=Tryd.underlying111
  a70:=Tryd.isAgg111
  z70:=Tryd.sizeOf111
  v70:=Tryd.zeroValue111
  t76:=Tryd.underlying117
  a76:=Tryd.isAgg117
  z76:=Tryd.sizeOf117
  v76:=Tryd.zeroValue117
  t77:=Tryd.underlying118
  a77:=Tryd.isAgg118
  z77:=Tryd.sizeOf118
  v77:=Tryd.zeroValue118 }
section
variable [Val]
abbrev PT:=Int×(Int×Int)
def cm (a b:Int):Int:=cond (decide (a < b)) (-1) (cond (decide (b < a)) 1 0)
theorem cm_lt {a b:Int} (h:a < b):cm a b=-1:=by unfold cm; rw [decide_eq_true h]; rfl
theorem cm_gt {a b:Int} (h:b < a):cm a b=1:=by unfold cm; rw [decide_eq_false (by omega),decide_eq_true h]; rfl
theorem cm_eq (a:Int):cm a a=0:=by unfold cm; rw [decide_eq_false (by omega)]; rfl
theorem cm_cases (a b:Int):(a < b∧cm a b=-1)∨(a=b∧cm a b=0)∨(b < a∧cm a b=1):=by
 rcases Int.lt_trichotomy a b with h | h | h
 ·exact .inl ⟨h,cm_lt h⟩
 ·exact .inr (.inl ⟨h,by rw [h]; exact cm_eq b⟩)
 ·exact .inr (.inr ⟨h,cm_gt h⟩)
theorem F56_ok (a b:Int):F56 (a,b)=some (cm a b):=by
 rw [F56_eq]
 have e1:(a != a)=false:=by simp
 have e2:(b != b)=false:=by simp
 unfold cm
 simp -implicitDefEqProofs only [e1,e2,eq_self,xs]
 show cond (decide (a < b)) (some (-1)) (cond (decide (b < a)) (some 1) (some 0))=_
 cases decide (a < b)<;>cases decide (b < a)<;>rfl
theorem F57_ok (a b:Int):F57 (a,b)=some (cm a b):=by
 rw [F57_eq]
 have e1:(a != a)=false:=by simp
 have e2:(b != b)=false:=by simp
 unfold cm
 simp -implicitDefEqProofs only [e1,e2,eq_self,xs]
 show cond (decide (a < b)) (some (-1)) (cond (decide (b < a)) (some 1) (some 0))=_
 cases decide (a < b)<;>cases decide (b < a)<;>rfl
theorem F55_ok (x y z:Int):F55 [x,y,z]=some (if x=0 then (if y=0 then z else y) else x):=by
 have h0:(0:Int)≤0:=by omega
 have a0:decide ((0:Int) < (([x,y,z].length:Nat):Int))=true:=by rfl
 have a1:decide ((1:Int) < (([x,y,z].length:Nat):Int))=true:=by rfl
 have a2:decide ((2:Int) < (([x,y,z].length:Nat):Int))=true:=by rfl
 have a3:decide ((3:Int) < (([x,y,z].length:Nat):Int))=false:=by rfl
 have w0:IntKind.wrap .i64 ((0:Int)+1)=1:=by rfl
 have w1':IntKind.wrap .i64 ((1:Int)+1)=2:=by rfl
 have w2:IntKind.wrap .i64 ((2:Int)+1)=3:=by rfl
 have g0:[x,y,z][(0:Int).toNat]?=some x:=rfl
 have g1:[x,y,z][(1:Int).toNat]?=some y:=rfl
 have g2:[x,y,z][(2:Int).toNat]?=some z:=rfl
 have n0:decide ((0:Int)≤0)=true:=rfl
 have n1:decide ((0:Int)≤1)=true:=rfl
 have n2:decide ((0:Int)≤2)=true:=rfl
 rw [F55_eq,loopX_eq]
 simp only [a0,g0,n0,w0,cond_true,Option.bind_some]
 by_cases hx:x=0
 ·subst hx
  simp only [bne_self_eq_false,cond_false,if_true]
  rw [loopX_eq]
  simp only [a1,g1,n1,w1',cond_true,Option.bind_some]
  by_cases hy:y=0
  ·subst hy
   simp only [bne_self_eq_false,cond_false,if_true]
   rw [loopX_eq]
   simp only [a2,g2,n2,w2,cond_true,Option.bind_some]
   by_cases hz:z=0
   ·subst hz
    simp only [bne_self_eq_false,cond_false]
    rw [loopX_eq]
    simp only [a3,cond_false]
   ·have e:(z != 0)=true:=by simpa using hz
    simp only [e,cond_true]
  ·have e:(y != 0)=true:=by simpa using hy
   simp only [e,cond_true,if_neg hy]
 ·have e:(x != 0)=true:=by simpa using hx
  simp only [e,cond_true,if_neg hx]
def cmpP (a b:PT):Int:=if cm a.1 b.1=0 then (if cm a.2.1 b.2.1=0 then cm a.2.2 b.2.2 else cm a.2.1 b.2.1) else cm a.1 b.1
theorem F45_ok (a b:PT):F45 (a,b)=some (cmpP a b):=by
 rw [F45_eq]
 have h1:=F56_ok a.1 b.1
 have h2:=F57_ok a.2.1 b.2.1
 have h3:=F57_ok a.2.2 b.2.2
 have h4:=F55_ok (cm a.1 b.1) (cm a.2.1 b.2.1) (cm a.2.2 b.2.2)
 simp -implicitDefEqProofs only [h1,h2,h3,h4,eq_self,xs]
 rfl
def ltP (a b:PT):Bool:=decide (a.1 < b.1) || (decide (a.1=b.1)&&(decide (a.2.1 < b.2.1) || (decide (a.2.1=b.2.1)&&decide (a.2.2 < b.2.2))))
theorem ltP_iff {a b:PT}:ltP a b=true ↔ a.1 < b.1∨(a.1=b.1∧(a.2.1 < b.2.1∨(a.2.1=b.2.1∧a.2.2 < b.2.2))):=by
 simp [ltP]
theorem cmpP_lt (a b:PT):decide (cmpP a b < 0)=ltP a b:=by
 rw [Bool.eq_iff_iff,decide_eq_true_iff,ltP_iff]
 unfold cmpP
 rcases cm_cases a.1 b.1 with ⟨h1,e1⟩ | ⟨h1,e1⟩ | ⟨h1,e1⟩<;>rcases cm_cases a.2.1 b.2.1 with ⟨h2,e2⟩ | ⟨h2,e2⟩ | ⟨h2,e2⟩<;>rcases cm_cases a.2.2 b.2.2 with ⟨h3,e3⟩ | ⟨h3,e3⟩ | ⟨h3,e3⟩<;>rw [e1,e2,e3]<;>simp<;>omega
theorem cmpP_ge (a b:PT):decide (cmpP a b ≥ 0)=!ltP a b:=by
 rw [← cmpP_lt,Bool.eq_iff_iff,Bool.not_eq_true',decide_eq_true_iff,decide_eq_false_iff_not]; omega
theorem ltOf_cmpP (a b:PT):Go.Proofs.ltOf cmpP a b=ltP a b:=cmpP_lt a b
def ptO:KOrd PT:=⟨ltP,fun a=>by rw [Bool.eq_false_iff]; intro h; rw [ltP_iff] at h; omega,fun a b c h k=>by rw [ltP_iff] at *; omega,fun a b=>by
 obtain ⟨a1,a2,a3⟩:=a
 obtain ⟨b1,b2,b3⟩:=b
 rw [ltP_iff,ltP_iff]
 simp only [Prod.mk.injEq]
 omega⟩
theorem ltP_irr (a:PT):ltP a a=false:=ptO.irr a
theorem ltP_trans {a b c:PT} (h:ltP a b=true) (k:ltP b c=true):ltP a c=true:=ptO.trn _ _ _ h k
theorem ltP_tri (a b:PT):ltP a b=true∨a=b∨ltP b a=true:=ptO.tri a b
theorem swoP:Go.Sort.SWO (Go.Proofs.ltOf cmpP) where
 irrefl a:=by rw [ltOf_cmpP]; exact ltP_irr a
 trans a b c h k:=by rw [ltOf_cmpP] at *; exact ltP_trans h k
 ntrans a b c h k:=by
  rw [ltOf_cmpP] at *
  rw [Bool.eq_false_iff] at *
  intro q
  rcases ltP_tri a b with r | r | r
  ·exact h r
  ·subst r; exact k q
  ·exact k (ltP_trans r q)
def ix44:EX:=.srt 44 3 45 (.i .u64) (.p (.i .i64) (.i .i64)) cmpP
theorem ix44_ok:ix44.ok Tryd.prog:=by
 refine ⟨by kernel_rfl,by kernel_rfl,⟨sortP_ren,sortP,rfl,Tryd.isAgg64,Tryd.sizeOf64⟩,rfl,rfl,fun a b=>?_,swoP,fun a b h k=>?_⟩
 ·exact pe45_ok.h (a,b) (cmpP a b) (F45_ok a b)
 ·rw [ltOf_cmpP] at h k
  rcases ltP_tri a b with r | r | r
  ·rw [h] at r; cases r
  ·exact r
  ·rw [k] at r; cases r
end
end Go.Proofs.YtianfmdemgfgaaaDoor.VL
end
section
namespace Go.Proofs.YtianfmdemgfgaaaDoor.VL
open Go
set_option linter.unusedVariables false
set_option linter.unusedSectionVars false
set_option linter.unusedSimpArgs false
set_option maxRecDepth 100000
variable [Val]
theorem wrapU (x:Int):IntKind.wrap .u64 x=x % 18446744073709551616:=by rw [IntKind.wrap_u64]
theorem u_range (x:Int):0≤IntKind.wrap .u64 x∧IntKind.wrap .u64 x≤18446744073709551615:=by rw [wrapU]; omega
theorem ul_get {s:ByteArray} {i:Nat} (h:i < s.size):s[(Int.toNat (i:Int))]?=some (s.toList[i]'(by rw [toList_len]; exact h)):=by
 rw [ba_get h]
 congr 1
 have h1:i < s.data.size:=h
 have:s.get! i=s.data[i]:=by
  show s.data[i]! = _
  rw [getElem!_pos s.data i h1]
 rw [this]
 have h2:=toList_data s
 have h3:∀ (l:List UInt8) (e:l=s.data.toList) (hi:i < l.length),s.data[i]=l[i]:=by
  intro l e hi; subst e; simp
 exact h3 _ h2 _
def stepF (h:Int) (c:UInt8):Int:=IntKind.wrap .u64 (IntKind.wrap .u64 (((BitVec.ofInt 64 h).xor (BitVec.ofInt 64 (IntKind.wrap .u64 ((c.toNat:Nat):Int)))).toNat:Nat) * 1099511628211)
def onL (h:Int) (l:List UInt8):Int:=l.foldl stepF h
def onF (h:Int) (s:ByteArray):Int:=onL h s.toList
theorem onL_snoc (h:Int) (l:List UInt8) (c:UInt8):onL h (l++[c])=stepF (onL h l) c:=by unfold onL; rw [List.foldl_append]; rfl
theorem onL_app (h:Int) (l m:List UInt8):onL h (l++m)=onL (onL h l) m:=by unfold onL; rw [List.foldl_append]
theorem F51_ok (h:Int) {s:ByteArray} (hs:s.size≤9223372036854775806):F51 (h,s)=some (onF h s):=by
 rw [F51_eq]
 have hl:=toList_len s
 rw [loop_detE (s0:=(h,(0:Int))) s.size (fun i=>(onL h (s.toList.take i),((i:Nat):Int))) (onF h s) rfl]
 ·have q:¬ ((s.size:Nat):Int) < ((s.size:Nat):Int):=by omega
  simp -implicitDefEqProofs only [q,eq_self,xs]
  rw [List.take_of_length_le (by omega)]
  rfl
 ·intro i hi
  have q1:((i:Nat):Int) < ((s.size:Nat):Int):=by omega
  have q2:(0:Int)≤(i:Int):=by omega
  have e:onL h (s.toList.take (i+1))=stepF (onL h (s.toList.take i)) (s.toList[i]'(by omega)):=by
   rw [List.take_succ_eq_append_getElem (by omega),onL_snoc]
  have g:=ul_get hi
  rw [Int.toNat_natCast] at g
  simp -implicitDefEqProofs only [q1,q2,g,w1 (show i≤9223372036854775806 by omega),eq_self,xs]
  rw [e]
  rfl
theorem F61_ok {n:Int} (h:0≤n∧n≤18446744073709551615):F61 n=some (IntKind.wrap .u64 (n * 1099511628211)):=by
 rw [F61_eq]
 rw [loop_detE (s0:=(IntKind.wrap .u64 (n * 1099511627776),(0:Int))) 435 (fun i=>(IntKind.wrap .u64 (n * 1099511627776+(i:Int) * n),((i:Nat):Int))) (IntKind.wrap .u64 (n * 1099511628211)) (by simp)]
 ·have q:¬ ((435:Nat):Int) < 435:=by omega
  have e:n * 1099511627776+((435:Nat):Int) * n=n * 1099511628211:=by omega
  simp -implicitDefEqProofs only [q,e,eq_self,xs]
 ·intro i hi
  have q:((i:Nat):Int) < 435:=by omega
  have e:IntKind.wrap .u64 (IntKind.wrap .u64 (n * 1099511627776+(i:Int) * n)+n)=IntKind.wrap .u64 (n * 1099511627776+((i+1:Nat):Int) * n):=by
   have e1:((i+1:Nat):Int) * n=(i:Int) * n+n:=by rw [Int.natCast_add,Int.add_mul]; simp
   rw [e1]
   generalize (i:Int) * n=x
   rw [wrapU,wrapU,wrapU]; omega
  simp -implicitDefEqProofs only [q,e,w1 (show i≤9223372036854775806 by omega),eq_self,xs]
theorem F47_ok (h:Int) {s:ByteArray} (hs:s.size≤9223372036854775806):F47 (h,s)=some (onF h s):=by
 rw [F47_eq]
 have hl:=toList_len s
 rw [loop_detE (s0:=(h,(0:Int))) s.size (fun i=>(onL h (s.toList.take i),((i:Nat):Int))) (onF h s) rfl]
 ·have q:¬ ((s.size:Nat):Int) < ((s.size:Nat):Int):=by omega
  simp -implicitDefEqProofs only [q,eq_self,xs]
  rw [List.take_of_length_le (by omega)]
  rfl
 ·intro i hi
  have q1:((i:Nat):Int) < ((s.size:Nat):Int):=by omega
  have q2:(0:Int)≤(i:Int):=by omega
  have e:onL h (s.toList.take (i+1))=stepF (onL h (s.toList.take i)) (s.toList[i]'(by omega)):=by
   rw [List.take_succ_eq_append_getElem (by omega),onL_snoc]
  have g:=ul_get hi
  rw [Int.toNat_natCast] at g
  have f:=F61_ok (u_range (((BitVec.ofInt 64 (onL h (s.toList.take i))).xor (BitVec.ofInt 64 (IntKind.wrap .u64 (((s.toList[i]'(by omega)).toNat:Nat):Int)))).toNat:Nat))
  simp -implicitDefEqProofs only [q1,q2,g,f,w1 (show i≤9223372036854775806 by omega),eq_self,xs]
  rw [e]
  rfl
abbrev fst0:Int:=14695981039346656037
theorem F42_ok {l:List ByteArray} (hl:l.length≤9223372036854775806) (hs:∀ s ∈ l,s.size≤9223372036854775806):F42 l=some (l.foldl onF fst0):=by
 rw [F42_eq]
 rw [loop_detE (s0:=(fst0,(0:Int))) l.length (fun i=>((l.take i).foldl onF fst0,((i:Nat):Int))) (l.foldl onF fst0) rfl]
 ·have q:¬ ((l.length:Nat):Int) < ((l.length:Nat):Int):=by omega
  simp -implicitDefEqProofs only [q,List.take_length,eq_self,xs]
 ·intro i hi
  have q1:((i:Nat):Int) < ((l.length:Nat):Int):=by omega
  have q2:(0:Int)≤(i:Int):=by omega
  have g:=List.getElem?_eq_getElem hi
  have f:=F51_ok ((l.take i).foldl onF fst0) (hs _ (List.getElem_mem hi))
  simp -implicitDefEqProofs only [q1,q2,g,f,w1 (show i≤9223372036854775806 by omega),eq_self,xs]
  rw [List.take_succ_eq_append_getElem hi,List.foldl_append]
  rfl
def keyH (s:ByteArray):Int:=onF fst0 s
theorem F42_one {s:ByteArray} (hs:s.size≤9223372036854775806):F42 [s]=some (keyH s):=F42_ok (l:=[s]) (show 1≤9223372036854775806 by decide) (fun t ht=>by rw [List.mem_singleton] at ht; subst ht; exact hs)
theorem ba_nil (s:ByteArray):ByteArray.mk #[]++s=s:=by
 apply toList_inj
 rw [toList_data,toList_data]
 simp [ByteArray.data_append]
theorem ba_app (a b:ByteArray):(a++b).toList=a.toList++b.toList:=by
 rw [toList_data,toList_data,toList_data]
 simp [ByteArray.data_append]
theorem F31_one {s:ByteArray} (hs:s.size≤4611686018427387904):F31 [s]=some (keyH s):=by
 rw [F31_eq]
 have f:=F47_ok fst0 (show s.size≤9223372036854775806 by omega)
 rw [loop_detE (s0:=(ByteArray.mk #[],(0:Int))) 1 (fun i=>match i with | 0=>(ByteArray.mk #[],0) | _=>(s,1)) (keyH s) rfl]
 ·have q:¬ (1:Int) < (([s].length:Nat):Int):=by simp
  simp -implicitDefEqProofs only [q,f,eq_self,xs]
  rfl
 ·intro i hi
  obtain rfl:i=0:=by omega
  have q:(0:Int) < (([s].length:Nat):Int):=by simp
  have q2:(0:Int)≤(0:Int):=by decide
  have g:[s][(0:Nat)]?=some s:=rfl
  have g':[s][(Int.toNat (0:Int))]?=some s:=rfl
  have z:(ByteArray.mk #[]).size+s.size≤4611686018427387904:=by rw [show (ByteArray.mk #[]).size=0 from rfl]; omega
  have ww:IntKind.wrap .i64 ((0:Int)+1)=1:=by rfl
  have q0:(0:Int) < ((1:Nat):Int):=by decide
  simp -implicitDefEqProofs only [q,q0,q2,g,g',z,ww,ba_nil,eq_self,xs]
def slash:ByteArray:=ByteArray.mk #[47]
def hsh (n i:Nat):Int:=onF (onF (onF fst0 (itoa n)) slash) (itoa i)
def hnm (n i:Nat):ByteArray:=(itoa n++slash)++itoa i
theorem hsh_key (n i:Nat):hsh n i=keyH (hnm n i):=by
 unfold hsh keyH hnm onF
 rw [ba_app,ba_app,onL_app,onL_app]
theorem itoa_size (n:Nat):(itoa n).size≤2:=by
 unfold itoa
 cases Nat.blt n 10
 ·show 2≤2; exact Nat.le_refl _
 ·show 1≤2; decide
theorem hnm_size (n i:Nat):(hnm n i).size≤5:=by
 have h1:=itoa_size n
 have h2:=itoa_size i
 unfold hnm
 rw [ByteArray.size_append,ByteArray.size_append]
 have:slash.size=1:=rfl
 omega
theorem F43_ok {n:Nat} (h:n < 64):F43 (n:Int)=some (itoa n):=by
 unfold F43
 have q1:(0:Int)≤(n:Int):=by omega
 have q2:(n:Int) < 64:=by omega
 rw [decide_eq_true q1,decide_eq_true q2]
 rfl
theorem F42_hsh (n i:Nat):F42 (itoa n::(ByteArray.mk #[47]::(itoa i::[])))=some (hsh n i) :=
 F42_ok (l:=[itoa n,slash,itoa i]) (show 3≤9223372036854775806 by decide) (fun t ht=>by
  have h1:=itoa_size n
  have h2:=itoa_size i
  have h3:slash.size=1:=rfl
  simp only [List.mem_cons,List.mem_singleton,List.not_mem_nil,or_false] at ht
  rcases ht with rfl | rfl | rfl<;>omega)
end Go.Proofs.YtianfmdemgfgaaaDoor.VL
end
section
namespace Go.Proofs.YtianfmdemgfgaaaDoor.VL
open Go
set_option linter.unusedVariables false
set_option linter.unusedSectionVars false
set_option linter.unusedSimpArgs false
set_option maxRecDepth 100000
variable [Val]
def rngB (x:Int):Bool:=decide (0≤x)&&decide (x < 64)
theorem rngB_iff {x:Int}:rngB x=true ↔ 0≤x∧x < 64:=by simp [rngB]
def metA (l:List Int):List Bool:=(List.range 64).map (fun k=>decide (((k:Nat):Int) ∈ l))
theorem metA_len (l:List Int):(metA l).length=64:=by unfold metA; rw [List.length_map,List.length_range]
theorem metA_nil:metA []=List.replicate 64 false:=by decide
theorem metA_get {l:List Int} {x:Int} (h:0≤x∧x < 64):(metA l)[x.toNat]?=some (decide (x ∈ l)):=by
 unfold metA
 rw [List.getElem?_map,List.getElem?_range (by omega),Option.map_some]
 rw [Int.toNat_of_nonneg h.1]
theorem metA_set {l:List Int} {x:Int} (h:0≤x∧x < 64):(metA l).set x.toNat true=metA (l++[x]):=by
 refine List.ext_getElem? fun i=>?_
 rw [List.getElem?_set]
 by_cases hi:i < 64
 ·have g:∀ l:List Int,(metA l)[i]?=some (decide (((i:Nat):Int) ∈ l)):=fun l=>by
   unfold metA
   rw [List.getElem?_map,List.getElem?_range hi,Option.map_some]
  rw [g,g]
  split
  ·rename_i he
   rw [if_pos (by rw [metA_len]; omega)]
   rw [decide_eq_true]
   rw [← he,Int.toNat_of_nonneg h.1]; simp
  ·rename_i he
   congr 1
   rw [Bool.eq_iff_iff,decide_eq_true_iff,decide_eq_true_iff,List.mem_append,List.mem_singleton]
   constructor
   ·exact .inl
   ·rintro (q | q)
    ·exact q
    ·exact absurd (by rw [← q]; exact Int.toNat_natCast i) he
 ·have g:∀ l:List Int,(metA l)[i]?=none:=fun l=>List.getElem?_eq_none (by rw [metA_len]; omega)
  rw [g,g]
  split
  ·rename_i he; exact absurd (by omega) hi
  ·rfl
theorem F49_ok {l:List Int} (hl:l.length≤9223372036854775806):F49 l=some (if (∀ x ∈ l,rngB x=true)∧l.Nodup then true else false):=by
 rw [F49_eq,← metA_nil,show metA ([]:List Int)=metA (l.take 0) from by rw [List.take_zero]]
 rw [loop_allS (n:=l.length) (fun i=>metA (l.take i)) (fun i=>match l[i]? with | some x=>rngB x&&!decide (x ∈ l.take i) | none=>true) false true]
 ·congr 1
  have e:((List.range l.length).all (fun i=>match l[i]? with | some x=>rngB x&&!decide (x ∈ l.take i) | none=>true)=true) ↔ (∀ x ∈ l,rngB x=true)∧l.Nodup:=by
   rw [List.all_eq_true]
   constructor
   ·intro h
    have h':∀ (i:Nat) (hi:i < l.length),rngB l[i]=true∧l[i] ∉ l.take i:=by
     intro i hi
     have:=h i (List.mem_range.2 hi)
     rw [List.getElem?_eq_getElem hi] at this
     simp only [Bool.and_eq_true,Bool.not_eq_true',decide_eq_false_iff_not] at this
     exact this
    refine ⟨fun x hx=>?_,?_⟩
    ·obtain ⟨i,hi,rfl⟩:=List.getElem_of_mem hx
     exact (h' i hi).1
    ·rw [List.nodup_iff_pairwise_ne,List.pairwise_iff_getElem]
     intro i j hi hj hij he
     refine (h' j hj).2 ?_
     rw [← he]
     rw [List.mem_take_iff_getElem]
     exact ⟨i,by omega,rfl⟩
   ·rintro ⟨h1,h2⟩ i hi
    have hi:=List.mem_range.1 hi
    rw [List.getElem?_eq_getElem hi]
    simp only [Bool.and_eq_true,Bool.not_eq_true',decide_eq_false_iff_not]
    refine ⟨h1 _ (List.getElem_mem hi),fun hm=>?_⟩
    rw [List.mem_take_iff_getElem] at hm
    obtain ⟨j,hj,he⟩:=hm
    rw [List.nodup_iff_pairwise_ne,List.pairwise_iff_getElem] at h2
    exact h2 j i (by omega) hi (by omega) he
  by_cases h:(∀ x ∈ l,rngB x=true)∧l.Nodup
  ·rw [if_pos h,if_pos (e.2 h)]
  ·rw [if_neg h,if_neg (fun q=>h (e.1 q))]
 ·have q:¬ ((l.length:Nat):Int) < ((l.length:Nat):Int):=by omega
  simp -implicitDefEqProofs only [q,eq_self,xs]
 ·intro i hi _
  have q1:((i:Nat):Int) < ((l.length:Nat):Int):=by omega
  have q2:(0:Int)≤(i:Int):=by omega
  have g:=List.getElem?_eq_getElem hi
  simp only [g]
  have tk:l.take (i+1)=l.take i++[l[i]]:=List.take_succ_eq_append_getElem hi
  by_cases h0:l[i] < 0
  ·have e:rngB l[i]=false:=by rw [Bool.eq_false_iff]; intro h; rw [rngB_iff] at h; omega
   simp -implicitDefEqProofs only [q1,q2,g,h0,e,eq_self,xs]
  by_cases h1:l[i] ≥ 64
  ·have e:rngB l[i]=false:=by rw [Bool.eq_false_iff]; intro h; rw [rngB_iff] at h; omega
   simp -implicitDefEqProofs only [q1,q2,g,h0,h1,e,eq_self,xs]
  have hr:0≤l[i]∧l[i] < 64:=by omega
  have e:rngB l[i]=true:=rngB_iff.2 hr
  have ix:0+l[i].toNat * 1=l[i].toNat:=by omega
  have mg:=metA_get (l:=l.take i) hr
  have hlen:l[i].toNat < (metA (l.take i)).length:=by rw [metA_len]; omega
  have hlen2:1 < (metA (l.take i)).length:=by rw [metA_len]; omega
  have ms:=metA_set (l:=l.take i) hr
  by_cases hm:l[i] ∈ l.take i
  ·simp -implicitDefEqProofs only [q1,q2,g,h0,h1,e,hr.1,hr.2,Nat.mul_one,ix,mg,hm,eq_self,xs]
  ·simp -implicitDefEqProofs only [q1,q2,g,h0,h1,e,hr.1,hr.2,Nat.mul_one,ix,mg,hm,hlen,hlen2,ms,w1 (show i≤9223372036854775806 by omega),tk,eq_self,xs]
theorem get!_of {l:List Int} {i:Nat} (h:i < l.length):l[i]! = l[i]:=getElem!_pos l i h
open Classical in
theorem F50_ok {l:List Int} (hl:l.length≤9223372036854775806):F50 l=some (if ∀ i,i+1 < l.length→¬ l[i+1]! < l[i]! then true else false):=by
 rw [F50_eq]
 have ww:IntKind.wrap .i64 ((l.length:Int) - 1)=(l.length:Int) - 1:=by rw [wi (by omega) (by omega)]
 rw [ww]
 refine (loopX_spec (fun s:Int=>-1≤s∧s < (l.length:Int)) (fun s=>s.toNat) (fun s=>if ∀ i:Nat,((i+1:Nat):Int)≤s→¬ l[i+1]! < l[i]! then true else false) ?_ ((l.length:Int) - 1) ⟨by omega,by omega⟩).trans ?_
 ·rintro s ⟨h1,h2⟩
  by_cases hs:s≤0
  ·left
   have q:¬ s > 0:=by omega
   have e:∀ i:Nat,((i+1:Nat):Int)≤s→¬ l[i+1]! < l[i]! := fun i hi=>by omega
   rw [if_pos e]
   simp -implicitDefEqProofs only [q,eq_self,xs]
  ·obtain ⟨k,rfl⟩:∃ k:Nat,s=((k+1:Nat):Int):=⟨(s - 1).toNat,by omega⟩
   have hk:k+1 < l.length:=by omega
   have q1:((k+1:Nat):Int) > 0:=by omega
   have q2:(0:Int)≤((k+1:Nat):Int):=by omega
   have q3:(0:Int)≤((k:Nat):Int):=by omega
   have ww:IntKind.wrap .i64 (((k+1:Nat):Int) - 1)=((k:Nat):Int):=by rw [wi (by omega) (by omega)]; omega
   have g1:l[k+1]?=some l[k+1]! := by rw [get!_of hk]; exact List.getElem?_eq_getElem hk
   have g2:l[k]?=some l[k]! := by rw [get!_of (show k < l.length by omega)]; exact List.getElem?_eq_getElem (by omega)
   have n1:(l[k+1]! != l[k+1]!)=false:=by simp
   by_cases hlt:l[k+1]! < l[k]!
   ·left
    rw [if_neg (fun h=>h k (by omega) hlt)]
    have t:Int.toNat ((k+1:Nat):Int)=k+1:=Int.toNat_natCast _
    simp -implicitDefEqProofs only [q1,q2,q3,ww,t,g1,g2,n1,hlt,eq_self,xs]
   ·right
    refine ⟨((k:Nat):Int),?_,⟨by omega,by omega⟩,by simp,?_⟩
    ·have t:Int.toNat ((k+1:Nat):Int)=k+1:=Int.toNat_natCast _
     simp -implicitDefEqProofs only [q1,q2,q3,ww,t,g1,g2,n1,hlt,eq_self,xs]
    ·have e:(∀ i:Nat,((i+1:Nat):Int)≤((k:Nat):Int)→¬ l[i+1]! < l[i]!) ↔ (∀ i:Nat,((i+1:Nat):Int)≤((k+1:Nat):Int)→¬ l[i+1]! < l[i]!):=by
      refine ⟨fun h i hi=>?_,fun h i hi=>h i (by omega)⟩
      by_cases he:i=k
      ·subst he; exact hlt
      ·exact h i (by omega)
     by_cases h:(∀ i:Nat,((i+1:Nat):Int)≤((k:Nat):Int)→¬ l[i+1]! < l[i]!)
     ·rw [if_pos h,if_pos (e.1 h)]
     ·rw [if_neg h,if_neg (fun q=>h (e.2 q))]
 ·congr 1
  have e:(∀ i:Nat,((i+1:Nat):Int)≤(l.length:Int) - 1→¬ l[i+1]! < l[i]!) ↔ ∀ i,i+1 < l.length→¬ l[i+1]! < l[i]! :=
   ⟨fun h i hi=>h i (by omega),fun h i hi=>h i (by omega)⟩
  by_cases h:∀ i,i+1 < l.length→¬ l[i+1]! < l[i]!
  ·rw [if_pos h,if_pos (e.2 h)]
  ·rw [if_neg h,if_neg (fun q=>h (e.1 q))]
def nodP (l:List Int):Prop:=(∀ x ∈ l,0≤x∧x < 64)∧l.Pairwise (· < ·)
theorem nodP_iff {l:List Int}:((∀ x ∈ l,rngB x=true)∧l.Nodup)∧(∀ i,i+1 < l.length→¬ l[i+1]! < l[i]!) ↔ nodP l:=by
 constructor
 ·rintro ⟨⟨h1,h2⟩,h3⟩
  refine ⟨fun x hx=>rngB_iff.1 (h1 x hx),?_⟩
  rw [List.pairwise_iff_getElem]
  have key:∀ (d i:Nat) (hi:i+d+1 < l.length),l[i]'(by omega) < l[i+d+1]:=by
   intro d
   induction d with
   | zero =>
    intro i hi
    have h4:=h3 i (by omega)
    rw [get!_of hi,get!_of (show i < l.length by omega)] at h4
    have h5:l[i]'(by omega)≠l[i+1]:=by
     rw [List.nodup_iff_pairwise_ne,List.pairwise_iff_getElem] at h2
     exact h2 i (i+1) (by omega) (by omega) (by omega)
    simp only [Nat.add_zero] at *
    omega
   | succ d ih =>
    intro i hi
    have h6:=ih i (by omega)
    have h4:=h3 (i+d+1) (by omega)
    rw [get!_of (show i+d+1+1 < l.length by omega),get!_of (show i+d+1 < l.length by omega)] at h4
    have:l[i+(d+1)+1]'hi=l[i+d+1+1]'(by omega):=rfl
    omega
  intro i j hi hj hij
  have:=key (j - i - 1) i (by omega)
  have e:i+(j - i - 1)+1=j:=by omega
  simpa only [e] using this
 ·rintro ⟨h1,h2⟩
  refine ⟨⟨fun x hx=>rngB_iff.2 (h1 x hx),?_⟩,fun i hi=>?_⟩
  ·rw [List.nodup_iff_pairwise_ne]
   exact h2.imp (fun h=>by omega)
  ·rw [get!_of hi,get!_of (show i < l.length by omega)]
   rw [List.pairwise_iff_getElem] at h2
   have:=h2 i (i+1) (by omega) hi (by omega)
   omega
theorem nodP_len {l:List Int} (h:nodP l):l.length≤64:=by
 have key:∀ (l:List Int) (a:Int),0≤a→(∀ x ∈ l,a≤x∧x < 64)→l.Pairwise (· < ·)→(l.length:Int)+a≤64∨l=[]:=by
  intro l
  induction l with
  | nil=>intro a _ _ _; exact .inr rfl
  | cons b r ih =>
   intro a ha h1 h2
   left
   rw [List.pairwise_cons] at h2
   have hb:=h1 b (by simp)
   rcases ih (b+1) (by omega) (fun x hx=>⟨by have:=h2.1 x hx; omega,(h1 x (by simp [hx])).2⟩) h2.2 with h | h
   ·simp only [List.length_cons]; omega
   ·subst h; simp only [List.length_cons,List.length_nil]; omega
 rcases key l 0 (by omega) (fun x hx=>h.1 x hx) h.2 with q | q
 ·omega
 ·subst q; simp
open Classical in
theorem F41_ok {l:List Int} (hl:l.length≤9223372036854775806):F41 l=some (if nodP l then 0 else 1):=by
 rw [F41_eq]
 have h1:=F49_ok hl
 have h2:=F50_ok hl
 by_cases a:(∀ x ∈ l,rngB x=true)∧l.Nodup
 ·by_cases b:∀ i,i+1 < l.length→¬ l[i+1]! < l[i]!
  ·rw [if_pos (nodP_iff.1 ⟨a,b⟩)]
   rw [if_pos a] at h1
   rw [if_pos b] at h2
   simp -implicitDefEqProofs only [h1,h2,eq_self,xs]
  ·rw [if_neg (fun h=>b (nodP_iff.2 h).2)]
   rw [if_pos a] at h1
   rw [if_neg b] at h2
   simp -implicitDefEqProofs only [h1,h2,eq_self,xs]
 ·rw [if_neg (fun h=>a (nodP_iff.2 h).1)]
  rw [if_neg a] at h1
  simp -implicitDefEqProofs only [h1,h2,eq_self,xs]
theorem F28_ok {l:List Int} (x:Int) (hl:l.length≤9223372036854775806):F28 (l,x)=some ((l.count x:Nat):Int):=by
 rw [F28_eq]
 rw [loop_detE (s0:=((0:Int),(0:Int))) l.length (fun i=>(((l.take i).count x:Nat),((i:Nat):Int))) ((l.count x:Nat):Int) (by simp)]
 ·have q:¬ ((l.length:Nat):Int) < ((l.length:Nat):Int):=by omega
  simp -implicitDefEqProofs only [q,List.take_length,eq_self,xs]
 ·intro i hi
  have q1:((i:Nat):Int) < ((l.length:Nat):Int):=by omega
  have q2:(0:Int)≤(i:Int):=by omega
  have g:=List.getElem?_eq_getElem hi
  have tk:l.take (i+1)=l.take i++[l[i]]:=List.take_succ_eq_append_getElem hi
  have hc:(l.take i).count x≤9223372036854775806:=Nat.le_trans List.count_le_length (by rw [List.length_take]; omega)
  by_cases he:l[i]=x
  ·have e1:(l[i]==x)=true:=by rw [he]; exact beq_self_eq_true _
   have e2:(l.take (i+1)).count x=(l.take i).count x+1:=by
    rw [tk,List.count_append,he]; simp
   simp -implicitDefEqProofs only [q1,q2,g,e1,e2,w1 (show i≤9223372036854775806 by omega),w1 hc,eq_self,xs]
  ·have e1:(l[i]==x)=false:=by rw [beq_eq_false_iff_ne]; exact he
   have e2:(l.take (i+1)).count x=(l.take i).count x:=by
    have z:[l[i]].count x=0:=List.count_eq_zero.2 (by rw [List.mem_singleton]; exact fun h=>he h.symm)
    rw [tk,List.count_append,z]; rfl
   simp -implicitDefEqProofs only [q1,q2,g,e1,e2,w1 (show i≤9223372036854775806 by omega),eq_self,xs]
theorem count_nodup {l:List Int} (h:l.Nodup) {x:Int} (hx:x ∈ l):l.count x=1:=by
 rw [h.count,if_pos hx]
end Go.Proofs.YtianfmdemgfgaaaDoor.VL
end
section
namespace Go.Proofs.YtianfmdemgfgaaaDoor.VL
open Go
set_option maxRecDepth 100000
set_option linter.unusedVariables false
set_option linter.unusedSectionVars false
variable [Val]
noncomputable section


def xf29:FX:=⟨(.seq (.reg [(xi 4 (.mov (.c (.sl true [])))),(xi 5 (.mov (.c (.v (.int .i64 0)))))]) (.seq (.cut ⟨[4,5,10,11,12,13,14,15,16,17,18,19,20],[],⟨[],[],[]⟩⟩ (.seq (.cutN ⟨[10,11,12,13,14,15,16,17,18,19,20],[],⟨[],[(20,.v .b)],[]⟩⟩ (.reg [(xm 10 0),(xi 11 (.call 0 41 [(.t 10)])),(xi 12 (.bin .neq (.t 11) (.c (.v (.int .i64 0))))),(xm 13 12),(xg 14 (.mov (.t 1)) 13 false),(xg 15 (.bin .lss (.t 14) (.c (.v (.int .i64 1)))) 13 false),(xi 16 (.pick (.t 13) (.c (.v (.bool true))) (.t 15))),(xm 17 16),(xg 18 (.mov (.t 1)) 17 false),(xg 19 (.bin .gtr (.t 18) (.c (.v (.int .i64 32)))) 17 false),(xi 20 (.pick (.t 17) (.c (.v (.bool true))) (.t 19)))])) (.cond (.t 20) (.seq (.reg [(xi 4 (.mov (.c (.sl true [])))),(xi 5 (.mov (.c (.v (.int .i64 1)))))]) .ret) .skip))) (.seq (.reg [(xi 6 (.mov (.c (.sl true []))))]) (.seq (.cutN ⟨[6,8,9,21,22,23,24,25,26,27,28,29,30,31,32,33,34,35,36,37,38,39,40,41,42,43,44],[4],⟨[],[(6,.ow 4 3)],[⟨4,.rows (.p (.i .u64) (.p (.i .i64) (.i .i64))) 3,false⟩]⟩⟩ (.seq (.reg [(xm 21 0),(xi 22 (.len (.t 21))),(xi 23 (.mov (.c (.v (.int .i64 0)))))]) (.blk 0 (.loop ⟨[6,8,9,23,24,25,26,27,28,29,30,31,32,33,34,35,36,37,38,39,40,41,42,43,44],[4],⟨[],[(6,.ow 4 3),(23,.v (.i .i64))],[⟨4,.rows (.p (.i .u64) (.p (.i .i64) (.i .i64))) 3,false⟩]⟩⟩ (.seq (.reg [(xi 24 (.bin .lss (.t 23) (.t 22)))]) (.seq (.cond (.t 24) .skip (.exit 0)) (.seq (.cutN ⟨[6,8,9,25,26,27,28,29,30,31,32,33,34,35,36,37,38,39,40,41,42,43],[4],⟨[],[(6,.ow 4 3)],[⟨4,.rows (.p (.i .u64) (.p (.i .i64) (.i .i64))) 3,false⟩]⟩⟩ (.blk 1 (.seq (.reg [(xi 25 (.iad 1 (.t 21) (.t 23))),(xi 26 (.load false 1 (.t 25))),(xm 8 26)]) (.seq (.reg [(xm 27 1),(xi 28 (.mov (.c (.v (.int .i64 0)))))]) (.blk 2 (.loop ⟨[6,9,28,29,30,31,32,33,34,35,36,37,38,39,40,41,42,43],[4],⟨[],[(6,.ow 4 3),(28,.v (.i .i64))],[⟨4,.rows (.p (.i .u64) (.p (.i .i64) (.i .i64))) 3,false⟩]⟩⟩ (.seq (.reg [(xi 29 (.bin .lss (.t 28) (.t 27)))]) (.seq (.cond (.t 29) .skip (.exit 2)) (.seq (.blk 3 (.seq (.reg [(xm 30 28),(xm 9 30)]) (.reg [(xm 31 6),(xm 32 8),(xi 33 (.call 1 43 [(.t 32)])),(xm 34 9),(xi 35 (.call 2 43 [(.t 34)])),⟨⟨(some 36),(.bsl 1 (.v (.string ⟨#[]⟩)) 3 [(0,(.t 33)),(1,(.c (.v (.string ⟨#[47]⟩)))),(2,(.t 35))]),none⟩,.b,[],[]⟩,(xi 37 (.call 3 42 [(.t 36)])),(xm 38 8),(xm 39 9),(xi 40 (.bld [(.v (.int .u64 0)),(.v (.int .i64 0)),(.v (.int .i64 0))] [(0,1,(.t 37)),(1,1,(.t 38)),(2,1,(.t 39))])),(xi 41 (.bsl 3 (.agg [(.v (.int .u64 0)),(.v (.int .i64 0)),(.v (.int .i64 0))]) 1 [(0,(.t 40))])),⟨⟨(some 42),(.app 4 3 24 (.agg [(.v (.int .u64 0)),(.v (.int .i64 0)),(.v (.int .i64 0))]) (.t 31) (.t 41)),none⟩,(.p (.i .u64) (.p (.i .i64) (.i .i64))),[],[]⟩,(xm 6 42)]))) (.reg [(xi 43 (.bin .add (.t 28) (.c (.v (.int .i64 1))))),(xm 28 43)])))))))))) (.reg [(xi 44 (.bin .add (.t 23) (.c (.v (.int .i64 1))))),(xm 23 44)])))))))) (.seq (.reg [(xm 45 6),(xi 46 (.call 5 44 [(.t 45),(.c (.clo 45 [] []))]))]) (.seq (.reg [(xm 47 6),(xm 4 47),(xi 5 (.mov (.c (.v (.int .i64 0)))))]) .ret)))))),[11,33,35,37,42,46],48,[.t 4,.t 5],7⟩
theorem xf29_ok:xf29.ok Tryd.prog 29:=⟨_,_,Tryd.func29,rfl,by kernel_rfl,rfl,by kernel_rfl,rfl,by kernel_rfl,by kernel_rfl⟩
def tb29:List PE:=[pe41,pe42,pe43]
theorem tb29_ok:PEsOk Tryd.prog tb29:=⟨pe41_ok,pe42_ok,pe43_ok,trivial⟩
def ex29:List EX:=[ix44]
theorem ex29_ok:EXsOk Tryd.prog ex29:=⟨ix44_ok,trivial⟩
def in29:List IN:=[]
theorem in29_ok:INsOk Tryd.prog in29:=trivial
def F29:DT ((.co (.v (.sl (.i .i64))) (.co (.v (.i .i64)) .no)):Fm).den→Option (DT (.tup (.co (.v (.sl (.p (.i .u64) (.p (.i .i64) (.i .i64))))) (.co (.v (.i .i64)) .no)):Fm).den):=pureT tb29 ex29 in29 0 xf29 _ _ [4]
def pe29:PE:=⟨29,(.co (.v (.sl (.i .i64))) (.co (.v (.i .i64)) .no)),.tup (.co (.v (.sl (.p (.i .u64) (.p (.i .i64) (.i .i64))))) (.co (.v (.i .i64)) .no)),F29⟩
theorem pe29_ok:pe29.ok Tryd.prog:=pe_of hm tb29_ok ex29_ok in29_ok xf29_ok (by kernel_rfl) (fun _=>rfl)
def xf12:FX:=⟨(.seq (.reg [(xi 6 (.mov (.c (.sl true [])))),(xi 7 (.mov (.c (.v (.int .i64 0)))))]) (.seq (.reg [(xm 20 0),(xm 21 1),(xi 22 (.call 0 29 [(.t 20),(.t 21)])),(xm 19 22),(xi 23 (.ext (.t 19) 0)),(xi 24 (.ext (.t 19) 1)),(xm 8 23),(xm 9 24)]) (.seq (.blk 0 (.seq (.reg [(xm 26 9),(xi 27 (.bin .neq (.t 26) (.c (.v (.int .i64 0))))),(xm 25 27)]) (.cond (.t 25) (.seq (.reg [(xm 28 9),(xi 6 (.mov (.c (.sl true [])))),(xm 7 28)]) .ret) (.seq (.reg [(xm 30 2),(xi 31 (.call 1 25 [(.t 30)])),(xi 32 (.bin .neq (.t 31) (.c (.v (.int .i64 0))))),(xm 29 32)]) (.cond (.t 29) (.seq (.reg [(xi 6 (.mov (.c (.sl true [])))),(xi 7 (.mov (.c (.v (.int .i64 1)))))]) .ret) (.seq (.reg [(xm 34 0),(xi 35 (.len (.t 34))),(xi 36 (.bin .eql (.t 35) (.c (.v (.int .i64 0))))),(xm 33 36)]) (.cond (.t 33) (.seq (.reg [(xi 6 (.mov (.c (.sl true [])))),(xi 7 (.mov (.c (.v (.int .i64 6)))))]) .ret) .skip))))))) (.seq (.reg [(xm 38 2),(xi 39 (.len (.t 38))),(xm 40 0),(xi 41 (.len (.t 40))),(xi 42 (.call 2 13 [(.t 39),(.t 41)])),(xm 37 42),(xi 43 (.ext (.t 37) 0)),(xi 44 (.ext (.t 37) 1)),(xm 10 43),(xm 9 44)]) (.seq (.seq (.reg [(xm 45 9),(xi 46 (.bin .neq (.t 45) (.c (.v (.int .i64 0)))))]) (.cond (.t 46) (.seq (.reg [(xm 47 9),(xi 6 (.mov (.c (.sl true [])))),(xm 7 47)]) .ret) .skip)) (.seq (.reg [⟨⟨(some 48),(.mkm 3),none⟩,(.p (.i .i64) (.i .i64)),[],[]⟩,(xm 11 48)]) (.seq (.reg [(xi 12 (.mov (.c (.sl true []))))]) (.seq .skip (.seq (.seq (.reg [(xm 49 2),(xi 50 (.len (.t 49))),(xi 51 (.mov (.c (.v (.int .i64 0)))))]) (.blk 1 (.loop ⟨[6,7,12,14,15,16,18,51,52,53,54,55,56,57,58,59,60,61,62,63,64,65,66,67,68,69,70,71,72,73,74,75,76,77,78,79,80,81,82,83,84,85,86],[3,5],⟨[],[(12,.ow 5 2),(51,.v (.i .i64))],[⟨3,.map (.i .i64) (.i .i64),true⟩,⟨5,.rows (.p .s (.i .i64)) 2,false⟩]⟩⟩ (.seq (.reg [(xi 52 (.bin .lss (.t 51) (.t 50)))]) (.seq (.cond (.t 52) .skip (.exit 1)) (.seq (.cut ⟨[6,7,12,14,15,16,18,53,54,55,56,57,58,59,60,61,62,63,64,65,66,67,68,69,70,71,72,73,74,75,76,77,78,79,80,81,82,83,84,85],[3,5],⟨[],[(12,.ow 5 2)],[⟨3,.map (.i .i64) (.i .i64),true⟩,⟨5,.rows (.p .s (.i .i64)) 2,false⟩]⟩⟩ (.blk 2 (.seq (.reg [(xi 53 (.iad 1 (.t 49) (.t 51))),(xi 54 (.load false 1 (.t 53))),(xm 14 54)]) (.seq (.reg [(xm 56 8),(xm 57 14),(xi 58 (.call 4 30 [(.t 56),(.t 57)])),(xm 55 58),(xi 59 (.ext (.t 55) 0)),(xi 60 (.ext (.t 55) 1)),(xm 15 59),(xm 16 60)]) (.seq (.seq (.reg [(xm 61 16),(xi 62 (.bin .neq (.t 61) (.c (.v (.int .i64 0)))))]) (.cond (.t 62) (.seq (.reg [(xm 63 16),(xi 6 (.mov (.c (.sl true [])))),(xm 7 63)]) .ret) .skip)) (.seq (.reg [(xm 64 15),(xi 65 (.len (.t 64))),(xi 66 (.mov (.c (.v (.int .i64 0)))))]) (.blk 3 (.loop ⟨[12,18,66,67,68,69,70,71,72,73,74,75,76,77,78,79,80,81,82,83,84,85],[3,5],⟨[],[(12,.ow 5 2),(66,.v (.i .i64))],[⟨3,.map (.i .i64) (.i .i64),true⟩,⟨5,.rows (.p .s (.i .i64)) 2,false⟩]⟩⟩ (.seq (.reg [(xi 67 (.bin .lss (.t 66) (.t 65)))]) (.seq (.cond (.t 67) .skip (.exit 3)) (.seq (.blk 4 (.seq (.reg [(xi 68 (.iad 1 (.t 64) (.t 66))),(xi 69 (.load false 1 (.t 68))),(xm 18 69)]) (.seq (.reg [(xm 70 11),(xm 71 18),(xi 72 (.lkp false .i (.v (.int .i64 0)) (.t 70) (.t 71))),(xm 73 10),(xi 74 (.bin .lss (.t 72) (.t 73)))]) (.cond (.t 74) (.seq (.reg [(xm 75 11),(xm 76 18),(xi 77 (.lkp false .i (.v (.int .i64 0)) (.t 75) (.t 76))),(xi 78 (.bin .add (.t 77) (.c (.v (.int .i64 1))))),(xz (.mup .i (.t 75) (.t 76) (.t 78)))]) (.seq (.reg [(xm 79 12),(xm 80 14),(xm 81 18),⟨⟨(some 82),(.bld [(.v (.string ⟨#[]⟩)),(.v (.int .i64 0))] [(0,1,(.t 80)),(1,1,(.t 81))]),none⟩,.b,[],[]⟩,⟨⟨(some 83),(.bsl 2 (.agg [(.v (.string ⟨#[]⟩)),(.v (.int .i64 0))]) 1 [(0,(.t 82))]),none⟩,.b,[],[]⟩,⟨⟨(some 84),(.app 5 2 24 (.agg [(.v (.string ⟨#[]⟩)),(.v (.int .i64 0))]) (.t 79) (.t 83)),none⟩,(.p .s (.i .i64)),[],[]⟩,(xm 12 84)]) (.exit 2))) .skip)))) (.reg [(xi 85 (.bin .add (.t 66) (.c (.v (.int .i64 1))))),(xm 66 85)])))))))))))) (.reg [(xi 86 (.bin .add (.t 51) (.c (.v (.int .i64 1))))),(xm 51 86)]))))))) (.seq (.reg [(xm 87 12),(xm 6 87),(xi 7 (.mov (.c (.v (.int .i64 0)))))]) .ret)))))))))),[22,31,42,48,58,84],88,[.t 6,.t 7],7⟩
theorem xf12_ok:xf12.ok Tryd.prog 12:=⟨_,_,Tryd.func12,rfl,by kernel_rfl,rfl,by kernel_rfl,rfl,by kernel_rfl,by kernel_rfl⟩
def tb12:List PE:=[pe13,pe25,pe29,pe30]
theorem tb12_ok:PEsOk Tryd.prog tb12:=⟨pe13_ok,pe25_ok,pe29_ok,pe30_ok,trivial⟩
def ex12:List EX:=[]
theorem ex12_ok:EXsOk Tryd.prog ex12:=trivial
def in12:List IN:=[]
theorem in12_ok:INsOk Tryd.prog in12:=trivial
def F12:DT ((.co (.v (.sl (.i .i64))) (.co (.v (.i .i64)) (.co (.v (.sl .s)) .no))):Fm).den→Option (DT (.tup (.co (.v (.sl (.p .s (.i .i64)))) (.co (.v (.i .i64)) .no)):Fm).den):=pureT tb12 ex12 in12 0 xf12 _ _ [5]
def pe12:PE:=⟨12,(.co (.v (.sl (.i .i64))) (.co (.v (.i .i64)) (.co (.v (.sl .s)) .no))),.tup (.co (.v (.sl (.p .s (.i .i64)))) (.co (.v (.i .i64)) .no)),F12⟩
theorem pe12_ok:pe12.ok Tryd.prog:=pe_of hm tb12_ok ex12_ok in12_ok xf12_ok (by kernel_rfl) (fun _=>rfl)
end
end Go.Proofs.YtianfmdemgfgaaaDoor.VL
end
section
namespace Go.Proofs.YtianfmdemgfgaaaDoor.VL
open Go
set_option maxRecDepth 100000
set_option linter.unusedVariables false
set_option linter.unusedSectionVars false
variable [Val]
theorem F29_eq (v:((List Int)×Int)):F29 v=(joinX (Option.bind (Option.bind (F41 v.1) (fun (v0:Int)=>(cond (v0 != (0:Int)) (some true) (cond (decide (v.2 < (1:Int))) (some true) (some (decide (v.2 > (32:Int)))))))) (fun (v1:Bool)=>(cond v1 (some (.inr ([],(1:Int)))) (some (.inl ()))))) (fun (v2:Unit)=>(Option.bind (loopX (fun (v3:(Int×(List (Int×(Int×Int)))))=>(cond (decide (v3.1 < ((v.1.length:Nat):Int))) (Option.bind (cond (decide ((0:Int)≤v3.1)) (Option.bind v.1[(Int.toNat v3.1)]? (fun (v4:Int)=>(cond (decide (v3.2.length=v3.2.length)) (loopX (fun (v5:(Int×(List (Int×(Int×Int)))))=>(cond (decide (v5.1 < v.2)) (Option.bind (F43 v4) (fun (v6:ByteArray)=>(Option.bind (F43 v5.1) (fun (v7:ByteArray)=>(Option.bind (F42 (v6::((ByteArray.mk #[47])::(v7::[])))) (fun (v8:Int)=>(cond ((decide (v5.2.length=v5.2.length))&&((decide (((((v5.2.length+1):Nat):Int) * (24:Int))≤(70368744177664:Int)))&&(decide ((((v5.2.length+1):Nat):Int)≤(70368744177664:Int))))) (cond (decide ((v5.2.length+1)=(Append.append v5.2 ((v8,v4,v5.1)::[])).length)) (some (.inl ((IntKind.wrap IntKind.i64 (v5.1+(1:Int))),(Append.append v5.2 ((v8,v4,v5.1)::[]))))) none) none))))))) (Option.map (Sum.inr) (cond (decide (v5.2.length=v5.2.length)) (some v5.2) none)))) ((0:Int),v3.2)) none))) none) (fun (v9:(List (Int×(Int×Int))))=>(cond (decide (v9.length=v9.length)) (some (.inl ((IntKind.wrap IntKind.i64 (v3.1+(1:Int))),v9))) none))) (Option.map (Sum.inr) (cond (decide (v3.2.length=v3.2.length)) (some v3.2) none)))) ((0:Int),[])) (fun (v10:(List (Int×(Int×Int))))=>(cond ((decide (v10.length=v10.length))&&(decide (((v10.length:Nat):Int) < (4611686018427387904:Int)))) (cond (decide ((0+v10.length)≤(sortL cmpP v10).length)) (some ((List.take v10.length (sortL cmpP v10)),(0:Int))) none) none))))):=by kernel_rfl
theorem F12_eq (v:((List Int)×(Int×(List ByteArray)))):F12 v=(Option.bind (F29 (v.1,v.2.1)) (fun (v0:((List (Int×(Int×Int)))×Int))=>(cond (v0.2 != (0:Int)) (some ([],v0.2)) (Option.bind (F25 v.2.2) (fun (v1:Int)=>(cond (v1 != (0:Int)) (some ([],(1:Int))) (cond (((v.1.length:Nat):Int)==(0:Int)) (some ([],(6:Int))) (Option.bind (F13 (((v.2.2.length:Nat):Int),((v.1.length:Nat):Int))) (fun (v2:(Int×Int))=>(cond (v2.2 != (0:Int)) (some ([],v2.2)) (loopX (fun (v3:(Int×((List (Int×Int))×(List (ByteArray×Int)))))=>(cond (decide (v3.1 < ((v.2.2.length:Nat):Int))) (joinX (cond (decide ((0:Int)≤v3.1)) (Option.bind v.2.2[(Int.toNat v3.1)]? (fun (v4:ByteArray)=>(Option.bind (F30 (v0.1,v4)) (fun (v5:((List Int)×Int))=>(cond (v5.2 != (0:Int)) (some (.inr (.inr ([],v5.2)))) (cond (decide (v3.2.2.length=v3.2.2.length)) (loopX (fun (v6:(Int×((List (Int×Int))×(List (ByteArray×Int)))))=>(cond (decide (v6.1 < ((v5.1.length:Nat):Int))) (cond (decide ((0:Int)≤v6.1)) (Option.bind v5.1[(Int.toNat v6.1)]? (fun (v7:Int)=>(cond (decide ((Option.getD (mget (kt:=(TT.i IntKind.i64)) (vt:=(TT.i IntKind.i64)) v7 v6.2.1) (0:Int)) < v2.1)) (cond ((decide (v6.2.2.length=v6.2.2.length))&&((decide (((((v6.2.2.length+1):Nat):Int) * (24:Int))≤(70368744177664:Int)))&&(decide ((((v6.2.2.length+1):Nat):Int)≤(70368744177664:Int))))) (Option.map (Sum.inr) (cond (decide ((v6.2.2.length+1)=(Append.append v6.2.2 ((v4,v7)::[])).length)) (some (.inl ((mput (kt:=(TT.i IntKind.i64)) (vt:=(TT.i IntKind.i64)) v7 (IntKind.wrap IntKind.i64 ((Option.getD (mget (kt:=(TT.i IntKind.i64)) (vt:=(TT.i IntKind.i64)) v7 v6.2.1) (0:Int))+(1:Int))) v6.2.1),(Append.append v6.2.2 ((v4,v7)::[]))))) none)) none) (cond (decide (v6.2.2.length=v6.2.2.length)) (some (.inl ((IntKind.wrap IntKind.i64 (v6.1+(1:Int))),v6.2))) none)))) none) (Option.map (Sum.inr) (cond (decide (v6.2.2.length=v6.2.2.length)) (some (.inl v6.2)) none)))) ((0:Int),v3.2)) none)))))) none) (fun (v8:((List (Int×Int))×(List (ByteArray×Int))))=>(cond (decide (v8.2.length=v8.2.length)) (some (.inl ((IntKind.wrap IntKind.i64 (v3.1+(1:Int))),v8))) none))) (Option.map (Sum.inr) (cond (decide ((0+v3.2.2.length)≤v3.2.2.length)) (some ((List.take v3.2.2.length v3.2.2),(0:Int))) none)))) ((0:Int),[],[])))))))))))):=by kernel_rfl
end Go.Proofs.YtianfmdemgfgaaaDoor.VL
end
section
namespace Go.Proofs.YtianfmdemgfgaaaDoor.VL
open Go
set_option linter.unusedVariables false
set_option linter.unusedSectionVars false
set_option linter.unusedSimpArgs false
set_option maxRecDepth 100000
variable [Val]
theorem F35_ok {l:List Int} (hl:l.length≤9223372036854775806):F35 l=some (if l.all (fun x=>rngB x&&decide (l.count x=1))=true then true else false):=by
 rw [F35_eq]
 rw [loop_list (s0:=(0:Int)) l (fun x=>rngB x&&decide (l.count x=1)) false true rfl]
 ·have q:¬ ((l.length:Nat):Int) < ((l.length:Nat):Int):=by omega
  simp -implicitDefEqProofs only [q,eq_self,xs]
 ·intro i x hi hx
  have q1:((i:Nat):Int) < ((l.length:Nat):Int):=by omega
  have q2:(0:Int)≤(i:Int):=by omega
  have f:=F28_ok x hl
  by_cases h0:x < 0
  ·have e:rngB x=false:=by rw [Bool.eq_false_iff]; intro h; rw [rngB_iff] at h; omega
   simp -implicitDefEqProofs only [q1,q2,hx,h0,e,eq_self,xs]
  by_cases h1:x > 63
  ·have e:rngB x=false:=by rw [Bool.eq_false_iff]; intro h; rw [rngB_iff] at h; omega
   simp -implicitDefEqProofs only [q1,q2,hx,h0,h1,e,eq_self,xs]
  have e:rngB x=true:=rngB_iff.2 (by omega)
  by_cases hc:l.count x=1
  ·have e1:(((1:Nat):Int) != 1)=false:=rfl
   simp -implicitDefEqProofs only [q1,q2,hx,h0,h1,e,f,e1,hc,w1 (show i≤9223372036854775806 by omega),eq_self,xs]
  ·have e1:(((l.count x:Nat):Int) != 1)=true:=by rw [bne_iff_ne]; omega
   simp -implicitDefEqProofs only [q1,q2,hx,h0,h1,e,f,e1,hc,eq_self,xs]
open Classical in
theorem F20_ok {l:List Int} (hl:l.length≤9223372036854775806):F20 l=some (if nodP l then true else false):=by
 rw [F20_eq]
 have key:∀ g:Unit ⊕ Bool,(if ∀ i:Nat,(1:Int)≤((i+1:Nat):Int)→i+1 < l.length→l[i]! < l[i+1]! then (.inl ():Unit ⊕ Bool) else .inr false)=if ∀ i,i+1 < l.length→l[i]! < l[i+1]! then .inl () else .inr false:=by
  intro _
  have e:(∀ i:Nat,(1:Int)≤((i+1:Nat):Int)→i+1 < l.length→l[i]! < l[i+1]!) ↔ ∀ i,i+1 < l.length→l[i]! < l[i+1]! := ⟨fun h i hi=>h i (by omega) hi,fun h i _ hi=>h i hi⟩
  by_cases h:∀ i,i+1 < l.length→l[i]! < l[i+1]!
  ·rw [if_pos h,if_pos (e.2 h)]
  ·rw [if_neg h,if_neg (fun q=>h (e.1 q))]
 rw [loopX_spec (ρ:=Unit ⊕ Bool) (fun s:Int=>1≤s∧(s≤(l.length:Int)∨s=1)) (fun s=>l.length - s.toNat) (fun s=>if ∀ i:Nat,s≤((i+1:Nat):Int)→i+1 < l.length→l[i]! < l[i+1]! then .inl () else .inr false) ?_ 1 ⟨by omega,.inr rfl⟩]
 rotate_left
 ·rintro s ⟨h1,h2⟩
  by_cases hs:s < (l.length:Int)
  ·obtain ⟨k,rfl⟩:∃ k:Nat,s=((k+1:Nat):Int):=⟨(s - 1).toNat,by omega⟩
   have hk:k+1 < l.length:=by omega
   have q1:((k+1:Nat):Int) < ((l.length:Nat):Int):=by omega
   have q2:(0:Int)≤((k+1:Nat):Int):=by omega
   have q3:(0:Int)≤((k:Nat):Int):=by omega
   have ww:IntKind.wrap .i64 (((k+1:Nat):Int) - 1)=((k:Nat):Int):=by rw [wi (by omega) (by omega)]; omega
   have g1:l[k+1]?=some l[k+1]! := by rw [get!_of hk]; exact List.getElem?_eq_getElem hk
   have g2:l[k]?=some l[k]! := by rw [get!_of (show k < l.length by omega)]; exact List.getElem?_eq_getElem (by omega)
   have t:Int.toNat ((k+1:Nat):Int)=k+1:=Int.toNat_natCast _
   by_cases hlt:l[k+1]! ≤ l[k]!
   ·left
    rw [if_neg (fun h=>by have:=h k (by omega) hk; omega)]
    simp -implicitDefEqProofs only [q1,q2,q3,ww,t,g1,g2,hlt,eq_self,xs]
   ·right
    refine ⟨((k+1+1:Nat):Int),?_,⟨by omega,by omega⟩,by simp only [Int.toNat_natCast]; omega,?_⟩
    ·simp -implicitDefEqProofs only [q1,q2,q3,ww,t,g1,g2,hlt,w1 (show k+1≤9223372036854775806 by omega),eq_self,xs]
    ·have e:(∀ i:Nat,((k+1+1:Nat):Int)≤((i+1:Nat):Int)→i+1 < l.length→l[i]! < l[i+1]!) ↔ (∀ i:Nat,((k+1:Nat):Int)≤((i+1:Nat):Int)→i+1 < l.length→l[i]! < l[i+1]!):=by
      refine ⟨fun h i hi hl=>?_,fun h i hi=>h i (by omega)⟩
      by_cases he:i=k
      ·subst he; omega
      ·exact h i (by omega) hl
     by_cases h:(∀ i:Nat,((k+1:Nat):Int)≤((i+1:Nat):Int)→i+1 < l.length→l[i]! < l[i+1]!)
     ·rw [if_pos h,if_pos (e.2 h)]
     ·rw [if_neg h,if_neg (fun q=>h (e.1 q))]
  ·left
   rw [if_pos (fun i hi hl=>by omega)]
   simp -implicitDefEqProofs only [hs,eq_self,xs]
 rw [key (.inl ())]
 by_cases hup:∀ i,i+1 < l.length→l[i]! < l[i+1]!
 ·rw [if_pos hup]
  have f:=F35_ok hl
  by_cases hlen:l.length≤64
  ·have hlen':((l.length:Nat):Int)≤64:=by omega
   by_cases hc:l.all (fun x=>rngB x&&decide (l.count x=1))=true
   ·rw [if_pos hc] at f
    rw [List.all_eq_true] at hc
    have hn:nodP l:=nodP_iff.1 ⟨⟨fun x hx=>by have:=hc x hx; rw [Bool.and_eq_true] at this; exact this.1,by
     rw [List.nodup_iff_count]
     intro a
     by_cases ha:a ∈ l
     ·have:=hc a ha; rw [Bool.and_eq_true,decide_eq_true_iff] at this; omega
     ·rw [List.count_eq_zero.2 ha]; omega⟩,fun i hi=>by have:=hup i hi; omega⟩
    rw [if_pos hn]
    simp -implicitDefEqProofs only [hlen',f,eq_self,xs]
   ·rw [if_neg hc] at f
    rw [if_neg (fun hn=>hc (by
     obtain ⟨⟨a,b⟩,c⟩:=nodP_iff.2 hn
     rw [List.all_eq_true]
     intro x hx
     rw [Bool.and_eq_true,decide_eq_true_iff]
     exact ⟨a x hx,count_nodup b hx⟩))]
    simp -implicitDefEqProofs only [hlen',f,eq_self,xs]
  ·have hlen':¬ ((l.length:Nat):Int)≤64:=by omega
   rw [if_neg (fun hn=>hlen (nodP_len hn))]
   simp -implicitDefEqProofs only [hlen',eq_self,xs]
 ·rw [if_neg hup,if_neg (fun hn=>hup (fun i hi=>by
   have:=hn.2
   rw [List.pairwise_iff_getElem] at this
   rw [get!_of hi,get!_of (show i < l.length by omega)]
   exact this i (i+1) (by omega) hi (by omega)))]
  simp -implicitDefEqProofs only [hup,eq_self,xs]
def rowP (n:Int) (m:Nat):List PT:=(List.range m).map fun i=>(hsh n.toNat i,n,((i:Nat):Int))
def rawP (l:List Int) (m:Nat):List PT:=l.flatMap fun n=>rowP n m
def pts (l:List Int) (m:Nat):List PT:=sortL cmpP (rawP l m)
theorem rowP_len (n:Int) (m:Nat):(rowP n m).length=m:=by unfold rowP; rw [List.length_map,List.length_range]
theorem rawP_len (l:List Int) (m:Nat):(rawP l m).length=m * l.length:=by
 induction l with
 | nil=>rfl
 | cons n r ih=>show (rowP n m++rawP r m).length=_; rw [List.length_append,ih,rowP_len,List.length_cons,Nat.mul_add]; omega
theorem pts_len (l:List Int) (m:Nat):(pts l m).length=m * l.length:=by unfold pts; rw [sortL_len,rawP_len]
theorem rowP_succ (n:Int) (m:Nat):rowP n (m+1)=rowP n m++[(hsh n.toNat m,n,((m:Nat):Int))]:=by unfold rowP; rw [List.range_succ,List.map_append]; rfl
theorem mem_rawP {l:List Int} {m:Nat} {p:PT}:p ∈ rawP l m ↔ ∃ n ∈ l,∃ i,i < m∧p=(hsh n.toNat i,n,((i:Nat):Int)):=by
 unfold rawP rowP
 simp only [List.mem_flatMap,List.mem_map,List.mem_range]
 constructor
 ·rintro ⟨n,hn,i,hi,rfl⟩; exact ⟨n,hn,i,hi,rfl⟩
 ·rintro ⟨n,hn,i,hi,rfl⟩; exact ⟨n,hn,i,hi,rfl⟩
theorem mem_pts {l:List Int} {m:Nat} {p:PT}:p ∈ pts l m ↔ ∃ n ∈ l,∃ i,i < m∧p=(hsh n.toNat i,n,((i:Nat):Int)):=by
 unfold pts sortL
 rw [(List.mergeSort_perm _ _).mem_iff]
 exact mem_rawP
open Classical in
theorem F29_ok {l:List Int} {sp:Int} (hl:l.length≤9223372036854775806):F29 (l,sp)=some (if nodP l∧1≤sp∧sp≤32 then (pts l sp.toNat,0) else ([],1)):=by
 rw [F29_eq]
 have f29:=F41_ok hl
 by_cases hn:nodP l
 ·rw [if_pos hn] at f29
  by_cases h1:sp < 1
  ·rw [if_neg (by omega)]
   simp -implicitDefEqProofs only [f29,nz0,h1,eq_self,xs]
  by_cases h2:sp > 32
  ·rw [if_neg (by omega)]
   simp -implicitDefEqProofs only [f29,nz0,h1,h2,eq_self,xs]
  rw [if_pos ⟨hn,by omega,by omega⟩]
  obtain ⟨m,rfl⟩:∃ m:Nat,sp=(m:Int):=⟨sp.toNat,by omega⟩
  have hm:m≤32:=by omega
  have hlen:=nodP_len hn
  simp -implicitDefEqProofs only [f29,nz0,h1,h2,eq_self,xs]
  rw [loop_detE (s0:=((0:Int),([]:List PT))) l.length (fun i=>(((i:Nat):Int),rawP (l.take i) m)) (rawP l m) rfl]
  ·have hr:(rawP l m).length≤2048:=by
    rw [rawP_len]
    exact Nat.le_trans (Nat.mul_le_mul hm hlen) (by decide)
   have q:(((rawP l m).length:Nat):Int) < 4611686018427387904:=by omega
   have e:sortL cmpP (rawP l m)=pts l m:=rfl
   simp -implicitDefEqProofs only [q,sortL_len,eq_self,xs]
   rw [List.take_of_length_le (by rw [sortL_len]; exact Nat.le_refl _)]
   rfl
  ·have q:¬ ((l.length:Nat):Int) < ((l.length:Nat):Int):=by omega
   simp -implicitDefEqProofs only [q,List.take_length,eq_self,xs]
  ·intro i hi
   have q1:((i:Nat):Int) < ((l.length:Nat):Int):=by omega
   have q2:(0:Int)≤(i:Int):=by omega
   have g:=List.getElem?_eq_getElem hi
   have hx:=hn.1 l[i] (List.getElem_mem hi)
   have tk:rawP (l.take (i+1)) m=rawP (l.take i) m++rowP l[i] m:=by
    rw [List.take_succ_eq_append_getElem hi]
    unfold rawP
    rw [List.flatMap_append]; simp
   have hr:(rawP (l.take i) m).length≤2048:=by
    rw [rawP_len]
    exact Nat.le_trans (Nat.mul_le_mul hm (by rw [List.length_take]; omega)) (show 32 * 64≤2048 by decide)
   simp -implicitDefEqProofs only [q1,q2,g,eq_self,xs]
   rw [loop_detE (s0:=((0:Int),rawP (l.take i) m)) m (fun j=>(((j:Nat):Int),rawP (l.take i) m++rowP l[i] j)) (rawP (l.take i) m++rowP l[i] m) (by simp [rowP])]
   ·simp -implicitDefEqProofs only [w1 (show i≤9223372036854775806 by omega),tk,eq_self,xs]
   ·have q:¬ ((m:Nat):Int) < ((m:Nat):Int):=by omega
    simp -implicitDefEqProofs only [q,eq_self,xs]
   ·intro j hj
    have q3:((j:Nat):Int) < ((m:Nat):Int):=by omega
    obtain ⟨nn,hnn⟩:∃ nn:Nat,l[i]=(nn:Int):=⟨l[i].toNat,by omega⟩
    have fa:=F43_ok (n:=nn) (by omega)
    have fb:=F43_ok (n:=j) (by omega)
    have fc:=F42_hsh nn j
    have hq:(rawP (l.take i) m++rowP l[i] j).length≤4096:=by rw [List.length_append,rowP_len]; omega
    have q5:((((rawP (l.take i) m++rowP l[i] j).length+1:Nat):Int)) * 24≤70368744177664:=by omega
    have q6:((((rawP (l.take i) m++rowP l[i] j).length+1:Nat):Int))≤70368744177664:=by omega
    have e:rawP (l.take i) m++rowP l[i] (j+1)=(rawP (l.take i) m++rowP l[i] j)++[(hsh nn j,l[i],((j:Nat):Int))]:=by rw [rowP_succ,← List.append_assoc,show l[i].toNat=nn by omega]
    rw [e]
    clear e
    generalize rawP (l.take i) m++rowP l[i] j=R at hq q5 q6 ⊢
    rw [hnn]
    simp -implicitDefEqProofs only [q3,fa,fb,fc,q5,q6,app_eq,w1 (show j≤9223372036854775806 by omega),List.length_append,eq_self,xs]
 ·rw [if_neg (fun h=>hn h.1)]
  rw [if_neg hn] at f29
  simp -implicitDefEqProofs only [f29,nz1,eq_self,xs]
end Go.Proofs.YtianfmdemgfgaaaDoor.VL
end
section
namespace Go.Proofs.YtianfmdemgfgaaaDoor.VL
open Go
set_option linter.unusedVariables false
set_option linter.unusedSectionVars false
set_option linter.unusedSimpArgs false
set_option maxRecDepth 100000
variable [Val]
theorem pw_adj {α:Type} {R:α→α→Prop} (tr:∀ a b c,R a b→R b c→R a c) {l:List α}:(∀ (i:Nat) (h:i+1 < l.length),R (l[i]'(by omega)) l[i+1]) ↔ l.Pairwise R:=by
 constructor
 ·intro h3
  rw [List.pairwise_iff_getElem]
  have key:∀ (d i:Nat) (hi:i+d+1 < l.length),R (l[i]'(by omega)) l[i+d+1]:=by
   intro d
   induction d with
   | zero=>intro i hi; exact h3 i hi
   | succ d ih =>
    intro i hi
    exact tr _ _ _ (ih i (by omega)) (h3 (i+d+1) hi)
  intro i j hi hj hij
  have:=key (j - i - 1) i (by omega)
  have e:i+(j - i - 1)+1=j:=by omega
  simpa only [e] using this
 ·intro h i hi
  rw [List.pairwise_iff_getElem] at h
  exact h i (i+1) (by omega) hi (by omega)
def sP (l:List PT):Prop:=l.Pairwise (fun a b=>ltP a b=true)
def okP (l:List PT):Prop:=l.length≤2048∧(∀ p ∈ l,0≤p.2.1∧p.2.1 < 64)∧sP l
def okA (l:List PT) (i:Nat):Bool:=match l[i]? with
 | some p=>rngB p.2.1&&(decide (i=0) || (match l[i - 1]? with | some q=>ltP q p | none=>false))
 | none=>true
theorem okA_iff {l:List PT}:(List.range l.length).all (okA l)=true ↔ (∀ p ∈ l,0≤p.2.1∧p.2.1 < 64)∧sP l:=by
 rw [List.all_eq_true]
 have h':(∀ i ∈ List.range l.length,okA l i=true) ↔ ∀ (i:Nat) (hi:i < l.length),rngB l[i].2.1=true∧(i=0∨ltP (l[i - 1]'(by omega)) l[i]=true):=by
  constructor
  ·intro h i hi
   have:=h i (List.mem_range.2 hi)
   unfold okA at this
   rw [List.getElem?_eq_getElem hi,List.getElem?_eq_getElem (show i - 1 < l.length by omega)] at this
   simpa only [Bool.and_eq_true,Bool.or_eq_true,decide_eq_true_iff] using this
  ·intro h i hi
   have hi:=List.mem_range.1 hi
   have:=h i hi
   unfold okA
   rw [List.getElem?_eq_getElem hi,List.getElem?_eq_getElem (show i - 1 < l.length by omega)]
   simpa only [Bool.and_eq_true,Bool.or_eq_true,decide_eq_true_iff] using this
 rw [h']
 constructor
 ·intro h
  refine ⟨fun p hp=>?_,?_⟩
  ·obtain ⟨i,hi,rfl⟩:=List.getElem_of_mem hp
   exact rngB_iff.1 (h i hi).1
  ·refine (pw_adj (R:=fun a b=>ltP a b=true) (fun a b c=>ltP_trans)).1 fun i hi=>?_
   rcases (h (i+1) hi).2 with q | q
   ·omega
   ·exact q
 ·rintro ⟨h1,h2⟩ i hi
  refine ⟨rngB_iff.2 (h1 _ (List.getElem_mem hi)),?_⟩
  by_cases h0:i=0
  ·exact .inl h0
  ·right
   have:=(pw_adj (R:=fun a b=>ltP a b=true) (fun a b c=>ltP_trans)).2 h2 (i - 1) (by omega)
   have e:i - 1+1=i:=by omega
   simpa only [e] using this
open Classical in
theorem F58_ok {l:List PT} (hl:l.length≤9223372036854775806):F58 l=some (if okP l then 0 else 1):=by
 rw [F58_eq]
 by_cases hlen:l.length≤2048
 ·have q0:¬ ((l.length:Nat):Int) > 2048:=by omega
  rw [decide_eq_false q0,cond_false]
  rw [loop_all (n:=l.length) (okA l) (1:Int) 0]
  ·congr 1
   by_cases h:(List.range l.length).all (okA l)=true
   ·rw [if_pos h,if_pos ⟨hlen,okA_iff.1 h⟩]
   ·rw [if_neg h,if_neg (fun q=>h (okA_iff.2 q.2))]
  ·have q:¬ ((l.length:Nat):Int) < ((l.length:Nat):Int):=by omega
   simp -implicitDefEqProofs only [q,eq_self,xs]
  ·intro i hi _
   have q1:((i:Nat):Int) < ((l.length:Nat):Int):=by omega
   have q2:(0:Int)≤(i:Int):=by omega
   have g:=List.getElem?_eq_getElem hi
   by_cases h0:l[i].2.1 < 0
   ·have e:rngB l[i].2.1=false:=by rw [Bool.eq_false_iff]; intro h; rw [rngB_iff] at h; omega
    have e':okA l i=false:=by unfold okA; rw [g]; simp only [e,Bool.false_and]
    rw [e']
    simp -implicitDefEqProofs only [q1,q2,g,h0,eq_self,xs]
   by_cases h1:l[i].2.1 ≥ 64
   ·have e:rngB l[i].2.1=false:=by rw [Bool.eq_false_iff]; intro h; rw [rngB_iff] at h; omega
    have e':okA l i=false:=by unfold okA; rw [g]; simp only [e,Bool.false_and]
    rw [e']
    simp -implicitDefEqProofs only [q1,q2,g,h0,h1,eq_self,xs]
   have e:rngB l[i].2.1=true:=rngB_iff.2 (by omega)
   by_cases hi0:i=0
   ·subst hi0
    have e':okA l 0=true:=by unfold okA; rw [g]; simp only [e,decide_true,Bool.true_or,Bool.and_self]
    rw [e']
    have q3:¬ ((0:Nat):Int) > 0:=by omega
    simp -implicitDefEqProofs only [q1,q2,q3,g,h0,h1,w1 (show 0≤9223372036854775806 by omega),eq_self,xs]
   ·obtain ⟨k,rfl⟩:∃ k,i=k+1:=⟨i - 1,by omega⟩
    have gk:=List.getElem?_eq_getElem (show k < l.length by omega)
    have e':okA l (k+1)=ltP l[k] l[k+1]:=by
     unfold okA
     rw [g]
     have e1:decide (k+1=0)=false:=decide_eq_false (by omega)
     have e2:k+1 - 1=k:=rfl
     simp only [e,e1,e2,gk,Bool.false_or,Bool.true_and]
    rw [e']
    have q3:((k+1:Nat):Int) > 0:=by omega
    have ww:IntKind.wrap .i64 (((k+1:Nat):Int) - 1)=((k:Nat):Int):=by rw [wi (by omega) (by omega)]; omega
    have q4:(0:Int)≤(k:Int):=by omega
    have f:=F45_ok l[k] l[k+1]
    have t:Int.toNat ((k+1:Nat):Int)=k+1:=Int.toNat_natCast _
    have c:=cmpP_ge l[k] l[k+1]
    have ww2:=w1 (show k+1≤9223372036854775806 by omega)
    cases hc:ltP l[k] l[k+1]
    ·rw [hc] at c
     simp -implicitDefEqProofs only [q1,q2,q3,q4,ww,t,g,gk,h0,h1,f,c,eq_self,xs]
    ·rw [hc] at c
     simp -implicitDefEqProofs only [q1,q2,q3,q4,ww,t,g,gk,h0,h1,f,c,ww2,eq_self,xs]
 ·have q0:((l.length:Nat):Int) > 2048:=by omega
  rw [decide_eq_true q0,cond_true,if_neg (fun h=>hlen h.1)]
def hP (l:List PT):Prop:=l.Pairwise (fun a b=>a.1≤b.1)
theorem sP.hP {l:List PT} (h:sP l):hP l:=h.imp fun q=>by rw [ltP_iff] at q; omega
def lb (l:List PT) (k:Int):Nat:=l.countP fun p=>decide (p.1 < k)
theorem lb_le (l:List PT) (k:Int):lb l k≤l.length:=List.countP_le_length
theorem lb_all {l:List PT} (h:hP l) (k:Int):(∀ (i:Nat) (hi:i < l.length),l[i].1 < k ↔ i < lb l k)∧l.take (lb l k)=l.filter (fun p=>decide (p.1 < k))∧l.drop (lb l k)=l.filter (fun p=>!decide (p.1 < k)):=by
 induction l with
 | nil=>exact ⟨fun i hi=>by simp at hi,rfl,rfl⟩
 | cons a r ih =>
  obtain ⟨h1,h2⟩:=List.pairwise_cons.1 h
  obtain ⟨i1,i2,i3⟩:=ih h2
  by_cases ha:a.1 < k
  ·have e:lb (a::r) k=lb r k+1:=by unfold lb; rw [List.countP_cons_of_pos (by simpa using ha)]
   rw [e]
   refine ⟨fun i hi=>?_,?_,?_⟩
   ·cases i with
    | zero=>simp [ha]
    | succ i =>
     have:=i1 i (by simpa using hi)
     simp only [List.getElem_cons_succ]
     omega
   ·rw [List.take_succ_cons,i2,List.filter_cons_of_pos (by simpa using ha)]
   ·rw [List.drop_succ_cons,i3,List.filter_cons_of_neg (by simpa using ha)]
  ·have hall:∀ b ∈ a::r,¬ b.1 < k:=by
    intro b hb
    rcases List.mem_cons.1 hb with rfl | hb
    ·exact ha
    ·have:=h1 b hb; omega
   have e:lb (a::r) k=0:=by
    unfold lb
    rw [List.countP_eq_zero]
    intro b hb
    simpa using hall b hb
   rw [e]
   refine ⟨fun i hi=>?_,?_,?_⟩
   ·have:=hall _ (List.getElem_mem hi)
    omega
   ·rw [List.take_zero]
    symm
    rw [List.filter_eq_nil_iff]
    intro b hb; simpa using hall b hb
   ·rw [List.drop_zero]
    symm
    rw [List.filter_eq_self]
    intro b hb; simpa using hall b hb
open Classical in
theorem F46_ok {l:List PT} {key:ByteArray} (hl:l.length≤9223372036854775806) (hk:key.size≤9223372036854775806):F46 (l,key)=some (if okP l then (if l=[] then (0,6) else (((lb l (keyH key) % l.length:Nat):Int),0)) else (0,1)):=by
 rw [F46_eq]
 have f13:=F58_ok hl
 have f30:=F42_one hk
 by_cases hok:okP l
 ·rw [if_pos hok] at f13 ⊢
  by_cases he:l=[]
  ·subst he
   simp -implicitDefEqProofs only [f13,nz0,eq_self,xs]
   rfl
  rw [if_neg he]
  have hpos:0 < l.length:=List.length_pos_iff.2 he
  have hlen:=hok.1
  have hb:=lb_all hok.2.2.hP (keyH key)
  have hle:=lb_le l (keyH key)
  have en:(((l.length:Nat):Int)==0)=false:=by rw [beq_eq_false_iff_ne]; omega
  simp -implicitDefEqProofs only [f13,nz0,en,f30,eq_self,xs]
  rw [loopX_spec (ρ:=Int) (fun s:Int×Int=>0≤s.1∧s.1≤lb l (keyH key)∧(lb l (keyH key):Int)≤s.2∧s.2≤l.length) (fun s=>(s.2 - s.1).toNat) (fun s=>((lb l (keyH key):Nat):Int)) ?_ (0,((l.length:Nat):Int)) ⟨by omega,by omega,by omega,by omega⟩]
  rotate_left
  ·rintro ⟨i,j⟩ ⟨h1,h2,h3,h4⟩
   simp only at h1 h2 h3 h4
   obtain ⟨i,rfl⟩:∃ n:Nat,i=n:=⟨i.toNat,by omega⟩
   obtain ⟨j,rfl⟩:∃ n:Nat,j=n:=⟨j.toNat,by omega⟩
   by_cases hij:i < j
   ·right
    have q1:((i:Nat):Int) < ((j:Nat):Int):=by omega
    have hm:=mid (i:=i) (j:=j) (by omega)
    have q2:(0:Int)≤(((i+j) / 2:Nat):Int):=by omega
    have hlt:(i+j) / 2 < l.length:=by omega
    have g:=List.getElem?_eq_getElem hlt
    have f:=F56_ok l[(i+j) / 2].1 (keyH key)
    have hi:=hb.1 ((i+j) / 2) hlt
    by_cases hc:l[(i+j) / 2].1 < keyH key
    ·have c:decide (cm l[(i+j) / 2].1 (keyH key) < 0)=true:=by rw [cm_lt hc]; rfl
     have ww:=w1 (show (i+j) / 2≤9223372036854775806 by omega)
     have t:Int.toNat (((i+j) / 2:Nat):Int)=(i+j) / 2:=Int.toNat_natCast _
     refine ⟨((((i+j) / 2+1:Nat):Int),((j:Nat):Int)),?_,⟨by omega,by omega,by omega,by omega⟩,by omega,rfl⟩
     simp -implicitDefEqProofs only [q1,hm,q2,t,g,f,c,ww,eq_self,xs]
    ·have c:decide (cm l[(i+j) / 2].1 (keyH key) < 0)=false:=by
      rcases cm_cases l[(i+j) / 2].1 (keyH key) with ⟨x,_⟩ | ⟨_,x⟩ | ⟨_,x⟩
      ·exact absurd x hc
      ·rw [x]; rfl
      ·rw [x]; rfl
     have t:Int.toNat (((i+j) / 2:Nat):Int)=(i+j) / 2:=Int.toNat_natCast _
     refine ⟨(((i:Nat):Int),(((i+j) / 2:Nat):Int)),?_,⟨by omega,by omega,by omega,by omega⟩,by omega,rfl⟩
     simp -implicitDefEqProofs only [q1,hm,q2,t,g,f,c,eq_self,xs]
   ·left
    have q1:¬ ((i:Nat):Int) < ((j:Nat):Int):=by omega
    have e:lb l (keyH key)=i:=by omega
    simp -implicitDefEqProofs only [q1,e,eq_self,xs]
  have nz:¬ (((l.length:Nat):Int)=0):=by omega
  have em:Int.tmod ((lb l (keyH key):Nat):Int) ((l.length:Nat):Int)=((lb l (keyH key) % l.length:Nat):Int):=by
   rw [Int.tmod_eq_emod_of_nonneg (by omega)]; rfl
  by_cases hlt:lb l (keyH key) < l.length
  ·have q1:((lb l (keyH key):Nat):Int) < ((l.length:Nat):Int):=by omega
   have q2:(0:Int)≤((lb l (keyH key):Nat):Int):=by omega
   have g:=List.getElem?_eq_getElem hlt
   have f:=F56_ok l[lb l (keyH key)].1 (keyH key)
   simp -implicitDefEqProofs only [q1,q2,g,f,nz,em,eq_self,xs]
  ·have q1:¬ ((lb l (keyH key):Nat):Int) < ((l.length:Nat):Int):=by omega
   simp -implicitDefEqProofs only [q1,nz,em,eq_self,xs]
 ·rw [if_neg hok] at f13 ⊢
  simp -implicitDefEqProofs only [f13,nz1,eq_self,xs]
def dedA (acc l:List Int):List Int:=l.foldl (fun acc x=>if x ∈ acc then acc else acc++[x]) acc
def ded (l:List Int):List Int:=dedA [] l
theorem dedA_cons (acc:List Int) (x:Int) (l:List Int):dedA acc (x::l)=dedA (if x ∈ acc then acc else acc++[x]) l:=rfl
theorem dedA_snoc (acc l:List Int) (x:Int):dedA acc (l++[x])=if x ∈ dedA acc l then dedA acc l else dedA acc l++[x]:=by unfold dedA; rw [List.foldl_append]; rfl
theorem mem_dedA {l:List Int}:∀ {acc:List Int} {x:Int},x ∈ dedA acc l ↔ x ∈ acc∨x ∈ l:=by
 induction l with
 | nil=>intro acc x; simp [dedA]
 | cons a r ih =>
  intro acc x
  rw [dedA_cons,ih]
  by_cases h:a ∈ acc
  ·rw [if_pos h,List.mem_cons]
   constructor
   ·rintro (q | q)
    ·exact .inl q
    ·exact .inr (.inr q)
   ·rintro (q | q | q)
    ·exact .inl q
    ·exact .inl (q ▸ h)
    ·exact .inr q
  ·rw [if_neg h,List.mem_append,List.mem_singleton,List.mem_cons,or_assoc]
theorem nodup_dedA {l:List Int}:∀ {acc:List Int},acc.Nodup→(dedA acc l).Nodup:=by
 induction l with
 | nil=>intro acc h; exact h
 | cons a r ih =>
  intro acc h
  rw [dedA_cons]
  refine ih ?_
  by_cases ha:a ∈ acc
  ·rw [if_pos ha]; exact h
  ·rw [if_neg ha,List.nodup_append]
   exact ⟨h,by simp,fun x hx y hy he=>by rw [List.mem_singleton] at hy; subst hy he; exact ha hx⟩
theorem mem_ded {l:List Int} {x:Int}:x ∈ ded l ↔ x ∈ l:=by unfold ded; rw [mem_dedA]; simp
theorem nodup_ded (l:List Int):(ded l).Nodup:=nodup_dedA (by simp)
theorem perm_nodup {l m:List Int} (h1:l.Nodup) (h2:m.Nodup) (h:∀ x,x ∈ l ↔ x ∈ m):l.Perm m:=by
 rw [List.perm_iff_count]
 intro a
 rw [h1.count,h2.count]
 by_cases ha:a ∈ l
 ·rw [if_pos ha,if_pos ((h a).1 ha)]
 ·rw [if_neg ha,if_neg (fun q=>ha ((h a).2 q))]
theorem nodup_len {l:List Int} (h:l.Nodup) (hr:∀ x ∈ l,0≤x∧x < 64):l.length≤64:=by
 have hn:((List.range 64).map fun k:Nat=>(k:Int)).Nodup:=by decide
 have hp:=perm_nodup h (hn.filter (fun x=>decide (x ∈ l))) (fun x=>by
  rw [List.mem_filter,List.mem_map,decide_eq_true_iff]
  constructor
  ·intro hx
   have:=hr x hx
   exact ⟨⟨x.toNat,List.mem_range.2 (by omega),by omega⟩,hx⟩
  ·exact fun q=>q.2)
 rw [hp.length_eq]
 exact Nat.le_trans (List.length_filter_le _ _) (by rw [List.length_map,List.length_range]; exact Nat.le_refl _)
def rot {α:Type} (l:List α) (m:Nat):List α:=l.drop m++l.take m
theorem rot_len {α:Type} (l:List α) (m:Nat):(rot l m).length=l.length:=by unfold rot; rw [List.length_append,List.length_drop,List.length_take]; omega
theorem rot_get {α:Type} {l:List α} {m i:Nat} (hm:m < l.length) (hi:i < l.length):(rot l m)[i]?=l[(m+i) % l.length]?:=by
 unfold rot
 rw [List.getElem?_append,List.length_drop]
 split
 ·rename_i h
  rw [List.getElem?_drop,Nat.mod_eq_of_lt (by omega)]
 ·rename_i h
  rw [List.getElem?_take,if_pos (by omega),Nat.mod_eq_sub_mod (by omega),Nat.mod_eq_of_lt (by omega)]
  congr 1; omega
def nds (l:List PT):List Int:=l.map fun p=>p.2.1
def frm (l:List PT) (k:Int):List PT:=l.filter (fun p=>!decide (p.1 < k))++l.filter (fun p=>decide (p.1 < k))
theorem frm_eq {l:List PT} (h:hP l) (hne:l≠[]) (k:Int):rot l (lb l k % l.length)=frm l k:=by
 have hpos:0 < l.length:=List.length_pos_iff.2 hne
 obtain ⟨_,h2,h3⟩:=lb_all h k
 have hle:=lb_le l k
 unfold frm
 rw [← h2,← h3]
 by_cases he:lb l k=l.length
 ·rw [he,Nat.mod_self]; unfold rot; simp
 ·rw [Nat.mod_eq_of_lt (by omega)]; rfl
def wlk (l:List PT) (k:Int):List Int:=ded (nds (frm l k))
open Classical in
theorem F30_ok {l:List PT} {key:ByteArray} (hl:l.length≤9223372036854775806) (hk:key.size≤9223372036854775806):F30 (l,key)=some (if okP l then (if l=[] then ([],6) else (wlk l (keyH key),0)) else ([],1)):=by
 rw [F30_eq]
 have f:=F46_ok hl hk
 by_cases hok:okP l
 ·rw [if_pos hok] at f ⊢
  by_cases he:l=[]
  ·rw [if_pos he] at f ⊢
   have n6:((6:Int) != 0)=true:=rfl
   simp -implicitDefEqProofs only [f,n6,eq_self,xs]
  rw [if_neg he] at f ⊢
  have hpos:0 < l.length:=List.length_pos_iff.2 he
  have hm:lb l (keyH key) % l.length < l.length:=Nat.mod_lt _ hpos
  have hw:wlk l (keyH key)=ded (nds (rot l (lb l (keyH key) % l.length))):=by rw [frm_eq hok.2.2.hP he]; rfl
  rw [hw]
  have hlen:=hok.1
  generalize lb l (keyH key) % l.length=m at *
  simp -implicitDefEqProofs only [f,nz0,eq_self,xs]
  rw [← metA_nil]
  have hR:(nds (rot l m)).length=l.length:=by unfold nds; rw [List.length_map,rot_len]
  rw [loop_detE (s0:=((0:Int),metA [],([]:List Int))) l.length (fun i=>(((i:Nat):Int),metA (ded ((nds (rot l m)).take i)),ded ((nds (rot l m)).take i))) (ded (nds (rot l m)),0) (by rw [List.take_zero]; rfl)]
  ·have q:¬ ((l.length:Nat):Int) < ((l.length:Nat):Int):=by omega
   rw [List.take_of_length_le (by omega)]
   simp -implicitDefEqProofs only [q,List.take_length,eq_self,xs]
  ·intro i hi
   have q1:((i:Nat):Int) < ((l.length:Nat):Int):=by omega
   have nz:¬ (((l.length:Nat):Int)=0):=by omega
   have ww:IntKind.wrap .i64 (((m:Nat):Int)+((i:Nat):Int))=((m+i:Nat):Int):=by rw [wi (by omega) (by omega)]; omega
   have em:Int.tmod ((m+i:Nat):Int) ((l.length:Nat):Int)=(((m+i) % l.length:Nat):Int):=by
    rw [Int.tmod_eq_emod_of_nonneg (by omega)]; rfl
   have q2:(0:Int)≤(((m+i) % l.length:Nat):Int):=by omega
   have hmi:(m+i) % l.length < l.length:=Nat.mod_lt _ hpos
   have t:Int.toNat (((m+i) % l.length:Nat):Int)=(m+i) % l.length:=Int.toNat_natCast _
   have g:=List.getElem?_eq_getElem hmi
   have hx:=hok.2.1 _ (List.getElem_mem hmi)
   have hg:(nds (rot l m))[i]?=some (l[(m+i) % l.length]).2.1:=by
    unfold nds
    rw [List.getElem?_map,rot_get hm hi,g]; rfl
   have tk:(nds (rot l m)).take (i+1)=(nds (rot l m)).take i++[(l[(m+i) % l.length]).2.1]:=by
    rw [List.take_succ_eq_append_getElem (by omega)]
    congr 2
    have:=List.getElem?_eq_getElem (show i < (nds (rot l m)).length by omega)
    rw [hg] at this
    exact (Option.some.inj this).symm
   rw [tk]
   have hd:ded ((nds (rot l m)).take i++[(l[(m+i) % l.length]).2.1])=if (l[(m+i) % l.length]).2.1 ∈ ded ((nds (rot l m)).take i) then ded ((nds (rot l m)).take i) else ded ((nds (rot l m)).take i)++[(l[(m+i) % l.length]).2.1]:=dedA_snoc _ _ _
   rw [hd]
   have hs:(ded ((nds (rot l m)).take i)).length≤64:=nodup_len (nodup_ded _) (by
    intro x hx
    rw [mem_ded] at hx
    have hx:=List.mem_of_mem_take hx
    unfold nds rot at hx
    rw [List.mem_map] at hx
    obtain ⟨p,hp,rfl⟩:=hx
    rw [List.mem_append] at hp
    exact hok.2.1 p (hp.elim List.mem_of_mem_drop List.mem_of_mem_take))
   clear tk hd hg
   generalize ded ((nds (rot l m)).take i)=D at *
   generalize l[(m+i) % l.length]=p at *
   have mg:=metA_get (l:=D) hx
   have hlen1:p.2.1.toNat < (metA D).length:=by rw [metA_len]; omega
   have hlen2:1 < (metA D).length:=by rw [metA_len]; omega
   have ms:=metA_set (l:=D) hx
   have q5:((D.length+1:Nat):Int) * 8≤70368744177664:=by omega
   have q6:((D.length+1:Nat):Int)≤70368744177664:=by omega
   have w:=w1 (show i≤9223372036854775806 by omega)
   by_cases hm:p.2.1 ∈ D
   ·simp -implicitDefEqProofs only [q1,nz,ww,em,q2,t,g,hx.1,hx.2,Nat.mul_one,mg,hm,w,eq_self,xs]
   ·simp -implicitDefEqProofs only [q1,nz,ww,em,q2,t,g,hx.1,hx.2,Nat.mul_one,mg,hm,hlen1,hlen2,ms,q5,q6,w,app_eq,List.length_append,eq_self,xs]
 ·rw [if_neg hok] at f ⊢
  simp -implicitDefEqProofs only [f,nz1,eq_self,xs]
end Go.Proofs.YtianfmdemgfgaaaDoor.VL
end
section
namespace Go.Proofs.YtianfmdemgfgaaaDoor.VL
open Go
set_option linter.unusedVariables false
set_option linter.unusedSectionVars false
set_option linter.unusedSimpArgs false
set_option maxRecDepth 100000
variable [Val]
theorem srt_sort {L:List PT} (hn:L.Nodup):sP (sortL cmpP L):=by
 unfold sP sortL
 have h1:=List.pairwise_mergeSort (le:=fun x y:PT=>!(Go.Proofs.ltOf cmpP) y x) (fun a b c h k=>by
  simp only [ltOf_cmpP,Bool.not_eq_true'] at *
  rw [Bool.eq_false_iff] at *
  intro q
  rcases ltP_tri a b with r | r | r
  ·exact k (ltP_trans q r)
  ·subst r; exact k q
  ·exact h r) (fun a b=>by
  simp only [ltOf_cmpP]
  cases h:ltP b a
  ·rfl
  ·rw [show ltP a b=false from ptO.asym h]; rfl) L
 have h2:(L.mergeSort fun x y:PT=>!(Go.Proofs.ltOf cmpP) y x).Nodup:=(List.mergeSort_perm _ _).nodup_iff.2 hn
 rw [List.nodup_iff_pairwise_ne] at h2
 refine (h1.and h2).imp ?_
 rintro a b ⟨h,k⟩
 rw [ltOf_cmpP,Bool.not_eq_true'] at h
 rcases ltP_tri a b with r | r | r
 ·exact r
 ·exact absurd r k
 ·rw [h] at r; cases r
theorem raw_nodup {l:List Int} (h:l.Nodup) (m:Nat):(rawP l m).Nodup:=by
 rw [List.nodup_iff_pairwise_ne]
 induction l with
 | nil=>exact List.Pairwise.nil
 | cons n r ih =>
  obtain ⟨h1,h2⟩:=List.nodup_cons.1 h
  show (rowP n m++rawP r m).Pairwise _
  rw [List.pairwise_append]
  refine ⟨?_,ih h2,fun a ha b hb he=>?_⟩
  ·unfold rowP
   rw [List.pairwise_map]
   refine List.Pairwise.imp ?_ (List.nodup_iff_pairwise_ne.1 (List.nodup_range (n:=m)))
   intro a b hab he
   simp only [Prod.mk.injEq] at he
   omega
  ·subst he
   unfold rowP at ha
   rw [List.mem_map] at ha
   obtain ⟨i,_,rfl⟩:=ha
   obtain ⟨n',hn',i',_,he⟩:=mem_rawP.1 hb
   simp only [Prod.mk.injEq] at he
   exact h1 (he.2.1 ▸ hn')
theorem nodP.nodup {l:List Int} (h:nodP l):l.Nodup:=by
 rw [List.nodup_iff_pairwise_ne]
 exact h.2.imp fun q=>by omega
theorem pts_srt {l:List Int} (h:nodP l) (m:Nat):sP (pts l m):=srt_sort (raw_nodup h.nodup m)
theorem pts_ok {l:List Int} (h:nodP l) {m:Nat} (hm:m≤32):okP (pts l m):=by
 refine ⟨?_,fun p hp=>?_,pts_srt h m⟩
 ·rw [pts_len]
  exact Nat.le_trans (Nat.mul_le_mul hm (nodP_len h)) (by decide)
 ·obtain ⟨n,hn,i,_,rfl⟩:=mem_pts.1 hp
  exact h.1 n hn
theorem sP_ext {l m:List PT} (h1:sP l) (h2:sP m) (h:∀ x,x ∈ l ↔ x ∈ m):l=m:=KOrd.srt_ext (O:=ptO) (key:=id) h1 h2 h
theorem sP.filter {l:List PT} (h:sP l) (p:PT→Bool):sP (l.filter p):=List.Pairwise.filter p h
theorem nodP.filter {l:List Int} (h:nodP l) (p:Int→Bool):nodP (l.filter p):=⟨fun x hx=>h.1 x (List.mem_filter.1 hx).1,List.Pairwise.filter p h.2⟩
theorem pts_ne {l:List Int} (h:l≠[]) {m:Nat} (hm:1≤m):pts l m≠[]:=by
 intro he
 have:=pts_len l m
 rw [he] at this
 have h1:=List.length_pos_iff.2 h
 have h2:=Nat.mul_pos hm h1
 simp only [List.length_nil] at this
 omega
theorem mem_frm {l:List PT} {k:Int} {p:PT}:p ∈ frm l k ↔ p ∈ l:=by
 unfold frm
 rw [List.mem_append,List.mem_filter,List.mem_filter]
 cases decide (p.1 < k)<;>simp
theorem mem_wlk {l:List Int} {m:Nat} (hm:1≤m) {k x:Int}:x ∈ wlk (pts l m) k ↔ x ∈ l:=by
 unfold wlk
 rw [mem_ded]
 unfold nds
 rw [List.mem_map]
 constructor
 ·rintro ⟨p,hp,rfl⟩
  rw [mem_frm] at hp
  obtain ⟨n,hn,i,_,rfl⟩:=mem_pts.1 hp
  exact hn
 ·intro hx
  exact ⟨_,mem_frm.2 (mem_pts.2 ⟨x,hx,0,hm,rfl⟩),rfl⟩
theorem nodup_wlk (l:List PT) (k:Int):(wlk l k).Nodup:=nodup_ded _
theorem perm_wlk {l:List Int} (h:nodP l) {m:Nat} (hm:1≤m) (k:Int):(wlk (pts l m) k).Perm l:=perm_nodup (nodup_wlk _ _) h.nodup fun x=>mem_wlk hm
def own (l:List PT) (k:Int):Int:=(l[lb l k % l.length]!).2.1
open Classical in
theorem F30_pts {l:List Int} {m:Nat} {key:ByteArray} (h:nodP l) (hne:l≠[]) (h1:1≤m) (hm:m≤32) (hk:key.size≤9223372036854775806):F30 (pts l m,key)=some (wlk (pts l m) (keyH key),0):=by
 have hok:=pts_ok h hm
 rw [F30_ok (Nat.le_trans hok.1 (by decide)) hk,if_pos hok,if_neg (pts_ne hne h1)]
theorem F29_pts {l:List Int} {m:Nat} (h:nodP l) (h1:1≤m) (hm:m≤32):F29 (l,((m:Nat):Int))=some (pts l m,0):=by
 rw [F29_ok (Nat.le_trans (nodP_len h) (by decide)),if_pos ⟨h,by omega,by omega⟩,Int.toNat_natCast]
end Go.Proofs.YtianfmdemgfgaaaDoor.VL
end
section
namespace Go.Proofs.YtianfmdemgfgaaaDoor.VL
open Go
set_option maxRecDepth 100000
set_option linter.unusedVariables false
set_option linter.unusedSectionVars false
variable [Val]
theorem F14_eq (v:((List Int)×Int)):F14 v=(loopX (fun (v0:((List (Int×(Int×Int)))×Int))=>(cond (decide (v0.2 < ((v.1.length:Nat):Int))) (Option.bind (loopX (fun (v1:((List (Int×(Int×Int)))×Int))=>(cond (decide (v1.2 < v.2)) (Option.bind (cond (decide ((0:Int)≤v0.2)) (Option.bind v.1[(Int.toNat v0.2)]? (fun (v2:Int)=>(Option.bind (F32 v2) (fun (v3:ByteArray)=>(cond (decide (((ByteArray.size v3)+(ByteArray.size (ByteArray.mk #[47])))≤4611686018427387904)) (Option.bind (F32 v1.2) (fun (v4:ByteArray)=>(cond (decide (((ByteArray.size (v3++(ByteArray.mk #[47])))+(ByteArray.size v4))≤4611686018427387904)) (Option.bind (F31 (((v3++(ByteArray.mk #[47]))++v4)::[])) (fun (v5:Int)=>(cond (decide ((0:Int)≤v0.2)) (Option.bind v.1[(Int.toNat v0.2)]? (fun (v6:Int)=>(Option.bind (loopX (fun (v7:Int)=>(joinX (Option.bind (cond (decide (v7 < ((v1.1.length:Nat):Int))) (cond (decide ((0:Int)≤v7)) (Option.bind v1.1[(Int.toNat v7)]? (fun (v8:(Int×(Int×Int)))=>(Option.bind (F33 ((v8.1,v8.2.1,v8.2.2),v5,v6,v1.2)) (fun (v9:Bool)=>(some v9))))) none) (some false)) (fun (v10:Bool)=>(cond v10 (some (.inl ())) (some (.inr (.inr v7)))))) (fun (v11:Unit)=>(some (.inl (IntKind.wrap IntKind.i64 (v7+(1:Int)))))))) (0:Int)) (fun (v12:Int)=>(cond ((decide ((0:Int)≤v12))&&(decide (v12≤((v1.1.length:Nat):Int)))) (cond ((decide (((((List.take (Int.toNat v12) v1.1).length:Nat):Int) * (24:Int))≤(70368744177664:Int)))&&(decide ((((List.take (Int.toNat v12) v1.1).length:Nat):Int)≤(70368744177664:Int)))) (cond (List.isEmpty (List.take (Int.toNat v12) v1.1)) (cond ((decide ((0:Int)≤v12))&&(decide (v12≤((v1.1.length:Nat):Int)))) (cond ((decide (((((1+(List.drop (Int.toNat v12) v1.1).length):Nat):Int) * (24:Int))≤(70368744177664:Int)))&&(decide ((((1+(List.drop (Int.toNat v12) v1.1).length):Nat):Int)≤(70368744177664:Int)))) (cond (decide ((1+(List.drop (Int.toNat v12) v1.1).length)≤1)) (cond (decide ((0+(1+(List.drop (Int.toNat v12) v1.1).length))≤(Append.append (Append.append ((v5,v6,v1.2)::[]) (List.drop (Int.toNat v12) v1.1)) (List.drop (1+(List.drop (Int.toNat v12) v1.1).length) ((v5,v6,v1.2)::[]))).length)) (some (List.take (1+(List.drop (Int.toNat v12) v1.1).length) (Append.append (Append.append ((v5,v6,v1.2)::[]) (List.drop (Int.toNat v12) v1.1)) (List.drop (1+(List.drop (Int.toNat v12) v1.1).length) ((v5,v6,v1.2)::[]))))) none) (cond (decide ((0+(1+(List.drop (Int.toNat v12) v1.1).length))≤(Append.append ((v5,v6,v1.2)::[]) (List.drop (Int.toNat v12) v1.1)).length)) (some (List.take (1+(List.drop (Int.toNat v12) v1.1).length) ((v5,v6,v1.2)::(List.drop (Int.toNat v12) v1.1)))) none)) none) none) (cond ((decide ((0+(List.take (Int.toNat v12) v1.1).length)≤(List.take (Int.toNat v12) v1.1).length))&&((decide ((((((List.take (Int.toNat v12) v1.1).length+1):Nat):Int) * (24:Int))≤(70368744177664:Int)))&&(decide (((((List.take (Int.toNat v12) v1.1).length+1):Nat):Int)≤(70368744177664:Int))))) (cond (decide (((0+(List.take (Int.toNat v12) v1.1).length)+1)≤(List.take (Int.toNat v12) v1.1).length)) (cond ((decide ((0:Int)≤v12))&&(decide (v12≤((v1.1.length:Nat):Int)))) (cond ((decide ((0+((List.take (Int.toNat v12) v1.1).length+1))≤(Append.append (Append.append (List.take (0+(List.take (Int.toNat v12) v1.1).length) (List.take (Int.toNat v12) v1.1)) ((v5,v6,v1.2)::[])) (List.drop ((0+(List.take (Int.toNat v12) v1.1).length)+1) (List.take (Int.toNat v12) v1.1))).length))&&((decide (((((((List.take (Int.toNat v12) v1.1).length+1)+(List.drop (Int.toNat v12) v1.1).length):Nat):Int) * (24:Int))≤(70368744177664:Int)))&&(decide ((((((List.take (Int.toNat v12) v1.1).length+1)+(List.drop (Int.toNat v12) v1.1).length):Nat):Int)≤(70368744177664:Int))))) (cond (decide (((0+((List.take (Int.toNat v12) v1.1).length+1))+(List.drop (Int.toNat v12) v1.1).length)≤(Append.append (Append.append (List.take (0+(List.take (Int.toNat v12) v1.1).length) (List.take (Int.toNat v12) v1.1)) ((v5,v6,v1.2)::[])) (List.drop ((0+(List.take (Int.toNat v12) v1.1).length)+1) (List.take (Int.toNat v12) v1.1))).length)) (cond (decide ((0+(((List.take (Int.toNat v12) v1.1).length+1)+(List.drop (Int.toNat v12) v1.1).length))≤(Append.append (Append.append (List.take (0+((List.take (Int.toNat v12) v1.1).length+1)) (Append.append (Append.append (List.take (0+(List.take (Int.toNat v12) v1.1).length) (List.take (Int.toNat v12) v1.1)) ((v5,v6,v1.2)::[])) (List.drop ((0+(List.take (Int.toNat v12) v1.1).length)+1) (List.take (Int.toNat v12) v1.1)))) (List.drop (Int.toNat v12) v1.1)) (List.drop ((0+((List.take (Int.toNat v12) v1.1).length+1))+(List.drop (Int.toNat v12) v1.1).length) (Append.append (Append.append (List.take (0+(List.take (Int.toNat v12) v1.1).length) (List.take (Int.toNat v12) v1.1)) ((v5,v6,v1.2)::[])) (List.drop ((0+(List.take (Int.toNat v12) v1.1).length)+1) (List.take (Int.toNat v12) v1.1))))).length)) (some (List.take (((List.take (Int.toNat v12) v1.1).length+1)+(List.drop (Int.toNat v12) v1.1).length) (Append.append (Append.append (List.take (0+((List.take (Int.toNat v12) v1.1).length+1)) (Append.append (Append.append (List.take (0+(List.take (Int.toNat v12) v1.1).length) (List.take (Int.toNat v12) v1.1)) ((v5,v6,v1.2)::[])) (List.drop ((0+(List.take (Int.toNat v12) v1.1).length)+1) (List.take (Int.toNat v12) v1.1)))) (List.drop (Int.toNat v12) v1.1)) (List.drop ((0+((List.take (Int.toNat v12) v1.1).length+1))+(List.drop (Int.toNat v12) v1.1).length) (Append.append (Append.append (List.take (0+(List.take (Int.toNat v12) v1.1).length) (List.take (Int.toNat v12) v1.1)) ((v5,v6,v1.2)::[])) (List.drop ((0+(List.take (Int.toNat v12) v1.1).length)+1) (List.take (Int.toNat v12) v1.1))))))) none) (cond (decide ((0+(((List.take (Int.toNat v12) v1.1).length+1)+(List.drop (Int.toNat v12) v1.1).length))≤(Append.append (List.take ((List.take (Int.toNat v12) v1.1).length+1) (Append.append (Append.append (List.take (0+(List.take (Int.toNat v12) v1.1).length) (List.take (Int.toNat v12) v1.1)) ((v5,v6,v1.2)::[])) (List.drop ((0+(List.take (Int.toNat v12) v1.1).length)+1) (List.take (Int.toNat v12) v1.1)))) (List.drop (Int.toNat v12) v1.1)).length)) (some (List.take (((List.take (Int.toNat v12) v1.1).length+1)+(List.drop (Int.toNat v12) v1.1).length) (Append.append (List.take ((List.take (Int.toNat v12) v1.1).length+1) (Append.append (Append.append (List.take (0+(List.take (Int.toNat v12) v1.1).length) (List.take (Int.toNat v12) v1.1)) ((v5,v6,v1.2)::[])) (List.drop ((0+(List.take (Int.toNat v12) v1.1).length)+1) (List.take (Int.toNat v12) v1.1)))) (List.drop (Int.toNat v12) v1.1)))) none)) none) none) (cond ((decide ((0:Int)≤v12))&&(decide (v12≤((v1.1.length:Nat):Int)))) (cond ((decide ((0+((List.take (Int.toNat v12) v1.1).length+1))≤(Append.append (List.take (List.take (Int.toNat v12) v1.1).length (List.take (Int.toNat v12) v1.1)) ((v5,v6,v1.2)::[])).length))&&((decide (((((((List.take (Int.toNat v12) v1.1).length+1)+(List.drop (Int.toNat v12) v1.1).length):Nat):Int) * (24:Int))≤(70368744177664:Int)))&&(decide ((((((List.take (Int.toNat v12) v1.1).length+1)+(List.drop (Int.toNat v12) v1.1).length):Nat):Int)≤(70368744177664:Int))))) (cond (decide (((0+((List.take (Int.toNat v12) v1.1).length+1))+(List.drop (Int.toNat v12) v1.1).length)≤(Append.append (List.take (List.take (Int.toNat v12) v1.1).length (List.take (Int.toNat v12) v1.1)) ((v5,v6,v1.2)::[])).length)) (cond (decide ((0+(((List.take (Int.toNat v12) v1.1).length+1)+(List.drop (Int.toNat v12) v1.1).length))≤(Append.append (Append.append (List.take (0+((List.take (Int.toNat v12) v1.1).length+1)) (Append.append (List.take (List.take (Int.toNat v12) v1.1).length (List.take (Int.toNat v12) v1.1)) ((v5,v6,v1.2)::[]))) (List.drop (Int.toNat v12) v1.1)) (List.drop ((0+((List.take (Int.toNat v12) v1.1).length+1))+(List.drop (Int.toNat v12) v1.1).length) (Append.append (List.take (List.take (Int.toNat v12) v1.1).length (List.take (Int.toNat v12) v1.1)) ((v5,v6,v1.2)::[])))).length)) (some (List.take (((List.take (Int.toNat v12) v1.1).length+1)+(List.drop (Int.toNat v12) v1.1).length) (Append.append (Append.append (List.take (0+((List.take (Int.toNat v12) v1.1).length+1)) (Append.append (List.take (List.take (Int.toNat v12) v1.1).length (List.take (Int.toNat v12) v1.1)) ((v5,v6,v1.2)::[]))) (List.drop (Int.toNat v12) v1.1)) (List.drop ((0+((List.take (Int.toNat v12) v1.1).length+1))+(List.drop (Int.toNat v12) v1.1).length) (Append.append (List.take (List.take (Int.toNat v12) v1.1).length (List.take (Int.toNat v12) v1.1)) ((v5,v6,v1.2)::[])))))) none) (cond (decide ((0+(((List.take (Int.toNat v12) v1.1).length+1)+(List.drop (Int.toNat v12) v1.1).length))≤(Append.append (List.take ((List.take (Int.toNat v12) v1.1).length+1) (Append.append (List.take (List.take (Int.toNat v12) v1.1).length (List.take (Int.toNat v12) v1.1)) ((v5,v6,v1.2)::[]))) (List.drop (Int.toNat v12) v1.1)).length)) (some (List.take (((List.take (Int.toNat v12) v1.1).length+1)+(List.drop (Int.toNat v12) v1.1).length) (Append.append (List.take ((List.take (Int.toNat v12) v1.1).length+1) (Append.append (List.take (List.take (Int.toNat v12) v1.1).length (List.take (Int.toNat v12) v1.1)) ((v5,v6,v1.2)::[]))) (List.drop (Int.toNat v12) v1.1)))) none)) none) none)) none)) none) none))))) none))) none))) none))))) none) (fun (v13:(List (Int×(Int×Int))))=>(some (.inl (v13,(IntKind.wrap IntKind.i64 (v1.2+(1:Int)))))))) (some (.inr v1.1)))) (v0.1,(0:Int))) (fun (v14:(List (Int×(Int×Int))))=>(some (.inl (v14,(IntKind.wrap IntKind.i64 (v0.2+(1:Int)))))))) (some (.inr v0.1)))) ([],(0:Int))):=by kernel_rfl
end Go.Proofs.YtianfmdemgfgaaaDoor.VL
end
section
namespace Go.Proofs.YtianfmdemgfgaaaDoor.VL
open Go
set_option linter.unusedVariables false
set_option linter.unusedSectionVars false
set_option linter.unusedSimpArgs false
set_option maxRecDepth 100000
variable [Val]
theorem digs:((List.range 64).map fun n=>F32 ((n:Nat):Int))=(List.range 64).map fun n=>some (itoa n):=by kernel_rfl
theorem F32_ok {n:Nat} (hn:n < 64):F32 ((n:Nat):Int)=some (itoa n):=by
 have h1:=congrArg (fun l=>l[n]?) digs
 simpa only [List.getElem?_map,List.getElem?_range hn,Option.map_some,Option.some.injEq] using h1
theorem F33_ok (a b:PT):F33 (a,b)=some (ltP a b):=by
 rw [F33_eq]
 unfold ltP
 by_cases h1:a.1=b.1
 ·have e1:(a.1 != b.1)=false:=by rw [h1]; simp
  have d1:decide (a.1 < b.1)=false:=decide_eq_false (by omega)
  by_cases h2:a.2.1=b.2.1
  ·have e2:(a.2.1 != b.2.1)=false:=by rw [h2]; simp
   have d2:decide (a.2.1 < b.2.1)=false:=decide_eq_false (by omega)
   simp only [e1,e2,cond_false,d1,d2,decide_eq_true h1,decide_eq_true h2,Bool.false_or,Bool.true_and]
  ·have e2:(a.2.1 != b.2.1)=true:=by rw [bne_iff_ne]; exact h2
   simp only [e1,e2,cond_false,cond_true,d1,decide_eq_true h1,decide_eq_false h2,Bool.false_or,Bool.true_and,Bool.false_and,Bool.or_false]
 ·have e1:(a.1 != b.1)=true:=by rw [bne_iff_ne]; exact h1
  simp only [e1,cond_true,decide_eq_false h1,Bool.false_and,Bool.or_false]
def whr (l:List PT) (q:PT):Nat:=l.findIdx (fun x=>!ltP x q)
def inst (l:List PT) (q:PT):List PT:=l.take (whr l q)++q::l.drop (whr l q)
theorem whr_le (l:List PT) (q:PT):whr l q≤l.length:=List.findIdx_le_length
theorem mem_inst {l:List PT} {q x:PT}:x ∈ inst l q ↔ x=q∨x ∈ l:=by
 unfold inst
 rw [List.mem_append,List.mem_cons]
 constructor
 ·rintro (h | h | h)
  ·exact .inr (List.mem_of_mem_take h)
  ·exact .inl h
  ·exact .inr (List.mem_of_mem_drop h)
 ·rintro (h | h)
  ·exact .inr (.inl h)
  ·rw [← List.take_append_drop (whr l q) l,List.mem_append] at h
   rcases h with h | h
   ·exact .inl h
   ·exact .inr (.inr h)
theorem srt_inst {l:List PT} (h:sP l) {q:PT} (hq:q ∉ l):sP (inst l q):=by
 induction l with
 | nil=>exact List.pairwise_singleton _ _
 | cons a r ih =>
  obtain ⟨h1,h2⟩:=List.pairwise_cons.1 h
  have ih:=ih h2 (fun h=>hq (by simp [h]))
  by_cases hl:ltP a q=true
  ·have e:whr (a::r) q=whr r q+1:=by
    unfold whr
    rw [List.findIdx_cons,hl]
    rfl
   have e2:inst (a::r) q=a::inst r q:=by unfold inst; rw [e]; rfl
   rw [e2]
   refine List.pairwise_cons.2 ⟨fun x hx=>?_,ih⟩
   rcases mem_inst.1 hx with rfl | hx
   ·exact hl
   ·exact h1 x hx
  ·rw [Bool.not_eq_true] at hl
   have e:whr (a::r) q=0:=by
    unfold whr
    rw [List.findIdx_cons,hl]
    rfl
   have e2:inst (a::r) q=q::a::r:=by unfold inst; rw [e]; rfl
   rw [e2]
   have hqa:ltP q a=true:=by
    rcases ltP_tri a q with t | t | t
    ·rw [hl] at t; cases t
    ·exact absurd (by rw [t]; simp) hq
    ·exact t
   refine List.pairwise_cons.2 ⟨fun x hx=>?_,h⟩
   rcases List.mem_cons.1 hx with rfl | hx
   ·exact hqa
   ·exact ltP_trans hqa (h1 x hx)
theorem mem_sortL {R:List PT} {x:PT}:x ∈ sortL cmpP R ↔ x ∈ R:=(List.mergeSort_perm _ _).mem_iff
theorem sort_snoc {R:List PT} {q:PT} (h:(R++[q]).Nodup):sortL cmpP (R++[q])=inst (sortL cmpP R) q:=by
 rw [List.nodup_append] at h
 obtain ⟨h1,h2,h3⟩:=h
 have hq:q ∉ sortL cmpP R:=fun hm=>h3 q (mem_sortL.1 hm) q (by simp) rfl
 refine sP_ext (srt_sort (by rw [List.nodup_append]; exact ⟨h1,h2,h3⟩)) (srt_inst (srt_sort h1) hq) fun x=>?_
 rw [mem_sortL,mem_inst,mem_sortL,List.mem_append,List.mem_singleton]
 exact Or.comm
theorem F14_ok {l:List Int} {m:Nat} (hN:nodP l) (hm1:1≤m) (hm:m≤32):F14 (l,((m:Nat):Int))=some (pts l m):=by
 rw [F14_eq]
 have hlen:=nodP_len hN
 rw [loop_detE (s0:=(([]:List PT),(0:Int))) l.length (fun i=>(sortL cmpP (rawP (l.take i) m),((i:Nat):Int))) (pts l m) (by simp [rawP,sortL])]
 ·have q:¬ ((l.length:Nat):Int) < ((l.length:Nat):Int):=by omega
  have e:l.take l.length=l:=List.take_length
  simp -implicitDefEqProofs only [q,e,eq_self,xs]
  try rfl
 ·intro i hi
  have q1:((i:Nat):Int) < ((l.length:Nat):Int):=by omega
  have q2:(0:Int)≤(i:Int):=by omega
  have g:=List.getElem?_eq_getElem hi
  have hx:=hN.1 l[i] (List.getElem_mem hi)
  have tk:rawP (l.take (i+1)) m=rawP (l.take i) m++rowP l[i] m:=by
   rw [List.take_succ_eq_append_getElem hi]
   unfold rawP
   rw [List.flatMap_append]; simp
  have hnd:(rawP (l.take (i+1)) m).Nodup:=raw_nodup ((List.take_sublist _ _).nodup hN.nodup) m
  rw [tk] at hnd
  have hr:(rawP (l.take i) m).length≤2048:=by
   rw [rawP_len]
   exact Nat.le_trans (Nat.mul_le_mul hm (by rw [List.length_take]; omega)) (show 32 * 64≤2048 by decide)
  obtain ⟨nn,hnn⟩:∃ nn:Nat,l[i]=(nn:Int):=⟨l[i].toNat,by omega⟩
  have fa:=F32_ok (n:=nn) (by omega)
  have ww:=w1 (show i≤9223372036854775806 by omega)
  rw [tk]
  simp -implicitDefEqProofs only [q1,eq_self,xs]
  rw [loop_detE (s0:=(sortL cmpP (rawP (l.take i) m),(0:Int))) m (fun j=>(sortL cmpP (rawP (l.take i) m++rowP l[i] j),((j:Nat):Int))) (sortL cmpP (rawP (l.take i) m++rowP l[i] m)) (by simp [rowP])]
  ·simp -implicitDefEqProofs only [ww,eq_self,xs]
  ·have q:¬ ((m:Nat):Int) < ((m:Nat):Int):=by omega
   simp -implicitDefEqProofs only [q,eq_self,xs]
  ·intro j hj
   have q3:((j:Nat):Int) < ((m:Nat):Int):=by omega
   have fb:=F32_ok (n:=j) (by omega)
   have s1:(itoa nn).size+(ByteArray.mk #[47]).size≤4611686018427387904:=by
    have:=itoa_size nn
    have h3:(ByteArray.mk #[47]).size=1:=rfl
    omega
   have s2:(itoa nn++ByteArray.mk #[47]).size+(itoa j).size≤4611686018427387904:=by
    have:=itoa_size nn
    have:=itoa_size j
    have h3:(ByteArray.mk #[47]).size=1:=rfl
    rw [ByteArray.size_append]
    omega
   have fc:F31 [itoa nn++ByteArray.mk #[47]++itoa j]=some (hsh nn j):=by
    rw [hsh_key]
    exact F31_one (s:=hnm nn j) (by have:=hnm_size nn j; omega)
   have e:rawP (l.take i) m++rowP l[i] (j+1)=(rawP (l.take i) m++rowP l[i] j)++[(hsh nn j,((nn:Nat):Int),((j:Nat):Int))]:=by
    rw [rowP_succ,← List.append_assoc,show l[i].toNat=nn by omega,hnn]
   have hsub:((rawP (l.take i) m++rowP l[i] j)++[(hsh nn j,((nn:Nat):Int),((j:Nat):Int))]).Nodup:=by
    rw [← e]
    refine List.Sublist.nodup (List.Sublist.append (List.Sublist.refl _) ?_) hnd
    unfold rowP
    exact (List.Sublist.map _ (List.range_sublist.2 (by omega)))
   have hs:=sort_snoc hsub
   have hlS:(sortL cmpP (rawP (l.take i) m++rowP l[i] j)).length≤4096:=by
    rw [sortL_len,List.length_append,rowP_len]; omega
   rw [e,hs]
   clear hs hsub e hnd tk
   generalize sortL cmpP (rawP (l.take i) m++rowP l[i] j)=S at *
   rw [hnn] at g
   have wj:=w1 (show j≤9223372036854775806 by omega)
   simp -implicitDefEqProofs only [q3,q2,g,fa,fb,s1,s2,fc,eq_self,xs]
   generalize hsh nn j=h at *
   rw [loop_first (s0:=(0:Int)) S (fun x=>!ltP x (h,((nn:Nat):Int),((j:Nat):Int))) (fun i=>((i:Nat):Int)) ((S.length:Nat):Int) rfl]
   ·have hw:(if (S.any fun x=>!ltP x (h,((nn:Nat):Int),((j:Nat):Int)))=true then (((S.findIdx fun x=>!ltP x (h,((nn:Nat):Int),((j:Nat):Int))):Nat):Int) else ((S.length:Nat):Int))=((whr S (h,((nn:Nat):Int),((j:Nat):Int)):Nat):Int):=by
     unfold whr
     split
     ·rfl
     ·rename_i ha
      congr 1
      symm
      rw [List.findIdx_eq_length]
      intro x hx
      rw [Bool.not_eq_true,List.any_eq_false] at ha
      have:=ha x hx
      simpa using this
    simp only [hw]
    have hle:=whr_le S (h,((nn:Nat):Int),((j:Nat):Int))
    unfold inst
    generalize whr S (h,((nn:Nat):Int),((j:Nat):Int))=k at *
    generalize (h,((nn:Nat):Int),((j:Nat):Int))=q at *
    have k0:(0:Int)≤(k:Int):=by omega
    have k1:((k:Nat):Int)≤((S.length:Nat):Int):=by omega
    have lT:(S.take k).length=k:=by rw [List.length_take]; omega
    have lD:(S.drop k).length=S.length - k:=List.length_drop
    simp -implicitDefEqProofs only [k0,k1,wj,eq_self,xs]
    generalize S.take k=T at *
    generalize S.drop k=D at *
    have hT:T.length≤4096:=by omega
    have hD:D.length≤4096:=by omega
    have c1:((T.length:Nat):Int) * 24≤70368744177664:=by omega
    have c2:((T.length:Nat):Int)≤70368744177664:=by omega
    have c3:((1+D.length:Nat):Int) * 24≤70368744177664:=by omega
    have c4:((1+D.length:Nat):Int)≤70368744177664:=by omega
    have c5:((T.length+1:Nat):Int) * 24≤70368744177664:=by omega
    have c6:((T.length+1:Nat):Int)≤70368744177664:=by omega
    have c7:((T.length+1+D.length:Nat):Int) * 24≤70368744177664:=by omega
    have c8:((T.length+1+D.length:Nat):Int)≤70368744177664:=by omega
    have n1:¬ T.length+1≤T.length:=by omega
    have l2:List.take (T.length+1) (T++[q])=T++[q]:=List.take_of_length_le (by simp)
    simp -implicitDefEqProofs only [c1,c2,c3,c4,c5,c6,c7,c8,n1,l2,eq_self,xs]
    by_cases hT0:T=[]
    ·subst hT0
     by_cases hD0:D=[]
     ·subst hD0
      simp
     ·have hp:=List.length_pos_iff.2 hD0
      have n2:¬ 1+D.length≤1:=by omega
      have l1:List.take (1+D.length) (q::D)=q::D:=List.take_of_length_le (by simp; omega)
      simp -implicitDefEqProofs only [List.isEmpty_nil,n2,l1,eq_self,xs]
      simp
    ·have hTe:T.isEmpty=false:=by cases T with | nil=>exact absurd rfl hT0 | cons a r=>rfl
     by_cases hD0:D=[]
     ·subst hD0
      simp -implicitDefEqProofs only [hTe,eq_self,xs]
      simp
      exact l2
     ·have hp:=List.length_pos_iff.2 hD0
      have n3:¬ T.length+1+D.length≤T.length+1:=by omega
      have l3:List.take (T.length+1+D.length) (T++[q]++D)=T++[q]++D:=List.take_of_length_le (by simp; omega)
      simp -implicitDefEqProofs only [hTe,n3,l3,eq_self,xs]
      simp
   ·have q:¬ ((S.length:Nat):Int) < ((S.length:Nat):Int):=by omega
    simp -implicitDefEqProofs only [q,eq_self,xs]
   ·intro a x ha hxa
    have p1:((a:Nat):Int) < ((S.length:Nat):Int):=by omega
    have p2:(0:Int)≤(a:Int):=by omega
    have f39:=F33_ok x (h,((nn:Nat):Int),((j:Nat):Int))
    have wa:=w1 (show a≤9223372036854775806 by omega)
    cases hc:ltP x (h,((nn:Nat):Int),((j:Nat):Int))
    ·rw [hc] at f39
     simp -implicitDefEqProofs only [p1,p2,hxa,f39,eq_self,xs]
    ·rw [hc] at f39
     simp -implicitDefEqProofs only [p1,p2,hxa,f39,wa,eq_self,xs]
end Go.Proofs.YtianfmdemgfgaaaDoor.VL
end
section
namespace Go.Proofs.YtianfmdemgfgaaaDoor.VL
open Go
set_option linter.unusedVariables false
set_option linter.unusedSectionVars false
set_option linter.unusedSimpArgs false
set_option maxRecDepth 100000
variable [Val]
theorem sz_ok {s:ByteArray} (h:s.size≤maxLen):s.size≤9223372036854775807:=Nat.le_trans h (by decide)
theorem F39_ok {s:ByteArray} (hs:s.size≤maxLen):F39 s=some (nmB s):=by
 rw [F39_eq,runes_loop]
 ·unfold nmB
  rw [toList_nil]
  cases (List.range s.size).all (fun i=>okB (s.get! i).toNat)
  ·rfl
  ·simp only [if_true,joinX_l,Bool.true_and]
   by_cases h0:s.size=0
   ·simp [h0]
   ·have e1:decide (1≤s.size)=true:=by rw [decide_eq_true_iff]; omega
    have e2:decide (((s.size:Nat):Int)≤20)=decide (s.size≤20):=by rw [Bool.eq_iff_iff,decide_eq_true_iff,decide_eq_true_iff]; omega
    simp only [h0,decide_false,Bool.not_false,cond_true,e1,e2,Bool.true_and]
 ·intro pos hp
  have:¬ pos < s.size:=by omega
  simp only [this,decide_false,cond_false]
 ·intro pos hp
  simp only [hp,decide_true,cond_true]
  exact rune_cond _ _ _
theorem F40_ok {s:ByteArray} (hs:s.size≤maxLen):F40 s=some (nmB s):=by
 rw [F40_eq,octets_loop (good:=Sum.inl ()) (bad:=Sum.inr false)]
 ·unfold nmB
  cases (List.range s.size).all (fun i=>okB (s.get! i).toNat)
  ·rfl
  ·simp only [if_true,joinX_l,Bool.true_and]
   have e1:decide ((1:Int)≤((s.size:Nat):Int))=decide (1≤s.size):=by rw [Bool.eq_iff_iff,decide_eq_true_iff,decide_eq_true_iff]; omega
   have e2:decide (((s.size:Nat):Int)≤20)=decide (s.size≤20):=by rw [Bool.eq_iff_iff,decide_eq_true_iff,decide_eq_true_iff]; omega
   rw [e1,e2]
   cases decide (1≤s.size)<;>rfl
 ·have:¬ (s.size:Int) < (s.size:Int):=by omega
  simp only [this,decide_false,cond_false]
 ·intro i hi
  have h1:(i:Int) < (s.size:Int):=by omega
  have h2:(0:Int)≤(i:Int):=by omega
  have hw:IntKind.wrap .i64 ((i:Int)+1)=((i+1:Nat):Int):=w1 (by have:=sz_ok hs; omega)
  simp only [h1,h2,decide_true,cond_true,ba_get hi,Option.bind_some,hw]
  rw [rune_cond]
  split<;>rfl
def bndN (t n:Nat):Nat:=(5 * t+4 * n - 1) / (4 * n)
theorem F13_ok {t n:Int}:F13 (t,n)=some (if (0≤t∧t≤100)∧1≤n∧n≤64 then (((bndN t.toNat n.toNat:Nat):Int),0) else (0,1)):=by
 rw [F13_eq]
 by_cases h1:t < 0
 ·rw [if_neg (by omega)]
  simp -implicitDefEqProofs only [h1,eq_self,xs]
 by_cases h2:t > 100
 ·rw [if_neg (by omega)]
  simp -implicitDefEqProofs only [h1,h2,eq_self,xs]
 by_cases h3:n < 1
 ·rw [if_neg (by omega)]
  simp -implicitDefEqProofs only [h1,h2,h3,eq_self,xs]
 by_cases h4:n > 64
 ·rw [if_neg (by omega)]
  simp -implicitDefEqProofs only [h1,h2,h3,h4,eq_self,xs]
 rw [if_pos (by omega)]
 obtain ⟨a,rfl⟩:∃ a:Nat,t=a:=⟨t.toNat,by omega⟩
 obtain ⟨b,rfl⟩:∃ b:Nat,n=b:=⟨n.toNat,by omega⟩
 have e1:IntKind.wrap .i64 (4 * ((b:Nat):Int))=((4 * b:Nat):Int):=by rw [wi (by omega) (by omega)]; omega
 have e2:IntKind.wrap .i64 (5 * ((a:Nat):Int))=((5 * a:Nat):Int):=by rw [wi (by omega) (by omega)]; omega
 have e3:IntKind.wrap .i64 (((5 * a:Nat):Int)+((4 * b:Nat):Int))=((5 * a+4 * b:Nat):Int):=by rw [wi (by omega) (by omega)]; omega
 have e4:IntKind.wrap .i64 (((5 * a+4 * b:Nat):Int) - 1)=((5 * a+4 * b - 1:Nat):Int):=by rw [wi (by omega) (by omega)]; omega
 have e5:¬ ((4 * b:Nat):Int)=0:=by omega
 have hd:(5 * a+4 * b - 1) / (4 * b)≤5 * a+4 * b - 1:=Nat.div_le_self _ _
 have e6:IntKind.wrap .i64 (Int.tdiv ((5 * a+4 * b - 1:Nat):Int) ((4 * b:Nat):Int))=((bndN a b:Nat):Int):=by
  rw [Int.tdiv_eq_ediv_of_nonneg (by omega),← Int.natCast_ediv]
  unfold bndN
  generalize (5 * a+4 * b - 1) / (4 * b)=D at *
  exact wi (by omega) (by omega)
 simp -implicitDefEqProofs only [h1,h2,h3,h4,e1,e2,e3,e4,e5,e6,eq_self,xs]
theorem bndN_ge {t n:Nat} (hn:1≤n):5 * t≤4 * n * bndN t n:=by
 unfold bndN
 have:=Nat.div_add_mod (5 * t+4 * n - 1) (4 * n)
 have:=Nat.mod_lt (5 * t+4 * n - 1) (show 4 * n > 0 by omega)
 omega
def tskP (l:List ByteArray):Prop:=l.length≤100∧(∀ s ∈ l,nmB s=true)∧l.Pairwise (fun a b=>ltN a b=true)
def tskA (l:List ByteArray) (i:Nat):Bool:=match l[i]? with
 | some p=>nmB p&&(decide (i=0) || (match l[i - 1]? with | some q=>ltN q p | none=>false))
 | none=>true
theorem ltN_trans {a b c:ByteArray} (h:ltN a b=true) (k:ltN b c=true):ltN a c=true:=bl_trans h k
theorem tskA_iff {l:List ByteArray}:(List.range l.length).all (tskA l)=true ↔ (∀ s ∈ l,nmB s=true)∧l.Pairwise (fun a b=>ltN a b=true):=by
 rw [List.all_eq_true]
 have h':(∀ i ∈ List.range l.length,tskA l i=true) ↔ ∀ (i:Nat) (hi:i < l.length),nmB l[i]=true∧(i=0∨ltN (l[i - 1]'(by omega)) l[i]=true):=by
  constructor
  ·intro h i hi
   have:=h i (List.mem_range.2 hi)
   unfold tskA at this
   rw [List.getElem?_eq_getElem hi,List.getElem?_eq_getElem (show i - 1 < l.length by omega)] at this
   simpa only [Bool.and_eq_true,Bool.or_eq_true,decide_eq_true_iff] using this
  ·intro h i hi
   have hi:=List.mem_range.1 hi
   have:=h i hi
   unfold tskA
   rw [List.getElem?_eq_getElem hi,List.getElem?_eq_getElem (show i - 1 < l.length by omega)]
   simpa only [Bool.and_eq_true,Bool.or_eq_true,decide_eq_true_iff] using this
 rw [h']
 constructor
 ·intro h
  refine ⟨fun p hp=>?_,?_⟩
  ·obtain ⟨i,hi,rfl⟩:=List.getElem_of_mem hp
   exact (h i hi).1
  ·refine (pw_adj (R:=fun a b=>ltN a b=true) (fun a b c=>ltN_trans)).1 fun i hi=>?_
   rcases (h (i+1) hi).2 with q | q
   ·omega
   ·exact q
 ·rintro ⟨h1,h2⟩ i hi
  refine ⟨h1 _ (List.getElem_mem hi),?_⟩
  by_cases h0:i=0
  ·exact .inl h0
  ·right
   have:=(pw_adj (R:=fun a b=>ltN a b=true) (fun a b c=>ltN_trans)).2 h2 (i - 1) (by omega)
   have e:i - 1+1=i:=by omega
   simpa only [e] using this
theorem tskA_bad {l:List ByteArray} {i:Nat} (hi:i < l.length) (h:nmB l[i]=false):tskA l i=false:=by unfold tskA; rw [List.getElem?_eq_getElem hi]; simp only [h,Bool.false_and]
theorem tskA_0 {l:List ByteArray} (hi:0 < l.length) (h:nmB l[0]=true):tskA l 0=true:=by unfold tskA; rw [List.getElem?_eq_getElem hi]; simp only [h,decide_true,Bool.true_or,Bool.and_self]
theorem tskA_s {l:List ByteArray} {k:Nat} (hi:k+1 < l.length) (h:nmB l[k+1]=true):tskA l (k+1)=ltN l[k] l[k+1]:=by
 unfold tskA
 rw [List.getElem?_eq_getElem hi]
 have e1:decide (k+1=0)=false:=decide_eq_false (by omega)
 have e2:k+1 - 1=k:=rfl
 simp only [h,e1,e2,List.getElem?_eq_getElem (show k < l.length by omega),Bool.false_or,Bool.true_and]
theorem bl_le (a b:ByteArray):(Op.bytesLess a.toList b.toList || (a.toList==b.toList))=!Op.bytesLess b.toList a.toList:=by
 rcases tri a b with h | h | h
 ·have h':Op.bytesLess a.toList b.toList=true:=h
  rw [h',bl_asymm h']; rfl
 ·subst h
  rw [bl_irrefl]; simp
 ·have h':Op.bytesLess b.toList a.toList=true:=h
  have e:(a.toList==b.toList)=false:=by
   rw [beq_eq_false_iff_ne]
   intro e
   rw [e,bl_irrefl] at h'
   cases h'
  rw [h',bl_asymm h',e]; rfl
open Classical in
theorem F25_ok {l:List ByteArray} (hs:∀ s ∈ l,s.size≤maxLen):F25 l=some (if tskP l then 0 else 1):=by
 rw [F25_eq]
 by_cases hlen:l.length≤100
 ·have q0:¬ ((l.length:Nat):Int) > 100:=by omega
  rw [decide_eq_false q0,cond_false]
  rw [loop_all (n:=l.length) (tskA l) (1:Int) 0]
  ·congr 1
   by_cases h:(List.range l.length).all (tskA l)=true
   ·rw [if_pos h,if_pos ⟨hlen,tskA_iff.1 h⟩]
   ·rw [if_neg h,if_neg (fun q=>h (tskA_iff.2 q.2))]
  ·have q:¬ ((l.length:Nat):Int) < ((l.length:Nat):Int):=by omega
   simp -implicitDefEqProofs only [q,eq_self,xs]
  ·intro i hi _
   have q1:((i:Nat):Int) < ((l.length:Nat):Int):=by omega
   have q2:(0:Int)≤(i:Int):=by omega
   have g:=List.getElem?_eq_getElem hi
   have f:=F39_ok (hs _ (List.getElem_mem hi))
   cases hn:nmB l[i]
   ·rw [tskA_bad hi hn]
    rw [hn] at f
    simp -implicitDefEqProofs only [q1,q2,g,f,eq_self,xs]
   ·rw [hn] at f
    by_cases hi0:i=0
    ·subst hi0
     rw [tskA_0 hi hn]
     have q3:¬ ((0:Nat):Int) > 0:=by omega
     simp -implicitDefEqProofs only [q1,q2,q3,g,f,w1 (show 0≤9223372036854775806 by omega),eq_self,xs]
    ·obtain ⟨k,rfl⟩:∃ k,i=k+1:=⟨i - 1,by omega⟩
     have gk:=List.getElem?_eq_getElem (show k < l.length by omega)
     rw [tskA_s hi hn]
     have q3:((k+1:Nat):Int) > 0:=by omega
     have ww:IntKind.wrap .i64 (((k+1:Nat):Int) - 1)=((k:Nat):Int):=by rw [wi (by omega) (by omega)]; omega
     have q4:(0:Int)≤(k:Int):=by omega
     have t:Int.toNat ((k+1:Nat):Int)=k+1:=Int.toNat_natCast _
     have ww2:=w1 (show k+1≤9223372036854775806 by omega)
     have c:Op.bytesLess l[k].toList l[k+1].toList=ltN l[k] l[k+1]:=rfl
     cases hc:ltN l[k] l[k+1]
     ·rw [hc] at c
      simp -implicitDefEqProofs only [q1,q2,q3,q4,ww,t,g,gk,f,c,eq_self,xs]
     ·rw [hc] at c
      simp -implicitDefEqProofs only [q1,q2,q3,q4,ww,t,g,gk,f,c,ww2,eq_self,xs]
 ·have q0:((l.length:Nat):Int) > 100:=by omega
  rw [decide_eq_true q0,cond_true,if_neg (fun h=>hlen h.1)]
open Classical in
theorem F26_ok {l:List ByteArray} (hl:l.length≤9223372036854775806) (hs:∀ s ∈ l,s.size≤maxLen):F26 l=some (decide (tskP l)):=by
 rw [F26_eq]
 rw [loop_all (n:=l.length) (tskA l) false (decide (l.length≤100))]
 ·congr 1
  by_cases h:(List.range l.length).all (tskA l)=true
  ·rw [if_pos h]
   have:=tskA_iff.1 h
   rw [Bool.eq_iff_iff,decide_eq_true_iff,decide_eq_true_iff]
   exact ⟨fun a=>⟨a,this⟩,fun a=>a.1⟩
  ·rw [if_neg h]
   exact (decide_eq_false (fun q=>h (tskA_iff.2 q.2))).symm
 ·have q:¬ ((l.length:Nat):Int) < ((l.length:Nat):Int):=by omega
  have e:decide (((l.length:Nat):Int)≤100)=decide (l.length≤100):=by rw [Bool.eq_iff_iff,decide_eq_true_iff,decide_eq_true_iff]; omega
  simp -implicitDefEqProofs only [q,e,eq_self,xs]
 ·intro i hi _
  have q1:((i:Nat):Int) < ((l.length:Nat):Int):=by omega
  have q2:(0:Int)≤(i:Int):=by omega
  have g:=List.getElem?_eq_getElem hi
  have f:=F40_ok (hs _ (List.getElem_mem hi))
  cases hn:nmB l[i]
  ·rw [tskA_bad hi hn]
   rw [hn] at f
   simp -implicitDefEqProofs only [q1,q2,g,f,eq_self,xs]
  ·rw [hn] at f
   by_cases hi0:i=0
   ·subst hi0
    rw [tskA_0 hi hn]
    have q3:¬ ((0:Nat):Int) > 0:=by omega
    simp -implicitDefEqProofs only [q1,q2,q3,g,f,w1 (show 0≤9223372036854775806 by omega),eq_self,xs]
   ·obtain ⟨k,rfl⟩:∃ k,i=k+1:=⟨i - 1,by omega⟩
    have gk:=List.getElem?_eq_getElem (show k < l.length by omega)
    rw [tskA_s hi hn]
    have q3:((k+1:Nat):Int) > 0:=by omega
    have ww:IntKind.wrap .i64 (((k+1:Nat):Int) - 1)=((k:Nat):Int):=by rw [wi (by omega) (by omega)]; omega
    have q4:(0:Int)≤(k:Int):=by omega
    have t:Int.toNat ((k+1:Nat):Int)=k+1:=Int.toNat_natCast _
    have ww2:=w1 (show k+1≤9223372036854775806 by omega)
    have c:=bl_le l[k+1] l[k]
    have c2:Op.bytesLess l[k].toList l[k+1].toList=ltN l[k] l[k+1]:=rfl
    cases hc:ltN l[k] l[k+1]
    ·rw [c2,hc] at c
     simp -implicitDefEqProofs only [q1,q2,q3,q4,ww,t,g,gk,f,c,eq_self,xs]
    ·rw [c2,hc] at c
     simp -implicitDefEqProofs only [q1,q2,q3,q4,ww,t,g,gk,f,c,ww2,eq_self,xs]
theorem nmB_size {s:ByteArray} (h:nmB s=true):s.size≤20:=by
 unfold nmB at h
 simp only [Bool.and_eq_true,decide_eq_true_iff] at h
 exact h.2.2
theorem tskP.size {l:List ByteArray} (h:tskP l):∀ s ∈ l,s.size≤20:=fun s hs=>nmB_size (h.2.1 s hs)
abbrev PU:=ByteArray×Int
def cntN (l:List PU) (n:Int):Nat:=l.countP (fun p=>p.2==n)
theorem cntN_snoc (l:List PU) (p:PU) (n:Int):cntN (l++[p]) n=cntN l n+(if p.2=n then 1 else 0):=by
 unfold cntN
 rw [List.countP_append,List.countP_singleton]
 by_cases h:p.2=n
 ·simp [h]
 ·simp [h]
theorem cntN_le (l:List PU) (n:Int):cntN l n≤l.length:=List.countP_le_length
theorem F17_ok {a b:List PU} (ha:a.length≤9223372036854775806):F17 (a,b)=some (decide (a=b)):=by
 rw [F17_eq]
 by_cases hl:a.length=b.length
 ·have e:(((a.length:Nat):Int) != ((b.length:Nat):Int))=false:=by rw [hl]; exact bne_self_eq_false _
  simp -implicitDefEqProofs only [e,eq_self,xs]
  refine loop_same a b hl rfl ?_ ?_
  ·simp -implicitDefEqProofs only [not_lt_self,eq_self,xs]
  ·intro i x y hi hx hy
   have q1:((i:Nat):Int) < ((a.length:Nat):Int):=by omega
   have q2:(0:Int)≤(i:Int):=by omega
   obtain ⟨x1,x2⟩:=x
   obtain ⟨y1,y2⟩:=y
   by_cases h1:x1=y1
   ·by_cases h2:x2=y2
    ·subst h1 h2
     have b1:(x1.toList==x1.toList)=true:=beq_self_eq_true _
     have b2:(x2==x2)=true:=beq_self_eq_true _
     simp -implicitDefEqProofs only [q1,q2,hx,hy,b1,b2,w1 (show i≤9223372036854775806 by omega),eq_self,xs]
    ·have b2:(x2==y2)=false:=beq_eq_false_iff_ne.2 h2
     rw [if_neg (fun h=>h2 (congrArg Prod.snd h))]
     simp -implicitDefEqProofs only [q1,q2,hx,hy,b2,eq_self,xs]
   ·have b1:(x1.toList==y1.toList)=false:=beq_eq_false_iff_ne.2 (fun h=>h1 (toList_inj h))
    rw [if_neg (fun h=>h1 (congrArg Prod.fst h))]
    simp -implicitDefEqProofs only [q1,q2,hx,hy,b1,eq_self,xs]
 ·have e:(((a.length:Nat):Int) != ((b.length:Nat):Int))=true:=by rw [bne_iff_ne]; omega
  simp -implicitDefEqProofs only [e,eq_self,xs]
  rw [decide_eq_false (fun h=>hl (by rw [h]))]
end Go.Proofs.YtianfmdemgfgaaaDoor.VL
end
section
namespace Go.Proofs.YtianfmdemgfgaaaDoor.VL
open Go
set_option linter.unusedVariables false
set_option linter.unusedSectionVars false
set_option linter.unusedSimpArgs false
set_option maxRecDepth 100000
variable [Val]
theorem mget_mput {k:IntKind} {vt:TT} (x y:Int) (v:vt.den):∀ l:List (Int×vt.den),mget (kt:=.i k) (vt:=vt) x (mput (kt:=.i k) (vt:=vt) y v l)=if x=y then some v else mget (kt:=.i k) (vt:=vt) x l
 | []=>by
  show cond (x==y) (some v) none=_
  by_cases h:x=y
  ·subst h; simp
  ·rw [if_neg h]
   have:(x==y)=false:=by rw [beq_eq_false_iff_ne]; exact h
   rw [this]; rfl
 | p::r=>by
  have e1:mput (kt:=.i k) (vt:=vt) y v (p::r)=cond (y==p.1) ((y,v)::r) (p::mput (kt:=.i k) (vt:=vt) y v r):=rfl
  have e2:∀ q r',mget (kt:=.i k) (vt:=vt) x (q::r')=cond (x==q.1) (some q.2) (mget (kt:=.i k) (vt:=vt) x r'):=fun q r'=>rfl
  rw [e1]
  by_cases hy:y=p.1
  ·have:(y==p.1)=true:=by rw [beq_iff_eq]; exact hy
   rw [this,cond_true,e2,e2]
   by_cases h:x=y
   ·subst h; simp
   ·rw [if_neg h]
    have h1:(x==y)=false:=by rw [beq_eq_false_iff_ne]; exact h
    have h2:(x==p.1)=false:=by rw [beq_eq_false_iff_ne,← hy]; exact h
    rw [h1,h2]; rfl
  ·have:(y==p.1)=false:=by rw [beq_eq_false_iff_ne]; exact hy
   rw [this,cond_false,e2,e2,mget_mput x y v r]
   by_cases h:x=y
   ·subst h
    rw [if_pos rfl,if_pos rfl]
    show cond (x==p.1) _ _=_
    rw [this,cond_false]
   ·rw [if_neg h,if_neg h]
def okL (l:List PU):Prop:=(∀ p ∈ l,0≤p.2∧p.2 < 64)∧tskP (l.map Prod.fst)
theorem rng_all {l:List PU}:(List.range l.length).all (fun i=>match l[i]? with | some p=>rngB p.2 | none=>true)=true ↔ ∀ p ∈ l,0≤p.2∧p.2 < 64:=by
 rw [List.all_eq_true]
 constructor
 ·intro h p hp
  obtain ⟨i,hi,rfl⟩:=List.getElem_of_mem hp
  have:=h i (List.mem_range.2 hi)
  rw [List.getElem?_eq_getElem hi] at this
  exact rngB_iff.1 this
 ·intro h i hi
  have hi:=List.mem_range.1 hi
  rw [List.getElem?_eq_getElem hi]
  exact rngB_iff.2 (h _ (List.getElem_mem hi))
theorem snoc_fst {l:List PU} {i:Nat} (hi:i < l.length):(l.take (i+1)).map Prod.fst=(l.take i).map Prod.fst++[l[i].1]:=by
 rw [List.take_succ_eq_append_getElem hi,List.map_append]; rfl
theorem sz_map {l:List PU} (hs:∀ p ∈ l,p.1.size≤maxLen):∀ s ∈ l.map Prod.fst,s.size≤maxLen:=by
 intro s h
 obtain ⟨p,hp,rfl⟩:=List.mem_map.1 h
 exact hs p hp
noncomputable def F24f (l:List PU):Int×List ByteArray→Option ((Int×List ByteArray) ⊕ Int):=(fun (v0:(Int×(List ByteArray)))=>(cond (decide (v0.1 < ((l.length:Nat):Int))) (joinX (cond (decide ((0:Int)≤v0.1)) (Option.bind l[(Int.toNat v0.1)]? (fun (v1:(ByteArray×Int))=>(joinX (Option.bind (cond (decide (v1.2 < (0:Int))) (some true) (some (decide (v1.2 ≥ (64:Int))))) (fun (v2:Bool)=>(cond v2 (some (.inr (.inr (.inr (1:Int))))) (some (.inl ()))))) (fun (v3:Unit)=>(cond ((decide (v0.2.length=v0.2.length))&&((decide (((((v0.2.length+1):Nat):Int) * (16:Int))≤(70368744177664:Int)))&&(decide ((((v0.2.length+1):Nat):Int)≤(70368744177664:Int))))) (cond (decide ((v0.2.length+1)=(Append.append v0.2 (v1.1::[])).length)) (some (.inl (Append.append v0.2 (v1.1::[])))) none) none))))) none) (fun (v4:(List ByteArray))=>(cond (decide (v4.length=v4.length)) (some (.inl ((IntKind.wrap IntKind.i64 (v0.1+(1:Int))),v4))) none))) (Option.map (Sum.inr) (cond (decide ((0+v0.2.length)≤v0.2.length)) (Option.bind (F25 (List.take v0.2.length v0.2)) (fun (v5:Int)=>(some v5))) none))))
open Classical in
theorem F24_ok {l:List PU} (hl:l.length≤1000) (hs:∀ p ∈ l,p.1.size≤maxLen):F24 l=some (if okL l then 0 else 1):=by
 rw [F24_eq]
 have key:=loop_allS (n:=l.length) (A:=List ByteArray) (ρ:=Int) (f:=(fun (v0:(Int×(List ByteArray)))=>F24f l v0)) (fun i=>(l.take i).map Prod.fst) (fun i=>match l[i]? with | some p=>rngB p.2 | none=>true) 1 (if tskP (l.map Prod.fst) then 0 else 1) ?_ ?_
 ·refine Eq.trans ?_ (key.trans ?_)
  ·rfl
  ·congr 1
   by_cases h:∀ p ∈ l,0≤p.2∧p.2 < 64
   ·rw [if_pos (rng_all.2 h)]
    by_cases h2:tskP (l.map Prod.fst)
    ·rw [if_pos h2,if_pos (show okL l from ⟨h,h2⟩)]
    ·rw [if_neg h2,if_neg (show ¬ okL l from fun q=>h2 q.2)]
   ·rw [if_neg (fun q=>h (rng_all.1 q)),if_neg (show ¬ okL l from fun q=>h q.1)]
 ·have q:¬ ((l.length:Nat):Int) < ((l.length:Nat):Int):=by omega
  have f:=F25_ok (sz_map hs)
  have tl:List.take l.length (l.map Prod.fst)=l.map Prod.fst:=List.take_of_length_le (by rw [List.length_map]; omega)
  unfold F24f
  simp -implicitDefEqProofs only [q,List.take_length,List.length_map,tl,f,eq_self,xs]
 ·intro i hi _
  have q1:((i:Nat):Int) < ((l.length:Nat):Int):=by omega
  have q2:(0:Int)≤(i:Int):=by omega
  have g:=List.getElem?_eq_getElem hi
  have hlen:((l.take i).map Prod.fst).length≤1000:=by rw [List.length_map,List.length_take]; omega
  have e:(match l[i]? with | some p=>rngB p.2 | none=>true)=rngB l[i].2:=by rw [g]
  rw [snoc_fst hi,e]
  generalize (l.take i).map Prod.fst=A at *
  have p1:((A.length+1:Nat):Int) * 16≤70368744177664:=by omega
  have p2:((A.length+1:Nat):Int)≤70368744177664:=by omega
  unfold F24f
  by_cases h0:l[i].2 < 0
  ·rw [show rngB l[i].2=false by rw [Bool.eq_false_iff]; intro h; rw [rngB_iff] at h; omega]
   simp -implicitDefEqProofs only [q1,q2,g,h0,eq_self,xs]
  by_cases h1:l[i].2 ≥ 64
  ·rw [show rngB l[i].2=false by rw [Bool.eq_false_iff]; intro h; rw [rngB_iff] at h; omega]
   simp -implicitDefEqProofs only [q1,q2,g,h0,h1,eq_self,xs]
  rw [rngB_iff.2 (show 0≤l[i].2∧l[i].2 < 64 by omega)]
  simp -implicitDefEqProofs only [q1,q2,g,h0,h1,p1,p2,w1 (show i≤9223372036854775806 by omega),eq_self,xs]
theorem F38_ok (a b:ByteArray):F38 (a,b)=some (cmpN a b):=by
 have n:∀ a,F48 a=some false:=by
  intro a
  rw [F48_eq]
  show some (!(a.toList==a.toList))=_
  rw [beq_self_eq_true]; rfl
 rw [F38_eq]
 show Option.bind (F48 a) (fun v0=>Option.bind (F48 b) (fun v1=>cond v0 (cond v1 (some 0) (some (-1))) (cond v1 (some 1) (cond (ltN a b) (some (-1)) (cond (!(ltN a b || eqN a b)) (some 1) (some 0))))))=_
 rw [n,n]
 unfold cmpN
 cases ltN a b<;>cases eqN a b<;>rfl
theorem F37_ok (x:PU) (b:ByteArray):F37 (x,b)=some (cmpN x.1 b):=by
 rw [F37_eq]
 show Option.bind (F38 (x.1,b)) _=_
 rw [F38_ok]; rfl
theorem okL.srt {l:List PU} (h:okL l):nmO.Srt Prod.fst l:=by
 have:=h.2.2.2
 rw [List.pairwise_map] at this
 exact this
open Classical in
theorem F22_ok {l:List PU} (hl:l.length≤1000) (hs:∀ p ∈ l,p.1.size≤maxLen) (nm:ByteArray):F22 (l,nm)=some (if okL l then (match lkn Prod.fst l nm with | some p=>(p.2,(0:Int)) | none=>(0,6)) else (0,1)):=by
 rw [F22_eq,F24_ok hl hs]
 by_cases h:okL l
 ·rw [if_pos h,if_pos h]
  have hs:=h.srt
  simp only [Option.bind_some,nz0,cond_false]
  rw [loop_find hs nm rfl]
  rotate_left
  ·intro i hi
   have q:¬ (i:Int) < (i:Int):=by omega
   simp -implicitDefEqProofs only [q,eq_self,xs]
  ·intro i j m x hij hj hm hml hx
   have q1:(i:Int) < (j:Int):=by omega
   have hmid:=mid (i:=i) (j:=j) (by omega)
   rw [← hm] at hmid
   have q3:(0:Int)≤(m:Int):=by omega
   simp -implicitDefEqProofs only [q1,hmid,q3,hx,F37_ok x nm,cmp_lt,w1 (show m≤9223372036854775806 by omega),eq_self,xs]
   rfl
  ·have hp:=KOrd.plc_le (O:=nmO) (key:=Prod.fst) l nm
   have ha:=lkn_at hs nm
   by_cases hq:nmO.plc Prod.fst l nm < l.length
   ·have q1:((nmO.plc Prod.fst l nm:Nat):Int) < ((l.length:Nat):Int):=by omega
    have q2:(0:Int)≤((nmO.plc Prod.fst l nm:Nat):Int):=by omega
    have g:=List.getElem?_eq_getElem hq
    rw [g] at ha
    simp only at ha
    simp -implicitDefEqProofs only [q1,q2,g,F37_ok l[nmO.plc Prod.fst l nm] nm,cmp_eq,eq_self,xs]
    rw [ha]
    cases eqN (l[nmO.plc Prod.fst l nm]).1 nm<;>rfl
   ·have q1:¬ ((nmO.plc Prod.fst l nm:Nat):Int) < ((l.length:Nat):Int):=by omega
    simp -implicitDefEqProofs only [q1,eq_self,xs]
    rw [ha,List.getElem?_eq_none (by omega)]
 ·rw [if_neg h,if_neg h]
  rfl
open Classical in
theorem F10_ok {nodes:List Int} {sp:Int} {L:List ByteArray} {r:List PU×Int} (hs:∀ s ∈ L,s.size≤maxLen) :
  F10 (nodes,sp,L,r)=some (decide ((1≤nodes.length∧nodes.length≤6)∧L.length≤20∧nodP nodes∧tskP L∧1≤sp∧sp≤8)):=by
 rw [F10_eq]
 by_cases h1:1≤nodes.length
 rotate_left
 ·have q:¬ ((nodes.length:Nat):Int) ≥ 1:=by omega
  rw [decide_eq_false (p:=_∧_) (by omega)]
  simp -implicitDefEqProofs only [q,eq_self,xs]
 have q1:((nodes.length:Nat):Int) ≥ 1:=by omega
 by_cases h2:nodes.length≤6
 rotate_left
 ·have q:¬ ((nodes.length:Nat):Int)≤6:=by omega
  rw [decide_eq_false (p:=_∧_) (by omega)]
  simp -implicitDefEqProofs only [q1,q,eq_self,xs]
 have q2:((nodes.length:Nat):Int)≤6:=by omega
 have f20:=F20_ok (l:=nodes) (by omega)
 by_cases h3:L.length≤20
 rotate_left
 ·have q:¬ ((L.length:Nat):Int)≤20:=by omega
  rw [decide_eq_false (p:=_∧_) (by omega)]
  simp -implicitDefEqProofs only [q1,q2,q,eq_self,xs]
 have q3:((L.length:Nat):Int)≤20:=by omega
 have f26:=F26_ok (l:=L) (by omega) hs
 by_cases h4:nodP nodes
 rotate_left
 ·rw [decide_eq_false (p:=_∧_) (fun h=>h4 h.2.2.1)]
  rw [if_neg h4] at f20
  simp -implicitDefEqProofs only [q1,q2,q3,f20,eq_self,xs]
 rw [if_pos h4] at f20
 by_cases h5:tskP L
 rotate_left
 ·rw [decide_eq_false (p:=_∧_) (fun h=>h5 h.2.2.2.1)]
  rw [decide_eq_false h5] at f26
  simp -implicitDefEqProofs only [q1,q2,q3,f20,f26,eq_self,xs]
 rw [decide_eq_true h5] at f26
 by_cases h6:sp ≥ 1
 rotate_left
 ·rw [decide_eq_false (p:=_∧_) (fun h=>h6 h.2.2.2.2.1)]
  simp -implicitDefEqProofs only [q1,q2,q3,f20,f26,h6,eq_self,xs]
 by_cases h7:sp≤8
 ·rw [decide_eq_true (p:=_∧_) ⟨⟨h1,h2⟩,h3,h4,h5,h6,h7⟩]
  simp -implicitDefEqProofs only [q1,q2,q3,f20,f26,h6,h7,eq_self,xs]
 ·rw [decide_eq_false (p:=_∧_) (fun h=>h7 h.2.2.2.2.2)]
  simp -implicitDefEqProofs only [q1,q2,q3,f20,f26,h6,h7,eq_self,xs]
def asgW (w:List Int) (most:Nat) (out:List PU) (t:ByteArray):List PU:=match w.find? (fun n=>decide (cntN out n < most)) with
 | some n=>out++[(t,n)]
 | none=>out
def asgL (wk:ByteArray→List Int) (most:Nat) (l:List ByteArray):List PU:=l.foldl (fun out t=>asgW (wk t) most out t) []
theorem asgL_snoc (wk:ByteArray→List Int) (most:Nat) (l:List ByteArray) (t:ByteArray):asgL wk most (l++[t])=asgW (wk t) most (asgL wk most l) t:=by unfold asgL; rw [List.foldl_append]; rfl
theorem asgW_len (w:List Int) (most:Nat) (out:List PU) (t:ByteArray):(asgW w most out t).length≤out.length+1:=by
 unfold asgW
 split
 ·rw [List.length_append]; exact Nat.le_refl _
 ·omega
theorem asgL_len (wk:ByteArray→List Int) (most:Nat):∀ k (l:List ByteArray),l.length=k→(asgL wk most l).length≤k:=by
 intro k
 induction k with
 | zero=>intro l h; rw [List.length_eq_zero_iff.1 h]; exact Nat.le_refl _
 | succ k ih =>
  intro l h
  rcases List.eq_nil_or_concat l with rfl | ⟨m,t,rfl⟩
  ·simp at h
  ·rw [List.concat_eq_append] at h ⊢
   rw [List.length_append] at h
   rw [asgL_snoc]
   have:=ih m (by simpa using h)
   have:=asgW_len (wk t) most (asgL wk most m) t
   omega
abbrev MI:=List (Int×Int)
def gI (n:Int) (m:MI):Int:=(mget (kt:=(TT.i IntKind.i64)) (vt:=(TT.i IntKind.i64)) n m:Option Int).getD 0
theorem gI_put (x y v:Int) (m:MI):gI x (mput (kt:=(TT.i IntKind.i64)) (vt:=(TT.i IntKind.i64)) y v m)=if x=y then v else gI x m:=by
 unfold gI
 rw [mget_mput (k:=.i64) (vt:=.i .i64) x y v m]
 split<;>rfl
noncomputable def inF {R:Type} (w:List Int) (most:Int) (t:ByteArray):Int×(MI×List PU)→Option ((Int×(MI×List PU)) ⊕ ((MI×List PU) ⊕ R)):=fun u=>cond (decide (u.1 < ((w.length:Nat):Int))) (cond (decide ((0:Int)≤u.1)) (Option.bind w[(Int.toNat u.1)]? fun n=>cond (decide (gI n u.2.1 < most)) (cond (decide (((u.2.2.length+1:Nat):Int) * 24≤70368744177664)&&decide (((u.2.2.length+1:Nat):Int)≤70368744177664)) (some (.inr (.inl (mput (kt:=(TT.i IntKind.i64)) (vt:=(TT.i IntKind.i64)) n (IntKind.wrap .i64 (gI n u.2.1+1)) u.2.1,u.2.2++[(t,n)])))) none) (some (.inl (IntKind.wrap .i64 (u.1+1),u.2)))) none) (some (.inr (.inl u.2)))
theorem inF_ok {R:Type} {w:List Int} {most:Nat} {t:ByteArray} {has:MI} {out:List PU} (hw:w.length≤100) (ho:out.length≤1000) (hm:∀ n,gI n has=((cntN out n:Nat):Int)) :
  ∃ r,loopX (inF (R:=R) w ((most:Nat):Int) t) (0,has,out)=some r∧∃ has':MI,r=.inl (has',asgW w most out t)∧∀ n,gI n has'=((cntN (asgW w most out t) n:Nat):Int):=by
 refine loop_ex (fun u:Int×(MI×List PU)=>∃ j:Nat,u=(((j:Nat):Int),has,out)∧j≤w.length∧∀ i (h:i < w.length),i < j→¬ cntN out w[i] < most) (fun u=>w.length - u.1.toNat) _ ?_ _ ⟨0,rfl,by omega,fun i _ h=>by omega⟩
 rintro _ ⟨j,rfl,hj,hno⟩
 by_cases h:j < w.length
 ·have q1:((j:Nat):Int) < ((w.length:Nat):Int):=by omega
  have q2:(0:Int)≤(j:Int):=by omega
  have g:=List.getElem?_eq_getElem h
  have e:=hm w[j]
  have hc:=cntN_le out w[j]
  by_cases hk:cntN out w[j] < most
  ·left
   have hf:w.find? (fun n=>decide (cntN out n < most))=some w[j]:=by
    rw [List.find?_eq_some_iff_getElem]
    exact ⟨decide_eq_true hk,j,h,rfl,fun i hi=>by rw [decide_eq_false (hno i (by omega) hi)]; rfl⟩
   have ha:asgW w most out t=out++[(t,w[j])]:=by unfold asgW; rw [hf]
   rw [ha]
   have q3:((cntN out w[j]:Nat):Int) < ((most:Nat):Int):=by omega
   have p1:((out.length+1:Nat):Int) * 24≤70368744177664:=by omega
   have p2:((out.length+1:Nat):Int)≤70368744177664:=by omega
   refine ⟨_,?_,mput (kt:=(TT.i IntKind.i64)) (vt:=(TT.i IntKind.i64)) w[j] ((cntN out w[j]+1:Nat):Int) has,rfl,fun n=>?_⟩
   ·unfold inF
    simp -implicitDefEqProofs only [q1,q2,g,e,q3,p1,p2,w1 (show cntN out w[j]≤9223372036854775806 by omega),eq_self,xs]
   ·rw [gI_put,cntN_snoc]
    by_cases hn:n=w[j]
    ·subst hn; rw [if_pos rfl,if_pos rfl]
    ·rw [if_neg hn,if_neg (fun q=>hn q.symm),hm]; rfl
  ·right
   have q3:¬ ((cntN out w[j]:Nat):Int) < ((most:Nat):Int):=by omega
   refine ⟨(((j+1:Nat):Int),has,out),?_,⟨j+1,rfl,by omega,fun i hi hij=>?_⟩,by simp only [Int.toNat_natCast]; omega⟩
   ·unfold inF
    simp -implicitDefEqProofs only [q1,q2,g,e,q3,w1 (show j≤9223372036854775806 by omega),eq_self,xs]
   ·rcases Nat.lt_or_ge i j with hlt | hge
    ·exact hno i hi hlt
    ·have:i=j:=by omega
     subst this; exact hk
 ·left
  have q1:¬ ((j:Nat):Int) < ((w.length:Nat):Int):=by omega
  have hf:w.find? (fun n=>decide (cntN out n < most))=none:=by
   rw [List.find?_eq_none]
   intro x hx
   obtain ⟨i,hi,rfl⟩:=List.getElem_of_mem hx
   simpa using hno i hi (by omega)
  have ha:asgW w most out t=out:=by unfold asgW; rw [hf]
  rw [ha]
  exact ⟨_,by unfold inF; simp -implicitDefEqProofs only [q1,eq_self,xs],has,rfl,hm⟩
end Go.Proofs.YtianfmdemgfgaaaDoor.VL
end
section
namespace Go.Proofs.YtianfmdemgfgaaaDoor.VL
open Go
set_option linter.unusedVariables false
set_option linter.unusedSectionVars false
set_option linter.unusedSimpArgs false
set_option maxRecDepth 100000
variable [Val]
theorem ex_some {α:Type} {x:Option α} {y:α} (h:∃ r,x=some r∧r=y):x=some y:=by
 obtain ⟨_,h,rfl⟩:=h
 exact h
abbrev wkF (nodes:List Int) (m:Nat) (t:ByteArray):List Int:=wlk (pts nodes m) (keyH t)
abbrev asg (nodes:List Int) (m:Nat) (l:List ByteArray):List PU:=asgL (wkF nodes m) (bndN l.length nodes.length) l
theorem wk_len {nodes:List Int} (h:nodP nodes) {m:Nat} (hm:1≤m) (t:ByteArray):(wkF nodes m t).length≤64:=by
 rw [(perm_wlk h hm (keyH t)).length_eq]; exact nodP_len h
theorem F12_in {nodes:List Int} {m:Nat} {l:List ByteArray} (hN:nodP nodes) (hne:nodes≠[]) (h1:1≤m) (hm:m≤32) (hT:tskP l):F12 (nodes,((m:Nat):Int),l)=some (asg nodes m l,0):=by
 have hl:nodes.length≤64:=nodP_len hN
 have hl0:nodes.length≠0:=fun h=>hne (List.length_eq_zero_iff.1 h)
 have hs:∀ s ∈ l,s.size≤maxLen:=fun s h=>Nat.le_trans (hT.size s h) (by decide)
 have f29:=F29_pts hN h1 hm
 have f25:=F25_ok hs
 rw [if_pos hT] at f25
 have hT1:=hT.1
 have f13:=F13_ok (t:=((l.length:Nat):Int)) (n:=((nodes.length:Nat):Int))
 rw [if_pos (by omega),Int.toNat_natCast,Int.toNat_natCast] at f13
 have z:(((nodes.length:Nat):Int)==0)=false:=by rw [beq_eq_false_iff_ne]; omega
 rw [F12_eq]
 simp -implicitDefEqProofs only [f29,f25,f13,nz0,z,eq_self,xs]
 refine ex_some (loop_ex (fun u:Int×(MI×List PU)=>∃ (i:Nat) (has:MI),u=(((i:Nat):Int),has,asgL (wkF nodes m) (bndN l.length nodes.length) (l.take i))∧i≤l.length∧∀ n,gI n has=((cntN (asgL (wkF nodes m) (bndN l.length nodes.length) (l.take i)) n:Nat):Int)) (fun u=>l.length - u.1.toNat) (fun r=>r=(asg nodes m l,0)) ?_ ((0:Int),[],[]) ⟨0,[],rfl,by omega,fun n=>rfl⟩)
 rintro _ ⟨i,has,rfl,hi,hg⟩
 by_cases h:i < l.length
 ·right
  have q1:((i:Nat):Int) < ((l.length:Nat):Int):=by omega
  have q2:(0:Int)≤(i:Int):=by omega
  have g:=List.getElem?_eq_getElem h
  have hsz:=hT.size _ (List.getElem_mem h)
  have f30:=F30_pts (key:=l[i]) hN hne h1 hm (by omega)
  have hlen:=asgL_len (wkF nodes m) (bndN l.length nodes.length) i (l.take i) (by rw [List.length_take]; omega)
  have e:asgL (wkF nodes m) (bndN l.length nodes.length) (l.take (i+1))=asgW (wkF nodes m l[i]) (bndN l.length nodes.length) (asgL (wkF nodes m) (bndN l.length nodes.length) (l.take i)) l[i]:=by
   rw [List.take_succ_eq_append_getElem h,asgL_snoc]
  obtain ⟨r,hr,has',rfl,hg'⟩:=inF_ok (R:=(Int×(MI×List PU)) ⊕ (List PU×Int)) (w:=wkF nodes m l[i]) (most:=bndN l.length nodes.length) (t:=l[i]) (Nat.le_trans (wk_len hN h1 _) (by decide)) (by omega) hg
  refine ⟨(((i+1:Nat):Int),has',asgL (wkF nodes m) (bndN l.length nodes.length) (l.take (i+1))),?_,⟨i+1,has',rfl,by omega,by rw [e]; exact hg'⟩,by simp only [Int.toNat_natCast]; omega⟩
  rw [e]
  generalize asgL (wkF nodes m) (bndN l.length nodes.length) (l.take i)=out at *
  dsimp only
  unfold inF gI at hr
  simp -implicitDefEqProofs only [q1,q2,g,f30,nz0,hr,w1 (show i≤9223372036854775806 by omega),eq_self,xs]
 ·left
  have q1:¬ ((i:Nat):Int) < ((l.length:Nat):Int):=by omega
  have:i=l.length:=by omega
  subst this
  rw [List.take_length]
  refine ⟨_,?_,rfl⟩
  simp -implicitDefEqProofs only [q1,eq_self,xs]
theorem sum_ite {l:List Int} (x:Int):(l.map (fun n=>if x=n then 1 else 0)).sum=l.count x:=by
 induction l with
 | nil=>rfl
 | cons a r ih =>
  rw [List.map_cons,List.sum_cons,ih,List.count_cons]
  by_cases h:x=a
  ·subst h; simp; omega
  ·have:(a==x)=false:=beq_eq_false_iff_ne.2 (fun q=>h q.symm)
   simp [h,this]
theorem sum_add {l:List Int} (f g:Int→Nat):(l.map (fun n=>f n+g n)).sum=(l.map f).sum+(l.map g).sum:=by
 induction l with
 | nil=>rfl
 | cons a r ih=>simp only [List.map_cons,List.sum_cons,ih]; omega
theorem sum_cnt {nodes:List Int} (hd:nodes.Nodup):∀ out:List PU,(nodes.map (cntN out)).sum≤out.length
 | []=>by
  have e:cntN []=fun _=>0:=by funext n; rfl
  rw [e]
  have:∀ l:List Int,(l.map (fun _=>0)).sum=0:=by
   intro l
   induction l with
   | nil=>rfl
   | cons a r ih=>rw [List.map_cons,List.sum_cons,ih]
  rw [this]; exact Nat.zero_le _
 | p::out=>by
  have e:cntN (p::out)=fun n=>cntN out n+(if p.2=n then 1 else 0):=by
   funext n
   unfold cntN
   rw [List.countP_cons]
   by_cases h:p.2=n
   ·simp [h]
   ·simp [h]
  have ih:=sum_cnt hd out
  have hc:=List.nodup_iff_count.1 hd p.2
  rw [e,sum_add,sum_ite,List.length_cons]
  omega
theorem sum_ge {nodes:List Int} {most:Nat} {f:Int→Nat} (h:∀ n ∈ nodes,most≤f n):most * nodes.length≤(nodes.map f).sum:=by
 induction nodes with
 | nil=>simp
 | cons a r ih =>
  have h1:=ih (fun n hn=>h n (List.mem_cons_of_mem _ hn))
  have h2:=h a (List.mem_cons_self ..)
  rw [List.map_cons,List.sum_cons,List.length_cons,Nat.mul_add,Nat.mul_one]
  omega
theorem room {nodes:List Int} (hd:nodes.Nodup) {most:Nat} {out:List PU} (h:out.length < most * nodes.length):∃ n ∈ nodes,cntN out n < most:=by
 apply Classical.byContradiction
 intro hn
 have:=sum_ge (nodes:=nodes) (most:=most) (f:=cntN out) (fun n hm=>by
  rcases Nat.lt_or_ge (cntN out n) most with q | q
  ·exact absurd ⟨n,hm,q⟩ hn
  ·exact q)
 have:=sum_cnt hd out
 omega
theorem asgW_some {w:List Int} {most:Nat} {out:List PU} (t:ByteArray) (h:∃ n ∈ w,cntN out n < most) :
  ∃ (k:Nat) (hk:k < w.length),asgW w most out t=out++[(t,w[k])]∧cntN out w[k] < most∧∀ j (hj:j < w.length),j < k→¬ cntN out w[j] < most:=by
 obtain ⟨n,hn,hc⟩:=h
 cases hf:w.find? (fun n=>decide (cntN out n < most)) with
 | none =>
  rw [List.find?_eq_none] at hf
  exact absurd (decide_eq_true hc) (hf n hn)
 | some x =>
  have ha:asgW w most out t=out++[(t,x)]:=by unfold asgW; rw [hf]
  rw [List.find?_eq_some_iff_getElem] at hf
  obtain ⟨h1,k,hk,rfl,h2⟩:=hf
  refine ⟨k,hk,ha,of_decide_eq_true h1,fun j hj hjk hh=>?_⟩
  have:=h2 j hjk
  rw [decide_eq_true hh] at this
  cases this
structure AS (nodes:List Int) (m most:Nat) (l:List ByteArray) (out:List PU):Prop where
 fst:out.map Prod.fst=l
 le:∀ n,cntN out n≤most
 mem:∀ p ∈ out,p.2 ∈ nodes
 ahead:∀ p ∈ out,∀ (i:Nat) (h:i < (wkF nodes m p.1).length),(∀ j (hj:j < (wkF nodes m p.1).length),j≤i→(wkF nodes m p.1)[j]≠p.2)→cntN out (wkF nodes m p.1)[i]=most
theorem AS.len {nodes:List Int} {m most:Nat} {l:List ByteArray} {out:List PU} (A:AS nodes m most l out):out.length=l.length:=by rw [← A.fst,List.length_map]
theorem asg_ok {nodes:List Int} (hN:nodP nodes) {m:Nat} (hm:1≤m) {most:Nat}:∀ (k:Nat) (l:List ByteArray),l.length=k→k≤most * nodes.length→AS nodes m most l (asgL (wkF nodes m) most l)
 | 0,l,h,_=>by
  rw [List.length_eq_zero_iff.1 h]
  exact ⟨rfl,fun n=>Nat.zero_le _,fun p hp=>by simp [asgL] at hp,fun p hp=>by simp [asgL] at hp⟩
 | k+1,l,h,hc=>by
  rcases List.eq_nil_or_concat l with rfl | ⟨l',t,rfl⟩
  ·simp at h
  rw [List.concat_eq_append] at h ⊢
  rw [List.length_append] at h
  have h':l'.length=k:=by simpa using h
  have A:=asg_ok (most:=most) hN hm k l' h' (by omega)
  have hlen:=A.len
  rw [asgL_snoc]
  generalize asgL (wkF nodes m) most l'=out at *
  obtain ⟨n,hn,hr⟩:=room hN.nodup (most:=most) (out:=out) (by omega)
  obtain ⟨i,hi,e,hlt,hno⟩:=asgW_some (w:=wkF nodes m t) t ⟨n,(mem_wlk hm).2 hn,hr⟩
  rw [e]
  refine ⟨?_,fun x=>?_,fun p hp=>?_,fun p hp j hj hne=>?_⟩
  ·rw [List.map_append,A.fst]; rfl
  ·rw [cntN_snoc]
   have:=A.le x
   by_cases hx:(wkF nodes m t)[i]=x
   ·rw [if_pos hx]; rw [hx] at hlt; omega
   ·rw [if_neg hx]; omega
  ·rcases List.mem_append.1 hp with hp | hp
   ·exact A.mem p hp
   ·rw [List.mem_singleton] at hp
    subst hp
    exact (mem_wlk hm).1 (List.getElem_mem hi)
  ·rw [cntN_snoc]
   rcases List.mem_append.1 hp with hp | hp
   ·have q:=A.ahead p hp j hj hne
    by_cases hx:(wkF nodes m t)[i]=(wkF nodes m p.1)[j]
    ·rw [hx] at hlt; omega
    ·simp only [if_neg hx]; omega
   ·rw [List.mem_singleton] at hp
    subst hp
    simp only at hj hne ⊢
    have hji:j < i:=by
     rcases Nat.lt_or_ge j i with q | q
     ·exact q
     ·exact absurd rfl (hne i hi q)
    have q:=hno j hj hji
    have q2:=A.le (wkF nodes m t)[j]
    have q3:(wkF nodes m t)[i]≠(wkF nodes m t)[j]:=fun hh=>by rw [hh] at hlt; exact q hlt
    rw [if_neg q3]; omega
theorem room_bnd {t n:Nat} (hn:1≤n):t≤bndN t n * n:=by
 have:=bndN_ge (t:=t) hn
 have e:4 * n * bndN t n=4 * (bndN t n * n):=by rw [Nat.mul_assoc,Nat.mul_comm n]
 omega
theorem asg_is {nodes:List Int} (hN:nodP nodes) (hne:nodes≠[]) {m:Nat} (hm:1≤m) (l:List ByteArray):AS nodes m (bndN l.length nodes.length) l (asg nodes m l) :=
 asg_ok hN hm l.length l rfl (room_bnd (by
  have:nodes.length≠0:=fun h=>hne (List.length_eq_zero_iff.1 h)
  omega))
theorem AS.okL {nodes:List Int} (hN:nodP nodes) {m most:Nat} {l:List ByteArray} {out:List PU} (A:AS nodes m most l out) (hT:tskP l):okL out:=⟨fun p hp=>hN.1 _ (A.mem p hp),by rw [A.fst]; exact hT⟩
theorem AS.sz {nodes:List Int} {m most:Nat} {l:List ByteArray} {out:List PU} (A:AS nodes m most l out) (hT:tskP l):∀ p ∈ out,p.1.size≤20:=fun p hp=>hT.size _ (by rw [← A.fst]; exact List.mem_map_of_mem hp)
end Go.Proofs.YtianfmdemgfgaaaDoor.VL
end
section
namespace Go.Proofs.YtianfmdemgfgaaaDoor.VL
open Go
set_option linter.unusedVariables false
set_option linter.unusedSectionVars false
set_option linter.unusedSimpArgs false
set_option maxRecDepth 100000
variable [Val]
structure LG (nodes:List Int) (sp:Int) (L:List ByteArray) (m:Nat):Prop where
 sp:sp=((m:Nat):Int)
 m1:1≤m
 m8:m≤8
 n1:1≤nodes.length
 n6:nodes.length≤6
 l20:L.length≤20
 N:nodP nodes
 T:tskP L
theorem light_cases {nodes:List Int} {sp:Int} {L:List ByteArray} (r:List PU×Int) (hs:∀ s ∈ L,s.size≤maxLen) :
  F10 (nodes,sp,L,r)=some false∨(F10 (nodes,sp,L,r)=some true∧∃ m,LG nodes sp L m):=by
 classical
 have f:=F10_ok (r:=r) (nodes:=nodes) (sp:=sp) hs
 by_cases h:(1≤nodes.length∧nodes.length≤6)∧L.length≤20∧nodP nodes∧tskP L∧1≤sp∧sp≤8
 ·rw [decide_eq_true h] at f
  obtain ⟨⟨h1,h2⟩,h3,h4,h5,h6,h7⟩:=h
  exact .inr ⟨f,sp.toNat,by omega,by omega,by omega,h1,h2,h3,h4,h5⟩
 ·rw [decide_eq_false h] at f
  exact .inl f
theorem LG.ne {nodes:List Int} {sp:Int} {L:List ByteArray} {m:Nat} (G:LG nodes sp L m):nodes≠[]:=fun h=>by have:=G.n1; rw [h] at this; simp at this
theorem LG.f12 {nodes:List Int} {sp:Int} {L:List ByteArray} {m:Nat} (G:LG nodes sp L m):F12 (nodes,sp,L)=some (asg nodes m L,0):=by
 rw [G.sp]; exact F12_in G.N G.ne G.m1 (by have:=G.m8; omega) G.T
theorem LG.f14 {nodes:List Int} {sp:Int} {L:List ByteArray} {m:Nat} (G:LG nodes sp L m):F14 (nodes,sp)=some (pts nodes m):=by
 rw [G.sp]; exact F14_ok G.N G.m1 (by have:=G.m8; omega)
theorem LG.as {nodes:List Int} {sp:Int} {L:List ByteArray} {m:Nat} (G:LG nodes sp L m):AS nodes m (bndN L.length nodes.length) L (asg nodes m L):=asg_is G.N G.ne G.m1 L
end Go.Proofs.YtianfmdemgfgaaaDoor.VL
end
section
namespace Go.Proofs.YtianfmdemgfgaaaDoor.VL
open Go
set_option linter.unusedVariables false
set_option linter.unusedSectionVars false
set_option linter.unusedSimpArgs false
set_option maxRecDepth 100000
variable [Val]
theorem lkn_mem {l:List PU} (hs:nmO.Srt Prod.fst l) {p:PU} (hp:p ∈ l):lkn Prod.fst l p.1=some p:=by
 rw [lkn_look]; exact KOrd.look_mem hs hp
end Go.Proofs.YtianfmdemgfgaaaDoor.VL
end
section
namespace Go.Proofs.YtianfmdemgfgaaaDoor.VL
open Go
set_option maxRecDepth 100000
set_option linter.unusedVariables false
set_option linter.unusedSectionVars false
variable [Val]
noncomputable section


def xf9t:FX:=⟨(.seq (.reg [(xi 2 (.box 0 5 (.t 0))),(xi 4 (.mov (.c (.v (.bool false)))))]) (.seq (.cut ⟨[4,13,14,15,16,17,18,19,20,21],[],⟨[],[],[]⟩⟩ (.seq (.cutN ⟨[13,14,15,16,17,18,19,20],[],⟨[],[(20,.v .b)],[]⟩⟩ (.reg [(xi 13 (.load true 5 (.t 2))),(xi 14 (.call 1 10 [(.t 13)])),(xi 15 (.un .not (.t 14))),(xm 16 15),(xg 17 (.mov (.t 1)) 16 false),(xg 18 (.lenS (.t 17)) 16 false),(xg 19 (.bin .gtr (.t 18) (.c (.v (.int .i64 30)))) 16 false),(xi 20 (.pick (.t 16) (.c (.v (.bool true))) (.t 19)))])) (.cond (.t 20) (.seq (.reg [(xi 21 (.call 2 11 [])),(xm 4 21)]) .ret) .skip))) (.seq (.reg [(xi 23 (.fad 0 (.t 2))),(xi 24 (.load false 1 (.t 23))),(xi 25 (.fad 1 (.t 2))),(xi 26 (.load false 1 (.t 25))),(xi 27 (.fad 2 (.t 2))),(xi 28 (.load false 1 (.t 27))),(xi 29 (.call 3 12 [(.t 24),(.t 26),(.t 28)])),(xm 22 29),(xi 30 (.ext (.t 22) 0)),(xi 31 (.ext (.t 22) 1)),(xm 5 30),(xm 6 31)]) (.seq (.dr [(5,3),(5,9),(8,3)] [(xi 33 (.bsl 1 (.v (.int .i64 0)) 0 [])),(xi 34 (.fad 0 (.t 2))),(xi 35 (.load false 1 (.t 34))),⟨⟨(some 36),(.app 4 1 8 (.v (.int .i64 0)) (.t 33) (.t 35)),none⟩,(.i .i64),[],[]⟩,(xi 37 (.fad 1 (.t 2))),(xi 38 (.load false 1 (.t 37))),⟨⟨(some 39),(.bsl 1 (.v (.string ⟨#[]⟩)) 0 []),none⟩,.b,[],[]⟩,(xi 40 (.fad 2 (.t 2))),(xi 41 (.load false 1 (.t 40))),⟨⟨(some 42),(.app 5 1 16 (.v (.string ⟨#[]⟩)) (.t 39) (.t 41)),none⟩,.s,[],[]⟩,⟨⟨(some 43),(.callG 6 12 [(.t 36),(.t 38),(.t 42)]),none⟩,.b,[],[4,5]⟩,(xm 32 43),(xi 44 (.ext (.t 32) 0)),(xi 45 (.ext (.t 32) 1)),(xm 7 44),(xm 8 45)]) (.seq (.cut ⟨[4,46,47,48,49,50,51,52,53,54,55,56,57],[],⟨[],[],[]⟩⟩ (.seq (.cutN ⟨[46,47,48,49,50,51,52,53,54,55,56,57],[],⟨[],[(57,.v .b)],[]⟩⟩ (.reg [(xm 46 6),(xi 47 (.bin .neq (.t 46) (.c (.v (.int .i64 0))))),(xm 48 47),(xg 49 (.mov (.t 8)) 48 false),(xg 50 (.bin .neq (.t 49) (.c (.v (.int .i64 0)))) 48 false),(xi 51 (.pick (.t 48) (.c (.v (.bool true))) (.t 50))),(xm 52 51),(xg 53 (.mov (.t 5)) 52 false),(xg 54 (.mov (.t 7)) 52 false),(xg 55 (.call 7 17 [(.t 53),(.t 54)]) 52 false),(xg 56 (.un .not (.t 55)) 52 false),(xi 57 (.pick (.t 52) (.c (.v (.bool true))) (.t 56)))])) (.cond (.t 57) (.seq (.reg [(xi 4 (.mov (.c (.v (.bool false)))))]) .ret) .skip))) (.seq (.reg [(xm 59 5),(xm 60 1),(xi 61 (.call 8 22 [(.t 59),(.t 60)])),(xm 58 61),(xi 62 (.ext (.t 58) 0)),(xi 63 (.ext (.t 58) 1)),(xm 9 62),(xm 10 63)]) (.seq (.reg [(xi 11 (.mov (.c (.v (.bool false)))))]) (.seq (.cutN ⟨[11,12,64,65,66,67,68,69,70,71,72,73,74,75,76,77,78,79,80],[],⟨[],[(11,.v .b)],[]⟩⟩ (.seq (.reg [(xi 12 (.mov (.c (.v (.int .i64 0)))))]) (.blk 0 (.loop ⟨[11,12,64,65,66,67,68,69,70,71,72,73,74,75,76,77,78,79,80],[],⟨[],[(11,.v .b),(12,.v (.i .i64))],[]⟩⟩ (.seq (.seq (.reg [(xm 64 12),(xi 65 (.fad 2 (.t 2))),(xi 66 (.load false 1 (.t 65))),(xi 67 (.len (.t 66))),(xi 68 (.bin .lss (.t 64) (.t 67)))]) (.cond (.t 68) .skip (.exit 0))) (.seq (.cutN ⟨[11,71,72,73,74,75,76,77,78,79,80],[],⟨[],[(11,.v .b)],[]⟩⟩ (.blk 1 (.reg [(xm 71 11),(xm 72 71),(xg 73 (.fad 2 (.t 2)) 72 false),(xg 74 (.load false 1 (.t 73)) 72 false),(xg 75 (.mov (.t 12)) 72 false),(xg 76 (.iad 1 (.t 74) (.t 75)) 72 false),(xg 77 (.load false 1 (.t 76)) 72 false),(xg 78 (.mov (.t 1)) 72 false),(xg 79 (.bin .eql (.t 77) (.t 78)) 72 false),(xi 80 (.pick (.t 72) (.c (.v (.bool true))) (.t 79))),(xm 11 80)]))) (.reg [(xm 69 12),(xi 70 (.bin .add (.t 69) (.c (.v (.int .i64 1))))),(xm 12 70)]))))))) (.seq (.reg [(xm 81 10),(xi 82 (.bin .eql (.t 81) (.c (.v (.int .i64 0))))),(xm 83 11),(xi 84 (.binB false (.t 82) (.t 83))),(xm 85 84),(xg 86 (.mov (.t 11)) 85 true),(xg 87 (.mov (.t 86)) 85 true),(xg 88 (.mov (.t 9)) 87 false),(xg 89 (.bin .eql (.t 88) (.c (.v (.int .i64 0)))) 87 false),(xg 90 (.mov (.t 89)) 87 false),(xg 91 (.mov (.t 10)) 90 true),(xg 92 (.bin .eql (.t 91) (.c (.v (.int .i64 6)))) 90 true),(xg 93 (.pick (.t 90) (.t 92) (.c (.v (.bool false)))) 87 false),(xg 94 (.pick (.t 87) (.c (.v (.bool true))) (.t 93)) 85 true),(xi 95 (.pick (.t 85) (.t 94) (.c (.v (.bool false))))),(xm 96 95),(xg 97 (.call 9 11 []) 96 true),(xi 98 (.pick (.t 96) (.t 97) (.c (.v (.bool false))))),(xm 4 98)]) .ret))))))))),[2,14,21,29,36,42,43,55,61,97],99,[.t 4],11⟩
theorem xf9t_ok:xf9t.ok Tryd.prog 9:=⟨_,_,Tryd.func9,rfl,by kernel_rfl,rfl,by kernel_rfl,rfl,by kernel_rfl,by kernel_rfl⟩
def tb9t:List PE:=[pe10,pe11,pe12,pe17,pe22]
theorem tb9t_ok:PEsOk Tryd.prog tb9t:=⟨pe10_ok,pe11_ok,pe12_ok,pe17_ok,pe22_ok,trivial⟩
def ex9t:List EX:=[]
theorem ex9t_ok:EXsOk Tryd.prog ex9t:=trivial
def in9t:List IN:=[]
theorem in9t_ok:INsOk Tryd.prog in9t:=trivial
def F9t:DT ((.co (.v (.p (.sl (.i .i64)) (.p (.i .i64) (.p (.sl .s) (.p (.sl (.p .s (.i .i64))) (.i .i64)))))) (.co (.v .s) .no)):Fm).den→Option (DT (.v .b:Fm).den):=pureT tb9t ex9t in9t 9 xf9t _ _ []
def pe9t:PE:=⟨9,(.co (.v (.p (.sl (.i .i64)) (.p (.i .i64) (.p (.sl .s) (.p (.sl (.p .s (.i .i64))) (.i .i64)))))) (.co (.v .s) .no)),.v .b,F9t⟩
theorem pe9t_ok:pe9t.ok Tryd.prog:=pe_of hm tb9t_ok ex9t_ok in9t_ok xf9t_ok (by kernel_rfl) (fun _=>rfl)
end
end Go.Proofs.YtianfmdemgfgaaaDoor.VL
end
section
namespace Go.Proofs.YtianfmdemgfgaaaDoor.VL
open Go
set_option maxRecDepth 100000
set_option linter.unusedVariables false
set_option linter.unusedSectionVars false
variable [Val]
theorem F9t_eq (v:(((List Int)×(Int×((List ByteArray)×((List (ByteArray×Int))×Int))))×ByteArray)):F9t v=(joinX (Option.bind (Option.bind (F10 v.1) (fun (v0:Bool)=>(cond (!v0) (some true) (some (decide ((((ByteArray.size v.2):Nat):Int) > (30:Int))))))) (fun (v1:Bool)=>(cond v1 (Option.bind (F11 ()) (fun (v2:Bool)=>(some (.inr v2)))) (some (.inl ()))))) (fun (v3:Unit)=>(Option.bind (F12 (v.1.1,v.1.2.1,v.1.2.2.1)) (fun (v4:((List (ByteArray×Int))×Int))=>(cond ((decide ((((v.1.1.length:Nat):Int) * (8:Int))≤(70368744177664:Int)))&&(decide (((v.1.1.length:Nat):Int)≤(70368744177664:Int)))) (cond (List.isEmpty v.1.1) (cond ((decide ((((v.1.2.2.1.length:Nat):Int) * (16:Int))≤(70368744177664:Int)))&&(decide (((v.1.2.2.1.length:Nat):Int)≤(70368744177664:Int)))) (cond (List.isEmpty v.1.2.2.1) (Option.bind (F12 ([],v.1.2.1,[])) (fun (v5:((List (ByteArray×Int))×Int))=>(joinX (Option.bind (cond (v4.2 != (0:Int)) (some true) (cond (v5.2 != (0:Int)) (some true) (Option.bind (F17 (v4.1,v5.1)) (fun (v6:Bool)=>(some (!v6)))))) (fun (v7:Bool)=>(cond v7 (some (.inr false)) (some (.inl ()))))) (fun (v8:Unit)=>(Option.bind (F22 (v4.1,v.2)) (fun (v9:(Int×Int))=>(Option.bind (loopX (fun (v10:(Bool×Int))=>(cond (decide (v10.2 < ((v.1.2.2.1.length:Nat):Int))) (Option.bind (cond v10.1 (some true) (cond (decide ((0:Int)≤v10.2)) (Option.bind v.1.2.2.1[(Int.toNat v10.2)]? (fun (v11:ByteArray)=>(some ((ByteArray.toList v11)==(ByteArray.toList v.2))))) none)) (fun (v12:Bool)=>(some (.inl (v12,(IntKind.wrap IntKind.i64 (v10.2+(1:Int)))))))) (some (.inr v10.1)))) (false,(0:Int))) (fun (v13:Bool)=>(cond ((v9.2==(0:Int))==v13) (cond v13 (Option.bind (F11 ()) (fun (v14:Bool)=>(some v14))) (cond (v9.1==(0:Int)) (cond (v9.2==(6:Int)) (Option.bind (F11 ()) (fun (v15:Bool)=>(some v15))) (some false)) (some false))) (some false)))))))))) (cond (decide ((0+v.1.2.2.1.length)≤v.1.2.2.1.length)) (Option.bind (F12 ([],v.1.2.1,(List.take v.1.2.2.1.length v.1.2.2.1))) (fun (v16:((List (ByteArray×Int))×Int))=>(joinX (Option.bind (cond (v4.2 != (0:Int)) (some true) (cond (v16.2 != (0:Int)) (some true) (Option.bind (F17 (v4.1,v16.1)) (fun (v17:Bool)=>(some (!v17)))))) (fun (v18:Bool)=>(cond v18 (some (.inr false)) (some (.inl ()))))) (fun (v19:Unit)=>(Option.bind (F22 (v4.1,v.2)) (fun (v20:(Int×Int))=>(Option.bind (loopX (fun (v21:(Bool×Int))=>(cond (decide (v21.2 < ((v.1.2.2.1.length:Nat):Int))) (Option.bind (cond v21.1 (some true) (cond (decide ((0:Int)≤v21.2)) (Option.bind v.1.2.2.1[(Int.toNat v21.2)]? (fun (v22:ByteArray)=>(some ((ByteArray.toList v22)==(ByteArray.toList v.2))))) none)) (fun (v23:Bool)=>(some (.inl (v23,(IntKind.wrap IntKind.i64 (v21.2+(1:Int)))))))) (some (.inr v21.1)))) (false,(0:Int))) (fun (v24:Bool)=>(cond ((v20.2==(0:Int))==v24) (cond v24 (Option.bind (F11 ()) (fun (v25:Bool)=>(some v25))) (cond (v20.1==(0:Int)) (cond (v20.2==(6:Int)) (Option.bind (F11 ()) (fun (v26:Bool)=>(some v26))) (some false)) (some false))) (some false)))))))))) none)) none) (cond ((decide ((((v.1.2.2.1.length:Nat):Int) * (16:Int))≤(70368744177664:Int)))&&(decide (((v.1.2.2.1.length:Nat):Int)≤(70368744177664:Int)))) (cond (List.isEmpty v.1.2.2.1) (cond (decide ((0+v.1.1.length)≤v.1.1.length)) (Option.bind (F12 ((List.take v.1.1.length v.1.1),v.1.2.1,[])) (fun (v27:((List (ByteArray×Int))×Int))=>(joinX (Option.bind (cond (v4.2 != (0:Int)) (some true) (cond (v27.2 != (0:Int)) (some true) (Option.bind (F17 (v4.1,v27.1)) (fun (v28:Bool)=>(some (!v28)))))) (fun (v29:Bool)=>(cond v29 (some (.inr false)) (some (.inl ()))))) (fun (v30:Unit)=>(Option.bind (F22 (v4.1,v.2)) (fun (v31:(Int×Int))=>(Option.bind (loopX (fun (v32:(Bool×Int))=>(cond (decide (v32.2 < ((v.1.2.2.1.length:Nat):Int))) (Option.bind (cond v32.1 (some true) (cond (decide ((0:Int)≤v32.2)) (Option.bind v.1.2.2.1[(Int.toNat v32.2)]? (fun (v33:ByteArray)=>(some ((ByteArray.toList v33)==(ByteArray.toList v.2))))) none)) (fun (v34:Bool)=>(some (.inl (v34,(IntKind.wrap IntKind.i64 (v32.2+(1:Int)))))))) (some (.inr v32.1)))) (false,(0:Int))) (fun (v35:Bool)=>(cond ((v31.2==(0:Int))==v35) (cond v35 (Option.bind (F11 ()) (fun (v36:Bool)=>(some v36))) (cond (v31.1==(0:Int)) (cond (v31.2==(6:Int)) (Option.bind (F11 ()) (fun (v37:Bool)=>(some v37))) (some false)) (some false))) (some false)))))))))) none) (cond (decide ((0+v.1.1.length)≤v.1.1.length)) (cond (decide ((0+v.1.2.2.1.length)≤v.1.2.2.1.length)) (Option.bind (F12 ((List.take v.1.1.length v.1.1),v.1.2.1,(List.take v.1.2.2.1.length v.1.2.2.1))) (fun (v38:((List (ByteArray×Int))×Int))=>(joinX (Option.bind (cond (v4.2 != (0:Int)) (some true) (cond (v38.2 != (0:Int)) (some true) (Option.bind (F17 (v4.1,v38.1)) (fun (v39:Bool)=>(some (!v39)))))) (fun (v40:Bool)=>(cond v40 (some (.inr false)) (some (.inl ()))))) (fun (v41:Unit)=>(Option.bind (F22 (v4.1,v.2)) (fun (v42:(Int×Int))=>(Option.bind (loopX (fun (v43:(Bool×Int))=>(cond (decide (v43.2 < ((v.1.2.2.1.length:Nat):Int))) (Option.bind (cond v43.1 (some true) (cond (decide ((0:Int)≤v43.2)) (Option.bind v.1.2.2.1[(Int.toNat v43.2)]? (fun (v44:ByteArray)=>(some ((ByteArray.toList v44)==(ByteArray.toList v.2))))) none)) (fun (v45:Bool)=>(some (.inl (v45,(IntKind.wrap IntKind.i64 (v43.2+(1:Int)))))))) (some (.inr v43.1)))) (false,(0:Int))) (fun (v46:Bool)=>(cond ((v42.2==(0:Int))==v46) (cond v46 (Option.bind (F11 ()) (fun (v47:Bool)=>(some v47))) (cond (v42.1==(0:Int)) (cond (v42.2==(6:Int)) (Option.bind (F11 ()) (fun (v48:Bool)=>(some v48))) (some false)) (some false))) (some false)))))))))) none) none)) none)) none))))):=by kernel_rfl
end Go.Proofs.YtianfmdemgfgaaaDoor.VL
end
section
namespace Go.Proofs.YtianfmdemgfgaaaDoor.VL
open Go
set_option linter.unusedVariables false
set_option linter.unusedSectionVars false
set_option linter.unusedSimpArgs false
set_option maxRecDepth 100000
variable [Val]
def thrB (nm:ByteArray) (L:List ByteArray):Bool:=L.any fun s=>s.toList==nm.toList
noncomputable def thrF (L:List ByteArray) (nm:ByteArray):Bool×Int→Option ((Bool×Int) ⊕ Bool):=fun (v43:(Bool×Int))=>(cond (decide (v43.2 < ((L.length:Nat):Int))) (Option.bind (cond v43.1 (some true) (cond (decide ((0:Int)≤v43.2)) (Option.bind L[(Int.toNat v43.2)]? (fun (v44:ByteArray)=>(some ((ByteArray.toList v44)==(ByteArray.toList nm))))) none)) (fun (v45:Bool)=>(some (.inl (v45,(IntKind.wrap IntKind.i64 (v43.2+(1:Int)))))))) (some (.inr v43.1)))
theorem thrF_ok {L:List ByteArray} (nm:ByteArray) (hl:L.length≤1000):loopX (thrF L nm) (false,0)=some (thrB nm L):=by
 rw [loop_detE (s0:=((false,0):Bool×Int)) L.length (fun i=>(thrB nm (L.take i),((i:Nat):Int))) (thrB nm L) rfl]
 ·have q:¬ ((L.length:Nat):Int) < ((L.length:Nat):Int):=by omega
  unfold thrF
  simp -implicitDefEqProofs only [q,eq_self,xs]
 ·intro i hi
  have q1:((i:Nat):Int) < ((L.length:Nat):Int):=by omega
  have q2:(0:Int)≤(i:Int):=by omega
  have g:=List.getElem?_eq_getElem hi
  have e:L.take (i+1)=L.take i++[L[i]]:=by rw [List.take_add_one,g]; rfl
  have e2:thrB nm (L.take (i+1))=(thrB nm (L.take i) || (L[i].toList==nm.toList)):=by
   rw [e]; unfold thrB; rw [List.any_append]; simp
  rw [e2]
  unfold thrF
  simp -implicitDefEqProofs only [q1,q2,g,w1 (show i≤9223372036854775806 by omega),eq_self,xs]
  cases thrB nm (L.take i)<;>rfl
theorem thrB_mem {nm:ByteArray} {L:List ByteArray}:thrB nm L=true ↔ nm ∈ L:=by
 unfold thrB
 rw [List.any_eq_true]
 constructor
 ·rintro ⟨s,hs,h⟩
  have:=eqN_eq h
  rw [← this]; exact hs
 ·intro h; exact ⟨nm,h,beq_self_eq_true _⟩
theorem F9t_ok {nodes:List Int} {sp:Int} {L:List ByteArray} {r:List PU×Int} {nm:ByteArray} (hs:∀ s ∈ L,s.size≤maxLen) (hn:nm.size≤maxLen):F9t ((nodes,sp,L,r),nm)=some true:=by
 have f11:F11 ()=some true:=rfl
 rw [F9t_eq]
 rcases light_cases (nodes:=nodes) (sp:=sp) r hs with h | ⟨h,m,G⟩
 ·simp -implicitDefEqProofs only [h,f11,eq_self,xs]
 by_cases h30:((nm.size:Nat):Int) > 30
 ·simp -implicitDefEqProofs only [h,h30,f11,eq_self,xs]
 have A:=G.as
 have f12:=G.f12
 have n1:=G.n1
 have n6:=G.n6
 have h20:=G.l20
 have hl:=A.len
 have ok:=A.okL G.N G.T
 have hsz:=A.sz G.T
 have ne:=G.ne
 have f17:=F17_ok (a:=asg nodes m L) (b:=asg nodes m L) (by omega)
 rw [decide_eq_true rfl] at f17
 have f22:=F22_ok (l:=asg nodes m L) (by omega) (fun p hp=>Nat.le_trans (hsz p hp) (by decide)) nm
 rw [if_pos ok] at f22
 have hth:=thrF_ok (L:=L) nm (by omega)
 have z1:((nodes.length:Nat):Int) * 8≤70368744177664:=by omega
 have z2:((nodes.length:Nat):Int)≤70368744177664:=by omega
 have z3:((L.length:Nat):Int) * 16≤70368744177664:=by omega
 have z4:((L.length:Nat):Int)≤70368744177664:=by omega
 have e1:nodes.isEmpty=false:=by cases nodes with | nil=>exact absurd rfl ne | cons a l=>rfl
 have fin:∀ R:Option Bool,(match lkn Prod.fst (asg nodes m L) nm with | some p=>(p.2,(0:Int)) | none=>(0,6))=(match lkn Prod.fst (asg nodes m L) nm with | some p=>(p.2,(0:Int)) | none=>(0,6)):=fun _=>rfl
 have key:(∃ p:PU,lkn Prod.fst (asg nodes m L) nm=some p∧thrB nm L=true)∨(lkn Prod.fst (asg nodes m L) nm=none∧thrB nm L=false):=by
  cases hk:lkn Prod.fst (asg nodes m L) nm with
  | some p =>
   rw [lkn_look] at hk
   obtain ⟨h1,h2⟩:=KOrd.look_some hk
   refine .inl ⟨p,rfl,thrB_mem.2 ?_⟩
   rw [← A.fst,← h2]
   exact List.mem_map_of_mem h1
  | none =>
   refine .inr ⟨rfl,?_⟩
   rw [Bool.eq_false_iff]
   intro q
   have q:=thrB_mem.1 q
   rw [← A.fst] at q
   obtain ⟨p,hp,e⟩:=List.mem_map.1 q
   have:=lkn_mem ok.srt hp
   rw [e,hk] at this
   cases this
 have hz:((0:Int)==0)=true:=rfl
 have hz6:((6:Int)==0)=false:=rfl
 have hz66:((6:Int)==6)=true:=rfl
 have b1:(true==true)=true:=rfl
 have b2:(false==false)=true:=rfl
 have k1:0+nodes.length≤nodes.length:=by omega
 have k2:0+L.length≤L.length:=by omega
 by_cases hL:L=[]
 ·have e2:L.isEmpty=true:=by rw [hL]; rfl
  have f12':F12 (nodes,sp,([]:List ByteArray))=some (asg nodes m L,0):=by
   have q:=f12
   rw [hL] at q ⊢
   exact q
  rcases key with ⟨p,hp,ht⟩ | ⟨hp,ht⟩
  ·rw [hp] at f22
   rw [ht] at hth
   unfold thrF at hth
   simp -implicitDefEqProofs only [h,h30,f12,z1,z2,z3,z4,e1,e2,f12',nz0,f17,f22,hth,hz,b1,f11,eq_self,xs]
  ·rw [hp] at f22
   rw [ht] at hth
   unfold thrF at hth
   simp -implicitDefEqProofs only [h,h30,f12,z1,z2,z3,z4,e1,e2,f12',nz0,f17,f22,hth,hz,hz6,hz66,b2,f11,eq_self,xs]
 ·have e2:L.isEmpty=false:=by cases L with | nil=>exact absurd rfl hL | cons a l=>rfl
  rcases key with ⟨p,hp,ht⟩ | ⟨hp,ht⟩
  ·rw [hp] at f22
   rw [ht] at hth
   unfold thrF at hth
   simp -implicitDefEqProofs only [h,h30,f12,z1,z2,z3,z4,e1,e2,nz0,f17,f22,hth,hz,b1,f11,eq_self,xs]
  ·rw [hp] at f22
   rw [ht] at hth
   unfold thrF at hth
   simp -implicitDefEqProofs only [h,h30,f12,z1,z2,z3,z4,e1,e2,nz0,f17,f22,hth,hz,hz6,hz66,b2,f11,eq_self,xs]
end Go.Proofs.YtianfmdemgfgaaaDoor.VL
end
