import Derived.Test.YtbgnmndgpaaidaaDoorW1Ya
import Derived.Test.YtbgnmndgpaaidaaDoorW1Wc
import Derived.Test.YtbgnmndgpaaidaaDoorW1Xr
import Derived.Laws.RangeString
import Derived.Laws.RangeAny
section
namespace Go.Proofs.YtbgnmndgpaaidaaDoor.VL
open Go
set_option maxRecDepth 100000
set_option linter.unusedSectionVars false
variable [Val]
def clones:List (Nat×Nat×Nat×PV):=[]
theorem clones_ok:CalleeOk Tryd.prog (cloneOv clones):=cloneOv_ok hm (l:=clones) trivial
abbrev fz:List Nat:=[12]
noncomputable abbrev run0:=runR (cloneOv clones) fz tab 1000 50
def itoa (n:Nat):ByteArray:=cond (Nat.blt n 10) ⟨#[UInt8.ofNat (48+n)]⟩ ⟨#[UInt8.ofNat (48+n / 10),UInt8.ofNat (48+n % 10)]⟩
theorem itoa_run:((List.range 64).map fun n:Nat=>run0 31 [vi n])=(List.range 64).map fun n:Nat=>.ok (.v (.string (itoa n))):=by kernel_rfl
theorem itoa_ok (n:Nat) (h:n < 64):VPure Tryd.prog 31 [vi n] (.v (.string (itoa n))):=by
 have:=congrArg (fun l=>l[n]?) itoa_run
 simp only [List.getElem?_map,List.getElem?_range h,Option.map_some,Option.some.injEq] at this
 exact vpure_runR hm clones_ok fz tab_ok 1000 50 this
def F31:Int→Option ByteArray:=fun n=>cond (decide (0≤n)&&decide (n < 64)) (some (itoa n.toNat)) none
def pe31:PE:=⟨31,.co (.v (.i .i64)) .no,.v .s,F31⟩
theorem f31_ok (v:Int) (y:ByteArray) (h:F31 v=some y):VPure Tryd.prog 31 [vi v] (.v (.string y)):=by
 obtain ⟨hg,hk⟩:=guard_some h
 simp only [Bool.and_eq_true,decide_eq_true_eq] at hg
 cases hk
 obtain ⟨n,rfl⟩:∃ n:Nat,v=n:=⟨v.toNat,by omega⟩
 exact itoa_ok n (by omega)
theorem pe31_ok:pe31.ok Tryd.prog:=⟨rfl,rfl,rfl,rfl,rfl,fun v y h=>f31_ok v y h⟩
theorem awake_run:run0 11 []=.ok (vb true):=by kernel_rfl
theorem awake_ok:VPure Tryd.prog 11 [] (vb true):=vpure_runR hm clones_ok fz tab_ok 1000 50 awake_run
def F11:Unit→Option Bool:=fun _=>some true
def pe11:PE:=⟨11,.no,.v .b,F11⟩
theorem pe11_ok:pe11.ok Tryd.prog:=⟨rfl,rfl,rfl,rfl,rfl,fun v y h=>by cases h; exact awake_ok⟩
end Go.Proofs.YtbgnmndgpaaidaaDoor.VL
end
section
namespace Go.Proofs.YtbgnmndgpaaidaaDoor.VL
open Go
set_option maxRecDepth 100000
set_option linter.unusedVariables false
set_option linter.unusedSectionVars false
variable [Val]
noncomputable section
abbrev tz1:TT:=(.p (.i .u64) (.p (.i .i64) (.i .i64)))
abbrev xi (n:Nat) (o:IOp):XO:=⟨⟨some n,o,none⟩,.b,[],[]⟩
abbrev xg (n:Nat) (o:IOp) (m:Nat) (b:Bool):XO:=⟨⟨some n,o,some (m,b)⟩,.b,[],[]⟩
abbrev xz (o:IOp):XO:=⟨⟨none,o,none⟩,.b,[],[]⟩
def xf9:FX:=⟨(.seq (.reg [(xi 2 (.mov (.c (.sl true []))))]) (.seq (.seq (.reg [(xi 3 (.mov (.t 0))),(xi 4 (.len (.t 3))),(xi 5 (.bin .gtr (.t 4) (.c (.v (.int .i64 65)))))]) (.cond (.t 5) (.seq (.reg [(xi 6 (.mov (.t 0))),(xi 7 (.slc 1 (.t 6) none (some (.c (.v (.int .i64 65)))) none)),(xi 2 (.mov (.t 7)))]) .ret) .skip)) (.seq (.reg [(xi 8 (.mov (.t 0))),(xi 2 (.mov (.t 8)))]) .ret))),[],9,[.t 2],1⟩
theorem xf9_ok:xf9.ok Tryd.prog 9:=⟨_,_,Tryd.func9,rfl,by kernel_rfl,rfl,by kernel_rfl,rfl,by kernel_rfl,by kernel_rfl⟩
def tb9:List PE:=[]
theorem tb9_ok:PEsOk Tryd.prog tb9:=trivial
def ex9:List EX:=[]
theorem ex9_ok:EXsOk Tryd.prog ex9:=trivial
def in9:List IN:=[]
theorem in9_ok:INsOk Tryd.prog in9:=trivial
def F9:DT ((.co (.v (.sl (.i .i64))) .no):Fm).den→Option (DT (.v (.sl (.i .i64)):Fm).den):=pureT tb9 ex9 in9 0 xf9 _ _ []
def pe9:PE:=⟨9,(.co (.v (.sl (.i .i64))) .no),.v (.sl (.i .i64)),F9⟩
theorem pe9_ok:pe9.ok Tryd.prog:=pe_of hm tb9_ok ex9_ok in9_ok xf9_ok (by kernel_rfl) (fun _=>rfl)
def xf27:FX:=⟨(.seq (.reg [(xi 4 (.mov (.c (.v (.int .i64 0)))))]) (.seq (.reg [(xi 5 (.mov (.c (.v (.int .i64 0)))))]) (.seq (.seq (.reg [(xi 6 (.mov (.c (.v (.int .i64 0)))))]) (.blk 0 (.loop ⟨[5,6,7,8,9,10,11,12,13,14,15,16,17,18,19,20],[],⟨[],[(5,.v (.i .i64)),(6,.v (.i .i64))],[]⟩⟩ (.seq (.seq (.reg [(xi 7 (.mov (.t 6))),(xi 8 (.mov (.t 0))),(xi 9 (.len (.t 8))),(xi 10 (.bin .lss (.t 7) (.t 9)))]) (.cond (.t 10) .skip (.exit 0))) (.seq (.cutN ⟨[5,13,14,15,16,17,18,19,20],[],⟨[],[(5,.v (.i .i64))],[]⟩⟩ (.blk 1 (.seq (.reg [(xi 13 (.mov (.t 0))),(xi 14 (.mov (.t 6))),(xi 15 (.iad 1 (.t 13) (.t 14))),(xi 16 (.load false 1 (.t 15))),(xi 17 (.mov (.t 1))),(xi 18 (.bin .eql (.t 16) (.t 17)))]) (.cond (.t 18) (.reg [(xi 19 (.mov (.t 5))),(xi 20 (.bin .add (.t 19) (.c (.v (.int .i64 1))))),(xi 5 (.mov (.t 20)))]) .skip)))) (.reg [(xi 11 (.mov (.t 6))),(xi 12 (.bin .add (.t 11) (.c (.v (.int .i64 1))))),(xi 6 (.mov (.t 12)))])))))) (.seq (.reg [(xi 21 (.mov (.t 5))),(xi 4 (.mov (.t 21)))]) .ret)))),[],22,[.t 4],1⟩
theorem xf27_ok:xf27.ok Tryd.prog 27:=⟨_,_,Tryd.func27,rfl,by kernel_rfl,rfl,by kernel_rfl,rfl,by kernel_rfl,by kernel_rfl⟩
def tb27:List PE:=[]
theorem tb27_ok:PEsOk Tryd.prog tb27:=trivial
def ex27:List EX:=[]
theorem ex27_ok:EXsOk Tryd.prog ex27:=trivial
def in27:List IN:=[]
theorem in27_ok:INsOk Tryd.prog in27:=trivial
def F27:DT ((.co (.v (.sl (.i .i64))) (.co (.v (.i .i64)) .no)):Fm).den→Option (DT (.v (.i .i64):Fm).den):=pureT tb27 ex27 in27 0 xf27 _ _ []
def pe27:PE:=⟨27,(.co (.v (.sl (.i .i64))) (.co (.v (.i .i64)) .no)),.v (.i .i64),F27⟩
theorem pe27_ok:pe27.ok Tryd.prog:=pe_of hm tb27_ok ex27_ok in27_ok xf27_ok (by kernel_rfl) (fun _=>rfl)
def xf28:FX:=⟨(.seq (.reg [(xi 2 (.mov (.c (.v (.bool false)))))]) (.seq (.seq (.reg [(xi 3 (.mov (.c (.v (.int .i64 0)))))]) (.blk 0 (.loop ⟨[2,3,4,5,6,7,8,9,10,11,12,13,14,15,16,17,18,19,20,21,22,23,24,25,26,27,28,29,30],[],⟨[],[(3,.v (.i .i64))],[]⟩⟩ (.seq (.seq (.reg [(xi 4 (.mov (.t 3))),(xi 5 (.mov (.t 0))),(xi 6 (.len (.t 5))),(xi 7 (.bin .lss (.t 4) (.t 6)))]) (.cond (.t 7) .skip (.exit 0))) (.seq (.cut ⟨[2,10,11,12,13,14,15,16,17,18,19,20,21,22,23,24,25,26,27,28,29,30],[],⟨[],[],[]⟩⟩ (.blk 1 (.seq (.cutN ⟨[10,11,12,13,14,15,16,17,18,19,20,21,22,23,24,25,26,27,28,29,30],[],⟨[],[(30,.v .b)],[]⟩⟩ (.reg [(xi 10 (.mov (.t 0))),(xi 11 (.mov (.t 3))),(xi 12 (.iad 1 (.t 10) (.t 11))),(xi 13 (.load false 1 (.t 12))),(xi 14 (.bin .lss (.t 13) (.c (.v (.int .i64 0))))),(xi 15 (.mov (.t 14))),(xg 16 (.mov (.t 0)) 15 false),(xg 17 (.mov (.t 3)) 15 false),(xg 18 (.iad 1 (.t 16) (.t 17)) 15 false),(xg 19 (.load false 1 (.t 18)) 15 false),(xg 20 (.bin .gtr (.t 19) (.c (.v (.int .i64 63)))) 15 false),(xi 21 (.pick (.t 15) (.c (.v (.bool true))) (.t 20))),(xi 22 (.mov (.t 21))),(xg 23 (.mov (.t 0)) 22 false),(xg 24 (.mov (.t 0)) 22 false),(xg 25 (.mov (.t 3)) 22 false),(xg 26 (.iad 1 (.t 24) (.t 25)) 22 false),(xg 27 (.load false 1 (.t 26)) 22 false),(xg 28 (.call 0 27 [(.t 23),(.t 27)]) 22 false),(xg 29 (.bin .neq (.t 28) (.c (.v (.int .i64 1)))) 22 false),(xi 30 (.pick (.t 22) (.c (.v (.bool true))) (.t 29)))])) (.cond (.t 30) (.seq (.reg [(xi 2 (.mov (.c (.v (.bool false)))))]) .ret) .skip)))) (.reg [(xi 8 (.mov (.t 3))),(xi 9 (.bin .add (.t 8) (.c (.v (.int .i64 1))))),(xi 3 (.mov (.t 9)))])))))) (.seq (.reg [(xi 2 (.mov (.c (.v (.bool true)))))]) .ret))),[28],31,[.t 2],2⟩
theorem xf28_ok:xf28.ok Tryd.prog 28:=⟨_,_,Tryd.func28,rfl,by kernel_rfl,rfl,by kernel_rfl,rfl,by kernel_rfl,by kernel_rfl⟩
def tb28:List PE:=[pe27]
theorem tb28_ok:PEsOk Tryd.prog tb28:=⟨pe27_ok,trivial⟩
def ex28:List EX:=[]
theorem ex28_ok:EXsOk Tryd.prog ex28:=trivial
def in28:List IN:=[]
theorem in28_ok:INsOk Tryd.prog in28:=trivial
def F28:DT ((.co (.v (.sl (.i .i64))) .no):Fm).den→Option (DT (.v .b:Fm).den):=pureT tb28 ex28 in28 0 xf28 _ _ []
def pe28:PE:=⟨28,(.co (.v (.sl (.i .i64))) .no),.v .b,F28⟩
theorem pe28_ok:pe28.ok Tryd.prog:=pe_of hm tb28_ok ex28_ok in28_ok xf28_ok (by kernel_rfl) (fun _=>rfl)
def xf10:FX:=⟨(.seq (.reg [(xi 2 (.mov (.c (.v (.bool false)))))]) (.seq (.cut ⟨[2,3,4,5,6,7,8,9,10,11,12,13,14,15,16,17,18,19],[],⟨[],[],[]⟩⟩ (.seq (.reg [(xi 3 (.mov (.c (.v (.int .i64 1)))))]) (.blk 0 (.loop ⟨[2,3,4,5,6,7,8,9,10,11,12,13,14,15,16,17,18,19],[],⟨[],[(3,.v (.i .i64))],[]⟩⟩ (.seq (.seq (.reg [(xi 4 (.mov (.t 3))),(xi 5 (.mov (.t 0))),(xi 6 (.len (.t 5))),(xi 7 (.bin .lss (.t 4) (.t 6)))]) (.cond (.t 7) .skip (.exit 0))) (.seq (.blk 1 (.seq (.rdr [(xi 10 (.mov (.t 0))),(xi 11 (.mov (.t 3))),(xi 12 (.iad 1 (.t 10) (.t 11))),(xi 13 (.load false 1 (.t 12))),(xi 14 (.mov (.t 0))),(xi 15 (.mov (.t 3))),(xi 16 (.bin .sub (.t 15) (.c (.v (.int .i64 1))))),(xi 17 (.iad 1 (.t 14) (.t 16))),(xi 18 (.load false 1 (.t 17))),(xi 19 (.bin .leq (.t 13) (.t 18)))]) (.cond (.t 19) (.seq (.reg [(xi 2 (.mov (.c (.v (.bool false)))))]) .ret) .skip))) (.reg [(xi 8 (.mov (.t 3))),(xi 9 (.bin .add (.t 8) (.c (.v (.int .i64 1))))),(xi 3 (.mov (.t 9)))]))))))) (.seq (.reg [(xi 20 (.mov (.t 0))),(xi 21 (.len (.t 20))),(xi 22 (.bin .leq (.t 21) (.c (.v (.int .i64 64))))),(xi 23 (.mov (.t 22))),(xg 24 (.mov (.t 0)) 23 true),(xg 25 (.call 0 28 [(.t 24)]) 23 true),(xi 26 (.pick (.t 23) (.t 25) (.c (.v (.bool false))))),(xi 2 (.mov (.t 26)))]) .ret))),[25],27,[.t 2],2⟩
theorem xf10_ok:xf10.ok Tryd.prog 10:=⟨_,_,Tryd.func10,rfl,by kernel_rfl,rfl,by kernel_rfl,rfl,by kernel_rfl,by kernel_rfl⟩
def tb10:List PE:=[pe28]
theorem tb10_ok:PEsOk Tryd.prog tb10:=⟨pe28_ok,trivial⟩
def ex10:List EX:=[]
theorem ex10_ok:EXsOk Tryd.prog ex10:=trivial
def in10:List IN:=[]
theorem in10_ok:INsOk Tryd.prog in10:=trivial
def F10:DT ((.co (.v (.sl (.i .i64))) .no):Fm).den→Option (DT (.v .b:Fm).den):=pureT tb10 ex10 in10 0 xf10 _ _ []
def pe10:PE:=⟨10,(.co (.v (.sl (.i .i64))) .no),.v .b,F10⟩
theorem pe10_ok:pe10.ok Tryd.prog:=pe_of hm tb10_ok ex10_ok in10_ok xf10_ok (by kernel_rfl) (fun _=>rfl)
def xf40:FX:=⟨(.seq (.reg [(xi 2 (.mov (.c (.v (.bool false)))))]) (.seq (.reg [⟨⟨(some 3),(.alloc 0 (.agg [(.v (.bool false)),(.v (.bool false)),(.v (.bool false)),(.v (.bool false)),(.v (.bool false)),(.v (.bool false)),(.v (.bool false)),(.v (.bool false)),(.v (.bool false)),(.v (.bool false)),(.v (.bool false)),(.v (.bool false)),(.v (.bool false)),(.v (.bool false)),(.v (.bool false)),(.v (.bool false)),(.v (.bool false)),(.v (.bool false)),(.v (.bool false)),(.v (.bool false)),(.v (.bool false)),(.v (.bool false)),(.v (.bool false)),(.v (.bool false)),(.v (.bool false)),(.v (.bool false)),(.v (.bool false)),(.v (.bool false)),(.v (.bool false)),(.v (.bool false)),(.v (.bool false)),(.v (.bool false)),(.v (.bool false)),(.v (.bool false)),(.v (.bool false)),(.v (.bool false)),(.v (.bool false)),(.v (.bool false)),(.v (.bool false)),(.v (.bool false)),(.v (.bool false)),(.v (.bool false)),(.v (.bool false)),(.v (.bool false)),(.v (.bool false)),(.v (.bool false)),(.v (.bool false)),(.v (.bool false)),(.v (.bool false)),(.v (.bool false)),(.v (.bool false)),(.v (.bool false)),(.v (.bool false)),(.v (.bool false)),(.v (.bool false)),(.v (.bool false)),(.v (.bool false)),(.v (.bool false)),(.v (.bool false)),(.v (.bool false)),(.v (.bool false)),(.v (.bool false)),(.v (.bool false)),(.v (.bool false))])),none⟩,(.ar .b),[],[]⟩]) (.seq (.seq (.reg [(xi 6 (.mov (.t 0))),(xi 7 (.len (.t 6))),(xi 8 (.mov (.c (.v (.int .i64 0)))))]) (.blk 0 (.loop ⟨[2,5,8,9,10,11,12,13,14,15,16,17,18,19,20,21,22,23,24,25],[0],⟨[],[(8,.v (.i .i64))],[⟨0,.row (.v (.ar .b)),true⟩]⟩⟩ (.seq (.reg [(xi 9 (.bin .lss (.t 8) (.t 7)))]) (.seq (.cond (.t 9) .skip (.exit 0)) (.seq (.cut ⟨[2,5,10,11,12,13,14,15,16,17,18,19,20,21,22,23,24],[0],⟨[],[],[⟨0,.row (.v (.ar .b)),true⟩]⟩⟩ (.blk 1 (.seq (.reg [(xi 10 (.iad 1 (.t 6) (.t 8))),(xi 11 (.load false 1 (.t 10))),(xi 5 (.mov (.t 11)))]) (.seq (.cut ⟨[2,12,13,14,15,16,17,18,19,20,21,22],[],⟨[],[],[]⟩⟩ (.seq (.cutN ⟨[12,13,14,15,16,17,18,19,20,21,22],[],⟨[],[(22,.v .b)],[]⟩⟩ (.reg [(xi 12 (.mov (.t 5))),(xi 13 (.bin .lss (.t 12) (.c (.v (.int .i64 0))))),(xi 14 (.mov (.t 13))),(xg 15 (.mov (.t 5)) 14 false),(xg 16 (.bin .geq (.t 15) (.c (.v (.int .i64 64)))) 14 false),(xi 17 (.pick (.t 14) (.c (.v (.bool true))) (.t 16))),(xi 18 (.mov (.t 17))),(xg 19 (.mov (.t 5)) 18 false),(xg 20 (.iaA 64 1 (.t 3) (.t 19)) 18 false),(xg 21 (.load false 1 (.t 20)) 18 false),(xi 22 (.pick (.t 18) (.c (.v (.bool true))) (.t 21)))])) (.cond (.t 22) (.seq (.reg [(xi 2 (.mov (.c (.v (.bool false)))))]) .ret) .skip))) (.reg [(xi 23 (.mov (.t 5))),(xi 24 (.iaA 64 1 (.t 3) (.t 23))),(xz (.store 1 (.t 24) (.c (.v (.bool true)))))]))))) (.reg [(xi 25 (.bin .add (.t 8) (.c (.v (.int .i64 1))))),(xi 8 (.mov (.t 25)))]))))))) (.seq (.reg [(xi 2 (.mov (.c (.v (.bool true)))))]) .ret)))),[3],26,[.t 2],2⟩
theorem xf40_ok:xf40.ok Tryd.prog 40:=⟨_,_,Tryd.func40,rfl,by kernel_rfl,rfl,by kernel_rfl,rfl,by kernel_rfl,by kernel_rfl⟩
def tb40:List PE:=[]
theorem tb40_ok:PEsOk Tryd.prog tb40:=trivial
def ex40:List EX:=[]
theorem ex40_ok:EXsOk Tryd.prog ex40:=trivial
def in40:List IN:=[]
theorem in40_ok:INsOk Tryd.prog in40:=trivial
def F40:DT ((.co (.v (.sl (.i .i64))) .no):Fm).den→Option (DT (.v .b:Fm).den):=pureT tb40 ex40 in40 0 xf40 _ _ []
def pe40:PE:=⟨40,(.co (.v (.sl (.i .i64))) .no),.v .b,F40⟩
theorem pe40_ok:pe40.ok Tryd.prog:=pe_of hm tb40_ok ex40_ok in40_ok xf40_ok (by kernel_rfl) (fun _=>rfl)
def xf41:FX:=⟨(.seq (.reg [(xi 2 (.mov (.c (.v (.bool false)))))]) (.seq (.seq (.reg [(xi 4 (.mov (.t 0))),(xi 5 (.len (.t 4))),(xi 6 (.bin .sub (.t 5) (.c (.v (.int .i64 1))))),(xi 3 (.mov (.t 6)))]) (.blk 0 (.loop ⟨[2,3,7,8,9,10,11,12,13,14,15,16,17,18,19,20],[2,3,4,5,6],⟨[],[(3,.v (.i .i64))],[]⟩⟩ (.seq (.seq (.reg [(xi 7 (.mov (.t 3))),(xi 8 (.bin .gtr (.t 7) (.c (.v (.int .i64 0)))))]) (.cond (.t 8) .skip (.exit 0))) (.seq (.blk 1 (.seq (.dr [] [(xi 11 (.mov (.t 0))),(xi 12 (.mov (.t 3))),(xi 13 (.iad 1 (.t 11) (.t 12))),(xi 14 (.load false 1 (.t 13))),(xi 15 (.mov (.t 0))),(xi 16 (.mov (.t 3))),(xi 17 (.bin .sub (.t 16) (.c (.v (.int .i64 1))))),(xi 18 (.iad 1 (.t 15) (.t 17))),(xi 19 (.load false 1 (.t 18))),⟨⟨(some 20),(.callG 0 50 [(.t 14),(.t 19)]),none⟩,.b,[],[2,3,4,5,6]⟩]) (.cond (.t 20) (.seq (.reg [(xi 2 (.mov (.c (.v (.bool false)))))]) .ret) .skip))) (.reg [(xi 9 (.mov (.t 3))),(xi 10 (.bin .sub (.t 9) (.c (.v (.int .i64 1))))),(xi 3 (.mov (.t 10)))])))))) (.seq (.reg [(xi 2 (.mov (.c (.v (.bool true)))))]) .ret))),[20],21,[.t 2],7⟩
theorem xf41_ok:xf41.ok Tryd.prog 41:=⟨_,_,Tryd.func41,rfl,by kernel_rfl,rfl,by kernel_rfl,rfl,by kernel_rfl,by kernel_rfl⟩
def ff50:FX:=⟨(.seq (.reg [(xi 4 (.mov (.c (.v (.bool false)))))]) (.seq (.reg [(xi 5 (.mov (.t 0))),(xi 6 (.call 0 62 [(.t 5)])),(xi 7 (.mov (.t 6))),(xg 8 (.mov (.t 1)) 7 true),(xg 9 (.call 1 62 [(.t 8)]) 7 true),(xg 10 (.un .not (.t 9)) 7 true),(xi 11 (.pick (.t 7) (.t 10) (.c (.v (.bool false))))),(xi 12 (.mov (.t 11))),(xg 13 (.mov (.t 0)) 12 false),(xg 14 (.mov (.t 1)) 12 false),(xg 15 (.bin .lss (.t 13) (.t 14)) 12 false),(xi 16 (.pick (.t 12) (.c (.v (.bool true))) (.t 15))),(xi 4 (.mov (.t 16)))]) .ret)),[6,9],17,[.t 4],3⟩
theorem ff50_ok:ff50.ok Tryd.prog 50:=⟨_,_,Tryd.func50,rfl,by kernel_rfl,rfl,by kernel_rfl,rfl,by kernel_rfl,by kernel_rfl⟩
def ff62:FX:=⟨(.seq (.reg [(xi 2 (.mov (.c (.v (.bool false)))))]) (.seq (.reg [(xi 3 (.mov (.t 0))),(xi 4 (.mov (.t 0))),(xi 5 (.bin .neq (.t 3) (.t 4))),(xi 2 (.mov (.t 5)))]) .ret)),[],6,[.t 2],1⟩
theorem ff62_ok:ff62.ok Tryd.prog 62:=⟨_,_,Tryd.func62,rfl,by kernel_rfl,rfl,by kernel_rfl,rfl,by kernel_rfl,by kernel_rfl⟩
def tb41:List PE:=[]
theorem tb41_ok:PEsOk Tryd.prog tb41:=trivial
def ex41:List EX:=[]
theorem ex41_ok:EXsOk Tryd.prog ex41:=trivial
def in41:List IN:=[⟨0,50,2,ff50,some ⟨[0,1,2,3,4,5,6,7,8,9,10,11,12,13,14,15,16],[2,3,4,5,6],⟨[],[(4,.v .b)],[]⟩⟩⟩,⟨2,62,5,ff62,none⟩,⟨3,62,6,ff62,none⟩]
theorem in41_ok:INsOk Tryd.prog in41:=⟨ff50_ok,ff62_ok,ff62_ok,trivial⟩
def F41:DT ((.co (.v (.sl (.i .i64))) .no):Fm).den→Option (DT (.v .b:Fm).den):=pureT tb41 ex41 in41 9 xf41 _ _ []
def pe41:PE:=⟨41,(.co (.v (.sl (.i .i64))) .no),.v .b,F41⟩
theorem pe41_ok:pe41.ok Tryd.prog:=pe_of hm tb41_ok ex41_ok in41_ok xf41_ok (by kernel_rfl) (fun _=>rfl)
def xf29:FX:=⟨(.seq (.reg [(xi 2 (.mov (.c (.v (.int .i64 0)))))]) (.seq (.seq (.cutN ⟨[3,4,5,6,7,8,9,10],[],⟨[],[(10,.v .b)],[]⟩⟩ (.reg [(xi 3 (.mov (.t 0))),(xi 4 (.call 0 40 [(.t 3)])),(xi 5 (.un .not (.t 4))),(xi 6 (.mov (.t 5))),(xg 7 (.mov (.t 0)) 6 false),(xg 8 (.call 1 41 [(.t 7)]) 6 false),(xg 9 (.un .not (.t 8)) 6 false),(xi 10 (.pick (.t 6) (.c (.v (.bool true))) (.t 9)))])) (.cond (.t 10) (.seq (.reg [(xi 2 (.mov (.c (.v (.int .i64 1)))))]) .ret) .skip)) (.seq (.reg [(xi 2 (.mov (.c (.v (.int .i64 0)))))]) .ret))),[4,8],11,[.t 2],3⟩
theorem xf29_ok:xf29.ok Tryd.prog 29:=⟨_,_,Tryd.func29,rfl,by kernel_rfl,rfl,by kernel_rfl,rfl,by kernel_rfl,by kernel_rfl⟩
def tb29:List PE:=[pe40,pe41]
theorem tb29_ok:PEsOk Tryd.prog tb29:=⟨pe40_ok,pe41_ok,trivial⟩
def ex29:List EX:=[]
theorem ex29_ok:EXsOk Tryd.prog ex29:=trivial
def in29:List IN:=[]
theorem in29_ok:INsOk Tryd.prog in29:=trivial
def F29:DT ((.co (.v (.sl (.i .i64))) .no):Fm).den→Option (DT (.v (.i .i64):Fm).den):=pureT tb29 ex29 in29 0 xf29 _ _ []
def pe29:PE:=⟨29,(.co (.v (.sl (.i .i64))) .no),.v (.i .i64),F29⟩
theorem pe29_ok:pe29.ok Tryd.prog:=pe_of hm tb29_ok ex29_ok in29_ok xf29_ok (by kernel_rfl) (fun _=>rfl)
def xf42:FX:=⟨(.seq (.reg [(xi 4 (.mov (.c (.v (.int .u64 0)))))]) (.seq (.seq (.reg [(xi 6 (.mov (.t 1))),(xi 7 (.lenS (.t 6))),(xi 8 (.mov (.c (.v (.int .i64 0)))))]) (.blk 0 (.loop ⟨[0,5,8,9,10,11,12,13,14,15,16,17,18],[],⟨[],[(0,.v (.i .u64)),(8,.v (.i .i64))],[]⟩⟩ (.seq (.reg [(xi 9 (.bin .lss (.t 8) (.t 7)))]) (.seq (.cond (.t 9) .skip (.exit 0)) (.seq (.blk 1 (.seq (.reg [(xi 10 (.mov (.t 8))),(xi 5 (.mov (.t 10)))]) (.reg [(xi 11 (.mov (.t 0))),(xi 12 (.mov (.t 1))),(xi 13 (.mov (.t 5))),(xi 14 (.ixS (.t 12) (.t 13))),(xi 15 (.conv .u64 (.t 14))),(xi 16 (.bin .xor (.t 11) (.t 15))),(xi 17 (.bin .mul (.t 16) (.c (.v (.int .u64 1099511628211))))),(xi 0 (.mov (.t 17)))]))) (.reg [(xi 18 (.bin .add (.t 8) (.c (.v (.int .i64 1))))),(xi 8 (.mov (.t 18)))]))))))) (.seq (.reg [(xi 19 (.mov (.t 0))),(xi 4 (.mov (.t 19)))]) .ret))),[],20,[.t 4],1⟩
theorem xf42_ok:xf42.ok Tryd.prog 42:=⟨_,_,Tryd.func42,rfl,by kernel_rfl,rfl,by kernel_rfl,rfl,by kernel_rfl,by kernel_rfl⟩
def tb42:List PE:=[]
theorem tb42_ok:PEsOk Tryd.prog tb42:=trivial
def ex42:List EX:=[]
theorem ex42_ok:EXsOk Tryd.prog ex42:=trivial
def in42:List IN:=[]
theorem in42_ok:INsOk Tryd.prog in42:=trivial
def F42:DT ((.co (.v (.i .u64)) (.co (.v .s) .no)):Fm).den→Option (DT (.v (.i .u64):Fm).den):=pureT tb42 ex42 in42 0 xf42 _ _ []
def pe42:PE:=⟨42,(.co (.v (.i .u64)) (.co (.v .s) .no)),.v (.i .u64),F42⟩
theorem pe42_ok:pe42.ok Tryd.prog:=pe_of hm tb42_ok ex42_ok in42_ok xf42_ok (by kernel_rfl) (fun _=>rfl)
def xf30:FX:=⟨(.seq (.reg [(xi 2 (.mov (.c (.v (.int .u64 0)))))]) (.seq (.reg [(xi 3 (.mov (.c (.v (.int .u64 14695981039346656037)))))]) (.seq (.seq (.reg [(xi 6 (.mov (.t 0))),(xi 7 (.len (.t 6))),(xi 8 (.mov (.c (.v (.int .i64 0)))))]) (.blk 0 (.loop ⟨[3,5,8,9,10,11,12,13,14,15],[],⟨[],[(3,.v (.i .u64)),(8,.v (.i .i64))],[]⟩⟩ (.seq (.reg [(xi 9 (.bin .lss (.t 8) (.t 7)))]) (.seq (.cond (.t 9) .skip (.exit 0)) (.seq (.blk 1 (.seq (.reg [(xi 10 (.iad 1 (.t 6) (.t 8))),(xi 11 (.load false 1 (.t 10))),(xi 5 (.mov (.t 11)))]) (.reg [(xi 12 (.mov (.t 3))),(xi 13 (.mov (.t 5))),(xi 14 (.call 0 42 [(.t 12),(.t 13)])),(xi 3 (.mov (.t 14)))]))) (.reg [(xi 15 (.bin .add (.t 8) (.c (.v (.int .i64 1))))),(xi 8 (.mov (.t 15)))]))))))) (.seq (.reg [(xi 16 (.mov (.t 3))),(xi 2 (.mov (.t 16)))]) .ret)))),[14],17,[.t 2],2⟩
theorem xf30_ok:xf30.ok Tryd.prog 30:=⟨_,_,Tryd.func30,rfl,by kernel_rfl,rfl,by kernel_rfl,rfl,by kernel_rfl,by kernel_rfl⟩
def tb30:List PE:=[pe42]
theorem tb30_ok:PEsOk Tryd.prog tb30:=⟨pe42_ok,trivial⟩
def ex30:List EX:=[]
theorem ex30_ok:EXsOk Tryd.prog ex30:=trivial
def in30:List IN:=[]
theorem in30_ok:INsOk Tryd.prog in30:=trivial
def F30:DT ((.co (.v (.sl .s)) .no):Fm).den→Option (DT (.v (.i .u64):Fm).den):=pureT tb30 ex30 in30 0 xf30 _ _ []
def pe30:PE:=⟨30,(.co (.v (.sl .s)) .no),.v (.i .u64),F30⟩
theorem pe30_ok:pe30.ok Tryd.prog:=pe_of hm tb30_ok ex30_ok in30_ok xf30_ok (by kernel_rfl) (fun _=>rfl)
def xf36:FX:=⟨(.seq (.reg [(xi 4 (.mov (.c (.v (.int .i64 0)))))]) (.seq (.reg [(xi 7 (.mov (.t 0))),(xi 8 (.call 0 48 [(.t 7)])),(xi 5 (.mov (.t 8)))]) (.seq (.reg [(xi 9 (.mov (.t 1))),(xi 10 (.call 1 48 [(.t 9)])),(xi 6 (.mov (.t 10)))]) (.seq (.seq (.reg [(xi 11 (.mov (.t 5)))]) (.cond (.t 11) (.seq (.seq (.reg [(xi 12 (.mov (.t 6)))]) (.cond (.t 12) (.seq (.reg [(xi 4 (.mov (.c (.v (.int .i64 0)))))]) .ret) .skip)) (.seq (.reg [(xi 4 (.mov (.c (.v (.int .i64 (-1))))))]) .ret)) .skip)) (.seq (.seq (.reg [(xi 13 (.mov (.t 6)))]) (.cond (.t 13) (.seq (.reg [(xi 4 (.mov (.c (.v (.int .i64 1)))))]) .ret) .skip)) (.seq (.seq (.reg [(xi 14 (.mov (.t 0))),(xi 15 (.mov (.t 1))),(xi 16 (.bin .lss (.t 14) (.t 15)))]) (.cond (.t 16) (.seq (.reg [(xi 4 (.mov (.c (.v (.int .i64 (-1))))))]) .ret) .skip)) (.seq (.seq (.reg [(xi 17 (.mov (.t 0))),(xi 18 (.mov (.t 1))),(xi 19 (.bin .gtr (.t 17) (.t 18)))]) (.cond (.t 19) (.seq (.reg [(xi 4 (.mov (.c (.v (.int .i64 1)))))]) .ret) .skip)) (.seq (.reg [(xi 4 (.mov (.c (.v (.int .i64 0)))))]) .ret)))))))),[8,10],20,[.t 4],5⟩
theorem xf36_ok:xf36.ok Tryd.prog 36:=⟨_,_,Tryd.func36,rfl,by kernel_rfl,rfl,by kernel_rfl,rfl,by kernel_rfl,by kernel_rfl⟩
def ff48:FX:=⟨(.seq (.reg [(xi 2 (.mov (.c (.v (.bool false)))))]) (.seq (.reg [(xi 3 (.mov (.t 0))),(xi 4 (.mov (.t 0))),(xi 5 (.bin .neq (.t 3) (.t 4))),(xi 2 (.mov (.t 5)))]) .ret)),[],6,[.t 2],1⟩
theorem ff48_ok:ff48.ok Tryd.prog 48:=⟨_,_,Tryd.func48,rfl,by kernel_rfl,rfl,by kernel_rfl,rfl,by kernel_rfl,by kernel_rfl⟩
def tb36:List PE:=[]
theorem tb36_ok:PEsOk Tryd.prog tb36:=trivial
def ex36:List EX:=[]
theorem ex36_ok:EXsOk Tryd.prog ex36:=trivial
def in36:List IN:=[⟨0,48,3,ff48,none⟩,⟨1,48,4,ff48,none⟩]
theorem in36_ok:INsOk Tryd.prog in36:=⟨ff48_ok,ff48_ok,trivial⟩
def F36:DT ((.co (.v (.i .u64)) (.co (.v (.i .u64)) .no)):Fm).den→Option (DT (.v (.i .i64):Fm).den):=pureT tb36 ex36 in36 9 xf36 _ _ []
def pe36:PE:=⟨36,(.co (.v (.i .u64)) (.co (.v (.i .u64)) .no)),.v (.i .i64),F36⟩
theorem pe36_ok:pe36.ok Tryd.prog:=pe_of hm tb36_ok ex36_ok in36_ok xf36_ok (by kernel_rfl) (fun _=>rfl)
def xf46:FX:=⟨(.seq (.reg [(xi 2 (.mov (.c (.v (.int .i64 0)))))]) (.seq (.reg [(xi 3 (.mov (.c (.v (.int .i64 0)))))]) (.seq (.seq (.reg [(xi 6 (.mov (.t 0))),(xi 7 (.len (.t 6))),(xi 8 (.mov (.c (.v (.int .i64 0)))))]) (.blk 0 (.loop ⟨[2,5,8,9,10,11,12,13,14,15,16],[],⟨[],[(8,.v (.i .i64))],[]⟩⟩ (.seq (.reg [(xi 9 (.bin .lss (.t 8) (.t 7)))]) (.seq (.cond (.t 9) .skip (.exit 0)) (.seq (.blk 1 (.seq (.reg [(xi 10 (.iad 1 (.t 6) (.t 8))),(xi 11 (.load false 1 (.t 10))),(xi 5 (.mov (.t 11)))]) (.seq (.reg [(xi 12 (.mov (.t 5))),(xi 13 (.mov (.t 3))),(xi 14 (.bin .neq (.t 12) (.t 13)))]) (.cond (.t 14) (.seq (.reg [(xi 15 (.mov (.t 5))),(xi 2 (.mov (.t 15)))]) .ret) .skip)))) (.reg [(xi 16 (.bin .add (.t 8) (.c (.v (.int .i64 1))))),(xi 8 (.mov (.t 16)))]))))))) (.seq (.reg [(xi 17 (.mov (.t 3))),(xi 2 (.mov (.t 17)))]) .ret)))),[],18,[.t 2],1⟩
theorem xf46_ok:xf46.ok Tryd.prog 46:=⟨_,_,Tryd.func46,rfl,by kernel_rfl,rfl,by kernel_rfl,rfl,by kernel_rfl,by kernel_rfl⟩
def tb46:List PE:=[]
theorem tb46_ok:PEsOk Tryd.prog tb46:=trivial
def ex46:List EX:=[]
theorem ex46_ok:EXsOk Tryd.prog ex46:=trivial
def in46:List IN:=[]
theorem in46_ok:INsOk Tryd.prog in46:=trivial
def F46:DT ((.co (.v (.sl (.i .i64))) .no):Fm).den→Option (DT (.v (.i .i64):Fm).den):=pureT tb46 ex46 in46 0 xf46 _ _ []
def pe46:PE:=⟨46,(.co (.v (.sl (.i .i64))) .no),.v (.i .i64),F46⟩
theorem pe46_ok:pe46.ok Tryd.prog:=pe_of hm tb46_ok ex46_ok in46_ok xf46_ok (by kernel_rfl) (fun _=>rfl)
def xf47:FX:=⟨(.seq (.reg [(xi 4 (.mov (.c (.v (.int .i64 0)))))]) (.seq (.reg [(xi 7 (.mov (.t 0))),(xi 8 (.call 0 62 [(.t 7)])),(xi 5 (.mov (.t 8)))]) (.seq (.reg [(xi 9 (.mov (.t 1))),(xi 10 (.call 1 62 [(.t 9)])),(xi 6 (.mov (.t 10)))]) (.seq (.seq (.reg [(xi 11 (.mov (.t 5)))]) (.cond (.t 11) (.seq (.seq (.reg [(xi 12 (.mov (.t 6)))]) (.cond (.t 12) (.seq (.reg [(xi 4 (.mov (.c (.v (.int .i64 0)))))]) .ret) .skip)) (.seq (.reg [(xi 4 (.mov (.c (.v (.int .i64 (-1))))))]) .ret)) .skip)) (.seq (.seq (.reg [(xi 13 (.mov (.t 6)))]) (.cond (.t 13) (.seq (.reg [(xi 4 (.mov (.c (.v (.int .i64 1)))))]) .ret) .skip)) (.seq (.seq (.reg [(xi 14 (.mov (.t 0))),(xi 15 (.mov (.t 1))),(xi 16 (.bin .lss (.t 14) (.t 15)))]) (.cond (.t 16) (.seq (.reg [(xi 4 (.mov (.c (.v (.int .i64 (-1))))))]) .ret) .skip)) (.seq (.seq (.reg [(xi 17 (.mov (.t 0))),(xi 18 (.mov (.t 1))),(xi 19 (.bin .gtr (.t 17) (.t 18)))]) (.cond (.t 19) (.seq (.reg [(xi 4 (.mov (.c (.v (.int .i64 1)))))]) .ret) .skip)) (.seq (.reg [(xi 4 (.mov (.c (.v (.int .i64 0)))))]) .ret)))))))),[8,10],20,[.t 4],5⟩
theorem xf47_ok:xf47.ok Tryd.prog 47:=⟨_,_,Tryd.func47,rfl,by kernel_rfl,rfl,by kernel_rfl,rfl,by kernel_rfl,by kernel_rfl⟩
def tb47:List PE:=[]
theorem tb47_ok:PEsOk Tryd.prog tb47:=trivial
def ex47:List EX:=[]
theorem ex47_ok:EXsOk Tryd.prog ex47:=trivial
def in47:List IN:=[⟨0,62,3,ff62,none⟩,⟨1,62,4,ff62,none⟩]
theorem in47_ok:INsOk Tryd.prog in47:=⟨ff62_ok,ff62_ok,trivial⟩
def F47:DT ((.co (.v (.i .i64)) (.co (.v (.i .i64)) .no)):Fm).den→Option (DT (.v (.i .i64):Fm).den):=pureT tb47 ex47 in47 9 xf47 _ _ []
def pe47:PE:=⟨47,(.co (.v (.i .i64)) (.co (.v (.i .i64)) .no)),.v (.i .i64),F47⟩
theorem pe47_ok:pe47.ok Tryd.prog:=pe_of hm tb47_ok ex47_ok in47_ok xf47_ok (by kernel_rfl) (fun _=>rfl)
def xf33:FX:=⟨(.seq (.reg [(xi 2 (.box 0 3 (.t 0))),(xi 3 (.box 1 3 (.t 1))),(xi 4 (.mov (.c (.v (.int .i64 0)))))]) (.seq (.dr [(6,4),(8,4),(11,4),(11,9),(13,4),(13,9)] [(xi 5 (.fad 0 (.t 2))),(xi 6 (.load false 1 (.t 5))),(xi 7 (.fad 0 (.t 3))),(xi 8 (.load false 1 (.t 7))),(xi 9 (.callG 2 36 [(.t 6),(.t 8)])),(xi 10 (.fad 1 (.t 2))),(xi 11 (.load false 1 (.t 10))),(xi 12 (.fad 1 (.t 3))),(xi 13 (.load false 1 (.t 12))),(xi 14 (.callG 3 47 [(.t 11),(.t 13)])),(xi 15 (.fad 2 (.t 2))),(xi 16 (.load false 1 (.t 15))),(xi 17 (.fad 2 (.t 3))),(xi 18 (.load false 1 (.t 17))),(xi 19 (.callG 4 47 [(.t 16),(.t 18)])),(xi 20 (.bsl 1 (.v (.int .i64 0)) 3 [(0,(.t 9)),(1,(.t 14)),(2,(.t 19))])),(xi 21 (.callG 5 46 [(.t 20)])),(xi 4 (.mov (.t 21)))]) .ret)),[2,3,9,14,19,21],22,[.t 4],7⟩
theorem xf33_ok:xf33.ok Tryd.prog 33:=⟨_,_,Tryd.func33,rfl,by kernel_rfl,rfl,by kernel_rfl,rfl,by kernel_rfl,by kernel_rfl⟩
def tb33:List PE:=[pe36,pe46,pe47]
theorem tb33_ok:PEsOk Tryd.prog tb33:=⟨pe36_ok,pe46_ok,pe47_ok,trivial⟩
def ex33:List EX:=[]
theorem ex33_ok:EXsOk Tryd.prog ex33:=trivial
def in33:List IN:=[]
theorem in33_ok:INsOk Tryd.prog in33:=trivial
def F33:DT ((.co (.v tz1) (.co (.v tz1) .no)):Fm).den→Option (DT (.v (.i .i64):Fm).den):=pureT tb33 ex33 in33 0 xf33 _ _ []
def pe33:PE:=⟨33,(.co (.v tz1) (.co (.v tz1) .no)),.v (.i .i64),F33⟩
theorem pe33_ok:pe33.ok Tryd.prog:=pe_of hm tb33_ok ex33_ok in33_ok xf33_ok (by kernel_rfl) (fun _=>rfl)
def xf13:FX:=⟨(.seq (.reg [(xi 2 (.mov (.c (.v (.int .i64 0)))))]) (.seq (.seq (.reg [(xi 5 (.mov (.t 0))),(xi 6 (.len (.t 5))),(xi 7 (.bin .gtr (.t 6) (.c (.v (.int .i64 2048)))))]) (.cond (.t 7) (.seq (.reg [(xi 2 (.mov (.c (.v (.int .i64 1)))))]) .ret) .skip)) (.seq (.seq (.reg [(xi 8 (.mov (.t 0))),(xi 9 (.len (.t 8))),(xi 10 (.mov (.c (.v (.int .i64 0)))))]) (.blk 0 (.loop ⟨[2,3,4,10,11,12,13,14,15,16,17,18,19,20,21,22,23,24,25,26,27,28,29,30,31,32,33,34,35,36,37],[0],⟨[],[(10,.v (.i .i64))],[]⟩⟩ (.seq (.reg [(xi 11 (.bin .lss (.t 10) (.t 9)))]) (.seq (.cond (.t 11) .skip (.exit 0)) (.seq (.cut ⟨[2,3,4,12,13,14,15,16,17,18,19,20,21,22,23,24,25,26,27,28,29,30,31,32,33,34,35,36],[0],⟨[],[],[]⟩⟩ (.blk 1 (.seq (.reg [(xi 12 (.mov (.t 10))),(xi 13 (.iad 3 (.t 8) (.t 10))),(xi 14 (.load true 3 (.t 13))),(xi 4 (.alloc 0 (.agg [(.v (.int .u64 0)),(.v (.int .i64 0)),(.v (.int .i64 0))]))),(xi 3 (.mov (.t 12))),(xz (.store 3 (.t 4) (.t 14)))]) (.seq (.cutN ⟨[15,16,17,18,19,20,21,22,23,24,25,26,27,28,29,30,31,32,33,34,35,36],[],⟨[],[(36,.v .b)],[]⟩⟩ (.dr [] [(xi 15 (.fad 1 (.t 4))),(xi 16 (.load false 1 (.t 15))),(xi 17 (.bin .lss (.t 16) (.c (.v (.int .i64 0))))),(xi 18 (.mov (.t 17))),(xg 19 (.fad 1 (.t 4)) 18 false),(xg 20 (.load false 1 (.t 19)) 18 false),(xg 21 (.bin .geq (.t 20) (.c (.v (.int .i64 64)))) 18 false),(xi 22 (.pick (.t 18) (.c (.v (.bool true))) (.t 21))),(xi 23 (.mov (.t 22))),(xg 24 (.mov (.t 3)) 23 false),(xg 25 (.bin .gtr (.t 24) (.c (.v (.int .i64 0)))) 23 false),(xg 26 (.mov (.t 25)) 23 false),(xg 27 (.mov (.t 0)) 26 true),(xg 28 (.mov (.t 3)) 26 true),(xg 29 (.bin .sub (.t 28) (.c (.v (.int .i64 1)))) 26 true),(xg 30 (.iad 3 (.t 27) (.t 29)) 26 true),(xg 31 (.load true 3 (.t 30)) 26 true),(xg 32 (.load true 3 (.t 4)) 26 true),(xg 33 (.callG 1 33 [(.t 31),(.t 32)]) 26 true),(xg 34 (.bin .geq (.t 33) (.c (.v (.int .i64 0)))) 26 true),(xg 35 (.pick (.t 26) (.t 34) (.c (.v (.bool false)))) 23 false),(xi 36 (.pick (.t 23) (.c (.v (.bool true))) (.t 35)))])) (.cond (.t 36) (.seq (.reg [(xi 2 (.mov (.c (.v (.int .i64 1)))))]) .ret) .skip))))) (.reg [(xi 37 (.bin .add (.t 10) (.c (.v (.int .i64 1))))),(xi 10 (.mov (.t 37)))]))))))) (.seq (.reg [(xi 2 (.mov (.c (.v (.int .i64 0)))))]) .ret)))),[4,33],38,[.t 2],3⟩
theorem xf13_ok:xf13.ok Tryd.prog 13:=⟨_,_,Tryd.func13,rfl,by kernel_rfl,rfl,by kernel_rfl,rfl,by kernel_rfl,by kernel_rfl⟩
def tb13:List PE:=[pe33]
theorem tb13_ok:PEsOk Tryd.prog tb13:=⟨pe33_ok,trivial⟩
def ex13:List EX:=[]
theorem ex13_ok:EXsOk Tryd.prog ex13:=trivial
def in13:List IN:=[]
theorem in13_ok:INsOk Tryd.prog in13:=trivial
def F13:DT ((.co (.v (.sl tz1)) .no):Fm).den→Option (DT (.v (.i .i64):Fm).den):=pureT tb13 ex13 in13 0 xf13 _ _ []
def pe13:PE:=⟨13,(.co (.v (.sl tz1)) .no),.v (.i .i64),F13⟩
theorem pe13_ok:pe13.ok Tryd.prog:=pe_of hm tb13_ok ex13_ok in13_ok xf13_ok (by kernel_rfl) (fun _=>rfl)
def xf14:FX:=⟨(.seq (.reg [(xi 4 (.mov (.c (.v (.int .i64 0))))),(xi 5 (.mov (.c (.v (.int .i64 0)))))]) (.seq (.blk 0 (.seq (.reg [(xi 9 (.mov (.t 0))),(xi 10 (.call 0 13 [(.t 9)])),(xi 11 (.bin .neq (.t 10) (.c (.v (.int .i64 0))))),(xi 8 (.mov (.t 11)))]) (.cond (.t 8) (.seq (.reg [(xi 4 (.mov (.c (.v (.int .i64 0))))),(xi 5 (.mov (.c (.v (.int .i64 1)))))]) .ret) (.seq (.reg [(xi 13 (.mov (.t 0))),(xi 14 (.len (.t 13))),(xi 15 (.bin .eql (.t 14) (.c (.v (.int .i64 0))))),(xi 12 (.mov (.t 15)))]) (.cond (.t 12) (.seq (.reg [(xi 4 (.mov (.c (.v (.int .i64 0))))),(xi 5 (.mov (.c (.v (.int .i64 6)))))]) .ret) .skip))))) (.seq (.reg [(xi 17 (.mov (.t 0))),(xi 18 (.mov (.t 1))),⟨⟨(some 19),(.bsl 1 (.v (.string ⟨#[]⟩)) 1 [(0,(.t 18))]),none⟩,.b,[],[]⟩,(xi 20 (.call 1 30 [(.t 19)])),(xi 21 (.call 2 34 [(.t 17),(.t 20),(.c (.clo 35 [] []))])),(xi 16 (.mov (.t 21))),(xi 22 (.ext (.t 16) 0)),(xi 23 (.ext (.t 16) 1)),(xi 6 (.mov (.t 22))),(xi 7 (.mov (.t 23)))]) (.seq (.reg [(xi 24 (.mov (.t 6))),(xi 25 (.mov (.t 0))),(xi 26 (.len (.t 25))),(xi 27 (.bin .rem (.t 24) (.t 26))),(xi 4 (.mov (.t 27))),(xi 5 (.mov (.c (.v (.int .i64 0)))))]) .ret)))),[10,20,21],28,[.t 4,.t 5],13⟩
theorem xf14_ok:xf14.ok Tryd.prog 14:=⟨_,_,Tryd.func14,rfl,by kernel_rfl,rfl,by kernel_rfl,rfl,by kernel_rfl,by kernel_rfl⟩
def ff34:FX:=⟨(.seq (.reg [(xi 6 (.mov (.c (.v (.int .i64 0))))),(xi 7 (.mov (.c (.v (.bool false)))))]) (.seq (.reg [(xi 12 (.mov (.t 0))),(xi 13 (.len (.t 12))),(xi 8 (.mov (.t 13)))]) (.seq (.reg [(xi 14 (.mov (.t 8))),(xi 9 (.mov (.c (.v (.int .i64 0))))),(xi 10 (.mov (.t 14)))]) (.seq (.cutN ⟨[9,10,11,15,16,17,18,19,20,21,22,23,24,25,26,27,28,29,30,31,32,33,34],[7,8,9],⟨[],[(9,.v (.i .i64))],[]⟩⟩ (.blk 0 (.loop ⟨[9,10,11,15,16,17,18,19,20,21,22,23,24,25,26,27,28,29,30,31,32,33,34],[7,8,9],⟨[],[(9,.v (.i .i64)),(10,.v (.i .i64))],[]⟩⟩ (.seq (.seq (.reg [(xi 15 (.mov (.t 9))),(xi 16 (.mov (.t 10))),(xi 17 (.bin .lss (.t 15) (.t 16)))]) (.cond (.t 17) .skip (.exit 0))) (.blk 1 (.seq (.reg [(xi 18 (.mov (.t 9))),(xi 19 (.mov (.t 10))),(xi 20 (.bin .add (.t 18) (.t 19))),(xi 21 (.conv .u64 (.t 20))),(xi 22 (.bin .shr (.t 21) (.c (.v (.int .u64 1))))),(xi 23 (.conv .i64 (.t 22))),(xi 11 (.mov (.t 23)))]) (.seq (.reg [(xi 24 (.mov (.t 2))),(xi 25 (.mov (.t 0))),(xi 26 (.mov (.t 11))),(xi 27 (.iad 3 (.t 25) (.t 26))),(xi 28 (.load true 3 (.t 27))),(xi 29 (.mov (.t 1))),(xi 30 (.callv 0 (.t 24) [(.t 28),(.t 29)])),(xi 31 (.bin .lss (.t 30) (.c (.v (.int .i64 0)))))]) (.cond (.t 31) (.reg [(xi 32 (.mov (.t 11))),(xi 33 (.bin .add (.t 32) (.c (.v (.int .i64 1))))),(xi 9 (.mov (.t 33)))]) (.reg [(xi 34 (.mov (.t 11))),(xi 10 (.mov (.t 34)))]))))))))) (.seq (.reg [(xi 35 (.mov (.t 9))),(xi 36 (.mov (.t 9))),(xi 37 (.mov (.t 8))),(xi 38 (.bin .lss (.t 36) (.t 37))),(xi 39 (.mov (.t 38))),(xg 40 (.mov (.t 2)) 39 true),(xg 41 (.mov (.t 0)) 39 true),(xg 42 (.mov (.t 9)) 39 true),(xg 43 (.iad 3 (.t 41) (.t 42)) 39 true),(xg 44 (.load true 3 (.t 43)) 39 true),(xg 45 (.mov (.t 1)) 39 true),(xg 46 (.callv 1 (.t 40) [(.t 44),(.t 45)]) 39 true),(xg 47 (.bin .eql (.t 46) (.c (.v (.int .i64 0)))) 39 true),(xi 48 (.pick (.t 39) (.t 47) (.c (.v (.bool false))))),(xi 6 (.mov (.t 35))),(xi 7 (.mov (.t 48)))]) .ret))))),[30,46],49,[.t 6,.t 7],3⟩
theorem ff34_ok:ff34.ok Tryd.prog 34:=⟨_,_,Tryd.func34,rfl,by kernel_rfl,rfl,by kernel_rfl,rfl,by kernel_rfl,by kernel_rfl⟩
def ff35:FX:=⟨(.seq (.reg [(xi 2 (.box 0 3 (.t 0))),(xi 4 (.mov (.c (.v (.int .i64 0)))))]) (.seq (.reg [(xi 5 (.fad 0 (.t 2))),(xi 6 (.load false 1 (.t 5))),(xi 7 (.mov (.t 1))),(xi 8 (.call 1 36 [(.t 6),(.t 7)])),(xi 4 (.mov (.t 8)))]) .ret)),[2,8],9,[.t 4],3⟩
theorem ff35_ok:ff35.ok Tryd.prog 35:=⟨_,_,Tryd.func35,rfl,by kernel_rfl,rfl,by kernel_rfl,rfl,by kernel_rfl,by kernel_rfl⟩
def tb14:List PE:=[pe13,pe30,pe36]
theorem tb14_ok:PEsOk Tryd.prog tb14:=⟨pe13_ok,pe30_ok,pe36_ok,trivial⟩
def ex14:List EX:=[]
theorem ex14_ok:EXsOk Tryd.prog ex14:=trivial
def in14:List IN:=[⟨2,34,4,ff34,some ⟨[0,1,2,3,4,5,6,7,8,9,10,11,12,13,14,15,16,17,18,19,20,21,22,23,24,25,26,27,28,29,30,31,32,33,34,35,36,37,38,39,40,41,42,43,44,45,46,47,48],[4,5,6,7,8,9,10,11,12],⟨[],[(6,.v (.i .i64)),(7,.v .b)],[]⟩⟩⟩,⟨4,35,7,ff35,none⟩,⟨5,35,10,ff35,none⟩]
theorem in14_ok:INsOk Tryd.prog in14:=⟨ff34_ok,ff35_ok,ff35_ok,trivial⟩
def F14:DT ((.co (.v (.sl tz1)) (.co (.v .s) .no)):Fm).den→Option (DT (.tup (.co (.v (.i .i64)) (.co (.v (.i .i64)) .no)):Fm).den):=pureT tb14 ex14 in14 9 xf14 _ _ []
def pe14:PE:=⟨14,(.co (.v (.sl tz1)) (.co (.v .s) .no)),.tup (.co (.v (.i .i64)) (.co (.v (.i .i64)) .no)),F14⟩
theorem pe14_ok:pe14.ok Tryd.prog:=pe_of hm tb14_ok ex14_ok in14_ok xf14_ok (by kernel_rfl) (fun _=>rfl)
def xf21:FX:=⟨(.seq (.reg [(xi 4 (.mov (.c (.v (.int .i64 0))))),(xi 5 (.mov (.c (.v (.int .i64 0)))))]) (.seq (.reg [(xi 9 (.mov (.t 0))),(xi 10 (.mov (.t 1))),(xi 11 (.call 0 14 [(.t 9),(.t 10)])),(xi 8 (.mov (.t 11))),(xi 12 (.ext (.t 8) 0)),(xi 13 (.ext (.t 8) 1)),(xi 6 (.mov (.t 12))),(xi 7 (.mov (.t 13)))]) (.seq (.seq (.reg [(xi 14 (.mov (.t 7))),(xi 15 (.bin .neq (.t 14) (.c (.v (.int .i64 0)))))]) (.cond (.t 15) (.seq (.reg [(xi 16 (.mov (.t 7))),(xi 4 (.mov (.c (.v (.int .i64 0))))),(xi 5 (.mov (.t 16)))]) .ret) .skip)) (.seq (.reg [(xi 17 (.mov (.t 0))),(xi 18 (.mov (.t 6))),(xi 19 (.iad 3 (.t 17) (.t 18))),(xi 20 (.fad 1 (.t 19))),(xi 21 (.load false 1 (.t 20))),(xi 4 (.mov (.t 21))),(xi 5 (.mov (.c (.v (.int .i64 0)))))]) .ret)))),[11],22,[.t 4,.t 5],2⟩
theorem xf21_ok:xf21.ok Tryd.prog 21:=⟨_,_,Tryd.func21,rfl,by kernel_rfl,rfl,by kernel_rfl,rfl,by kernel_rfl,by kernel_rfl⟩
def tb21:List PE:=[pe14]
theorem tb21_ok:PEsOk Tryd.prog tb21:=⟨pe14_ok,trivial⟩
def ex21:List EX:=[]
theorem ex21_ok:EXsOk Tryd.prog ex21:=trivial
def in21:List IN:=[]
theorem in21_ok:INsOk Tryd.prog in21:=trivial
def F21:DT ((.co (.v (.sl tz1)) (.co (.v .s) .no)):Fm).den→Option (DT (.tup (.co (.v (.i .i64)) (.co (.v (.i .i64)) .no)):Fm).den):=pureT tb21 ex21 in21 0 xf21 _ _ []
def pe21:PE:=⟨21,(.co (.v (.sl tz1)) (.co (.v .s) .no)),.tup (.co (.v (.i .i64)) (.co (.v (.i .i64)) .no)),F21⟩
theorem pe21_ok:pe21.ok Tryd.prog:=pe_of hm tb21_ok ex21_ok in21_ok xf21_ok (by kernel_rfl) (fun _=>rfl)
def xf22:FX:=⟨(.seq (.reg [(xi 4 (.mov (.c (.sl true [])))),(xi 5 (.mov (.c (.v (.int .i64 0)))))]) (.seq (.reg [(xi 13 (.mov (.t 0))),(xi 14 (.mov (.t 1))),(xi 15 (.call 0 14 [(.t 13),(.t 14)])),(xi 12 (.mov (.t 15))),(xi 16 (.ext (.t 12) 0)),(xi 17 (.ext (.t 12) 1)),(xi 6 (.mov (.t 16))),(xi 7 (.mov (.t 17)))]) (.seq (.seq (.reg [(xi 18 (.mov (.t 7))),(xi 19 (.bin .neq (.t 18) (.c (.v (.int .i64 0)))))]) (.cond (.t 19) (.seq (.reg [(xi 20 (.mov (.t 7))),(xi 4 (.mov (.c (.sl true [])))),(xi 5 (.mov (.t 20)))]) .ret) .skip)) (.seq (.reg [⟨⟨(some 8),(.alloc 1 (.agg [(.v (.bool false)),(.v (.bool false)),(.v (.bool false)),(.v (.bool false)),(.v (.bool false)),(.v (.bool false)),(.v (.bool false)),(.v (.bool false)),(.v (.bool false)),(.v (.bool false)),(.v (.bool false)),(.v (.bool false)),(.v (.bool false)),(.v (.bool false)),(.v (.bool false)),(.v (.bool false)),(.v (.bool false)),(.v (.bool false)),(.v (.bool false)),(.v (.bool false)),(.v (.bool false)),(.v (.bool false)),(.v (.bool false)),(.v (.bool false)),(.v (.bool false)),(.v (.bool false)),(.v (.bool false)),(.v (.bool false)),(.v (.bool false)),(.v (.bool false)),(.v (.bool false)),(.v (.bool false)),(.v (.bool false)),(.v (.bool false)),(.v (.bool false)),(.v (.bool false)),(.v (.bool false)),(.v (.bool false)),(.v (.bool false)),(.v (.bool false)),(.v (.bool false)),(.v (.bool false)),(.v (.bool false)),(.v (.bool false)),(.v (.bool false)),(.v (.bool false)),(.v (.bool false)),(.v (.bool false)),(.v (.bool false)),(.v (.bool false)),(.v (.bool false)),(.v (.bool false)),(.v (.bool false)),(.v (.bool false)),(.v (.bool false)),(.v (.bool false)),(.v (.bool false)),(.v (.bool false)),(.v (.bool false)),(.v (.bool false)),(.v (.bool false)),(.v (.bool false)),(.v (.bool false)),(.v (.bool false))])),none⟩,(.ar .b),[],[]⟩]) (.seq (.reg [(xi 9 (.mov (.c (.sl true []))))]) (.seq (.seq (.reg [(xi 21 (.mov (.t 0))),(xi 22 (.len (.t 21))),(xi 23 (.mov (.c (.v (.int .i64 0)))))]) (.blk 0 (.loop ⟨[9,10,11,23,24,25,26,27,28,29,30,31,32,33,34,35,36,37,38,39,40,41,42,43,44,45,46],[1,2],⟨[],[(9,.ow 2 1),(23,.v (.i .i64))],[⟨1,.row (.v (.ar .b)),true⟩,⟨2,.rows (.i .i64) 1,false⟩]⟩⟩ (.seq (.reg [(xi 24 (.bin .lss (.t 23) (.t 22)))]) (.seq (.cond (.t 24) .skip (.exit 0)) (.seq (.cutN ⟨[9,10,11,25,26,27,28,29,30,31,32,33,34,35,36,37,38,39,40,41,42,43,44,45],[1,2],⟨[],[(9,.ow 2 1)],[⟨1,.row (.v (.ar .b)),true⟩,⟨2,.rows (.i .i64) 1,false⟩]⟩⟩ (.blk 1 (.seq (.reg [(xi 25 (.mov (.t 23))),(xi 10 (.mov (.t 25)))]) (.seq (.reg [(xi 26 (.mov (.t 0))),(xi 27 (.mov (.t 6))),(xi 28 (.mov (.t 10))),(xi 29 (.bin .add (.t 27) (.t 28))),(xi 30 (.mov (.t 0))),(xi 31 (.len (.t 30))),(xi 32 (.bin .rem (.t 29) (.t 31))),(xi 33 (.iad 3 (.t 26) (.t 32))),(xi 34 (.fad 1 (.t 33))),(xi 35 (.load false 1 (.t 34))),(xi 11 (.mov (.t 35)))]) (.seq (.reg [(xi 36 (.mov (.t 11))),(xi 37 (.iaA 64 1 (.t 8) (.t 36))),(xi 38 (.load false 1 (.t 37))),(xi 39 (.un .not (.t 38)))]) (.cond (.t 39) (.seq (.reg [(xi 40 (.mov (.t 11))),(xi 41 (.iaA 64 1 (.t 8) (.t 40))),(xz (.store 1 (.t 41) (.c (.v (.bool true)))))]) (.reg [(xi 42 (.mov (.t 9))),(xi 43 (.mov (.t 11))),(xi 44 (.bsl 1 (.v (.int .i64 0)) 1 [(0,(.t 43))])),⟨⟨(some 45),(.app 2 1 8 (.v (.int .i64 0)) (.t 42) (.t 44)),none⟩,(.i .i64),[],[]⟩,(xi 9 (.mov (.t 45)))])) .skip)))))) (.reg [(xi 46 (.bin .add (.t 23) (.c (.v (.int .i64 1))))),(xi 23 (.mov (.t 46)))]))))))) (.seq (.reg [(xi 47 (.mov (.t 9))),(xi 4 (.mov (.t 47))),(xi 5 (.mov (.c (.v (.int .i64 0)))))]) .ret))))))),[15,8,45],48,[.t 4,.t 5],4⟩
theorem xf22_ok:xf22.ok Tryd.prog 22:=⟨_,_,Tryd.func22,rfl,by kernel_rfl,rfl,by kernel_rfl,rfl,by kernel_rfl,by kernel_rfl⟩
def tb22:List PE:=[pe14]
theorem tb22_ok:PEsOk Tryd.prog tb22:=⟨pe14_ok,trivial⟩
def ex22:List EX:=[]
theorem ex22_ok:EXsOk Tryd.prog ex22:=trivial
def in22:List IN:=[]
theorem in22_ok:INsOk Tryd.prog in22:=trivial
def F22:DT ((.co (.v (.sl tz1)) (.co (.v .s) .no)):Fm).den→Option (DT (.tup (.co (.v (.sl (.i .i64))) (.co (.v (.i .i64)) .no)):Fm).den):=pureT tb22 ex22 in22 0 xf22 _ _ [2]
def pe22:PE:=⟨22,(.co (.v (.sl tz1)) (.co (.v .s) .no)),.tup (.co (.v (.sl (.i .i64))) (.co (.v (.i .i64)) .no)),F22⟩
theorem pe22_ok:pe22.ok Tryd.prog:=pe_of hm tb22_ok ex22_ok in22_ok xf22_ok (by kernel_rfl) (fun _=>rfl)
def xf15:FX:=⟨(.seq (.reg [(xi 1 (.box 0 3 (.t 0))),⟨⟨(some 2),(.mov (.c (.v (.string ⟨#[]⟩)))),none⟩,.b,[],[]⟩]) (.seq (.reg [⟨⟨(some 3),(.mov (.c (.v (.string ⟨#[]⟩)))),none⟩,.b,[],[]⟩]) (.seq (.cutN ⟨[3,4,5,6,7,8,9,10,11,12,13,14],[],⟨[],[(3,.v .s)],[]⟩⟩ (.seq (.reg [(xi 4 (.fad 1 (.t 1))),(xi 5 (.load false 1 (.t 4))),(xi 6 (.bin .gtr (.t 5) (.c (.v (.int .i64 9)))))]) (.cond (.t 6) (.reg [(xi 7 (.fad 1 (.t 1))),(xi 8 (.load false 1 (.t 7))),(xi 9 (.bin .quo (.t 8) (.c (.v (.int .i64 10))))),(xi 10 (.bin .rem (.t 9) (.c (.v (.int .i64 10))))),(xi 11 (.bin .add (.c (.v (.int .i64 48))) (.t 10))),(xi 12 (.conv .u8 (.t 11))),(xi 13 (.bsl 1 (.v (.int .u8 0)) 1 [(0,(.t 12))])),(xi 14 (.bts (.t 13))),(xi 3 (.mov (.t 14)))]) .skip))) (.seq (.reg [(xi 15 (.mov (.t 3))),(xi 16 (.fad 1 (.t 1))),(xi 17 (.load false 1 (.t 16))),(xi 18 (.bin .rem (.t 17) (.c (.v (.int .i64 10))))),(xi 19 (.bin .add (.t 18) (.c (.v (.int .i64 10))))),(xi 20 (.bin .rem (.t 19) (.c (.v (.int .i64 10))))),(xi 21 (.bin .add (.c (.v (.int .i64 48))) (.t 20))),(xi 22 (.conv .u8 (.t 21))),(xi 23 (.bsl 1 (.v (.int .u8 0)) 1 [(0,(.t 22))])),(xi 24 (.bts (.t 23))),(xi 25 (.bin .add (.t 15) (.t 24))),⟨⟨(some 26),(.bin .add (.t 25) (.c (.v (.string ⟨#[47]⟩)))),none⟩,.b,[],[]⟩,(xi 27 (.fad 2 (.t 1))),(xi 28 (.load false 1 (.t 27))),(xi 29 (.bin .rem (.t 28) (.c (.v (.int .i64 10))))),(xi 30 (.bin .add (.t 29) (.c (.v (.int .i64 10))))),(xi 31 (.bin .rem (.t 30) (.c (.v (.int .i64 10))))),(xi 32 (.bin .add (.c (.v (.int .i64 48))) (.t 31))),(xi 33 (.conv .u8 (.t 32))),(xi 34 (.bsl 1 (.v (.int .u8 0)) 1 [(0,(.t 33))])),(xi 35 (.bts (.t 34))),(xi 36 (.bin .add (.t 26) (.t 35))),(xi 2 (.mov (.t 36)))]) .ret)))),[1],37,[.t 2],2⟩
def tb15:List PE:=[]
def ex15:List EX:=[]
def in15:List IN:=[]
def F15:DT ((.co (.v tz1) .no):Fm).den→Option (DT (.v .s:Fm).den):=pureT tb15 ex15 in15 0 xf15 _ _ []
def xf16:FX:=⟨(.seq (.reg [(xi 2 (.mov (.c (.sl true []))))]) (.seq (.cut ⟨[2,3,4,5,6,7,8,9,10,11,12],[],⟨[],[],[]⟩⟩ (.seq (.cutN ⟨[3,4,5,6,7,8,9,10],[],⟨[],[(10,.v .b)],[]⟩⟩ (.reg [(xi 3 (.mov (.t 0))),(xi 4 (.len (.t 3))),(xi 5 (.bin .gtr (.t 4) (.c (.v (.int .i64 60))))),(xi 6 (.mov (.t 5))),(xg 7 (.mov (.t 0)) 6 true),(xg 8 (.len (.t 7)) 6 true),(xg 9 (.bin .leq (.t 8) (.c (.v (.int .i64 2048)))) 6 true),(xi 10 (.pick (.t 6) (.t 9) (.c (.v (.bool false)))))])) (.cond (.t 10) (.seq (.reg [(xi 11 (.mov (.t 0))),(xi 12 (.slc 3 (.t 11) none (some (.c (.v (.int .i64 60)))) none)),(xi 2 (.mov (.t 12)))]) .ret) .skip))) (.seq (.seq (.reg [(xi 13 (.mov (.t 0))),(xi 14 (.len (.t 13))),(xi 15 (.bin .gtr (.t 14) (.c (.v (.int .i64 2049)))))]) (.cond (.t 15) (.seq (.reg [(xi 16 (.mov (.t 0))),(xi 17 (.slc 3 (.t 16) none (some (.c (.v (.int .i64 2049)))) none)),(xi 2 (.mov (.t 17)))]) .ret) .skip)) (.seq (.reg [(xi 18 (.mov (.t 0))),(xi 2 (.mov (.t 18)))]) .ret)))),[],19,[.t 2],1⟩
theorem xf16_ok:xf16.ok Tryd.prog 16:=⟨_,_,Tryd.func16,rfl,by kernel_rfl,rfl,by kernel_rfl,rfl,by kernel_rfl,by kernel_rfl⟩
def tb16:List PE:=[]
theorem tb16_ok:PEsOk Tryd.prog tb16:=trivial
def ex16:List EX:=[]
theorem ex16_ok:EXsOk Tryd.prog ex16:=trivial
def in16:List IN:=[]
theorem in16_ok:INsOk Tryd.prog in16:=trivial
def F16:DT ((.co (.v (.sl tz1)) .no):Fm).den→Option (DT (.v (.sl tz1):Fm).den):=pureT tb16 ex16 in16 0 xf16 _ _ []
def pe16:PE:=⟨16,(.co (.v (.sl tz1)) .no),.v (.sl tz1),F16⟩
theorem pe16_ok:pe16.ok Tryd.prog:=pe_of hm tb16_ok ex16_ok in16_ok xf16_ok (by kernel_rfl) (fun _=>rfl)
def xf17:FX:=⟨(.seq (.reg [⟨⟨(some 2),(.mov (.c (.v (.string ⟨#[]⟩)))),none⟩,.b,[],[]⟩]) (.seq (.seq (.reg [(xi 3 (.mov (.t 0))),(xi 4 (.lenS (.t 3))),(xi 5 (.bin .gtr (.t 4) (.c (.v (.int .i64 300)))))]) (.cond (.t 5) (.seq (.reg [(xi 6 (.mov (.t 0))),(xi 7 (.slS (.t 6) none (some (.c (.v (.int .i64 300)))))),(xi 2 (.mov (.t 7)))]) .ret) .skip)) (.seq (.reg [(xi 8 (.mov (.t 0))),(xi 2 (.mov (.t 8)))]) .ret))),[],9,[.t 2],1⟩
theorem xf17_ok:xf17.ok Tryd.prog 17:=⟨_,_,Tryd.func17,rfl,by kernel_rfl,rfl,by kernel_rfl,rfl,by kernel_rfl,by kernel_rfl⟩
def tb17:List PE:=[]
theorem tb17_ok:PEsOk Tryd.prog tb17:=trivial
def ex17:List EX:=[]
theorem ex17_ok:EXsOk Tryd.prog ex17:=trivial
def in17:List IN:=[]
theorem in17_ok:INsOk Tryd.prog in17:=trivial
def F17:DT ((.co (.v .s) .no):Fm).den→Option (DT (.v .s:Fm).den):=pureT tb17 ex17 in17 0 xf17 _ _ []
def pe17:PE:=⟨17,(.co (.v .s) .no),.v .s,F17⟩
theorem pe17_ok:pe17.ok Tryd.prog:=pe_of hm tb17_ok ex17_ok in17_ok xf17_ok (by kernel_rfl) (fun _=>rfl)
def xf49:FX:=⟨(.seq (.reg [(xi 2 (.mov (.c (.v (.int .u64 0)))))]) (.seq (.reg [(xi 5 (.mov (.t 0))),(xi 6 (.bin .shl (.t 5) (.c (.v (.int .u64 40))))),(xi 3 (.mov (.t 6)))]) (.seq (.seq (.reg [(xi 4 (.mov (.c (.v (.int .i64 0)))))]) (.blk 0 (.loop ⟨[3,4,7,8,9,10,11,12,13],[],⟨[],[(3,.v (.i .u64)),(4,.v (.i .i64))],[]⟩⟩ (.seq (.seq (.reg [(xi 7 (.mov (.t 4))),(xi 8 (.bin .lss (.t 7) (.c (.v (.int .i64 435)))))]) (.cond (.t 8) .skip (.exit 0))) (.seq (.blk 1 (.reg [(xi 11 (.mov (.t 3))),(xi 12 (.mov (.t 0))),(xi 13 (.bin .add (.t 11) (.t 12))),(xi 3 (.mov (.t 13)))])) (.reg [(xi 9 (.mov (.t 4))),(xi 10 (.bin .add (.t 9) (.c (.v (.int .i64 1))))),(xi 4 (.mov (.t 10)))])))))) (.seq (.reg [(xi 14 (.mov (.t 3))),(xi 2 (.mov (.t 14)))]) .ret)))),[],15,[.t 2],1⟩
theorem xf49_ok:xf49.ok Tryd.prog 49:=⟨_,_,Tryd.func49,rfl,by kernel_rfl,rfl,by kernel_rfl,rfl,by kernel_rfl,by kernel_rfl⟩
def tb49:List PE:=[]
theorem tb49_ok:PEsOk Tryd.prog tb49:=trivial
def ex49:List EX:=[]
theorem ex49_ok:EXsOk Tryd.prog ex49:=trivial
def in49:List IN:=[]
theorem in49_ok:INsOk Tryd.prog in49:=trivial
def F49:DT ((.co (.v (.i .u64)) .no):Fm).den→Option (DT (.v (.i .u64):Fm).den):=pureT tb49 ex49 in49 0 xf49 _ _ []
def pe49:PE:=⟨49,(.co (.v (.i .u64)) .no),.v (.i .u64),F49⟩
theorem pe49_ok:pe49.ok Tryd.prog:=pe_of hm tb49_ok ex49_ok in49_ok xf49_ok (by kernel_rfl) (fun _=>rfl)
def xf37:FX:=⟨(.seq (.reg [(xi 4 (.mov (.c (.v (.int .u64 0)))))]) (.seq (.seq (.reg [(xi 5 (.mov (.c (.v (.int .i64 0)))))]) (.blk 0 (.loop ⟨[0,5,6,7,8,9,10,11,12,13,14,15,16,17,18],[],⟨[],[(0,.v (.i .u64)),(5,.v (.i .i64))],[]⟩⟩ (.seq (.seq (.reg [(xi 6 (.mov (.t 5))),(xi 7 (.mov (.t 1))),(xi 8 (.lenS (.t 7))),(xi 9 (.bin .lss (.t 6) (.t 8)))]) (.cond (.t 9) .skip (.exit 0))) (.seq (.blk 1 (.reg [(xi 12 (.mov (.t 0))),(xi 13 (.mov (.t 1))),(xi 14 (.mov (.t 5))),(xi 15 (.ixS (.t 13) (.t 14))),(xi 16 (.conv .u64 (.t 15))),(xi 17 (.bin .xor (.t 12) (.t 16))),(xi 18 (.call 0 49 [(.t 17)])),(xi 0 (.mov (.t 18)))])) (.reg [(xi 10 (.mov (.t 5))),(xi 11 (.bin .add (.t 10) (.c (.v (.int .i64 1))))),(xi 5 (.mov (.t 11)))])))))) (.seq (.reg [(xi 19 (.mov (.t 0))),(xi 4 (.mov (.t 19)))]) .ret))),[18],20,[.t 4],2⟩
theorem xf37_ok:xf37.ok Tryd.prog 37:=⟨_,_,Tryd.func37,rfl,by kernel_rfl,rfl,by kernel_rfl,rfl,by kernel_rfl,by kernel_rfl⟩
def tb37:List PE:=[pe49]
theorem tb37_ok:PEsOk Tryd.prog tb37:=⟨pe49_ok,trivial⟩
def ex37:List EX:=[]
theorem ex37_ok:EXsOk Tryd.prog ex37:=trivial
def in37:List IN:=[]
theorem in37_ok:INsOk Tryd.prog in37:=trivial
def F37:DT ((.co (.v (.i .u64)) (.co (.v .s) .no)):Fm).den→Option (DT (.v (.i .u64):Fm).den):=pureT tb37 ex37 in37 0 xf37 _ _ []
def pe37:PE:=⟨37,(.co (.v (.i .u64)) (.co (.v .s) .no)),.v (.i .u64),F37⟩
theorem pe37_ok:pe37.ok Tryd.prog:=pe_of hm tb37_ok ex37_ok in37_ok xf37_ok (by kernel_rfl) (fun _=>rfl)
def xf18:FX:=⟨(.seq (.reg [(xi 2 (.mov (.c (.v (.int .u64 0)))))]) (.seq (.reg [⟨⟨(some 3),(.mov (.c (.v (.string ⟨#[]⟩)))),none⟩,.b,[],[]⟩]) (.seq (.seq (.reg [(xi 4 (.mov (.c (.v (.int .i64 0)))))]) (.blk 0 (.loop ⟨[3,4,5,6,7,8,9,10,11,12,13,14,15,16],[],⟨[],[(3,.v .s),(4,.v (.i .i64))],[]⟩⟩ (.seq (.seq (.reg [(xi 5 (.mov (.t 4))),(xi 6 (.mov (.t 0))),(xi 7 (.len (.t 6))),(xi 8 (.bin .lss (.t 5) (.t 7)))]) (.cond (.t 8) .skip (.exit 0))) (.seq (.blk 1 (.reg [(xi 11 (.mov (.t 3))),(xi 12 (.mov (.t 0))),(xi 13 (.mov (.t 4))),(xi 14 (.iad 1 (.t 12) (.t 13))),(xi 15 (.load false 1 (.t 14))),(xi 16 (.bin .add (.t 11) (.t 15))),(xi 3 (.mov (.t 16)))])) (.reg [(xi 9 (.mov (.t 4))),(xi 10 (.bin .add (.t 9) (.c (.v (.int .i64 1))))),(xi 4 (.mov (.t 10)))])))))) (.seq (.reg [(xi 17 (.mov (.t 3))),(xi 18 (.call 0 37 [(.c (.v (.int .u64 14695981039346656037))),(.t 17)])),(xi 2 (.mov (.t 18)))]) .ret)))),[18],19,[.t 2],2⟩
theorem xf18_ok:xf18.ok Tryd.prog 18:=⟨_,_,Tryd.func18,rfl,by kernel_rfl,rfl,by kernel_rfl,rfl,by kernel_rfl,by kernel_rfl⟩
def tb18:List PE:=[pe37]
theorem tb18_ok:PEsOk Tryd.prog tb18:=⟨pe37_ok,trivial⟩
def ex18:List EX:=[]
theorem ex18_ok:EXsOk Tryd.prog ex18:=trivial
def in18:List IN:=[]
theorem in18_ok:INsOk Tryd.prog in18:=trivial
def F18:DT ((.co (.v (.sl .s)) .no):Fm).den→Option (DT (.v (.i .u64):Fm).den):=pureT tb18 ex18 in18 0 xf18 _ _ []
def pe18:PE:=⟨18,(.co (.v (.sl .s)) .no),.v (.i .u64),F18⟩
theorem pe18_ok:pe18.ok Tryd.prog:=pe_of hm tb18_ok ex18_ok in18_ok xf18_ok (by kernel_rfl) (fun _=>rfl)
def xf19:FX:=⟨(.seq (.reg [(xi 4 (.mov (.c (.v (.bool false)))))]) (.seq (.seq (.reg [(xi 6 (.mov (.t 0))),(xi 7 (.len (.t 6))),(xi 8 (.mov (.t 1))),(xi 9 (.len (.t 8))),(xi 10 (.bin .neq (.t 7) (.t 9)))]) (.cond (.t 10) (.seq (.reg [(xi 4 (.mov (.c (.v (.bool false)))))]) .ret) .skip)) (.seq (.seq (.reg [(xi 5 (.mov (.c (.v (.int .i64 0)))))]) (.blk 0 (.loop ⟨[4,5,11,12,13,14,15,16,17,18,19,20,21,22,23,24,25],[],⟨[],[(5,.v (.i .i64))],[]⟩⟩ (.seq (.seq (.reg [(xi 11 (.mov (.t 5))),(xi 12 (.mov (.t 0))),(xi 13 (.len (.t 12))),(xi 14 (.bin .lss (.t 11) (.t 13)))]) (.cond (.t 14) .skip (.exit 0))) (.seq (.blk 1 (.seq (.rdr [(xi 17 (.mov (.t 0))),(xi 18 (.mov (.t 5))),(xi 19 (.iad 3 (.t 17) (.t 18))),(xi 20 (.load true 3 (.t 19))),(xi 21 (.mov (.t 1))),(xi 22 (.mov (.t 5))),(xi 23 (.iad 3 (.t 21) (.t 22))),(xi 24 (.load true 3 (.t 23))),(xi 25 (.eqA true 3 [(0,.i),(1,.i),(2,.i)] (.t 20) (.t 24)))]) (.cond (.t 25) (.seq (.reg [(xi 4 (.mov (.c (.v (.bool false)))))]) .ret) .skip))) (.reg [(xi 15 (.mov (.t 5))),(xi 16 (.bin .add (.t 15) (.c (.v (.int .i64 1))))),(xi 5 (.mov (.t 16)))])))))) (.seq (.reg [(xi 4 (.mov (.c (.v (.bool true)))))]) .ret)))),[],26,[.t 4],1⟩
theorem xf19_ok:xf19.ok Tryd.prog 19:=⟨_,_,Tryd.func19,rfl,by kernel_rfl,rfl,by kernel_rfl,rfl,by kernel_rfl,by kernel_rfl⟩
def tb19:List PE:=[]
theorem tb19_ok:PEsOk Tryd.prog tb19:=trivial
def ex19:List EX:=[]
theorem ex19_ok:EXsOk Tryd.prog ex19:=trivial
def in19:List IN:=[]
theorem in19_ok:INsOk Tryd.prog in19:=trivial
def F19:DT ((.co (.v (.sl tz1)) (.co (.v (.sl tz1)) .no)):Fm).den→Option (DT (.v .b:Fm).den):=pureT tb19 ex19 in19 0 xf19 _ _ []
def pe19:PE:=⟨19,(.co (.v (.sl tz1)) (.co (.v (.sl tz1)) .no)),.v .b,F19⟩
theorem pe19_ok:pe19.ok Tryd.prog:=pe_of hm tb19_ok ex19_ok in19_ok xf19_ok (by kernel_rfl) (fun _=>rfl)
def xf38:FX:=⟨(.seq (.reg [⟨⟨(some 2),(.mov (.c (.v (.string ⟨#[]⟩)))),none⟩,.b,[],[]⟩]) (.seq (.seq (.reg [(xi 3 (.mov (.t 0))),(xi 4 (.bin .lss (.t 3) (.c (.v (.int .i64 10)))))]) (.cond (.t 4) (.seq (.reg [(xi 5 (.mov (.t 0))),(xi 6 (.bin .add (.c (.v (.int .i64 48))) (.t 5))),(xi 7 (.conv .u8 (.t 6))),(xi 8 (.bsl 1 (.v (.int .u8 0)) 1 [(0,(.t 7))])),(xi 9 (.bts (.t 8))),(xi 2 (.mov (.t 9)))]) .ret) .skip)) (.seq (.reg [(xi 10 (.mov (.t 0))),(xi 11 (.bin .quo (.t 10) (.c (.v (.int .i64 10))))),(xi 12 (.call 0 38 [(.t 11)])),(xi 13 (.mov (.t 0))),(xi 14 (.bin .rem (.t 13) (.c (.v (.int .i64 10))))),(xi 15 (.call 1 38 [(.t 14)])),(xi 16 (.bin .add (.t 12) (.t 15))),(xi 2 (.mov (.t 16)))]) .ret))),[12,15],17,[.t 2],3⟩
theorem xf38_ok:xf38.ok Tryd.prog 38:=⟨_,_,Tryd.func38,rfl,by kernel_rfl,rfl,by kernel_rfl,rfl,by kernel_rfl,by kernel_rfl⟩
def tb38 (F:DT ((.co (.v (.i .i64)) .no):Fm).den→Option (DT (.v .s:Fm).den)):List PE:=[⟨38,(.co (.v (.i .i64)) .no),.v .s,F⟩]
theorem tb38_ok {F:DT ((.co (.v (.i .i64)) .no):Fm).den→Option (DT (.v .s:Fm).den)} (h:(⟨38,(.co (.v (.i .i64)) .no),.v .s,F⟩:PE).ok Tryd.prog):PEsOk Tryd.prog (tb38 F):=⟨h,trivial⟩
def ex38:List EX:=[]
theorem ex38_ok:EXsOk Tryd.prog ex38:=trivial
def in38:List IN:=[]
theorem in38_ok:INsOk Tryd.prog in38:=trivial
def G38 (F:DT ((.co (.v (.i .i64)) .no):Fm).den→Option (DT (.v .s:Fm).den)):DT ((.co (.v (.i .i64)) .no):Fm).den→Option (DT (.v .s:Fm).den):=pureT (tb38 F) ex38 in38 0 xf38 _ _ []
def K38:Nat→DT ((.co (.v (.i .i64)) .no):Fm).den→Option (DT (.v .s:Fm).den)
 | 0=>fun _=>none
 | k+1=>G38 (K38 k)
theorem k38_ok:∀ k,(⟨38,(.co (.v (.i .i64)) .no),.v .s,K38 k⟩:PE).ok Tryd.prog
 | 0=>⟨rfl,rfl,rfl,rfl,rfl,fun v y h=>by cases h⟩
 | k+1=>pe_of hm (tb38_ok (k38_ok k)) ex38_ok in38_ok xf38_ok (by kernel_rfl) (fun _=>rfl)
def F38:DT ((.co (.v (.i .i64)) .no):Fm).den→Option (DT (.v .s:Fm).den):=K38 12
def pe38:PE:=⟨38,(.co (.v (.i .i64)) .no),.v .s,F38⟩
theorem pe38_ok:pe38.ok Tryd.prog:=k38_ok 12
def xf39:FX:=⟨(.seq (.reg [(xi 2 (.box 0 3 (.t 0))),(xi 3 (.box 1 3 (.t 1))),(xi 4 (.mov (.c (.v (.bool false)))))]) (.seq (.seq (.reg [(xi 5 (.fad 0 (.t 2))),(xi 6 (.load false 1 (.t 5))),(xi 7 (.fad 0 (.t 3))),(xi 8 (.load false 1 (.t 7))),(xi 9 (.bin .neq (.t 6) (.t 8)))]) (.cond (.t 9) (.seq (.reg [(xi 10 (.fad 0 (.t 2))),(xi 11 (.load false 1 (.t 10))),(xi 12 (.fad 0 (.t 3))),(xi 13 (.load false 1 (.t 12))),(xi 14 (.bin .lss (.t 11) (.t 13))),(xi 4 (.mov (.t 14)))]) .ret) .skip)) (.seq (.seq (.reg [(xi 15 (.fad 1 (.t 2))),(xi 16 (.load false 1 (.t 15))),(xi 17 (.fad 1 (.t 3))),(xi 18 (.load false 1 (.t 17))),(xi 19 (.bin .neq (.t 16) (.t 18)))]) (.cond (.t 19) (.seq (.reg [(xi 20 (.fad 1 (.t 2))),(xi 21 (.load false 1 (.t 20))),(xi 22 (.fad 1 (.t 3))),(xi 23 (.load false 1 (.t 22))),(xi 24 (.bin .lss (.t 21) (.t 23))),(xi 4 (.mov (.t 24)))]) .ret) .skip)) (.seq (.reg [(xi 25 (.fad 2 (.t 2))),(xi 26 (.load false 1 (.t 25))),(xi 27 (.fad 2 (.t 3))),(xi 28 (.load false 1 (.t 27))),(xi 29 (.bin .lss (.t 26) (.t 28))),(xi 4 (.mov (.t 29)))]) .ret)))),[2,3],30,[.t 4],3⟩
theorem xf39_ok:xf39.ok Tryd.prog 39:=⟨_,_,Tryd.func39,rfl,by kernel_rfl,rfl,by kernel_rfl,rfl,by kernel_rfl,by kernel_rfl⟩
def tb39:List PE:=[]
theorem tb39_ok:PEsOk Tryd.prog tb39:=trivial
def ex39:List EX:=[]
theorem ex39_ok:EXsOk Tryd.prog ex39:=trivial
def in39:List IN:=[]
theorem in39_ok:INsOk Tryd.prog in39:=trivial
def F39:DT ((.co (.v tz1) (.co (.v tz1) .no)):Fm).den→Option (DT (.v .b:Fm).den):=pureT tb39 ex39 in39 0 xf39 _ _ []
def pe39:PE:=⟨39,(.co (.v tz1) (.co (.v tz1) .no)),.v .b,F39⟩
theorem pe39_ok:pe39.ok Tryd.prog:=pe_of hm tb39_ok ex39_ok in39_ok xf39_ok (by kernel_rfl) (fun _=>rfl)
def xf23:FX:=⟨(.seq (.reg [(xi 2 (.mov (.c (.v (.bool false)))))]) (.seq (.seq (.reg [(xi 3 (.mov (.c (.v (.int .i64 0)))))]) (.blk 0 (.loop ⟨[2,3,4,5,6,7,8,9,10,11,12,13,14,15,16,17,18,19,20,21,22,23,24,25,26,27,28,29,30,31,32,33,34,35,36,37,38,39,40],[],⟨[],[(3,.v (.i .i64))],[]⟩⟩ (.seq (.seq (.reg [(xi 4 (.mov (.t 3))),(xi 5 (.mov (.t 0))),(xi 6 (.len (.t 5))),(xi 7 (.bin .lss (.t 4) (.t 6)))]) (.cond (.t 7) .skip (.exit 0))) (.seq (.cut ⟨[2,10,11,12,13,14,15,16,17,18,19,20,21,22,23,24,25,26,27,28,29,30,31,32,33,34,35,36,37,38,39,40],[],⟨[],[],[]⟩⟩ (.blk 1 (.seq (.cutN ⟨[10,11,12,13,14,15,16,17,18,19,20,21,22,23,24,25,26,27,28,29,30,31,32,33,34,35,36,37,38,39,40],[],⟨[],[(40,.v .b)],[]⟩⟩ (.dr [] [(xi 10 (.mov (.t 0))),(xi 11 (.mov (.t 3))),(xi 12 (.iad 3 (.t 10) (.t 11))),(xi 13 (.fad 1 (.t 12))),(xi 14 (.load false 1 (.t 13))),(xi 15 (.bin .lss (.t 14) (.c (.v (.int .i64 0))))),(xi 16 (.mov (.t 15))),(xg 17 (.mov (.t 0)) 16 false),(xg 18 (.mov (.t 3)) 16 false),(xg 19 (.iad 3 (.t 17) (.t 18)) 16 false),(xg 20 (.fad 1 (.t 19)) 16 false),(xg 21 (.load false 1 (.t 20)) 16 false),(xg 22 (.bin .gtr (.t 21) (.c (.v (.int .i64 63)))) 16 false),(xi 23 (.pick (.t 16) (.c (.v (.bool true))) (.t 22))),(xi 24 (.mov (.t 23))),(xg 25 (.mov (.t 3)) 24 false),(xg 26 (.bin .gtr (.t 25) (.c (.v (.int .i64 0)))) 24 false),(xg 27 (.mov (.t 26)) 24 false),(xg 28 (.mov (.t 0)) 27 true),(xg 29 (.mov (.t 3)) 27 true),(xg 30 (.bin .sub (.t 29) (.c (.v (.int .i64 1)))) 27 true),(xg 31 (.iad 3 (.t 28) (.t 30)) 27 true),(xg 32 (.load true 3 (.t 31)) 27 true),(xg 33 (.mov (.t 0)) 27 true),(xg 34 (.mov (.t 3)) 27 true),(xg 35 (.iad 3 (.t 33) (.t 34)) 27 true),(xg 36 (.load true 3 (.t 35)) 27 true),(xg 37 (.callG 0 39 [(.t 32),(.t 36)]) 27 true),(xg 38 (.un .not (.t 37)) 27 true),(xg 39 (.pick (.t 27) (.t 38) (.c (.v (.bool false)))) 24 false),(xi 40 (.pick (.t 24) (.c (.v (.bool true))) (.t 39)))])) (.cond (.t 40) (.seq (.reg [(xi 2 (.mov (.c (.v (.bool false)))))]) .ret) .skip)))) (.reg [(xi 8 (.mov (.t 3))),(xi 9 (.bin .add (.t 8) (.c (.v (.int .i64 1))))),(xi 3 (.mov (.t 9)))])))))) (.seq (.reg [(xi 41 (.mov (.t 0))),(xi 42 (.len (.t 41))),(xi 43 (.bin .leq (.t 42) (.c (.v (.int .i64 2048))))),(xi 2 (.mov (.t 43)))]) .ret))),[37],44,[.t 2],2⟩
theorem xf23_ok:xf23.ok Tryd.prog 23:=⟨_,_,Tryd.func23,rfl,by kernel_rfl,rfl,by kernel_rfl,rfl,by kernel_rfl,by kernel_rfl⟩
def tb23:List PE:=[pe39]
theorem tb23_ok:PEsOk Tryd.prog tb23:=⟨pe39_ok,trivial⟩
def ex23:List EX:=[]
theorem ex23_ok:EXsOk Tryd.prog ex23:=trivial
def in23:List IN:=[]
theorem in23_ok:INsOk Tryd.prog in23:=trivial
def F23:DT ((.co (.v (.sl tz1)) .no):Fm).den→Option (DT (.v .b:Fm).den):=pureT tb23 ex23 in23 0 xf23 _ _ []
def pe23:PE:=⟨23,(.co (.v (.sl tz1)) .no),.v .b,F23⟩
theorem pe23_ok:pe23.ok Tryd.prog:=pe_of hm tb23_ok ex23_ok in23_ok xf23_ok (by kernel_rfl) (fun _=>rfl)
def xf24:FX:=⟨(.seq (.reg [(xi 4 (.mov (.c (.v (.int .i64 0)))))]) (.seq (.reg [(xi 7 (.mov (.t 1))),⟨⟨(some 8),(.bsl 1 (.v (.string ⟨#[]⟩)) 1 [(0,(.t 7))]),none⟩,.b,[],[]⟩,(xi 9 (.call 0 18 [(.t 8)])),(xi 5 (.mov (.t 9)))]) (.seq (.seq (.reg [(xi 6 (.mov (.c (.v (.int .i64 0)))))]) (.blk 0 (.loop ⟨[4,6,10,11,12,13,14,15,16,17,18,19,20,21,22,23],[],⟨[],[(6,.v (.i .i64))],[]⟩⟩ (.seq (.seq (.reg [(xi 10 (.mov (.t 6))),(xi 11 (.mov (.t 0))),(xi 12 (.len (.t 11))),(xi 13 (.bin .lss (.t 10) (.t 12)))]) (.cond (.t 13) .skip (.exit 0))) (.seq (.blk 1 (.seq (.reg [(xi 16 (.mov (.t 0))),(xi 17 (.mov (.t 6))),(xi 18 (.iad 3 (.t 16) (.t 17))),(xi 19 (.fad 0 (.t 18))),(xi 20 (.load false 1 (.t 19))),(xi 21 (.mov (.t 5))),(xi 22 (.bin .geq (.t 20) (.t 21)))]) (.cond (.t 22) (.seq (.reg [(xi 23 (.mov (.t 6))),(xi 4 (.mov (.t 23)))]) .ret) .skip))) (.reg [(xi 14 (.mov (.t 6))),(xi 15 (.bin .add (.t 14) (.c (.v (.int .i64 1))))),(xi 6 (.mov (.t 15)))])))))) (.seq (.reg [(xi 4 (.mov (.c (.v (.int .i64 0)))))]) .ret)))),[9],24,[.t 4],2⟩
theorem xf24_ok:xf24.ok Tryd.prog 24:=⟨_,_,Tryd.func24,rfl,by kernel_rfl,rfl,by kernel_rfl,rfl,by kernel_rfl,by kernel_rfl⟩
def tb24:List PE:=[pe18]
theorem tb24_ok:PEsOk Tryd.prog tb24:=⟨pe18_ok,trivial⟩
def ex24:List EX:=[]
theorem ex24_ok:EXsOk Tryd.prog ex24:=trivial
def in24:List IN:=[]
theorem in24_ok:INsOk Tryd.prog in24:=trivial
def F24:DT ((.co (.v (.sl tz1)) (.co (.v .s) .no)):Fm).den→Option (DT (.v (.i .i64):Fm).den):=pureT tb24 ex24 in24 0 xf24 _ _ []
def pe24:PE:=⟨24,(.co (.v (.sl tz1)) (.co (.v .s) .no)),.v (.i .i64),F24⟩
theorem pe24_ok:pe24.ok Tryd.prog:=pe_of hm tb24_ok ex24_ok in24_ok xf24_ok (by kernel_rfl) (fun _=>rfl)
def xf25:FX:=⟨(.seq (.reg [(xi 4 (.mov (.c (.v (.bool false)))))]) (.seq (.seq (.reg [(xi 6 (.mov (.t 0))),(xi 7 (.len (.t 6))),(xi 8 (.mov (.t 1))),(xi 9 (.len (.t 8))),(xi 10 (.bin .neq (.t 7) (.t 9)))]) (.cond (.t 10) (.seq (.reg [(xi 4 (.mov (.c (.v (.bool false)))))]) .ret) .skip)) (.seq (.seq (.reg [(xi 5 (.mov (.c (.v (.int .i64 0)))))]) (.blk 0 (.loop ⟨[4,5,11,12,13,14,15,16,17,18,19,20,21,22,23,24,25],[],⟨[],[(5,.v (.i .i64))],[]⟩⟩ (.seq (.seq (.reg [(xi 11 (.mov (.t 5))),(xi 12 (.mov (.t 0))),(xi 13 (.len (.t 12))),(xi 14 (.bin .lss (.t 11) (.t 13)))]) (.cond (.t 14) .skip (.exit 0))) (.seq (.blk 1 (.seq (.rdr [(xi 17 (.mov (.t 0))),(xi 18 (.mov (.t 5))),(xi 19 (.iad 1 (.t 17) (.t 18))),(xi 20 (.load false 1 (.t 19))),(xi 21 (.mov (.t 1))),(xi 22 (.mov (.t 5))),(xi 23 (.iad 1 (.t 21) (.t 22))),(xi 24 (.load false 1 (.t 23))),(xi 25 (.bin .neq (.t 20) (.t 24)))]) (.cond (.t 25) (.seq (.reg [(xi 4 (.mov (.c (.v (.bool false)))))]) .ret) .skip))) (.reg [(xi 15 (.mov (.t 5))),(xi 16 (.bin .add (.t 15) (.c (.v (.int .i64 1))))),(xi 5 (.mov (.t 16)))])))))) (.seq (.reg [(xi 4 (.mov (.c (.v (.bool true)))))]) .ret)))),[],26,[.t 4],1⟩
theorem xf25_ok:xf25.ok Tryd.prog 25:=⟨_,_,Tryd.func25,rfl,by kernel_rfl,rfl,by kernel_rfl,rfl,by kernel_rfl,by kernel_rfl⟩
def tb25:List PE:=[]
theorem tb25_ok:PEsOk Tryd.prog tb25:=trivial
def ex25:List EX:=[]
theorem ex25_ok:EXsOk Tryd.prog ex25:=trivial
def in25:List IN:=[]
theorem in25_ok:INsOk Tryd.prog in25:=trivial
def F25:DT ((.co (.v (.sl (.i .i64))) (.co (.v (.sl (.i .i64))) .no)):Fm).den→Option (DT (.v .b:Fm).den):=pureT tb25 ex25 in25 0 xf25 _ _ []
def pe25:PE:=⟨25,(.co (.v (.sl (.i .i64))) (.co (.v (.sl (.i .i64))) .no)),.v .b,F25⟩
theorem pe25_ok:pe25.ok Tryd.prog:=pe_of hm tb25_ok ex25_ok in25_ok xf25_ok (by kernel_rfl) (fun _=>rfl)
def xf26:FX:=⟨(.seq (.reg [(xi 4 (.mov (.c (.sl true []))))]) (.seq (.reg [(xi 5 (.mov (.c (.sl true []))))]) (.seq (.reg [(xi 9 (.mov (.t 0))),(xi 10 (.mov (.t 1))),(xi 11 (.call 0 24 [(.t 9),(.t 10)])),(xi 6 (.mov (.t 11)))]) (.seq (.seq (.reg [(xi 7 (.mov (.c (.v (.int .i64 0)))))]) (.blk 0 (.loop ⟨[5,7,8,12,13,14,15,16,17,18,19,20,21,22,23,24,25,26,27,28,29,30,31,32,33,34,35],[2],⟨[],[(5,.ow 2 1),(7,.v (.i .i64))],[⟨2,.rows (.i .i64) 1,false⟩]⟩⟩ (.seq (.seq (.reg [(xi 12 (.mov (.t 7))),(xi 13 (.mov (.t 0))),(xi 14 (.len (.t 13))),(xi 15 (.bin .lss (.t 12) (.t 14)))]) (.cond (.t 15) .skip (.exit 0))) (.seq (.cutN ⟨[5,8,18,19,20,21,22,23,24,25,26,27,28,29,30,31,32,33,34,35],[2],⟨[],[(5,.ow 2 1)],[⟨2,.rows (.i .i64) 1,false⟩]⟩⟩ (.blk 1 (.seq (.reg [(xi 18 (.mov (.t 0))),(xi 19 (.mov (.t 6))),(xi 20 (.mov (.t 7))),(xi 21 (.bin .add (.t 19) (.t 20))),(xi 22 (.mov (.t 0))),(xi 23 (.len (.t 22))),(xi 24 (.bin .rem (.t 21) (.t 23))),(xi 25 (.iad 3 (.t 18) (.t 24))),(xi 26 (.fad 1 (.t 25))),(xi 27 (.load false 1 (.t 26))),(xi 8 (.mov (.t 27)))]) (.seq (.reg [(xi 28 (.mov (.t 5))),(xi 29 (.mov (.t 8))),(xi 30 (.call 1 27 [(.t 28),(.t 29)])),(xi 31 (.bin .eql (.t 30) (.c (.v (.int .i64 0)))))]) (.cond (.t 31) (.reg [(xi 32 (.mov (.t 5))),(xi 33 (.mov (.t 8))),(xi 34 (.bsl 1 (.v (.int .i64 0)) 1 [(0,(.t 33))])),⟨⟨(some 35),(.app 2 1 8 (.v (.int .i64 0)) (.t 32) (.t 34)),none⟩,(.i .i64),[],[]⟩,(xi 5 (.mov (.t 35)))]) .skip))))) (.reg [(xi 16 (.mov (.t 7))),(xi 17 (.bin .add (.t 16) (.c (.v (.int .i64 1))))),(xi 7 (.mov (.t 17)))])))))) (.seq (.reg [(xi 36 (.mov (.t 5))),(xi 4 (.mov (.t 36)))]) .ret))))),[11,30,35],37,[.t 4],4⟩
theorem xf26_ok:xf26.ok Tryd.prog 26:=⟨_,_,Tryd.func26,rfl,by kernel_rfl,rfl,by kernel_rfl,rfl,by kernel_rfl,by kernel_rfl⟩
def tb26:List PE:=[pe24,pe27]
theorem tb26_ok:PEsOk Tryd.prog tb26:=⟨pe24_ok,pe27_ok,trivial⟩
def ex26:List EX:=[]
theorem ex26_ok:EXsOk Tryd.prog ex26:=trivial
def in26:List IN:=[]
theorem in26_ok:INsOk Tryd.prog in26:=trivial
def F26:DT ((.co (.v (.sl tz1)) (.co (.v .s) .no)):Fm).den→Option (DT (.v (.sl (.i .i64)):Fm).den):=pureT tb26 ex26 in26 0 xf26 _ _ [2]
def pe26:PE:=⟨26,(.co (.v (.sl tz1)) (.co (.v .s) .no)),.v (.sl (.i .i64)),F26⟩
theorem pe26_ok:pe26.ok Tryd.prog:=pe_of hm tb26_ok ex26_ok in26_ok xf26_ok (by kernel_rfl) (fun _=>rfl)
end
end Go.Proofs.YtbgnmndgpaaidaaDoor.VL
end
section
namespace Go.Proofs.YtbgnmndgpaaidaaDoor.VL
open Go
set_option maxRecDepth 100000
set_option linter.unusedVariables false
set_option linter.unusedSectionVars false
variable [Val]

theorem F9_eq (v:(List Int)):F9 v=(cond (decide (((v.length:Nat):Int) > (65:Int))) (cond (decide ((65:Int)≤((v.length:Nat):Int))) (some (List.take 65 v)) none) (some v)):=by kernel_rfl
theorem F27_eq (v:((List Int)×Int)):F27 v=(loopX (fun (v0:(Int×Int))=>(cond (decide (v0.2 < ((v.1.length:Nat):Int))) (Option.bind (cond (decide ((0:Int)≤v0.2)) (Option.bind v.1[(Int.toNat v0.2)]? (fun (v1:Int)=>(cond (v1==v.2) (some (IntKind.wrap IntKind.i64 (v0.1+(1:Int)))) (some v0.1)))) none) (fun (v2:Int)=>(some (.inl (v2,(IntKind.wrap IntKind.i64 (v0.2+(1:Int)))))))) (some (.inr v0.1)))) ((0:Int),(0:Int))):=by kernel_rfl
theorem F28_eq (v:(List Int)):F28 v=(loopX (fun (v0:Int)=>(cond (decide (v0 < ((v.length:Nat):Int))) (joinX (Option.bind (cond (decide ((0:Int)≤v0)) (Option.bind v[(Int.toNat v0)]? (fun (v1:Int)=>(cond (decide (v1 < (0:Int))) (some true) (cond (decide ((0:Int)≤v0)) (Option.bind v[(Int.toNat v0)]? (fun (v2:Int)=>(cond (decide (v2 > (63:Int))) (some true) (cond (decide ((0:Int)≤v0)) (Option.bind v[(Int.toNat v0)]? (fun (v3:Int)=>(Option.bind (F27 (v,v3)) (fun (v4:Int)=>(some (v4 != (1:Int))))))) none)))) none)))) none) (fun (v5:Bool)=>(cond v5 (some (.inr (.inr false))) (some (.inl ()))))) (fun (v6:Unit)=>(some (.inl (IntKind.wrap IntKind.i64 (v0+(1:Int))))))) (some (.inr true)))) (0:Int)):=by kernel_rfl
theorem F10_eq (v:(List Int)):F10 v=(joinX (loopX (fun (v0:Int)=>(cond (decide (v0 < ((v.length:Nat):Int))) (cond (decide ((0:Int)≤v0)) (Option.bind v[(Int.toNat v0)]? (fun (v1:Int)=>(cond (decide ((0:Int)≤(IntKind.wrap IntKind.i64 (v0 - (1:Int))))) (Option.bind v[(Int.toNat (IntKind.wrap IntKind.i64 (v0 - (1:Int))))]? (fun (v2:Int)=>(cond (decide (v1≤v2)) (some (.inr (.inr false))) (some (.inl (IntKind.wrap IntKind.i64 (v0+(1:Int)))))))) none))) none) (some (.inr (.inl ()))))) (1:Int)) (fun (v3:Unit)=>(cond (decide (((v.length:Nat):Int)≤(64:Int))) (Option.bind (F28 v) (fun (v4:Bool)=>(some v4))) (some false)))):=by kernel_rfl
theorem F40_eq (v:(List Int)):F40 v=(loopX (fun (v0:(Int×(List Bool)))=>(cond (decide (v0.1 < ((v.length:Nat):Int))) (joinX (cond (decide ((0:Int)≤v0.1)) (Option.bind v[(Int.toNat v0.1)]? (fun (v1:Int)=>(joinX (Option.bind (cond (decide (v1 < (0:Int))) (some true) (cond (decide (v1 ≥ (64:Int))) (some true) (cond ((decide ((0:Int)≤v1))&&(decide (v1 < (64:Int)))) (Option.bind v0.2[(0+((Int.toNat v1) * 1))]? (fun (v2:Bool)=>(some v2))) none))) (fun (v3:Bool)=>(cond v3 (some (.inr (.inr (.inr false)))) (some (.inl ()))))) (fun (v4:Unit)=>(cond ((decide ((0:Int)≤v1))&&(decide (v1 < (64:Int)))) (cond ((decide ((0+((Int.toNat v1) * 1)) < v0.2.length))&&(decide (1 < v0.2.length))) (some (.inl (List.set v0.2 (0+((Int.toNat v1) * 1)) true))) none) none))))) none) (fun (v5:(List Bool))=>(some (.inl ((IntKind.wrap IntKind.i64 (v0.1+(1:Int))),v5))))) (some (.inr true)))) ((0:Int),(List.replicate 64 false))):=by kernel_rfl
theorem F41_eq (v:(List Int)):F41 v=(loopX (fun (v0:Int)=>(cond (decide (v0 > (0:Int))) (cond (decide ((0:Int)≤v0)) (Option.bind v[(Int.toNat v0)]? (fun (v1:Int)=>(cond (decide ((0:Int)≤(IntKind.wrap IntKind.i64 (v0 - (1:Int))))) (Option.bind v[(Int.toNat (IntKind.wrap IntKind.i64 (v0 - (1:Int))))]? (fun (v2:Int)=>(Option.bind (cond (v1 != v1) (cond (!(v2 != v2)) (some true) (some (decide (v1 < v2)))) (some (decide (v1 < v2)))) (fun (v3:Bool)=>(cond v3 (some (.inr false)) (some (.inl (IntKind.wrap IntKind.i64 (v0 - (1:Int)))))))))) none))) none) (some (.inr true)))) (IntKind.wrap IntKind.i64 (((v.length:Nat):Int) - (1:Int)))):=by kernel_rfl
theorem F29_eq (v:(List Int)):F29 v=(Option.bind (Option.bind (F40 v) (fun (v0:Bool)=>(cond (!v0) (some true) (Option.bind (F41 v) (fun (v1:Bool)=>(some (!v1))))))) (fun (v2:Bool)=>(cond v2 (some (1:Int)) (some (0:Int))))):=by kernel_rfl
theorem F42_eq (v:(Int×ByteArray)):F42 v=(loopX (fun (v0:(Int×Int))=>(cond (decide (v0.2 < (((ByteArray.size v.2):Nat):Int))) (cond (decide ((0:Int)≤v0.2)) (Option.bind v.2[(Int.toNat v0.2)]? (fun (v1:UInt8)=>(some (.inl ((IntKind.wrap IntKind.u64 ((IntKind.wrap IntKind.u64 (((BitVec.toNat (BitVec.xor (BitVec.ofInt 64 v0.1) (BitVec.ofInt 64 (IntKind.wrap IntKind.u64 (((UInt8.toNat v1):Nat):Int))))):Nat):Int)) * (1099511628211:Int))),(IntKind.wrap IntKind.i64 (v0.2+(1:Int)))))))) none) (some (.inr v0.1)))) (v.1,(0:Int))):=by kernel_rfl
theorem F30_eq (v:(List ByteArray)):F30 v=(loopX (fun (v0:(Int×Int))=>(cond (decide (v0.2 < ((v.length:Nat):Int))) (cond (decide ((0:Int)≤v0.2)) (Option.bind v[(Int.toNat v0.2)]? (fun (v1:ByteArray)=>(Option.bind (F42 (v0.1,v1)) (fun (v2:Int)=>(some (.inl (v2,(IntKind.wrap IntKind.i64 (v0.2+(1:Int)))))))))) none) (some (.inr v0.1)))) ((14695981039346656037:Int),(0:Int))):=by kernel_rfl
theorem F36_eq (v:(Int×Int)):F36 v=(cond (v.1 != v.1) (cond (v.2 != v.2) (some (0:Int)) (some (-1:Int))) (cond (v.2 != v.2) (some (1:Int)) (cond (decide (v.1 < v.2)) (some (-1:Int)) (cond (decide (v.1 > v.2)) (some (1:Int)) (some (0:Int)))))):=by kernel_rfl
theorem F46_eq (v:(List Int)):F46 v=(loopX (fun (v0:Int)=>(cond (decide (v0 < ((v.length:Nat):Int))) (cond (decide ((0:Int)≤v0)) (Option.bind v[(Int.toNat v0)]? (fun (v1:Int)=>(cond (v1 != (0:Int)) (some (.inr v1)) (some (.inl (IntKind.wrap IntKind.i64 (v0+(1:Int)))))))) none) (some (.inr (0:Int))))) (0:Int)):=by kernel_rfl
theorem F47_eq (v:(Int×Int)):F47 v=(cond (v.1 != v.1) (cond (v.2 != v.2) (some (0:Int)) (some (-1:Int))) (cond (v.2 != v.2) (some (1:Int)) (cond (decide (v.1 < v.2)) (some (-1:Int)) (cond (decide (v.1 > v.2)) (some (1:Int)) (some (0:Int)))))):=by kernel_rfl
theorem F33_eq (v:((Int×(Int×Int))×(Int×(Int×Int)))):F33 v=(Option.bind (F36 (v.1.1,v.2.1)) (fun (v0:Int)=>(Option.bind (F47 (v.1.2.1,v.2.2.1)) (fun (v1:Int)=>(Option.bind (F47 (v.1.2.2,v.2.2.2)) (fun (v2:Int)=>(Option.bind (F46 (v0::(v1::(v2::[])))) (fun (v3:Int)=>(some v3))))))))):=by kernel_rfl
theorem F13_eq (v:(List (Int×(Int×Int)))):F13 v=(cond (decide (((v.length:Nat):Int) > (2048:Int))) (some (1:Int)) (loopX (fun (v0:Int)=>(cond (decide (v0 < ((v.length:Nat):Int))) (joinX (cond (decide ((0:Int)≤v0)) (Option.bind v[(Int.toNat v0)]? (fun (v1:(Int×(Int×Int)))=>(Option.bind (cond (decide (v1.2.1 < (0:Int))) (some true) (cond (decide (v1.2.1 ≥ (64:Int))) (some true) (cond (decide (v0 > (0:Int))) (cond (decide ((0:Int)≤(IntKind.wrap IntKind.i64 (v0 - (1:Int))))) (Option.bind v[(Int.toNat (IntKind.wrap IntKind.i64 (v0 - (1:Int))))]? (fun (v2:(Int×(Int×Int)))=>(Option.bind (F33 ((v2.1,v2.2.1,v2.2.2),v1.1,v1.2.1,v1.2.2)) (fun (v3:Int)=>(some (decide (v3 ≥ (0:Int)))))))) none) (some false)))) (fun (v4:Bool)=>(cond v4 (some (.inr (.inr (1:Int)))) (some (.inl ()))))))) none) (fun (v5:Unit)=>(some (.inl (IntKind.wrap IntKind.i64 (v0+(1:Int))))))) (some (.inr (0:Int))))) (0:Int))):=by kernel_rfl
theorem F14_eq (v:((List (Int×(Int×Int)))×ByteArray)):F14 v=(Option.bind (F13 v.1) (fun (v0:Int)=>(cond (v0 != (0:Int)) (some ((0:Int),(1:Int))) (cond (((v.1.length:Nat):Int)==(0:Int)) (some ((0:Int),(6:Int))) (Option.bind (F30 (v.2::[])) (fun (v1:Int)=>(Option.bind (Option.bind (loopX (fun (v2:(Int×Int))=>(cond (decide (v2.1 < v2.2)) (cond (decide ((0:Int)≤(IntKind.wrap IntKind.i64 (Int.fdiv (IntKind.wrap IntKind.u64 (IntKind.wrap IntKind.i64 (v2.1+v2.2))) (2:Int))))) (Option.bind v.1[(Int.toNat (IntKind.wrap IntKind.i64 (Int.fdiv (IntKind.wrap IntKind.u64 (IntKind.wrap IntKind.i64 (v2.1+v2.2))) (2:Int))))]? (fun (v3:(Int×(Int×Int)))=>(Option.bind (F36 (v3.1,v1)) (fun (v4:Int)=>(cond (decide (v4 < (0:Int))) (some (.inl ((IntKind.wrap IntKind.i64 ((IntKind.wrap IntKind.i64 (Int.fdiv (IntKind.wrap IntKind.u64 (IntKind.wrap IntKind.i64 (v2.1+v2.2))) (2:Int)))+(1:Int))),v2.2))) (some (.inl (v2.1,(IntKind.wrap IntKind.i64 (Int.fdiv (IntKind.wrap IntKind.u64 (IntKind.wrap IntKind.i64 (v2.1+v2.2))) (2:Int))))))))))) none) (some (.inr v2.1)))) ((0:Int),((v.1.length:Nat):Int))) (fun (v5:Int)=>(cond (decide (v5 < ((v.1.length:Nat):Int))) (cond (decide ((0:Int)≤v5)) (Option.bind v.1[(Int.toNat v5)]? (fun (v6:(Int×(Int×Int)))=>(Option.bind (F36 (v6.1,v1)) (fun (v7:Int)=>(some (v5,(v7==(0:Int)))))))) none) (some (v5,false))))) (fun (v8:(Int×Bool))=>(cond (decide (((v.1.length:Nat):Int)=(0:Int))) none (some ((Int.tmod v8.1 ((v.1.length:Nat):Int)),(0:Int)))))))))))):=by kernel_rfl
theorem F21_eq (v:((List (Int×(Int×Int)))×ByteArray)):F21 v=(Option.bind (F14 (v.1,v.2)) (fun (v0:(Int×Int))=>(cond (v0.2 != (0:Int)) (some ((0:Int),v0.2)) (cond (decide ((0:Int)≤v0.1)) (Option.bind v.1[(Int.toNat v0.1)]? (fun (v1:(Int×(Int×Int)))=>(some (v1.2.1,(0:Int))))) none)))):=by kernel_rfl
theorem F22_eq (v:((List (Int×(Int×Int)))×ByteArray)):F22 v=(Option.bind (F14 (v.1,v.2)) (fun (v0:(Int×Int))=>(cond (v0.2 != (0:Int)) (some ([],v0.2)) (loopX (fun (v1:(Int×((List Bool)×(List Int))))=>(cond (decide (v1.1 < ((v.1.length:Nat):Int))) (Option.bind (cond (decide (((v.1.length:Nat):Int)=(0:Int))) none (cond (decide ((0:Int)≤(Int.tmod (IntKind.wrap IntKind.i64 (v0.1+v1.1)) ((v.1.length:Nat):Int)))) (Option.bind v.1[(Int.toNat (Int.tmod (IntKind.wrap IntKind.i64 (v0.1+v1.1)) ((v.1.length:Nat):Int)))]? (fun (v2:(Int×(Int×Int)))=>(cond ((decide ((0:Int)≤v2.2.1))&&(decide (v2.2.1 < (64:Int)))) (Option.bind v1.2.1[(0+((Int.toNat v2.2.1) * 1))]? (fun (v3:Bool)=>(cond (!v3) (cond ((decide ((0:Int)≤v2.2.1))&&(decide (v2.2.1 < (64:Int)))) (cond ((decide ((0+((Int.toNat v2.2.1) * 1)) < v1.2.1.length))&&(decide (1 < v1.2.1.length))) (cond ((decide (v1.2.2.length=v1.2.2.length))&&((decide (((((v1.2.2.length+1):Nat):Int) * (8:Int))≤(70368744177664:Int)))&&(decide ((((v1.2.2.length+1):Nat):Int)≤(70368744177664:Int))))) (cond (decide ((v1.2.2.length+1)=(Append.append v1.2.2 (v2.2.1::[])).length)) (some ((List.set v1.2.1 (0+((Int.toNat v2.2.1) * 1)) true),(Append.append v1.2.2 (v2.2.1::[])))) none) none) none) none) (cond (decide (v1.2.2.length=v1.2.2.length)) (some (v1.2.1,v1.2.2)) none)))) none))) none)) (fun (v4:((List Bool)×(List Int)))=>(cond (decide (v4.2.length=v4.2.length)) (some (.inl ((IntKind.wrap IntKind.i64 (v1.1+(1:Int))),v4.1,v4.2))) none))) (Option.map (Sum.inr) (cond (decide ((0+v1.2.2.length)≤v1.2.2.length)) (some ((List.take v1.2.2.length v1.2.2),(0:Int))) none)))) ((0:Int),(List.replicate 64 false),[]))))):=by kernel_rfl
theorem F15_eq (v:(Int×(Int×Int))):F15 v=(Option.bind (cond (decide (v.2.1 > (9:Int))) (some (ByteArray.mk (Array.mk ((UInt8.ofBitVec (BitVec.ofFin (Fin.mk (Nat.mod (Int.toNat (IntKind.wrap IntKind.u8 (IntKind.wrap IntKind.i64 ((48:Int)+(Int.tmod (IntKind.wrap IntKind.i64 (Int.tdiv v.2.1 (10:Int))) (10:Int)))))) 256) (Nat.mod_lt (Int.toNat (IntKind.wrap IntKind.u8 (IntKind.wrap IntKind.i64 ((48:Int)+(Int.tmod (IntKind.wrap IntKind.i64 (Int.tdiv v.2.1 (10:Int))) (10:Int)))))) (BitVec.ofNat._proof_1 8)))))::[])))) (some (ByteArray.mk #[]))) (fun (v0:ByteArray)=>(cond (decide (((ByteArray.size v0)+(ByteArray.size (ByteArray.mk (Array.mk ((UInt8.ofBitVec (BitVec.ofFin (Fin.mk (Nat.mod (Int.toNat (IntKind.wrap IntKind.u8 (IntKind.wrap IntKind.i64 ((48:Int)+(Int.tmod (IntKind.wrap IntKind.i64 ((Int.tmod v.2.1 (10:Int))+(10:Int))) (10:Int)))))) 256) (Nat.mod_lt (Int.toNat (IntKind.wrap IntKind.u8 (IntKind.wrap IntKind.i64 ((48:Int)+(Int.tmod (IntKind.wrap IntKind.i64 ((Int.tmod v.2.1 (10:Int))+(10:Int))) (10:Int)))))) (BitVec.ofNat._proof_1 8)))))::[])))))≤4611686018427387904)) (cond (decide (((ByteArray.size (v0++(ByteArray.mk (Array.mk ((UInt8.ofBitVec (BitVec.ofFin (Fin.mk (Nat.mod (Int.toNat (IntKind.wrap IntKind.u8 (IntKind.wrap IntKind.i64 ((48:Int)+(Int.tmod (IntKind.wrap IntKind.i64 ((Int.tmod v.2.1 (10:Int))+(10:Int))) (10:Int)))))) 256) (Nat.mod_lt (Int.toNat (IntKind.wrap IntKind.u8 (IntKind.wrap IntKind.i64 ((48:Int)+(Int.tmod (IntKind.wrap IntKind.i64 ((Int.tmod v.2.1 (10:Int))+(10:Int))) (10:Int)))))) (BitVec.ofNat._proof_1 8)))))::[])))))+(ByteArray.size (ByteArray.mk #[47])))≤4611686018427387904)) (cond (decide (((ByteArray.size ((v0++(ByteArray.mk (Array.mk ((UInt8.ofBitVec (BitVec.ofFin (Fin.mk (Nat.mod (Int.toNat (IntKind.wrap IntKind.u8 (IntKind.wrap IntKind.i64 ((48:Int)+(Int.tmod (IntKind.wrap IntKind.i64 ((Int.tmod v.2.1 (10:Int))+(10:Int))) (10:Int)))))) 256) (Nat.mod_lt (Int.toNat (IntKind.wrap IntKind.u8 (IntKind.wrap IntKind.i64 ((48:Int)+(Int.tmod (IntKind.wrap IntKind.i64 ((Int.tmod v.2.1 (10:Int))+(10:Int))) (10:Int)))))) (BitVec.ofNat._proof_1 8)))))::[]))))++(ByteArray.mk #[47])))+(ByteArray.size (ByteArray.mk (Array.mk ((UInt8.ofBitVec (BitVec.ofFin (Fin.mk (Nat.mod (Int.toNat (IntKind.wrap IntKind.u8 (IntKind.wrap IntKind.i64 ((48:Int)+(Int.tmod (IntKind.wrap IntKind.i64 ((Int.tmod v.2.2 (10:Int))+(10:Int))) (10:Int)))))) 256) (Nat.mod_lt (Int.toNat (IntKind.wrap IntKind.u8 (IntKind.wrap IntKind.i64 ((48:Int)+(Int.tmod (IntKind.wrap IntKind.i64 ((Int.tmod v.2.2 (10:Int))+(10:Int))) (10:Int)))))) (BitVec.ofNat._proof_1 8)))))::[])))))≤4611686018427387904)) (some (((v0++(ByteArray.mk (Array.mk ((UInt8.ofBitVec (BitVec.ofFin (Fin.mk (Nat.mod (Int.toNat (IntKind.wrap IntKind.u8 (IntKind.wrap IntKind.i64 ((48:Int)+(Int.tmod (IntKind.wrap IntKind.i64 ((Int.tmod v.2.1 (10:Int))+(10:Int))) (10:Int)))))) 256) (Nat.mod_lt (Int.toNat (IntKind.wrap IntKind.u8 (IntKind.wrap IntKind.i64 ((48:Int)+(Int.tmod (IntKind.wrap IntKind.i64 ((Int.tmod v.2.1 (10:Int))+(10:Int))) (10:Int)))))) (BitVec.ofNat._proof_1 8)))))::[]))))++(ByteArray.mk #[47]))++(ByteArray.mk (Array.mk ((UInt8.ofBitVec (BitVec.ofFin (Fin.mk (Nat.mod (Int.toNat (IntKind.wrap IntKind.u8 (IntKind.wrap IntKind.i64 ((48:Int)+(Int.tmod (IntKind.wrap IntKind.i64 ((Int.tmod v.2.2 (10:Int))+(10:Int))) (10:Int)))))) 256) (Nat.mod_lt (Int.toNat (IntKind.wrap IntKind.u8 (IntKind.wrap IntKind.i64 ((48:Int)+(Int.tmod (IntKind.wrap IntKind.i64 ((Int.tmod v.2.2 (10:Int))+(10:Int))) (10:Int)))))) (BitVec.ofNat._proof_1 8)))))::[]))))) none) none) none))):=by kernel_rfl
theorem F16_eq (v:(List (Int×(Int×Int)))):F16 v=(joinX (Option.bind (cond (decide (((v.length:Nat):Int) > (60:Int))) (some (decide (((v.length:Nat):Int)≤(2048:Int)))) (some false)) (fun (v0:Bool)=>(cond v0 (cond (decide ((60:Int)≤((v.length:Nat):Int))) (some (.inr (List.take 60 v))) none) (some (.inl ()))))) (fun (v1:Unit)=>(cond (decide (((v.length:Nat):Int) > (2049:Int))) (cond (decide ((2049:Int)≤((v.length:Nat):Int))) (some (List.take 2049 v)) none) (some v)))):=by kernel_rfl
theorem F17_eq (v:ByteArray):F17 v=(cond (decide ((((ByteArray.size v):Nat):Int) > (300:Int))) (cond (decide ((300:Int)≤(((ByteArray.size v):Nat):Int))) (some (ByteArray.extract v 0 300)) none) (some v)):=by kernel_rfl
theorem F49_eq (v:Int):F49 v=(loopX (fun (v0:(Int×Int))=>(cond (decide (v0.2 < (435:Int))) (some (.inl ((IntKind.wrap IntKind.u64 (v0.1+v)),(IntKind.wrap IntKind.i64 (v0.2+(1:Int)))))) (some (.inr v0.1)))) ((IntKind.wrap IntKind.u64 (v * (1099511627776:Int))),(0:Int))):=by kernel_rfl
theorem F37_eq (v:(Int×ByteArray)):F37 v=(loopX (fun (v0:(Int×Int))=>(cond (decide (v0.2 < (((ByteArray.size v.2):Nat):Int))) (cond (decide ((0:Int)≤v0.2)) (Option.bind v.2[(Int.toNat v0.2)]? (fun (v1:UInt8)=>(Option.bind (F49 (IntKind.wrap IntKind.u64 (((BitVec.toNat (BitVec.xor (BitVec.ofInt 64 v0.1) (BitVec.ofInt 64 (IntKind.wrap IntKind.u64 (((UInt8.toNat v1):Nat):Int))))):Nat):Int))) (fun (v2:Int)=>(some (.inl (v2,(IntKind.wrap IntKind.i64 (v0.2+(1:Int)))))))))) none) (some (.inr v0.1)))) (v.1,(0:Int))):=by kernel_rfl
theorem F18_eq (v:(List ByteArray)):F18 v=(loopX (fun (v0:(ByteArray×Int))=>(cond (decide (v0.2 < ((v.length:Nat):Int))) (cond (decide ((0:Int)≤v0.2)) (Option.bind v[(Int.toNat v0.2)]? (fun (v1:ByteArray)=>(cond (decide (((ByteArray.size v0.1)+(ByteArray.size v1))≤4611686018427387904)) (some (.inl ((v0.1++v1),(IntKind.wrap IntKind.i64 (v0.2+(1:Int)))))) none))) none) (Option.map (Sum.inr) (Option.bind (F37 ((14695981039346656037:Int),v0.1)) (fun (v2:Int)=>(some v2)))))) ((ByteArray.mk #[]),(0:Int))):=by kernel_rfl
theorem F19_eq (v:((List (Int×(Int×Int)))×(List (Int×(Int×Int))))):F19 v=(cond (((v.1.length:Nat):Int) != ((v.2.length:Nat):Int)) (some false) (loopX (fun (v0:Int)=>(cond (decide (v0 < ((v.1.length:Nat):Int))) (cond (decide ((0:Int)≤v0)) (Option.bind v.1[(Int.toNat v0)]? (fun (v1:(Int×(Int×Int)))=>(cond (decide ((0:Int)≤v0)) (Option.bind v.2[(Int.toNat v0)]? (fun (v2:(Int×(Int×Int)))=>(cond (!((v1.1==v2.1)&&((v1.2.1==v2.2.1)&&((v1.2.2==v2.2.2)&&true)))) (some (.inr false)) (some (.inl (IntKind.wrap IntKind.i64 (v0+(1:Int)))))))) none))) none) (some (.inr true)))) (0:Int))):=by kernel_rfl
theorem F39_eq (v:((Int×(Int×Int))×(Int×(Int×Int)))):F39 v=(cond (v.1.1 != v.2.1) (some (decide (v.1.1 < v.2.1))) (cond (v.1.2.1 != v.2.2.1) (some (decide (v.1.2.1 < v.2.2.1))) (some (decide (v.1.2.2 < v.2.2.2))))):=by kernel_rfl
theorem F23_eq (v:(List (Int×(Int×Int)))):F23 v=(loopX (fun (v0:Int)=>(cond (decide (v0 < ((v.length:Nat):Int))) (joinX (Option.bind (cond (decide ((0:Int)≤v0)) (Option.bind v[(Int.toNat v0)]? (fun (v1:(Int×(Int×Int)))=>(cond (decide (v1.2.1 < (0:Int))) (some true) (cond (decide ((0:Int)≤v0)) (Option.bind v[(Int.toNat v0)]? (fun (v2:(Int×(Int×Int)))=>(cond (decide (v2.2.1 > (63:Int))) (some true) (cond (decide (v0 > (0:Int))) (cond (decide ((0:Int)≤(IntKind.wrap IntKind.i64 (v0 - (1:Int))))) (Option.bind v[(Int.toNat (IntKind.wrap IntKind.i64 (v0 - (1:Int))))]? (fun (v3:(Int×(Int×Int)))=>(cond (decide ((0:Int)≤v0)) (Option.bind v[(Int.toNat v0)]? (fun (v4:(Int×(Int×Int)))=>(Option.bind (F39 ((v3.1,v3.2.1,v3.2.2),v4.1,v4.2.1,v4.2.2)) (fun (v5:Bool)=>(some (!v5)))))) none))) none) (some false))))) none)))) none) (fun (v6:Bool)=>(cond v6 (some (.inr (.inr false))) (some (.inl ()))))) (fun (v7:Unit)=>(some (.inl (IntKind.wrap IntKind.i64 (v0+(1:Int))))))) (some (.inr (decide (((v.length:Nat):Int)≤(2048:Int))))))) (0:Int)):=by kernel_rfl
theorem F24_eq (v:((List (Int×(Int×Int)))×ByteArray)):F24 v=(Option.bind (F18 (v.2::[])) (fun (v0:Int)=>(loopX (fun (v1:Int)=>(cond (decide (v1 < ((v.1.length:Nat):Int))) (cond (decide ((0:Int)≤v1)) (Option.bind v.1[(Int.toNat v1)]? (fun (v2:(Int×(Int×Int)))=>(cond (decide (v2.1 ≥ v0)) (some (.inr v1)) (some (.inl (IntKind.wrap IntKind.i64 (v1+(1:Int)))))))) none) (some (.inr (0:Int))))) (0:Int)))):=by kernel_rfl
theorem F25_eq (v:((List Int)×(List Int))):F25 v=(cond (((v.1.length:Nat):Int) != ((v.2.length:Nat):Int)) (some false) (loopX (fun (v0:Int)=>(cond (decide (v0 < ((v.1.length:Nat):Int))) (cond (decide ((0:Int)≤v0)) (Option.bind v.1[(Int.toNat v0)]? (fun (v1:Int)=>(cond (decide ((0:Int)≤v0)) (Option.bind v.2[(Int.toNat v0)]? (fun (v2:Int)=>(cond (v1 != v2) (some (.inr false)) (some (.inl (IntKind.wrap IntKind.i64 (v0+(1:Int)))))))) none))) none) (some (.inr true)))) (0:Int))):=by kernel_rfl
theorem F26_eq (v:((List (Int×(Int×Int)))×ByteArray)):F26 v=(Option.bind (F24 (v.1,v.2)) (fun (v0:Int)=>(loopX (fun (v1:(Int×(List Int)))=>(cond (decide (v1.1 < ((v.1.length:Nat):Int))) (Option.bind (cond (decide (((v.1.length:Nat):Int)=(0:Int))) none (cond (decide ((0:Int)≤(Int.tmod (IntKind.wrap IntKind.i64 (v0+v1.1)) ((v.1.length:Nat):Int)))) (Option.bind v.1[(Int.toNat (Int.tmod (IntKind.wrap IntKind.i64 (v0+v1.1)) ((v.1.length:Nat):Int)))]? (fun (v2:(Int×(Int×Int)))=>(cond (decide ((0+v1.2.length)≤v1.2.length)) (Option.bind (F27 ((List.take v1.2.length v1.2),v2.2.1)) (fun (v3:Int)=>(cond (v3==(0:Int)) (cond ((decide (v1.2.length=v1.2.length))&&((decide (((((v1.2.length+1):Nat):Int) * (8:Int))≤(70368744177664:Int)))&&(decide ((((v1.2.length+1):Nat):Int)≤(70368744177664:Int))))) (cond (decide ((v1.2.length+1)=(Append.append v1.2 (v2.2.1::[])).length)) (some (Append.append v1.2 (v2.2.1::[]))) none) none) (cond (decide (v1.2.length=v1.2.length)) (some v1.2) none)))) none))) none)) (fun (v4:(List Int))=>(cond (decide (v4.length=v4.length)) (some (.inl ((IntKind.wrap IntKind.i64 (v1.1+(1:Int))),v4))) none))) (Option.map (Sum.inr) (cond (decide ((0+v1.2.length)≤v1.2.length)) (some (List.take v1.2.length v1.2)) none)))) ((0:Int),[])))):=by kernel_rfl
end Go.Proofs.YtbgnmndgpaaidaaDoor.VL
end
section
namespace Go.Proofs.YtbgnmndgpaaidaaDoor.VL
open Go
set_option linter.unusedVariables false
set_option linter.unusedSectionVars false
variable [Val]
theorem wi {x:Int} (h0:-9223372036854775808≤x) (h1:x≤9223372036854775807):IntKind.wrap .i64 x=x:=by rw [IntKind.wrap_i64]; omega
theorem wu {x:Int} (h0:0≤x) (h1:x≤18446744073709551615):IntKind.wrap .u64 x=x:=by
 simp only [IntKind.wrap,IntKind.bits,IntKind.signed]
 have:x % (2 ^ 64:Int)=x:=Int.emod_eq_of_lt h0 (by omega)
 simp only [this,Bool.false_and]
 rfl
theorem app_eq {α:Type} (a b:List α):Append.append a b=a++b:=rfl
theorem joinX_l {α R:Type} (v:α) (k:α→Option R):joinX (some (.inl v)) k=k v:=rfl
theorem loopX_spec {σ ρ:Type} {f:σ→Option (σ ⊕ ρ)} (I:σ→Prop) (m:σ→Nat) (g:σ→ρ)
  (h:∀ s,I s→f s=some (.inr (g s))∨∃ s',f s=some (.inl s')∧I s'∧m s' < m s∧g s'=g s):∀ (s:σ),I s→loopX f s=some (g s):=by
 have key:∀ (n:Nat) (s:σ),m s≤n→I s→loopX f s=some (g s):=by
  intro n
  induction n with
  | zero =>
   intro s hn hs
   rw [loopX_eq]
   rcases h s hs with h1 | ⟨s',h1,h2,h3,h4⟩
   ·rw [h1]
   ·omega
  | succ n ih =>
   intro s hn hs
   rw [loopX_eq]
   rcases h s hs with h1 | ⟨s',h1,h2,h3,h4⟩
   ·rw [h1]
   ·rw [h1]
    simp only
    rw [ih s' (by omega) h2,h4]
 exact fun s hs=>key (m s) s (Nat.le_refl _) hs
theorem loop_acc {A ρ:Type} {f:Int×A→Option ((Int×A) ⊕ ρ)} (n:Nat) (I:Nat→A→Prop) (g:Nat→A→ρ) (hend:∀ a,I n a→f ((n:Int),a)=some (.inr (g n a)))
  (hstep:∀ (i:Nat) (a:A),i < n→I i a→f ((i:Int),a)=some (.inr (g i a))∨∃ a',f ((i:Int),a)=some (.inl (((i+1:Nat):Int),a'))∧I (i+1) a'∧g (i+1) a'=g i a) (i:Nat) (a:A) (hi:i≤n) (ha:I i a) :
  loopX f ((i:Int),a)=some (g i a):=by
 have:=loopX_spec (f:=f) (fun s=>0≤s.1∧s.1≤n∧I s.1.toNat s.2) (fun s=>n - s.1.toNat) (fun s=>g s.1.toNat s.2) (fun s hs=>?_) ((i:Int),a) ⟨by simp,by simp; omega,by simpa using ha⟩
 ·simpa using this
 ·obtain ⟨s1,s2⟩:=s
  simp only at hs
  obtain ⟨k,rfl⟩:∃ k:Nat,s1=k:=⟨s1.toNat,by omega⟩
  have hk:k≤n:=by omega
  simp only [Int.toNat_natCast] at hs ⊢
  by_cases he:k=n
  ·subst he; exact .inl (hend _ hs.2.2)
  ·rcases hstep k s2 (by omega) hs.2.2 with h1 | ⟨a',h1,h2,h3⟩
   ·exact .inl h1
   ·refine .inr ⟨_,h1,⟨by omega,by omega,by simpa using h2⟩,by simp only [Int.toNat_natCast]; omega,by simp only [Int.toNat_natCast]; exact h3⟩
theorem loop_allS {A ρ:Type} {f:Int×A→Option ((Int×A) ⊕ ρ)} {n:Nat} (st:Nat→A) (ok:Nat→Bool) (bad:ρ) (good:ρ) (hend:f ((n:Int),st n)=some (.inr good))
  (hstep:∀ i:Nat,i < n→(∀ j,j < i→ok j=true)→f ((i:Int),st i)=if ok i=true then some (.inl (((i+1:Nat):Int),st (i+1))) else some (.inr bad)) :
  loopX f ((0:Int),st 0)=some (if (List.range n).all ok=true then good else bad):=by
 classical
 have:=loop_acc (f:=f) n (fun i a=>a=st i∧∀ j,j < i→ok j=true) (fun i a=>if ∀ j,i≤j→j < n→ok j=true then good else bad) ?_ ?_ 0 (st 0) (Nat.zero_le _) ⟨rfl,fun j hj=>by omega⟩
 ·have e0:((0:Nat):Int)=0:=rfl
  rw [e0] at this
  rw [this]
  congr 1
  have e:(∀ j,0≤j→j < n→ok j=true) ↔ (List.range n).all ok=true:=by
   simp [List.all_eq_true]
  by_cases h:(List.range n).all ok=true
  ·rw [if_pos h,if_pos (e.2 h)]
  ·rw [if_neg h,if_neg (fun q=>h (e.1 q))]
 ·rintro a ⟨rfl,_⟩
  rw [hend,if_pos (fun j h1 h2=>by omega)]
 ·rintro i a hi ⟨rfl,ha⟩
  rw [hstep i hi ha]
  by_cases h:ok i=true
  ·rw [if_pos h]
   refine .inr ⟨_,rfl,⟨rfl,fun j hj=>?_⟩,?_⟩
   ·rcases Nat.lt_or_eq_of_le (Nat.le_of_lt_succ hj) with h1 | h1
    ·exact ha j h1
    ·rw [h1]; exact h
   ·have e:(∀ j,i+1≤j→j < n→ok j=true) ↔ (∀ j,i≤j→j < n→ok j=true):=by
     constructor
     ·intro q j h1 h2
      rcases Nat.lt_or_eq_of_le h1 with h3 | h3
      ·exact q j h3 h2
      ·rw [← h3]; exact h
     ·intro q j h1 h2; exact q j (by omega) h2
    by_cases hq:∀ j,i≤j→j < n→ok j=true
    ·rw [if_pos hq,if_pos (e.2 hq)]
    ·rw [if_neg hq,if_neg (fun q=>hq (e.1 q))]
  ·rw [if_neg h]
   left
   rw [if_neg (fun q=>h (q i (Nat.le_refl _) hi))]
theorem loop_all {ρ:Type} {f:Int→Option (Int ⊕ ρ)} {n:Nat} (ok:Nat→Bool) (bad good:ρ) (hend:f (n:Int)=some (.inr good))
  (hstep:∀ i:Nat,i < n→(∀ j,j < i→ok j=true)→f (i:Int)=if ok i=true then some (.inl ((i+1:Nat):Int)) else some (.inr bad)) :
  loopX f (0:Int)=some (if (List.range n).all ok=true then good else bad):=by
 classical
 have key:∀ i:Nat,i≤n→(∀ j,j < i→ok j=true)→loopX f (i:Int)=some (if ∀ j,i≤j→j < n→ok j=true then good else bad):=by
  intro i hi
  generalize hd:n - i=d
  induction d generalizing i with
  | zero =>
   intro ha
   have:i=n:=by omega
   subst this
   rw [loopX_eq,hend,if_pos (fun j h1 h2=>by omega)]
  | succ d ih =>
   intro ha
   rw [loopX_eq,hstep i (by omega) ha]
   by_cases h:ok i=true
   ·rw [if_pos h]
    simp only
    rw [ih (i+1) (by omega) (by omega) (fun j hj=>by
     rcases Nat.lt_or_eq_of_le (Nat.le_of_lt_succ hj) with h1 | h1
     ·exact ha j h1
     ·rw [h1]; exact h)]
    have e:(∀ j,i+1≤j→j < n→ok j=true) ↔ (∀ j,i≤j→j < n→ok j=true):=by
     constructor
     ·intro q j h1 h2
      rcases Nat.lt_or_eq_of_le h1 with h3 | h3
      ·exact q j h3 h2
      ·rw [← h3]; exact h
     ·intro q j h1 h2; exact q j (by omega) h2
    by_cases hq:∀ j,i≤j→j < n→ok j=true
    ·rw [if_pos hq,if_pos (e.2 hq)]
    ·rw [if_neg hq,if_neg (fun q=>hq (e.1 q))]
   ·rw [if_neg h]
    simp only
    rw [if_neg (fun q=>h (q i (Nat.le_refl _) (by omega)))]
 have:=key 0 (Nat.zero_le _) (fun j hj=>by omega)
 have e0:((0:Nat):Int)=0:=rfl
 rw [e0] at this
 rw [this]
 congr 1
 have e:(∀ j,0≤j→j < n→ok j=true) ↔ (List.range n).all ok=true:=by simp [List.all_eq_true]
 by_cases h:(List.range n).all ok=true
 ·rw [if_pos h,if_pos (e.2 h)]
 ·rw [if_neg h,if_neg (fun q=>h (e.1 q))]
theorem xs:(∀ {α:Type} (a b:α),cond true a b=a)∧(∀ {α:Type} (a b:α),cond false a b=b)∧(∀ {α β:Type} (a:α) (f:α→Option β),(some a).bind f=f a)∧(∀ {α β:Type} (a:α) (f:α→β),(some a).map f=some (f a)) ∧
 (∀ {α R:Type} (v:α) (k:α→Option R),joinX (some (.inl v)) k=k v)∧(∀ {α R:Type} (r:R) (k:α→Option R),joinX (some (.inr r)) k=some r)∧(∀ (h:Decidable True),@decide True h=true)∧(∀ (h:Decidable False),@decide False h=false)∧((!true)=false)∧((!false)=true)∧(∀ b:Bool,(b&&true)=b)∧(∀ b:Bool,(true&&b)=b)∧(∀ b:Bool,(b&&b)=b)∧(∀ b:Bool,(false&&b)=false)∧(∀ b:Bool,(b&&false)=false)∧(∀ b:Bool,(true || b)=true)∧(∀ b:Bool,(b || true)=true)∧(∀ b:Bool,(false || b)=b)∧(∀ b:Bool,(b || false)=b)∧(∀ {α:Type} (a b:List α),Append.append a b=a++b)∧(∀ {α:Type} (a b:List α),(a++b).length=a.length+b.length)∧(∀ {α:Type} (a:α) (b:List α),(a::b).length=b.length+1)∧(∀ {α:Type},([]:List α).length=0)∧(∀ n:Nat,0+n=n)∧(∀ n:Nat,n+0=n)∧(∀ n:Nat,((n:Int)).toNat=n)∧(∀ n:Nat,(n≤n)=True)∧(∀ n:Int,(n≤n)=True)∧(∀ {α:Type} (a:List α),a.take a.length=a)∧(∀ {α:Type} (a b:α),(some a).getD b=a)∧(∀ {α:Type} (b:α),(none:Option α).getD b=b)∧(∀ {α:Type} (a b:α),(if True then a else b)=a)∧(∀ {α:Type} (a b:α),(if False then a else b)=b)∧((false=true)=False)∧((true=false)=False):=by
 refine ⟨fun _ _=>rfl,fun _ _=>rfl,fun _ _=>rfl,fun _ _=>rfl,fun _ _=>rfl,fun _ _=>rfl,fun _=>by simp,fun _=>by simp,rfl,rfl,?_,?_,?_,?_,?_,?_,?_,?_,?_,fun _ _=>rfl,fun _ _=>List.length_append,fun _ _=>rfl,rfl,Nat.zero_add,fun _=>rfl,fun _=>rfl,fun _=>eq_true (Nat.le_refl _),fun _=>eq_true (Int.le_refl _),fun _=>List.take_length,fun _ _=>rfl,fun _=>rfl,fun _ _=>by simp,fun _ _=>by simp,by simp,by simp⟩<;>(intro b; cases b<;>rfl)
end Go.Proofs.YtbgnmndgpaaidaaDoor.VL
end
section
namespace Go.Proofs.YtbgnmndgpaaidaaDoor.VL
open Go
set_option linter.unusedVariables false
set_option linter.unusedSectionVars false
set_option linter.unusedSimpArgs false
theorem bl_tri:∀ x y:List UInt8,Op.bytesLess x y=true∨x=y∨Op.bytesLess y x=true
 | [],[]=>.inr (.inl rfl)
 | [],_::_=>.inl rfl
 | _::_,[]=>.inr (.inr rfl)
 | a::x,b::y=>by
  simp only [Op.bytesLess,Bool.or_eq_true,decide_eq_true_eq,Bool.and_eq_true,beq_iff_eq,List.cons.injEq]
  rcases Nat.lt_trichotomy a.toNat b.toNat with h | h | h
  ·left; left; rw [UInt8.lt_iff_toNat_lt]; exact h
  ·have h:=UInt8.toNat_inj.1 h
   subst h
   rcases bl_tri x y with h | h | h
   ·exact .inl (.inr ⟨rfl,h⟩)
   ·exact .inr (.inl ⟨rfl,h⟩)
   ·exact .inr (.inr (.inr ⟨rfl,h⟩))
  ·right; right; left; rw [UInt8.lt_iff_toNat_lt]; exact h
theorem toList_loop (s:ByteArray):∀ (n i:Nat) (r:List UInt8),s.size - i=n→i≤s.size→ByteArray.toList.loop s i r=r.reverse++(s.data.toList.drop i):=by
 intro n
 induction n with
 | zero =>
  intro i r h hi
  have:i=s.size:=by omega
  unfold ByteArray.toList.loop
  rw [if_neg (by omega),List.drop_eq_nil_of_le (by rw [Array.length_toList]; show s.size≤i; omega),List.append_nil]
 | succ n ih =>
  intro i r h hi
  unfold ByteArray.toList.loop
  rw [if_pos (by omega),ih (i+1) _ (by omega) (by omega)]
  have hlt:i < s.data.toList.length:=by rw [Array.length_toList]; show i < s.size; omega
  have e:s.get! i=s.data.toList[i]:=by
   show s.data[i]! = _
   rw [getElem!_pos s.data i (by rw [Array.length_toList] at hlt; exact hlt)]
   simp
  rw [List.reverse_cons,List.append_assoc,List.singleton_append,e,List.drop_eq_getElem_cons hlt]
theorem toList_data (s:ByteArray):s.toList=s.data.toList:=by
 have:=toList_loop s (s.size - 0) 0 [] rfl (Nat.zero_le _)
 unfold ByteArray.toList
 rw [this]; simp
theorem toList_inj {a b:ByteArray} (h:a.toList=b.toList):a=b:=by
 rw [toList_data,toList_data] at h
 cases a; cases b
 simp only [ByteArray.mk.injEq]
 exact Array.toList_inj.1 h
theorem toList_len (s:ByteArray):s.toList.length=s.size:=by rw [toList_data,Array.length_toList]; rfl
theorem ba_get {s:ByteArray} {i:Nat} (h:i < s.size):s[(Int.toNat (i:Int))]?=some (s.get! i):=by
 rw [Int.toNat_natCast]
 have e:s.get! i=s[i]'h:=by
  show s.data[i]! = _
  rw [getElem!_pos s.data i h]
  first | done | rfl
 rw [e]
 exact getElem?_pos s i h
variable [Val]
def okB (n:Nat):Bool:=(decide (97≤n)&&decide (n≤122)) || ((decide (48≤n)&&decide (n≤57)) || decide (n=45))
end Go.Proofs.YtbgnmndgpaaidaaDoor.VL
end
section
namespace Go.Proofs.YtbgnmndgpaaidaaDoor.VL
open Go
set_option linter.unusedVariables false
set_option linter.unusedSectionVars false
set_option linter.unusedSimpArgs false
structure KOrd (κ:Type) where
 lt:κ→κ→Bool
 irr:∀ a,lt a a=false
 trn:∀ a b c,lt a b=true→lt b c=true→lt a c=true
 tri:∀ a b,lt a b=true∨a=b∨lt b a=true
namespace KOrd
variable {κ α:Type} (O:KOrd κ) (key:α→κ)
theorem asym {a b:κ} (h:O.lt a b=true):O.lt b a=false:=by
 rw [Bool.eq_false_iff]; intro k
 have:=O.trn _ _ _ h k
 rw [O.irr] at this; cases this
def Srt (l:List α):Prop:=l.Pairwise (fun a b=>O.lt (key a) (key b)=true)
def plc (l:List α) (k:κ):Nat:=l.countP (fun x=>O.lt (key x) k)
def put (l:List α) (x:α):List α:=l.filter (fun y=>O.lt (key y) (key x))++x::l.filter (fun y=>O.lt (key x) (key y))
variable {O key}
theorem Srt.tail {a:α} {l:List α} (h:O.Srt key (a::l)):O.Srt key l:=(List.pairwise_cons.1 h).2
theorem Srt.head {a:α} {l:List α} (h:O.Srt key (a::l)):∀ b ∈ l,O.lt (key a) (key b)=true:=(List.pairwise_cons.1 h).1
theorem split {l:List α} (hs:O.Srt key l) (k:κ):l.take (O.plc key l k)=l.filter (fun y=>O.lt (key y) k)∧l.drop (O.plc key l k)=l.filter (fun y=>!O.lt (key y) k):=by
 induction l with
 | nil=>exact ⟨rfl,rfl⟩
 | cons a l ih =>
  obtain ⟨i1,i2⟩:=ih hs.tail
  cases h:O.lt (key a) k with
  | true =>
   have e:O.plc key (a::l) k=O.plc key l k+1:=by unfold plc; simp [List.countP_cons,h]
   rw [e,List.take_succ_cons,List.drop_succ_cons,i1,i2]
   constructor<;>simp [h]
  | false =>
   have hall:∀ b ∈ l,O.lt (key b) k=false:=by
    intro b hb
    rw [Bool.eq_false_iff]; intro hk
    have:=O.trn _ _ _ (hs.head b hb) hk
    rw [h] at this; cases this
   have e:O.plc key (a::l) k=0:=by
    unfold plc
    simp only [List.countP_cons,h,Bool.false_eq_true,if_false,Nat.add_zero,List.countP_eq_zero]
    intro b hb; rw [hall b hb]; decide
   have f1:(a::l).filter (fun y=>O.lt (key y) k)=l.filter (fun y=>O.lt (key y) k):=by simp [h]
   have f2:(a::l).filter (fun y=>!O.lt (key y) k)=a::l.filter (fun y=>!O.lt (key y) k):=by simp [h]
   rw [e,List.take_zero,List.drop_zero,f1,f2]
   refine ⟨?_,?_⟩
   ·symm; rw [List.filter_eq_nil_iff]; intro b hb; rw [hall b hb]; decide
   ·rw [List.filter_eq_self.2]; intro b hb; rw [hall b hb]; rfl
theorem srt_ext:∀ {l m:List α},O.Srt key l→O.Srt key m→(∀ x,x ∈ l ↔ x ∈ m)→l=m
 | [],[],_,_,_=>rfl
 | [],b::m,_,_,h=>by have:=(h b).2 List.mem_cons_self; cases this
 | a::l,[],_,_,h=>by have:=(h a).1 List.mem_cons_self; cases this
 | a::l,b::m,h1,h2,h=>by
  have hab:a=b:=by
   rcases List.mem_cons.1 ((h a).1 List.mem_cons_self) with q | q
   ·exact q
   ·rcases List.mem_cons.1 ((h b).2 List.mem_cons_self) with q2 | q2
    ·exact q2.symm
    ·have e1:=h2.head a q
     have e2:=h1.head b q2
     rw [O.asym e1] at e2; cases e2
  subst hab
  congr 1
  refine srt_ext h1.tail h2.tail fun x=>?_
  constructor
  ·intro hx
   rcases List.mem_cons.1 ((h x).1 (List.mem_cons_of_mem _ hx)) with rfl | q
   ·have:=h1.head x hx; rw [O.irr] at this; cases this
   ·exact q
  ·intro hx
   rcases List.mem_cons.1 ((h x).2 (List.mem_cons_of_mem _ hx)) with rfl | q
   ·have:=h2.head x hx; rw [O.irr] at this; cases this
   ·exact q
end KOrd
end Go.Proofs.YtbgnmndgpaaidaaDoor.VL
end
section
namespace Go.Proofs.YtbgnmndgpaaidaaDoor.VL
open Go
set_option linter.unusedVariables false
set_option linter.unusedSectionVars false
set_option linter.unusedSimpArgs false
def ltN (a b:ByteArray):Bool:=Op.bytesLess a.toList b.toList
theorem tri (a b:ByteArray):ltN a b=true∨a=b∨ltN b a=true:=by
 rcases bl_tri a.toList b.toList with h | h | h
 ·exact .inl h
 ·exact .inr (.inl (toList_inj h))
 ·exact .inr (.inr h)
variable [Val]
theorem mid {i j:Nat} (h:i+j≤9223372036854775807):IntKind.wrap .i64 (Int.fdiv (IntKind.wrap .u64 (IntKind.wrap .i64 ((i:Int)+(j:Int)))) 2)=(((i+j) / 2:Nat):Int):=by
 rw [wi (x:=(i:Int)+j) (by omega) (by omega),wu (by omega) (by omega)]
 have e:Int.fdiv ((i:Int)+(j:Int)) 2=(((i+j) / 2:Nat):Int):=by
  rw [Int.fdiv_eq_ediv_of_nonneg _ (by omega)]; omega
 rw [e,wi (by omega) (by omega)]
theorem w1 {i:Nat} (h:i≤9223372036854775806):IntKind.wrap .i64 ((i:Int)+1)=((i+1:Nat):Int):=by rw [wi (by omega) (by omega)]; omega
theorem nz0:((0:Int) != 0)=false:=rfl
theorem nz1:((1:Int) != 0)=true:=rfl
theorem loop_detE {σ ρ:Type} {f:σ→Option (σ ⊕ ρ)} {s0:σ} (n:Nat) (st:Nat→σ) (r:ρ) (h0:s0=st 0) (hend:f (st n)=some (.inr r)) (hstep:∀ i,i < n→f (st i)=some (.inl (st (i+1)))):loopX f s0=some r:=by
 have key:∀ d i,n - i=d→i≤n→loopX f (st i)=some r:=by
  intro d
  induction d with
  | zero =>
   intro i h1 h2
   have:i=n:=by omega
   subst this; rw [loopX_eq,hend]
  | succ d ih=>intro i h1 h2; rw [loopX_eq,hstep i (by omega)]; exact ih (i+1) (by omega) (by omega)
 rw [h0]; exact key n 0 (by omega) (Nat.zero_le _)
theorem loop_list {α ρ:Type} {f:Int→Option (Int ⊕ ρ)} {s0:Int} (l:List α) (ok:α→Bool) (bad good:ρ) (h0:s0=0) (hend:f (l.length:Int)=some (.inr good))
  (hstep:∀ (i:Nat) (x:α),i < l.length→l[i]?=some x→f (i:Int)=if ok x=true then some (.inl ((i+1:Nat):Int)) else some (.inr bad)) :
  loopX f s0=some (if l.all ok=true then good else bad):=by
 subst h0
 rw [loop_all (n:=l.length) (fun i=>match l[i]? with | some x=>ok x | none=>true) bad good hend ?_]
 ·congr 2
  rw [eq_iff_iff,List.all_eq_true,List.all_eq_true]
  constructor
  ·intro h x hx
   obtain ⟨i,hi,rfl⟩:=List.getElem_of_mem hx
   have:=h i (List.mem_range.2 hi)
   rw [List.getElem?_eq_getElem hi] at this; exact this
  ·intro h i hi
   have hi:=List.mem_range.1 hi
   rw [List.getElem?_eq_getElem hi]; exact h _ (List.getElem_mem hi)
 ·intro i hi _
  rw [hstep i l[i] hi (List.getElem?_eq_getElem hi),List.getElem?_eq_getElem hi]
theorem loop_first {α ρ:Type} {f:Int→Option (Int ⊕ ρ)} {s0:Int} (l:List α) (p:α→Bool) (g:Nat→ρ) (no:ρ) (h0:s0=0) (hend:f (l.length:Int)=some (.inr no))
  (hstep:∀ (i:Nat) (x:α),i < l.length→l[i]?=some x→f (i:Int)=if p x=true then some (.inr (g i)) else some (.inl ((i+1:Nat):Int))) :
  loopX f s0=some (if l.any p=true then g (l.findIdx p) else no):=by
 subst h0
 have key:∀ d i,l.length - i=d→i≤l.length→(∀ j x,j < i→l[j]?=some x→p x=false)→loopX f (i:Int)=some (if l.any p=true then g (l.findIdx p) else no):=by
  intro d
  induction d with
  | zero =>
   intro i h1 h2 h3
   have:i=l.length:=by omega
   subst this
   rw [loopX_eq,hend,if_neg]
   rw [Bool.not_eq_true,List.any_eq_false]
   intro x hx
   obtain ⟨j,hj,rfl⟩:=List.getElem_of_mem hx
   rw [h3 j _ hj (List.getElem?_eq_getElem hj)]; decide
  | succ d ih =>
   intro i h1 h2 h3
   have hi:i < l.length:=by omega
   rw [loopX_eq,hstep i l[i] hi (List.getElem?_eq_getElem hi)]
   by_cases hp:p l[i]=true
   ·rw [if_pos hp]
    have ha:l.any p=true:=List.any_eq_true.2 ⟨_,List.getElem_mem hi,hp⟩
    have hf:l.findIdx p=i:=by
     refine (List.findIdx_eq hi).2 ⟨hp,fun j hj=>?_⟩
     exact h3 j _ hj (List.getElem?_eq_getElem (by omega))
    rw [if_pos ha,hf]
   ·rw [if_neg hp]
    simp only
    refine ih (i+1) (by omega) (by omega) fun j x hj hx=>?_
    rcases Nat.lt_or_eq_of_le (Nat.le_of_lt_succ hj) with q | q
    ·exact h3 j x q hx
    ·subst q
     rw [List.getElem?_eq_getElem hi] at hx
     cases hx
     exact Bool.eq_false_iff.2 hp
 exact key l.length 0 (by omega) (Nat.zero_le _) fun j x hj=>by omega
end Go.Proofs.YtbgnmndgpaaidaaDoor.VL
end
section
namespace Go.Proofs.YtbgnmndgpaaidaaDoor.VL
open Go
set_option linter.unusedVariables false
set_option linter.unusedSectionVars false
set_option linter.unusedSimpArgs false
set_option maxRecDepth 100000
def sortP_ren:Go.Shelf.Ren:=⟨fun | 6=>32 | 15=>45 | 14=>44 | 28=>60 | 29=>61 | 20=>52 | 21=>53 | 22=>54 | 23=>55 | 24=>56 | 25=>57 | 26=>58 | 27=>59 | 46=>67 | 47=>68 | 48=>69 | 49=>70 | 50=>71 | 57=>76 | n=>n,fun | 22=>26 | 24=>33 | 25=>63 | 3=>3 | 39=>74 | 0=>0 | 53=>89 | 55=>31 | 4=>4 | 46=>83 | 45=>82 | 50=>64 | 5=>5 | 9=>9 | 66=>96 | 70=>100 | 76=>106 | 77=>107 | n=>n,fun | n=>n⟩
theorem sortP:Go.Proofs.SlLaysF0.n6 Tryd.prog sortP_ren:={
  mixed:=by kernel_rfl
  f6:=⟨Tryd.f32.name,by decide,Tryd.func32.trans (congrArg some (by kernel_rfl))⟩
  f14:=⟨Tryd.f44.name,by decide,Tryd.func44.trans (congrArg some (by kernel_rfl))⟩
  f15:=Tryd.func45.trans (congrArg some (by kernel_rfl))
  f20:=⟨Tryd.f52.name,by decide,Tryd.func52.trans (congrArg some (by kernel_rfl))⟩
  f21:=⟨Tryd.f53.name,by decide,Tryd.func53.trans (congrArg some (by kernel_rfl))⟩
  f22:=⟨Tryd.f54.name,by decide,Tryd.func54.trans (congrArg some (by kernel_rfl))⟩
  f23:=⟨Tryd.f55.name,by decide,Tryd.func55.trans (congrArg some (by kernel_rfl))⟩
  f24:=⟨Tryd.f56.name,by decide,Tryd.func56.trans (congrArg some (by kernel_rfl))⟩
  f25:=⟨Tryd.f57.name,by decide,Tryd.func57.trans (congrArg some (by kernel_rfl))⟩
  f26:=⟨Tryd.f58.name,by decide,Tryd.func58.trans (congrArg some (by kernel_rfl))⟩
  f27:=⟨Tryd.f59.name,by decide,Tryd.func59.trans (congrArg some (by kernel_rfl))⟩
  f28:=Tryd.func60.trans (congrArg some (by kernel_rfl))
  f29:=Tryd.func61.trans (congrArg some (by kernel_rfl))
  f46:=⟨Tryd.f67.name,by decide,Tryd.func67.trans (congrArg some (by kernel_rfl))⟩
  f47:=Tryd.func68.trans (congrArg some (by kernel_rfl))
  f48:=Tryd.func69.trans (congrArg some (by kernel_rfl))
  f49:=⟨Tryd.f70.name,by decide,Tryd.func70.trans (congrArg some (by kernel_rfl))⟩
  f50:=⟨Tryd.f71.name,by decide,Tryd.func71.trans (congrArg some (by kernel_rfl))⟩
  f57:=⟨Tryd.f76.name,by decide,Tryd.func76.trans (congrArg some (by kernel_rfl))⟩
  t0:=Tryd.underlying0
  a0:=Tryd.isAgg0
  z0:=Tryd.sizeOf0
  v0:=Tryd.zeroValue0
  t3:=Tryd.underlying3
  a3:=Tryd.isAgg3
  z3:=Tryd.sizeOf3
  v3:=Tryd.zeroValue3
  t4:=Tryd.underlying4
  a4:=Tryd.isAgg4
  z4:=Tryd.sizeOf4
  v4:=Tryd.zeroValue4
  t5:=Tryd.underlying5
  a5:=Tryd.isAgg5
  z5:=Tryd.sizeOf5
  v5:=Tryd.zeroValue5
  t9:=Tryd.underlying9
  a9:=Tryd.isAgg9
  z9:=Tryd.sizeOf9
  v9:=Tryd.zeroValue9
  t22:=Tryd.underlying26
  a22:=Tryd.isAgg26
  z22:=Tryd.sizeOf26
  v22:=Tryd.zeroValue26
  t25:=Tryd.underlying63
  a25:=Tryd.isAgg63
  z25:=Tryd.sizeOf63
  v25:=Tryd.zeroValue63
  t39:=Tryd.underlying74
  a39:=Tryd.isAgg74
  z39:=Tryd.sizeOf74
  v39:=Tryd.zeroValue74
  t45:=Tryd.underlying82
  a45:=Tryd.isAgg82
  z45:=Tryd.sizeOf82
  v45:=Tryd.zeroValue82
  t46:=Tryd.underlying83
  a46:=Tryd.isAgg83
  z46:=Tryd.sizeOf83
  v46:=Tryd.zeroValue83
  t50:=Tryd.underlying64
  a50:=Tryd.isAgg64
  z50:=Tryd.sizeOf64
  v50:=Tryd.zeroValue64
  t53:=Tryd.underlying89
  a53:=Tryd.isAgg89
  z53:=Tryd.sizeOf89
  v53:=Tryd.zeroValue89
  t55:=Tryd.underlying31
  a55:=Tryd.isAgg31
  z55:=Tryd.sizeOf31
  v55:=Tryd.zeroValue31
  t66:=Tryd.underlying96
  a66:=Tryd.isAgg96
  z66:=Tryd.sizeOf96
  v66:=Tryd.zeroValue96
  t70:=Tryd.underlying100
  a70:=Tryd.isAgg100
  z70:=Tryd.sizeOf100
  v70:=Tryd.zeroValue100
  t76:=Tryd.underlying106
  a76:=Tryd.isAgg106
  z76:=Tryd.sizeOf106
  v76:=Tryd.zeroValue106
  t77:=Tryd.underlying107
  a77:=Tryd.isAgg107
  z77:=Tryd.sizeOf107
  v77:=Tryd.zeroValue107 }
section
variable [Val]
abbrev PT:=Int×(Int×Int)
def cm (a b:Int):Int:=cond (decide (a < b)) (-1) (cond (decide (b < a)) 1 0)
theorem cm_lt {a b:Int} (h:a < b):cm a b=-1:=by unfold cm; rw [decide_eq_true h]; rfl
theorem cm_gt {a b:Int} (h:b < a):cm a b=1:=by unfold cm; rw [decide_eq_false (by omega),decide_eq_true h]; rfl
theorem cm_eq (a:Int):cm a a=0:=by unfold cm; rw [decide_eq_false (by omega)]; rfl
theorem cm_cases (a b:Int):(a < b∧cm a b=-1)∨(a=b∧cm a b=0)∨(b < a∧cm a b=1):=by
 rcases Int.lt_trichotomy a b with h | h | h
 ·exact .inl ⟨h,cm_lt h⟩
 ·exact .inr (.inl ⟨h,by rw [h]; exact cm_eq b⟩)
 ·exact .inr (.inr ⟨h,cm_gt h⟩)
theorem F36_ok (a b:Int):F36 (a,b)=some (cm a b):=by
 rw [F36_eq]
 have e1:(a != a)=false:=by simp
 have e2:(b != b)=false:=by simp
 unfold cm
 simp -implicitDefEqProofs only [e1,e2,eq_self,xs]
 show cond (decide (a < b)) (some (-1)) (cond (decide (b < a)) (some 1) (some 0))=_
 cases decide (a < b)<;>cases decide (b < a)<;>rfl
theorem F47_ok (a b:Int):F47 (a,b)=some (cm a b):=by
 rw [F47_eq]
 have e1:(a != a)=false:=by simp
 have e2:(b != b)=false:=by simp
 unfold cm
 simp -implicitDefEqProofs only [e1,e2,eq_self,xs]
 show cond (decide (a < b)) (some (-1)) (cond (decide (b < a)) (some 1) (some 0))=_
 cases decide (a < b)<;>cases decide (b < a)<;>rfl
theorem F46_ok (x y z:Int):F46 [x,y,z]=some (if x=0 then (if y=0 then z else y) else x):=by
 have h0:(0:Int)≤0:=by omega
 have a0:decide ((0:Int) < (([x,y,z].length:Nat):Int))=true:=by rfl
 have a1:decide ((1:Int) < (([x,y,z].length:Nat):Int))=true:=by rfl
 have a2:decide ((2:Int) < (([x,y,z].length:Nat):Int))=true:=by rfl
 have a3:decide ((3:Int) < (([x,y,z].length:Nat):Int))=false:=by rfl
 have w0:IntKind.wrap .i64 ((0:Int)+1)=1:=by rfl
 have w1':IntKind.wrap .i64 ((1:Int)+1)=2:=by rfl
 have w2:IntKind.wrap .i64 ((2:Int)+1)=3:=by rfl
 have g0:[x,y,z][(0:Int).toNat]?=some x:=rfl
 have g1:[x,y,z][(1:Int).toNat]?=some y:=rfl
 have g2:[x,y,z][(2:Int).toNat]?=some z:=rfl
 have n0:decide ((0:Int)≤0)=true:=rfl
 have n1:decide ((0:Int)≤1)=true:=rfl
 have n2:decide ((0:Int)≤2)=true:=rfl
 rw [F46_eq,loopX_eq]
 simp only [a0,g0,n0,w0,cond_true,Option.bind_some]
 by_cases hx:x=0
 ·subst hx
  simp only [bne_self_eq_false,cond_false,if_true]
  rw [loopX_eq]
  simp only [a1,g1,n1,w1',cond_true,Option.bind_some]
  by_cases hy:y=0
  ·subst hy
   simp only [bne_self_eq_false,cond_false,if_true]
   rw [loopX_eq]
   simp only [a2,g2,n2,w2,cond_true,Option.bind_some]
   by_cases hz:z=0
   ·subst hz
    simp only [bne_self_eq_false,cond_false]
    rw [loopX_eq]
    simp only [a3,cond_false]
   ·have e:(z != 0)=true:=by simpa using hz
    simp only [e,cond_true]
  ·have e:(y != 0)=true:=by simpa using hy
   simp only [e,cond_true,if_neg hy]
 ·have e:(x != 0)=true:=by simpa using hx
  simp only [e,cond_true,if_neg hx]
def cmpP (a b:PT):Int:=if cm a.1 b.1=0 then (if cm a.2.1 b.2.1=0 then cm a.2.2 b.2.2 else cm a.2.1 b.2.1) else cm a.1 b.1
theorem F33_ok (a b:PT):F33 (a,b)=some (cmpP a b):=by
 rw [F33_eq]
 have h1:=F36_ok a.1 b.1
 have h2:=F47_ok a.2.1 b.2.1
 have h3:=F47_ok a.2.2 b.2.2
 have h4:=F46_ok (cm a.1 b.1) (cm a.2.1 b.2.1) (cm a.2.2 b.2.2)
 simp -implicitDefEqProofs only [h1,h2,h3,h4,eq_self,xs]
 rfl
def ltP (a b:PT):Bool:=decide (a.1 < b.1) || (decide (a.1=b.1)&&(decide (a.2.1 < b.2.1) || (decide (a.2.1=b.2.1)&&decide (a.2.2 < b.2.2))))
theorem ltP_iff {a b:PT}:ltP a b=true ↔ a.1 < b.1∨(a.1=b.1∧(a.2.1 < b.2.1∨(a.2.1=b.2.1∧a.2.2 < b.2.2))):=by
 simp [ltP]
theorem cmpP_lt (a b:PT):decide (cmpP a b < 0)=ltP a b:=by
 rw [Bool.eq_iff_iff,decide_eq_true_iff,ltP_iff]
 unfold cmpP
 rcases cm_cases a.1 b.1 with ⟨h1,e1⟩ | ⟨h1,e1⟩ | ⟨h1,e1⟩<;>rcases cm_cases a.2.1 b.2.1 with ⟨h2,e2⟩ | ⟨h2,e2⟩ | ⟨h2,e2⟩<;>rcases cm_cases a.2.2 b.2.2 with ⟨h3,e3⟩ | ⟨h3,e3⟩ | ⟨h3,e3⟩<;>rw [e1,e2,e3]<;>simp<;>omega
theorem cmpP_ge (a b:PT):decide (cmpP a b ≥ 0)=!ltP a b:=by
 rw [← cmpP_lt,Bool.eq_iff_iff,Bool.not_eq_true',decide_eq_true_iff,decide_eq_false_iff_not]; omega
theorem ltOf_cmpP (a b:PT):Go.Proofs.ltOf cmpP a b=ltP a b:=cmpP_lt a b
def ptO:KOrd PT:=⟨ltP,fun a=>by rw [Bool.eq_false_iff]; intro h; rw [ltP_iff] at h; omega,fun a b c h k=>by rw [ltP_iff] at *; omega,fun a b=>by
 obtain ⟨a1,a2,a3⟩:=a
 obtain ⟨b1,b2,b3⟩:=b
 rw [ltP_iff,ltP_iff]
 simp only [Prod.mk.injEq]
 omega⟩
theorem ltP_irr (a:PT):ltP a a=false:=ptO.irr a
theorem ltP_trans {a b c:PT} (h:ltP a b=true) (k:ltP b c=true):ltP a c=true:=ptO.trn _ _ _ h k
theorem ltP_tri (a b:PT):ltP a b=true∨a=b∨ltP b a=true:=ptO.tri a b
theorem swoP:Go.Sort.SWO (Go.Proofs.ltOf cmpP) where
 irrefl a:=by rw [ltOf_cmpP]; exact ltP_irr a
 trans a b c h k:=by rw [ltOf_cmpP] at *; exact ltP_trans h k
 ntrans a b c h k:=by
  rw [ltOf_cmpP] at *
  rw [Bool.eq_false_iff] at *
  intro q
  rcases ltP_tri a b with r | r | r
  ·exact h r
  ·subst r; exact k q
  ·exact k (ltP_trans r q)
def ix32:EX:=.srt 32 3 33 (.i .u64) (.p (.i .i64) (.i .i64)) cmpP
theorem ix32_ok:ix32.ok Tryd.prog:=by
 refine ⟨by kernel_rfl,by kernel_rfl,⟨sortP_ren,sortP,rfl,Tryd.isAgg33,Tryd.sizeOf33⟩,rfl,rfl,fun a b=>?_,swoP,fun a b h k=>?_⟩
 ·exact pe33_ok.h (a,b) (cmpP a b) (F33_ok a b)
 ·rw [ltOf_cmpP] at h k
  rcases ltP_tri a b with r | r | r
  ·rw [h] at r; cases r
  ·exact r
  ·rw [k] at r; cases r
end
end Go.Proofs.YtbgnmndgpaaidaaDoor.VL
end
section
namespace Go.Proofs.YtbgnmndgpaaidaaDoor.VL
open Go
set_option linter.unusedVariables false
set_option linter.unusedSectionVars false
set_option linter.unusedSimpArgs false
set_option maxRecDepth 100000
variable [Val]
theorem wrapU (x:Int):IntKind.wrap .u64 x=x % 18446744073709551616:=by rw [IntKind.wrap_u64]
theorem u_range (x:Int):0≤IntKind.wrap .u64 x∧IntKind.wrap .u64 x≤18446744073709551615:=by rw [wrapU]; omega
theorem ul_get {s:ByteArray} {i:Nat} (h:i < s.size):s[(Int.toNat (i:Int))]?=some (s.toList[i]'(by rw [toList_len]; exact h)):=by
 rw [ba_get h]
 congr 1
 have h1:i < s.data.size:=h
 have:s.get! i=s.data[i]:=by
  show s.data[i]! = _
  rw [getElem!_pos s.data i h1]
 rw [this]
 have h2:=toList_data s
 have h3:∀ (l:List UInt8) (e:l=s.data.toList) (hi:i < l.length),s.data[i]=l[i]:=by
  intro l e hi; subst e; simp
 exact h3 _ h2 _
def stepF (h:Int) (c:UInt8):Int:=IntKind.wrap .u64 (IntKind.wrap .u64 (((BitVec.ofInt 64 h).xor (BitVec.ofInt 64 (IntKind.wrap .u64 ((c.toNat:Nat):Int)))).toNat:Nat) * 1099511628211)
def onL (h:Int) (l:List UInt8):Int:=l.foldl stepF h
def onF (h:Int) (s:ByteArray):Int:=onL h s.toList
theorem onL_snoc (h:Int) (l:List UInt8) (c:UInt8):onL h (l++[c])=stepF (onL h l) c:=by unfold onL; rw [List.foldl_append]; rfl
theorem onL_app (h:Int) (l m:List UInt8):onL h (l++m)=onL (onL h l) m:=by unfold onL; rw [List.foldl_append]
theorem F42_ok (h:Int) {s:ByteArray} (hs:s.size≤9223372036854775806):F42 (h,s)=some (onF h s):=by
 rw [F42_eq]
 have hl:=toList_len s
 rw [loop_detE (s0:=(h,(0:Int))) s.size (fun i=>(onL h (s.toList.take i),((i:Nat):Int))) (onF h s) rfl]
 ·have q:¬ ((s.size:Nat):Int) < ((s.size:Nat):Int):=by omega
  simp -implicitDefEqProofs only [q,eq_self,xs]
  rw [List.take_of_length_le (by omega)]
  rfl
 ·intro i hi
  have q1:((i:Nat):Int) < ((s.size:Nat):Int):=by omega
  have q2:(0:Int)≤(i:Int):=by omega
  have e:onL h (s.toList.take (i+1))=stepF (onL h (s.toList.take i)) (s.toList[i]'(by omega)):=by
   rw [List.take_succ_eq_append_getElem (by omega),onL_snoc]
  have g:=ul_get hi
  rw [Int.toNat_natCast] at g
  simp -implicitDefEqProofs only [q1,q2,g,w1 (show i≤9223372036854775806 by omega),eq_self,xs]
  rw [e]
  rfl
theorem F49_ok {n:Int} (h:0≤n∧n≤18446744073709551615):F49 n=some (IntKind.wrap .u64 (n * 1099511628211)):=by
 rw [F49_eq]
 rw [loop_detE (s0:=(IntKind.wrap .u64 (n * 1099511627776),(0:Int))) 435 (fun i=>(IntKind.wrap .u64 (n * 1099511627776+(i:Int) * n),((i:Nat):Int))) (IntKind.wrap .u64 (n * 1099511628211)) (by simp)]
 ·have q:¬ ((435:Nat):Int) < 435:=by omega
  have e:n * 1099511627776+((435:Nat):Int) * n=n * 1099511628211:=by omega
  simp -implicitDefEqProofs only [q,e,eq_self,xs]
 ·intro i hi
  have q:((i:Nat):Int) < 435:=by omega
  have e:IntKind.wrap .u64 (IntKind.wrap .u64 (n * 1099511627776+(i:Int) * n)+n)=IntKind.wrap .u64 (n * 1099511627776+((i+1:Nat):Int) * n):=by
   have e1:((i+1:Nat):Int) * n=(i:Int) * n+n:=by rw [Int.natCast_add,Int.add_mul]; simp
   rw [e1]
   generalize (i:Int) * n=x
   rw [wrapU,wrapU,wrapU]; omega
  simp -implicitDefEqProofs only [q,e,w1 (show i≤9223372036854775806 by omega),eq_self,xs]
theorem F37_ok (h:Int) {s:ByteArray} (hs:s.size≤9223372036854775806):F37 (h,s)=some (onF h s):=by
 rw [F37_eq]
 have hl:=toList_len s
 rw [loop_detE (s0:=(h,(0:Int))) s.size (fun i=>(onL h (s.toList.take i),((i:Nat):Int))) (onF h s) rfl]
 ·have q:¬ ((s.size:Nat):Int) < ((s.size:Nat):Int):=by omega
  simp -implicitDefEqProofs only [q,eq_self,xs]
  rw [List.take_of_length_le (by omega)]
  rfl
 ·intro i hi
  have q1:((i:Nat):Int) < ((s.size:Nat):Int):=by omega
  have q2:(0:Int)≤(i:Int):=by omega
  have e:onL h (s.toList.take (i+1))=stepF (onL h (s.toList.take i)) (s.toList[i]'(by omega)):=by
   rw [List.take_succ_eq_append_getElem (by omega),onL_snoc]
  have g:=ul_get hi
  rw [Int.toNat_natCast] at g
  have f:=F49_ok (u_range (((BitVec.ofInt 64 (onL h (s.toList.take i))).xor (BitVec.ofInt 64 (IntKind.wrap .u64 (((s.toList[i]'(by omega)).toNat:Nat):Int)))).toNat:Nat))
  simp -implicitDefEqProofs only [q1,q2,g,f,w1 (show i≤9223372036854775806 by omega),eq_self,xs]
  rw [e]
  rfl
abbrev fst0:Int:=14695981039346656037
theorem F30_ok {l:List ByteArray} (hl:l.length≤9223372036854775806) (hs:∀ s ∈ l,s.size≤9223372036854775806):F30 l=some (l.foldl onF fst0):=by
 rw [F30_eq]
 rw [loop_detE (s0:=(fst0,(0:Int))) l.length (fun i=>((l.take i).foldl onF fst0,((i:Nat):Int))) (l.foldl onF fst0) rfl]
 ·have q:¬ ((l.length:Nat):Int) < ((l.length:Nat):Int):=by omega
  simp -implicitDefEqProofs only [q,List.take_length,eq_self,xs]
 ·intro i hi
  have q1:((i:Nat):Int) < ((l.length:Nat):Int):=by omega
  have q2:(0:Int)≤(i:Int):=by omega
  have g:=List.getElem?_eq_getElem hi
  have f:=F42_ok ((l.take i).foldl onF fst0) (hs _ (List.getElem_mem hi))
  simp -implicitDefEqProofs only [q1,q2,g,f,w1 (show i≤9223372036854775806 by omega),eq_self,xs]
  rw [List.take_succ_eq_append_getElem hi,List.foldl_append]
  rfl
def keyH (s:ByteArray):Int:=onF fst0 s
theorem F30_one {s:ByteArray} (hs:s.size≤9223372036854775806):F30 [s]=some (keyH s):=F30_ok (l:=[s]) (show 1≤9223372036854775806 by decide) (fun t ht=>by rw [List.mem_singleton] at ht; subst ht; exact hs)
theorem ba_nil (s:ByteArray):ByteArray.mk #[]++s=s:=by
 apply toList_inj
 rw [toList_data,toList_data]
 simp [ByteArray.data_append]
theorem ba_app (a b:ByteArray):(a++b).toList=a.toList++b.toList:=by
 rw [toList_data,toList_data,toList_data]
 simp [ByteArray.data_append]
theorem F18_one {s:ByteArray} (hs:s.size≤4611686018427387904):F18 [s]=some (keyH s):=by
 rw [F18_eq]
 have f:=F37_ok fst0 (show s.size≤9223372036854775806 by omega)
 rw [loop_detE (s0:=(ByteArray.mk #[],(0:Int))) 1 (fun i=>match i with | 0=>(ByteArray.mk #[],0) | _=>(s,1)) (keyH s) rfl]
 ·have q:¬ (1:Int) < (([s].length:Nat):Int):=by simp
  simp -implicitDefEqProofs only [q,f,eq_self,xs]
  rfl
 ·intro i hi
  obtain rfl:i=0:=by omega
  have q:(0:Int) < (([s].length:Nat):Int):=by simp
  have q2:(0:Int)≤(0:Int):=by decide
  have g:[s][(0:Nat)]?=some s:=rfl
  have g':[s][(Int.toNat (0:Int))]?=some s:=rfl
  have z:(ByteArray.mk #[]).size+s.size≤4611686018427387904:=by rw [show (ByteArray.mk #[]).size=0 from rfl]; omega
  have ww:IntKind.wrap .i64 ((0:Int)+1)=1:=by rfl
  have q0:(0:Int) < ((1:Nat):Int):=by decide
  simp -implicitDefEqProofs only [q,q0,q2,g,g',z,ww,ba_nil,eq_self,xs]
def slash:ByteArray:=ByteArray.mk #[47]
def hsh (n i:Nat):Int:=onF (onF (onF fst0 (itoa n)) slash) (itoa i)
def hnm (n i:Nat):ByteArray:=(itoa n++slash)++itoa i
theorem hsh_key (n i:Nat):hsh n i=keyH (hnm n i):=by
 unfold hsh keyH hnm onF
 rw [ba_app,ba_app,onL_app,onL_app]
theorem itoa_size (n:Nat):(itoa n).size≤2:=by
 unfold itoa
 cases Nat.blt n 10
 ·show 2≤2; exact Nat.le_refl _
 ·show 1≤2; decide
theorem hnm_size (n i:Nat):(hnm n i).size≤5:=by
 have h1:=itoa_size n
 have h2:=itoa_size i
 unfold hnm
 rw [ByteArray.size_append,ByteArray.size_append]
 have:slash.size=1:=rfl
 omega
theorem F31_ok {n:Nat} (h:n < 64):F31 (n:Int)=some (itoa n):=by
 unfold F31
 have q1:(0:Int)≤(n:Int):=by omega
 have q2:(n:Int) < 64:=by omega
 rw [decide_eq_true q1,decide_eq_true q2]
 rfl
theorem F30_hsh (n i:Nat):F30 (itoa n::(ByteArray.mk #[47]::(itoa i::[])))=some (hsh n i) :=
 F30_ok (l:=[itoa n,slash,itoa i]) (show 3≤9223372036854775806 by decide) (fun t ht=>by
  have h1:=itoa_size n
  have h2:=itoa_size i
  have h3:slash.size=1:=rfl
  simp only [List.mem_cons,List.mem_singleton,List.not_mem_nil,or_false] at ht
  rcases ht with rfl | rfl | rfl<;>omega)
end Go.Proofs.YtbgnmndgpaaidaaDoor.VL
end
section
namespace Go.Proofs.YtbgnmndgpaaidaaDoor.VL
open Go
set_option linter.unusedVariables false
set_option linter.unusedSectionVars false
set_option linter.unusedSimpArgs false
set_option maxRecDepth 100000
variable [Val]
def rngB (x:Int):Bool:=decide (0≤x)&&decide (x < 64)
theorem rngB_iff {x:Int}:rngB x=true ↔ 0≤x∧x < 64:=by simp [rngB]
def metA (l:List Int):List Bool:=(List.range 64).map (fun k=>decide (((k:Nat):Int) ∈ l))
theorem metA_len (l:List Int):(metA l).length=64:=by unfold metA; rw [List.length_map,List.length_range]
theorem metA_nil:metA []=List.replicate 64 false:=by decide
theorem metA_get {l:List Int} {x:Int} (h:0≤x∧x < 64):(metA l)[x.toNat]?=some (decide (x ∈ l)):=by
 unfold metA
 rw [List.getElem?_map,List.getElem?_range (by omega),Option.map_some]
 rw [Int.toNat_of_nonneg h.1]
theorem metA_set {l:List Int} {x:Int} (h:0≤x∧x < 64):(metA l).set x.toNat true=metA (l++[x]):=by
 refine List.ext_getElem? fun i=>?_
 rw [List.getElem?_set]
 by_cases hi:i < 64
 ·have g:∀ l:List Int,(metA l)[i]?=some (decide (((i:Nat):Int) ∈ l)):=fun l=>by
   unfold metA
   rw [List.getElem?_map,List.getElem?_range hi,Option.map_some]
  rw [g,g]
  split
  ·rename_i he
   rw [if_pos (by rw [metA_len]; omega)]
   rw [decide_eq_true]
   rw [← he,Int.toNat_of_nonneg h.1]; simp
  ·rename_i he
   congr 1
   rw [Bool.eq_iff_iff,decide_eq_true_iff,decide_eq_true_iff,List.mem_append,List.mem_singleton]
   constructor
   ·exact .inl
   ·rintro (q | q)
    ·exact q
    ·exact absurd (by rw [← q]; exact Int.toNat_natCast i) he
 ·have g:∀ l:List Int,(metA l)[i]?=none:=fun l=>List.getElem?_eq_none (by rw [metA_len]; omega)
  rw [g,g]
  split
  ·rename_i he; exact absurd (by omega) hi
  ·rfl
theorem F40_ok {l:List Int} (hl:l.length≤9223372036854775806):F40 l=some (if (∀ x ∈ l,rngB x=true)∧l.Nodup then true else false):=by
 rw [F40_eq,← metA_nil,show metA ([]:List Int)=metA (l.take 0) from by rw [List.take_zero]]
 rw [loop_allS (n:=l.length) (fun i=>metA (l.take i)) (fun i=>match l[i]? with | some x=>rngB x&&!decide (x ∈ l.take i) | none=>true) false true]
 ·congr 1
  have e:((List.range l.length).all (fun i=>match l[i]? with | some x=>rngB x&&!decide (x ∈ l.take i) | none=>true)=true) ↔ (∀ x ∈ l,rngB x=true)∧l.Nodup:=by
   rw [List.all_eq_true]
   constructor
   ·intro h
    have h':∀ (i:Nat) (hi:i < l.length),rngB l[i]=true∧l[i] ∉ l.take i:=by
     intro i hi
     have:=h i (List.mem_range.2 hi)
     rw [List.getElem?_eq_getElem hi] at this
     simp only [Bool.and_eq_true,Bool.not_eq_true',decide_eq_false_iff_not] at this
     exact this
    refine ⟨fun x hx=>?_,?_⟩
    ·obtain ⟨i,hi,rfl⟩:=List.getElem_of_mem hx
     exact (h' i hi).1
    ·rw [List.nodup_iff_pairwise_ne,List.pairwise_iff_getElem]
     intro i j hi hj hij he
     refine (h' j hj).2 ?_
     rw [← he]
     rw [List.mem_take_iff_getElem]
     exact ⟨i,by omega,rfl⟩
   ·rintro ⟨h1,h2⟩ i hi
    have hi:=List.mem_range.1 hi
    rw [List.getElem?_eq_getElem hi]
    simp only [Bool.and_eq_true,Bool.not_eq_true',decide_eq_false_iff_not]
    refine ⟨h1 _ (List.getElem_mem hi),fun hm=>?_⟩
    rw [List.mem_take_iff_getElem] at hm
    obtain ⟨j,hj,he⟩:=hm
    rw [List.nodup_iff_pairwise_ne,List.pairwise_iff_getElem] at h2
    exact h2 j i (by omega) hi (by omega) he
  by_cases h:(∀ x ∈ l,rngB x=true)∧l.Nodup
  ·rw [if_pos h,if_pos (e.2 h)]
  ·rw [if_neg h,if_neg (fun q=>h (e.1 q))]
 ·have q:¬ ((l.length:Nat):Int) < ((l.length:Nat):Int):=by omega
  simp -implicitDefEqProofs only [q,eq_self,xs]
 ·intro i hi _
  have q1:((i:Nat):Int) < ((l.length:Nat):Int):=by omega
  have q2:(0:Int)≤(i:Int):=by omega
  have g:=List.getElem?_eq_getElem hi
  simp only [g]
  have tk:l.take (i+1)=l.take i++[l[i]]:=List.take_succ_eq_append_getElem hi
  by_cases h0:l[i] < 0
  ·have e:rngB l[i]=false:=by rw [Bool.eq_false_iff]; intro h; rw [rngB_iff] at h; omega
   simp -implicitDefEqProofs only [q1,q2,g,h0,e,eq_self,xs]
  by_cases h1:l[i] ≥ 64
  ·have e:rngB l[i]=false:=by rw [Bool.eq_false_iff]; intro h; rw [rngB_iff] at h; omega
   simp -implicitDefEqProofs only [q1,q2,g,h0,h1,e,eq_self,xs]
  have hr:0≤l[i]∧l[i] < 64:=by omega
  have e:rngB l[i]=true:=rngB_iff.2 hr
  have ix:0+l[i].toNat * 1=l[i].toNat:=by omega
  have mg:=metA_get (l:=l.take i) hr
  have hlen:l[i].toNat < (metA (l.take i)).length:=by rw [metA_len]; omega
  have hlen2:1 < (metA (l.take i)).length:=by rw [metA_len]; omega
  have ms:=metA_set (l:=l.take i) hr
  by_cases hm:l[i] ∈ l.take i
  ·simp -implicitDefEqProofs only [q1,q2,g,h0,h1,e,hr.1,hr.2,Nat.mul_one,ix,mg,hm,eq_self,xs]
  ·simp -implicitDefEqProofs only [q1,q2,g,h0,h1,e,hr.1,hr.2,Nat.mul_one,ix,mg,hm,hlen,hlen2,ms,w1 (show i≤9223372036854775806 by omega),tk,eq_self,xs]
theorem get!_of {l:List Int} {i:Nat} (h:i < l.length):l[i]! = l[i]:=getElem!_pos l i h
open Classical in
theorem F41_ok {l:List Int} (hl:l.length≤9223372036854775806):F41 l=some (if ∀ i,i+1 < l.length→¬ l[i+1]! < l[i]! then true else false):=by
 rw [F41_eq]
 have ww:IntKind.wrap .i64 ((l.length:Int) - 1)=(l.length:Int) - 1:=by rw [wi (by omega) (by omega)]
 rw [ww]
 refine (loopX_spec (fun s:Int=>-1≤s∧s < (l.length:Int)) (fun s=>s.toNat) (fun s=>if ∀ i:Nat,((i+1:Nat):Int)≤s→¬ l[i+1]! < l[i]! then true else false) ?_ ((l.length:Int) - 1) ⟨by omega,by omega⟩).trans ?_
 ·rintro s ⟨h1,h2⟩
  by_cases hs:s≤0
  ·left
   have q:¬ s > 0:=by omega
   have e:∀ i:Nat,((i+1:Nat):Int)≤s→¬ l[i+1]! < l[i]! := fun i hi=>by omega
   rw [if_pos e]
   simp -implicitDefEqProofs only [q,eq_self,xs]
  ·obtain ⟨k,rfl⟩:∃ k:Nat,s=((k+1:Nat):Int):=⟨(s - 1).toNat,by omega⟩
   have hk:k+1 < l.length:=by omega
   have q1:((k+1:Nat):Int) > 0:=by omega
   have q2:(0:Int)≤((k+1:Nat):Int):=by omega
   have q3:(0:Int)≤((k:Nat):Int):=by omega
   have ww:IntKind.wrap .i64 (((k+1:Nat):Int) - 1)=((k:Nat):Int):=by rw [wi (by omega) (by omega)]; omega
   have g1:l[k+1]?=some l[k+1]! := by rw [get!_of hk]; exact List.getElem?_eq_getElem hk
   have g2:l[k]?=some l[k]! := by rw [get!_of (show k < l.length by omega)]; exact List.getElem?_eq_getElem (by omega)
   have n1:(l[k+1]! != l[k+1]!)=false:=by simp
   by_cases hlt:l[k+1]! < l[k]!
   ·left
    rw [if_neg (fun h=>h k (by omega) hlt)]
    have t:Int.toNat ((k+1:Nat):Int)=k+1:=Int.toNat_natCast _
    simp -implicitDefEqProofs only [q1,q2,q3,ww,t,g1,g2,n1,hlt,eq_self,xs]
   ·right
    refine ⟨((k:Nat):Int),?_,⟨by omega,by omega⟩,by simp,?_⟩
    ·have t:Int.toNat ((k+1:Nat):Int)=k+1:=Int.toNat_natCast _
     simp -implicitDefEqProofs only [q1,q2,q3,ww,t,g1,g2,n1,hlt,eq_self,xs]
    ·have e:(∀ i:Nat,((i+1:Nat):Int)≤((k:Nat):Int)→¬ l[i+1]! < l[i]!) ↔ (∀ i:Nat,((i+1:Nat):Int)≤((k+1:Nat):Int)→¬ l[i+1]! < l[i]!):=by
      refine ⟨fun h i hi=>?_,fun h i hi=>h i (by omega)⟩
      by_cases he:i=k
      ·subst he; exact hlt
      ·exact h i (by omega)
     by_cases h:(∀ i:Nat,((i+1:Nat):Int)≤((k:Nat):Int)→¬ l[i+1]! < l[i]!)
     ·rw [if_pos h,if_pos (e.1 h)]
     ·rw [if_neg h,if_neg (fun q=>h (e.2 q))]
 ·congr 1
  have e:(∀ i:Nat,((i+1:Nat):Int)≤(l.length:Int) - 1→¬ l[i+1]! < l[i]!) ↔ ∀ i,i+1 < l.length→¬ l[i+1]! < l[i]! :=
   ⟨fun h i hi=>h i (by omega),fun h i hi=>h i (by omega)⟩
  by_cases h:∀ i,i+1 < l.length→¬ l[i+1]! < l[i]!
  ·rw [if_pos h,if_pos (e.2 h)]
  ·rw [if_neg h,if_neg (fun q=>h (e.1 q))]
def nodP (l:List Int):Prop:=(∀ x ∈ l,0≤x∧x < 64)∧l.Pairwise (· < ·)
theorem nodP_iff {l:List Int}:((∀ x ∈ l,rngB x=true)∧l.Nodup)∧(∀ i,i+1 < l.length→¬ l[i+1]! < l[i]!) ↔ nodP l:=by
 constructor
 ·rintro ⟨⟨h1,h2⟩,h3⟩
  refine ⟨fun x hx=>rngB_iff.1 (h1 x hx),?_⟩
  rw [List.pairwise_iff_getElem]
  have key:∀ (d i:Nat) (hi:i+d+1 < l.length),l[i]'(by omega) < l[i+d+1]:=by
   intro d
   induction d with
   | zero =>
    intro i hi
    have h4:=h3 i (by omega)
    rw [get!_of hi,get!_of (show i < l.length by omega)] at h4
    have h5:l[i]'(by omega)≠l[i+1]:=by
     rw [List.nodup_iff_pairwise_ne,List.pairwise_iff_getElem] at h2
     exact h2 i (i+1) (by omega) (by omega) (by omega)
    simp only [Nat.add_zero] at *
    omega
   | succ d ih =>
    intro i hi
    have h6:=ih i (by omega)
    have h4:=h3 (i+d+1) (by omega)
    rw [get!_of (show i+d+1+1 < l.length by omega),get!_of (show i+d+1 < l.length by omega)] at h4
    have:l[i+(d+1)+1]'hi=l[i+d+1+1]'(by omega):=rfl
    omega
  intro i j hi hj hij
  have:=key (j - i - 1) i (by omega)
  have e:i+(j - i - 1)+1=j:=by omega
  simpa only [e] using this
 ·rintro ⟨h1,h2⟩
  refine ⟨⟨fun x hx=>rngB_iff.2 (h1 x hx),?_⟩,fun i hi=>?_⟩
  ·rw [List.nodup_iff_pairwise_ne]
   exact h2.imp (fun h=>by omega)
  ·rw [get!_of hi,get!_of (show i < l.length by omega)]
   rw [List.pairwise_iff_getElem] at h2
   have:=h2 i (i+1) (by omega) hi (by omega)
   omega
theorem nodP_len {l:List Int} (h:nodP l):l.length≤64:=by
 have key:∀ (l:List Int) (a:Int),0≤a→(∀ x ∈ l,a≤x∧x < 64)→l.Pairwise (· < ·)→(l.length:Int)+a≤64∨l=[]:=by
  intro l
  induction l with
  | nil=>intro a _ _ _; exact .inr rfl
  | cons b r ih =>
   intro a ha h1 h2
   left
   rw [List.pairwise_cons] at h2
   have hb:=h1 b (by simp)
   rcases ih (b+1) (by omega) (fun x hx=>⟨by have:=h2.1 x hx; omega,(h1 x (by simp [hx])).2⟩) h2.2 with h | h
   ·simp only [List.length_cons]; omega
   ·subst h; simp only [List.length_cons,List.length_nil]; omega
 rcases key l 0 (by omega) (fun x hx=>h.1 x hx) h.2 with q | q
 ·omega
 ·subst q; simp
open Classical in
theorem F29_ok {l:List Int} (hl:l.length≤9223372036854775806):F29 l=some (if nodP l then 0 else 1):=by
 rw [F29_eq]
 have h1:=F40_ok hl
 have h2:=F41_ok hl
 by_cases a:(∀ x ∈ l,rngB x=true)∧l.Nodup
 ·by_cases b:∀ i,i+1 < l.length→¬ l[i+1]! < l[i]!
  ·rw [if_pos (nodP_iff.1 ⟨a,b⟩)]
   rw [if_pos a] at h1
   rw [if_pos b] at h2
   simp -implicitDefEqProofs only [h1,h2,eq_self,xs]
  ·rw [if_neg (fun h=>b (nodP_iff.2 h).2)]
   rw [if_pos a] at h1
   rw [if_neg b] at h2
   simp -implicitDefEqProofs only [h1,h2,eq_self,xs]
 ·rw [if_neg (fun h=>a (nodP_iff.2 h).1)]
  rw [if_neg a] at h1
  simp -implicitDefEqProofs only [h1,h2,eq_self,xs]
theorem F27_ok {l:List Int} (x:Int) (hl:l.length≤9223372036854775806):F27 (l,x)=some ((l.count x:Nat):Int):=by
 rw [F27_eq]
 rw [loop_detE (s0:=((0:Int),(0:Int))) l.length (fun i=>(((l.take i).count x:Nat),((i:Nat):Int))) ((l.count x:Nat):Int) (by simp)]
 ·have q:¬ ((l.length:Nat):Int) < ((l.length:Nat):Int):=by omega
  simp -implicitDefEqProofs only [q,List.take_length,eq_self,xs]
 ·intro i hi
  have q1:((i:Nat):Int) < ((l.length:Nat):Int):=by omega
  have q2:(0:Int)≤(i:Int):=by omega
  have g:=List.getElem?_eq_getElem hi
  have tk:l.take (i+1)=l.take i++[l[i]]:=List.take_succ_eq_append_getElem hi
  have hc:(l.take i).count x≤9223372036854775806:=Nat.le_trans List.count_le_length (by rw [List.length_take]; omega)
  by_cases he:l[i]=x
  ·have e1:(l[i]==x)=true:=by rw [he]; exact beq_self_eq_true _
   have e2:(l.take (i+1)).count x=(l.take i).count x+1:=by
    rw [tk,List.count_append,he]; simp
   simp -implicitDefEqProofs only [q1,q2,g,e1,e2,w1 (show i≤9223372036854775806 by omega),w1 hc,eq_self,xs]
  ·have e1:(l[i]==x)=false:=by rw [beq_eq_false_iff_ne]; exact he
   have e2:(l.take (i+1)).count x=(l.take i).count x:=by
    have z:[l[i]].count x=0:=List.count_eq_zero.2 (by rw [List.mem_singleton]; exact fun h=>he h.symm)
    rw [tk,List.count_append,z]; rfl
   simp -implicitDefEqProofs only [q1,q2,g,e1,e2,w1 (show i≤9223372036854775806 by omega),eq_self,xs]
theorem count_nodup {l:List Int} (h:l.Nodup) {x:Int} (hx:x ∈ l):l.count x=1:=by
 rw [h.count,if_pos hx]
end Go.Proofs.YtbgnmndgpaaidaaDoor.VL
end
section
namespace Go.Proofs.YtbgnmndgpaaidaaDoor.VL
open Go
set_option maxRecDepth 100000
set_option linter.unusedVariables false
set_option linter.unusedSectionVars false
variable [Val]
noncomputable section
def xf12:FX:=⟨(.seq (.reg [⟨⟨(some 4),(.mov (.c (.sl true []))),none⟩,.b,[],[]⟩,⟨⟨(some 5),(.mov (.c (.v (.int .i64 0)))),none⟩,.b,[],[]⟩]) (.seq (.cut ⟨[4,5,10,11,12,13,14,15,16,17,18,19,20],[],⟨[],[],[]⟩⟩ (.seq (.cutN ⟨[10,11,12,13,14,15,16,17,18,19,20],[],⟨[],[(20,.v .b)],[]⟩⟩ (.reg [⟨⟨(some 10),(.mov (.t 0)),none⟩,.b,[],[]⟩,⟨⟨(some 11),(.call 0 29 [(.t 10)]),none⟩,.b,[],[]⟩,⟨⟨(some 12),(.bin .neq (.t 11) (.c (.v (.int .i64 0)))),none⟩,.b,[],[]⟩,⟨⟨(some 13),(.mov (.t 12)),none⟩,.b,[],[]⟩,⟨⟨(some 14),(.mov (.t 1)),(some (13,false))⟩,.b,[],[]⟩,⟨⟨(some 15),(.bin .lss (.t 14) (.c (.v (.int .i64 1)))),(some (13,false))⟩,.b,[],[]⟩,⟨⟨(some 16),(.pick (.t 13) (.c (.v (.bool true))) (.t 15)),none⟩,.b,[],[]⟩,⟨⟨(some 17),(.mov (.t 16)),none⟩,.b,[],[]⟩,⟨⟨(some 18),(.mov (.t 1)),(some (17,false))⟩,.b,[],[]⟩,⟨⟨(some 19),(.bin .gtr (.t 18) (.c (.v (.int .i64 32)))),(some (17,false))⟩,.b,[],[]⟩,⟨⟨(some 20),(.pick (.t 17) (.c (.v (.bool true))) (.t 19)),none⟩,.b,[],[]⟩])) (.cond (.t 20) (.seq (.reg [⟨⟨(some 4),(.mov (.c (.sl true []))),none⟩,.b,[],[]⟩,⟨⟨(some 5),(.mov (.c (.v (.int .i64 1)))),none⟩,.b,[],[]⟩]) .ret) .skip))) (.seq (.reg [⟨⟨(some 6),(.mov (.c (.sl true []))),none⟩,.b,[],[]⟩]) (.seq (.cutN ⟨[6,8,9,21,22,23,24,25,26,27,28,29,30,31,32,33,34,35,36,37,38,39,40,41,42,43,44],[4],⟨[],[(6,.ow 4 3)],[⟨4,.rows (.p (.i .u64) (.p (.i .i64) (.i .i64))) 3,false⟩]⟩⟩ (.seq (.reg [⟨⟨(some 21),(.mov (.t 0)),none⟩,.b,[],[]⟩,⟨⟨(some 22),(.len (.t 21)),none⟩,.b,[],[]⟩,⟨⟨(some 23),(.mov (.c (.v (.int .i64 0)))),none⟩,.b,[],[]⟩]) (.blk 0 (.loop ⟨[6,8,9,23,24,25,26,27,28,29,30,31,32,33,34,35,36,37,38,39,40,41,42,43,44],[4],⟨[],[(6,.ow 4 3),(23,.v (.i .i64))],[⟨4,.rows (.p (.i .u64) (.p (.i .i64) (.i .i64))) 3,false⟩]⟩⟩ (.seq (.reg [⟨⟨(some 24),(.bin .lss (.t 23) (.t 22)),none⟩,.b,[],[]⟩]) (.seq (.cond (.t 24) .skip (.exit 0)) (.seq (.cutN ⟨[6,8,9,25,26,27,28,29,30,31,32,33,34,35,36,37,38,39,40,41,42,43],[4],⟨[],[(6,.ow 4 3)],[⟨4,.rows (.p (.i .u64) (.p (.i .i64) (.i .i64))) 3,false⟩]⟩⟩ (.blk 1 (.seq (.reg [⟨⟨(some 25),(.iad 1 (.t 21) (.t 23)),none⟩,.b,[],[]⟩,⟨⟨(some 26),(.load false 1 (.t 25)),none⟩,.b,[],[]⟩,⟨⟨(some 8),(.mov (.t 26)),none⟩,.b,[],[]⟩]) (.seq (.reg [⟨⟨(some 27),(.mov (.t 1)),none⟩,.b,[],[]⟩,⟨⟨(some 28),(.mov (.c (.v (.int .i64 0)))),none⟩,.b,[],[]⟩]) (.blk 2 (.loop ⟨[6,9,28,29,30,31,32,33,34,35,36,37,38,39,40,41,42,43],[4],⟨[],[(6,.ow 4 3),(28,.v (.i .i64))],[⟨4,.rows (.p (.i .u64) (.p (.i .i64) (.i .i64))) 3,false⟩]⟩⟩ (.seq (.reg [⟨⟨(some 29),(.bin .lss (.t 28) (.t 27)),none⟩,.b,[],[]⟩]) (.seq (.cond (.t 29) .skip (.exit 2)) (.seq (.blk 3 (.seq (.reg [⟨⟨(some 30),(.mov (.t 28)),none⟩,.b,[],[]⟩,⟨⟨(some 9),(.mov (.t 30)),none⟩,.b,[],[]⟩]) (.reg [⟨⟨(some 31),(.mov (.t 6)),none⟩,.b,[],[]⟩,⟨⟨(some 32),(.mov (.t 8)),none⟩,.b,[],[]⟩,⟨⟨(some 33),(.call 1 31 [(.t 32)]),none⟩,.b,[],[]⟩,⟨⟨(some 34),(.mov (.t 9)),none⟩,.b,[],[]⟩,⟨⟨(some 35),(.call 2 31 [(.t 34)]),none⟩,.b,[],[]⟩,⟨⟨(some 36),(.bsl 1 (.v (.string ⟨#[]⟩)) 3 [(0,(.t 33)),(1,(.c (.v (.string ⟨#[47]⟩)))),(2,(.t 35))]),none⟩,.b,[],[]⟩,⟨⟨(some 37),(.call 3 30 [(.t 36)]),none⟩,.b,[],[]⟩,⟨⟨(some 38),(.mov (.t 8)),none⟩,.b,[],[]⟩,⟨⟨(some 39),(.mov (.t 9)),none⟩,.b,[],[]⟩,⟨⟨(some 40),(.bld [(.v (.int .u64 0)),(.v (.int .i64 0)),(.v (.int .i64 0))] [(0,1,(.t 37)),(1,1,(.t 38)),(2,1,(.t 39))]),none⟩,.b,[],[]⟩,⟨⟨(some 41),(.bsl 3 (.agg [(.v (.int .u64 0)),(.v (.int .i64 0)),(.v (.int .i64 0))]) 1 [(0,(.t 40))]),none⟩,.b,[],[]⟩,⟨⟨(some 42),(.app 4 3 24 (.agg [(.v (.int .u64 0)),(.v (.int .i64 0)),(.v (.int .i64 0))]) (.t 31) (.t 41)),none⟩,(.p (.i .u64) (.p (.i .i64) (.i .i64))),[],[]⟩,⟨⟨(some 6),(.mov (.t 42)),none⟩,.b,[],[]⟩]))) (.reg [⟨⟨(some 43),(.bin .add (.t 28) (.c (.v (.int .i64 1)))),none⟩,.b,[],[]⟩,⟨⟨(some 28),(.mov (.t 43)),none⟩,.b,[],[]⟩])))))))))) (.reg [⟨⟨(some 44),(.bin .add (.t 23) (.c (.v (.int .i64 1)))),none⟩,.b,[],[]⟩,⟨⟨(some 23),(.mov (.t 44)),none⟩,.b,[],[]⟩])))))))) (.seq (.reg [⟨⟨(some 45),(.mov (.t 6)),none⟩,.b,[],[]⟩,⟨⟨(some 46),(.call 5 32 [(.t 45),(.c (.clo 33 [] []))]),none⟩,.b,[],[]⟩]) (.seq (.reg [⟨⟨(some 47),(.mov (.t 6)),none⟩,.b,[],[]⟩,⟨⟨(some 4),(.mov (.t 47)),none⟩,.b,[],[]⟩,⟨⟨(some 5),(.mov (.c (.v (.int .i64 0)))),none⟩,.b,[],[]⟩]) .ret)))))),[11,33,35,37,42,46],48,[.t 4,.t 5],7⟩
theorem xf12_ok:xf12.ok Tryd.prog 12:=⟨_,_,Tryd.func12,rfl,by kernel_rfl,rfl,by kernel_rfl,rfl,by kernel_rfl,by kernel_rfl⟩
def tb12:List PE:=[pe29,pe30,pe31]
theorem tb12_ok:PEsOk Tryd.prog tb12:=⟨pe29_ok,pe30_ok,pe31_ok,trivial⟩
def ex12:List EX:=[ix32]
theorem ex12_ok:EXsOk Tryd.prog ex12:=⟨ix32_ok,trivial⟩
def in12:List IN:=[]
theorem in12_ok:INsOk Tryd.prog in12:=trivial
def F12:DT ((.co (.v (.sl (.i .i64))) (.co (.v (.i .i64)) .no)):Fm).den→Option (DT (.tup (.co (.v (.sl (.p (.i .u64) (.p (.i .i64) (.i .i64))))) (.co (.v (.i .i64)) .no)):Fm).den):=pureT tb12 ex12 in12 0 xf12 _ _ [4]
def pe12:PE:=⟨12,(.co (.v (.sl (.i .i64))) (.co (.v (.i .i64)) .no)),.tup (.co (.v (.sl (.p (.i .u64) (.p (.i .i64) (.i .i64))))) (.co (.v (.i .i64)) .no)),F12⟩
theorem pe12_ok:pe12.ok Tryd.prog:=pe_of hm tb12_ok ex12_ok in12_ok xf12_ok (by kernel_rfl) (fun _=>rfl)
end
end Go.Proofs.YtbgnmndgpaaidaaDoor.VL
end
section
namespace Go.Proofs.YtbgnmndgpaaidaaDoor.VL
open Go
set_option maxRecDepth 100000
set_option linter.unusedVariables false
set_option linter.unusedSectionVars false
variable [Val]
theorem F12_eq (v:((List Int)×Int)):F12 v=(joinX (Option.bind (Option.bind (F29 v.1) (fun (v0:Int)=>(cond (v0 != (0:Int)) (some true) (cond (decide (v.2 < (1:Int))) (some true) (some (decide (v.2 > (32:Int)))))))) (fun (v1:Bool)=>(cond v1 (some (.inr ([],(1:Int)))) (some (.inl ()))))) (fun (v2:Unit)=>(Option.bind (loopX (fun (v3:(Int×(List (Int×(Int×Int)))))=>(cond (decide (v3.1 < ((v.1.length:Nat):Int))) (Option.bind (cond (decide ((0:Int)≤v3.1)) (Option.bind v.1[(Int.toNat v3.1)]? (fun (v4:Int)=>(cond (decide (v3.2.length=v3.2.length)) (loopX (fun (v5:(Int×(List (Int×(Int×Int)))))=>(cond (decide (v5.1 < v.2)) (Option.bind (F31 v4) (fun (v6:ByteArray)=>(Option.bind (F31 v5.1) (fun (v7:ByteArray)=>(Option.bind (F30 (v6::((ByteArray.mk #[47])::(v7::[])))) (fun (v8:Int)=>(cond ((decide (v5.2.length=v5.2.length))&&((decide (((((v5.2.length+1):Nat):Int) * (24:Int))≤(70368744177664:Int)))&&(decide ((((v5.2.length+1):Nat):Int)≤(70368744177664:Int))))) (cond (decide ((v5.2.length+1)=(Append.append v5.2 ((v8,v4,v5.1)::[])).length)) (some (.inl ((IntKind.wrap IntKind.i64 (v5.1+(1:Int))),(Append.append v5.2 ((v8,v4,v5.1)::[]))))) none) none))))))) (Option.map (Sum.inr) (cond (decide (v5.2.length=v5.2.length)) (some v5.2) none)))) ((0:Int),v3.2)) none))) none) (fun (v9:(List (Int×(Int×Int))))=>(cond (decide (v9.length=v9.length)) (some (.inl ((IntKind.wrap IntKind.i64 (v3.1+(1:Int))),v9))) none))) (Option.map (Sum.inr) (cond (decide (v3.2.length=v3.2.length)) (some v3.2) none)))) ((0:Int),[])) (fun (v10:(List (Int×(Int×Int))))=>(cond ((decide (v10.length=v10.length))&&(decide (((v10.length:Nat):Int) < (4611686018427387904:Int)))) (cond (decide ((0+v10.length)≤(sortL cmpP v10).length)) (some ((List.take v10.length (sortL cmpP v10)),(0:Int))) none) none))))):=by kernel_rfl
end Go.Proofs.YtbgnmndgpaaidaaDoor.VL
end
section
namespace Go.Proofs.YtbgnmndgpaaidaaDoor.VL
open Go
set_option linter.unusedVariables false
set_option linter.unusedSectionVars false
set_option linter.unusedSimpArgs false
set_option maxRecDepth 100000
variable [Val]
theorem F28_ok {l:List Int} (hl:l.length≤9223372036854775806):F28 l=some (if l.all (fun x=>rngB x&&decide (l.count x=1))=true then true else false):=by
 rw [F28_eq]
 rw [loop_list (s0:=(0:Int)) l (fun x=>rngB x&&decide (l.count x=1)) false true rfl]
 ·have q:¬ ((l.length:Nat):Int) < ((l.length:Nat):Int):=by omega
  simp -implicitDefEqProofs only [q,eq_self,xs]
 ·intro i x hi hx
  have q1:((i:Nat):Int) < ((l.length:Nat):Int):=by omega
  have q2:(0:Int)≤(i:Int):=by omega
  have f:=F27_ok x hl
  by_cases h0:x < 0
  ·have e:rngB x=false:=by rw [Bool.eq_false_iff]; intro h; rw [rngB_iff] at h; omega
   simp -implicitDefEqProofs only [q1,q2,hx,h0,e,eq_self,xs]
  by_cases h1:x > 63
  ·have e:rngB x=false:=by rw [Bool.eq_false_iff]; intro h; rw [rngB_iff] at h; omega
   simp -implicitDefEqProofs only [q1,q2,hx,h0,h1,e,eq_self,xs]
  have e:rngB x=true:=rngB_iff.2 (by omega)
  by_cases hc:l.count x=1
  ·have e1:(((1:Nat):Int) != 1)=false:=rfl
   simp -implicitDefEqProofs only [q1,q2,hx,h0,h1,e,f,e1,hc,w1 (show i≤9223372036854775806 by omega),eq_self,xs]
  ·have e1:(((l.count x:Nat):Int) != 1)=true:=by rw [bne_iff_ne]; omega
   simp -implicitDefEqProofs only [q1,q2,hx,h0,h1,e,f,e1,hc,eq_self,xs]
open Classical in
theorem F10_ok {l:List Int} (hl:l.length≤9223372036854775806):F10 l=some (if nodP l then true else false):=by
 rw [F10_eq]
 have key:∀ g:Unit ⊕ Bool,(if ∀ i:Nat,(1:Int)≤((i+1:Nat):Int)→i+1 < l.length→l[i]! < l[i+1]! then (.inl ():Unit ⊕ Bool) else .inr false)=if ∀ i,i+1 < l.length→l[i]! < l[i+1]! then .inl () else .inr false:=by
  intro _
  have e:(∀ i:Nat,(1:Int)≤((i+1:Nat):Int)→i+1 < l.length→l[i]! < l[i+1]!) ↔ ∀ i,i+1 < l.length→l[i]! < l[i+1]! := ⟨fun h i hi=>h i (by omega) hi,fun h i _ hi=>h i hi⟩
  by_cases h:∀ i,i+1 < l.length→l[i]! < l[i+1]!
  ·rw [if_pos h,if_pos (e.2 h)]
  ·rw [if_neg h,if_neg (fun q=>h (e.1 q))]
 rw [loopX_spec (ρ:=Unit ⊕ Bool) (fun s:Int=>1≤s∧(s≤(l.length:Int)∨s=1)) (fun s=>l.length - s.toNat) (fun s=>if ∀ i:Nat,s≤((i+1:Nat):Int)→i+1 < l.length→l[i]! < l[i+1]! then .inl () else .inr false) ?_ 1 ⟨by omega,.inr rfl⟩]
 rotate_left
 ·rintro s ⟨h1,h2⟩
  by_cases hs:s < (l.length:Int)
  ·obtain ⟨k,rfl⟩:∃ k:Nat,s=((k+1:Nat):Int):=⟨(s - 1).toNat,by omega⟩
   have hk:k+1 < l.length:=by omega
   have q1:((k+1:Nat):Int) < ((l.length:Nat):Int):=by omega
   have q2:(0:Int)≤((k+1:Nat):Int):=by omega
   have q3:(0:Int)≤((k:Nat):Int):=by omega
   have ww:IntKind.wrap .i64 (((k+1:Nat):Int) - 1)=((k:Nat):Int):=by rw [wi (by omega) (by omega)]; omega
   have g1:l[k+1]?=some l[k+1]! := by rw [get!_of hk]; exact List.getElem?_eq_getElem hk
   have g2:l[k]?=some l[k]! := by rw [get!_of (show k < l.length by omega)]; exact List.getElem?_eq_getElem (by omega)
   have t:Int.toNat ((k+1:Nat):Int)=k+1:=Int.toNat_natCast _
   by_cases hlt:l[k+1]! ≤ l[k]!
   ·left
    rw [if_neg (fun h=>by have:=h k (by omega) hk; omega)]
    simp -implicitDefEqProofs only [q1,q2,q3,ww,t,g1,g2,hlt,eq_self,xs]
   ·right
    refine ⟨((k+1+1:Nat):Int),?_,⟨by omega,by omega⟩,by simp only [Int.toNat_natCast]; omega,?_⟩
    ·simp -implicitDefEqProofs only [q1,q2,q3,ww,t,g1,g2,hlt,w1 (show k+1≤9223372036854775806 by omega),eq_self,xs]
    ·have e:(∀ i:Nat,((k+1+1:Nat):Int)≤((i+1:Nat):Int)→i+1 < l.length→l[i]! < l[i+1]!) ↔ (∀ i:Nat,((k+1:Nat):Int)≤((i+1:Nat):Int)→i+1 < l.length→l[i]! < l[i+1]!):=by
      refine ⟨fun h i hi hl=>?_,fun h i hi=>h i (by omega)⟩
      by_cases he:i=k
      ·subst he; omega
      ·exact h i (by omega) hl
     by_cases h:(∀ i:Nat,((k+1:Nat):Int)≤((i+1:Nat):Int)→i+1 < l.length→l[i]! < l[i+1]!)
     ·rw [if_pos h,if_pos (e.2 h)]
     ·rw [if_neg h,if_neg (fun q=>h (e.1 q))]
  ·left
   rw [if_pos (fun i hi hl=>by omega)]
   simp -implicitDefEqProofs only [hs,eq_self,xs]
 rw [key (.inl ())]
 by_cases hup:∀ i,i+1 < l.length→l[i]! < l[i+1]!
 ·rw [if_pos hup]
  have f:=F28_ok hl
  by_cases hlen:l.length≤64
  ·have hlen':((l.length:Nat):Int)≤64:=by omega
   by_cases hc:l.all (fun x=>rngB x&&decide (l.count x=1))=true
   ·rw [if_pos hc] at f
    rw [List.all_eq_true] at hc
    have hn:nodP l:=nodP_iff.1 ⟨⟨fun x hx=>by have:=hc x hx; rw [Bool.and_eq_true] at this; exact this.1,by
     rw [List.nodup_iff_count]
     intro a
     by_cases ha:a ∈ l
     ·have:=hc a ha; rw [Bool.and_eq_true,decide_eq_true_iff] at this; omega
     ·rw [List.count_eq_zero.2 ha]; omega⟩,fun i hi=>by have:=hup i hi; omega⟩
    rw [if_pos hn]
    simp -implicitDefEqProofs only [hlen',f,eq_self,xs]
   ·rw [if_neg hc] at f
    rw [if_neg (fun hn=>hc (by
     obtain ⟨⟨a,b⟩,c⟩:=nodP_iff.2 hn
     rw [List.all_eq_true]
     intro x hx
     rw [Bool.and_eq_true,decide_eq_true_iff]
     exact ⟨a x hx,count_nodup b hx⟩))]
    simp -implicitDefEqProofs only [hlen',f,eq_self,xs]
  ·have hlen':¬ ((l.length:Nat):Int)≤64:=by omega
   rw [if_neg (fun hn=>hlen (nodP_len hn))]
   simp -implicitDefEqProofs only [hlen',eq_self,xs]
 ·rw [if_neg hup,if_neg (fun hn=>hup (fun i hi=>by
   have:=hn.2
   rw [List.pairwise_iff_getElem] at this
   rw [get!_of hi,get!_of (show i < l.length by omega)]
   exact this i (i+1) (by omega) hi (by omega)))]
  simp -implicitDefEqProofs only [hup,eq_self,xs]
def rowP (n:Int) (m:Nat):List PT:=(List.range m).map fun i=>(hsh n.toNat i,n,((i:Nat):Int))
def rawP (l:List Int) (m:Nat):List PT:=l.flatMap fun n=>rowP n m
def pts (l:List Int) (m:Nat):List PT:=sortL cmpP (rawP l m)
theorem rowP_len (n:Int) (m:Nat):(rowP n m).length=m:=by unfold rowP; rw [List.length_map,List.length_range]
theorem rawP_len (l:List Int) (m:Nat):(rawP l m).length=m * l.length:=by
 induction l with
 | nil=>rfl
 | cons n r ih=>show (rowP n m++rawP r m).length=_; rw [List.length_append,ih,rowP_len,List.length_cons,Nat.mul_add]; omega
theorem pts_len (l:List Int) (m:Nat):(pts l m).length=m * l.length:=by unfold pts; rw [sortL_len,rawP_len]
theorem rowP_succ (n:Int) (m:Nat):rowP n (m+1)=rowP n m++[(hsh n.toNat m,n,((m:Nat):Int))]:=by unfold rowP; rw [List.range_succ,List.map_append]; rfl
theorem mem_rawP {l:List Int} {m:Nat} {p:PT}:p ∈ rawP l m ↔ ∃ n ∈ l,∃ i,i < m∧p=(hsh n.toNat i,n,((i:Nat):Int)):=by
 unfold rawP rowP
 simp only [List.mem_flatMap,List.mem_map,List.mem_range]
 constructor
 ·rintro ⟨n,hn,i,hi,rfl⟩; exact ⟨n,hn,i,hi,rfl⟩
 ·rintro ⟨n,hn,i,hi,rfl⟩; exact ⟨n,hn,i,hi,rfl⟩
theorem mem_pts {l:List Int} {m:Nat} {p:PT}:p ∈ pts l m ↔ ∃ n ∈ l,∃ i,i < m∧p=(hsh n.toNat i,n,((i:Nat):Int)):=by
 unfold pts sortL
 rw [(List.mergeSort_perm _ _).mem_iff]
 exact mem_rawP
open Classical in
theorem F12_ok {l:List Int} {sp:Int} (hl:l.length≤9223372036854775806):F12 (l,sp)=some (if nodP l∧1≤sp∧sp≤32 then (pts l sp.toNat,0) else ([],1)):=by
 rw [F12_eq]
 have f29:=F29_ok hl
 by_cases hn:nodP l
 ·rw [if_pos hn] at f29
  by_cases h1:sp < 1
  ·rw [if_neg (by omega)]
   simp -implicitDefEqProofs only [f29,nz0,h1,eq_self,xs]
  by_cases h2:sp > 32
  ·rw [if_neg (by omega)]
   simp -implicitDefEqProofs only [f29,nz0,h1,h2,eq_self,xs]
  rw [if_pos ⟨hn,by omega,by omega⟩]
  obtain ⟨m,rfl⟩:∃ m:Nat,sp=(m:Int):=⟨sp.toNat,by omega⟩
  have hm:m≤32:=by omega
  have hlen:=nodP_len hn
  simp -implicitDefEqProofs only [f29,nz0,h1,h2,eq_self,xs]
  rw [loop_detE (s0:=((0:Int),([]:List PT))) l.length (fun i=>(((i:Nat):Int),rawP (l.take i) m)) (rawP l m) rfl]
  ·have hr:(rawP l m).length≤2048:=by
    rw [rawP_len]
    exact Nat.le_trans (Nat.mul_le_mul hm hlen) (by decide)
   have q:(((rawP l m).length:Nat):Int) < 4611686018427387904:=by omega
   have e:sortL cmpP (rawP l m)=pts l m:=rfl
   simp -implicitDefEqProofs only [q,sortL_len,eq_self,xs]
   rw [List.take_of_length_le (by rw [sortL_len]; exact Nat.le_refl _)]
   rfl
  ·have q:¬ ((l.length:Nat):Int) < ((l.length:Nat):Int):=by omega
   simp -implicitDefEqProofs only [q,List.take_length,eq_self,xs]
  ·intro i hi
   have q1:((i:Nat):Int) < ((l.length:Nat):Int):=by omega
   have q2:(0:Int)≤(i:Int):=by omega
   have g:=List.getElem?_eq_getElem hi
   have hx:=hn.1 l[i] (List.getElem_mem hi)
   have tk:rawP (l.take (i+1)) m=rawP (l.take i) m++rowP l[i] m:=by
    rw [List.take_succ_eq_append_getElem hi]
    unfold rawP
    rw [List.flatMap_append]; simp
   have hr:(rawP (l.take i) m).length≤2048:=by
    rw [rawP_len]
    exact Nat.le_trans (Nat.mul_le_mul hm (by rw [List.length_take]; omega)) (show 32 * 64≤2048 by decide)
   simp -implicitDefEqProofs only [q1,q2,g,eq_self,xs]
   rw [loop_detE (s0:=((0:Int),rawP (l.take i) m)) m (fun j=>(((j:Nat):Int),rawP (l.take i) m++rowP l[i] j)) (rawP (l.take i) m++rowP l[i] m) (by simp [rowP])]
   ·simp -implicitDefEqProofs only [w1 (show i≤9223372036854775806 by omega),tk,eq_self,xs]
   ·have q:¬ ((m:Nat):Int) < ((m:Nat):Int):=by omega
    simp -implicitDefEqProofs only [q,eq_self,xs]
   ·intro j hj
    have q3:((j:Nat):Int) < ((m:Nat):Int):=by omega
    obtain ⟨nn,hnn⟩:∃ nn:Nat,l[i]=(nn:Int):=⟨l[i].toNat,by omega⟩
    have fa:=F31_ok (n:=nn) (by omega)
    have fb:=F31_ok (n:=j) (by omega)
    have fc:=F30_hsh nn j
    have hq:(rawP (l.take i) m++rowP l[i] j).length≤4096:=by rw [List.length_append,rowP_len]; omega
    have q5:((((rawP (l.take i) m++rowP l[i] j).length+1:Nat):Int)) * 24≤70368744177664:=by omega
    have q6:((((rawP (l.take i) m++rowP l[i] j).length+1:Nat):Int))≤70368744177664:=by omega
    have e:rawP (l.take i) m++rowP l[i] (j+1)=(rawP (l.take i) m++rowP l[i] j)++[(hsh nn j,l[i],((j:Nat):Int))]:=by rw [rowP_succ,← List.append_assoc,show l[i].toNat=nn by omega]
    rw [e]
    clear e
    generalize rawP (l.take i) m++rowP l[i] j=R at hq q5 q6 ⊢
    rw [hnn]
    simp -implicitDefEqProofs only [q3,fa,fb,fc,q5,q6,app_eq,w1 (show j≤9223372036854775806 by omega),List.length_append,eq_self,xs]
 ·rw [if_neg (fun h=>hn h.1)]
  rw [if_neg hn] at f29
  simp -implicitDefEqProofs only [f29,nz1,eq_self,xs]
end Go.Proofs.YtbgnmndgpaaidaaDoor.VL
end
section
namespace Go.Proofs.YtbgnmndgpaaidaaDoor.VL
open Go
set_option linter.unusedVariables false
set_option linter.unusedSectionVars false
set_option linter.unusedSimpArgs false
set_option maxRecDepth 100000
variable [Val]
theorem pw_adj {α:Type} {R:α→α→Prop} (tr:∀ a b c,R a b→R b c→R a c) {l:List α}:(∀ (i:Nat) (h:i+1 < l.length),R (l[i]'(by omega)) l[i+1]) ↔ l.Pairwise R:=by
 constructor
 ·intro h3
  rw [List.pairwise_iff_getElem]
  have key:∀ (d i:Nat) (hi:i+d+1 < l.length),R (l[i]'(by omega)) l[i+d+1]:=by
   intro d
   induction d with
   | zero=>intro i hi; exact h3 i hi
   | succ d ih =>
    intro i hi
    exact tr _ _ _ (ih i (by omega)) (h3 (i+d+1) hi)
  intro i j hi hj hij
  have:=key (j - i - 1) i (by omega)
  have e:i+(j - i - 1)+1=j:=by omega
  simpa only [e] using this
 ·intro h i hi
  rw [List.pairwise_iff_getElem] at h
  exact h i (i+1) (by omega) hi (by omega)
def sP (l:List PT):Prop:=l.Pairwise (fun a b=>ltP a b=true)
def okP (l:List PT):Prop:=l.length≤2048∧(∀ p ∈ l,0≤p.2.1∧p.2.1 < 64)∧sP l
def okA (l:List PT) (i:Nat):Bool:=match l[i]? with
 | some p=>rngB p.2.1&&(decide (i=0) || (match l[i - 1]? with | some q=>ltP q p | none=>false))
 | none=>true
theorem okA_iff {l:List PT}:(List.range l.length).all (okA l)=true ↔ (∀ p ∈ l,0≤p.2.1∧p.2.1 < 64)∧sP l:=by
 rw [List.all_eq_true]
 have h':(∀ i ∈ List.range l.length,okA l i=true) ↔ ∀ (i:Nat) (hi:i < l.length),rngB l[i].2.1=true∧(i=0∨ltP (l[i - 1]'(by omega)) l[i]=true):=by
  constructor
  ·intro h i hi
   have:=h i (List.mem_range.2 hi)
   unfold okA at this
   rw [List.getElem?_eq_getElem hi,List.getElem?_eq_getElem (show i - 1 < l.length by omega)] at this
   simpa only [Bool.and_eq_true,Bool.or_eq_true,decide_eq_true_iff] using this
  ·intro h i hi
   have hi:=List.mem_range.1 hi
   have:=h i hi
   unfold okA
   rw [List.getElem?_eq_getElem hi,List.getElem?_eq_getElem (show i - 1 < l.length by omega)]
   simpa only [Bool.and_eq_true,Bool.or_eq_true,decide_eq_true_iff] using this
 rw [h']
 constructor
 ·intro h
  refine ⟨fun p hp=>?_,?_⟩
  ·obtain ⟨i,hi,rfl⟩:=List.getElem_of_mem hp
   exact rngB_iff.1 (h i hi).1
  ·refine (pw_adj (R:=fun a b=>ltP a b=true) (fun a b c=>ltP_trans)).1 fun i hi=>?_
   rcases (h (i+1) hi).2 with q | q
   ·omega
   ·exact q
 ·rintro ⟨h1,h2⟩ i hi
  refine ⟨rngB_iff.2 (h1 _ (List.getElem_mem hi)),?_⟩
  by_cases h0:i=0
  ·exact .inl h0
  ·right
   have:=(pw_adj (R:=fun a b=>ltP a b=true) (fun a b c=>ltP_trans)).2 h2 (i - 1) (by omega)
   have e:i - 1+1=i:=by omega
   simpa only [e] using this
open Classical in
theorem F13_ok {l:List PT} (hl:l.length≤9223372036854775806):F13 l=some (if okP l then 0 else 1):=by
 rw [F13_eq]
 by_cases hlen:l.length≤2048
 ·have q0:¬ ((l.length:Nat):Int) > 2048:=by omega
  rw [decide_eq_false q0,cond_false]
  rw [loop_all (n:=l.length) (okA l) (1:Int) 0]
  ·congr 1
   by_cases h:(List.range l.length).all (okA l)=true
   ·rw [if_pos h,if_pos ⟨hlen,okA_iff.1 h⟩]
   ·rw [if_neg h,if_neg (fun q=>h (okA_iff.2 q.2))]
  ·have q:¬ ((l.length:Nat):Int) < ((l.length:Nat):Int):=by omega
   simp -implicitDefEqProofs only [q,eq_self,xs]
  ·intro i hi _
   have q1:((i:Nat):Int) < ((l.length:Nat):Int):=by omega
   have q2:(0:Int)≤(i:Int):=by omega
   have g:=List.getElem?_eq_getElem hi
   by_cases h0:l[i].2.1 < 0
   ·have e:rngB l[i].2.1=false:=by rw [Bool.eq_false_iff]; intro h; rw [rngB_iff] at h; omega
    have e':okA l i=false:=by unfold okA; rw [g]; simp only [e,Bool.false_and]
    rw [e']
    simp -implicitDefEqProofs only [q1,q2,g,h0,eq_self,xs]
   by_cases h1:l[i].2.1 ≥ 64
   ·have e:rngB l[i].2.1=false:=by rw [Bool.eq_false_iff]; intro h; rw [rngB_iff] at h; omega
    have e':okA l i=false:=by unfold okA; rw [g]; simp only [e,Bool.false_and]
    rw [e']
    simp -implicitDefEqProofs only [q1,q2,g,h0,h1,eq_self,xs]
   have e:rngB l[i].2.1=true:=rngB_iff.2 (by omega)
   by_cases hi0:i=0
   ·subst hi0
    have e':okA l 0=true:=by unfold okA; rw [g]; simp only [e,decide_true,Bool.true_or,Bool.and_self]
    rw [e']
    have q3:¬ ((0:Nat):Int) > 0:=by omega
    simp -implicitDefEqProofs only [q1,q2,q3,g,h0,h1,w1 (show 0≤9223372036854775806 by omega),eq_self,xs]
   ·obtain ⟨k,rfl⟩:∃ k,i=k+1:=⟨i - 1,by omega⟩
    have gk:=List.getElem?_eq_getElem (show k < l.length by omega)
    have e':okA l (k+1)=ltP l[k] l[k+1]:=by
     unfold okA
     rw [g]
     have e1:decide (k+1=0)=false:=decide_eq_false (by omega)
     have e2:k+1 - 1=k:=rfl
     simp only [e,e1,e2,gk,Bool.false_or,Bool.true_and]
    rw [e']
    have q3:((k+1:Nat):Int) > 0:=by omega
    have ww:IntKind.wrap .i64 (((k+1:Nat):Int) - 1)=((k:Nat):Int):=by rw [wi (by omega) (by omega)]; omega
    have q4:(0:Int)≤(k:Int):=by omega
    have f:=F33_ok l[k] l[k+1]
    have t:Int.toNat ((k+1:Nat):Int)=k+1:=Int.toNat_natCast _
    have c:=cmpP_ge l[k] l[k+1]
    have ww2:=w1 (show k+1≤9223372036854775806 by omega)
    cases hc:ltP l[k] l[k+1]
    ·rw [hc] at c
     simp -implicitDefEqProofs only [q1,q2,q3,q4,ww,t,g,gk,h0,h1,f,c,eq_self,xs]
    ·rw [hc] at c
     simp -implicitDefEqProofs only [q1,q2,q3,q4,ww,t,g,gk,h0,h1,f,c,ww2,eq_self,xs]
 ·have q0:((l.length:Nat):Int) > 2048:=by omega
  rw [decide_eq_true q0,cond_true,if_neg (fun h=>hlen h.1)]
def hP (l:List PT):Prop:=l.Pairwise (fun a b=>a.1≤b.1)
theorem sP.hP {l:List PT} (h:sP l):hP l:=h.imp fun q=>by rw [ltP_iff] at q; omega
def lb (l:List PT) (k:Int):Nat:=l.countP fun p=>decide (p.1 < k)
theorem lb_le (l:List PT) (k:Int):lb l k≤l.length:=List.countP_le_length
theorem lb_all {l:List PT} (h:hP l) (k:Int):(∀ (i:Nat) (hi:i < l.length),l[i].1 < k ↔ i < lb l k)∧l.take (lb l k)=l.filter (fun p=>decide (p.1 < k))∧l.drop (lb l k)=l.filter (fun p=>!decide (p.1 < k)):=by
 induction l with
 | nil=>exact ⟨fun i hi=>by simp at hi,rfl,rfl⟩
 | cons a r ih =>
  obtain ⟨h1,h2⟩:=List.pairwise_cons.1 h
  obtain ⟨i1,i2,i3⟩:=ih h2
  by_cases ha:a.1 < k
  ·have e:lb (a::r) k=lb r k+1:=by unfold lb; rw [List.countP_cons_of_pos (by simpa using ha)]
   rw [e]
   refine ⟨fun i hi=>?_,?_,?_⟩
   ·cases i with
    | zero=>simp [ha]
    | succ i =>
     have:=i1 i (by simpa using hi)
     simp only [List.getElem_cons_succ]
     omega
   ·rw [List.take_succ_cons,i2,List.filter_cons_of_pos (by simpa using ha)]
   ·rw [List.drop_succ_cons,i3,List.filter_cons_of_neg (by simpa using ha)]
  ·have hall:∀ b ∈ a::r,¬ b.1 < k:=by
    intro b hb
    rcases List.mem_cons.1 hb with rfl | hb
    ·exact ha
    ·have:=h1 b hb; omega
   have e:lb (a::r) k=0:=by
    unfold lb
    rw [List.countP_eq_zero]
    intro b hb
    simpa using hall b hb
   rw [e]
   refine ⟨fun i hi=>?_,?_,?_⟩
   ·have:=hall _ (List.getElem_mem hi)
    omega
   ·rw [List.take_zero]
    symm
    rw [List.filter_eq_nil_iff]
    intro b hb; simpa using hall b hb
   ·rw [List.drop_zero]
    symm
    rw [List.filter_eq_self]
    intro b hb; simpa using hall b hb
open Classical in
theorem F14_ok {l:List PT} {key:ByteArray} (hl:l.length≤9223372036854775806) (hk:key.size≤9223372036854775806):F14 (l,key)=some (if okP l then (if l=[] then (0,6) else (((lb l (keyH key) % l.length:Nat):Int),0)) else (0,1)):=by
 rw [F14_eq]
 have f13:=F13_ok hl
 have f30:=F30_one hk
 by_cases hok:okP l
 ·rw [if_pos hok] at f13 ⊢
  by_cases he:l=[]
  ·subst he
   simp -implicitDefEqProofs only [f13,nz0,eq_self,xs]
   rfl
  rw [if_neg he]
  have hpos:0 < l.length:=List.length_pos_iff.2 he
  have hlen:=hok.1
  have hb:=lb_all hok.2.2.hP (keyH key)
  have hle:=lb_le l (keyH key)
  have en:(((l.length:Nat):Int)==0)=false:=by rw [beq_eq_false_iff_ne]; omega
  simp -implicitDefEqProofs only [f13,nz0,en,f30,eq_self,xs]
  rw [loopX_spec (ρ:=Int) (fun s:Int×Int=>0≤s.1∧s.1≤lb l (keyH key)∧(lb l (keyH key):Int)≤s.2∧s.2≤l.length) (fun s=>(s.2 - s.1).toNat) (fun s=>((lb l (keyH key):Nat):Int)) ?_ (0,((l.length:Nat):Int)) ⟨by omega,by omega,by omega,by omega⟩]
  rotate_left
  ·rintro ⟨i,j⟩ ⟨h1,h2,h3,h4⟩
   simp only at h1 h2 h3 h4
   obtain ⟨i,rfl⟩:∃ n:Nat,i=n:=⟨i.toNat,by omega⟩
   obtain ⟨j,rfl⟩:∃ n:Nat,j=n:=⟨j.toNat,by omega⟩
   by_cases hij:i < j
   ·right
    have q1:((i:Nat):Int) < ((j:Nat):Int):=by omega
    have hm:=mid (i:=i) (j:=j) (by omega)
    have q2:(0:Int)≤(((i+j) / 2:Nat):Int):=by omega
    have hlt:(i+j) / 2 < l.length:=by omega
    have g:=List.getElem?_eq_getElem hlt
    have f:=F36_ok l[(i+j) / 2].1 (keyH key)
    have hi:=hb.1 ((i+j) / 2) hlt
    by_cases hc:l[(i+j) / 2].1 < keyH key
    ·have c:decide (cm l[(i+j) / 2].1 (keyH key) < 0)=true:=by rw [cm_lt hc]; rfl
     have ww:=w1 (show (i+j) / 2≤9223372036854775806 by omega)
     have t:Int.toNat (((i+j) / 2:Nat):Int)=(i+j) / 2:=Int.toNat_natCast _
     refine ⟨((((i+j) / 2+1:Nat):Int),((j:Nat):Int)),?_,⟨by omega,by omega,by omega,by omega⟩,by omega,rfl⟩
     simp -implicitDefEqProofs only [q1,hm,q2,t,g,f,c,ww,eq_self,xs]
    ·have c:decide (cm l[(i+j) / 2].1 (keyH key) < 0)=false:=by
      rcases cm_cases l[(i+j) / 2].1 (keyH key) with ⟨x,_⟩ | ⟨_,x⟩ | ⟨_,x⟩
      ·exact absurd x hc
      ·rw [x]; rfl
      ·rw [x]; rfl
     have t:Int.toNat (((i+j) / 2:Nat):Int)=(i+j) / 2:=Int.toNat_natCast _
     refine ⟨(((i:Nat):Int),(((i+j) / 2:Nat):Int)),?_,⟨by omega,by omega,by omega,by omega⟩,by omega,rfl⟩
     simp -implicitDefEqProofs only [q1,hm,q2,t,g,f,c,eq_self,xs]
   ·left
    have q1:¬ ((i:Nat):Int) < ((j:Nat):Int):=by omega
    have e:lb l (keyH key)=i:=by omega
    simp -implicitDefEqProofs only [q1,e,eq_self,xs]
  have nz:¬ (((l.length:Nat):Int)=0):=by omega
  have em:Int.tmod ((lb l (keyH key):Nat):Int) ((l.length:Nat):Int)=((lb l (keyH key) % l.length:Nat):Int):=by
   rw [Int.tmod_eq_emod_of_nonneg (by omega)]; rfl
  by_cases hlt:lb l (keyH key) < l.length
  ·have q1:((lb l (keyH key):Nat):Int) < ((l.length:Nat):Int):=by omega
   have q2:(0:Int)≤((lb l (keyH key):Nat):Int):=by omega
   have g:=List.getElem?_eq_getElem hlt
   have f:=F36_ok l[lb l (keyH key)].1 (keyH key)
   simp -implicitDefEqProofs only [q1,q2,g,f,nz,em,eq_self,xs]
  ·have q1:¬ ((lb l (keyH key):Nat):Int) < ((l.length:Nat):Int):=by omega
   simp -implicitDefEqProofs only [q1,nz,em,eq_self,xs]
 ·rw [if_neg hok] at f13 ⊢
  simp -implicitDefEqProofs only [f13,nz1,eq_self,xs]
open Classical in
theorem F21_ok {l:List PT} {key:ByteArray} (hl:l.length≤9223372036854775806) (hk:key.size≤9223372036854775806):F21 (l,key)=some (if okP l then (if l=[] then (0,6) else ((l[lb l (keyH key) % l.length]!).2.1,0)) else (0,1)):=by
 rw [F21_eq]
 have f:=F14_ok hl hk
 by_cases hok:okP l
 ·rw [if_pos hok] at f ⊢
  by_cases he:l=[]
  ·rw [if_pos he] at f ⊢
   have n6:((6:Int) != 0)=true:=rfl
   simp -implicitDefEqProofs only [f,n6,eq_self,xs]
  rw [if_neg he] at f ⊢
  have hpos:0 < l.length:=List.length_pos_iff.2 he
  have hm:lb l (keyH key) % l.length < l.length:=Nat.mod_lt _ hpos
  have q2:(0:Int)≤((lb l (keyH key) % l.length:Nat):Int):=by omega
  have g:l[lb l (keyH key) % l.length]?=some (l[lb l (keyH key) % l.length]!):=by rw [getElem!_pos l _ hm]; exact List.getElem?_eq_getElem hm
  generalize lb l (keyH key) % l.length=m at *
  simp -implicitDefEqProofs only [f,nz0,q2,g,eq_self,xs]
 ·rw [if_neg hok] at f ⊢
  simp -implicitDefEqProofs only [f,nz1,eq_self,xs]
def dedA (acc l:List Int):List Int:=l.foldl (fun acc x=>if x ∈ acc then acc else acc++[x]) acc
def ded (l:List Int):List Int:=dedA [] l
theorem dedA_cons (acc:List Int) (x:Int) (l:List Int):dedA acc (x::l)=dedA (if x ∈ acc then acc else acc++[x]) l:=rfl
theorem dedA_snoc (acc l:List Int) (x:Int):dedA acc (l++[x])=if x ∈ dedA acc l then dedA acc l else dedA acc l++[x]:=by unfold dedA; rw [List.foldl_append]; rfl
theorem mem_dedA {l:List Int}:∀ {acc:List Int} {x:Int},x ∈ dedA acc l ↔ x ∈ acc∨x ∈ l:=by
 induction l with
 | nil=>intro acc x; simp [dedA]
 | cons a r ih =>
  intro acc x
  rw [dedA_cons,ih]
  by_cases h:a ∈ acc
  ·rw [if_pos h,List.mem_cons]
   constructor
   ·rintro (q | q)
    ·exact .inl q
    ·exact .inr (.inr q)
   ·rintro (q | q | q)
    ·exact .inl q
    ·exact .inl (q ▸ h)
    ·exact .inr q
  ·rw [if_neg h,List.mem_append,List.mem_singleton,List.mem_cons,or_assoc]
theorem nodup_dedA {l:List Int}:∀ {acc:List Int},acc.Nodup→(dedA acc l).Nodup:=by
 induction l with
 | nil=>intro acc h; exact h
 | cons a r ih =>
  intro acc h
  rw [dedA_cons]
  refine ih ?_
  by_cases ha:a ∈ acc
  ·rw [if_pos ha]; exact h
  ·rw [if_neg ha,List.nodup_append]
   exact ⟨h,by simp,fun x hx y hy he=>by rw [List.mem_singleton] at hy; subst hy he; exact ha hx⟩
theorem mem_ded {l:List Int} {x:Int}:x ∈ ded l ↔ x ∈ l:=by unfold ded; rw [mem_dedA]; simp
theorem nodup_ded (l:List Int):(ded l).Nodup:=nodup_dedA (by simp)
theorem perm_nodup {l m:List Int} (h1:l.Nodup) (h2:m.Nodup) (h:∀ x,x ∈ l ↔ x ∈ m):l.Perm m:=by
 rw [List.perm_iff_count]
 intro a
 rw [h1.count,h2.count]
 by_cases ha:a ∈ l
 ·rw [if_pos ha,if_pos ((h a).1 ha)]
 ·rw [if_neg ha,if_neg (fun q=>ha ((h a).2 q))]
theorem nodup_len {l:List Int} (h:l.Nodup) (hr:∀ x ∈ l,0≤x∧x < 64):l.length≤64:=by
 have hn:((List.range 64).map fun k:Nat=>(k:Int)).Nodup:=by decide
 have hp:=perm_nodup h (hn.filter (fun x=>decide (x ∈ l))) (fun x=>by
  rw [List.mem_filter,List.mem_map,decide_eq_true_iff]
  constructor
  ·intro hx
   have:=hr x hx
   exact ⟨⟨x.toNat,List.mem_range.2 (by omega),by omega⟩,hx⟩
  ·exact fun q=>q.2)
 rw [hp.length_eq]
 exact Nat.le_trans (List.length_filter_le _ _) (by rw [List.length_map,List.length_range]; exact Nat.le_refl _)
def rot {α:Type} (l:List α) (m:Nat):List α:=l.drop m++l.take m
theorem rot_len {α:Type} (l:List α) (m:Nat):(rot l m).length=l.length:=by unfold rot; rw [List.length_append,List.length_drop,List.length_take]; omega
theorem rot_get {α:Type} {l:List α} {m i:Nat} (hm:m < l.length) (hi:i < l.length):(rot l m)[i]?=l[(m+i) % l.length]?:=by
 unfold rot
 rw [List.getElem?_append,List.length_drop]
 split
 ·rename_i h
  rw [List.getElem?_drop,Nat.mod_eq_of_lt (by omega)]
 ·rename_i h
  rw [List.getElem?_take,if_pos (by omega),Nat.mod_eq_sub_mod (by omega),Nat.mod_eq_of_lt (by omega)]
  congr 1; omega
def nds (l:List PT):List Int:=l.map fun p=>p.2.1
def frm (l:List PT) (k:Int):List PT:=l.filter (fun p=>!decide (p.1 < k))++l.filter (fun p=>decide (p.1 < k))
theorem frm_eq {l:List PT} (h:hP l) (hne:l≠[]) (k:Int):rot l (lb l k % l.length)=frm l k:=by
 have hpos:0 < l.length:=List.length_pos_iff.2 hne
 obtain ⟨_,h2,h3⟩:=lb_all h k
 have hle:=lb_le l k
 unfold frm
 rw [← h2,← h3]
 by_cases he:lb l k=l.length
 ·rw [he,Nat.mod_self]; unfold rot; simp
 ·rw [Nat.mod_eq_of_lt (by omega)]; rfl
def wlk (l:List PT) (k:Int):List Int:=ded (nds (frm l k))
open Classical in
theorem F22_ok {l:List PT} {key:ByteArray} (hl:l.length≤9223372036854775806) (hk:key.size≤9223372036854775806):F22 (l,key)=some (if okP l then (if l=[] then ([],6) else (wlk l (keyH key),0)) else ([],1)):=by
 rw [F22_eq]
 have f:=F14_ok hl hk
 by_cases hok:okP l
 ·rw [if_pos hok] at f ⊢
  by_cases he:l=[]
  ·rw [if_pos he] at f ⊢
   have n6:((6:Int) != 0)=true:=rfl
   simp -implicitDefEqProofs only [f,n6,eq_self,xs]
  rw [if_neg he] at f ⊢
  have hpos:0 < l.length:=List.length_pos_iff.2 he
  have hm:lb l (keyH key) % l.length < l.length:=Nat.mod_lt _ hpos
  have hw:wlk l (keyH key)=ded (nds (rot l (lb l (keyH key) % l.length))):=by rw [frm_eq hok.2.2.hP he]; rfl
  rw [hw]
  have hlen:=hok.1
  generalize lb l (keyH key) % l.length=m at *
  simp -implicitDefEqProofs only [f,nz0,eq_self,xs]
  rw [← metA_nil]
  have hR:(nds (rot l m)).length=l.length:=by unfold nds; rw [List.length_map,rot_len]
  rw [loop_detE (s0:=((0:Int),metA [],([]:List Int))) l.length (fun i=>(((i:Nat):Int),metA (ded ((nds (rot l m)).take i)),ded ((nds (rot l m)).take i))) (ded (nds (rot l m)),0) (by rw [List.take_zero]; rfl)]
  ·have q:¬ ((l.length:Nat):Int) < ((l.length:Nat):Int):=by omega
   rw [List.take_of_length_le (by omega)]
   simp -implicitDefEqProofs only [q,List.take_length,eq_self,xs]
  ·intro i hi
   have q1:((i:Nat):Int) < ((l.length:Nat):Int):=by omega
   have nz:¬ (((l.length:Nat):Int)=0):=by omega
   have ww:IntKind.wrap .i64 (((m:Nat):Int)+((i:Nat):Int))=((m+i:Nat):Int):=by rw [wi (by omega) (by omega)]; omega
   have em:Int.tmod ((m+i:Nat):Int) ((l.length:Nat):Int)=(((m+i) % l.length:Nat):Int):=by
    rw [Int.tmod_eq_emod_of_nonneg (by omega)]; rfl
   have q2:(0:Int)≤(((m+i) % l.length:Nat):Int):=by omega
   have hmi:(m+i) % l.length < l.length:=Nat.mod_lt _ hpos
   have t:Int.toNat (((m+i) % l.length:Nat):Int)=(m+i) % l.length:=Int.toNat_natCast _
   have g:=List.getElem?_eq_getElem hmi
   have hx:=hok.2.1 _ (List.getElem_mem hmi)
   have hg:(nds (rot l m))[i]?=some (l[(m+i) % l.length]).2.1:=by
    unfold nds
    rw [List.getElem?_map,rot_get hm hi,g]; rfl
   have tk:(nds (rot l m)).take (i+1)=(nds (rot l m)).take i++[(l[(m+i) % l.length]).2.1]:=by
    rw [List.take_succ_eq_append_getElem (by omega)]
    congr 2
    have:=List.getElem?_eq_getElem (show i < (nds (rot l m)).length by omega)
    rw [hg] at this
    exact (Option.some.inj this).symm
   rw [tk]
   have hd:ded ((nds (rot l m)).take i++[(l[(m+i) % l.length]).2.1])=if (l[(m+i) % l.length]).2.1 ∈ ded ((nds (rot l m)).take i) then ded ((nds (rot l m)).take i) else ded ((nds (rot l m)).take i)++[(l[(m+i) % l.length]).2.1]:=dedA_snoc _ _ _
   rw [hd]
   have hs:(ded ((nds (rot l m)).take i)).length≤64:=nodup_len (nodup_ded _) (by
    intro x hx
    rw [mem_ded] at hx
    have hx:=List.mem_of_mem_take hx
    unfold nds rot at hx
    rw [List.mem_map] at hx
    obtain ⟨p,hp,rfl⟩:=hx
    rw [List.mem_append] at hp
    exact hok.2.1 p (hp.elim List.mem_of_mem_drop List.mem_of_mem_take))
   clear tk hd hg
   generalize ded ((nds (rot l m)).take i)=D at *
   generalize l[(m+i) % l.length]=p at *
   have mg:=metA_get (l:=D) hx
   have hlen1:p.2.1.toNat < (metA D).length:=by rw [metA_len]; omega
   have hlen2:1 < (metA D).length:=by rw [metA_len]; omega
   have ms:=metA_set (l:=D) hx
   have q5:((D.length+1:Nat):Int) * 8≤70368744177664:=by omega
   have q6:((D.length+1:Nat):Int)≤70368744177664:=by omega
   have w:=w1 (show i≤9223372036854775806 by omega)
   by_cases hm:p.2.1 ∈ D
   ·simp -implicitDefEqProofs only [q1,nz,ww,em,q2,t,g,hx.1,hx.2,Nat.mul_one,mg,hm,w,eq_self,xs]
   ·simp -implicitDefEqProofs only [q1,nz,ww,em,q2,t,g,hx.1,hx.2,Nat.mul_one,mg,hm,hlen1,hlen2,ms,q5,q6,w,app_eq,List.length_append,eq_self,xs]
 ·rw [if_neg hok] at f ⊢
  simp -implicitDefEqProofs only [f,nz1,eq_self,xs]
end Go.Proofs.YtbgnmndgpaaidaaDoor.VL
end
section
namespace Go.Proofs.YtbgnmndgpaaidaaDoor.VL
open Go
set_option linter.unusedVariables false
set_option linter.unusedSectionVars false
set_option linter.unusedSimpArgs false
set_option maxRecDepth 100000
variable [Val]
theorem srt_sort {L:List PT} (hn:L.Nodup):sP (sortL cmpP L):=by
 unfold sP sortL
 have h1:=List.pairwise_mergeSort (le:=fun x y:PT=>!(Go.Proofs.ltOf cmpP) y x) (fun a b c h k=>by
  simp only [ltOf_cmpP,Bool.not_eq_true'] at *
  rw [Bool.eq_false_iff] at *
  intro q
  rcases ltP_tri a b with r | r | r
  ·exact k (ltP_trans q r)
  ·subst r; exact k q
  ·exact h r) (fun a b=>by
  simp only [ltOf_cmpP]
  cases h:ltP b a
  ·rfl
  ·rw [show ltP a b=false from ptO.asym h]; rfl) L
 have h2:(L.mergeSort fun x y:PT=>!(Go.Proofs.ltOf cmpP) y x).Nodup:=(List.mergeSort_perm _ _).nodup_iff.2 hn
 rw [List.nodup_iff_pairwise_ne] at h2
 refine (h1.and h2).imp ?_
 rintro a b ⟨h,k⟩
 rw [ltOf_cmpP,Bool.not_eq_true'] at h
 rcases ltP_tri a b with r | r | r
 ·exact r
 ·exact absurd r k
 ·rw [h] at r; cases r
theorem raw_nodup {l:List Int} (h:l.Nodup) (m:Nat):(rawP l m).Nodup:=by
 rw [List.nodup_iff_pairwise_ne]
 induction l with
 | nil=>exact List.Pairwise.nil
 | cons n r ih =>
  obtain ⟨h1,h2⟩:=List.nodup_cons.1 h
  show (rowP n m++rawP r m).Pairwise _
  rw [List.pairwise_append]
  refine ⟨?_,ih h2,fun a ha b hb he=>?_⟩
  ·unfold rowP
   rw [List.pairwise_map]
   refine List.Pairwise.imp ?_ (List.nodup_iff_pairwise_ne.1 (List.nodup_range (n:=m)))
   intro a b hab he
   simp only [Prod.mk.injEq] at he
   omega
  ·subst he
   unfold rowP at ha
   rw [List.mem_map] at ha
   obtain ⟨i,_,rfl⟩:=ha
   obtain ⟨n',hn',i',_,he⟩:=mem_rawP.1 hb
   simp only [Prod.mk.injEq] at he
   exact h1 (he.2.1 ▸ hn')
theorem nodP.nodup {l:List Int} (h:nodP l):l.Nodup:=by
 rw [List.nodup_iff_pairwise_ne]
 exact h.2.imp fun q=>by omega
theorem pts_srt {l:List Int} (h:nodP l) (m:Nat):sP (pts l m):=srt_sort (raw_nodup h.nodup m)
theorem pts_ok {l:List Int} (h:nodP l) {m:Nat} (hm:m≤32):okP (pts l m):=by
 refine ⟨?_,fun p hp=>?_,pts_srt h m⟩
 ·rw [pts_len]
  exact Nat.le_trans (Nat.mul_le_mul hm (nodP_len h)) (by decide)
 ·obtain ⟨n,hn,i,_,rfl⟩:=mem_pts.1 hp
  exact h.1 n hn
theorem sP_ext {l m:List PT} (h1:sP l) (h2:sP m) (h:∀ x,x ∈ l ↔ x ∈ m):l=m:=KOrd.srt_ext (O:=ptO) (key:=id) h1 h2 h
theorem sP.filter {l:List PT} (h:sP l) (p:PT→Bool):sP (l.filter p):=List.Pairwise.filter p h
theorem nodP.filter {l:List Int} (h:nodP l) (p:Int→Bool):nodP (l.filter p):=⟨fun x hx=>h.1 x (List.mem_filter.1 hx).1,List.Pairwise.filter p h.2⟩
theorem mem_frm {l:List PT} {k:Int} {p:PT}:p ∈ frm l k ↔ p ∈ l:=by
 unfold frm
 rw [List.mem_append,List.mem_filter,List.mem_filter]
 cases decide (p.1 < k)<;>simp
theorem nodup_wlk (l:List PT) (k:Int):(wlk l k).Nodup:=nodup_ded _
def own (l:List PT) (k:Int):Int:=(l[lb l k % l.length]!).2.1
theorem F25_ok {l m:List Int} (hl:l.length≤9223372036854775806):F25 (l,m)=some (decide (l=m)):=by
 rw [F25_eq]
 by_cases hlen:l.length=m.length
 ·have q0:(((l.length:Nat):Int) != ((m.length:Nat):Int))=false:=by rw [hlen]; simp
  simp only [q0,cond_false]
  rw [loop_all (n:=l.length) (fun i=>l[i]?==m[i]?) false true]
  ·congr 1
   by_cases he:l=m
   ·subst he
    rw [decide_eq_true rfl,if_pos]
    rw [List.all_eq_true]
    intro i _
    exact beq_self_eq_true _
   ·rw [decide_eq_false he,if_neg]
    intro h
    rw [List.all_eq_true] at h
    refine he (List.ext_getElem? fun i=>?_)
    by_cases hi:i < l.length
    ·exact eq_of_beq (h i (List.mem_range.2 hi))
    ·rw [List.getElem?_eq_none (by omega),List.getElem?_eq_none (by omega)]
  ·have q:¬ ((l.length:Nat):Int) < ((l.length:Nat):Int):=by omega
   simp -implicitDefEqProofs only [q,eq_self,xs]
  ·intro i hi _
   have q1:((i:Nat):Int) < ((l.length:Nat):Int):=by omega
   have q2:(0:Int)≤(i:Int):=by omega
   have g:=List.getElem?_eq_getElem hi
   have g2:=List.getElem?_eq_getElem (show i < m.length by omega)
   have w:=w1 (show i≤9223372036854775806 by omega)
   by_cases he:l[i]=m[i]
   ·have e1:(l[i] != m[i])=false:=by rw [he]; simp
    have e2:(some l[i]==some m[i])=true:=by rw [he]; exact beq_self_eq_true _
    simp -implicitDefEqProofs only [q1,q2,g,g2,e1,e2,w,eq_self,xs]
   ·have e1:(l[i] != m[i])=true:=by rw [bne_iff_ne]; exact he
    have e2:(some l[i]==some m[i])=false:=by rw [beq_eq_false_iff_ne]; exact fun h=>he (Option.some.inj h)
    simp -implicitDefEqProofs only [q1,q2,g,g2,e1,e2,w,eq_self,xs]
 ·have q0:(((l.length:Nat):Int) != ((m.length:Nat):Int))=true:=by rw [bne_iff_ne]; omega
  rw [q0,cond_true,decide_eq_false (fun h=>hlen (by rw [h]))]
theorem F17_ok (s:ByteArray):∃ t,F17 s=some t∧t.size≤300:=by
 rw [F17_eq]
 by_cases h:s.size≤300
 ·have q:¬ ((s.size:Nat):Int) > 300:=by omega
  exact ⟨s,by simp -implicitDefEqProofs only [q,eq_self,xs],h⟩
 ·have q:((s.size:Nat):Int) > 300:=by omega
  have q2:(300:Int)≤((s.size:Nat):Int):=by omega
  refine ⟨s.extract 0 300,by simp -implicitDefEqProofs only [q,q2,eq_self,xs],?_⟩
  rw [ByteArray.size_extract]; omega
theorem F9_ok {l:List Int}:F9 l=some (l.take 65):=by
 rw [F9_eq]
 by_cases h:l.length≤65
 ·have q:¬ ((l.length:Nat):Int) > 65:=by omega
  simp -implicitDefEqProofs only [q,List.take_of_length_le h,eq_self,xs]
 ·have q:((l.length:Nat):Int) > 65:=by omega
  have q2:(65:Int)≤((l.length:Nat):Int):=by omega
  simp -implicitDefEqProofs only [q,q2,eq_self,xs]
end Go.Proofs.YtbgnmndgpaaidaaDoor.VL
end
section
namespace Go.Proofs.YtbgnmndgpaaidaaDoor.VL
open Go
set_option linter.unusedVariables false
set_option linter.unusedSectionVars false
set_option linter.unusedSimpArgs false
set_option maxRecDepth 100000
variable [Val]
theorem F16_ok (l:List PT):∃ t:List PT,F16 l=some t∧t.length≤2049∧∀ p ∈ t,p ∈ l:=by
 rw [F16_eq]
 by_cases h1:l.length > 60
 ·have q1:((l.length:Nat):Int) > 60:=by omega
  have q2:(60:Int)≤((l.length:Nat):Int):=by omega
  by_cases h2:l.length≤2048
  ·have q3:((l.length:Nat):Int)≤2048:=by omega
   exact ⟨l.take 60,by simp -implicitDefEqProofs only [q1,q2,q3,eq_self,xs],by rw [List.length_take]; omega,fun p hp=>List.mem_of_mem_take hp⟩
  ·have q3:¬ ((l.length:Nat):Int)≤2048:=by omega
   by_cases h3:l.length > 2049
   ·have q4:((l.length:Nat):Int) > 2049:=by omega
    have q5:(2049:Int)≤((l.length:Nat):Int):=by omega
    exact ⟨l.take 2049,by simp -implicitDefEqProofs only [q1,q2,q3,q4,q5,eq_self,xs],by rw [List.length_take]; omega,fun p hp=>List.mem_of_mem_take hp⟩
   ·have q4:¬ ((l.length:Nat):Int) > 2049:=by omega
    exact ⟨l,by simp -implicitDefEqProofs only [q1,q2,q3,q4,eq_self,xs],by omega,fun p hp=>hp⟩
 ·have q1:¬ ((l.length:Nat):Int) > 60:=by omega
  have q4:¬ ((l.length:Nat):Int) > 2049:=by omega
  exact ⟨l,by simp -implicitDefEqProofs only [q1,q4,eq_self,xs],by omega,fun p hp=>hp⟩
end Go.Proofs.YtbgnmndgpaaidaaDoor.VL
end
section
namespace Go.Proofs.YtbgnmndgpaaidaaDoor.VL
open Go
set_option linter.unusedVariables false
set_option linter.unusedSectionVars false
set_option linter.unusedSimpArgs false
set_option maxRecDepth 100000
variable [Val]
theorem names:((List.range 64).map fun n=>(List.range 10).map fun i=>F15 (0,((n:Nat):Int),((i:Nat):Int)))=(List.range 64).map fun n=>(List.range 10).map fun i=>some (hnm n i):=by
 simp only [F15_eq]
 kernel_rfl
end Go.Proofs.YtbgnmndgpaaidaaDoor.VL
end
section
namespace Go.Proofs.YtbgnmndgpaaidaaDoor.VL
open Go
set_option maxRecDepth 100000
set_option linter.unusedVariables false
set_option linter.unusedSectionVars false
variable [Val]
noncomputable section
def xf20t:FX:=⟨(.seq (.reg [⟨⟨(some 4),(.mov (.c (.sl true []))),none⟩,.b,[],[]⟩]) (.seq (.reg [⟨⟨(some 5),(.mov (.c (.sl true []))),none⟩,.b,[],[]⟩]) (.seq (.seq (.reg [⟨⟨(some 6),(.mov (.c (.v (.int .i64 0)))),none⟩,.b,[],[]⟩]) (.blk 0 (.loop ⟨[5,6,7,8,9,10,11,12,13,14,15,16,17,18,19,20,21,22,23,24,25,26,27,28,29,30,31,32,33,34,35,36,37,38,39,40,41,42,43,44,45,46,47,48,49,50,51,52,53,54,55,56,57,58,59,60,61,62,63],[3,5,6,7],⟨[],[(5,.v (.sl (.p (.i .u64) (.p (.i .i64) (.i .i64))))),(6,.v (.i .i64))],[]⟩⟩ (.seq (.seq (.reg [⟨⟨(some 10),(.mov (.t 6)),none⟩,.b,[],[]⟩,⟨⟨(some 11),(.mov (.t 0)),none⟩,.b,[],[]⟩,⟨⟨(some 12),(.len (.t 11)),none⟩,.b,[],[]⟩,⟨⟨(some 13),(.bin .lss (.t 10) (.t 12)),none⟩,.b,[],[]⟩]) (.cond (.t 13) .skip (.exit 0))) (.seq (.cutN ⟨[5,7,8,9,16,17,18,19,20,21,22,23,24,25,26,27,28,29,30,31,32,33,34,35,36,37,38,39,40,41,42,43,44,45,46,47,48,49,50,51,52,53,54,55,56,57,58,59,60,61,62,63],[3,5,6,7],⟨[],[(5,.v (.sl (.p (.i .u64) (.p (.i .i64) (.i .i64)))))],[]⟩⟩ (.blk 1 (.seq (.reg [⟨⟨(some 7),(.mov (.c (.v (.int .i64 0)))),none⟩,.b,[],[]⟩]) (.blk 2 (.loop ⟨[5,7,8,9,16,17,18,19,20,21,22,23,24,25,26,27,28,29,30,31,32,33,34,35,36,37,38,39,40,41,42,43,44,45,46,47,48,49,50,51,52,53,54,55,56,57,58,59,60,61,62,63],[3,5,6,7],⟨[],[(5,.v (.sl (.p (.i .u64) (.p (.i .i64) (.i .i64))))),(7,.v (.i .i64))],[]⟩⟩ (.seq (.seq (.reg [⟨⟨(some 16),(.mov (.t 7)),none⟩,.b,[],[]⟩,⟨⟨(some 17),(.mov (.t 1)),none⟩,.b,[],[]⟩,⟨⟨(some 18),(.bin .lss (.t 16) (.t 17)),none⟩,.b,[],[]⟩]) (.cond (.t 18) .skip (.exit 2))) (.seq (.cutN ⟨[5,8,9,21,22,23,24,25,26,27,28,29,30,31,32,33,34,35,36,37,38,39,40,41,42,43,44,45,46,47,48,49,50,51,52,53,54,55,56,57,58,59,60,61,62,63],[3,5,6,7],⟨[5,6,7],[(5,.v (.sl (.p (.i .u64) (.p (.i .i64) (.i .i64)))))],[]⟩⟩ (.blk 3 (.seq (.dr [(14,4),(14,7),(14,10)] [⟨⟨(some 21),(.mov (.t 0)),none⟩,.b,[],[]⟩,⟨⟨(some 22),(.mov (.t 6)),none⟩,.b,[],[]⟩,⟨⟨(some 23),(.iad 1 (.t 21) (.t 22)),none⟩,.b,[],[]⟩,⟨⟨(some 24),(.load false 1 (.t 23)),none⟩,.b,[],[]⟩,⟨⟨(some 25),(.callG 0 38 [(.t 24)]),none⟩,.b,[],[]⟩,⟨⟨(some 26),(.bin .add (.t 25) (.c (.v (.string ⟨#[47]⟩)))),none⟩,.b,[],[]⟩,⟨⟨(some 27),(.mov (.t 7)),none⟩,.b,[],[]⟩,⟨⟨(some 28),(.callG 1 38 [(.t 27)]),none⟩,.b,[],[]⟩,⟨⟨(some 29),(.bin .add (.t 26) (.t 28)),none⟩,.b,[],[]⟩,⟨⟨(some 30),(.bsl 1 (.v (.string ⟨#[]⟩)) 1 [(0,(.t 29))]),none⟩,.b,[],[]⟩,⟨⟨(some 31),(.callG 2 18 [(.t 30)]),none⟩,.b,[],[]⟩,⟨⟨(some 32),(.mov (.t 0)),none⟩,.b,[],[]⟩,⟨⟨(some 33),(.mov (.t 6)),none⟩,.b,[],[]⟩,⟨⟨(some 34),(.iad 1 (.t 32) (.t 33)),none⟩,.b,[],[]⟩,⟨⟨(some 35),(.load false 1 (.t 34)),none⟩,.b,[],[]⟩,⟨⟨(some 36),(.mov (.t 7)),none⟩,.b,[],[]⟩,⟨⟨(some 37),(.bld [(.v (.int .u64 0)),(.v (.int .i64 0)),(.v (.int .i64 0))] [(0,1,(.t 31)),(1,1,(.t 35)),(2,1,(.t 36))]),none⟩,.b,[],[]⟩,⟨⟨(some 8),(.mov (.c .dead)),none⟩,.b,[],[]⟩,⟨⟨(some 8),(.box 3 3 (.t 37)),none⟩,.b,[],[]⟩]) (.seq (.reg [⟨⟨(some 9),(.mov (.c (.v (.int .i64 0)))),none⟩,.b,[],[]⟩]) (.seq (.cutN ⟨[9,38,39,40,41,42,43,44,45,46,47,48,49,50,51],[],⟨[],[(9,.v (.i .i64))],[]⟩⟩ (.blk 4 (.loop ⟨[9,38,39,40,41,42,43,44,45,46,47,48,49,50,51],[],⟨[],[(9,.v (.i .i64))],[]⟩⟩ (.seq (.cut ⟨[38,39,40,41,42,43,44,45,46,47,48,49],[],⟨[],[],[]⟩⟩ (.seq (.cutN ⟨[38,39,40,41,42,43,44,45,46,47,48,49],[],⟨[],[(49,.v .b)],[]⟩⟩ (.dr [] [⟨⟨(some 38),(.mov (.t 9)),none⟩,.b,[],[]⟩,⟨⟨(some 39),(.mov (.t 5)),none⟩,.b,[],[]⟩,⟨⟨(some 40),(.len (.t 39)),none⟩,.b,[],[]⟩,⟨⟨(some 41),(.bin .lss (.t 38) (.t 40)),none⟩,.b,[],[]⟩,⟨⟨(some 42),(.mov (.t 41)),none⟩,.b,[],[]⟩,⟨⟨(some 43),(.mov (.t 5)),(some (42,true))⟩,.b,[],[]⟩,⟨⟨(some 44),(.mov (.t 9)),(some (42,true))⟩,.b,[],[]⟩,⟨⟨(some 45),(.iad 3 (.t 43) (.t 44)),(some (42,true))⟩,.b,[],[]⟩,⟨⟨(some 46),(.load true 3 (.t 45)),(some (42,true))⟩,.b,[],[]⟩,⟨⟨(some 47),(.load true 3 (.t 8)),(some (42,true))⟩,.b,[],[]⟩,⟨⟨(some 48),(.callG 4 39 [(.t 46),(.t 47)]),(some (42,true))⟩,.b,[],[]⟩,⟨⟨(some 49),(.pick (.t 42) (.t 48) (.c (.v (.bool false)))),none⟩,.b,[],[]⟩])) (.cond (.t 49) .skip (.exit 4)))) (.blk 5 (.reg [⟨⟨(some 50),(.mov (.t 9)),none⟩,.b,[],[]⟩,⟨⟨(some 51),(.bin .add (.t 50) (.c (.v (.int .i64 1)))),none⟩,.b,[],[]⟩,⟨⟨(some 9),(.mov (.t 51)),none⟩,.b,[],[]⟩])))))) (.dr [(5,4)] [⟨⟨(some 52),(.bsl 3 (.agg [(.v (.int .u64 0)),(.v (.int .i64 0)),(.v (.int .i64 0))]) 0 []),none⟩,.b,[],[]⟩,⟨⟨(some 53),(.mov (.t 5)),none⟩,.b,[],[]⟩,⟨⟨(some 54),(.mov (.t 9)),none⟩,.b,[],[]⟩,⟨⟨(some 55),(.slc 3 (.t 53) none (some (.t 54)) none),none⟩,.b,[],[]⟩,⟨⟨(some 56),(.app 5 3 24 (.agg [(.v (.int .u64 0)),(.v (.int .i64 0)),(.v (.int .i64 0))]) (.t 52) (.t 55)),none⟩,(.p (.i .u64) (.p (.i .i64) (.i .i64))),[],[]⟩,⟨⟨(some 57),(.load true 3 (.t 8)),none⟩,.b,[],[]⟩,⟨⟨(some 58),(.bsl 3 (.agg [(.v (.int .u64 0)),(.v (.int .i64 0)),(.v (.int .i64 0))]) 1 [(0,(.t 57))]),none⟩,.b,[],[]⟩,⟨⟨(some 59),(.app 6 3 24 (.agg [(.v (.int .u64 0)),(.v (.int .i64 0)),(.v (.int .i64 0))]) (.t 56) (.t 58)),none⟩,(.p (.i .u64) (.p (.i .i64) (.i .i64))),[],[]⟩,⟨⟨(some 60),(.mov (.t 5)),none⟩,.b,[],[]⟩,⟨⟨(some 61),(.mov (.t 9)),none⟩,.b,[],[]⟩,⟨⟨(some 62),(.slc 3 (.t 60) (some (.t 61)) none none),none⟩,.b,[],[]⟩,⟨⟨(some 63),(.app 7 3 24 (.agg [(.v (.int .u64 0)),(.v (.int .i64 0)),(.v (.int .i64 0))]) (.t 59) (.t 62)),none⟩,(.p (.i .u64) (.p (.i .i64) (.i .i64))),[],[]⟩,⟨⟨(some 5),(.mov (.t 63)),none⟩,.b,[],[]⟩])))))) (.reg [⟨⟨(some 19),(.mov (.t 7)),none⟩,.b,[],[]⟩,⟨⟨(some 20),(.bin .add (.t 19) (.c (.v (.int .i64 1)))),none⟩,.b,[],[]⟩,⟨⟨(some 7),(.mov (.t 20)),none⟩,.b,[],[]⟩])))))))) (.reg [⟨⟨(some 14),(.mov (.t 6)),none⟩,.b,[],[]⟩,⟨⟨(some 15),(.bin .add (.t 14) (.c (.v (.int .i64 1)))),none⟩,.b,[],[]⟩,⟨⟨(some 6),(.mov (.t 15)),none⟩,.b,[],[]⟩])))))) (.seq (.reg [⟨⟨(some 64),(.mov (.t 5)),none⟩,.b,[],[]⟩,⟨⟨(some 4),(.mov (.t 64)),none⟩,.b,[],[]⟩]) .ret)))),[25,28,31,8,48,56,59,63],65,[.t 4],9⟩
theorem xf20t_ok:xf20t.ok Tryd.prog 20:=⟨_,_,Tryd.func20,rfl,by kernel_rfl,rfl,by kernel_rfl,rfl,by kernel_rfl,by kernel_rfl⟩
def tb20t:List PE:=[pe18,pe38,pe39]
theorem tb20t_ok:PEsOk Tryd.prog tb20t:=⟨pe18_ok,pe38_ok,pe39_ok,trivial⟩
def ex20t:List EX:=[]
theorem ex20t_ok:EXsOk Tryd.prog ex20t:=trivial
def in20t:List IN:=[]
theorem in20t_ok:INsOk Tryd.prog in20t:=trivial
def F20t:DT ((.co (.v (.sl (.i .i64))) (.co (.v (.i .i64)) .no)):Fm).den→Option (DT (.v (.sl (.p (.i .u64) (.p (.i .i64) (.i .i64)))):Fm).den):=pureT tb20t ex20t in20t 0 xf20t _ _ []
def pe20t:PE:=⟨20,(.co (.v (.sl (.i .i64))) (.co (.v (.i .i64)) .no)),.v (.sl (.p (.i .u64) (.p (.i .i64) (.i .i64)))),F20t⟩
theorem pe20t_ok:pe20t.ok Tryd.prog:=pe_of hm tb20t_ok ex20t_ok in20t_ok xf20t_ok (by kernel_rfl) (fun _=>rfl)
def xf5:FX:=⟨(.seq (.reg [⟨⟨(some 1),(.box 0 4 (.t 0)),none⟩,.b,[],[]⟩,⟨⟨(some 2),(.mov (.c (.v (.bool false)))),none⟩,.b,[],[]⟩]) (.seq (.dr [(4,2),(4,7),(4,10),(6,2),(9,2),(9,7)] [⟨⟨(some 16),(.fad 0 (.t 1)),none⟩,.b,[],[]⟩,⟨⟨(some 17),(.load false 1 (.t 16)),none⟩,.b,[],[]⟩,⟨⟨(some 18),(.callG 1 9 [(.t 17)]),none⟩,.b,[],[]⟩,⟨⟨(some 19),(.fad 1 (.t 1)),none⟩,.b,[],[]⟩,⟨⟨(some 20),(.load false 1 (.t 19)),none⟩,.b,[],[]⟩,⟨⟨(some 21),(.fad 2 (.t 1)),none⟩,.b,[],[]⟩,⟨⟨(some 22),(.load false 1 (.t 21)),none⟩,.b,[],[]⟩,⟨⟨(some 23),(.callG 2 16 [(.t 22)]),none⟩,.b,[],[]⟩,⟨⟨(some 24),(.fad 3 (.t 1)),none⟩,.b,[],[]⟩,⟨⟨(some 25),(.load false 1 (.t 24)),none⟩,.b,[],[]⟩,⟨⟨(some 26),(.callG 3 17 [(.t 25)]),none⟩,.b,[],[]⟩,⟨⟨(some 3),(.mov (.t 18)),none⟩,.b,[],[]⟩,⟨⟨(some 4),(.mov (.t 20)),none⟩,.b,[],[]⟩,⟨⟨(some 5),(.mov (.t 23)),none⟩,.b,[],[]⟩,⟨⟨(some 6),(.mov (.t 26)),none⟩,.b,[],[]⟩]) (.seq (.cutN ⟨[3,27,28,29,30,31,32,33,34,35],[],⟨[],[(3,.v (.sl (.i .i64)))],[]⟩⟩ (.seq (.cutN ⟨[27,28,29,30,31,32,33],[],⟨[],[(33,.v .b)],[]⟩⟩ (.reg [⟨⟨(some 27),(.mov (.t 3)),none⟩,.b,[],[]⟩,⟨⟨(some 28),(.len (.t 27)),none⟩,.b,[],[]⟩,⟨⟨(some 29),(.bin .gtr (.t 28) (.c (.v (.int .i64 6)))),none⟩,.b,[],[]⟩,⟨⟨(some 30),(.mov (.t 29)),none⟩,.b,[],[]⟩,⟨⟨(some 31),(.mov (.t 3)),(some (30,true))⟩,.b,[],[]⟩,⟨⟨(some 32),(.call 4 10 [(.t 31)]),(some (30,true))⟩,.b,[],[]⟩,⟨⟨(some 33),(.pick (.t 30) (.t 32) (.c (.v (.bool false)))),none⟩,.b,[],[]⟩])) (.cond (.t 33) (.reg [⟨⟨(some 34),(.mov (.t 3)),none⟩,.b,[],[]⟩,⟨⟨(some 35),(.slc 1 (.t 34) none (some (.c (.v (.int .i64 6)))) none),none⟩,.b,[],[]⟩,⟨⟨(some 3),(.mov (.t 35)),none⟩,.b,[],[]⟩]) .skip))) (.seq (.reg [⟨⟨(some 37),(.mov (.t 3)),none⟩,.b,[],[]⟩,⟨⟨(some 38),(.mov (.t 4)),none⟩,.b,[],[]⟩,⟨⟨(some 39),(.call 5 12 [(.t 37),(.t 38)]),none⟩,.b,[],[]⟩,⟨⟨(some 36),(.mov (.t 39)),none⟩,.b,[],[]⟩,⟨⟨(some 40),(.ext (.t 36) 0),none⟩,.b,[],[]⟩,⟨⟨(some 41),(.ext (.t 36) 1),none⟩,.b,[],[]⟩,⟨⟨(some 7),(.mov (.t 40)),none⟩,.b,[],[]⟩,⟨⟨(some 8),(.mov (.t 41)),none⟩,.b,[],[]⟩]) (.seq (.cut ⟨[2,42,43,44,45,46,47,48,49,50,51,52,53,54,55,56,57,58,59,60,61,62,63,64,65,66,67,68,69],[],⟨[],[],[]⟩⟩ (.seq (.cutN ⟨[42,43,44,45,46,47,48,49,50,51,52],[],⟨[],[(52,.v .b)],[]⟩⟩ (.reg [⟨⟨(some 42),(.mov (.t 3)),none⟩,.b,[],[]⟩,⟨⟨(some 43),(.call 6 10 [(.t 42)]),none⟩,.b,[],[]⟩,⟨⟨(some 44),(.un .not (.t 43)),none⟩,.b,[],[]⟩,⟨⟨(some 45),(.mov (.t 44)),none⟩,.b,[],[]⟩,⟨⟨(some 46),(.mov (.t 4)),(some (45,false))⟩,.b,[],[]⟩,⟨⟨(some 47),(.bin .lss (.t 46) (.c (.v (.int .i64 1)))),(some (45,false))⟩,.b,[],[]⟩,⟨⟨(some 48),(.pick (.t 45) (.c (.v (.bool true))) (.t 47)),none⟩,.b,[],[]⟩,⟨⟨(some 49),(.mov (.t 48)),none⟩,.b,[],[]⟩,⟨⟨(some 50),(.mov (.t 4)),(some (49,false))⟩,.b,[],[]⟩,⟨⟨(some 51),(.bin .gtr (.t 50) (.c (.v (.int .i64 32)))),(some (49,false))⟩,.b,[],[]⟩,⟨⟨(some 52),(.pick (.t 49) (.c (.v (.bool true))) (.t 51)),none⟩,.b,[],[]⟩])) (.cond (.t 52) (.seq (.cutN ⟨[53,54,55,56,57,58,59],[],⟨[],[(59,.v .b)],[]⟩⟩ (.reg [⟨⟨(some 53),(.mov (.t 7)),none⟩,.b,[],[]⟩,⟨⟨(some 54),(.len (.t 53)),none⟩,.b,[],[]⟩,⟨⟨(some 55),(.bin .gtr (.t 54) (.c (.v (.int .i64 0)))),none⟩,.b,[],[]⟩,⟨⟨(some 56),(.mov (.t 55)),none⟩,.b,[],[]⟩,⟨⟨(some 57),(.mov (.t 8)),(some (56,false))⟩,.b,[],[]⟩,⟨⟨(some 58),(.bin .neq (.t 57) (.c (.v (.int .i64 1)))),(some (56,false))⟩,.b,[],[]⟩,⟨⟨(some 59),(.pick (.t 56) (.c (.v (.bool true))) (.t 58)),none⟩,.b,[],[]⟩])) (.cond (.t 59) (.seq (.reg [⟨⟨(some 2),(.mov (.c (.v (.bool false)))),none⟩,.b,[],[]⟩]) .ret) .skip)) (.seq (.cutN ⟨[60,61,62,63,64,65,66,67,68,69],[],⟨[],[(69,.v .b)],[]⟩⟩ (.reg [⟨⟨(some 60),(.mov (.t 7)),none⟩,.b,[],[]⟩,⟨⟨(some 61),(.mov (.t 3)),none⟩,.b,[],[]⟩,⟨⟨(some 62),(.mov (.t 4)),none⟩,.b,[],[]⟩,⟨⟨(some 63),(.call 7 20 [(.t 61),(.t 62)]),none⟩,.b,[],[]⟩,⟨⟨(some 64),(.call 8 19 [(.t 60),(.t 63)]),none⟩,.b,[],[]⟩,⟨⟨(some 65),(.un .not (.t 64)),none⟩,.b,[],[]⟩,⟨⟨(some 66),(.mov (.t 65)),none⟩,.b,[],[]⟩,⟨⟨(some 67),(.mov (.t 8)),(some (66,false))⟩,.b,[],[]⟩,⟨⟨(some 68),(.bin .neq (.t 67) (.c (.v (.int .i64 0)))),(some (66,false))⟩,.b,[],[]⟩,⟨⟨(some 69),(.pick (.t 66) (.c (.v (.bool true))) (.t 68)),none⟩,.b,[],[]⟩])) (.cond (.t 69) (.seq (.reg [⟨⟨(some 2),(.mov (.c (.v (.bool false)))),none⟩,.b,[],[]⟩]) .ret) .skip))))) (.seq (.reg [⟨⟨(some 71),(.mov (.t 5)),none⟩,.b,[],[]⟩,⟨⟨(some 72),(.mov (.t 6)),none⟩,.b,[],[]⟩,⟨⟨(some 73),(.call 9 14 [(.t 71),(.t 72)]),none⟩,.b,[],[]⟩,⟨⟨(some 70),(.mov (.t 73)),none⟩,.b,[],[]⟩,⟨⟨(some 74),(.ext (.t 70) 0),none⟩,.b,[],[]⟩,⟨⟨(some 75),(.ext (.t 70) 1),none⟩,.b,[],[]⟩,⟨⟨(some 9),(.mov (.t 74)),none⟩,.b,[],[]⟩,⟨⟨(some 10),(.mov (.t 75)),none⟩,.b,[],[]⟩]) (.seq (.reg [⟨⟨(some 77),(.mov (.t 5)),none⟩,.b,[],[]⟩,⟨⟨(some 78),(.mov (.t 6)),none⟩,.b,[],[]⟩,⟨⟨(some 79),(.call 10 21 [(.t 77),(.t 78)]),none⟩,.b,[],[]⟩,⟨⟨(some 76),(.mov (.t 79)),none⟩,.b,[],[]⟩,⟨⟨(some 80),(.ext (.t 76) 0),none⟩,.b,[],[]⟩,⟨⟨(some 81),(.ext (.t 76) 1),none⟩,.b,[],[]⟩,⟨⟨(some 11),(.mov (.t 80)),none⟩,.b,[],[]⟩,⟨⟨(some 12),(.mov (.t 81)),none⟩,.b,[],[]⟩]) (.seq (.reg [⟨⟨(some 83),(.mov (.t 5)),none⟩,.b,[],[]⟩,⟨⟨(some 84),(.mov (.t 6)),none⟩,.b,[],[]⟩,⟨⟨(some 85),(.call 11 22 [(.t 83),(.t 84)]),none⟩,.b,[],[]⟩,⟨⟨(some 82),(.mov (.t 85)),none⟩,.b,[],[]⟩,⟨⟨(some 86),(.ext (.t 82) 0),none⟩,.b,[],[]⟩,⟨⟨(some 87),(.ext (.t 82) 1),none⟩,.b,[],[]⟩,⟨⟨(some 13),(.mov (.t 86)),none⟩,.b,[],[]⟩,⟨⟨(some 14),(.mov (.t 87)),none⟩,.b,[],[]⟩]) (.seq (.seq (.reg [⟨⟨(some 88),(.mov (.t 5)),none⟩,.b,[],[]⟩,⟨⟨(some 89),(.call 12 13 [(.t 88)]),none⟩,.b,[],[]⟩,⟨⟨(some 90),(.bin .eql (.t 89) (.c (.v (.int .i64 0)))),none⟩,.b,[],[]⟩,⟨⟨(some 91),(.mov (.t 5)),none⟩,.b,[],[]⟩,⟨⟨(some 92),(.call 13 23 [(.t 91)]),none⟩,.b,[],[]⟩,⟨⟨(some 93),(.binB true (.t 90) (.t 92)),none⟩,.b,[],[]⟩]) (.cond (.t 93) (.seq (.reg [⟨⟨(some 2),(.mov (.c (.v (.bool false)))),none⟩,.b,[],[]⟩]) .ret) .skip)) (.seq (.cut ⟨[2,15,94,95,96,97,98,99,100,101,102,103,104,105,106,107,108,109,110,111,112,113,114,115,116,117,118,119,120,121,122,123,124,125,126,127,128,129,130,131,132],[],⟨[],[],[]⟩⟩ (.seq (.cutN ⟨[94,95,96,97,98,99,100,101],[],⟨[],[(101,.v .b)],[]⟩⟩ (.reg [⟨⟨(some 94),(.mov (.t 5)),none⟩,.b,[],[]⟩,⟨⟨(some 95),(.call 14 23 [(.t 94)]),none⟩,.b,[],[]⟩,⟨⟨(some 96),(.un .not (.t 95)),none⟩,.b,[],[]⟩,⟨⟨(some 97),(.mov (.t 96)),none⟩,.b,[],[]⟩,⟨⟨(some 98),(.mov (.t 5)),(some (97,false))⟩,.b,[],[]⟩,⟨⟨(some 99),(.len (.t 98)),(some (97,false))⟩,.b,[],[]⟩,⟨⟨(some 100),(.bin .eql (.t 99) (.c (.v (.int .i64 0)))),(some (97,false))⟩,.b,[],[]⟩,⟨⟨(some 101),(.pick (.t 97) (.c (.v (.bool true))) (.t 100)),none⟩,.b,[],[]⟩])) (.cond (.t 101) (.seq (.reg [⟨⟨(some 15),(.mov (.c (.v (.int .i64 1)))),none⟩,.b,[],[]⟩]) (.seq (.cutN ⟨[15,102,103],[],⟨[],[(15,.v (.i .i64))],[]⟩⟩ (.seq (.reg [⟨⟨(some 102),(.mov (.t 5)),none⟩,.b,[],[]⟩,⟨⟨(some 103),(.call 15 23 [(.t 102)]),none⟩,.b,[],[]⟩]) (.cond (.t 103) (.reg [⟨⟨(some 15),(.mov (.c (.v (.int .i64 6)))),none⟩,.b,[],[]⟩]) .skip))) (.seq (.reg [⟨⟨(some 104),(.mov (.t 9)),none⟩,.b,[],[]⟩,⟨⟨(some 105),(.bin .eql (.t 104) (.c (.v (.int .i64 0)))),none⟩,.b,[],[]⟩,⟨⟨(some 106),(.mov (.t 105)),none⟩,.b,[],[]⟩,⟨⟨(some 107),(.mov (.t 10)),(some (106,true))⟩,.b,[],[]⟩,⟨⟨(some 108),(.mov (.t 15)),(some (106,true))⟩,.b,[],[]⟩,⟨⟨(some 109),(.bin .eql (.t 107) (.t 108)),(some (106,true))⟩,.b,[],[]⟩,⟨⟨(some 110),(.pick (.t 106) (.t 109) (.c (.v (.bool false)))),none⟩,.b,[],[]⟩,⟨⟨(some 111),(.mov (.t 110)),none⟩,.b,[],[]⟩,⟨⟨(some 112),(.mov (.t 11)),(some (111,true))⟩,.b,[],[]⟩,⟨⟨(some 113),(.bin .eql (.t 112) (.c (.v (.int .i64 0)))),(some (111,true))⟩,.b,[],[]⟩,⟨⟨(some 114),(.pick (.t 111) (.t 113) (.c (.v (.bool false)))),none⟩,.b,[],[]⟩,⟨⟨(some 115),(.mov (.t 114)),none⟩,.b,[],[]⟩,⟨⟨(some 116),(.mov (.t 12)),(some (115,true))⟩,.b,[],[]⟩,⟨⟨(some 117),(.mov (.t 15)),(some (115,true))⟩,.b,[],[]⟩,⟨⟨(some 118),(.bin .eql (.t 116) (.t 117)),(some (115,true))⟩,.b,[],[]⟩,⟨⟨(some 119),(.pick (.t 115) (.t 118) (.c (.v (.bool false)))),none⟩,.b,[],[]⟩,⟨⟨(some 120),(.mov (.t 119)),none⟩,.b,[],[]⟩,⟨⟨(some 121),(.mov (.t 13)),(some (120,true))⟩,.b,[],[]⟩,⟨⟨(some 122),(.len (.t 121)),(some (120,true))⟩,.b,[],[]⟩,⟨⟨(some 123),(.bin .eql (.t 122) (.c (.v (.int .i64 0)))),(some (120,true))⟩,.b,[],[]⟩,⟨⟨(some 124),(.pick (.t 120) (.t 123) (.c (.v (.bool false)))),none⟩,.b,[],[]⟩,⟨⟨(some 125),(.mov (.t 124)),none⟩,.b,[],[]⟩,⟨⟨(some 126),(.mov (.t 14)),(some (125,true))⟩,.b,[],[]⟩,⟨⟨(some 127),(.mov (.t 15)),(some (125,true))⟩,.b,[],[]⟩,⟨⟨(some 128),(.bin .eql (.t 126) (.t 127)),(some (125,true))⟩,.b,[],[]⟩,⟨⟨(some 129),(.pick (.t 125) (.t 128) (.c (.v (.bool false)))),none⟩,.b,[],[]⟩,⟨⟨(some 130),(.mov (.t 129)),none⟩,.b,[],[]⟩,⟨⟨(some 131),(.call 16 11 []),(some (130,true))⟩,.b,[],[]⟩,⟨⟨(some 132),(.pick (.t 130) (.t 131) (.c (.v (.bool false)))),none⟩,.b,[],[]⟩,⟨⟨(some 2),(.mov (.t 132)),none⟩,.b,[],[]⟩]) .ret))) .skip))) (.seq (.reg [⟨⟨(some 133),(.mov (.t 9)),none⟩,.b,[],[]⟩,⟨⟨(some 134),(.mov (.t 5)),none⟩,.b,[],[]⟩,⟨⟨(some 135),(.mov (.t 6)),none⟩,.b,[],[]⟩,⟨⟨(some 136),(.call 17 24 [(.t 134),(.t 135)]),none⟩,.b,[],[]⟩,⟨⟨(some 137),(.bin .eql (.t 133) (.t 136)),none⟩,.b,[],[]⟩,⟨⟨(some 138),(.mov (.t 137)),none⟩,.b,[],[]⟩,⟨⟨(some 139),(.mov (.t 10)),(some (138,true))⟩,.b,[],[]⟩,⟨⟨(some 140),(.bin .eql (.t 139) (.c (.v (.int .i64 0)))),(some (138,true))⟩,.b,[],[]⟩,⟨⟨(some 141),(.pick (.t 138) (.t 140) (.c (.v (.bool false)))),none⟩,.b,[],[]⟩,⟨⟨(some 142),(.mov (.t 141)),none⟩,.b,[],[]⟩,⟨⟨(some 143),(.mov (.t 11)),(some (142,true))⟩,.b,[],[]⟩,⟨⟨(some 144),(.mov (.t 5)),(some (142,true))⟩,.b,[],[]⟩,⟨⟨(some 145),(.mov (.t 9)),(some (142,true))⟩,.b,[],[]⟩,⟨⟨(some 146),(.iad 3 (.t 144) (.t 145)),(some (142,true))⟩,.b,[],[]⟩,⟨⟨(some 147),(.fad 1 (.t 146)),(some (142,true))⟩,.b,[],[]⟩,⟨⟨(some 148),(.load false 1 (.t 147)),(some (142,true))⟩,.b,[],[]⟩,⟨⟨(some 149),(.bin .eql (.t 143) (.t 148)),(some (142,true))⟩,.b,[],[]⟩,⟨⟨(some 150),(.pick (.t 142) (.t 149) (.c (.v (.bool false)))),none⟩,.b,[],[]⟩,⟨⟨(some 151),(.mov (.t 150)),none⟩,.b,[],[]⟩,⟨⟨(some 152),(.mov (.t 12)),(some (151,true))⟩,.b,[],[]⟩,⟨⟨(some 153),(.bin .eql (.t 152) (.c (.v (.int .i64 0)))),(some (151,true))⟩,.b,[],[]⟩,⟨⟨(some 154),(.pick (.t 151) (.t 153) (.c (.v (.bool false)))),none⟩,.b,[],[]⟩,⟨⟨(some 155),(.mov (.t 154)),none⟩,.b,[],[]⟩,⟨⟨(some 156),(.mov (.t 13)),(some (155,true))⟩,.b,[],[]⟩,⟨⟨(some 157),(.mov (.t 5)),(some (155,true))⟩,.b,[],[]⟩,⟨⟨(some 158),(.mov (.t 6)),(some (155,true))⟩,.b,[],[]⟩,⟨⟨(some 159),(.call 18 26 [(.t 157),(.t 158)]),(some (155,true))⟩,.b,[],[]⟩,⟨⟨(some 160),(.call 19 25 [(.t 156),(.t 159)]),(some (155,true))⟩,.b,[],[]⟩,⟨⟨(some 161),(.pick (.t 155) (.t 160) (.c (.v (.bool false)))),none⟩,.b,[],[]⟩,⟨⟨(some 162),(.mov (.t 161)),none⟩,.b,[],[]⟩,⟨⟨(some 163),(.mov (.t 14)),(some (162,true))⟩,.b,[],[]⟩,⟨⟨(some 164),(.bin .eql (.t 163) (.c (.v (.int .i64 0)))),(some (162,true))⟩,.b,[],[]⟩,⟨⟨(some 165),(.pick (.t 162) (.t 164) (.c (.v (.bool false)))),none⟩,.b,[],[]⟩,⟨⟨(some 166),(.mov (.t 165)),none⟩,.b,[],[]⟩,⟨⟨(some 167),(.call 20 11 []),(some (166,true))⟩,.b,[],[]⟩,⟨⟨(some 168),(.pick (.t 166) (.t 167) (.c (.v (.bool false)))),none⟩,.b,[],[]⟩,⟨⟨(some 2),(.mov (.t 168)),none⟩,.b,[],[]⟩]) .ret))))))))))),[1,18,23,26,32,39,43,63,64,73,79,85,89,92,95,103,131,136,159,160,167],169,[.t 2],22⟩
theorem xf5_ok:xf5.ok Tryd.prog 5:=⟨_,_,Tryd.func5,rfl,by kernel_rfl,rfl,by kernel_rfl,rfl,by kernel_rfl,by kernel_rfl⟩
def tb5:List PE:=[pe9,pe10,pe11,pe12,pe13,pe14,pe16,pe17,pe19,pe20t,pe21,pe22,pe23,pe24,pe25,pe26]
theorem tb5_ok:PEsOk Tryd.prog tb5:=⟨pe9_ok,pe10_ok,pe11_ok,pe12_ok,pe13_ok,pe14_ok,pe16_ok,pe17_ok,pe19_ok,pe20t_ok,pe21_ok,pe22_ok,pe23_ok,pe24_ok,pe25_ok,pe26_ok,trivial⟩
def ex5:List EX:=[]
theorem ex5_ok:EXsOk Tryd.prog ex5:=trivial
def in5:List IN:=[]
theorem in5_ok:INsOk Tryd.prog in5:=trivial
def F5:DT ((.co (.v (.p (.sl (.i .i64)) (.p (.i .i64) (.p (.sl (.p (.i .u64) (.p (.i .i64) (.i .i64)))) .s)))) .no):Fm).den→Option (DT (.v .b:Fm).den):=pureT tb5 ex5 in5 0 xf5 _ _ []
def pe5:PE:=⟨5,(.co (.v (.p (.sl (.i .i64)) (.p (.i .i64) (.p (.sl (.p (.i .u64) (.p (.i .i64) (.i .i64)))) .s)))) .no),.v .b,F5⟩
theorem pe5_ok:pe5.ok Tryd.prog:=pe_of hm tb5_ok ex5_ok in5_ok xf5_ok (by kernel_rfl) (fun _=>rfl)
end
end Go.Proofs.YtbgnmndgpaaidaaDoor.VL
end
section
namespace Go.Proofs.YtbgnmndgpaaidaaDoor.VL
open Go
set_option maxRecDepth 100000
set_option linter.unusedVariables false
set_option linter.unusedSectionVars false
variable [Val]
theorem F20t_eq (v:((List Int)×Int)):F20t v=(loopX (fun (v0:((List (Int×(Int×Int)))×Int))=>(cond (decide (v0.2 < ((v.1.length:Nat):Int))) (Option.bind (loopX (fun (v1:((List (Int×(Int×Int)))×Int))=>(cond (decide (v1.2 < v.2)) (Option.bind (cond (decide ((0:Int)≤v0.2)) (Option.bind v.1[(Int.toNat v0.2)]? (fun (v2:Int)=>(Option.bind (F38 v2) (fun (v3:ByteArray)=>(cond (decide (((ByteArray.size v3)+(ByteArray.size (ByteArray.mk #[47])))≤4611686018427387904)) (Option.bind (F38 v1.2) (fun (v4:ByteArray)=>(cond (decide (((ByteArray.size (v3++(ByteArray.mk #[47])))+(ByteArray.size v4))≤4611686018427387904)) (Option.bind (F18 (((v3++(ByteArray.mk #[47]))++v4)::[])) (fun (v5:Int)=>(cond (decide ((0:Int)≤v0.2)) (Option.bind v.1[(Int.toNat v0.2)]? (fun (v6:Int)=>(Option.bind (loopX (fun (v7:Int)=>(joinX (Option.bind (cond (decide (v7 < ((v1.1.length:Nat):Int))) (cond (decide ((0:Int)≤v7)) (Option.bind v1.1[(Int.toNat v7)]? (fun (v8:(Int×(Int×Int)))=>(Option.bind (F39 ((v8.1,v8.2.1,v8.2.2),v5,v6,v1.2)) (fun (v9:Bool)=>(some v9))))) none) (some false)) (fun (v10:Bool)=>(cond v10 (some (.inl ())) (some (.inr (.inr v7)))))) (fun (v11:Unit)=>(some (.inl (IntKind.wrap IntKind.i64 (v7+(1:Int)))))))) (0:Int)) (fun (v12:Int)=>(cond ((decide ((0:Int)≤v12))&&(decide (v12≤((v1.1.length:Nat):Int)))) (cond ((decide (((((List.take (Int.toNat v12) v1.1).length:Nat):Int) * (24:Int))≤(70368744177664:Int)))&&(decide ((((List.take (Int.toNat v12) v1.1).length:Nat):Int)≤(70368744177664:Int)))) (cond (List.isEmpty (List.take (Int.toNat v12) v1.1)) (cond ((decide ((0:Int)≤v12))&&(decide (v12≤((v1.1.length:Nat):Int)))) (cond ((decide (((((1+(List.drop (Int.toNat v12) v1.1).length):Nat):Int) * (24:Int))≤(70368744177664:Int)))&&(decide ((((1+(List.drop (Int.toNat v12) v1.1).length):Nat):Int)≤(70368744177664:Int)))) (cond (decide ((1+(List.drop (Int.toNat v12) v1.1).length)≤1)) (cond (decide ((0+(1+(List.drop (Int.toNat v12) v1.1).length))≤(Append.append (Append.append ((v5,v6,v1.2)::[]) (List.drop (Int.toNat v12) v1.1)) (List.drop (1+(List.drop (Int.toNat v12) v1.1).length) ((v5,v6,v1.2)::[]))).length)) (some (List.take (1+(List.drop (Int.toNat v12) v1.1).length) (Append.append (Append.append ((v5,v6,v1.2)::[]) (List.drop (Int.toNat v12) v1.1)) (List.drop (1+(List.drop (Int.toNat v12) v1.1).length) ((v5,v6,v1.2)::[]))))) none) (cond (decide ((0+(1+(List.drop (Int.toNat v12) v1.1).length))≤(Append.append ((v5,v6,v1.2)::[]) (List.drop (Int.toNat v12) v1.1)).length)) (some (List.take (1+(List.drop (Int.toNat v12) v1.1).length) ((v5,v6,v1.2)::(List.drop (Int.toNat v12) v1.1)))) none)) none) none) (cond ((decide ((0+(List.take (Int.toNat v12) v1.1).length)≤(List.take (Int.toNat v12) v1.1).length))&&((decide ((((((List.take (Int.toNat v12) v1.1).length+1):Nat):Int) * (24:Int))≤(70368744177664:Int)))&&(decide (((((List.take (Int.toNat v12) v1.1).length+1):Nat):Int)≤(70368744177664:Int))))) (cond (decide (((0+(List.take (Int.toNat v12) v1.1).length)+1)≤(List.take (Int.toNat v12) v1.1).length)) (cond ((decide ((0:Int)≤v12))&&(decide (v12≤((v1.1.length:Nat):Int)))) (cond ((decide ((0+((List.take (Int.toNat v12) v1.1).length+1))≤(Append.append (Append.append (List.take (0+(List.take (Int.toNat v12) v1.1).length) (List.take (Int.toNat v12) v1.1)) ((v5,v6,v1.2)::[])) (List.drop ((0+(List.take (Int.toNat v12) v1.1).length)+1) (List.take (Int.toNat v12) v1.1))).length))&&((decide (((((((List.take (Int.toNat v12) v1.1).length+1)+(List.drop (Int.toNat v12) v1.1).length):Nat):Int) * (24:Int))≤(70368744177664:Int)))&&(decide ((((((List.take (Int.toNat v12) v1.1).length+1)+(List.drop (Int.toNat v12) v1.1).length):Nat):Int)≤(70368744177664:Int))))) (cond (decide (((0+((List.take (Int.toNat v12) v1.1).length+1))+(List.drop (Int.toNat v12) v1.1).length)≤(Append.append (Append.append (List.take (0+(List.take (Int.toNat v12) v1.1).length) (List.take (Int.toNat v12) v1.1)) ((v5,v6,v1.2)::[])) (List.drop ((0+(List.take (Int.toNat v12) v1.1).length)+1) (List.take (Int.toNat v12) v1.1))).length)) (cond (decide ((0+(((List.take (Int.toNat v12) v1.1).length+1)+(List.drop (Int.toNat v12) v1.1).length))≤(Append.append (Append.append (List.take (0+((List.take (Int.toNat v12) v1.1).length+1)) (Append.append (Append.append (List.take (0+(List.take (Int.toNat v12) v1.1).length) (List.take (Int.toNat v12) v1.1)) ((v5,v6,v1.2)::[])) (List.drop ((0+(List.take (Int.toNat v12) v1.1).length)+1) (List.take (Int.toNat v12) v1.1)))) (List.drop (Int.toNat v12) v1.1)) (List.drop ((0+((List.take (Int.toNat v12) v1.1).length+1))+(List.drop (Int.toNat v12) v1.1).length) (Append.append (Append.append (List.take (0+(List.take (Int.toNat v12) v1.1).length) (List.take (Int.toNat v12) v1.1)) ((v5,v6,v1.2)::[])) (List.drop ((0+(List.take (Int.toNat v12) v1.1).length)+1) (List.take (Int.toNat v12) v1.1))))).length)) (some (List.take (((List.take (Int.toNat v12) v1.1).length+1)+(List.drop (Int.toNat v12) v1.1).length) (Append.append (Append.append (List.take (0+((List.take (Int.toNat v12) v1.1).length+1)) (Append.append (Append.append (List.take (0+(List.take (Int.toNat v12) v1.1).length) (List.take (Int.toNat v12) v1.1)) ((v5,v6,v1.2)::[])) (List.drop ((0+(List.take (Int.toNat v12) v1.1).length)+1) (List.take (Int.toNat v12) v1.1)))) (List.drop (Int.toNat v12) v1.1)) (List.drop ((0+((List.take (Int.toNat v12) v1.1).length+1))+(List.drop (Int.toNat v12) v1.1).length) (Append.append (Append.append (List.take (0+(List.take (Int.toNat v12) v1.1).length) (List.take (Int.toNat v12) v1.1)) ((v5,v6,v1.2)::[])) (List.drop ((0+(List.take (Int.toNat v12) v1.1).length)+1) (List.take (Int.toNat v12) v1.1))))))) none) (cond (decide ((0+(((List.take (Int.toNat v12) v1.1).length+1)+(List.drop (Int.toNat v12) v1.1).length))≤(Append.append (List.take ((List.take (Int.toNat v12) v1.1).length+1) (Append.append (Append.append (List.take (0+(List.take (Int.toNat v12) v1.1).length) (List.take (Int.toNat v12) v1.1)) ((v5,v6,v1.2)::[])) (List.drop ((0+(List.take (Int.toNat v12) v1.1).length)+1) (List.take (Int.toNat v12) v1.1)))) (List.drop (Int.toNat v12) v1.1)).length)) (some (List.take (((List.take (Int.toNat v12) v1.1).length+1)+(List.drop (Int.toNat v12) v1.1).length) (Append.append (List.take ((List.take (Int.toNat v12) v1.1).length+1) (Append.append (Append.append (List.take (0+(List.take (Int.toNat v12) v1.1).length) (List.take (Int.toNat v12) v1.1)) ((v5,v6,v1.2)::[])) (List.drop ((0+(List.take (Int.toNat v12) v1.1).length)+1) (List.take (Int.toNat v12) v1.1)))) (List.drop (Int.toNat v12) v1.1)))) none)) none) none) (cond ((decide ((0:Int)≤v12))&&(decide (v12≤((v1.1.length:Nat):Int)))) (cond ((decide ((0+((List.take (Int.toNat v12) v1.1).length+1))≤(Append.append (List.take (List.take (Int.toNat v12) v1.1).length (List.take (Int.toNat v12) v1.1)) ((v5,v6,v1.2)::[])).length))&&((decide (((((((List.take (Int.toNat v12) v1.1).length+1)+(List.drop (Int.toNat v12) v1.1).length):Nat):Int) * (24:Int))≤(70368744177664:Int)))&&(decide ((((((List.take (Int.toNat v12) v1.1).length+1)+(List.drop (Int.toNat v12) v1.1).length):Nat):Int)≤(70368744177664:Int))))) (cond (decide (((0+((List.take (Int.toNat v12) v1.1).length+1))+(List.drop (Int.toNat v12) v1.1).length)≤(Append.append (List.take (List.take (Int.toNat v12) v1.1).length (List.take (Int.toNat v12) v1.1)) ((v5,v6,v1.2)::[])).length)) (cond (decide ((0+(((List.take (Int.toNat v12) v1.1).length+1)+(List.drop (Int.toNat v12) v1.1).length))≤(Append.append (Append.append (List.take (0+((List.take (Int.toNat v12) v1.1).length+1)) (Append.append (List.take (List.take (Int.toNat v12) v1.1).length (List.take (Int.toNat v12) v1.1)) ((v5,v6,v1.2)::[]))) (List.drop (Int.toNat v12) v1.1)) (List.drop ((0+((List.take (Int.toNat v12) v1.1).length+1))+(List.drop (Int.toNat v12) v1.1).length) (Append.append (List.take (List.take (Int.toNat v12) v1.1).length (List.take (Int.toNat v12) v1.1)) ((v5,v6,v1.2)::[])))).length)) (some (List.take (((List.take (Int.toNat v12) v1.1).length+1)+(List.drop (Int.toNat v12) v1.1).length) (Append.append (Append.append (List.take (0+((List.take (Int.toNat v12) v1.1).length+1)) (Append.append (List.take (List.take (Int.toNat v12) v1.1).length (List.take (Int.toNat v12) v1.1)) ((v5,v6,v1.2)::[]))) (List.drop (Int.toNat v12) v1.1)) (List.drop ((0+((List.take (Int.toNat v12) v1.1).length+1))+(List.drop (Int.toNat v12) v1.1).length) (Append.append (List.take (List.take (Int.toNat v12) v1.1).length (List.take (Int.toNat v12) v1.1)) ((v5,v6,v1.2)::[])))))) none) (cond (decide ((0+(((List.take (Int.toNat v12) v1.1).length+1)+(List.drop (Int.toNat v12) v1.1).length))≤(Append.append (List.take ((List.take (Int.toNat v12) v1.1).length+1) (Append.append (List.take (List.take (Int.toNat v12) v1.1).length (List.take (Int.toNat v12) v1.1)) ((v5,v6,v1.2)::[]))) (List.drop (Int.toNat v12) v1.1)).length)) (some (List.take (((List.take (Int.toNat v12) v1.1).length+1)+(List.drop (Int.toNat v12) v1.1).length) (Append.append (List.take ((List.take (Int.toNat v12) v1.1).length+1) (Append.append (List.take (List.take (Int.toNat v12) v1.1).length (List.take (Int.toNat v12) v1.1)) ((v5,v6,v1.2)::[]))) (List.drop (Int.toNat v12) v1.1)))) none)) none) none)) none)) none) none))))) none))) none))) none))))) none) (fun (v13:(List (Int×(Int×Int))))=>(some (.inl (v13,(IntKind.wrap IntKind.i64 (v1.2+(1:Int)))))))) (some (.inr v1.1)))) (v0.1,(0:Int))) (fun (v14:(List (Int×(Int×Int))))=>(some (.inl (v14,(IntKind.wrap IntKind.i64 (v0.2+(1:Int)))))))) (some (.inr v0.1)))) ([],(0:Int))):=by kernel_rfl
theorem F5_eq (v:((List Int)×(Int×((List (Int×(Int×Int)))×ByteArray)))):F5 v=(Option.bind (F9 v.1) (fun (v0:(List Int))=>(Option.bind (F16 v.2.2.1) (fun (v1:(List (Int×(Int×Int))))=>(Option.bind (F17 v.2.2.2) (fun (v2:ByteArray)=>(Option.bind (Option.bind (cond (decide (((v0.length:Nat):Int) > (6:Int))) (Option.bind (F10 v0) (fun (v3:Bool)=>(some v3))) (some false)) (fun (v4:Bool)=>(cond v4 (cond (decide ((6:Int)≤((v0.length:Nat):Int))) (some (List.take 6 v0)) none) (some v0)))) (fun (v5:(List Int))=>(Option.bind (F12 (v5,v.2.1)) (fun (v6:((List (Int×(Int×Int)))×Int))=>(joinX (Option.bind (Option.bind (F10 v5) (fun (v7:Bool)=>(cond (!v7) (some true) (cond (decide (v.2.1 < (1:Int))) (some true) (some (decide (v.2.1 > (32:Int)))))))) (fun (v8:Bool)=>(cond v8 (Option.bind (cond (decide (((v6.1.length:Nat):Int) > (0:Int))) (some true) (some (v6.2 != (1:Int)))) (fun (v9:Bool)=>(cond v9 (some (.inr false)) (some (.inl ()))))) (Option.bind (Option.bind (F20t (v5,v.2.1)) (fun (v10:(List (Int×(Int×Int))))=>(Option.bind (F19 (v6.1,v10)) (fun (v11:Bool)=>(cond (!v11) (some true) (some (v6.2 != (0:Int)))))))) (fun (v12:Bool)=>(cond v12 (some (.inr false)) (some (.inl ())))))))) (fun (v13:Unit)=>(Option.bind (F14 (v1,v2)) (fun (v14:(Int×Int))=>(Option.bind (F21 (v1,v2)) (fun (v15:(Int×Int))=>(Option.bind (F22 (v1,v2)) (fun (v16:((List Int)×Int))=>(Option.bind (F13 v1) (fun (v17:Int)=>(Option.bind (F23 v1) (fun (v18:Bool)=>(cond (!((v17==(0:Int))==v18)) (some false) (joinX (Option.bind (Option.bind (F23 v1) (fun (v19:Bool)=>(cond (!v19) (some true) (some (((v1.length:Nat):Int)==(0:Int)))))) (fun (v20:Bool)=>(cond v20 (Option.bind (Option.bind (F23 v1) (fun (v21:Bool)=>(cond v21 (some (6:Int)) (some (1:Int))))) (fun (v22:Int)=>(cond (v14.1==(0:Int)) (cond (v14.2==v22) (cond (v15.1==(0:Int)) (cond (v15.2==v22) (cond (((v16.1.length:Nat):Int)==(0:Int)) (cond (v16.2==v22) (Option.bind (F11 ()) (fun (v23:Bool)=>(some (.inr v23)))) (some (.inr false))) (some (.inr false))) (some (.inr false))) (some (.inr false))) (some (.inr false))) (some (.inr false))))) (some (.inl ()))))) (fun (v24:Unit)=>(Option.bind (F24 (v1,v2)) (fun (v25:Int)=>(cond (v14.1==v25) (cond (v14.2==(0:Int)) (cond (decide ((0:Int)≤v14.1)) (Option.bind v1[(Int.toNat v14.1)]? (fun (v26:(Int×(Int×Int)))=>(cond (v15.1==v26.2.1) (cond (v15.2==(0:Int)) (Option.bind (F26 (v1,v2)) (fun (v27:(List Int))=>(Option.bind (F25 (v16.1,v27)) (fun (v28:Bool)=>(cond v28 (cond (v16.2==(0:Int)) (Option.bind (F11 ()) (fun (v29:Bool)=>(some v29))) (some false)) (some false)))))) (some false)) (some false)))) none) (some false)) (some false))))))))))))))))))))))))))))):=by kernel_rfl
end Go.Proofs.YtbgnmndgpaaidaaDoor.VL
end
section
namespace Go.Proofs.YtbgnmndgpaaidaaDoor.VL
open Go
set_option linter.unusedVariables false
set_option linter.unusedSectionVars false
set_option linter.unusedSimpArgs false
set_option maxRecDepth 100000
variable [Val]
theorem digs:((List.range 64).map fun n=>F38 ((n:Nat):Int))=(List.range 64).map fun n=>some (itoa n):=by kernel_rfl
theorem F38_ok {n:Nat} (hn:n < 64):F38 ((n:Nat):Int)=some (itoa n):=by
 have h1:=congrArg (fun l=>l[n]?) digs
 simpa only [List.getElem?_map,List.getElem?_range hn,Option.map_some,Option.some.injEq] using h1
theorem F39_ok (a b:PT):F39 (a,b)=some (ltP a b):=by
 rw [F39_eq]
 unfold ltP
 by_cases h1:a.1=b.1
 ·have e1:(a.1 != b.1)=false:=by rw [h1]; simp
  have d1:decide (a.1 < b.1)=false:=decide_eq_false (by omega)
  by_cases h2:a.2.1=b.2.1
  ·have e2:(a.2.1 != b.2.1)=false:=by rw [h2]; simp
   have d2:decide (a.2.1 < b.2.1)=false:=decide_eq_false (by omega)
   simp only [e1,e2,cond_false,d1,d2,decide_eq_true h1,decide_eq_true h2,Bool.false_or,Bool.true_and]
  ·have e2:(a.2.1 != b.2.1)=true:=by rw [bne_iff_ne]; exact h2
   simp only [e1,e2,cond_false,cond_true,d1,decide_eq_true h1,decide_eq_false h2,Bool.false_or,Bool.true_and,Bool.false_and,Bool.or_false]
 ·have e1:(a.1 != b.1)=true:=by rw [bne_iff_ne]; exact h1
  simp only [e1,cond_true,decide_eq_false h1,Bool.false_and,Bool.or_false]
def whr (l:List PT) (q:PT):Nat:=l.findIdx (fun x=>!ltP x q)
def inst (l:List PT) (q:PT):List PT:=l.take (whr l q)++q::l.drop (whr l q)
theorem whr_le (l:List PT) (q:PT):whr l q≤l.length:=List.findIdx_le_length
theorem mem_inst {l:List PT} {q x:PT}:x ∈ inst l q ↔ x=q∨x ∈ l:=by
 unfold inst
 rw [List.mem_append,List.mem_cons]
 constructor
 ·rintro (h | h | h)
  ·exact .inr (List.mem_of_mem_take h)
  ·exact .inl h
  ·exact .inr (List.mem_of_mem_drop h)
 ·rintro (h | h)
  ·exact .inr (.inl h)
  ·rw [← List.take_append_drop (whr l q) l,List.mem_append] at h
   rcases h with h | h
   ·exact .inl h
   ·exact .inr (.inr h)
theorem srt_inst {l:List PT} (h:sP l) {q:PT} (hq:q ∉ l):sP (inst l q):=by
 induction l with
 | nil=>exact List.pairwise_singleton _ _
 | cons a r ih =>
  obtain ⟨h1,h2⟩:=List.pairwise_cons.1 h
  have ih:=ih h2 (fun h=>hq (by simp [h]))
  by_cases hl:ltP a q=true
  ·have e:whr (a::r) q=whr r q+1:=by
    unfold whr
    rw [List.findIdx_cons,hl]
    rfl
   have e2:inst (a::r) q=a::inst r q:=by unfold inst; rw [e]; rfl
   rw [e2]
   refine List.pairwise_cons.2 ⟨fun x hx=>?_,ih⟩
   rcases mem_inst.1 hx with rfl | hx
   ·exact hl
   ·exact h1 x hx
  ·rw [Bool.not_eq_true] at hl
   have e:whr (a::r) q=0:=by
    unfold whr
    rw [List.findIdx_cons,hl]
    rfl
   have e2:inst (a::r) q=q::a::r:=by unfold inst; rw [e]; rfl
   rw [e2]
   have hqa:ltP q a=true:=by
    rcases ltP_tri a q with t | t | t
    ·rw [hl] at t; cases t
    ·exact absurd (by rw [t]; simp) hq
    ·exact t
   refine List.pairwise_cons.2 ⟨fun x hx=>?_,h⟩
   rcases List.mem_cons.1 hx with rfl | hx
   ·exact hqa
   ·exact ltP_trans hqa (h1 x hx)
theorem mem_sortL {R:List PT} {x:PT}:x ∈ sortL cmpP R ↔ x ∈ R:=(List.mergeSort_perm _ _).mem_iff
theorem sort_snoc {R:List PT} {q:PT} (h:(R++[q]).Nodup):sortL cmpP (R++[q])=inst (sortL cmpP R) q:=by
 rw [List.nodup_append] at h
 obtain ⟨h1,h2,h3⟩:=h
 have hq:q ∉ sortL cmpP R:=fun hm=>h3 q (mem_sortL.1 hm) q (by simp) rfl
 refine sP_ext (srt_sort (by rw [List.nodup_append]; exact ⟨h1,h2,h3⟩)) (srt_inst (srt_sort h1) hq) fun x=>?_
 rw [mem_sortL,mem_inst,mem_sortL,List.mem_append,List.mem_singleton]
 exact Or.comm
theorem F20t_ok {l:List Int} {m:Nat} (hN:nodP l) (hm1:1≤m) (hm:m≤32):F20t (l,((m:Nat):Int))=some (pts l m):=by
 rw [F20t_eq]
 have hlen:=nodP_len hN
 rw [loop_detE (s0:=(([]:List PT),(0:Int))) l.length (fun i=>(sortL cmpP (rawP (l.take i) m),((i:Nat):Int))) (pts l m) (by simp [rawP,sortL])]
 ·have q:¬ ((l.length:Nat):Int) < ((l.length:Nat):Int):=by omega
  have e:l.take l.length=l:=List.take_length
  simp -implicitDefEqProofs only [q,e,eq_self,xs]
  try rfl
 ·intro i hi
  have q1:((i:Nat):Int) < ((l.length:Nat):Int):=by omega
  have q2:(0:Int)≤(i:Int):=by omega
  have g:=List.getElem?_eq_getElem hi
  have hx:=hN.1 l[i] (List.getElem_mem hi)
  have tk:rawP (l.take (i+1)) m=rawP (l.take i) m++rowP l[i] m:=by
   rw [List.take_succ_eq_append_getElem hi]
   unfold rawP
   rw [List.flatMap_append]; simp
  have hnd:(rawP (l.take (i+1)) m).Nodup:=raw_nodup ((List.take_sublist _ _).nodup hN.nodup) m
  rw [tk] at hnd
  have hr:(rawP (l.take i) m).length≤2048:=by
   rw [rawP_len]
   exact Nat.le_trans (Nat.mul_le_mul hm (by rw [List.length_take]; omega)) (show 32 * 64≤2048 by decide)
  obtain ⟨nn,hnn⟩:∃ nn:Nat,l[i]=(nn:Int):=⟨l[i].toNat,by omega⟩
  have fa:=F38_ok (n:=nn) (by omega)
  have ww:=w1 (show i≤9223372036854775806 by omega)
  rw [tk]
  simp -implicitDefEqProofs only [q1,eq_self,xs]
  rw [loop_detE (s0:=(sortL cmpP (rawP (l.take i) m),(0:Int))) m (fun j=>(sortL cmpP (rawP (l.take i) m++rowP l[i] j),((j:Nat):Int))) (sortL cmpP (rawP (l.take i) m++rowP l[i] m)) (by simp [rowP])]
  ·simp -implicitDefEqProofs only [ww,eq_self,xs]
  ·have q:¬ ((m:Nat):Int) < ((m:Nat):Int):=by omega
   simp -implicitDefEqProofs only [q,eq_self,xs]
  ·intro j hj
   have q3:((j:Nat):Int) < ((m:Nat):Int):=by omega
   have fb:=F38_ok (n:=j) (by omega)
   have s1:(itoa nn).size+(ByteArray.mk #[47]).size≤4611686018427387904:=by
    have:=itoa_size nn
    have h3:(ByteArray.mk #[47]).size=1:=rfl
    omega
   have s2:(itoa nn++ByteArray.mk #[47]).size+(itoa j).size≤4611686018427387904:=by
    have:=itoa_size nn
    have:=itoa_size j
    have h3:(ByteArray.mk #[47]).size=1:=rfl
    rw [ByteArray.size_append]
    omega
   have fc:F18 [itoa nn++ByteArray.mk #[47]++itoa j]=some (hsh nn j):=by
    rw [hsh_key]
    exact F18_one (s:=hnm nn j) (by have:=hnm_size nn j; omega)
   have e:rawP (l.take i) m++rowP l[i] (j+1)=(rawP (l.take i) m++rowP l[i] j)++[(hsh nn j,((nn:Nat):Int),((j:Nat):Int))]:=by
    rw [rowP_succ,← List.append_assoc,show l[i].toNat=nn by omega,hnn]
   have hsub:((rawP (l.take i) m++rowP l[i] j)++[(hsh nn j,((nn:Nat):Int),((j:Nat):Int))]).Nodup:=by
    rw [← e]
    refine List.Sublist.nodup (List.Sublist.append (List.Sublist.refl _) ?_) hnd
    unfold rowP
    exact (List.Sublist.map _ (List.range_sublist.2 (by omega)))
   have hs:=sort_snoc hsub
   have hlS:(sortL cmpP (rawP (l.take i) m++rowP l[i] j)).length≤4096:=by
    rw [sortL_len,List.length_append,rowP_len]; omega
   rw [e,hs]
   clear hs hsub e hnd tk
   generalize sortL cmpP (rawP (l.take i) m++rowP l[i] j)=S at *
   rw [hnn] at g
   have wj:=w1 (show j≤9223372036854775806 by omega)
   simp -implicitDefEqProofs only [q3,q2,g,fa,fb,s1,s2,fc,eq_self,xs]
   generalize hsh nn j=h at *
   rw [loop_first (s0:=(0:Int)) S (fun x=>!ltP x (h,((nn:Nat):Int),((j:Nat):Int))) (fun i=>((i:Nat):Int)) ((S.length:Nat):Int) rfl]
   ·have hw:(if (S.any fun x=>!ltP x (h,((nn:Nat):Int),((j:Nat):Int)))=true then (((S.findIdx fun x=>!ltP x (h,((nn:Nat):Int),((j:Nat):Int))):Nat):Int) else ((S.length:Nat):Int))=((whr S (h,((nn:Nat):Int),((j:Nat):Int)):Nat):Int):=by
     unfold whr
     split
     ·rfl
     ·rename_i ha
      congr 1
      symm
      rw [List.findIdx_eq_length]
      intro x hx
      rw [Bool.not_eq_true,List.any_eq_false] at ha
      have:=ha x hx
      simpa using this
    simp only [hw]
    have hle:=whr_le S (h,((nn:Nat):Int),((j:Nat):Int))
    unfold inst
    generalize whr S (h,((nn:Nat):Int),((j:Nat):Int))=k at *
    generalize (h,((nn:Nat):Int),((j:Nat):Int))=q at *
    have k0:(0:Int)≤(k:Int):=by omega
    have k1:((k:Nat):Int)≤((S.length:Nat):Int):=by omega
    have lT:(S.take k).length=k:=by rw [List.length_take]; omega
    have lD:(S.drop k).length=S.length - k:=List.length_drop
    simp -implicitDefEqProofs only [k0,k1,wj,eq_self,xs]
    generalize S.take k=T at *
    generalize S.drop k=D at *
    have hT:T.length≤4096:=by omega
    have hD:D.length≤4096:=by omega
    have c1:((T.length:Nat):Int) * 24≤70368744177664:=by omega
    have c2:((T.length:Nat):Int)≤70368744177664:=by omega
    have c3:((1+D.length:Nat):Int) * 24≤70368744177664:=by omega
    have c4:((1+D.length:Nat):Int)≤70368744177664:=by omega
    have c5:((T.length+1:Nat):Int) * 24≤70368744177664:=by omega
    have c6:((T.length+1:Nat):Int)≤70368744177664:=by omega
    have c7:((T.length+1+D.length:Nat):Int) * 24≤70368744177664:=by omega
    have c8:((T.length+1+D.length:Nat):Int)≤70368744177664:=by omega
    have n1:¬ T.length+1≤T.length:=by omega
    have l2:List.take (T.length+1) (T++[q])=T++[q]:=List.take_of_length_le (by simp)
    simp -implicitDefEqProofs only [c1,c2,c3,c4,c5,c6,c7,c8,n1,l2,eq_self,xs]
    by_cases hT0:T=[]
    ·subst hT0
     by_cases hD0:D=[]
     ·subst hD0
      simp
     ·have hp:=List.length_pos_iff.2 hD0
      have n2:¬ 1+D.length≤1:=by omega
      have l1:List.take (1+D.length) (q::D)=q::D:=List.take_of_length_le (by simp; omega)
      simp -implicitDefEqProofs only [List.isEmpty_nil,n2,l1,eq_self,xs]
      simp
    ·have hTe:T.isEmpty=false:=by cases T with | nil=>exact absurd rfl hT0 | cons a r=>rfl
     by_cases hD0:D=[]
     ·subst hD0
      simp -implicitDefEqProofs only [hTe,eq_self,xs]
      simp
      exact l2
     ·have hp:=List.length_pos_iff.2 hD0
      have n3:¬ T.length+1+D.length≤T.length+1:=by omega
      have l3:List.take (T.length+1+D.length) (T++[q]++D)=T++[q]++D:=List.take_of_length_le (by simp; omega)
      simp -implicitDefEqProofs only [hTe,n3,l3,eq_self,xs]
      simp
   ·have q:¬ ((S.length:Nat):Int) < ((S.length:Nat):Int):=by omega
    simp -implicitDefEqProofs only [q,eq_self,xs]
   ·intro a x ha hxa
    have p1:((a:Nat):Int) < ((S.length:Nat):Int):=by omega
    have p2:(0:Int)≤(a:Int):=by omega
    have f39:=F39_ok x (h,((nn:Nat):Int),((j:Nat):Int))
    have wa:=w1 (show a≤9223372036854775806 by omega)
    cases hc:ltP x (h,((nn:Nat):Int),((j:Nat):Int))
    ·rw [hc] at f39
     simp -implicitDefEqProofs only [p1,p2,hxa,f39,eq_self,xs]
    ·rw [hc] at f39
     simp -implicitDefEqProofs only [p1,p2,hxa,f39,wa,eq_self,xs]
end Go.Proofs.YtbgnmndgpaaidaaDoor.VL
end
section
namespace Go.Proofs.YtbgnmndgpaaidaaDoor.VL
open Go
set_option linter.unusedVariables false
set_option linter.unusedSectionVars false
set_option linter.unusedSimpArgs false
set_option maxRecDepth 100000
variable [Val]
open Classical in
theorem F23_ok {l:List PT} (hl:l.length≤9223372036854775806):F23 l=some (if okP l then true else false):=by
 rw [F23_eq]
 rw [loop_all (n:=l.length) (okA l) false (decide (((l.length:Nat):Int)≤2048))]
 ·congr 1
  by_cases h:(List.range l.length).all (okA l)=true
  ·rw [if_pos h]
   have h2:=okA_iff.1 h
   by_cases hlen:l.length≤2048
   ·rw [if_pos ⟨hlen,h2⟩,decide_eq_true (by omega)]
   ·rw [if_neg (fun q=>hlen q.1),decide_eq_false (by omega)]
  ·rw [if_neg h,if_neg (fun q=>h (okA_iff.2 q.2))]
 ·have q:¬ ((l.length:Nat):Int) < ((l.length:Nat):Int):=by omega
  simp -implicitDefEqProofs only [q,eq_self,xs]
 ·intro i hi _
  have q1:((i:Nat):Int) < ((l.length:Nat):Int):=by omega
  have q2:(0:Int)≤(i:Int):=by omega
  have g:=List.getElem?_eq_getElem hi
  by_cases h0:l[i].2.1 < 0
  ·have e:rngB l[i].2.1=false:=by rw [Bool.eq_false_iff]; intro h; rw [rngB_iff] at h; omega
   have e':okA l i=false:=by unfold okA; rw [g]; simp only [e,Bool.false_and]
   rw [e']
   simp -implicitDefEqProofs only [q1,q2,g,h0,eq_self,xs]
  by_cases h1:l[i].2.1 > 63
  ·have e:rngB l[i].2.1=false:=by rw [Bool.eq_false_iff]; intro h; rw [rngB_iff] at h; omega
   have e':okA l i=false:=by unfold okA; rw [g]; simp only [e,Bool.false_and]
   rw [e']
   simp -implicitDefEqProofs only [q1,q2,g,h0,h1,eq_self,xs]
  have e:rngB l[i].2.1=true:=rngB_iff.2 (by omega)
  by_cases hi0:i=0
  ·subst hi0
   have e':okA l 0=true:=by unfold okA; rw [g]; simp only [e,decide_true,Bool.true_or,Bool.and_self]
   rw [e']
   have q3:¬ ((0:Nat):Int) > 0:=by omega
   simp -implicitDefEqProofs only [q1,q2,q3,g,h0,h1,w1 (show 0≤9223372036854775806 by omega),eq_self,xs]
  ·obtain ⟨k,rfl⟩:∃ k,i=k+1:=⟨i - 1,by omega⟩
   have gk:=List.getElem?_eq_getElem (show k < l.length by omega)
   have e':okA l (k+1)=ltP l[k] l[k+1]:=by
    unfold okA
    rw [g]
    have e1:decide (k+1=0)=false:=decide_eq_false (by omega)
    have e2:k+1 - 1=k:=rfl
    simp only [e,e1,e2,gk,Bool.false_or,Bool.true_and]
   rw [e']
   have q3:((k+1:Nat):Int) > 0:=by omega
   have ww:IntKind.wrap .i64 (((k+1:Nat):Int) - 1)=((k:Nat):Int):=by rw [wi (by omega) (by omega)]; omega
   have q4:(0:Int)≤(k:Int):=by omega
   have f:=F39_ok l[k] l[k+1]
   have t:Int.toNat ((k+1:Nat):Int)=k+1:=Int.toNat_natCast _
   have ww2:=w1 (show k+1≤9223372036854775806 by omega)
   cases hc:ltP l[k] l[k+1]
   ·rw [hc] at f
    simp -implicitDefEqProofs only [q1,q2,q3,q4,ww,t,g,gk,h0,h1,f,eq_self,xs]
   ·rw [hc] at f
    simp -implicitDefEqProofs only [q1,q2,q3,q4,ww,t,g,gk,h0,h1,f,ww2,eq_self,xs]
theorem lb_find {l:List PT} (h:hP l) (k:Int):lb l k=l.findIdx (fun p=>decide (p.1 ≥ k)):=by
 induction l with
 | nil=>rfl
 | cons a r ih =>
  obtain ⟨h1,h2⟩:=List.pairwise_cons.1 h
  rw [List.findIdx_cons]
  by_cases ha:a.1 < k
  ·have e1:decide (a.1 ≥ k)=false:=decide_eq_false (by omega)
   rw [e1]
   have e:lb (a::r) k=lb r k+1:=by unfold lb; rw [List.countP_cons_of_pos (by simpa using ha)]
   rw [e,ih h2]; rfl
  ·have e1:decide (a.1 ≥ k)=true:=decide_eq_true (by omega)
   rw [e1]
   unfold lb
   show _=0
   rw [List.countP_eq_zero]
   intro b hb
   rcases List.mem_cons.1 hb with rfl | hb
   ·simpa using ha
   ·have:=h1 b hb
    simp only [decide_eq_true_eq]; omega
theorem F24_ok {l:List PT} {key:ByteArray} (h:hP l) (hne:l≠[]) (hl:l.length≤9223372036854775806) (hk:key.size≤4611686018427387904):F24 (l,key)=some (((lb l (keyH key) % l.length:Nat)):Int):=by
 rw [F24_eq]
 have f18:=F18_one hk
 have hpos:0 < l.length:=List.length_pos_iff.2 hne
 simp -implicitDefEqProofs only [f18,eq_self,xs]
 rw [loop_first (s0:=(0:Int)) l (fun p=>decide (p.1 ≥ keyH key)) (fun i=>((i:Nat):Int)) (0:Int) rfl]
 ·rw [lb_find h]
  congr 1
  by_cases ha:(l.any fun p=>decide (p.1 ≥ keyH key))=true
  ·rw [if_pos ha]
   have hlt:l.findIdx (fun p=>decide (p.1 ≥ keyH key)) < l.length:=List.findIdx_lt_length.2 (by
    rw [List.any_eq_true] at ha
    exact ha)
   rw [Nat.mod_eq_of_lt hlt]
  ·rw [if_neg ha]
   have e:l.findIdx (fun p=>decide (p.1 ≥ keyH key))=l.length:=by
    rw [List.findIdx_eq_length]
    intro x hx
    rw [Bool.not_eq_true,List.any_eq_false] at ha
    have:=ha x hx
    simpa using this
   rw [e,Nat.mod_self]; rfl
 ·have q:¬ ((l.length:Nat):Int) < ((l.length:Nat):Int):=by omega
  simp -implicitDefEqProofs only [q,eq_self,xs]
 ·intro i x hi hx
  have q1:((i:Nat):Int) < ((l.length:Nat):Int):=by omega
  have q2:(0:Int)≤(i:Int):=by omega
  have ww:=w1 (show i≤9223372036854775806 by omega)
  by_cases hc:x.1 ≥ keyH key
  ·simp -implicitDefEqProofs only [q1,q2,hx,hc,eq_self,xs]
  ·simp -implicitDefEqProofs only [q1,q2,hx,hc,ww,eq_self,xs]
theorem F26_ok {l:List PT} {key:ByteArray} (hok:okP l) (hne:l≠[]) (hk:key.size≤4611686018427387904):F26 (l,key)=some (wlk l (keyH key)):=by
 rw [F26_eq]
 have hlen:=hok.1
 have f:=F24_ok hok.2.2.hP hne (by omega) hk
 have hpos:0 < l.length:=List.length_pos_iff.2 hne
 have hm:lb l (keyH key) % l.length < l.length:=Nat.mod_lt _ hpos
 have hw:wlk l (keyH key)=ded (nds (rot l (lb l (keyH key) % l.length))):=by rw [frm_eq hok.2.2.hP hne]; rfl
 rw [hw]
 generalize lb l (keyH key) % l.length=m at *
 simp -implicitDefEqProofs only [f,eq_self,xs]
 have hR:(nds (rot l m)).length=l.length:=by unfold nds; rw [List.length_map,rot_len]
 rw [loop_detE (s0:=((0:Int),([]:List Int))) l.length (fun i=>(((i:Nat):Int),ded ((nds (rot l m)).take i))) (ded (nds (rot l m))) (by rw [List.take_zero]; rfl)]
 ·have q:¬ ((l.length:Nat):Int) < ((l.length:Nat):Int):=by omega
  rw [List.take_of_length_le (by omega)]
  simp -implicitDefEqProofs only [q,List.take_length,eq_self,xs]
 ·intro i hi
  have q1:((i:Nat):Int) < ((l.length:Nat):Int):=by omega
  have nz:¬ (((l.length:Nat):Int)=0):=by omega
  have ww:IntKind.wrap .i64 (((m:Nat):Int)+((i:Nat):Int))=((m+i:Nat):Int):=by rw [wi (by omega) (by omega)]; omega
  have em:Int.tmod ((m+i:Nat):Int) ((l.length:Nat):Int)=(((m+i) % l.length:Nat):Int):=by
   rw [Int.tmod_eq_emod_of_nonneg (by omega)]; rfl
  have q2:(0:Int)≤(((m+i) % l.length:Nat):Int):=by omega
  have hmi:(m+i) % l.length < l.length:=Nat.mod_lt _ hpos
  have t:Int.toNat (((m+i) % l.length:Nat):Int)=(m+i) % l.length:=Int.toNat_natCast _
  have g:=List.getElem?_eq_getElem hmi
  have hx:=hok.2.1 _ (List.getElem_mem hmi)
  have hg:(nds (rot l m))[i]?=some (l[(m+i) % l.length]).2.1:=by
   unfold nds
   rw [List.getElem?_map,rot_get hm hi,g]; rfl
  have tk:(nds (rot l m)).take (i+1)=(nds (rot l m)).take i++[(l[(m+i) % l.length]).2.1]:=by
   rw [List.take_succ_eq_append_getElem (by omega)]
   congr 2
   have:=List.getElem?_eq_getElem (show i < (nds (rot l m)).length by omega)
   rw [hg] at this
   exact (Option.some.inj this).symm
  rw [tk]
  have hd:ded ((nds (rot l m)).take i++[(l[(m+i) % l.length]).2.1])=if (l[(m+i) % l.length]).2.1 ∈ ded ((nds (rot l m)).take i) then ded ((nds (rot l m)).take i) else ded ((nds (rot l m)).take i)++[(l[(m+i) % l.length]).2.1]:=dedA_snoc _ _ _
  rw [hd]
  have hnd:=nodup_ded ((nds (rot l m)).take i)
  have hs:(ded ((nds (rot l m)).take i)).length≤64:=nodup_len hnd (by
   intro x hx
   rw [mem_ded] at hx
   have hx:=List.mem_of_mem_take hx
   unfold nds rot at hx
   rw [List.mem_map] at hx
   obtain ⟨p,hp,rfl⟩:=hx
   rw [List.mem_append] at hp
   exact hok.2.1 p (hp.elim List.mem_of_mem_drop List.mem_of_mem_take))
  clear tk hd hg
  generalize ded ((nds (rot l m)).take i)=D at *
  generalize l[(m+i) % l.length]=p at *
  have f27:=F27_ok (l:=D) p.2.1 (by omega)
  have q5:((D.length+1:Nat):Int) * 8≤70368744177664:=by omega
  have q6:((D.length+1:Nat):Int)≤70368744177664:=by omega
  have w:=w1 (show i≤9223372036854775806 by omega)
  by_cases hmm:p.2.1 ∈ D
  ·rw [count_nodup hnd hmm] at f27
   have b:(((1:Nat):Int)==0)=false:=rfl
   simp -implicitDefEqProofs only [q1,nz,ww,em,q2,t,g,List.take_length,f27,b,hmm,w,eq_self,xs]
  ·rw [List.count_eq_zero.2 hmm] at f27
   have b:(((0:Nat):Int)==0)=true:=rfl
   simp -implicitDefEqProofs only [q1,nz,ww,em,q2,t,g,List.take_length,f27,b,hmm,q5,q6,w,app_eq,List.length_append,eq_self,xs]
theorem F19_ok {l:List PT} (hl:l.length≤9223372036854775806):F19 (l,l)=some true:=by
 rw [F19_eq]
 have q0:(((l.length:Nat):Int) != ((l.length:Nat):Int))=false:=by simp
 simp only [q0,cond_false]
 rw [loop_detE (s0:=(0:Int)) l.length (fun i=>((i:Nat):Int)) true rfl]
 ·have q:¬ ((l.length:Nat):Int) < ((l.length:Nat):Int):=by omega
  simp -implicitDefEqProofs only [q,eq_self,xs]
 ·intro i hi
  have q1:((i:Nat):Int) < ((l.length:Nat):Int):=by omega
  have q2:(0:Int)≤(i:Int):=by omega
  have g:=List.getElem?_eq_getElem hi
  have b1:(l[i].1==l[i].1)=true:=beq_self_eq_true _
  have b2:(l[i].2.1==l[i].2.1)=true:=beq_self_eq_true _
  have b3:(l[i].2.2==l[i].2.2)=true:=beq_self_eq_true _
  simp -implicitDefEqProofs only [q1,q2,g,b1,b2,b3,w1 (show i≤9223372036854775806 by omega),eq_self,xs]
open Classical in
theorem F5_ok {l0:List Int} {sp:Int} {L0:List PT} {key:ByteArray}:F5 (l0,sp,L0,key)=some true:=by
 rw [F5_eq]
 obtain ⟨t,f17,ht⟩:=F17_ok key
 obtain ⟨L,f16,hL,_⟩:=F16_ok L0
 have f9:=F9_ok (l:=l0)
 have hl65:(l0.take 65).length≤65:=by rw [List.length_take]; omega
 generalize l0.take 65=l1 at *
 have fa:F11 ()=some true:=rfl
 have f10':=F10_ok (l:=l1) (by omega)
 obtain ⟨l,hl,hll⟩:∃ l:List Int,(Option.bind (Option.bind (cond (decide (((l1.length:Nat):Int) > 6)) (Option.bind (F10 l1) fun v3=>some v3) (some false)) fun v4=>cond v4 (cond (decide ((6:Int)≤((l1.length:Nat):Int))) (some (List.take 6 l1)) none) (some l1)) fun v5=>some v5)=some l∧l.length≤65:=by
  by_cases c:l1.length > 6
  ·have q1:((l1.length:Nat):Int) > 6:=by omega
   have q2:(6:Int)≤((l1.length:Nat):Int):=by omega
   by_cases hN:nodP l1
   ·rw [if_pos hN] at f10'
    exact ⟨l1.take 6,by simp -implicitDefEqProofs only [q1,q2,f10',eq_self,xs],by rw [List.length_take]; omega⟩
   ·rw [if_neg hN] at f10'
    exact ⟨l1,by simp -implicitDefEqProofs only [q1,q2,f10',eq_self,xs],hl65⟩
  ·have q1:¬ ((l1.length:Nat):Int) > 6:=by omega
   exact ⟨l1,by simp -implicitDefEqProofs only [q1,eq_self,xs],hl65⟩
 have hl':(Option.bind (cond (decide (((l1.length:Nat):Int) > 6)) (Option.bind (F10 l1) fun v3=>some v3) (some false)) fun v4=>cond v4 (cond (decide ((6:Int)≤((l1.length:Nat):Int))) (some (List.take 6 l1)) none) (some l1))=some l:=by
  rw [← hl]
  generalize (Option.bind (cond (decide (((l1.length:Nat):Int) > 6)) (Option.bind (F10 l1) fun v3=>some v3) (some false)) fun v4=>cond v4 (cond (decide ((6:Int)≤((l1.length:Nat):Int))) (some (List.take 6 l1)) none) (some l1))=o
  cases o<;>rfl
 have f10:=F10_ok (l:=l) (by omega)
 have f12:=F12_ok (l:=l) (sp:=sp) (by omega)
 have f14:=F14_ok (l:=L) (key:=t) (by omega) (by omega)
 have f21:=F21_ok (l:=L) (key:=t) (by omega) (by omega)
 have f22:=F22_ok (l:=L) (key:=t) (by omega) (by omega)
 have f13:=F13_ok (l:=L) (by omega)
 have f23:=F23_ok (l:=L) (by omega)
 have b0:((0:Int)==0)=true:=rfl
 have b1:((1:Int)==1)=true:=rfl
 have b6:((6:Int)==6)=true:=rfl
 have b10:((1:Int)==0)=false:=rfl
 have n1:((1:Int) != 1)=false:=rfl
 have z0:¬ ((0:Nat):Int) > 0:=by omega
 have bt:(true==true)=true:=rfl
 have bf:(false==false)=true:=rfl
 have bz:((((0:Nat):Int))==0)=true:=rfl
 simp only [f9,f16,f17,Option.bind_some]
 rw [hl']
 simp only [f12,Option.bind_some]
 have points:(Option.bind (Option.bind (F10 l) fun v7=>cond (!v7) (some true) (cond (decide (sp < 1)) (some true) (some (decide (sp > 32))))) fun v8 =>
   cond v8 (Option.bind (cond (decide ((((if nodP l∧1≤sp∧sp≤32 then (pts l sp.toNat,(0:Int)) else ([],1)).1.length:Nat):Int) > 0)) (some true) (some ((if nodP l∧1≤sp∧sp≤32 then (pts l sp.toNat,(0:Int)) else ([],1)).2 != 1))) fun v9=>cond v9 (some (Sum.inr false)) (some (Sum.inl ())))
    (Option.bind (Option.bind (F20t (l,sp)) fun v10=>Option.bind (F19 ((if nodP l∧1≤sp∧sp≤32 then (pts l sp.toNat,(0:Int)) else ([],1)).1,v10)) fun v11=>cond (!v11) (some true) (some ((if nodP l∧1≤sp∧sp≤32 then (pts l sp.toNat,(0:Int)) else ([],1)).2 != 0))) fun v12=>cond v12 (some (Sum.inr false)) (some (Sum.inl ()))))=some (Sum.inl ():Unit ⊕ Bool):=by
  by_cases hN:nodP l
  ·rw [if_pos hN] at f10
   by_cases h1:sp < 1
   ·rw [if_neg (by omega)]
    simp -implicitDefEqProofs only [f10,h1,n1,eq_self,xs]
    rfl
   by_cases h2:sp > 32
   ·rw [if_neg (by omega)]
    simp -implicitDefEqProofs only [f10,h1,h2,n1,eq_self,xs]
    rfl
   rw [if_pos ⟨hN,by omega,by omega⟩]
   obtain ⟨m,rfl⟩:∃ m:Nat,sp=(m:Int):=⟨sp.toNat,by omega⟩
   have f20:=F20t_ok hN (m:=m) (by omega) (by omega)
   have hok:=pts_ok hN (m:=m) (by omega)
   have f19:=F19_ok (l:=pts l m) (by have:=hok.1; omega)
   simp -implicitDefEqProofs only [f10,h1,h2,f20,f19,nz0,eq_self,xs]
  ·rw [if_neg hN] at f10
   rw [if_neg (fun q=>hN q.1)]
   simp -implicitDefEqProofs only [f10,n1,eq_self,xs]
   rfl
 rw [points]
 simp only [joinX_l]
 by_cases hok:okP L
 ·rw [if_pos hok] at f14 f21 f22 f13 f23
  by_cases he:L=[]
  ·rw [if_pos he] at f14 f21 f22
   subst he
   have c0:((((([]:List PT).length:Nat):Int))==0)=true:=rfl
   have c1:((((([]:List Int).length:Nat):Int))==0)=true:=rfl
   simp -implicitDefEqProofs only [bt,bf,bz,f14,f21,f22,f13,f23,b0,b6,c0,c1,fa,eq_self,xs]
  ·rw [if_neg he] at f14 f21 f22
   have hpos:0 < L.length:=List.length_pos_iff.2 he
   have f24:=F24_ok (l:=L) (key:=t) hok.2.2.hP he (by omega) (by omega)
   have f26:=F26_ok (l:=L) (key:=t) hok he (by omega)
   have c0:(((L.length:Nat):Int)==0)=false:=by rw [beq_eq_false_iff_ne]; omega
   have hm:lb L (keyH t) % L.length < L.length:=Nat.mod_lt _ hpos
   have g:L[lb L (keyH t) % L.length]?=some (L[lb L (keyH t) % L.length]!):=by rw [getElem!_pos L _ hm]; exact List.getElem?_eq_getElem hm
   have hw:(wlk L (keyH t)).length≤9223372036854775806:=by
    have:=nodup_len (nodup_wlk L (keyH t)) (by
     intro x hx
     unfold wlk at hx
     rw [mem_ded] at hx
     unfold nds at hx
     rw [List.mem_map] at hx
     obtain ⟨p,hp,rfl⟩:=hx
     exact hok.2.1 p (mem_frm.1 hp))
    omega
   have f25:=F25_ok (l:=wlk L (keyH t)) (m:=wlk L (keyH t)) hw
   rw [decide_eq_true rfl] at f25
   generalize lb L (keyH t) % L.length=m at *
   have q2:(0:Int)≤((m:Nat):Int):=by omega
   have bm:(((m:Nat):Int)==((m:Nat):Int))=true:=beq_self_eq_true _
   have bo:((L[m]!).2.1==(L[m]!).2.1)=true:=beq_self_eq_true _
   simp -implicitDefEqProofs only [bt,bf,bz,f14,f21,f22,f13,f23,f24,f26,b0,c0,q2,bm,g,bo,f25,fa,eq_self,xs]
 ·rw [if_neg hok] at f14 f21 f22 f13 f23
  have c1:((((([]:List Int).length:Nat):Int))==0)=true:=rfl
  simp -implicitDefEqProofs only [bt,bf,bz,f14,f21,f22,f13,f23,b0,b1,b10,c1,fa,eq_self,xs]
end Go.Proofs.YtbgnmndgpaaidaaDoor.VL
end
