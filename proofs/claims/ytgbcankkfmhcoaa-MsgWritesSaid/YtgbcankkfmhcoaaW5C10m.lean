import Derived.Test.YtgbcankkfmhcoaaW5Za
section
namespace Go.Proofs.Ytgbcankkfmhcoaa.VL
open Go
set_option linter.unusedVariables false
set_option linter.unusedSectionVars false
set_option linter.unusedSimpArgs false
set_option maxRecDepth 100000
variable [Val]
abbrev NW:=Int×(Int×Int)
abbrev KW:=Int×Int
abbrev MB:=Int×(Int×(Int×(Int×(Int×(Int×(Int×(List NW×(List KW×(Int×(Int×(Int×(ByteArray×(Int×Bool)))))))))))))
theorem bytN (a b:Array UInt8) (r:Bool) (h:(a.toList==b.toList)=r):((ByteArray.mk a).toList==(ByteArray.mk b).toList)=r:=by rw [toList_data,toList_data]; exact h
theorem nq:(((ByteArray.mk #[115,101,113]).toList==(ByteArray.mk #[115,101,113]).toList)=true)∧(((ByteArray.mk #[119,104,111]).toList==(ByteArray.mk #[115,101,113]).toList)=false)∧(((ByteArray.mk #[119,104,111]).toList==(ByteArray.mk #[119,104,111]).toList)=true)∧(((ByteArray.mk #[119,104,111]).toList==(ByteArray.mk #[101,112,111,99,104]).toList)=false)∧(((ByteArray.mk #[119,104,111]).toList==(ByteArray.mk #[98,111,111,116]).toList)=false)∧(((ByteArray.mk #[119,104,111]).toList==(ByteArray.mk #[116,111,107,101,110]).toList)=false)∧(((ByteArray.mk #[107]).toList==(ByteArray.mk #[115,101,113]).toList)=false)∧(((ByteArray.mk #[107]).toList==(ByteArray.mk #[119,104,111]).toList)=false)∧(((ByteArray.mk #[107]).toList==(ByteArray.mk #[107]).toList)=true)∧(((ByteArray.mk #[107]).toList==(ByteArray.mk #[101,112,111,99,104]).toList)=false)∧(((ByteArray.mk #[107]).toList==(ByteArray.mk #[98,111,111,116]).toList)=false)∧(((ByteArray.mk #[107]).toList==(ByteArray.mk #[116,111,107,101,110]).toList)=false)∧(((ByteArray.mk #[110,101,119,115]).toList==(ByteArray.mk #[115,101,113]).toList)=false)∧(((ByteArray.mk #[110,101,119,115]).toList==(ByteArray.mk #[119,104,111]).toList)=false)∧(((ByteArray.mk #[110,101,119,115]).toList==(ByteArray.mk #[107]).toList)=false)∧(((ByteArray.mk #[110,101,119,115]).toList==(ByteArray.mk #[110,101,119,115]).toList)=true)∧(((ByteArray.mk #[110,101,119,115]).toList==(ByteArray.mk #[101,112,111,99,104]).toList)=false)∧(((ByteArray.mk #[110,101,119,115]).toList==(ByteArray.mk #[98,111,111,116]).toList)=false)∧(((ByteArray.mk #[110,101,119,115]).toList==(ByteArray.mk #[116,111,107,101,110]).toList)=false)∧(((ByteArray.mk #[116,97,98,108,101]).toList==(ByteArray.mk #[115,101,113]).toList)=false)∧(((ByteArray.mk #[116,97,98,108,101]).toList==(ByteArray.mk #[119,104,111]).toList)=false)∧(((ByteArray.mk #[116,97,98,108,101]).toList==(ByteArray.mk #[107]).toList)=false)∧(((ByteArray.mk #[116,97,98,108,101]).toList==(ByteArray.mk #[110,101,119,115]).toList)=false)∧(((ByteArray.mk #[116,97,98,108,101]).toList==(ByteArray.mk #[116,97,98,108,101]).toList)=true)∧(((ByteArray.mk #[116,97,98,108,101]).toList==(ByteArray.mk #[101,112,111,99,104]).toList)=false)∧(((ByteArray.mk #[116,97,98,108,101]).toList==(ByteArray.mk #[98,111,111,116]).toList)=false)∧(((ByteArray.mk #[116,97,98,108,101]).toList==(ByteArray.mk #[116,111,107,101,110]).toList)=false)∧(((ByteArray.mk #[101,112,111,99,104]).toList==(ByteArray.mk #[115,101,113]).toList)=false)∧(((ByteArray.mk #[101,112,111,99,104]).toList==(ByteArray.mk #[119,104,111]).toList)=false)∧(((ByteArray.mk #[101,112,111,99,104]).toList==(ByteArray.mk #[107]).toList)=false)∧(((ByteArray.mk #[101,112,111,99,104]).toList==(ByteArray.mk #[110,101,119,115]).toList)=false)∧(((ByteArray.mk #[101,112,111,99,104]).toList==(ByteArray.mk #[116,97,98,108,101]).toList)=false)∧(((ByteArray.mk #[101,112,111,99,104]).toList==(ByteArray.mk #[101,112,111,99,104]).toList)=true)∧(((ByteArray.mk #[98,111,111,116]).toList==(ByteArray.mk #[115,101,113]).toList)=false)∧(((ByteArray.mk #[98,111,111,116]).toList==(ByteArray.mk #[119,104,111]).toList)=false)∧(((ByteArray.mk #[98,111,111,116]).toList==(ByteArray.mk #[107]).toList)=false)∧(((ByteArray.mk #[98,111,111,116]).toList==(ByteArray.mk #[110,101,119,115]).toList)=false)∧(((ByteArray.mk #[98,111,111,116]).toList==(ByteArray.mk #[116,97,98,108,101]).toList)=false)∧(((ByteArray.mk #[98,111,111,116]).toList==(ByteArray.mk #[101,112,111,99,104]).toList)=false)∧(((ByteArray.mk #[98,111,111,116]).toList==(ByteArray.mk #[98,111,111,116]).toList)=true)∧(((ByteArray.mk #[97,115,107,101,100]).toList==(ByteArray.mk #[115,101,113]).toList)=false)∧(((ByteArray.mk #[97,115,107,101,100]).toList==(ByteArray.mk #[119,104,111]).toList)=false)∧(((ByteArray.mk #[97,115,107,101,100]).toList==(ByteArray.mk #[107]).toList)=false)∧(((ByteArray.mk #[97,115,107,101,100]).toList==(ByteArray.mk #[110,101,119,115]).toList)=false)∧(((ByteArray.mk #[97,115,107,101,100]).toList==(ByteArray.mk #[116,97,98,108,101]).toList)=false)∧(((ByteArray.mk #[97,115,107,101,100]).toList==(ByteArray.mk #[101,112,111,99,104]).toList)=false)∧(((ByteArray.mk #[97,115,107,101,100]).toList==(ByteArray.mk #[98,111,111,116]).toList)=false)∧(((ByteArray.mk #[97,115,107,101,100]).toList==(ByteArray.mk #[97,115,107,101,100]).toList)=true)∧(((ByteArray.mk #[97,115,107,101,100]).toList==(ByteArray.mk #[116,111,107,101,110]).toList)=false)∧(((ByteArray.mk #[116,97,115,107]).toList==(ByteArray.mk #[115,101,113]).toList)=false)∧(((ByteArray.mk #[116,97,115,107]).toList==(ByteArray.mk #[119,104,111]).toList)=false)∧(((ByteArray.mk #[116,97,115,107]).toList==(ByteArray.mk #[107]).toList)=false)∧(((ByteArray.mk #[116,97,115,107]).toList==(ByteArray.mk #[110,101,119,115]).toList)=false)∧(((ByteArray.mk #[116,97,115,107]).toList==(ByteArray.mk #[116,97,98,108,101]).toList)=false)∧(((ByteArray.mk #[116,97,115,107]).toList==(ByteArray.mk #[101,112,111,99,104]).toList)=false)∧(((ByteArray.mk #[116,97,115,107]).toList==(ByteArray.mk #[98,111,111,116]).toList)=false)∧(((ByteArray.mk #[116,97,115,107]).toList==(ByteArray.mk #[97,115,107,101,100]).toList)=false)∧(((ByteArray.mk #[116,97,115,107]).toList==(ByteArray.mk #[116,97,115,107]).toList)=true)∧(((ByteArray.mk #[116,97,115,107]).toList==(ByteArray.mk #[116,111,107,101,110]).toList)=false)∧(((ByteArray.mk #[116,111,107,101,110]).toList==(ByteArray.mk #[115,101,113]).toList)=false)∧(((ByteArray.mk #[116,111,107,101,110]).toList==(ByteArray.mk #[119,104,111]).toList)=false)∧(((ByteArray.mk #[116,111,107,101,110]).toList==(ByteArray.mk #[107]).toList)=false)∧(((ByteArray.mk #[116,111,107,101,110]).toList==(ByteArray.mk #[110,101,119,115]).toList)=false)∧(((ByteArray.mk #[116,111,107,101,110]).toList==(ByteArray.mk #[116,97,98,108,101]).toList)=false)∧(((ByteArray.mk #[116,111,107,101,110]).toList==(ByteArray.mk #[101,112,111,99,104]).toList)=false)∧(((ByteArray.mk #[116,111,107,101,110]).toList==(ByteArray.mk #[98,111,111,116]).toList)=false)∧(((ByteArray.mk #[116,111,107,101,110]).toList==(ByteArray.mk #[97,115,107,101,100]).toList)=false)∧(((ByteArray.mk #[116,111,107,101,110]).toList==(ByteArray.mk #[116,97,115,107]).toList)=false)∧(((ByteArray.mk #[116,111,107,101,110]).toList==(ByteArray.mk #[116,111,107,101,110]).toList)=true)∧(((ByteArray.mk #[103,111,111,100]).toList==(ByteArray.mk #[115,101,113]).toList)=false)∧(((ByteArray.mk #[103,111,111,100]).toList==(ByteArray.mk #[119,104,111]).toList)=false)∧(((ByteArray.mk #[103,111,111,100]).toList==(ByteArray.mk #[107]).toList)=false)∧(((ByteArray.mk #[103,111,111,100]).toList==(ByteArray.mk #[110,101,119,115]).toList)=false)∧(((ByteArray.mk #[103,111,111,100]).toList==(ByteArray.mk #[116,97,98,108,101]).toList)=false)∧(((ByteArray.mk #[103,111,111,100]).toList==(ByteArray.mk #[101,112,111,99,104]).toList)=false)∧(((ByteArray.mk #[103,111,111,100]).toList==(ByteArray.mk #[98,111,111,116]).toList)=false)∧(((ByteArray.mk #[103,111,111,100]).toList==(ByteArray.mk #[97,115,107,101,100]).toList)=false)∧(((ByteArray.mk #[103,111,111,100]).toList==(ByteArray.mk #[116,97,115,107]).toList)=false)∧(((ByteArray.mk #[103,111,111,100]).toList==(ByteArray.mk #[116,111,107,101,110]).toList)=false)∧(((ByteArray.mk #[103,111,111,100]).toList==(ByteArray.mk #[103,111,111,100]).toList)=true):=⟨bytN _ _ _ rfl,bytN _ _ _ rfl,bytN _ _ _ rfl,bytN _ _ _ rfl,bytN _ _ _ rfl,bytN _ _ _ rfl,bytN _ _ _ rfl,bytN _ _ _ rfl,bytN _ _ _ rfl,bytN _ _ _ rfl,bytN _ _ _ rfl,bytN _ _ _ rfl,bytN _ _ _ rfl,bytN _ _ _ rfl,bytN _ _ _ rfl,bytN _ _ _ rfl,bytN _ _ _ rfl,bytN _ _ _ rfl,bytN _ _ _ rfl,bytN _ _ _ rfl,bytN _ _ _ rfl,bytN _ _ _ rfl,bytN _ _ _ rfl,bytN _ _ _ rfl,bytN _ _ _ rfl,bytN _ _ _ rfl,bytN _ _ _ rfl,bytN _ _ _ rfl,bytN _ _ _ rfl,bytN _ _ _ rfl,bytN _ _ _ rfl,bytN _ _ _ rfl,bytN _ _ _ rfl,bytN _ _ _ rfl,bytN _ _ _ rfl,bytN _ _ _ rfl,bytN _ _ _ rfl,bytN _ _ _ rfl,bytN _ _ _ rfl,bytN _ _ _ rfl,bytN _ _ _ rfl,bytN _ _ _ rfl,bytN _ _ _ rfl,bytN _ _ _ rfl,bytN _ _ _ rfl,bytN _ _ _ rfl,bytN _ _ _ rfl,bytN _ _ _ rfl,bytN _ _ _ rfl,bytN _ _ _ rfl,bytN _ _ _ rfl,bytN _ _ _ rfl,bytN _ _ _ rfl,bytN _ _ _ rfl,bytN _ _ _ rfl,bytN _ _ _ rfl,bytN _ _ _ rfl,bytN _ _ _ rfl,bytN _ _ _ rfl,bytN _ _ _ rfl,bytN _ _ _ rfl,bytN _ _ _ rfl,bytN _ _ _ rfl,bytN _ _ _ rfl,bytN _ _ _ rfl,bytN _ _ _ rfl,bytN _ _ _ rfl,bytN _ _ _ rfl,bytN _ _ _ rfl,bytN _ _ _ rfl,bytN _ _ _ rfl,bytN _ _ _ rfl,bytN _ _ _ rfl,bytN _ _ _ rfl,bytN _ _ _ rfl,bytN _ _ _ rfl,bytN _ _ _ rfl,bytN _ _ _ rfl,bytN _ _ _ rfl,bytN _ _ _ rfl⟩
theorem nw1:IntKind.wrap .i64 ((0:Int)+1)=1∧IntKind.wrap .i64 ((1:Int)+1)=2∧IntKind.wrap .i64 ((2:Int)+1)=3∧IntKind.wrap .i64 ((3:Int)+1)=4∧IntKind.wrap .i64 ((4:Int)+1)=5:=⟨rfl,rfl,rfl,rfl,rfl⟩
theorem ln1 (α:Type) (a:α):(([a]:List α).length:Int)=1:=rfl
theorem ln2 (α:Type) (a b:α):(([a,b]:List α).length:Int)=2:=rfl
theorem ln3 (α:Type) (a b c:α):(([a,b,c]:List α).length:Int)=3:=rfl
theorem ln4 (α:Type) (a b c d:α):(([a,b,c,d]:List α).length:Int)=4:=rfl
theorem ln5 (α:Type) (a b c d e:α):(([a,b,c,d,e]:List α).length:Int)=5:=rfl
theorem tnn:Int.toNat 0=0∧Int.toNat 1=1∧Int.toNat 2=2∧Int.toNat 3=3∧Int.toNat 4=4:=⟨rfl,rfl,rfl,rfl,rfl⟩
theorem lts:((0:Int) < 1)=True∧((0:Int) < 2)=True∧((0:Int) < 3)=True∧((0:Int) < 4)=True∧((0:Int) < 5)=True∧((1:Int) < 2)=True∧((1:Int) < 3)=True∧((1:Int) < 4)=True∧((1:Int) < 5)=True∧((2:Int) < 3)=True∧((2:Int) < 4)=True∧((2:Int) < 5)=True∧((3:Int) < 4)=True∧((3:Int) < 5)=True∧((4:Int) < 5)=True∧((1:Int) < 1)=False∧((2:Int) < 2)=False∧((3:Int) < 3)=False∧((4:Int) < 4)=False∧((5:Int) < 5)=False:=by simp
theorem les:((0:Int)≤1)=True∧((0:Int)≤2)=True∧((0:Int)≤3)=True∧((0:Int)≤4)=True:=by simp
theorem lnn:((1:Nat):Int)=1∧((1+1:Nat):Int)=2∧((1+1+1:Nat):Int)=3∧((1+1+1+1:Nat):Int)=4∧((1+1+1+1+1:Nat):Int)=5:=⟨rfl,rfl,rfl,rfl,rfl⟩
def kindB (k:Int) (n:Nat):Bool:=match n with
 | 0=>decide (1≤k)&&decide (k≤4)
 | 1=>decide (2≤k)&&decide (k≤4)
 | 2=>(k==1) || (k==3)
 | 3=>decide (1≤k)&&decide (k≤3)
 | 4=>(k==5) || (k==6)
 | 5=>(decide (7≤k)&&decide (k≤9)) || (k==11)
 | 6=>decide (7≤k)&&decide (k≤11)
 | 7=>((k==7) || (k==8)) || ((k==10) || (k==11))
 | 8=>(k==11) || (k==12)
 | _=>k==12
theorem has1:F24 1=some [ByteArray.mk #[115,101,113],ByteArray.mk #[107],ByteArray.mk #[110,101,119,115]]:=by rw [F24_eq]; rfl
theorem has2:F24 2=some [ByteArray.mk #[115,101,113],ByteArray.mk #[119,104,111],ByteArray.mk #[110,101,119,115]]:=by rw [F24_eq]; rfl
theorem has3:F24 3=some [ByteArray.mk #[115,101,113],ByteArray.mk #[119,104,111],ByteArray.mk #[107],ByteArray.mk #[110,101,119,115]]:=by rw [F24_eq]; rfl
theorem has4:F24 4=some [ByteArray.mk #[115,101,113],ByteArray.mk #[119,104,111]]:=by rw [F24_eq]; rfl
theorem has5:F24 5=some [ByteArray.mk #[116,97,98,108,101]]:=by rw [F24_eq]; rfl
theorem has6:F24 6=some [ByteArray.mk #[116,97,98,108,101]]:=by rw [F24_eq]; rfl
theorem has7:F24 7=some [ByteArray.mk #[101,112,111,99,104],ByteArray.mk #[98,111,111,116],ByteArray.mk #[97,115,107,101,100]]:=by rw [F24_eq]; rfl
theorem has8:F24 8=some [ByteArray.mk #[101,112,111,99,104],ByteArray.mk #[98,111,111,116],ByteArray.mk #[97,115,107,101,100]]:=by rw [F24_eq]; rfl
theorem has9:F24 9=some [ByteArray.mk #[101,112,111,99,104],ByteArray.mk #[98,111,111,116]]:=by rw [F24_eq]; rfl
theorem has10:F24 10=some [ByteArray.mk #[98,111,111,116],ByteArray.mk #[97,115,107,101,100]]:=by rw [F24_eq]; rfl
theorem has11:F24 11=some [ByteArray.mk #[101,112,111,99,104],ByteArray.mk #[98,111,111,116],ByteArray.mk #[97,115,107,101,100],ByteArray.mk #[116,97,115,107],ByteArray.mk #[116,111,107,101,110]]:=by rw [F24_eq]; rfl
theorem has12:F24 12=some [ByteArray.mk #[116,97,115,107],ByteArray.mk #[116,111,107,101,110],ByteArray.mk #[103,111,111,100]]:=by rw [F24_eq]; rfl
theorem bare1 {fr to sq wh ki ks ep bo ak tn:Int} {nw:List NW} {tb:List KW} {tk:ByteArray} {gd:Bool}:F27 (1,fr,to,sq,wh,ki,ks,nw,tb,ep,bo,ak,tk,tn,gd)=some (1,fr,to,sq,0,ki,ks,nw,[],0,0,0,(⟨#[]⟩:ByteArray),0,false):=by
 rw [F27_eq]
 simp -implicitDefEqProofs only [has1,Option.bind_some]
 rw [loopX_eq]
 simp -implicitDefEqProofs only [lts,les,tnn,lnn,nq,nw1,ln1,ln2,ln3,ln4,ln5,List.getElem?_cons_zero,List.getElem?_cons_succ,eq_self,xs]
 rw [loopX_eq]
 simp -implicitDefEqProofs only [lts,les,tnn,lnn,nq,nw1,ln1,ln2,ln3,ln4,ln5,List.getElem?_cons_zero,List.getElem?_cons_succ,eq_self,xs]
 rw [loopX_eq]
 simp -implicitDefEqProofs only [lts,les,tnn,lnn,nq,nw1,ln1,ln2,ln3,ln4,ln5,List.getElem?_cons_zero,List.getElem?_cons_succ,eq_self,xs]
 rw [loopX_eq]
 simp -implicitDefEqProofs only [lts,les,tnn,lnn,nq,nw1,ln1,ln2,ln3,ln4,ln5,List.getElem?_cons_zero,List.getElem?_cons_succ,eq_self,xs]
theorem bare2 {fr to sq wh ki ks ep bo ak tn:Int} {nw:List NW} {tb:List KW} {tk:ByteArray} {gd:Bool}:F27 (2,fr,to,sq,wh,ki,ks,nw,tb,ep,bo,ak,tk,tn,gd)=some (2,fr,to,sq,wh,0,0,nw,[],0,0,0,(⟨#[]⟩:ByteArray),0,false):=by
 rw [F27_eq]
 simp -implicitDefEqProofs only [has2,Option.bind_some]
 rw [loopX_eq]
 simp -implicitDefEqProofs only [lts,les,tnn,lnn,nq,nw1,ln1,ln2,ln3,ln4,ln5,List.getElem?_cons_zero,List.getElem?_cons_succ,eq_self,xs]
 rw [loopX_eq]
 simp -implicitDefEqProofs only [lts,les,tnn,lnn,nq,nw1,ln1,ln2,ln3,ln4,ln5,List.getElem?_cons_zero,List.getElem?_cons_succ,eq_self,xs]
 rw [loopX_eq]
 simp -implicitDefEqProofs only [lts,les,tnn,lnn,nq,nw1,ln1,ln2,ln3,ln4,ln5,List.getElem?_cons_zero,List.getElem?_cons_succ,eq_self,xs]
 rw [loopX_eq]
 simp -implicitDefEqProofs only [lts,les,tnn,lnn,nq,nw1,ln1,ln2,ln3,ln4,ln5,List.getElem?_cons_zero,List.getElem?_cons_succ,eq_self,xs]
theorem bare3 {fr to sq wh ki ks ep bo ak tn:Int} {nw:List NW} {tb:List KW} {tk:ByteArray} {gd:Bool}:F27 (3,fr,to,sq,wh,ki,ks,nw,tb,ep,bo,ak,tk,tn,gd)=some (3,fr,to,sq,wh,ki,ks,nw,[],0,0,0,(⟨#[]⟩:ByteArray),0,false):=by
 rw [F27_eq]
 simp -implicitDefEqProofs only [has3,Option.bind_some]
 rw [loopX_eq]
 simp -implicitDefEqProofs only [lts,les,tnn,lnn,nq,nw1,ln1,ln2,ln3,ln4,ln5,List.getElem?_cons_zero,List.getElem?_cons_succ,eq_self,xs]
 rw [loopX_eq]
 simp -implicitDefEqProofs only [lts,les,tnn,lnn,nq,nw1,ln1,ln2,ln3,ln4,ln5,List.getElem?_cons_zero,List.getElem?_cons_succ,eq_self,xs]
 rw [loopX_eq]
 simp -implicitDefEqProofs only [lts,les,tnn,lnn,nq,nw1,ln1,ln2,ln3,ln4,ln5,List.getElem?_cons_zero,List.getElem?_cons_succ,eq_self,xs]
 rw [loopX_eq]
 simp -implicitDefEqProofs only [lts,les,tnn,lnn,nq,nw1,ln1,ln2,ln3,ln4,ln5,List.getElem?_cons_zero,List.getElem?_cons_succ,eq_self,xs]
 rw [loopX_eq]
 simp -implicitDefEqProofs only [lts,les,tnn,lnn,nq,nw1,ln1,ln2,ln3,ln4,ln5,List.getElem?_cons_zero,List.getElem?_cons_succ,eq_self,xs]
theorem bare4 {fr to sq wh ki ks ep bo ak tn:Int} {nw:List NW} {tb:List KW} {tk:ByteArray} {gd:Bool}:F27 (4,fr,to,sq,wh,ki,ks,nw,tb,ep,bo,ak,tk,tn,gd)=some (4,fr,to,sq,wh,0,0,[],[],0,0,0,(⟨#[]⟩:ByteArray),0,false):=by
 rw [F27_eq]
 simp -implicitDefEqProofs only [has4,Option.bind_some]
 rw [loopX_eq]
 simp -implicitDefEqProofs only [lts,les,tnn,lnn,nq,nw1,ln1,ln2,ln3,ln4,ln5,List.getElem?_cons_zero,List.getElem?_cons_succ,eq_self,xs]
 rw [loopX_eq]
 simp -implicitDefEqProofs only [lts,les,tnn,lnn,nq,nw1,ln1,ln2,ln3,ln4,ln5,List.getElem?_cons_zero,List.getElem?_cons_succ,eq_self,xs]
 rw [loopX_eq]
 simp -implicitDefEqProofs only [lts,les,tnn,lnn,nq,nw1,ln1,ln2,ln3,ln4,ln5,List.getElem?_cons_zero,List.getElem?_cons_succ,eq_self,xs]
theorem bare5 {fr to sq wh ki ks ep bo ak tn:Int} {nw:List NW} {tb:List KW} {tk:ByteArray} {gd:Bool}:F27 (5,fr,to,sq,wh,ki,ks,nw,tb,ep,bo,ak,tk,tn,gd)=some (5,fr,to,0,0,0,0,[],tb,0,0,0,(⟨#[]⟩:ByteArray),0,false):=by
 rw [F27_eq]
 simp -implicitDefEqProofs only [has5,Option.bind_some]
 rw [loopX_eq]
 simp -implicitDefEqProofs only [lts,les,tnn,lnn,nq,nw1,ln1,ln2,ln3,ln4,ln5,List.getElem?_cons_zero,List.getElem?_cons_succ,eq_self,xs]
 rw [loopX_eq]
 simp -implicitDefEqProofs only [lts,les,tnn,lnn,nq,nw1,ln1,ln2,ln3,ln4,ln5,List.getElem?_cons_zero,List.getElem?_cons_succ,eq_self,xs]
theorem bare6 {fr to sq wh ki ks ep bo ak tn:Int} {nw:List NW} {tb:List KW} {tk:ByteArray} {gd:Bool}:F27 (6,fr,to,sq,wh,ki,ks,nw,tb,ep,bo,ak,tk,tn,gd)=some (6,fr,to,0,0,0,0,[],tb,0,0,0,(⟨#[]⟩:ByteArray),0,false):=by
 rw [F27_eq]
 simp -implicitDefEqProofs only [has6,Option.bind_some]
 rw [loopX_eq]
 simp -implicitDefEqProofs only [lts,les,tnn,lnn,nq,nw1,ln1,ln2,ln3,ln4,ln5,List.getElem?_cons_zero,List.getElem?_cons_succ,eq_self,xs]
 rw [loopX_eq]
 simp -implicitDefEqProofs only [lts,les,tnn,lnn,nq,nw1,ln1,ln2,ln3,ln4,ln5,List.getElem?_cons_zero,List.getElem?_cons_succ,eq_self,xs]
theorem bare7 {fr to sq wh ki ks ep bo ak tn:Int} {nw:List NW} {tb:List KW} {tk:ByteArray} {gd:Bool}:F27 (7,fr,to,sq,wh,ki,ks,nw,tb,ep,bo,ak,tk,tn,gd)=some (7,fr,to,0,0,0,0,[],[],ep,bo,ak,(⟨#[]⟩:ByteArray),0,false):=by
 rw [F27_eq]
 simp -implicitDefEqProofs only [has7,Option.bind_some]
 rw [loopX_eq]
 simp -implicitDefEqProofs only [lts,les,tnn,lnn,nq,nw1,ln1,ln2,ln3,ln4,ln5,List.getElem?_cons_zero,List.getElem?_cons_succ,eq_self,xs]
 rw [loopX_eq]
 simp -implicitDefEqProofs only [lts,les,tnn,lnn,nq,nw1,ln1,ln2,ln3,ln4,ln5,List.getElem?_cons_zero,List.getElem?_cons_succ,eq_self,xs]
 rw [loopX_eq]
 simp -implicitDefEqProofs only [lts,les,tnn,lnn,nq,nw1,ln1,ln2,ln3,ln4,ln5,List.getElem?_cons_zero,List.getElem?_cons_succ,eq_self,xs]
 rw [loopX_eq]
 simp -implicitDefEqProofs only [lts,les,tnn,lnn,nq,nw1,ln1,ln2,ln3,ln4,ln5,List.getElem?_cons_zero,List.getElem?_cons_succ,eq_self,xs]
theorem bare8 {fr to sq wh ki ks ep bo ak tn:Int} {nw:List NW} {tb:List KW} {tk:ByteArray} {gd:Bool}:F27 (8,fr,to,sq,wh,ki,ks,nw,tb,ep,bo,ak,tk,tn,gd)=some (8,fr,to,0,0,0,0,[],[],ep,bo,ak,(⟨#[]⟩:ByteArray),0,false):=by
 rw [F27_eq]
 simp -implicitDefEqProofs only [has8,Option.bind_some]
 rw [loopX_eq]
 simp -implicitDefEqProofs only [lts,les,tnn,lnn,nq,nw1,ln1,ln2,ln3,ln4,ln5,List.getElem?_cons_zero,List.getElem?_cons_succ,eq_self,xs]
 rw [loopX_eq]
 simp -implicitDefEqProofs only [lts,les,tnn,lnn,nq,nw1,ln1,ln2,ln3,ln4,ln5,List.getElem?_cons_zero,List.getElem?_cons_succ,eq_self,xs]
 rw [loopX_eq]
 simp -implicitDefEqProofs only [lts,les,tnn,lnn,nq,nw1,ln1,ln2,ln3,ln4,ln5,List.getElem?_cons_zero,List.getElem?_cons_succ,eq_self,xs]
 rw [loopX_eq]
 simp -implicitDefEqProofs only [lts,les,tnn,lnn,nq,nw1,ln1,ln2,ln3,ln4,ln5,List.getElem?_cons_zero,List.getElem?_cons_succ,eq_self,xs]
theorem bare9 {fr to sq wh ki ks ep bo ak tn:Int} {nw:List NW} {tb:List KW} {tk:ByteArray} {gd:Bool}:F27 (9,fr,to,sq,wh,ki,ks,nw,tb,ep,bo,ak,tk,tn,gd)=some (9,fr,to,0,0,0,0,[],[],ep,bo,0,(⟨#[]⟩:ByteArray),0,false):=by
 rw [F27_eq]
 simp -implicitDefEqProofs only [has9,Option.bind_some]
 rw [loopX_eq]
 simp -implicitDefEqProofs only [lts,les,tnn,lnn,nq,nw1,ln1,ln2,ln3,ln4,ln5,List.getElem?_cons_zero,List.getElem?_cons_succ,eq_self,xs]
 rw [loopX_eq]
 simp -implicitDefEqProofs only [lts,les,tnn,lnn,nq,nw1,ln1,ln2,ln3,ln4,ln5,List.getElem?_cons_zero,List.getElem?_cons_succ,eq_self,xs]
 rw [loopX_eq]
 simp -implicitDefEqProofs only [lts,les,tnn,lnn,nq,nw1,ln1,ln2,ln3,ln4,ln5,List.getElem?_cons_zero,List.getElem?_cons_succ,eq_self,xs]
theorem bare10 {fr to sq wh ki ks ep bo ak tn:Int} {nw:List NW} {tb:List KW} {tk:ByteArray} {gd:Bool}:F27 (10,fr,to,sq,wh,ki,ks,nw,tb,ep,bo,ak,tk,tn,gd)=some (10,fr,to,0,0,0,0,[],[],0,bo,ak,(⟨#[]⟩:ByteArray),0,false):=by
 rw [F27_eq]
 simp -implicitDefEqProofs only [has10,Option.bind_some]
 rw [loopX_eq]
 simp -implicitDefEqProofs only [lts,les,tnn,lnn,nq,nw1,ln1,ln2,ln3,ln4,ln5,List.getElem?_cons_zero,List.getElem?_cons_succ,eq_self,xs]
 rw [loopX_eq]
 simp -implicitDefEqProofs only [lts,les,tnn,lnn,nq,nw1,ln1,ln2,ln3,ln4,ln5,List.getElem?_cons_zero,List.getElem?_cons_succ,eq_self,xs]
 rw [loopX_eq]
 simp -implicitDefEqProofs only [lts,les,tnn,lnn,nq,nw1,ln1,ln2,ln3,ln4,ln5,List.getElem?_cons_zero,List.getElem?_cons_succ,eq_self,xs]
theorem bare11 {fr to sq wh ki ks ep bo ak tn:Int} {nw:List NW} {tb:List KW} {tk:ByteArray} {gd:Bool}:F27 (11,fr,to,sq,wh,ki,ks,nw,tb,ep,bo,ak,tk,tn,gd)=some (11,fr,to,0,0,0,0,[],[],ep,bo,ak,tk,tn,false):=by
 rw [F27_eq]
 simp -implicitDefEqProofs only [has11,Option.bind_some]
 rw [loopX_eq]
 simp -implicitDefEqProofs only [lts,les,tnn,lnn,nq,nw1,ln1,ln2,ln3,ln4,ln5,List.getElem?_cons_zero,List.getElem?_cons_succ,eq_self,xs]
 rw [loopX_eq]
 simp -implicitDefEqProofs only [lts,les,tnn,lnn,nq,nw1,ln1,ln2,ln3,ln4,ln5,List.getElem?_cons_zero,List.getElem?_cons_succ,eq_self,xs]
 rw [loopX_eq]
 simp -implicitDefEqProofs only [lts,les,tnn,lnn,nq,nw1,ln1,ln2,ln3,ln4,ln5,List.getElem?_cons_zero,List.getElem?_cons_succ,eq_self,xs]
 rw [loopX_eq]
 simp -implicitDefEqProofs only [lts,les,tnn,lnn,nq,nw1,ln1,ln2,ln3,ln4,ln5,List.getElem?_cons_zero,List.getElem?_cons_succ,eq_self,xs]
 rw [loopX_eq]
 simp -implicitDefEqProofs only [lts,les,tnn,lnn,nq,nw1,ln1,ln2,ln3,ln4,ln5,List.getElem?_cons_zero,List.getElem?_cons_succ,eq_self,xs]
 rw [loopX_eq]
 simp -implicitDefEqProofs only [lts,les,tnn,lnn,nq,nw1,ln1,ln2,ln3,ln4,ln5,List.getElem?_cons_zero,List.getElem?_cons_succ,eq_self,xs]
theorem bare12 {fr to sq wh ki ks ep bo ak tn:Int} {nw:List NW} {tb:List KW} {tk:ByteArray} {gd:Bool}:F27 (12,fr,to,sq,wh,ki,ks,nw,tb,ep,bo,ak,tk,tn,gd)=some (12,fr,to,0,0,0,0,[],[],0,0,0,tk,tn,gd):=by
 rw [F27_eq]
 simp -implicitDefEqProofs only [has12,Option.bind_some]
 rw [loopX_eq]
 simp -implicitDefEqProofs only [lts,les,tnn,lnn,nq,nw1,ln1,ln2,ln3,ln4,ln5,List.getElem?_cons_zero,List.getElem?_cons_succ,eq_self,xs]
 rw [loopX_eq]
 simp -implicitDefEqProofs only [lts,les,tnn,lnn,nq,nw1,ln1,ln2,ln3,ln4,ln5,List.getElem?_cons_zero,List.getElem?_cons_succ,eq_self,xs]
 rw [loopX_eq]
 simp -implicitDefEqProofs only [lts,les,tnn,lnn,nq,nw1,ln1,ln2,ln3,ln4,ln5,List.getElem?_cons_zero,List.getElem?_cons_succ,eq_self,xs]
 rw [loopX_eq]
 simp -implicitDefEqProofs only [lts,les,tnn,lnn,nq,nw1,ln1,ln2,ln3,ln4,ln5,List.getElem?_cons_zero,List.getElem?_cons_succ,eq_self,xs]
theorem eqNW (a b:List NW) (ha:a.length≤1000):F32 (a,b)=some (decide (a=b)):=by
 rw [F32_eq]
 by_cases hl:a.length=b.length
 ·have e:(((a.length:Nat):Int) != ((b.length:Nat):Int))=false:=by rw [hl]; exact bne_self_eq_false _
  simp -implicitDefEqProofs only [e,eq_self,xs]
  refine loop_same a b hl rfl ?_ ?_
  ·simp -implicitDefEqProofs only [not_lt_self,eq_self,xs]
  ·intro i x y hi hx hy
   have q1:((i:Nat):Int) < ((a.length:Nat):Int):=by omega
   have q2:(0:Int)≤(i:Int):=by omega
   simp -implicitDefEqProofs only [q1,q2,hx,hy,w1 (show i≤9223372036854775806 by omega),eq_self,xs]
   obtain ⟨x1,x2,x3⟩:=x
   obtain ⟨y1,y2,y3⟩:=y
   by_cases h1:x1=y1
   ·by_cases h2:x2=y2
    ·by_cases h3:x3=y3
     ·subst h1 h2 h3
      rw [if_pos rfl]; simp
     ·have e3:(x3==y3)=false:=beq_eq_false_iff_ne.2 h3
      rw [if_neg (by simp [h3])]; simp [h1,h2,e3]
    ·have e2:(x2==y2)=false:=beq_eq_false_iff_ne.2 h2
     rw [if_neg (by simp [h2])]; simp [h1,e2]
   ·have e1:(x1==y1)=false:=beq_eq_false_iff_ne.2 h1
    rw [if_neg (by simp [h1])]; simp [e1]
 ·have e:(((a.length:Nat):Int) != ((b.length:Nat):Int))=true:=by rw [bne_iff_ne]; omega
  simp -implicitDefEqProofs only [e,eq_self,xs]
  rw [decide_eq_false (fun h=>hl (by rw [h]))]
theorem eqKW (a b:List KW) (ha:a.length≤1000):F33 (a,b)=some (decide (a=b)):=by
 rw [F33_eq]
 by_cases hl:a.length=b.length
 ·have e:(((a.length:Nat):Int) != ((b.length:Nat):Int))=false:=by rw [hl]; exact bne_self_eq_false _
  simp -implicitDefEqProofs only [e,eq_self,xs]
  refine loop_same a b hl rfl ?_ ?_
  ·simp -implicitDefEqProofs only [not_lt_self,eq_self,xs]
  ·intro i x y hi hx hy
   have q1:((i:Nat):Int) < ((a.length:Nat):Int):=by omega
   have q2:(0:Int)≤(i:Int):=by omega
   simp -implicitDefEqProofs only [q1,q2,hx,hy,w1 (show i≤9223372036854775806 by omega),eq_self,xs]
   obtain ⟨x1,x2⟩:=x
   obtain ⟨y1,y2⟩:=y
   by_cases h1:x1=y1
   ·by_cases h2:x2=y2
    ·subst h1 h2
     rw [if_pos rfl]; simp
    ·have e2:(x2==y2)=false:=beq_eq_false_iff_ne.2 h2
     rw [if_neg (by simp [h2])]; simp [h1,e2]
   ·have e1:(x1==y1)=false:=beq_eq_false_iff_ne.2 h1
    rw [if_neg (by simp [h1])]; simp [e1]
 ·have e:(((a.length:Nat):Int) != ((b.length:Nat):Int))=true:=by rw [bne_iff_ne]; omega
  simp -implicitDefEqProofs only [e,eq_self,xs]
  rw [decide_eq_false (fun h=>hl (by rw [h]))]
theorem reqNW (a b:List NW):F34 (a,b)=F32 (a,b):=(F34_eq (a,b)).trans (F32_eq (a,b)).symm
theorem reqKW (a b:List KW):F35 (a,b)=F33 (a,b):=(F35_eq (a,b)).trans (F33_eq (a,b)).symm
theorem rsame_eq (a b:MB):F14 (a,b)=F13 (a,b):=by
 have h1:=reqNW a.2.2.2.2.2.2.2.1 b.2.2.2.2.2.2.2.1
 have h2:=reqKW a.2.2.2.2.2.2.2.2.1 b.2.2.2.2.2.2.2.2.1
 rw [F14_eq,F13_eq]
 simp only [h1,h2]
theorem c1 (a b:Bool):cond a (some b) (some false)=some (a&&b):=by cases a<;>rfl
def sameB (m n:MB):Bool:=(m.1==n.1)&&((m.2.1==n.2.1)&&((m.2.2.1==n.2.2.1)&&((m.2.2.2.1==n.2.2.2.1)&&((m.2.2.2.2.1==n.2.2.2.2.1)&&((m.2.2.2.2.2.1==n.2.2.2.2.2.1)&&((m.2.2.2.2.2.2.1==n.2.2.2.2.2.2.1)&&(decide (m.2.2.2.2.2.2.2.1=n.2.2.2.2.2.2.2.1)&&(decide (m.2.2.2.2.2.2.2.2.1=n.2.2.2.2.2.2.2.2.1)&&((m.2.2.2.2.2.2.2.2.2.1==n.2.2.2.2.2.2.2.2.2.1)&&((m.2.2.2.2.2.2.2.2.2.2.1==n.2.2.2.2.2.2.2.2.2.2.1)&&((m.2.2.2.2.2.2.2.2.2.2.2.1==n.2.2.2.2.2.2.2.2.2.2.2.1)&&((m.2.2.2.2.2.2.2.2.2.2.2.2.1.toList==n.2.2.2.2.2.2.2.2.2.2.2.2.1.toList)&&((m.2.2.2.2.2.2.2.2.2.2.2.2.2.1==n.2.2.2.2.2.2.2.2.2.2.2.2.2.1)&&((m.2.2.2.2.2.2.2.2.2.2.2.2.2.2==n.2.2.2.2.2.2.2.2.2.2.2.2.2.2)))))))))))))))
theorem same_ok (m n:MB) (hw:m.2.2.2.2.2.2.2.1.length≤1000) (ht:m.2.2.2.2.2.2.2.2.1.length≤1000):F13 (m,n)=some (sameB m n):=by
 have h1:=eqNW m.2.2.2.2.2.2.2.1 n.2.2.2.2.2.2.2.1 hw
 have h2:=eqKW m.2.2.2.2.2.2.2.2.1 n.2.2.2.2.2.2.2.2.1 ht
 rw [F13_eq]
 simp only [h1,h2,Option.bind_some,c1,Bool.and_true]
 unfold sameB
 simp only [Bool.and_assoc]
def bareM (m:MB):MB:=(m.1,(m.2.1,(m.2.2.1,(if kindB m.1 0=true then m.2.2.2.1 else 0,(if kindB m.1 1=true then m.2.2.2.2.1 else 0,(if kindB m.1 2=true then m.2.2.2.2.2.1 else 0,(if kindB m.1 2=true then m.2.2.2.2.2.2.1 else 0,(if kindB m.1 3=true then m.2.2.2.2.2.2.2.1 else [],(if kindB m.1 4=true then m.2.2.2.2.2.2.2.2.1 else [],(if kindB m.1 5=true then m.2.2.2.2.2.2.2.2.2.1 else 0,(if kindB m.1 6=true then m.2.2.2.2.2.2.2.2.2.2.1 else 0,(if kindB m.1 7=true then m.2.2.2.2.2.2.2.2.2.2.2.1 else 0,(if kindB m.1 8=true then m.2.2.2.2.2.2.2.2.2.2.2.2.1 else (⟨#[]⟩:ByteArray),(if kindB m.1 8=true then m.2.2.2.2.2.2.2.2.2.2.2.2.2.1 else 0,if kindB m.1 9=true then m.2.2.2.2.2.2.2.2.2.2.2.2.2.2 else false))))))))))))))
def nodeB (n:Int):Bool:=decide (0≤n)&&decide (n≤63)
def knowB (s:Int):Bool:=decide (0≤s)&&decide (s≤3)
def tickB (n:Int):Bool:=decide (0≤n)&&decide (n≤1099511627776)
def tellB (x:NW):Bool:=nodeB x.1&&knowB x.2.2
def newsB (l:List NW):Bool:=decide (l.length≤8)&&l.all tellB
def tabB (l:List KW):Bool:=(decide (1≤l.length)&&decide (l.length≤64))&&l.all (fun x=>knowB x.2)
def partsB (m:MB):Bool:=(!kindB m.1 1 || nodeB m.2.2.2.2.1)&&((!kindB m.1 2 || knowB m.2.2.2.2.2.2.1)&&((!kindB m.1 3 || newsB m.2.2.2.2.2.2.2.1)&&((!kindB m.1 4 || tabB m.2.2.2.2.2.2.2.2.1)&&((!kindB m.1 7 || tickB m.2.2.2.2.2.2.2.2.2.2.2.1)&&(!kindB m.1 8 || nmB m.2.2.2.2.2.2.2.2.2.2.2.2.1)))))
def msgB (m:MB):Bool:=(decide (1≤m.1)&&decide (m.1≤12))&&((nodeB m.2.1&&nodeB m.2.2.1)&&(!(m.2.1==m.2.2.1)&&(sameB m (bareM m)&&partsB m)))
theorem node_ok (n:Int):F26 n=some (nodeB n):=by
 rw [F26_eq]
 unfold nodeB
 have e:decide (n < 64)=decide (n≤63):=by rw [Bool.eq_iff_iff,decide_eq_true_iff,decide_eq_true_iff]; omega
 rw [e]
 show cond (decide (0≤n)) _ _=_
 cases decide (0≤n)<;>rfl
theorem rnode_ok (n:Int):F28 n=some (nodeB n):=by
 rw [F28_eq]
 unfold nodeB
 cases decide (0≤n)<;>rfl
theorem rknow_ok (i s:Int):F30 (i,s)=some (knowB s):=by
 rw [F30_eq]
 unfold knowB
 cases decide (0≤s)<;>rfl
theorem know_ok (l:List KW) (hl:l.length≤1000):F59 l=some (if l.all (fun x=>knowB x.2)=true then 0 else 1):=by
 rw [F59_eq]
 refine loop_list l (fun x=>knowB x.2) (1:Int) 0 rfl ?_ ?_
 ·simp -implicitDefEqProofs only [not_lt_self,eq_self,xs]
 ·intro i x hi hx
  have q1:((i:Nat):Int) < ((l.length:Nat):Int):=by omega
  have q2:(0:Int)≤(i:Int):=by omega
  simp -implicitDefEqProofs only [q1,q2,hx,w1 (show i≤9223372036854775806 by omega),dlt x.2 0,dgt x.2 3,eq_self,xs]
  unfold knowB
  cases decide (0≤x.2)<;>cases decide (x.2≤3)<;>rfl
theorem know1_ok (i s:Int):F59 [(i,s)]=some (if knowB s=true then 0 else 1):=by
 rw [know_ok [(i,s)] (by simp)]
 simp
theorem tabl_ok (l:List KW) (hl:l.length≤1000):F68 l=some (if tabB l=true then 0 else 1):=by
 rw [F68_eq]
 have e1:decide (((l.length:Nat):Int) < 1)=!decide (1≤l.length):=by rw [Bool.eq_iff_iff,Bool.not_eq_true',decide_eq_true_iff,decide_eq_false_iff_not]; omega
 have e2:decide (((l.length:Nat):Int) > 64)=!decide (l.length≤64):=by rw [Bool.eq_iff_iff,Bool.not_eq_true',decide_eq_true_iff,decide_eq_false_iff_not]; omega
 simp -implicitDefEqProofs only [e1,e2,know_ok l hl,eq_self,xs]
 unfold tabB
 cases decide (1≤l.length)<;>cases decide (l.length≤64)<;>cases (l.all fun x=>knowB x.2)<;>rfl
theorem rtabl_ok (l:List KW) (hl:l.length≤1000):F31 l=some (tabB l):=by
 rw [F31_eq]
 rw [loop_list (s0:=(0:Int)) l (fun x=>knowB x.2) (Sum.inr false) (Sum.inl ()) rfl]
 ·have e1:decide ((1:Int)≤((l.length:Nat):Int))=decide (1≤l.length):=by rw [Bool.eq_iff_iff,decide_eq_true_iff,decide_eq_true_iff]; omega
  have e2:decide (((l.length:Nat):Int)≤64)=decide (l.length≤64):=by rw [Bool.eq_iff_iff,decide_eq_true_iff,decide_eq_true_iff]; omega
  rw [e1,e2]
  unfold tabB
  cases decide (1≤l.length)<;>cases decide (l.length≤64)<;>cases (l.all fun x=>knowB x.2)<;>rfl
 ·simp -implicitDefEqProofs only [not_lt_self,eq_self,xs]
 ·intro i x hi hx
  have q1:((i:Nat):Int) < ((l.length:Nat):Int):=by omega
  have q2:(0:Int)≤(i:Int):=by omega
  simp -implicitDefEqProofs only [q1,q2,hx,w1 (show i≤9223372036854775806 by omega),rknow_ok x.1 x.2,eq_self,xs]
  cases knowB x.2<;>rfl
theorem new1_ok (x:NW):F87 (x.1,x.2.1,x.2.2)=some (!tellB x):=by
 rw [F87_eq]
 simp -implicitDefEqProofs only [node_ok x.1,know1_ok x.2.1 x.2.2,neq1,eq_self,xs]
 unfold tellB
 cases nodeB x.1<;>rfl
theorem news_ok (m:MB) (hw:m.2.2.2.2.2.2.2.1.length≤1000):F64 m=some (newsB m.2.2.2.2.2.2.2.1):=by
 rw [F64_eq]
 generalize m.2.2.2.2.2.2.2.1=l at *
 have e2:decide (((l.length:Nat):Int)≤8)=decide (l.length≤8):=by rw [Bool.eq_iff_iff,decide_eq_true_iff,decide_eq_true_iff]; omega
 rw [e2]
 unfold newsB
 cases decide (l.length≤8)
 ·rfl
 simp -implicitDefEqProofs only [eq_self,xs]
 rw [loop_first (s0:=(0:Int)) l (fun k=>!tellB k) (fun i=>(i:Int)) (-1:Int) rfl]
 rotate_left
 ·simp -implicitDefEqProofs only [not_lt_self,eq_self,xs]
 ·intro i x hi hx
  have q1:((i:Nat):Int) < ((l.length:Nat):Int):=by omega
  have q2:(0:Int)≤(i:Int):=by omega
  simp -implicitDefEqProofs only [q1,q2,hx,new1_ok x,w1 (show i≤9223372036854775806 by omega),eq_self,xs]
  cases tellB x<;>rfl
 cases hg:l.all tellB
 ·have ha:l.any (fun k=>!tellB k)=true:=by
   rw [List.any_eq_true]
   rw [List.all_eq_false] at hg
   obtain ⟨x,hx,hq⟩:=hg
   exact ⟨x,hx,by simpa using hq⟩
  have q:(((l.findIdx (fun k=>!tellB k):Nat):Int) ≥ 0):=by omega
  simp -implicitDefEqProofs only [ha,q,eq_self,xs]
 ·have ha:l.any (fun k=>!tellB k)=false:=by
   rw [List.any_eq_false]
   rw [List.all_eq_true] at hg
   intro x hx; rw [hg x hx]; decide
  have qm:¬ ((-1:Int) ≥ 0):=by omega
  simp -implicitDefEqProofs only [ha,qm,eq_self,xs]
theorem check1 {fr to sq wh ki ks ep bo ak tn:Int} {nw:List NW} {tb:List KW} {tk:ByteArray} {gd:Bool} (hw:nw.length≤1000) (ht:tb.length≤1000) (hk:tk.size≤maxLen):F11 (1,fr,to,sq,wh,ki,ks,nw,tb,ep,bo,ak,tk,tn,gd)=some (if msgB (1,fr,to,sq,wh,ki,ks,nw,tb,ep,bo,ak,tk,tn,gd)=true then 0 else 1):=by
 rw [F11_eq]
 have hb:=bare1 (fr:=fr) (to:=to) (sq:=sq) (wh:=wh) (ki:=ki) (ks:=ks) (nw:=nw) (tb:=tb) (ep:=ep) (bo:=bo) (ak:=ak) (tk:=tk) (tn:=tn) (gd:=gd)
 have hbm:bareM (1,fr,to,sq,wh,ki,ks,nw,tb,ep,bo,ak,tk,tn,gd)=(1,fr,to,sq,0,ki,ks,nw,[],0,0,0,(⟨#[]⟩:ByteArray),0,false):=rfl
 have hs:=same_ok (1,fr,to,sq,wh,ki,ks,nw,tb,ep,bo,ak,tk,tn,gd) (bareM (1,fr,to,sq,wh,ki,ks,nw,tb,ep,bo,ak,tk,tn,gd)) hw ht
 rw [hbm] at hs
 have k1:¬ ((1:Int) < 1):=by decide
 have k2:¬ ((1:Int) > 12):=by decide
 simp -implicitDefEqProofs only [node_ok fr,node_ok to,hb,hs,k1,k2,eq_self,xs]
 unfold msgB
 rw [hbm]
 have kk1:decide ((1:Int)≤1)=true:=rfl
 have kk2:decide ((1:Int)≤12)=true:=rfl
 simp -implicitDefEqProofs only [kk1,kk2,eq_self,xs]
 cases nodeB fr
 ·simp -implicitDefEqProofs only [eq_self,xs]
 cases nodeB to
 ·simp -implicitDefEqProofs only [eq_self,xs]
 cases (fr==to)
 rotate_left
 ·simp -implicitDefEqProofs only [eq_self,xs]
 simp -implicitDefEqProofs only [eq_self,xs]
 generalize sameB _ _=sb
 cases sb
 ·simp -implicitDefEqProofs only [eq_self,xs]
 simp -implicitDefEqProofs only [has1,eq_self,xs]
 have pa_seq:=F47_eq (1,fr,to,sq,wh,ki,ks,nw,tb,ep,bo,ak,tk,tn,gd)
 have pa_k:F58 (1,fr,to,sq,wh,ki,ks,nw,tb,ep,bo,ak,tk,tn,gd)=some (knowB ks):=by rw [F58_eq]; simp -implicitDefEqProofs only [know1_ok ki ks,eqq,eq_self,xs]
 have pa_news:F64 (1,fr,to,sq,wh,ki,ks,nw,tb,ep,bo,ak,tk,tn,gd)=some (newsB nw):=news_ok (1,fr,to,sq,wh,ki,ks,nw,tb,ep,bo,ak,tk,tn,gd) hw
 have hp:partsB (1,fr,to,sq,wh,ki,ks,nw,tb,ep,bo,ak,tk,tn,gd)=((!kindB 1 1 || nodeB wh)&&((!kindB 1 2 || knowB ks)&&((!kindB 1 3 || newsB nw)&&((!kindB 1 4 || tabB tb)&&((!kindB 1 7 || tickB ak)&&((!kindB 1 8 || nmB tk))))))):=rfl
 rw [hp]
 have kb1:kindB 1 1=false:=rfl
 have kb2:kindB 1 2=true:=rfl
 have kb3:kindB 1 3=true:=rfl
 have kb4:kindB 1 4=false:=rfl
 have kb7:kindB 1 7=false:=rfl
 have kb8:kindB 1 8=false:=rfl
 rw [loopX_eq]
 simp -implicitDefEqProofs only [lts,les,tnn,lnn,nq,nw1,ln1,ln2,ln3,ln4,ln5,List.getElem?_cons_zero,List.getElem?_cons_succ,pa_seq,pa_k,pa_news,kb1,kb2,kb3,kb4,kb7,kb8,eq_self,xs]
 rw [loopX_eq]
 simp -implicitDefEqProofs only [lts,les,tnn,lnn,nq,nw1,ln1,ln2,ln3,ln4,ln5,List.getElem?_cons_zero,List.getElem?_cons_succ,pa_seq,pa_k,pa_news,kb1,kb2,kb3,kb4,kb7,kb8,eq_self,xs]
 cases knowB ks
 ·simp -implicitDefEqProofs only [eq_self,xs]
 simp -implicitDefEqProofs only [eq_self,xs]
 rw [loopX_eq]
 simp -implicitDefEqProofs only [lts,les,tnn,lnn,nq,nw1,ln1,ln2,ln3,ln4,ln5,List.getElem?_cons_zero,List.getElem?_cons_succ,pa_seq,pa_k,pa_news,kb1,kb2,kb3,kb4,kb7,kb8,eq_self,xs]
 cases newsB nw
 ·simp -implicitDefEqProofs only [eq_self,xs]
 simp -implicitDefEqProofs only [eq_self,xs]
 rw [loopX_eq]
 simp -implicitDefEqProofs only [lts,les,tnn,lnn,nq,nw1,ln1,ln2,ln3,ln4,ln5,List.getElem?_cons_zero,List.getElem?_cons_succ,pa_seq,pa_k,pa_news,kb1,kb2,kb3,kb4,kb7,kb8,eq_self,xs]
theorem check2 {fr to sq wh ki ks ep bo ak tn:Int} {nw:List NW} {tb:List KW} {tk:ByteArray} {gd:Bool} (hw:nw.length≤1000) (ht:tb.length≤1000) (hk:tk.size≤maxLen):F11 (2,fr,to,sq,wh,ki,ks,nw,tb,ep,bo,ak,tk,tn,gd)=some (if msgB (2,fr,to,sq,wh,ki,ks,nw,tb,ep,bo,ak,tk,tn,gd)=true then 0 else 1):=by
 rw [F11_eq]
 have hb:=bare2 (fr:=fr) (to:=to) (sq:=sq) (wh:=wh) (ki:=ki) (ks:=ks) (nw:=nw) (tb:=tb) (ep:=ep) (bo:=bo) (ak:=ak) (tk:=tk) (tn:=tn) (gd:=gd)
 have hbm:bareM (2,fr,to,sq,wh,ki,ks,nw,tb,ep,bo,ak,tk,tn,gd)=(2,fr,to,sq,wh,0,0,nw,[],0,0,0,(⟨#[]⟩:ByteArray),0,false):=rfl
 have hs:=same_ok (2,fr,to,sq,wh,ki,ks,nw,tb,ep,bo,ak,tk,tn,gd) (bareM (2,fr,to,sq,wh,ki,ks,nw,tb,ep,bo,ak,tk,tn,gd)) hw ht
 rw [hbm] at hs
 have k1:¬ ((2:Int) < 1):=by decide
 have k2:¬ ((2:Int) > 12):=by decide
 simp -implicitDefEqProofs only [node_ok fr,node_ok to,hb,hs,k1,k2,eq_self,xs]
 unfold msgB
 rw [hbm]
 have kk1:decide ((1:Int)≤2)=true:=rfl
 have kk2:decide ((2:Int)≤12)=true:=rfl
 simp -implicitDefEqProofs only [kk1,kk2,eq_self,xs]
 cases nodeB fr
 ·simp -implicitDefEqProofs only [eq_self,xs]
 cases nodeB to
 ·simp -implicitDefEqProofs only [eq_self,xs]
 cases (fr==to)
 rotate_left
 ·simp -implicitDefEqProofs only [eq_self,xs]
 simp -implicitDefEqProofs only [eq_self,xs]
 generalize sameB _ _=sb
 cases sb
 ·simp -implicitDefEqProofs only [eq_self,xs]
 simp -implicitDefEqProofs only [has2,eq_self,xs]
 have pa_seq:=F47_eq (2,fr,to,sq,wh,ki,ks,nw,tb,ep,bo,ak,tk,tn,gd)
 have pa_who:F55 (2,fr,to,sq,wh,ki,ks,nw,tb,ep,bo,ak,tk,tn,gd)=some (nodeB wh):=by rw [F55_eq]; simp -implicitDefEqProofs only [node_ok wh,eq_self,xs]
 have pa_news:F64 (2,fr,to,sq,wh,ki,ks,nw,tb,ep,bo,ak,tk,tn,gd)=some (newsB nw):=news_ok (2,fr,to,sq,wh,ki,ks,nw,tb,ep,bo,ak,tk,tn,gd) hw
 have hp:partsB (2,fr,to,sq,wh,ki,ks,nw,tb,ep,bo,ak,tk,tn,gd)=((!kindB 2 1 || nodeB wh)&&((!kindB 2 2 || knowB ks)&&((!kindB 2 3 || newsB nw)&&((!kindB 2 4 || tabB tb)&&((!kindB 2 7 || tickB ak)&&((!kindB 2 8 || nmB tk))))))):=rfl
 rw [hp]
 have kb1:kindB 2 1=true:=rfl
 have kb2:kindB 2 2=false:=rfl
 have kb3:kindB 2 3=true:=rfl
 have kb4:kindB 2 4=false:=rfl
 have kb7:kindB 2 7=false:=rfl
 have kb8:kindB 2 8=false:=rfl
 rw [loopX_eq]
 simp -implicitDefEqProofs only [lts,les,tnn,lnn,nq,nw1,ln1,ln2,ln3,ln4,ln5,List.getElem?_cons_zero,List.getElem?_cons_succ,pa_seq,pa_who,pa_news,kb1,kb2,kb3,kb4,kb7,kb8,eq_self,xs]
 rw [loopX_eq]
 simp -implicitDefEqProofs only [lts,les,tnn,lnn,nq,nw1,ln1,ln2,ln3,ln4,ln5,List.getElem?_cons_zero,List.getElem?_cons_succ,pa_seq,pa_who,pa_news,kb1,kb2,kb3,kb4,kb7,kb8,eq_self,xs]
 cases nodeB wh
 ·simp -implicitDefEqProofs only [eq_self,xs]
 simp -implicitDefEqProofs only [eq_self,xs]
 rw [loopX_eq]
 simp -implicitDefEqProofs only [lts,les,tnn,lnn,nq,nw1,ln1,ln2,ln3,ln4,ln5,List.getElem?_cons_zero,List.getElem?_cons_succ,pa_seq,pa_who,pa_news,kb1,kb2,kb3,kb4,kb7,kb8,eq_self,xs]
 cases newsB nw
 ·simp -implicitDefEqProofs only [eq_self,xs]
 simp -implicitDefEqProofs only [eq_self,xs]
 rw [loopX_eq]
 simp -implicitDefEqProofs only [lts,les,tnn,lnn,nq,nw1,ln1,ln2,ln3,ln4,ln5,List.getElem?_cons_zero,List.getElem?_cons_succ,pa_seq,pa_who,pa_news,kb1,kb2,kb3,kb4,kb7,kb8,eq_self,xs]
theorem check3 {fr to sq wh ki ks ep bo ak tn:Int} {nw:List NW} {tb:List KW} {tk:ByteArray} {gd:Bool} (hw:nw.length≤1000) (ht:tb.length≤1000) (hk:tk.size≤maxLen):F11 (3,fr,to,sq,wh,ki,ks,nw,tb,ep,bo,ak,tk,tn,gd)=some (if msgB (3,fr,to,sq,wh,ki,ks,nw,tb,ep,bo,ak,tk,tn,gd)=true then 0 else 1):=by
 rw [F11_eq]
 have hb:=bare3 (fr:=fr) (to:=to) (sq:=sq) (wh:=wh) (ki:=ki) (ks:=ks) (nw:=nw) (tb:=tb) (ep:=ep) (bo:=bo) (ak:=ak) (tk:=tk) (tn:=tn) (gd:=gd)
 have hbm:bareM (3,fr,to,sq,wh,ki,ks,nw,tb,ep,bo,ak,tk,tn,gd)=(3,fr,to,sq,wh,ki,ks,nw,[],0,0,0,(⟨#[]⟩:ByteArray),0,false):=rfl
 have hs:=same_ok (3,fr,to,sq,wh,ki,ks,nw,tb,ep,bo,ak,tk,tn,gd) (bareM (3,fr,to,sq,wh,ki,ks,nw,tb,ep,bo,ak,tk,tn,gd)) hw ht
 rw [hbm] at hs
 have k1:¬ ((3:Int) < 1):=by decide
 have k2:¬ ((3:Int) > 12):=by decide
 simp -implicitDefEqProofs only [node_ok fr,node_ok to,hb,hs,k1,k2,eq_self,xs]
 unfold msgB
 rw [hbm]
 have kk1:decide ((1:Int)≤3)=true:=rfl
 have kk2:decide ((3:Int)≤12)=true:=rfl
 simp -implicitDefEqProofs only [kk1,kk2,eq_self,xs]
 cases nodeB fr
 ·simp -implicitDefEqProofs only [eq_self,xs]
 cases nodeB to
 ·simp -implicitDefEqProofs only [eq_self,xs]
 cases (fr==to)
 rotate_left
 ·simp -implicitDefEqProofs only [eq_self,xs]
 simp -implicitDefEqProofs only [eq_self,xs]
 generalize sameB _ _=sb
 cases sb
 ·simp -implicitDefEqProofs only [eq_self,xs]
 simp -implicitDefEqProofs only [has3,eq_self,xs]
 have pa_seq:=F47_eq (3,fr,to,sq,wh,ki,ks,nw,tb,ep,bo,ak,tk,tn,gd)
 have pa_who:F55 (3,fr,to,sq,wh,ki,ks,nw,tb,ep,bo,ak,tk,tn,gd)=some (nodeB wh):=by rw [F55_eq]; simp -implicitDefEqProofs only [node_ok wh,eq_self,xs]
 have pa_k:F58 (3,fr,to,sq,wh,ki,ks,nw,tb,ep,bo,ak,tk,tn,gd)=some (knowB ks):=by rw [F58_eq]; simp -implicitDefEqProofs only [know1_ok ki ks,eqq,eq_self,xs]
 have pa_news:F64 (3,fr,to,sq,wh,ki,ks,nw,tb,ep,bo,ak,tk,tn,gd)=some (newsB nw):=news_ok (3,fr,to,sq,wh,ki,ks,nw,tb,ep,bo,ak,tk,tn,gd) hw
 have hp:partsB (3,fr,to,sq,wh,ki,ks,nw,tb,ep,bo,ak,tk,tn,gd)=((!kindB 3 1 || nodeB wh)&&((!kindB 3 2 || knowB ks)&&((!kindB 3 3 || newsB nw)&&((!kindB 3 4 || tabB tb)&&((!kindB 3 7 || tickB ak)&&((!kindB 3 8 || nmB tk))))))):=rfl
 rw [hp]
 have kb1:kindB 3 1=true:=rfl
 have kb2:kindB 3 2=true:=rfl
 have kb3:kindB 3 3=true:=rfl
 have kb4:kindB 3 4=false:=rfl
 have kb7:kindB 3 7=false:=rfl
 have kb8:kindB 3 8=false:=rfl
 rw [loopX_eq]
 simp -implicitDefEqProofs only [lts,les,tnn,lnn,nq,nw1,ln1,ln2,ln3,ln4,ln5,List.getElem?_cons_zero,List.getElem?_cons_succ,pa_seq,pa_who,pa_k,pa_news,kb1,kb2,kb3,kb4,kb7,kb8,eq_self,xs]
 rw [loopX_eq]
 simp -implicitDefEqProofs only [lts,les,tnn,lnn,nq,nw1,ln1,ln2,ln3,ln4,ln5,List.getElem?_cons_zero,List.getElem?_cons_succ,pa_seq,pa_who,pa_k,pa_news,kb1,kb2,kb3,kb4,kb7,kb8,eq_self,xs]
 cases nodeB wh
 ·simp -implicitDefEqProofs only [eq_self,xs]
 simp -implicitDefEqProofs only [eq_self,xs]
 rw [loopX_eq]
 simp -implicitDefEqProofs only [lts,les,tnn,lnn,nq,nw1,ln1,ln2,ln3,ln4,ln5,List.getElem?_cons_zero,List.getElem?_cons_succ,pa_seq,pa_who,pa_k,pa_news,kb1,kb2,kb3,kb4,kb7,kb8,eq_self,xs]
 cases knowB ks
 ·simp -implicitDefEqProofs only [eq_self,xs]
 simp -implicitDefEqProofs only [eq_self,xs]
 rw [loopX_eq]
 simp -implicitDefEqProofs only [lts,les,tnn,lnn,nq,nw1,ln1,ln2,ln3,ln4,ln5,List.getElem?_cons_zero,List.getElem?_cons_succ,pa_seq,pa_who,pa_k,pa_news,kb1,kb2,kb3,kb4,kb7,kb8,eq_self,xs]
 cases newsB nw
 ·simp -implicitDefEqProofs only [eq_self,xs]
 simp -implicitDefEqProofs only [eq_self,xs]
 rw [loopX_eq]
 simp -implicitDefEqProofs only [lts,les,tnn,lnn,nq,nw1,ln1,ln2,ln3,ln4,ln5,List.getElem?_cons_zero,List.getElem?_cons_succ,pa_seq,pa_who,pa_k,pa_news,kb1,kb2,kb3,kb4,kb7,kb8,eq_self,xs]
theorem check4 {fr to sq wh ki ks ep bo ak tn:Int} {nw:List NW} {tb:List KW} {tk:ByteArray} {gd:Bool} (hw:nw.length≤1000) (ht:tb.length≤1000) (hk:tk.size≤maxLen):F11 (4,fr,to,sq,wh,ki,ks,nw,tb,ep,bo,ak,tk,tn,gd)=some (if msgB (4,fr,to,sq,wh,ki,ks,nw,tb,ep,bo,ak,tk,tn,gd)=true then 0 else 1):=by
 rw [F11_eq]
 have hb:=bare4 (fr:=fr) (to:=to) (sq:=sq) (wh:=wh) (ki:=ki) (ks:=ks) (nw:=nw) (tb:=tb) (ep:=ep) (bo:=bo) (ak:=ak) (tk:=tk) (tn:=tn) (gd:=gd)
 have hbm:bareM (4,fr,to,sq,wh,ki,ks,nw,tb,ep,bo,ak,tk,tn,gd)=(4,fr,to,sq,wh,0,0,[],[],0,0,0,(⟨#[]⟩:ByteArray),0,false):=rfl
 have hs:=same_ok (4,fr,to,sq,wh,ki,ks,nw,tb,ep,bo,ak,tk,tn,gd) (bareM (4,fr,to,sq,wh,ki,ks,nw,tb,ep,bo,ak,tk,tn,gd)) hw ht
 rw [hbm] at hs
 have k1:¬ ((4:Int) < 1):=by decide
 have k2:¬ ((4:Int) > 12):=by decide
 simp -implicitDefEqProofs only [node_ok fr,node_ok to,hb,hs,k1,k2,eq_self,xs]
 unfold msgB
 rw [hbm]
 have kk1:decide ((1:Int)≤4)=true:=rfl
 have kk2:decide ((4:Int)≤12)=true:=rfl
 simp -implicitDefEqProofs only [kk1,kk2,eq_self,xs]
 cases nodeB fr
 ·simp -implicitDefEqProofs only [eq_self,xs]
 cases nodeB to
 ·simp -implicitDefEqProofs only [eq_self,xs]
 cases (fr==to)
 rotate_left
 ·simp -implicitDefEqProofs only [eq_self,xs]
 simp -implicitDefEqProofs only [eq_self,xs]
 generalize sameB _ _=sb
 cases sb
 ·simp -implicitDefEqProofs only [eq_self,xs]
 simp -implicitDefEqProofs only [has4,eq_self,xs]
 have pa_seq:=F47_eq (4,fr,to,sq,wh,ki,ks,nw,tb,ep,bo,ak,tk,tn,gd)
 have pa_who:F55 (4,fr,to,sq,wh,ki,ks,nw,tb,ep,bo,ak,tk,tn,gd)=some (nodeB wh):=by rw [F55_eq]; simp -implicitDefEqProofs only [node_ok wh,eq_self,xs]
 have hp:partsB (4,fr,to,sq,wh,ki,ks,nw,tb,ep,bo,ak,tk,tn,gd)=((!kindB 4 1 || nodeB wh)&&((!kindB 4 2 || knowB ks)&&((!kindB 4 3 || newsB nw)&&((!kindB 4 4 || tabB tb)&&((!kindB 4 7 || tickB ak)&&((!kindB 4 8 || nmB tk))))))):=rfl
 rw [hp]
 have kb1:kindB 4 1=true:=rfl
 have kb2:kindB 4 2=false:=rfl
 have kb3:kindB 4 3=false:=rfl
 have kb4:kindB 4 4=false:=rfl
 have kb7:kindB 4 7=false:=rfl
 have kb8:kindB 4 8=false:=rfl
 rw [loopX_eq]
 simp -implicitDefEqProofs only [lts,les,tnn,lnn,nq,nw1,ln1,ln2,ln3,ln4,ln5,List.getElem?_cons_zero,List.getElem?_cons_succ,pa_seq,pa_who,kb1,kb2,kb3,kb4,kb7,kb8,eq_self,xs]
 rw [loopX_eq]
 simp -implicitDefEqProofs only [lts,les,tnn,lnn,nq,nw1,ln1,ln2,ln3,ln4,ln5,List.getElem?_cons_zero,List.getElem?_cons_succ,pa_seq,pa_who,kb1,kb2,kb3,kb4,kb7,kb8,eq_self,xs]
 cases nodeB wh
 ·simp -implicitDefEqProofs only [eq_self,xs]
 simp -implicitDefEqProofs only [eq_self,xs]
 rw [loopX_eq]
 simp -implicitDefEqProofs only [lts,les,tnn,lnn,nq,nw1,ln1,ln2,ln3,ln4,ln5,List.getElem?_cons_zero,List.getElem?_cons_succ,pa_seq,pa_who,kb1,kb2,kb3,kb4,kb7,kb8,eq_self,xs]
theorem check5 {fr to sq wh ki ks ep bo ak tn:Int} {nw:List NW} {tb:List KW} {tk:ByteArray} {gd:Bool} (hw:nw.length≤1000) (ht:tb.length≤1000) (hk:tk.size≤maxLen):F11 (5,fr,to,sq,wh,ki,ks,nw,tb,ep,bo,ak,tk,tn,gd)=some (if msgB (5,fr,to,sq,wh,ki,ks,nw,tb,ep,bo,ak,tk,tn,gd)=true then 0 else 1):=by
 rw [F11_eq]
 have hb:=bare5 (fr:=fr) (to:=to) (sq:=sq) (wh:=wh) (ki:=ki) (ks:=ks) (nw:=nw) (tb:=tb) (ep:=ep) (bo:=bo) (ak:=ak) (tk:=tk) (tn:=tn) (gd:=gd)
 have hbm:bareM (5,fr,to,sq,wh,ki,ks,nw,tb,ep,bo,ak,tk,tn,gd)=(5,fr,to,0,0,0,0,[],tb,0,0,0,(⟨#[]⟩:ByteArray),0,false):=rfl
 have hs:=same_ok (5,fr,to,sq,wh,ki,ks,nw,tb,ep,bo,ak,tk,tn,gd) (bareM (5,fr,to,sq,wh,ki,ks,nw,tb,ep,bo,ak,tk,tn,gd)) hw ht
 rw [hbm] at hs
 have k1:¬ ((5:Int) < 1):=by decide
 have k2:¬ ((5:Int) > 12):=by decide
 simp -implicitDefEqProofs only [node_ok fr,node_ok to,hb,hs,k1,k2,eq_self,xs]
 unfold msgB
 rw [hbm]
 have kk1:decide ((1:Int)≤5)=true:=rfl
 have kk2:decide ((5:Int)≤12)=true:=rfl
 simp -implicitDefEqProofs only [kk1,kk2,eq_self,xs]
 cases nodeB fr
 ·simp -implicitDefEqProofs only [eq_self,xs]
 cases nodeB to
 ·simp -implicitDefEqProofs only [eq_self,xs]
 cases (fr==to)
 rotate_left
 ·simp -implicitDefEqProofs only [eq_self,xs]
 simp -implicitDefEqProofs only [eq_self,xs]
 generalize sameB _ _=sb
 cases sb
 ·simp -implicitDefEqProofs only [eq_self,xs]
 simp -implicitDefEqProofs only [has5,eq_self,xs]
 have pa_table:F67 (5,fr,to,sq,wh,ki,ks,nw,tb,ep,bo,ak,tk,tn,gd)=some (tabB tb):=by rw [F67_eq]; simp -implicitDefEqProofs only [tabl_ok tb ht,eqq,eq_self,xs]
 have hp:partsB (5,fr,to,sq,wh,ki,ks,nw,tb,ep,bo,ak,tk,tn,gd)=((!kindB 5 1 || nodeB wh)&&((!kindB 5 2 || knowB ks)&&((!kindB 5 3 || newsB nw)&&((!kindB 5 4 || tabB tb)&&((!kindB 5 7 || tickB ak)&&((!kindB 5 8 || nmB tk))))))):=rfl
 rw [hp]
 have kb1:kindB 5 1=false:=rfl
 have kb2:kindB 5 2=false:=rfl
 have kb3:kindB 5 3=false:=rfl
 have kb4:kindB 5 4=true:=rfl
 have kb7:kindB 5 7=false:=rfl
 have kb8:kindB 5 8=false:=rfl
 rw [loopX_eq]
 simp -implicitDefEqProofs only [lts,les,tnn,lnn,nq,nw1,ln1,ln2,ln3,ln4,ln5,List.getElem?_cons_zero,List.getElem?_cons_succ,pa_table,kb1,kb2,kb3,kb4,kb7,kb8,eq_self,xs]
 cases tabB tb
 ·simp -implicitDefEqProofs only [eq_self,xs]
 simp -implicitDefEqProofs only [eq_self,xs]
 rw [loopX_eq]
 simp -implicitDefEqProofs only [lts,les,tnn,lnn,nq,nw1,ln1,ln2,ln3,ln4,ln5,List.getElem?_cons_zero,List.getElem?_cons_succ,pa_table,kb1,kb2,kb3,kb4,kb7,kb8,eq_self,xs]
theorem check6 {fr to sq wh ki ks ep bo ak tn:Int} {nw:List NW} {tb:List KW} {tk:ByteArray} {gd:Bool} (hw:nw.length≤1000) (ht:tb.length≤1000) (hk:tk.size≤maxLen):F11 (6,fr,to,sq,wh,ki,ks,nw,tb,ep,bo,ak,tk,tn,gd)=some (if msgB (6,fr,to,sq,wh,ki,ks,nw,tb,ep,bo,ak,tk,tn,gd)=true then 0 else 1):=by
 rw [F11_eq]
 have hb:=bare6 (fr:=fr) (to:=to) (sq:=sq) (wh:=wh) (ki:=ki) (ks:=ks) (nw:=nw) (tb:=tb) (ep:=ep) (bo:=bo) (ak:=ak) (tk:=tk) (tn:=tn) (gd:=gd)
 have hbm:bareM (6,fr,to,sq,wh,ki,ks,nw,tb,ep,bo,ak,tk,tn,gd)=(6,fr,to,0,0,0,0,[],tb,0,0,0,(⟨#[]⟩:ByteArray),0,false):=rfl
 have hs:=same_ok (6,fr,to,sq,wh,ki,ks,nw,tb,ep,bo,ak,tk,tn,gd) (bareM (6,fr,to,sq,wh,ki,ks,nw,tb,ep,bo,ak,tk,tn,gd)) hw ht
 rw [hbm] at hs
 have k1:¬ ((6:Int) < 1):=by decide
 have k2:¬ ((6:Int) > 12):=by decide
 simp -implicitDefEqProofs only [node_ok fr,node_ok to,hb,hs,k1,k2,eq_self,xs]
 unfold msgB
 rw [hbm]
 have kk1:decide ((1:Int)≤6)=true:=rfl
 have kk2:decide ((6:Int)≤12)=true:=rfl
 simp -implicitDefEqProofs only [kk1,kk2,eq_self,xs]
 cases nodeB fr
 ·simp -implicitDefEqProofs only [eq_self,xs]
 cases nodeB to
 ·simp -implicitDefEqProofs only [eq_self,xs]
 cases (fr==to)
 rotate_left
 ·simp -implicitDefEqProofs only [eq_self,xs]
 simp -implicitDefEqProofs only [eq_self,xs]
 generalize sameB _ _=sb
 cases sb
 ·simp -implicitDefEqProofs only [eq_self,xs]
 simp -implicitDefEqProofs only [has6,eq_self,xs]
 have pa_table:F67 (6,fr,to,sq,wh,ki,ks,nw,tb,ep,bo,ak,tk,tn,gd)=some (tabB tb):=by rw [F67_eq]; simp -implicitDefEqProofs only [tabl_ok tb ht,eqq,eq_self,xs]
 have hp:partsB (6,fr,to,sq,wh,ki,ks,nw,tb,ep,bo,ak,tk,tn,gd)=((!kindB 6 1 || nodeB wh)&&((!kindB 6 2 || knowB ks)&&((!kindB 6 3 || newsB nw)&&((!kindB 6 4 || tabB tb)&&((!kindB 6 7 || tickB ak)&&((!kindB 6 8 || nmB tk))))))):=rfl
 rw [hp]
 have kb1:kindB 6 1=false:=rfl
 have kb2:kindB 6 2=false:=rfl
 have kb3:kindB 6 3=false:=rfl
 have kb4:kindB 6 4=true:=rfl
 have kb7:kindB 6 7=false:=rfl
 have kb8:kindB 6 8=false:=rfl
 rw [loopX_eq]
 simp -implicitDefEqProofs only [lts,les,tnn,lnn,nq,nw1,ln1,ln2,ln3,ln4,ln5,List.getElem?_cons_zero,List.getElem?_cons_succ,pa_table,kb1,kb2,kb3,kb4,kb7,kb8,eq_self,xs]
 cases tabB tb
 ·simp -implicitDefEqProofs only [eq_self,xs]
 simp -implicitDefEqProofs only [eq_self,xs]
 rw [loopX_eq]
 simp -implicitDefEqProofs only [lts,les,tnn,lnn,nq,nw1,ln1,ln2,ln3,ln4,ln5,List.getElem?_cons_zero,List.getElem?_cons_succ,pa_table,kb1,kb2,kb3,kb4,kb7,kb8,eq_self,xs]
theorem check7 {fr to sq wh ki ks ep bo ak tn:Int} {nw:List NW} {tb:List KW} {tk:ByteArray} {gd:Bool} (hw:nw.length≤1000) (ht:tb.length≤1000) (hk:tk.size≤maxLen):F11 (7,fr,to,sq,wh,ki,ks,nw,tb,ep,bo,ak,tk,tn,gd)=some (if msgB (7,fr,to,sq,wh,ki,ks,nw,tb,ep,bo,ak,tk,tn,gd)=true then 0 else 1):=by
 rw [F11_eq]
 have hb:=bare7 (fr:=fr) (to:=to) (sq:=sq) (wh:=wh) (ki:=ki) (ks:=ks) (nw:=nw) (tb:=tb) (ep:=ep) (bo:=bo) (ak:=ak) (tk:=tk) (tn:=tn) (gd:=gd)
 have hbm:bareM (7,fr,to,sq,wh,ki,ks,nw,tb,ep,bo,ak,tk,tn,gd)=(7,fr,to,0,0,0,0,[],[],ep,bo,ak,(⟨#[]⟩:ByteArray),0,false):=rfl
 have hs:=same_ok (7,fr,to,sq,wh,ki,ks,nw,tb,ep,bo,ak,tk,tn,gd) (bareM (7,fr,to,sq,wh,ki,ks,nw,tb,ep,bo,ak,tk,tn,gd)) hw ht
 rw [hbm] at hs
 have k1:¬ ((7:Int) < 1):=by decide
 have k2:¬ ((7:Int) > 12):=by decide
 simp -implicitDefEqProofs only [node_ok fr,node_ok to,hb,hs,k1,k2,eq_self,xs]
 unfold msgB
 rw [hbm]
 have kk1:decide ((1:Int)≤7)=true:=rfl
 have kk2:decide ((7:Int)≤12)=true:=rfl
 simp -implicitDefEqProofs only [kk1,kk2,eq_self,xs]
 cases nodeB fr
 ·simp -implicitDefEqProofs only [eq_self,xs]
 cases nodeB to
 ·simp -implicitDefEqProofs only [eq_self,xs]
 cases (fr==to)
 rotate_left
 ·simp -implicitDefEqProofs only [eq_self,xs]
 simp -implicitDefEqProofs only [eq_self,xs]
 generalize sameB _ _=sb
 cases sb
 ·simp -implicitDefEqProofs only [eq_self,xs]
 simp -implicitDefEqProofs only [has7,eq_self,xs]
 have pa_epoch:=F47_eq (7,fr,to,sq,wh,ki,ks,nw,tb,ep,bo,ak,tk,tn,gd)
 have pa_boot:=F47_eq (7,fr,to,sq,wh,ki,ks,nw,tb,ep,bo,ak,tk,tn,gd)
 have pa_asked:F72 (7,fr,to,sq,wh,ki,ks,nw,tb,ep,bo,ak,tk,tn,gd)=some (tickB ak):=by rw [F72_eq]; exact c1 (decide (0≤ak)) (decide (ak≤1099511627776))
 have hp:partsB (7,fr,to,sq,wh,ki,ks,nw,tb,ep,bo,ak,tk,tn,gd)=((!kindB 7 1 || nodeB wh)&&((!kindB 7 2 || knowB ks)&&((!kindB 7 3 || newsB nw)&&((!kindB 7 4 || tabB tb)&&((!kindB 7 7 || tickB ak)&&((!kindB 7 8 || nmB tk))))))):=rfl
 rw [hp]
 have kb1:kindB 7 1=false:=rfl
 have kb2:kindB 7 2=false:=rfl
 have kb3:kindB 7 3=false:=rfl
 have kb4:kindB 7 4=false:=rfl
 have kb7:kindB 7 7=true:=rfl
 have kb8:kindB 7 8=false:=rfl
 rw [loopX_eq]
 simp -implicitDefEqProofs only [lts,les,tnn,lnn,nq,nw1,ln1,ln2,ln3,ln4,ln5,List.getElem?_cons_zero,List.getElem?_cons_succ,pa_epoch,pa_boot,pa_asked,kb1,kb2,kb3,kb4,kb7,kb8,eq_self,xs]
 rw [loopX_eq]
 simp -implicitDefEqProofs only [lts,les,tnn,lnn,nq,nw1,ln1,ln2,ln3,ln4,ln5,List.getElem?_cons_zero,List.getElem?_cons_succ,pa_epoch,pa_boot,pa_asked,kb1,kb2,kb3,kb4,kb7,kb8,eq_self,xs]
 rw [loopX_eq]
 simp -implicitDefEqProofs only [lts,les,tnn,lnn,nq,nw1,ln1,ln2,ln3,ln4,ln5,List.getElem?_cons_zero,List.getElem?_cons_succ,pa_epoch,pa_boot,pa_asked,kb1,kb2,kb3,kb4,kb7,kb8,eq_self,xs]
 cases tickB ak
 ·simp -implicitDefEqProofs only [eq_self,xs]
 simp -implicitDefEqProofs only [eq_self,xs]
 rw [loopX_eq]
 simp -implicitDefEqProofs only [lts,les,tnn,lnn,nq,nw1,ln1,ln2,ln3,ln4,ln5,List.getElem?_cons_zero,List.getElem?_cons_succ,pa_epoch,pa_boot,pa_asked,kb1,kb2,kb3,kb4,kb7,kb8,eq_self,xs]
theorem check8 {fr to sq wh ki ks ep bo ak tn:Int} {nw:List NW} {tb:List KW} {tk:ByteArray} {gd:Bool} (hw:nw.length≤1000) (ht:tb.length≤1000) (hk:tk.size≤maxLen):F11 (8,fr,to,sq,wh,ki,ks,nw,tb,ep,bo,ak,tk,tn,gd)=some (if msgB (8,fr,to,sq,wh,ki,ks,nw,tb,ep,bo,ak,tk,tn,gd)=true then 0 else 1):=by
 rw [F11_eq]
 have hb:=bare8 (fr:=fr) (to:=to) (sq:=sq) (wh:=wh) (ki:=ki) (ks:=ks) (nw:=nw) (tb:=tb) (ep:=ep) (bo:=bo) (ak:=ak) (tk:=tk) (tn:=tn) (gd:=gd)
 have hbm:bareM (8,fr,to,sq,wh,ki,ks,nw,tb,ep,bo,ak,tk,tn,gd)=(8,fr,to,0,0,0,0,[],[],ep,bo,ak,(⟨#[]⟩:ByteArray),0,false):=rfl
 have hs:=same_ok (8,fr,to,sq,wh,ki,ks,nw,tb,ep,bo,ak,tk,tn,gd) (bareM (8,fr,to,sq,wh,ki,ks,nw,tb,ep,bo,ak,tk,tn,gd)) hw ht
 rw [hbm] at hs
 have k1:¬ ((8:Int) < 1):=by decide
 have k2:¬ ((8:Int) > 12):=by decide
 simp -implicitDefEqProofs only [node_ok fr,node_ok to,hb,hs,k1,k2,eq_self,xs]
 unfold msgB
 rw [hbm]
 have kk1:decide ((1:Int)≤8)=true:=rfl
 have kk2:decide ((8:Int)≤12)=true:=rfl
 simp -implicitDefEqProofs only [kk1,kk2,eq_self,xs]
 cases nodeB fr
 ·simp -implicitDefEqProofs only [eq_self,xs]
 cases nodeB to
 ·simp -implicitDefEqProofs only [eq_self,xs]
 cases (fr==to)
 rotate_left
 ·simp -implicitDefEqProofs only [eq_self,xs]
 simp -implicitDefEqProofs only [eq_self,xs]
 generalize sameB _ _=sb
 cases sb
 ·simp -implicitDefEqProofs only [eq_self,xs]
 simp -implicitDefEqProofs only [has8,eq_self,xs]
 have pa_epoch:=F47_eq (8,fr,to,sq,wh,ki,ks,nw,tb,ep,bo,ak,tk,tn,gd)
 have pa_boot:=F47_eq (8,fr,to,sq,wh,ki,ks,nw,tb,ep,bo,ak,tk,tn,gd)
 have pa_asked:F72 (8,fr,to,sq,wh,ki,ks,nw,tb,ep,bo,ak,tk,tn,gd)=some (tickB ak):=by rw [F72_eq]; exact c1 (decide (0≤ak)) (decide (ak≤1099511627776))
 have hp:partsB (8,fr,to,sq,wh,ki,ks,nw,tb,ep,bo,ak,tk,tn,gd)=((!kindB 8 1 || nodeB wh)&&((!kindB 8 2 || knowB ks)&&((!kindB 8 3 || newsB nw)&&((!kindB 8 4 || tabB tb)&&((!kindB 8 7 || tickB ak)&&((!kindB 8 8 || nmB tk))))))):=rfl
 rw [hp]
 have kb1:kindB 8 1=false:=rfl
 have kb2:kindB 8 2=false:=rfl
 have kb3:kindB 8 3=false:=rfl
 have kb4:kindB 8 4=false:=rfl
 have kb7:kindB 8 7=true:=rfl
 have kb8:kindB 8 8=false:=rfl
 rw [loopX_eq]
 simp -implicitDefEqProofs only [lts,les,tnn,lnn,nq,nw1,ln1,ln2,ln3,ln4,ln5,List.getElem?_cons_zero,List.getElem?_cons_succ,pa_epoch,pa_boot,pa_asked,kb1,kb2,kb3,kb4,kb7,kb8,eq_self,xs]
 rw [loopX_eq]
 simp -implicitDefEqProofs only [lts,les,tnn,lnn,nq,nw1,ln1,ln2,ln3,ln4,ln5,List.getElem?_cons_zero,List.getElem?_cons_succ,pa_epoch,pa_boot,pa_asked,kb1,kb2,kb3,kb4,kb7,kb8,eq_self,xs]
 rw [loopX_eq]
 simp -implicitDefEqProofs only [lts,les,tnn,lnn,nq,nw1,ln1,ln2,ln3,ln4,ln5,List.getElem?_cons_zero,List.getElem?_cons_succ,pa_epoch,pa_boot,pa_asked,kb1,kb2,kb3,kb4,kb7,kb8,eq_self,xs]
 cases tickB ak
 ·simp -implicitDefEqProofs only [eq_self,xs]
 simp -implicitDefEqProofs only [eq_self,xs]
 rw [loopX_eq]
 simp -implicitDefEqProofs only [lts,les,tnn,lnn,nq,nw1,ln1,ln2,ln3,ln4,ln5,List.getElem?_cons_zero,List.getElem?_cons_succ,pa_epoch,pa_boot,pa_asked,kb1,kb2,kb3,kb4,kb7,kb8,eq_self,xs]
theorem check9 {fr to sq wh ki ks ep bo ak tn:Int} {nw:List NW} {tb:List KW} {tk:ByteArray} {gd:Bool} (hw:nw.length≤1000) (ht:tb.length≤1000) (hk:tk.size≤maxLen):F11 (9,fr,to,sq,wh,ki,ks,nw,tb,ep,bo,ak,tk,tn,gd)=some (if msgB (9,fr,to,sq,wh,ki,ks,nw,tb,ep,bo,ak,tk,tn,gd)=true then 0 else 1):=by
 rw [F11_eq]
 have hb:=bare9 (fr:=fr) (to:=to) (sq:=sq) (wh:=wh) (ki:=ki) (ks:=ks) (nw:=nw) (tb:=tb) (ep:=ep) (bo:=bo) (ak:=ak) (tk:=tk) (tn:=tn) (gd:=gd)
 have hbm:bareM (9,fr,to,sq,wh,ki,ks,nw,tb,ep,bo,ak,tk,tn,gd)=(9,fr,to,0,0,0,0,[],[],ep,bo,0,(⟨#[]⟩:ByteArray),0,false):=rfl
 have hs:=same_ok (9,fr,to,sq,wh,ki,ks,nw,tb,ep,bo,ak,tk,tn,gd) (bareM (9,fr,to,sq,wh,ki,ks,nw,tb,ep,bo,ak,tk,tn,gd)) hw ht
 rw [hbm] at hs
 have k1:¬ ((9:Int) < 1):=by decide
 have k2:¬ ((9:Int) > 12):=by decide
 simp -implicitDefEqProofs only [node_ok fr,node_ok to,hb,hs,k1,k2,eq_self,xs]
 unfold msgB
 rw [hbm]
 have kk1:decide ((1:Int)≤9)=true:=rfl
 have kk2:decide ((9:Int)≤12)=true:=rfl
 simp -implicitDefEqProofs only [kk1,kk2,eq_self,xs]
 cases nodeB fr
 ·simp -implicitDefEqProofs only [eq_self,xs]
 cases nodeB to
 ·simp -implicitDefEqProofs only [eq_self,xs]
 cases (fr==to)
 rotate_left
 ·simp -implicitDefEqProofs only [eq_self,xs]
 simp -implicitDefEqProofs only [eq_self,xs]
 generalize sameB _ _=sb
 cases sb
 ·simp -implicitDefEqProofs only [eq_self,xs]
 simp -implicitDefEqProofs only [has9,eq_self,xs]
 have pa_epoch:=F47_eq (9,fr,to,sq,wh,ki,ks,nw,tb,ep,bo,ak,tk,tn,gd)
 have pa_boot:=F47_eq (9,fr,to,sq,wh,ki,ks,nw,tb,ep,bo,ak,tk,tn,gd)
 have hp:partsB (9,fr,to,sq,wh,ki,ks,nw,tb,ep,bo,ak,tk,tn,gd)=((!kindB 9 1 || nodeB wh)&&((!kindB 9 2 || knowB ks)&&((!kindB 9 3 || newsB nw)&&((!kindB 9 4 || tabB tb)&&((!kindB 9 7 || tickB ak)&&((!kindB 9 8 || nmB tk))))))):=rfl
 rw [hp]
 have kb1:kindB 9 1=false:=rfl
 have kb2:kindB 9 2=false:=rfl
 have kb3:kindB 9 3=false:=rfl
 have kb4:kindB 9 4=false:=rfl
 have kb7:kindB 9 7=false:=rfl
 have kb8:kindB 9 8=false:=rfl
 rw [loopX_eq]
 simp -implicitDefEqProofs only [lts,les,tnn,lnn,nq,nw1,ln1,ln2,ln3,ln4,ln5,List.getElem?_cons_zero,List.getElem?_cons_succ,pa_epoch,pa_boot,kb1,kb2,kb3,kb4,kb7,kb8,eq_self,xs]
 rw [loopX_eq]
 simp -implicitDefEqProofs only [lts,les,tnn,lnn,nq,nw1,ln1,ln2,ln3,ln4,ln5,List.getElem?_cons_zero,List.getElem?_cons_succ,pa_epoch,pa_boot,kb1,kb2,kb3,kb4,kb7,kb8,eq_self,xs]
 rw [loopX_eq]
 simp -implicitDefEqProofs only [lts,les,tnn,lnn,nq,nw1,ln1,ln2,ln3,ln4,ln5,List.getElem?_cons_zero,List.getElem?_cons_succ,pa_epoch,pa_boot,kb1,kb2,kb3,kb4,kb7,kb8,eq_self,xs]
theorem check10 {fr to sq wh ki ks ep bo ak tn:Int} {nw:List NW} {tb:List KW} {tk:ByteArray} {gd:Bool} (hw:nw.length≤1000) (ht:tb.length≤1000) (hk:tk.size≤maxLen):F11 (10,fr,to,sq,wh,ki,ks,nw,tb,ep,bo,ak,tk,tn,gd)=some (if msgB (10,fr,to,sq,wh,ki,ks,nw,tb,ep,bo,ak,tk,tn,gd)=true then 0 else 1):=by
 rw [F11_eq]
 have hb:=bare10 (fr:=fr) (to:=to) (sq:=sq) (wh:=wh) (ki:=ki) (ks:=ks) (nw:=nw) (tb:=tb) (ep:=ep) (bo:=bo) (ak:=ak) (tk:=tk) (tn:=tn) (gd:=gd)
 have hbm:bareM (10,fr,to,sq,wh,ki,ks,nw,tb,ep,bo,ak,tk,tn,gd)=(10,fr,to,0,0,0,0,[],[],0,bo,ak,(⟨#[]⟩:ByteArray),0,false):=rfl
 have hs:=same_ok (10,fr,to,sq,wh,ki,ks,nw,tb,ep,bo,ak,tk,tn,gd) (bareM (10,fr,to,sq,wh,ki,ks,nw,tb,ep,bo,ak,tk,tn,gd)) hw ht
 rw [hbm] at hs
 have k1:¬ ((10:Int) < 1):=by decide
 have k2:¬ ((10:Int) > 12):=by decide
 simp -implicitDefEqProofs only [node_ok fr,node_ok to,hb,hs,k1,k2,eq_self,xs]
 unfold msgB
 rw [hbm]
 have kk1:decide ((1:Int)≤10)=true:=rfl
 have kk2:decide ((10:Int)≤12)=true:=rfl
 simp -implicitDefEqProofs only [kk1,kk2,eq_self,xs]
 cases nodeB fr
 ·simp -implicitDefEqProofs only [eq_self,xs]
 cases nodeB to
 ·simp -implicitDefEqProofs only [eq_self,xs]
 cases (fr==to)
 rotate_left
 ·simp -implicitDefEqProofs only [eq_self,xs]
 simp -implicitDefEqProofs only [eq_self,xs]
 generalize sameB _ _=sb
 cases sb
 ·simp -implicitDefEqProofs only [eq_self,xs]
 simp -implicitDefEqProofs only [has10,eq_self,xs]
 have pa_boot:=F47_eq (10,fr,to,sq,wh,ki,ks,nw,tb,ep,bo,ak,tk,tn,gd)
 have pa_asked:F72 (10,fr,to,sq,wh,ki,ks,nw,tb,ep,bo,ak,tk,tn,gd)=some (tickB ak):=by rw [F72_eq]; exact c1 (decide (0≤ak)) (decide (ak≤1099511627776))
 have hp:partsB (10,fr,to,sq,wh,ki,ks,nw,tb,ep,bo,ak,tk,tn,gd)=((!kindB 10 1 || nodeB wh)&&((!kindB 10 2 || knowB ks)&&((!kindB 10 3 || newsB nw)&&((!kindB 10 4 || tabB tb)&&((!kindB 10 7 || tickB ak)&&((!kindB 10 8 || nmB tk))))))):=rfl
 rw [hp]
 have kb1:kindB 10 1=false:=rfl
 have kb2:kindB 10 2=false:=rfl
 have kb3:kindB 10 3=false:=rfl
 have kb4:kindB 10 4=false:=rfl
 have kb7:kindB 10 7=true:=rfl
 have kb8:kindB 10 8=false:=rfl
 rw [loopX_eq]
 simp -implicitDefEqProofs only [lts,les,tnn,lnn,nq,nw1,ln1,ln2,ln3,ln4,ln5,List.getElem?_cons_zero,List.getElem?_cons_succ,pa_boot,pa_asked,kb1,kb2,kb3,kb4,kb7,kb8,eq_self,xs]
 rw [loopX_eq]
 simp -implicitDefEqProofs only [lts,les,tnn,lnn,nq,nw1,ln1,ln2,ln3,ln4,ln5,List.getElem?_cons_zero,List.getElem?_cons_succ,pa_boot,pa_asked,kb1,kb2,kb3,kb4,kb7,kb8,eq_self,xs]
 cases tickB ak
 ·simp -implicitDefEqProofs only [eq_self,xs]
 simp -implicitDefEqProofs only [eq_self,xs]
 rw [loopX_eq]
 simp -implicitDefEqProofs only [lts,les,tnn,lnn,nq,nw1,ln1,ln2,ln3,ln4,ln5,List.getElem?_cons_zero,List.getElem?_cons_succ,pa_boot,pa_asked,kb1,kb2,kb3,kb4,kb7,kb8,eq_self,xs]
theorem check11 {fr to sq wh ki ks ep bo ak tn:Int} {nw:List NW} {tb:List KW} {tk:ByteArray} {gd:Bool} (hw:nw.length≤1000) (ht:tb.length≤1000) (hk:tk.size≤maxLen):F11 (11,fr,to,sq,wh,ki,ks,nw,tb,ep,bo,ak,tk,tn,gd)=some (if msgB (11,fr,to,sq,wh,ki,ks,nw,tb,ep,bo,ak,tk,tn,gd)=true then 0 else 1):=by
 rw [F11_eq]
 have hb:=bare11 (fr:=fr) (to:=to) (sq:=sq) (wh:=wh) (ki:=ki) (ks:=ks) (nw:=nw) (tb:=tb) (ep:=ep) (bo:=bo) (ak:=ak) (tk:=tk) (tn:=tn) (gd:=gd)
 have hbm:bareM (11,fr,to,sq,wh,ki,ks,nw,tb,ep,bo,ak,tk,tn,gd)=(11,fr,to,0,0,0,0,[],[],ep,bo,ak,tk,tn,false):=rfl
 have hs:=same_ok (11,fr,to,sq,wh,ki,ks,nw,tb,ep,bo,ak,tk,tn,gd) (bareM (11,fr,to,sq,wh,ki,ks,nw,tb,ep,bo,ak,tk,tn,gd)) hw ht
 rw [hbm] at hs
 have k1:¬ ((11:Int) < 1):=by decide
 have k2:¬ ((11:Int) > 12):=by decide
 simp -implicitDefEqProofs only [node_ok fr,node_ok to,hb,hs,k1,k2,eq_self,xs]
 unfold msgB
 rw [hbm]
 have kk1:decide ((1:Int)≤11)=true:=rfl
 have kk2:decide ((11:Int)≤12)=true:=rfl
 simp -implicitDefEqProofs only [kk1,kk2,eq_self,xs]
 cases nodeB fr
 ·simp -implicitDefEqProofs only [eq_self,xs]
 cases nodeB to
 ·simp -implicitDefEqProofs only [eq_self,xs]
 cases (fr==to)
 rotate_left
 ·simp -implicitDefEqProofs only [eq_self,xs]
 simp -implicitDefEqProofs only [eq_self,xs]
 generalize sameB _ _=sb
 cases sb
 ·simp -implicitDefEqProofs only [eq_self,xs]
 simp -implicitDefEqProofs only [has11,eq_self,xs]
 have pa_epoch:=F47_eq (11,fr,to,sq,wh,ki,ks,nw,tb,ep,bo,ak,tk,tn,gd)
 have pa_boot:=F47_eq (11,fr,to,sq,wh,ki,ks,nw,tb,ep,bo,ak,tk,tn,gd)
 have pa_asked:F72 (11,fr,to,sq,wh,ki,ks,nw,tb,ep,bo,ak,tk,tn,gd)=some (tickB ak):=by rw [F72_eq]; exact c1 (decide (0≤ak)) (decide (ak≤1099511627776))
 have pa_task:F75 (11,fr,to,sq,wh,ki,ks,nw,tb,ep,bo,ak,tk,tn,gd)=some (nmB tk):=by rw [F75_eq]; simp -implicitDefEqProofs only [F15_ok hk,eq_self,xs]
 have pa_token:=F47_eq (11,fr,to,sq,wh,ki,ks,nw,tb,ep,bo,ak,tk,tn,gd)
 have hp:partsB (11,fr,to,sq,wh,ki,ks,nw,tb,ep,bo,ak,tk,tn,gd)=((!kindB 11 1 || nodeB wh)&&((!kindB 11 2 || knowB ks)&&((!kindB 11 3 || newsB nw)&&((!kindB 11 4 || tabB tb)&&((!kindB 11 7 || tickB ak)&&((!kindB 11 8 || nmB tk))))))):=rfl
 rw [hp]
 have kb1:kindB 11 1=false:=rfl
 have kb2:kindB 11 2=false:=rfl
 have kb3:kindB 11 3=false:=rfl
 have kb4:kindB 11 4=false:=rfl
 have kb7:kindB 11 7=true:=rfl
 have kb8:kindB 11 8=true:=rfl
 rw [loopX_eq]
 simp -implicitDefEqProofs only [lts,les,tnn,lnn,nq,nw1,ln1,ln2,ln3,ln4,ln5,List.getElem?_cons_zero,List.getElem?_cons_succ,pa_epoch,pa_boot,pa_asked,pa_task,pa_token,kb1,kb2,kb3,kb4,kb7,kb8,eq_self,xs]
 rw [loopX_eq]
 simp -implicitDefEqProofs only [lts,les,tnn,lnn,nq,nw1,ln1,ln2,ln3,ln4,ln5,List.getElem?_cons_zero,List.getElem?_cons_succ,pa_epoch,pa_boot,pa_asked,pa_task,pa_token,kb1,kb2,kb3,kb4,kb7,kb8,eq_self,xs]
 rw [loopX_eq]
 simp -implicitDefEqProofs only [lts,les,tnn,lnn,nq,nw1,ln1,ln2,ln3,ln4,ln5,List.getElem?_cons_zero,List.getElem?_cons_succ,pa_epoch,pa_boot,pa_asked,pa_task,pa_token,kb1,kb2,kb3,kb4,kb7,kb8,eq_self,xs]
 cases tickB ak
 ·simp -implicitDefEqProofs only [eq_self,xs]
 simp -implicitDefEqProofs only [eq_self,xs]
 rw [loopX_eq]
 simp -implicitDefEqProofs only [lts,les,tnn,lnn,nq,nw1,ln1,ln2,ln3,ln4,ln5,List.getElem?_cons_zero,List.getElem?_cons_succ,pa_epoch,pa_boot,pa_asked,pa_task,pa_token,kb1,kb2,kb3,kb4,kb7,kb8,eq_self,xs]
 cases nmB tk
 ·simp -implicitDefEqProofs only [eq_self,xs]
 simp -implicitDefEqProofs only [eq_self,xs]
 rw [loopX_eq]
 simp -implicitDefEqProofs only [lts,les,tnn,lnn,nq,nw1,ln1,ln2,ln3,ln4,ln5,List.getElem?_cons_zero,List.getElem?_cons_succ,pa_epoch,pa_boot,pa_asked,pa_task,pa_token,kb1,kb2,kb3,kb4,kb7,kb8,eq_self,xs]
 rw [loopX_eq]
 simp -implicitDefEqProofs only [lts,les,tnn,lnn,nq,nw1,ln1,ln2,ln3,ln4,ln5,List.getElem?_cons_zero,List.getElem?_cons_succ,pa_epoch,pa_boot,pa_asked,pa_task,pa_token,kb1,kb2,kb3,kb4,kb7,kb8,eq_self,xs]
theorem check12 {fr to sq wh ki ks ep bo ak tn:Int} {nw:List NW} {tb:List KW} {tk:ByteArray} {gd:Bool} (hw:nw.length≤1000) (ht:tb.length≤1000) (hk:tk.size≤maxLen):F11 (12,fr,to,sq,wh,ki,ks,nw,tb,ep,bo,ak,tk,tn,gd)=some (if msgB (12,fr,to,sq,wh,ki,ks,nw,tb,ep,bo,ak,tk,tn,gd)=true then 0 else 1):=by
 rw [F11_eq]
 have hb:=bare12 (fr:=fr) (to:=to) (sq:=sq) (wh:=wh) (ki:=ki) (ks:=ks) (nw:=nw) (tb:=tb) (ep:=ep) (bo:=bo) (ak:=ak) (tk:=tk) (tn:=tn) (gd:=gd)
 have hbm:bareM (12,fr,to,sq,wh,ki,ks,nw,tb,ep,bo,ak,tk,tn,gd)=(12,fr,to,0,0,0,0,[],[],0,0,0,tk,tn,gd):=rfl
 have hs:=same_ok (12,fr,to,sq,wh,ki,ks,nw,tb,ep,bo,ak,tk,tn,gd) (bareM (12,fr,to,sq,wh,ki,ks,nw,tb,ep,bo,ak,tk,tn,gd)) hw ht
 rw [hbm] at hs
 have k1:¬ ((12:Int) < 1):=by decide
 have k2:¬ ((12:Int) > 12):=by decide
 simp -implicitDefEqProofs only [node_ok fr,node_ok to,hb,hs,k1,k2,eq_self,xs]
 unfold msgB
 rw [hbm]
 have kk1:decide ((1:Int)≤12)=true:=rfl
 have kk2:decide ((12:Int)≤12)=true:=rfl
 simp -implicitDefEqProofs only [kk1,kk2,eq_self,xs]
 cases nodeB fr
 ·simp -implicitDefEqProofs only [eq_self,xs]
 cases nodeB to
 ·simp -implicitDefEqProofs only [eq_self,xs]
 cases (fr==to)
 rotate_left
 ·simp -implicitDefEqProofs only [eq_self,xs]
 simp -implicitDefEqProofs only [eq_self,xs]
 generalize sameB _ _=sb
 cases sb
 ·simp -implicitDefEqProofs only [eq_self,xs]
 simp -implicitDefEqProofs only [has12,eq_self,xs]
 have pa_task:F75 (12,fr,to,sq,wh,ki,ks,nw,tb,ep,bo,ak,tk,tn,gd)=some (nmB tk):=by rw [F75_eq]; simp -implicitDefEqProofs only [F15_ok hk,eq_self,xs]
 have pa_token:=F47_eq (12,fr,to,sq,wh,ki,ks,nw,tb,ep,bo,ak,tk,tn,gd)
 have pa_good:=F47_eq (12,fr,to,sq,wh,ki,ks,nw,tb,ep,bo,ak,tk,tn,gd)
 have hp:partsB (12,fr,to,sq,wh,ki,ks,nw,tb,ep,bo,ak,tk,tn,gd)=((!kindB 12 1 || nodeB wh)&&((!kindB 12 2 || knowB ks)&&((!kindB 12 3 || newsB nw)&&((!kindB 12 4 || tabB tb)&&((!kindB 12 7 || tickB ak)&&((!kindB 12 8 || nmB tk))))))):=rfl
 rw [hp]
 have kb1:kindB 12 1=false:=rfl
 have kb2:kindB 12 2=false:=rfl
 have kb3:kindB 12 3=false:=rfl
 have kb4:kindB 12 4=false:=rfl
 have kb7:kindB 12 7=false:=rfl
 have kb8:kindB 12 8=true:=rfl
 rw [loopX_eq]
 simp -implicitDefEqProofs only [lts,les,tnn,lnn,nq,nw1,ln1,ln2,ln3,ln4,ln5,List.getElem?_cons_zero,List.getElem?_cons_succ,pa_task,pa_token,pa_good,kb1,kb2,kb3,kb4,kb7,kb8,eq_self,xs]
 cases nmB tk
 ·simp -implicitDefEqProofs only [eq_self,xs]
 simp -implicitDefEqProofs only [eq_self,xs]
 rw [loopX_eq]
 simp -implicitDefEqProofs only [lts,les,tnn,lnn,nq,nw1,ln1,ln2,ln3,ln4,ln5,List.getElem?_cons_zero,List.getElem?_cons_succ,pa_task,pa_token,pa_good,kb1,kb2,kb3,kb4,kb7,kb8,eq_self,xs]
 rw [loopX_eq]
 simp -implicitDefEqProofs only [lts,les,tnn,lnn,nq,nw1,ln1,ln2,ln3,ln4,ln5,List.getElem?_cons_zero,List.getElem?_cons_succ,pa_task,pa_token,pa_good,kb1,kb2,kb3,kb4,kb7,kb8,eq_self,xs]
 rw [loopX_eq]
 simp -implicitDefEqProofs only [lts,les,tnn,lnn,nq,nw1,ln1,ln2,ln3,ln4,ln5,List.getElem?_cons_zero,List.getElem?_cons_succ,pa_task,pa_token,pa_good,kb1,kb2,kb3,kb4,kb7,kb8,eq_self,xs]
theorem check_ok (m:MB) (hw:m.2.2.2.2.2.2.2.1.length≤1000) (ht:m.2.2.2.2.2.2.2.2.1.length≤1000) (hk:m.2.2.2.2.2.2.2.2.2.2.2.2.1.size≤maxLen):F11 m=some (if msgB m=true then 0 else 1):=by
 obtain ⟨k,fr,to,sq,wh,ki,ks,nw,tb,ep,bo,ak,tk,tn,gd⟩:=m
 by_cases k1:k < 1
 ·rw [F11_eq]
  unfold msgB
  have e:decide ((1:Int)≤k)=false:=by rw [decide_eq_false_iff_not]; omega
  simp -implicitDefEqProofs only [k1,e,eq_self,xs]
 by_cases k2:k > 12
 ·rw [F11_eq]
  unfold msgB
  have e:decide (k≤12)=false:=by rw [decide_eq_false_iff_not]; omega
  simp -implicitDefEqProofs only [k1,k2,e,eq_self,xs]
 have hk12:k=1∨k=2∨k=3∨k=4∨k=5∨k=6∨k=7∨k=8∨k=9∨k=10∨k=11∨k=12:=by omega
 rcases hk12 with rfl | rfl | rfl | rfl | rfl | rfl | rfl | rfl | rfl | rfl | rfl | rfl
 ·exact check1 hw ht hk
 ·exact check2 hw ht hk
 ·exact check3 hw ht hk
 ·exact check4 hw ht hk
 ·exact check5 hw ht hk
 ·exact check6 hw ht hk
 ·exact check7 hw ht hk
 ·exact check8 hw ht hk
 ·exact check9 hw ht hk
 ·exact check10 hw ht hk
 ·exact check11 hw ht hk
 ·exact check12 hw ht hk
end Go.Proofs.Ytgbcankkfmhcoaa.VL
end
section
namespace Go.Proofs.Ytgbcankkfmhcoaa.VL
open Go
set_option linter.unusedVariables false
set_option linter.unusedSectionVars false
set_option linter.unusedSimpArgs false
set_option maxRecDepth 100000
variable [Val]
theorem rbare1 {fr to sq wh ki ks ep bo ak tn:Int} {nw:List NW} {tb:List KW} {tk:ByteArray} {gd:Bool}:F29 (1,fr,to,sq,wh,ki,ks,nw,tb,ep,bo,ak,tk,tn,gd)=some (bareM (1,fr,to,sq,wh,ki,ks,nw,tb,ep,bo,ak,tk,tn,gd)):=by rw [F29_eq]; rfl
theorem rbare2 {fr to sq wh ki ks ep bo ak tn:Int} {nw:List NW} {tb:List KW} {tk:ByteArray} {gd:Bool}:F29 (2,fr,to,sq,wh,ki,ks,nw,tb,ep,bo,ak,tk,tn,gd)=some (bareM (2,fr,to,sq,wh,ki,ks,nw,tb,ep,bo,ak,tk,tn,gd)):=by rw [F29_eq]; rfl
theorem rbare3 {fr to sq wh ki ks ep bo ak tn:Int} {nw:List NW} {tb:List KW} {tk:ByteArray} {gd:Bool}:F29 (3,fr,to,sq,wh,ki,ks,nw,tb,ep,bo,ak,tk,tn,gd)=some (bareM (3,fr,to,sq,wh,ki,ks,nw,tb,ep,bo,ak,tk,tn,gd)):=by rw [F29_eq]; rfl
theorem rbare4 {fr to sq wh ki ks ep bo ak tn:Int} {nw:List NW} {tb:List KW} {tk:ByteArray} {gd:Bool}:F29 (4,fr,to,sq,wh,ki,ks,nw,tb,ep,bo,ak,tk,tn,gd)=some (bareM (4,fr,to,sq,wh,ki,ks,nw,tb,ep,bo,ak,tk,tn,gd)):=by rw [F29_eq]; rfl
theorem rbare5 {fr to sq wh ki ks ep bo ak tn:Int} {nw:List NW} {tb:List KW} {tk:ByteArray} {gd:Bool}:F29 (5,fr,to,sq,wh,ki,ks,nw,tb,ep,bo,ak,tk,tn,gd)=some (bareM (5,fr,to,sq,wh,ki,ks,nw,tb,ep,bo,ak,tk,tn,gd)):=by rw [F29_eq]; rfl
theorem rbare6 {fr to sq wh ki ks ep bo ak tn:Int} {nw:List NW} {tb:List KW} {tk:ByteArray} {gd:Bool}:F29 (6,fr,to,sq,wh,ki,ks,nw,tb,ep,bo,ak,tk,tn,gd)=some (bareM (6,fr,to,sq,wh,ki,ks,nw,tb,ep,bo,ak,tk,tn,gd)):=by rw [F29_eq]; rfl
theorem rbare7 {fr to sq wh ki ks ep bo ak tn:Int} {nw:List NW} {tb:List KW} {tk:ByteArray} {gd:Bool}:F29 (7,fr,to,sq,wh,ki,ks,nw,tb,ep,bo,ak,tk,tn,gd)=some (bareM (7,fr,to,sq,wh,ki,ks,nw,tb,ep,bo,ak,tk,tn,gd)):=by rw [F29_eq]; rfl
theorem rbare8 {fr to sq wh ki ks ep bo ak tn:Int} {nw:List NW} {tb:List KW} {tk:ByteArray} {gd:Bool}:F29 (8,fr,to,sq,wh,ki,ks,nw,tb,ep,bo,ak,tk,tn,gd)=some (bareM (8,fr,to,sq,wh,ki,ks,nw,tb,ep,bo,ak,tk,tn,gd)):=by rw [F29_eq]; rfl
theorem rbare9 {fr to sq wh ki ks ep bo ak tn:Int} {nw:List NW} {tb:List KW} {tk:ByteArray} {gd:Bool}:F29 (9,fr,to,sq,wh,ki,ks,nw,tb,ep,bo,ak,tk,tn,gd)=some (bareM (9,fr,to,sq,wh,ki,ks,nw,tb,ep,bo,ak,tk,tn,gd)):=by rw [F29_eq]; rfl
theorem rbare10 {fr to sq wh ki ks ep bo ak tn:Int} {nw:List NW} {tb:List KW} {tk:ByteArray} {gd:Bool}:F29 (10,fr,to,sq,wh,ki,ks,nw,tb,ep,bo,ak,tk,tn,gd)=some (bareM (10,fr,to,sq,wh,ki,ks,nw,tb,ep,bo,ak,tk,tn,gd)):=by rw [F29_eq]; rfl
theorem rbare11 {fr to sq wh ki ks ep bo ak tn:Int} {nw:List NW} {tb:List KW} {tk:ByteArray} {gd:Bool}:F29 (11,fr,to,sq,wh,ki,ks,nw,tb,ep,bo,ak,tk,tn,gd)=some (bareM (11,fr,to,sq,wh,ki,ks,nw,tb,ep,bo,ak,tk,tn,gd)):=by rw [F29_eq]; rfl
theorem rbare12 {fr to sq wh ki ks ep bo ak tn:Int} {nw:List NW} {tb:List KW} {tk:ByteArray} {gd:Bool}:F29 (12,fr,to,sq,wh,ki,ks,nw,tb,ep,bo,ak,tk,tn,gd)=some (bareM (12,fr,to,sq,wh,ki,ks,nw,tb,ep,bo,ak,tk,tn,gd)):=by rw [F29_eq]; rfl
theorem rmay1 {fr to sq wh ki ks ep bo ak tn:Int} {nw:List NW} {tb:List KW} {tk:ByteArray} {gd:Bool} (hw:nw.length≤1000) (ht:tb.length≤1000) (hk:tk.size≤maxLen):F12 (1,fr,to,sq,wh,ki,ks,nw,tb,ep,bo,ak,tk,tn,gd)=some (msgB (1,fr,to,sq,wh,ki,ks,nw,tb,ep,bo,ak,tk,tn,gd)):=by
 rw [F12_eq]
 have hb:=rbare1 (fr:=fr) (to:=to) (sq:=sq) (wh:=wh) (ki:=ki) (ks:=ks) (nw:=nw) (tb:=tb) (ep:=ep) (bo:=bo) (ak:=ak) (tk:=tk) (tn:=tn) (gd:=gd)
 have hbm:bareM (1,fr,to,sq,wh,ki,ks,nw,tb,ep,bo,ak,tk,tn,gd)=(1,fr,to,sq,0,ki,ks,nw,[],0,0,0,(⟨#[]⟩:ByteArray),0,false):=rfl
 rw [hbm] at hb
 have hs:=(rsame_eq (1,fr,to,sq,wh,ki,ks,nw,tb,ep,bo,ak,tk,tn,gd) (bareM (1,fr,to,sq,wh,ki,ks,nw,tb,ep,bo,ak,tk,tn,gd))).trans (same_ok (1,fr,to,sq,wh,ki,ks,nw,tb,ep,bo,ak,tk,tn,gd) (bareM (1,fr,to,sq,wh,ki,ks,nw,tb,ep,bo,ak,tk,tn,gd)) hw ht)
 rw [hbm] at hs
 have k1:¬ ((1:Int) < 1):=by decide
 have k2:¬ ((1:Int) > 12):=by decide
 have hp:partsB (1,fr,to,sq,wh,ki,ks,nw,tb,ep,bo,ak,tk,tn,gd)=((!kindB 1 1 || nodeB wh)&&((!kindB 1 2 || knowB ks)&&((!kindB 1 3 || newsB nw)&&((!kindB 1 4 || tabB tb)&&((!kindB 1 7 || tickB ak)&&((!kindB 1 8 || nmB tk))))))):=rfl
 have kb1:kindB 1 1=false:=rfl
 have kb2:kindB 1 2=true:=rfl
 have kb3:kindB 1 3=true:=rfl
 have kb4:kindB 1 4=false:=rfl
 have kb7:kindB 1 7=false:=rfl
 have kb8:kindB 1 8=false:=rfl
 simp -implicitDefEqProofs only [rnode_ok fr,rnode_ok to,hb,hs,k1,k2,eq_self,xs]
 unfold msgB
 rw [hbm,hp]
 have kk1:decide ((1:Int)≤1)=true:=rfl
 have kk2:decide ((1:Int)≤12)=true:=rfl
 simp -implicitDefEqProofs only [kk1,kk2,kb1,kb2,kb3,kb4,kb7,kb8,eq_self,xs]
 cases nodeB fr
 ·simp -implicitDefEqProofs only [eq_self,xs]
 cases nodeB to
 ·simp -implicitDefEqProofs only [eq_self,xs]
 cases (fr==to)
 rotate_left
 ·simp -implicitDefEqProofs only [eq_self,xs]
 simp -implicitDefEqProofs only [eq_self,xs]
 cases hsb:sameB (1,fr,to,sq,wh,ki,ks,nw,tb,ep,bo,ak,tk,tn,gd) (1,fr,to,sq,0,ki,ks,nw,[],0,0,0,(⟨#[]⟩:ByteArray),0,false)
 ·simp -implicitDefEqProofs only [eq_self,xs]
 unfold sameB at hsb
 simp only [Bool.and_eq_true,beq_iff_eq,decide_eq_true_eq] at hsb
 obtain ⟨q0,q1,q2,q3,q4,q5,q6,q7,q8,q9,q10,q11,q12,q13,q14⟩:=hsb
 subst q4
 subst q8
 subst q11
 have z1:nodeB 0=true:=rfl
 have e2:decide (((List.length nw:Nat):Int) > 8)=!decide (List.length nw≤8):=by rw [Bool.eq_iff_iff,Bool.not_eq_true',decide_eq_true_iff,decide_eq_false_iff_not]; omega
 simp -implicitDefEqProofs only [rnode_ok 0,rknow_ok ki ks,e2,dlt 0 0,dgt 0 1099511627776,z1,eq_self,xs]
 cases knowB ks
 ·simp -implicitDefEqProofs only [eq_self,xs]
 simp -implicitDefEqProofs only [eq_self,xs]
 have hnw:newsB nw=(decide (nw.length≤8)&&nw.all tellB):=rfl
 rw [hnw]
 cases decide (nw.length≤8)
 ·simp -implicitDefEqProofs only [eq_self,xs]
 simp -implicitDefEqProofs only [eq_self,xs]
 have z3:decide ((0:Int)≤1099511627776)=true:=rfl
 have z4:decide ((0:Int)≤0)=true:=rfl
 try simp -implicitDefEqProofs only [z3,z4,eq_self,xs]
 rw [loop_list (s0:=(0:Int)) nw tellB (Sum.inr false) (Sum.inl ()) rfl]
 rotate_left
 ·simp -implicitDefEqProofs only [not_lt_self,Int.lt_irrefl,eq_self,xs]
 ·intro i x hi hx
  have q1:((i:Nat):Int) < ((List.length nw:Nat):Int):=by omega
  have q2:(0:Int)≤(i:Int):=by omega
  simp -implicitDefEqProofs only [q1,q2,hx,w1 (show i≤9223372036854775806 by omega),rnode_ok x.1,rknow_ok x.2.1 x.2.2,eq_self,xs]
  unfold tellB
  cases nodeB x.1<;>cases knowB x.2.2<;>rfl
 cases nw.all tellB
 ·simp -implicitDefEqProofs only [eq_self,xs]
 simp -implicitDefEqProofs only [eq_self,xs]
 have y5:((1:Int)==5)=false:=rfl
 have y6:((1:Int)==6)=false:=rfl
 have y11:decide ((1:Int) < 11)=true:=rfl
 simp -implicitDefEqProofs only [y5,y6,y11,rtabl_ok ([]:List KW) (by simp),F16_ok hk,eq_self,xs]
theorem rmay2 {fr to sq wh ki ks ep bo ak tn:Int} {nw:List NW} {tb:List KW} {tk:ByteArray} {gd:Bool} (hw:nw.length≤1000) (ht:tb.length≤1000) (hk:tk.size≤maxLen):F12 (2,fr,to,sq,wh,ki,ks,nw,tb,ep,bo,ak,tk,tn,gd)=some (msgB (2,fr,to,sq,wh,ki,ks,nw,tb,ep,bo,ak,tk,tn,gd)):=by
 rw [F12_eq]
 have hb:=rbare2 (fr:=fr) (to:=to) (sq:=sq) (wh:=wh) (ki:=ki) (ks:=ks) (nw:=nw) (tb:=tb) (ep:=ep) (bo:=bo) (ak:=ak) (tk:=tk) (tn:=tn) (gd:=gd)
 have hbm:bareM (2,fr,to,sq,wh,ki,ks,nw,tb,ep,bo,ak,tk,tn,gd)=(2,fr,to,sq,wh,0,0,nw,[],0,0,0,(⟨#[]⟩:ByteArray),0,false):=rfl
 rw [hbm] at hb
 have hs:=(rsame_eq (2,fr,to,sq,wh,ki,ks,nw,tb,ep,bo,ak,tk,tn,gd) (bareM (2,fr,to,sq,wh,ki,ks,nw,tb,ep,bo,ak,tk,tn,gd))).trans (same_ok (2,fr,to,sq,wh,ki,ks,nw,tb,ep,bo,ak,tk,tn,gd) (bareM (2,fr,to,sq,wh,ki,ks,nw,tb,ep,bo,ak,tk,tn,gd)) hw ht)
 rw [hbm] at hs
 have k1:¬ ((2:Int) < 1):=by decide
 have k2:¬ ((2:Int) > 12):=by decide
 have hp:partsB (2,fr,to,sq,wh,ki,ks,nw,tb,ep,bo,ak,tk,tn,gd)=((!kindB 2 1 || nodeB wh)&&((!kindB 2 2 || knowB ks)&&((!kindB 2 3 || newsB nw)&&((!kindB 2 4 || tabB tb)&&((!kindB 2 7 || tickB ak)&&((!kindB 2 8 || nmB tk))))))):=rfl
 have kb1:kindB 2 1=true:=rfl
 have kb2:kindB 2 2=false:=rfl
 have kb3:kindB 2 3=true:=rfl
 have kb4:kindB 2 4=false:=rfl
 have kb7:kindB 2 7=false:=rfl
 have kb8:kindB 2 8=false:=rfl
 simp -implicitDefEqProofs only [rnode_ok fr,rnode_ok to,hb,hs,k1,k2,eq_self,xs]
 unfold msgB
 rw [hbm,hp]
 have kk1:decide ((1:Int)≤2)=true:=rfl
 have kk2:decide ((2:Int)≤12)=true:=rfl
 simp -implicitDefEqProofs only [kk1,kk2,kb1,kb2,kb3,kb4,kb7,kb8,eq_self,xs]
 cases nodeB fr
 ·simp -implicitDefEqProofs only [eq_self,xs]
 cases nodeB to
 ·simp -implicitDefEqProofs only [eq_self,xs]
 cases (fr==to)
 rotate_left
 ·simp -implicitDefEqProofs only [eq_self,xs]
 simp -implicitDefEqProofs only [eq_self,xs]
 cases hsb:sameB (2,fr,to,sq,wh,ki,ks,nw,tb,ep,bo,ak,tk,tn,gd) (2,fr,to,sq,wh,0,0,nw,[],0,0,0,(⟨#[]⟩:ByteArray),0,false)
 ·simp -implicitDefEqProofs only [eq_self,xs]
 unfold sameB at hsb
 simp only [Bool.and_eq_true,beq_iff_eq,decide_eq_true_eq] at hsb
 obtain ⟨q0,q1,q2,q3,q4,q5,q6,q7,q8,q9,q10,q11,q12,q13,q14⟩:=hsb
 subst q5
 subst q6
 subst q8
 subst q11
 have z2:knowB 0=true:=rfl
 have e2:decide (((List.length nw:Nat):Int) > 8)=!decide (List.length nw≤8):=by rw [Bool.eq_iff_iff,Bool.not_eq_true',decide_eq_true_iff,decide_eq_false_iff_not]; omega
 simp -implicitDefEqProofs only [rnode_ok wh,rknow_ok 0 0,e2,dlt 0 0,dgt 0 1099511627776,z2,eq_self,xs]
 cases nodeB wh
 ·simp -implicitDefEqProofs only [eq_self,xs]
 simp -implicitDefEqProofs only [eq_self,xs]
 have hnw:newsB nw=(decide (nw.length≤8)&&nw.all tellB):=rfl
 rw [hnw]
 cases decide (nw.length≤8)
 ·simp -implicitDefEqProofs only [eq_self,xs]
 simp -implicitDefEqProofs only [eq_self,xs]
 have z3:decide ((0:Int)≤1099511627776)=true:=rfl
 have z4:decide ((0:Int)≤0)=true:=rfl
 try simp -implicitDefEqProofs only [z3,z4,eq_self,xs]
 rw [loop_list (s0:=(0:Int)) nw tellB (Sum.inr false) (Sum.inl ()) rfl]
 rotate_left
 ·simp -implicitDefEqProofs only [not_lt_self,Int.lt_irrefl,eq_self,xs]
 ·intro i x hi hx
  have q1:((i:Nat):Int) < ((List.length nw:Nat):Int):=by omega
  have q2:(0:Int)≤(i:Int):=by omega
  simp -implicitDefEqProofs only [q1,q2,hx,w1 (show i≤9223372036854775806 by omega),rnode_ok x.1,rknow_ok x.2.1 x.2.2,eq_self,xs]
  unfold tellB
  cases nodeB x.1<;>cases knowB x.2.2<;>rfl
 cases nw.all tellB
 ·simp -implicitDefEqProofs only [eq_self,xs]
 simp -implicitDefEqProofs only [eq_self,xs]
 have y5:((2:Int)==5)=false:=rfl
 have y6:((2:Int)==6)=false:=rfl
 have y11:decide ((2:Int) < 11)=true:=rfl
 simp -implicitDefEqProofs only [y5,y6,y11,rtabl_ok ([]:List KW) (by simp),F16_ok hk,eq_self,xs]
theorem rmay3 {fr to sq wh ki ks ep bo ak tn:Int} {nw:List NW} {tb:List KW} {tk:ByteArray} {gd:Bool} (hw:nw.length≤1000) (ht:tb.length≤1000) (hk:tk.size≤maxLen):F12 (3,fr,to,sq,wh,ki,ks,nw,tb,ep,bo,ak,tk,tn,gd)=some (msgB (3,fr,to,sq,wh,ki,ks,nw,tb,ep,bo,ak,tk,tn,gd)):=by
 rw [F12_eq]
 have hb:=rbare3 (fr:=fr) (to:=to) (sq:=sq) (wh:=wh) (ki:=ki) (ks:=ks) (nw:=nw) (tb:=tb) (ep:=ep) (bo:=bo) (ak:=ak) (tk:=tk) (tn:=tn) (gd:=gd)
 have hbm:bareM (3,fr,to,sq,wh,ki,ks,nw,tb,ep,bo,ak,tk,tn,gd)=(3,fr,to,sq,wh,ki,ks,nw,[],0,0,0,(⟨#[]⟩:ByteArray),0,false):=rfl
 rw [hbm] at hb
 have hs:=(rsame_eq (3,fr,to,sq,wh,ki,ks,nw,tb,ep,bo,ak,tk,tn,gd) (bareM (3,fr,to,sq,wh,ki,ks,nw,tb,ep,bo,ak,tk,tn,gd))).trans (same_ok (3,fr,to,sq,wh,ki,ks,nw,tb,ep,bo,ak,tk,tn,gd) (bareM (3,fr,to,sq,wh,ki,ks,nw,tb,ep,bo,ak,tk,tn,gd)) hw ht)
 rw [hbm] at hs
 have k1:¬ ((3:Int) < 1):=by decide
 have k2:¬ ((3:Int) > 12):=by decide
 have hp:partsB (3,fr,to,sq,wh,ki,ks,nw,tb,ep,bo,ak,tk,tn,gd)=((!kindB 3 1 || nodeB wh)&&((!kindB 3 2 || knowB ks)&&((!kindB 3 3 || newsB nw)&&((!kindB 3 4 || tabB tb)&&((!kindB 3 7 || tickB ak)&&((!kindB 3 8 || nmB tk))))))):=rfl
 have kb1:kindB 3 1=true:=rfl
 have kb2:kindB 3 2=true:=rfl
 have kb3:kindB 3 3=true:=rfl
 have kb4:kindB 3 4=false:=rfl
 have kb7:kindB 3 7=false:=rfl
 have kb8:kindB 3 8=false:=rfl
 simp -implicitDefEqProofs only [rnode_ok fr,rnode_ok to,hb,hs,k1,k2,eq_self,xs]
 unfold msgB
 rw [hbm,hp]
 have kk1:decide ((1:Int)≤3)=true:=rfl
 have kk2:decide ((3:Int)≤12)=true:=rfl
 simp -implicitDefEqProofs only [kk1,kk2,kb1,kb2,kb3,kb4,kb7,kb8,eq_self,xs]
 cases nodeB fr
 ·simp -implicitDefEqProofs only [eq_self,xs]
 cases nodeB to
 ·simp -implicitDefEqProofs only [eq_self,xs]
 cases (fr==to)
 rotate_left
 ·simp -implicitDefEqProofs only [eq_self,xs]
 simp -implicitDefEqProofs only [eq_self,xs]
 cases hsb:sameB (3,fr,to,sq,wh,ki,ks,nw,tb,ep,bo,ak,tk,tn,gd) (3,fr,to,sq,wh,ki,ks,nw,[],0,0,0,(⟨#[]⟩:ByteArray),0,false)
 ·simp -implicitDefEqProofs only [eq_self,xs]
 unfold sameB at hsb
 simp only [Bool.and_eq_true,beq_iff_eq,decide_eq_true_eq] at hsb
 obtain ⟨q0,q1,q2,q3,q4,q5,q6,q7,q8,q9,q10,q11,q12,q13,q14⟩:=hsb
 subst q8
 subst q11
 have e2:decide (((List.length nw:Nat):Int) > 8)=!decide (List.length nw≤8):=by rw [Bool.eq_iff_iff,Bool.not_eq_true',decide_eq_true_iff,decide_eq_false_iff_not]; omega
 simp -implicitDefEqProofs only [rnode_ok wh,rknow_ok ki ks,e2,dlt 0 0,dgt 0 1099511627776,eq_self,xs]
 cases nodeB wh
 ·simp -implicitDefEqProofs only [eq_self,xs]
 simp -implicitDefEqProofs only [eq_self,xs]
 cases knowB ks
 ·simp -implicitDefEqProofs only [eq_self,xs]
 simp -implicitDefEqProofs only [eq_self,xs]
 have hnw:newsB nw=(decide (nw.length≤8)&&nw.all tellB):=rfl
 rw [hnw]
 cases decide (nw.length≤8)
 ·simp -implicitDefEqProofs only [eq_self,xs]
 simp -implicitDefEqProofs only [eq_self,xs]
 have z3:decide ((0:Int)≤1099511627776)=true:=rfl
 have z4:decide ((0:Int)≤0)=true:=rfl
 try simp -implicitDefEqProofs only [z3,z4,eq_self,xs]
 rw [loop_list (s0:=(0:Int)) nw tellB (Sum.inr false) (Sum.inl ()) rfl]
 rotate_left
 ·simp -implicitDefEqProofs only [not_lt_self,Int.lt_irrefl,eq_self,xs]
 ·intro i x hi hx
  have q1:((i:Nat):Int) < ((List.length nw:Nat):Int):=by omega
  have q2:(0:Int)≤(i:Int):=by omega
  simp -implicitDefEqProofs only [q1,q2,hx,w1 (show i≤9223372036854775806 by omega),rnode_ok x.1,rknow_ok x.2.1 x.2.2,eq_self,xs]
  unfold tellB
  cases nodeB x.1<;>cases knowB x.2.2<;>rfl
 cases nw.all tellB
 ·simp -implicitDefEqProofs only [eq_self,xs]
 simp -implicitDefEqProofs only [eq_self,xs]
 have y5:((3:Int)==5)=false:=rfl
 have y6:((3:Int)==6)=false:=rfl
 have y11:decide ((3:Int) < 11)=true:=rfl
 simp -implicitDefEqProofs only [y5,y6,y11,rtabl_ok ([]:List KW) (by simp),F16_ok hk,eq_self,xs]
theorem rmay4 {fr to sq wh ki ks ep bo ak tn:Int} {nw:List NW} {tb:List KW} {tk:ByteArray} {gd:Bool} (hw:nw.length≤1000) (ht:tb.length≤1000) (hk:tk.size≤maxLen):F12 (4,fr,to,sq,wh,ki,ks,nw,tb,ep,bo,ak,tk,tn,gd)=some (msgB (4,fr,to,sq,wh,ki,ks,nw,tb,ep,bo,ak,tk,tn,gd)):=by
 rw [F12_eq]
 have hb:=rbare4 (fr:=fr) (to:=to) (sq:=sq) (wh:=wh) (ki:=ki) (ks:=ks) (nw:=nw) (tb:=tb) (ep:=ep) (bo:=bo) (ak:=ak) (tk:=tk) (tn:=tn) (gd:=gd)
 have hbm:bareM (4,fr,to,sq,wh,ki,ks,nw,tb,ep,bo,ak,tk,tn,gd)=(4,fr,to,sq,wh,0,0,[],[],0,0,0,(⟨#[]⟩:ByteArray),0,false):=rfl
 rw [hbm] at hb
 have hs:=(rsame_eq (4,fr,to,sq,wh,ki,ks,nw,tb,ep,bo,ak,tk,tn,gd) (bareM (4,fr,to,sq,wh,ki,ks,nw,tb,ep,bo,ak,tk,tn,gd))).trans (same_ok (4,fr,to,sq,wh,ki,ks,nw,tb,ep,bo,ak,tk,tn,gd) (bareM (4,fr,to,sq,wh,ki,ks,nw,tb,ep,bo,ak,tk,tn,gd)) hw ht)
 rw [hbm] at hs
 have k1:¬ ((4:Int) < 1):=by decide
 have k2:¬ ((4:Int) > 12):=by decide
 have hp:partsB (4,fr,to,sq,wh,ki,ks,nw,tb,ep,bo,ak,tk,tn,gd)=((!kindB 4 1 || nodeB wh)&&((!kindB 4 2 || knowB ks)&&((!kindB 4 3 || newsB nw)&&((!kindB 4 4 || tabB tb)&&((!kindB 4 7 || tickB ak)&&((!kindB 4 8 || nmB tk))))))):=rfl
 have kb1:kindB 4 1=true:=rfl
 have kb2:kindB 4 2=false:=rfl
 have kb3:kindB 4 3=false:=rfl
 have kb4:kindB 4 4=false:=rfl
 have kb7:kindB 4 7=false:=rfl
 have kb8:kindB 4 8=false:=rfl
 simp -implicitDefEqProofs only [rnode_ok fr,rnode_ok to,hb,hs,k1,k2,eq_self,xs]
 unfold msgB
 rw [hbm,hp]
 have kk1:decide ((1:Int)≤4)=true:=rfl
 have kk2:decide ((4:Int)≤12)=true:=rfl
 simp -implicitDefEqProofs only [kk1,kk2,kb1,kb2,kb3,kb4,kb7,kb8,eq_self,xs]
 cases nodeB fr
 ·simp -implicitDefEqProofs only [eq_self,xs]
 cases nodeB to
 ·simp -implicitDefEqProofs only [eq_self,xs]
 cases (fr==to)
 rotate_left
 ·simp -implicitDefEqProofs only [eq_self,xs]
 simp -implicitDefEqProofs only [eq_self,xs]
 cases hsb:sameB (4,fr,to,sq,wh,ki,ks,nw,tb,ep,bo,ak,tk,tn,gd) (4,fr,to,sq,wh,0,0,[],[],0,0,0,(⟨#[]⟩:ByteArray),0,false)
 ·simp -implicitDefEqProofs only [eq_self,xs]
 unfold sameB at hsb
 simp only [Bool.and_eq_true,beq_iff_eq,decide_eq_true_eq] at hsb
 obtain ⟨q0,q1,q2,q3,q4,q5,q6,q7,q8,q9,q10,q11,q12,q13,q14⟩:=hsb
 subst q5
 subst q6
 subst q7
 subst q8
 subst q11
 have z2:knowB 0=true:=rfl
 have e2:decide (((List.length ([]:List NW):Nat):Int) > 8)=!decide (List.length ([]:List NW)≤8):=by rw [Bool.eq_iff_iff,Bool.not_eq_true',decide_eq_true_iff,decide_eq_false_iff_not]; omega
 simp -implicitDefEqProofs only [rnode_ok wh,rknow_ok 0 0,e2,dlt 0 0,dgt 0 1099511627776,z2,eq_self,xs]
 cases nodeB wh
 ·simp -implicitDefEqProofs only [eq_self,xs]
 simp -implicitDefEqProofs only [eq_self,xs]
 have z5:decide (List.length ([]:List NW)≤8)=true:=rfl
 have z6:decide (0≤8)=true:=rfl
 have z8:decide (((0:Nat):Int) > 8)=false:=rfl
 try simp -implicitDefEqProofs only [z5,z6,z8,eq_self,xs]
 have z3:decide ((0:Int)≤1099511627776)=true:=rfl
 have z4:decide ((0:Int)≤0)=true:=rfl
 try simp -implicitDefEqProofs only [z3,z4,eq_self,xs]
 rw [loop_list (s0:=(0:Int)) ([]:List NW) tellB (Sum.inr false) (Sum.inl ()) rfl]
 rotate_left
 ·simp -implicitDefEqProofs only [not_lt_self,Int.lt_irrefl,eq_self,xs]
 ·intro i x hi hx; exact absurd hi (by simp)
 have z7:([]:List NW).all tellB=true:=rfl
 try simp -implicitDefEqProofs only [z7,eq_self,xs]
 have y5:((4:Int)==5)=false:=rfl
 have y6:((4:Int)==6)=false:=rfl
 have y11:decide ((4:Int) < 11)=true:=rfl
 simp -implicitDefEqProofs only [y5,y6,y11,rtabl_ok ([]:List KW) (by simp),F16_ok hk,eq_self,xs]
theorem rmay5 {fr to sq wh ki ks ep bo ak tn:Int} {nw:List NW} {tb:List KW} {tk:ByteArray} {gd:Bool} (hw:nw.length≤1000) (ht:tb.length≤1000) (hk:tk.size≤maxLen):F12 (5,fr,to,sq,wh,ki,ks,nw,tb,ep,bo,ak,tk,tn,gd)=some (msgB (5,fr,to,sq,wh,ki,ks,nw,tb,ep,bo,ak,tk,tn,gd)):=by
 rw [F12_eq]
 have hb:=rbare5 (fr:=fr) (to:=to) (sq:=sq) (wh:=wh) (ki:=ki) (ks:=ks) (nw:=nw) (tb:=tb) (ep:=ep) (bo:=bo) (ak:=ak) (tk:=tk) (tn:=tn) (gd:=gd)
 have hbm:bareM (5,fr,to,sq,wh,ki,ks,nw,tb,ep,bo,ak,tk,tn,gd)=(5,fr,to,0,0,0,0,[],tb,0,0,0,(⟨#[]⟩:ByteArray),0,false):=rfl
 rw [hbm] at hb
 have hs:=(rsame_eq (5,fr,to,sq,wh,ki,ks,nw,tb,ep,bo,ak,tk,tn,gd) (bareM (5,fr,to,sq,wh,ki,ks,nw,tb,ep,bo,ak,tk,tn,gd))).trans (same_ok (5,fr,to,sq,wh,ki,ks,nw,tb,ep,bo,ak,tk,tn,gd) (bareM (5,fr,to,sq,wh,ki,ks,nw,tb,ep,bo,ak,tk,tn,gd)) hw ht)
 rw [hbm] at hs
 have k1:¬ ((5:Int) < 1):=by decide
 have k2:¬ ((5:Int) > 12):=by decide
 have hp:partsB (5,fr,to,sq,wh,ki,ks,nw,tb,ep,bo,ak,tk,tn,gd)=((!kindB 5 1 || nodeB wh)&&((!kindB 5 2 || knowB ks)&&((!kindB 5 3 || newsB nw)&&((!kindB 5 4 || tabB tb)&&((!kindB 5 7 || tickB ak)&&((!kindB 5 8 || nmB tk))))))):=rfl
 have kb1:kindB 5 1=false:=rfl
 have kb2:kindB 5 2=false:=rfl
 have kb3:kindB 5 3=false:=rfl
 have kb4:kindB 5 4=true:=rfl
 have kb7:kindB 5 7=false:=rfl
 have kb8:kindB 5 8=false:=rfl
 simp -implicitDefEqProofs only [rnode_ok fr,rnode_ok to,hb,hs,k1,k2,eq_self,xs]
 unfold msgB
 rw [hbm,hp]
 have kk1:decide ((1:Int)≤5)=true:=rfl
 have kk2:decide ((5:Int)≤12)=true:=rfl
 simp -implicitDefEqProofs only [kk1,kk2,kb1,kb2,kb3,kb4,kb7,kb8,eq_self,xs]
 cases nodeB fr
 ·simp -implicitDefEqProofs only [eq_self,xs]
 cases nodeB to
 ·simp -implicitDefEqProofs only [eq_self,xs]
 cases (fr==to)
 rotate_left
 ·simp -implicitDefEqProofs only [eq_self,xs]
 simp -implicitDefEqProofs only [eq_self,xs]
 cases hsb:sameB (5,fr,to,sq,wh,ki,ks,nw,tb,ep,bo,ak,tk,tn,gd) (5,fr,to,0,0,0,0,[],tb,0,0,0,(⟨#[]⟩:ByteArray),0,false)
 ·simp -implicitDefEqProofs only [eq_self,xs]
 unfold sameB at hsb
 simp only [Bool.and_eq_true,beq_iff_eq,decide_eq_true_eq] at hsb
 obtain ⟨q0,q1,q2,q3,q4,q5,q6,q7,q8,q9,q10,q11,q12,q13,q14⟩:=hsb
 subst q4
 subst q5
 subst q6
 subst q7
 subst q11
 have z1:nodeB 0=true:=rfl
 have z2:knowB 0=true:=rfl
 have e2:decide (((List.length ([]:List NW):Nat):Int) > 8)=!decide (List.length ([]:List NW)≤8):=by rw [Bool.eq_iff_iff,Bool.not_eq_true',decide_eq_true_iff,decide_eq_false_iff_not]; omega
 simp -implicitDefEqProofs only [rnode_ok 0,rknow_ok 0 0,e2,dlt 0 0,dgt 0 1099511627776,z1,z2,eq_self,xs]
 have z5:decide (List.length ([]:List NW)≤8)=true:=rfl
 have z6:decide (0≤8)=true:=rfl
 have z8:decide (((0:Nat):Int) > 8)=false:=rfl
 try simp -implicitDefEqProofs only [z5,z6,z8,eq_self,xs]
 have z3:decide ((0:Int)≤1099511627776)=true:=rfl
 have z4:decide ((0:Int)≤0)=true:=rfl
 try simp -implicitDefEqProofs only [z3,z4,eq_self,xs]
 rw [loop_list (s0:=(0:Int)) ([]:List NW) tellB (Sum.inr false) (Sum.inl ()) rfl]
 rotate_left
 ·simp -implicitDefEqProofs only [not_lt_self,Int.lt_irrefl,eq_self,xs]
 ·intro i x hi hx; exact absurd hi (by simp)
 have z7:([]:List NW).all tellB=true:=rfl
 try simp -implicitDefEqProofs only [z7,eq_self,xs]
 have y5:((5:Int)==5)=true:=rfl
 have y6:((5:Int)==6)=false:=rfl
 have y11:decide ((5:Int) < 11)=true:=rfl
 simp -implicitDefEqProofs only [y5,y6,y11,rtabl_ok tb (by exact ht),F16_ok hk,eq_self,xs]
 cases tabB tb<;>rfl
theorem rmay6 {fr to sq wh ki ks ep bo ak tn:Int} {nw:List NW} {tb:List KW} {tk:ByteArray} {gd:Bool} (hw:nw.length≤1000) (ht:tb.length≤1000) (hk:tk.size≤maxLen):F12 (6,fr,to,sq,wh,ki,ks,nw,tb,ep,bo,ak,tk,tn,gd)=some (msgB (6,fr,to,sq,wh,ki,ks,nw,tb,ep,bo,ak,tk,tn,gd)):=by
 rw [F12_eq]
 have hb:=rbare6 (fr:=fr) (to:=to) (sq:=sq) (wh:=wh) (ki:=ki) (ks:=ks) (nw:=nw) (tb:=tb) (ep:=ep) (bo:=bo) (ak:=ak) (tk:=tk) (tn:=tn) (gd:=gd)
 have hbm:bareM (6,fr,to,sq,wh,ki,ks,nw,tb,ep,bo,ak,tk,tn,gd)=(6,fr,to,0,0,0,0,[],tb,0,0,0,(⟨#[]⟩:ByteArray),0,false):=rfl
 rw [hbm] at hb
 have hs:=(rsame_eq (6,fr,to,sq,wh,ki,ks,nw,tb,ep,bo,ak,tk,tn,gd) (bareM (6,fr,to,sq,wh,ki,ks,nw,tb,ep,bo,ak,tk,tn,gd))).trans (same_ok (6,fr,to,sq,wh,ki,ks,nw,tb,ep,bo,ak,tk,tn,gd) (bareM (6,fr,to,sq,wh,ki,ks,nw,tb,ep,bo,ak,tk,tn,gd)) hw ht)
 rw [hbm] at hs
 have k1:¬ ((6:Int) < 1):=by decide
 have k2:¬ ((6:Int) > 12):=by decide
 have hp:partsB (6,fr,to,sq,wh,ki,ks,nw,tb,ep,bo,ak,tk,tn,gd)=((!kindB 6 1 || nodeB wh)&&((!kindB 6 2 || knowB ks)&&((!kindB 6 3 || newsB nw)&&((!kindB 6 4 || tabB tb)&&((!kindB 6 7 || tickB ak)&&((!kindB 6 8 || nmB tk))))))):=rfl
 have kb1:kindB 6 1=false:=rfl
 have kb2:kindB 6 2=false:=rfl
 have kb3:kindB 6 3=false:=rfl
 have kb4:kindB 6 4=true:=rfl
 have kb7:kindB 6 7=false:=rfl
 have kb8:kindB 6 8=false:=rfl
 simp -implicitDefEqProofs only [rnode_ok fr,rnode_ok to,hb,hs,k1,k2,eq_self,xs]
 unfold msgB
 rw [hbm,hp]
 have kk1:decide ((1:Int)≤6)=true:=rfl
 have kk2:decide ((6:Int)≤12)=true:=rfl
 simp -implicitDefEqProofs only [kk1,kk2,kb1,kb2,kb3,kb4,kb7,kb8,eq_self,xs]
 cases nodeB fr
 ·simp -implicitDefEqProofs only [eq_self,xs]
 cases nodeB to
 ·simp -implicitDefEqProofs only [eq_self,xs]
 cases (fr==to)
 rotate_left
 ·simp -implicitDefEqProofs only [eq_self,xs]
 simp -implicitDefEqProofs only [eq_self,xs]
 cases hsb:sameB (6,fr,to,sq,wh,ki,ks,nw,tb,ep,bo,ak,tk,tn,gd) (6,fr,to,0,0,0,0,[],tb,0,0,0,(⟨#[]⟩:ByteArray),0,false)
 ·simp -implicitDefEqProofs only [eq_self,xs]
 unfold sameB at hsb
 simp only [Bool.and_eq_true,beq_iff_eq,decide_eq_true_eq] at hsb
 obtain ⟨q0,q1,q2,q3,q4,q5,q6,q7,q8,q9,q10,q11,q12,q13,q14⟩:=hsb
 subst q4
 subst q5
 subst q6
 subst q7
 subst q11
 have z1:nodeB 0=true:=rfl
 have z2:knowB 0=true:=rfl
 have e2:decide (((List.length ([]:List NW):Nat):Int) > 8)=!decide (List.length ([]:List NW)≤8):=by rw [Bool.eq_iff_iff,Bool.not_eq_true',decide_eq_true_iff,decide_eq_false_iff_not]; omega
 simp -implicitDefEqProofs only [rnode_ok 0,rknow_ok 0 0,e2,dlt 0 0,dgt 0 1099511627776,z1,z2,eq_self,xs]
 have z5:decide (List.length ([]:List NW)≤8)=true:=rfl
 have z6:decide (0≤8)=true:=rfl
 have z8:decide (((0:Nat):Int) > 8)=false:=rfl
 try simp -implicitDefEqProofs only [z5,z6,z8,eq_self,xs]
 have z3:decide ((0:Int)≤1099511627776)=true:=rfl
 have z4:decide ((0:Int)≤0)=true:=rfl
 try simp -implicitDefEqProofs only [z3,z4,eq_self,xs]
 rw [loop_list (s0:=(0:Int)) ([]:List NW) tellB (Sum.inr false) (Sum.inl ()) rfl]
 rotate_left
 ·simp -implicitDefEqProofs only [not_lt_self,Int.lt_irrefl,eq_self,xs]
 ·intro i x hi hx; exact absurd hi (by simp)
 have z7:([]:List NW).all tellB=true:=rfl
 try simp -implicitDefEqProofs only [z7,eq_self,xs]
 have y5:((6:Int)==5)=false:=rfl
 have y6:((6:Int)==6)=true:=rfl
 have y11:decide ((6:Int) < 11)=true:=rfl
 simp -implicitDefEqProofs only [y5,y6,y11,rtabl_ok tb (by exact ht),F16_ok hk,eq_self,xs]
 cases tabB tb<;>rfl
theorem rmay7 {fr to sq wh ki ks ep bo ak tn:Int} {nw:List NW} {tb:List KW} {tk:ByteArray} {gd:Bool} (hw:nw.length≤1000) (ht:tb.length≤1000) (hk:tk.size≤maxLen):F12 (7,fr,to,sq,wh,ki,ks,nw,tb,ep,bo,ak,tk,tn,gd)=some (msgB (7,fr,to,sq,wh,ki,ks,nw,tb,ep,bo,ak,tk,tn,gd)):=by
 rw [F12_eq]
 have hb:=rbare7 (fr:=fr) (to:=to) (sq:=sq) (wh:=wh) (ki:=ki) (ks:=ks) (nw:=nw) (tb:=tb) (ep:=ep) (bo:=bo) (ak:=ak) (tk:=tk) (tn:=tn) (gd:=gd)
 have hbm:bareM (7,fr,to,sq,wh,ki,ks,nw,tb,ep,bo,ak,tk,tn,gd)=(7,fr,to,0,0,0,0,[],[],ep,bo,ak,(⟨#[]⟩:ByteArray),0,false):=rfl
 rw [hbm] at hb
 have hs:=(rsame_eq (7,fr,to,sq,wh,ki,ks,nw,tb,ep,bo,ak,tk,tn,gd) (bareM (7,fr,to,sq,wh,ki,ks,nw,tb,ep,bo,ak,tk,tn,gd))).trans (same_ok (7,fr,to,sq,wh,ki,ks,nw,tb,ep,bo,ak,tk,tn,gd) (bareM (7,fr,to,sq,wh,ki,ks,nw,tb,ep,bo,ak,tk,tn,gd)) hw ht)
 rw [hbm] at hs
 have k1:¬ ((7:Int) < 1):=by decide
 have k2:¬ ((7:Int) > 12):=by decide
 have hp:partsB (7,fr,to,sq,wh,ki,ks,nw,tb,ep,bo,ak,tk,tn,gd)=((!kindB 7 1 || nodeB wh)&&((!kindB 7 2 || knowB ks)&&((!kindB 7 3 || newsB nw)&&((!kindB 7 4 || tabB tb)&&((!kindB 7 7 || tickB ak)&&((!kindB 7 8 || nmB tk))))))):=rfl
 have kb1:kindB 7 1=false:=rfl
 have kb2:kindB 7 2=false:=rfl
 have kb3:kindB 7 3=false:=rfl
 have kb4:kindB 7 4=false:=rfl
 have kb7:kindB 7 7=true:=rfl
 have kb8:kindB 7 8=false:=rfl
 simp -implicitDefEqProofs only [rnode_ok fr,rnode_ok to,hb,hs,k1,k2,eq_self,xs]
 unfold msgB
 rw [hbm,hp]
 have kk1:decide ((1:Int)≤7)=true:=rfl
 have kk2:decide ((7:Int)≤12)=true:=rfl
 simp -implicitDefEqProofs only [kk1,kk2,kb1,kb2,kb3,kb4,kb7,kb8,eq_self,xs]
 cases nodeB fr
 ·simp -implicitDefEqProofs only [eq_self,xs]
 cases nodeB to
 ·simp -implicitDefEqProofs only [eq_self,xs]
 cases (fr==to)
 rotate_left
 ·simp -implicitDefEqProofs only [eq_self,xs]
 simp -implicitDefEqProofs only [eq_self,xs]
 cases hsb:sameB (7,fr,to,sq,wh,ki,ks,nw,tb,ep,bo,ak,tk,tn,gd) (7,fr,to,0,0,0,0,[],[],ep,bo,ak,(⟨#[]⟩:ByteArray),0,false)
 ·simp -implicitDefEqProofs only [eq_self,xs]
 unfold sameB at hsb
 simp only [Bool.and_eq_true,beq_iff_eq,decide_eq_true_eq] at hsb
 obtain ⟨q0,q1,q2,q3,q4,q5,q6,q7,q8,q9,q10,q11,q12,q13,q14⟩:=hsb
 subst q4
 subst q5
 subst q6
 subst q7
 subst q8
 have z1:nodeB 0=true:=rfl
 have z2:knowB 0=true:=rfl
 have e2:decide (((List.length ([]:List NW):Nat):Int) > 8)=!decide (List.length ([]:List NW)≤8):=by rw [Bool.eq_iff_iff,Bool.not_eq_true',decide_eq_true_iff,decide_eq_false_iff_not]; omega
 simp -implicitDefEqProofs only [rnode_ok 0,rknow_ok 0 0,e2,dlt ak 0,dgt ak 1099511627776,z1,z2,eq_self,xs]
 have z5:decide (List.length ([]:List NW)≤8)=true:=rfl
 have z6:decide (0≤8)=true:=rfl
 have z8:decide (((0:Nat):Int) > 8)=false:=rfl
 try simp -implicitDefEqProofs only [z5,z6,z8,eq_self,xs]
 have hak:tickB ak=(decide (0≤ak)&&decide (ak≤1099511627776)):=rfl
 rw [hak]
 cases decide (0≤ak)
 ·simp -implicitDefEqProofs only [eq_self,xs]
 simp -implicitDefEqProofs only [eq_self,xs]
 cases decide (ak≤1099511627776)
 ·simp -implicitDefEqProofs only [eq_self,xs]
 simp -implicitDefEqProofs only [eq_self,xs]
 rw [loop_list (s0:=(0:Int)) ([]:List NW) tellB (Sum.inr false) (Sum.inl ()) rfl]
 rotate_left
 ·simp -implicitDefEqProofs only [not_lt_self,Int.lt_irrefl,eq_self,xs]
 ·intro i x hi hx; exact absurd hi (by simp)
 have z7:([]:List NW).all tellB=true:=rfl
 try simp -implicitDefEqProofs only [z7,eq_self,xs]
 have y5:((7:Int)==5)=false:=rfl
 have y6:((7:Int)==6)=false:=rfl
 have y11:decide ((7:Int) < 11)=true:=rfl
 simp -implicitDefEqProofs only [y5,y6,y11,rtabl_ok ([]:List KW) (by simp),F16_ok hk,eq_self,xs]
theorem rmay8 {fr to sq wh ki ks ep bo ak tn:Int} {nw:List NW} {tb:List KW} {tk:ByteArray} {gd:Bool} (hw:nw.length≤1000) (ht:tb.length≤1000) (hk:tk.size≤maxLen):F12 (8,fr,to,sq,wh,ki,ks,nw,tb,ep,bo,ak,tk,tn,gd)=some (msgB (8,fr,to,sq,wh,ki,ks,nw,tb,ep,bo,ak,tk,tn,gd)):=by
 rw [F12_eq]
 have hb:=rbare8 (fr:=fr) (to:=to) (sq:=sq) (wh:=wh) (ki:=ki) (ks:=ks) (nw:=nw) (tb:=tb) (ep:=ep) (bo:=bo) (ak:=ak) (tk:=tk) (tn:=tn) (gd:=gd)
 have hbm:bareM (8,fr,to,sq,wh,ki,ks,nw,tb,ep,bo,ak,tk,tn,gd)=(8,fr,to,0,0,0,0,[],[],ep,bo,ak,(⟨#[]⟩:ByteArray),0,false):=rfl
 rw [hbm] at hb
 have hs:=(rsame_eq (8,fr,to,sq,wh,ki,ks,nw,tb,ep,bo,ak,tk,tn,gd) (bareM (8,fr,to,sq,wh,ki,ks,nw,tb,ep,bo,ak,tk,tn,gd))).trans (same_ok (8,fr,to,sq,wh,ki,ks,nw,tb,ep,bo,ak,tk,tn,gd) (bareM (8,fr,to,sq,wh,ki,ks,nw,tb,ep,bo,ak,tk,tn,gd)) hw ht)
 rw [hbm] at hs
 have k1:¬ ((8:Int) < 1):=by decide
 have k2:¬ ((8:Int) > 12):=by decide
 have hp:partsB (8,fr,to,sq,wh,ki,ks,nw,tb,ep,bo,ak,tk,tn,gd)=((!kindB 8 1 || nodeB wh)&&((!kindB 8 2 || knowB ks)&&((!kindB 8 3 || newsB nw)&&((!kindB 8 4 || tabB tb)&&((!kindB 8 7 || tickB ak)&&((!kindB 8 8 || nmB tk))))))):=rfl
 have kb1:kindB 8 1=false:=rfl
 have kb2:kindB 8 2=false:=rfl
 have kb3:kindB 8 3=false:=rfl
 have kb4:kindB 8 4=false:=rfl
 have kb7:kindB 8 7=true:=rfl
 have kb8:kindB 8 8=false:=rfl
 simp -implicitDefEqProofs only [rnode_ok fr,rnode_ok to,hb,hs,k1,k2,eq_self,xs]
 unfold msgB
 rw [hbm,hp]
 have kk1:decide ((1:Int)≤8)=true:=rfl
 have kk2:decide ((8:Int)≤12)=true:=rfl
 simp -implicitDefEqProofs only [kk1,kk2,kb1,kb2,kb3,kb4,kb7,kb8,eq_self,xs]
 cases nodeB fr
 ·simp -implicitDefEqProofs only [eq_self,xs]
 cases nodeB to
 ·simp -implicitDefEqProofs only [eq_self,xs]
 cases (fr==to)
 rotate_left
 ·simp -implicitDefEqProofs only [eq_self,xs]
 simp -implicitDefEqProofs only [eq_self,xs]
 cases hsb:sameB (8,fr,to,sq,wh,ki,ks,nw,tb,ep,bo,ak,tk,tn,gd) (8,fr,to,0,0,0,0,[],[],ep,bo,ak,(⟨#[]⟩:ByteArray),0,false)
 ·simp -implicitDefEqProofs only [eq_self,xs]
 unfold sameB at hsb
 simp only [Bool.and_eq_true,beq_iff_eq,decide_eq_true_eq] at hsb
 obtain ⟨q0,q1,q2,q3,q4,q5,q6,q7,q8,q9,q10,q11,q12,q13,q14⟩:=hsb
 subst q4
 subst q5
 subst q6
 subst q7
 subst q8
 have z1:nodeB 0=true:=rfl
 have z2:knowB 0=true:=rfl
 have e2:decide (((List.length ([]:List NW):Nat):Int) > 8)=!decide (List.length ([]:List NW)≤8):=by rw [Bool.eq_iff_iff,Bool.not_eq_true',decide_eq_true_iff,decide_eq_false_iff_not]; omega
 simp -implicitDefEqProofs only [rnode_ok 0,rknow_ok 0 0,e2,dlt ak 0,dgt ak 1099511627776,z1,z2,eq_self,xs]
 have z5:decide (List.length ([]:List NW)≤8)=true:=rfl
 have z6:decide (0≤8)=true:=rfl
 have z8:decide (((0:Nat):Int) > 8)=false:=rfl
 try simp -implicitDefEqProofs only [z5,z6,z8,eq_self,xs]
 have hak:tickB ak=(decide (0≤ak)&&decide (ak≤1099511627776)):=rfl
 rw [hak]
 cases decide (0≤ak)
 ·simp -implicitDefEqProofs only [eq_self,xs]
 simp -implicitDefEqProofs only [eq_self,xs]
 cases decide (ak≤1099511627776)
 ·simp -implicitDefEqProofs only [eq_self,xs]
 simp -implicitDefEqProofs only [eq_self,xs]
 rw [loop_list (s0:=(0:Int)) ([]:List NW) tellB (Sum.inr false) (Sum.inl ()) rfl]
 rotate_left
 ·simp -implicitDefEqProofs only [not_lt_self,Int.lt_irrefl,eq_self,xs]
 ·intro i x hi hx; exact absurd hi (by simp)
 have z7:([]:List NW).all tellB=true:=rfl
 try simp -implicitDefEqProofs only [z7,eq_self,xs]
 have y5:((8:Int)==5)=false:=rfl
 have y6:((8:Int)==6)=false:=rfl
 have y11:decide ((8:Int) < 11)=true:=rfl
 simp -implicitDefEqProofs only [y5,y6,y11,rtabl_ok ([]:List KW) (by simp),F16_ok hk,eq_self,xs]
theorem rmay9 {fr to sq wh ki ks ep bo ak tn:Int} {nw:List NW} {tb:List KW} {tk:ByteArray} {gd:Bool} (hw:nw.length≤1000) (ht:tb.length≤1000) (hk:tk.size≤maxLen):F12 (9,fr,to,sq,wh,ki,ks,nw,tb,ep,bo,ak,tk,tn,gd)=some (msgB (9,fr,to,sq,wh,ki,ks,nw,tb,ep,bo,ak,tk,tn,gd)):=by
 rw [F12_eq]
 have hb:=rbare9 (fr:=fr) (to:=to) (sq:=sq) (wh:=wh) (ki:=ki) (ks:=ks) (nw:=nw) (tb:=tb) (ep:=ep) (bo:=bo) (ak:=ak) (tk:=tk) (tn:=tn) (gd:=gd)
 have hbm:bareM (9,fr,to,sq,wh,ki,ks,nw,tb,ep,bo,ak,tk,tn,gd)=(9,fr,to,0,0,0,0,[],[],ep,bo,0,(⟨#[]⟩:ByteArray),0,false):=rfl
 rw [hbm] at hb
 have hs:=(rsame_eq (9,fr,to,sq,wh,ki,ks,nw,tb,ep,bo,ak,tk,tn,gd) (bareM (9,fr,to,sq,wh,ki,ks,nw,tb,ep,bo,ak,tk,tn,gd))).trans (same_ok (9,fr,to,sq,wh,ki,ks,nw,tb,ep,bo,ak,tk,tn,gd) (bareM (9,fr,to,sq,wh,ki,ks,nw,tb,ep,bo,ak,tk,tn,gd)) hw ht)
 rw [hbm] at hs
 have k1:¬ ((9:Int) < 1):=by decide
 have k2:¬ ((9:Int) > 12):=by decide
 have hp:partsB (9,fr,to,sq,wh,ki,ks,nw,tb,ep,bo,ak,tk,tn,gd)=((!kindB 9 1 || nodeB wh)&&((!kindB 9 2 || knowB ks)&&((!kindB 9 3 || newsB nw)&&((!kindB 9 4 || tabB tb)&&((!kindB 9 7 || tickB ak)&&((!kindB 9 8 || nmB tk))))))):=rfl
 have kb1:kindB 9 1=false:=rfl
 have kb2:kindB 9 2=false:=rfl
 have kb3:kindB 9 3=false:=rfl
 have kb4:kindB 9 4=false:=rfl
 have kb7:kindB 9 7=false:=rfl
 have kb8:kindB 9 8=false:=rfl
 simp -implicitDefEqProofs only [rnode_ok fr,rnode_ok to,hb,hs,k1,k2,eq_self,xs]
 unfold msgB
 rw [hbm,hp]
 have kk1:decide ((1:Int)≤9)=true:=rfl
 have kk2:decide ((9:Int)≤12)=true:=rfl
 simp -implicitDefEqProofs only [kk1,kk2,kb1,kb2,kb3,kb4,kb7,kb8,eq_self,xs]
 cases nodeB fr
 ·simp -implicitDefEqProofs only [eq_self,xs]
 cases nodeB to
 ·simp -implicitDefEqProofs only [eq_self,xs]
 cases (fr==to)
 rotate_left
 ·simp -implicitDefEqProofs only [eq_self,xs]
 simp -implicitDefEqProofs only [eq_self,xs]
 cases hsb:sameB (9,fr,to,sq,wh,ki,ks,nw,tb,ep,bo,ak,tk,tn,gd) (9,fr,to,0,0,0,0,[],[],ep,bo,0,(⟨#[]⟩:ByteArray),0,false)
 ·simp -implicitDefEqProofs only [eq_self,xs]
 unfold sameB at hsb
 simp only [Bool.and_eq_true,beq_iff_eq,decide_eq_true_eq] at hsb
 obtain ⟨q0,q1,q2,q3,q4,q5,q6,q7,q8,q9,q10,q11,q12,q13,q14⟩:=hsb
 subst q4
 subst q5
 subst q6
 subst q7
 subst q8
 subst q11
 have z1:nodeB 0=true:=rfl
 have z2:knowB 0=true:=rfl
 have e2:decide (((List.length ([]:List NW):Nat):Int) > 8)=!decide (List.length ([]:List NW)≤8):=by rw [Bool.eq_iff_iff,Bool.not_eq_true',decide_eq_true_iff,decide_eq_false_iff_not]; omega
 simp -implicitDefEqProofs only [rnode_ok 0,rknow_ok 0 0,e2,dlt 0 0,dgt 0 1099511627776,z1,z2,eq_self,xs]
 have z5:decide (List.length ([]:List NW)≤8)=true:=rfl
 have z6:decide (0≤8)=true:=rfl
 have z8:decide (((0:Nat):Int) > 8)=false:=rfl
 try simp -implicitDefEqProofs only [z5,z6,z8,eq_self,xs]
 have z3:decide ((0:Int)≤1099511627776)=true:=rfl
 have z4:decide ((0:Int)≤0)=true:=rfl
 try simp -implicitDefEqProofs only [z3,z4,eq_self,xs]
 rw [loop_list (s0:=(0:Int)) ([]:List NW) tellB (Sum.inr false) (Sum.inl ()) rfl]
 rotate_left
 ·simp -implicitDefEqProofs only [not_lt_self,Int.lt_irrefl,eq_self,xs]
 ·intro i x hi hx; exact absurd hi (by simp)
 have z7:([]:List NW).all tellB=true:=rfl
 try simp -implicitDefEqProofs only [z7,eq_self,xs]
 have y5:((9:Int)==5)=false:=rfl
 have y6:((9:Int)==6)=false:=rfl
 have y11:decide ((9:Int) < 11)=true:=rfl
 simp -implicitDefEqProofs only [y5,y6,y11,rtabl_ok ([]:List KW) (by simp),F16_ok hk,eq_self,xs]
theorem rmay10 {fr to sq wh ki ks ep bo ak tn:Int} {nw:List NW} {tb:List KW} {tk:ByteArray} {gd:Bool} (hw:nw.length≤1000) (ht:tb.length≤1000) (hk:tk.size≤maxLen):F12 (10,fr,to,sq,wh,ki,ks,nw,tb,ep,bo,ak,tk,tn,gd)=some (msgB (10,fr,to,sq,wh,ki,ks,nw,tb,ep,bo,ak,tk,tn,gd)):=by
 rw [F12_eq]
 have hb:=rbare10 (fr:=fr) (to:=to) (sq:=sq) (wh:=wh) (ki:=ki) (ks:=ks) (nw:=nw) (tb:=tb) (ep:=ep) (bo:=bo) (ak:=ak) (tk:=tk) (tn:=tn) (gd:=gd)
 have hbm:bareM (10,fr,to,sq,wh,ki,ks,nw,tb,ep,bo,ak,tk,tn,gd)=(10,fr,to,0,0,0,0,[],[],0,bo,ak,(⟨#[]⟩:ByteArray),0,false):=rfl
 rw [hbm] at hb
 have hs:=(rsame_eq (10,fr,to,sq,wh,ki,ks,nw,tb,ep,bo,ak,tk,tn,gd) (bareM (10,fr,to,sq,wh,ki,ks,nw,tb,ep,bo,ak,tk,tn,gd))).trans (same_ok (10,fr,to,sq,wh,ki,ks,nw,tb,ep,bo,ak,tk,tn,gd) (bareM (10,fr,to,sq,wh,ki,ks,nw,tb,ep,bo,ak,tk,tn,gd)) hw ht)
 rw [hbm] at hs
 have k1:¬ ((10:Int) < 1):=by decide
 have k2:¬ ((10:Int) > 12):=by decide
 have hp:partsB (10,fr,to,sq,wh,ki,ks,nw,tb,ep,bo,ak,tk,tn,gd)=((!kindB 10 1 || nodeB wh)&&((!kindB 10 2 || knowB ks)&&((!kindB 10 3 || newsB nw)&&((!kindB 10 4 || tabB tb)&&((!kindB 10 7 || tickB ak)&&((!kindB 10 8 || nmB tk))))))):=rfl
 have kb1:kindB 10 1=false:=rfl
 have kb2:kindB 10 2=false:=rfl
 have kb3:kindB 10 3=false:=rfl
 have kb4:kindB 10 4=false:=rfl
 have kb7:kindB 10 7=true:=rfl
 have kb8:kindB 10 8=false:=rfl
 simp -implicitDefEqProofs only [rnode_ok fr,rnode_ok to,hb,hs,k1,k2,eq_self,xs]
 unfold msgB
 rw [hbm,hp]
 have kk1:decide ((1:Int)≤10)=true:=rfl
 have kk2:decide ((10:Int)≤12)=true:=rfl
 simp -implicitDefEqProofs only [kk1,kk2,kb1,kb2,kb3,kb4,kb7,kb8,eq_self,xs]
 cases nodeB fr
 ·simp -implicitDefEqProofs only [eq_self,xs]
 cases nodeB to
 ·simp -implicitDefEqProofs only [eq_self,xs]
 cases (fr==to)
 rotate_left
 ·simp -implicitDefEqProofs only [eq_self,xs]
 simp -implicitDefEqProofs only [eq_self,xs]
 cases hsb:sameB (10,fr,to,sq,wh,ki,ks,nw,tb,ep,bo,ak,tk,tn,gd) (10,fr,to,0,0,0,0,[],[],0,bo,ak,(⟨#[]⟩:ByteArray),0,false)
 ·simp -implicitDefEqProofs only [eq_self,xs]
 unfold sameB at hsb
 simp only [Bool.and_eq_true,beq_iff_eq,decide_eq_true_eq] at hsb
 obtain ⟨q0,q1,q2,q3,q4,q5,q6,q7,q8,q9,q10,q11,q12,q13,q14⟩:=hsb
 subst q4
 subst q5
 subst q6
 subst q7
 subst q8
 have z1:nodeB 0=true:=rfl
 have z2:knowB 0=true:=rfl
 have e2:decide (((List.length ([]:List NW):Nat):Int) > 8)=!decide (List.length ([]:List NW)≤8):=by rw [Bool.eq_iff_iff,Bool.not_eq_true',decide_eq_true_iff,decide_eq_false_iff_not]; omega
 simp -implicitDefEqProofs only [rnode_ok 0,rknow_ok 0 0,e2,dlt ak 0,dgt ak 1099511627776,z1,z2,eq_self,xs]
 have z5:decide (List.length ([]:List NW)≤8)=true:=rfl
 have z6:decide (0≤8)=true:=rfl
 have z8:decide (((0:Nat):Int) > 8)=false:=rfl
 try simp -implicitDefEqProofs only [z5,z6,z8,eq_self,xs]
 have hak:tickB ak=(decide (0≤ak)&&decide (ak≤1099511627776)):=rfl
 rw [hak]
 cases decide (0≤ak)
 ·simp -implicitDefEqProofs only [eq_self,xs]
 simp -implicitDefEqProofs only [eq_self,xs]
 cases decide (ak≤1099511627776)
 ·simp -implicitDefEqProofs only [eq_self,xs]
 simp -implicitDefEqProofs only [eq_self,xs]
 rw [loop_list (s0:=(0:Int)) ([]:List NW) tellB (Sum.inr false) (Sum.inl ()) rfl]
 rotate_left
 ·simp -implicitDefEqProofs only [not_lt_self,Int.lt_irrefl,eq_self,xs]
 ·intro i x hi hx; exact absurd hi (by simp)
 have z7:([]:List NW).all tellB=true:=rfl
 try simp -implicitDefEqProofs only [z7,eq_self,xs]
 have y5:((10:Int)==5)=false:=rfl
 have y6:((10:Int)==6)=false:=rfl
 have y11:decide ((10:Int) < 11)=true:=rfl
 simp -implicitDefEqProofs only [y5,y6,y11,rtabl_ok ([]:List KW) (by simp),F16_ok hk,eq_self,xs]
theorem rmay11 {fr to sq wh ki ks ep bo ak tn:Int} {nw:List NW} {tb:List KW} {tk:ByteArray} {gd:Bool} (hw:nw.length≤1000) (ht:tb.length≤1000) (hk:tk.size≤maxLen):F12 (11,fr,to,sq,wh,ki,ks,nw,tb,ep,bo,ak,tk,tn,gd)=some (msgB (11,fr,to,sq,wh,ki,ks,nw,tb,ep,bo,ak,tk,tn,gd)):=by
 rw [F12_eq]
 have hb:=rbare11 (fr:=fr) (to:=to) (sq:=sq) (wh:=wh) (ki:=ki) (ks:=ks) (nw:=nw) (tb:=tb) (ep:=ep) (bo:=bo) (ak:=ak) (tk:=tk) (tn:=tn) (gd:=gd)
 have hbm:bareM (11,fr,to,sq,wh,ki,ks,nw,tb,ep,bo,ak,tk,tn,gd)=(11,fr,to,0,0,0,0,[],[],ep,bo,ak,tk,tn,false):=rfl
 rw [hbm] at hb
 have hs:=(rsame_eq (11,fr,to,sq,wh,ki,ks,nw,tb,ep,bo,ak,tk,tn,gd) (bareM (11,fr,to,sq,wh,ki,ks,nw,tb,ep,bo,ak,tk,tn,gd))).trans (same_ok (11,fr,to,sq,wh,ki,ks,nw,tb,ep,bo,ak,tk,tn,gd) (bareM (11,fr,to,sq,wh,ki,ks,nw,tb,ep,bo,ak,tk,tn,gd)) hw ht)
 rw [hbm] at hs
 have k1:¬ ((11:Int) < 1):=by decide
 have k2:¬ ((11:Int) > 12):=by decide
 have hp:partsB (11,fr,to,sq,wh,ki,ks,nw,tb,ep,bo,ak,tk,tn,gd)=((!kindB 11 1 || nodeB wh)&&((!kindB 11 2 || knowB ks)&&((!kindB 11 3 || newsB nw)&&((!kindB 11 4 || tabB tb)&&((!kindB 11 7 || tickB ak)&&((!kindB 11 8 || nmB tk))))))):=rfl
 have kb1:kindB 11 1=false:=rfl
 have kb2:kindB 11 2=false:=rfl
 have kb3:kindB 11 3=false:=rfl
 have kb4:kindB 11 4=false:=rfl
 have kb7:kindB 11 7=true:=rfl
 have kb8:kindB 11 8=true:=rfl
 simp -implicitDefEqProofs only [rnode_ok fr,rnode_ok to,hb,hs,k1,k2,eq_self,xs]
 unfold msgB
 rw [hbm,hp]
 have kk1:decide ((1:Int)≤11)=true:=rfl
 have kk2:decide ((11:Int)≤12)=true:=rfl
 simp -implicitDefEqProofs only [kk1,kk2,kb1,kb2,kb3,kb4,kb7,kb8,eq_self,xs]
 cases nodeB fr
 ·simp -implicitDefEqProofs only [eq_self,xs]
 cases nodeB to
 ·simp -implicitDefEqProofs only [eq_self,xs]
 cases (fr==to)
 rotate_left
 ·simp -implicitDefEqProofs only [eq_self,xs]
 simp -implicitDefEqProofs only [eq_self,xs]
 cases hsb:sameB (11,fr,to,sq,wh,ki,ks,nw,tb,ep,bo,ak,tk,tn,gd) (11,fr,to,0,0,0,0,[],[],ep,bo,ak,tk,tn,false)
 ·simp -implicitDefEqProofs only [eq_self,xs]
 unfold sameB at hsb
 simp only [Bool.and_eq_true,beq_iff_eq,decide_eq_true_eq] at hsb
 obtain ⟨q0,q1,q2,q3,q4,q5,q6,q7,q8,q9,q10,q11,q12,q13,q14⟩:=hsb
 subst q4
 subst q5
 subst q6
 subst q7
 subst q8
 have z1:nodeB 0=true:=rfl
 have z2:knowB 0=true:=rfl
 have e2:decide (((List.length ([]:List NW):Nat):Int) > 8)=!decide (List.length ([]:List NW)≤8):=by rw [Bool.eq_iff_iff,Bool.not_eq_true',decide_eq_true_iff,decide_eq_false_iff_not]; omega
 simp -implicitDefEqProofs only [rnode_ok 0,rknow_ok 0 0,e2,dlt ak 0,dgt ak 1099511627776,z1,z2,eq_self,xs]
 have z5:decide (List.length ([]:List NW)≤8)=true:=rfl
 have z6:decide (0≤8)=true:=rfl
 have z8:decide (((0:Nat):Int) > 8)=false:=rfl
 try simp -implicitDefEqProofs only [z5,z6,z8,eq_self,xs]
 have hak:tickB ak=(decide (0≤ak)&&decide (ak≤1099511627776)):=rfl
 rw [hak]
 cases decide (0≤ak)
 ·simp -implicitDefEqProofs only [eq_self,xs]
 simp -implicitDefEqProofs only [eq_self,xs]
 cases decide (ak≤1099511627776)
 ·simp -implicitDefEqProofs only [eq_self,xs]
 simp -implicitDefEqProofs only [eq_self,xs]
 rw [loop_list (s0:=(0:Int)) ([]:List NW) tellB (Sum.inr false) (Sum.inl ()) rfl]
 rotate_left
 ·simp -implicitDefEqProofs only [not_lt_self,Int.lt_irrefl,eq_self,xs]
 ·intro i x hi hx; exact absurd hi (by simp)
 have z7:([]:List NW).all tellB=true:=rfl
 try simp -implicitDefEqProofs only [z7,eq_self,xs]
 have y5:((11:Int)==5)=false:=rfl
 have y6:((11:Int)==6)=false:=rfl
 have y11:decide ((11:Int) < 11)=false:=rfl
 simp -implicitDefEqProofs only [y5,y6,y11,rtabl_ok ([]:List KW) (by simp),F16_ok hk,eq_self,xs]
theorem rmay12 {fr to sq wh ki ks ep bo ak tn:Int} {nw:List NW} {tb:List KW} {tk:ByteArray} {gd:Bool} (hw:nw.length≤1000) (ht:tb.length≤1000) (hk:tk.size≤maxLen):F12 (12,fr,to,sq,wh,ki,ks,nw,tb,ep,bo,ak,tk,tn,gd)=some (msgB (12,fr,to,sq,wh,ki,ks,nw,tb,ep,bo,ak,tk,tn,gd)):=by
 rw [F12_eq]
 have hb:=rbare12 (fr:=fr) (to:=to) (sq:=sq) (wh:=wh) (ki:=ki) (ks:=ks) (nw:=nw) (tb:=tb) (ep:=ep) (bo:=bo) (ak:=ak) (tk:=tk) (tn:=tn) (gd:=gd)
 have hbm:bareM (12,fr,to,sq,wh,ki,ks,nw,tb,ep,bo,ak,tk,tn,gd)=(12,fr,to,0,0,0,0,[],[],0,0,0,tk,tn,gd):=rfl
 rw [hbm] at hb
 have hs:=(rsame_eq (12,fr,to,sq,wh,ki,ks,nw,tb,ep,bo,ak,tk,tn,gd) (bareM (12,fr,to,sq,wh,ki,ks,nw,tb,ep,bo,ak,tk,tn,gd))).trans (same_ok (12,fr,to,sq,wh,ki,ks,nw,tb,ep,bo,ak,tk,tn,gd) (bareM (12,fr,to,sq,wh,ki,ks,nw,tb,ep,bo,ak,tk,tn,gd)) hw ht)
 rw [hbm] at hs
 have k1:¬ ((12:Int) < 1):=by decide
 have k2:¬ ((12:Int) > 12):=by decide
 have hp:partsB (12,fr,to,sq,wh,ki,ks,nw,tb,ep,bo,ak,tk,tn,gd)=((!kindB 12 1 || nodeB wh)&&((!kindB 12 2 || knowB ks)&&((!kindB 12 3 || newsB nw)&&((!kindB 12 4 || tabB tb)&&((!kindB 12 7 || tickB ak)&&((!kindB 12 8 || nmB tk))))))):=rfl
 have kb1:kindB 12 1=false:=rfl
 have kb2:kindB 12 2=false:=rfl
 have kb3:kindB 12 3=false:=rfl
 have kb4:kindB 12 4=false:=rfl
 have kb7:kindB 12 7=false:=rfl
 have kb8:kindB 12 8=true:=rfl
 simp -implicitDefEqProofs only [rnode_ok fr,rnode_ok to,hb,hs,k1,k2,eq_self,xs]
 unfold msgB
 rw [hbm,hp]
 have kk1:decide ((1:Int)≤12)=true:=rfl
 have kk2:decide ((12:Int)≤12)=true:=rfl
 simp -implicitDefEqProofs only [kk1,kk2,kb1,kb2,kb3,kb4,kb7,kb8,eq_self,xs]
 cases nodeB fr
 ·simp -implicitDefEqProofs only [eq_self,xs]
 cases nodeB to
 ·simp -implicitDefEqProofs only [eq_self,xs]
 cases (fr==to)
 rotate_left
 ·simp -implicitDefEqProofs only [eq_self,xs]
 simp -implicitDefEqProofs only [eq_self,xs]
 cases hsb:sameB (12,fr,to,sq,wh,ki,ks,nw,tb,ep,bo,ak,tk,tn,gd) (12,fr,to,0,0,0,0,[],[],0,0,0,tk,tn,gd)
 ·simp -implicitDefEqProofs only [eq_self,xs]
 unfold sameB at hsb
 simp only [Bool.and_eq_true,beq_iff_eq,decide_eq_true_eq] at hsb
 obtain ⟨q0,q1,q2,q3,q4,q5,q6,q7,q8,q9,q10,q11,q12,q13,q14⟩:=hsb
 subst q4
 subst q5
 subst q6
 subst q7
 subst q8
 subst q11
 have z1:nodeB 0=true:=rfl
 have z2:knowB 0=true:=rfl
 have e2:decide (((List.length ([]:List NW):Nat):Int) > 8)=!decide (List.length ([]:List NW)≤8):=by rw [Bool.eq_iff_iff,Bool.not_eq_true',decide_eq_true_iff,decide_eq_false_iff_not]; omega
 simp -implicitDefEqProofs only [rnode_ok 0,rknow_ok 0 0,e2,dlt 0 0,dgt 0 1099511627776,z1,z2,eq_self,xs]
 have z5:decide (List.length ([]:List NW)≤8)=true:=rfl
 have z6:decide (0≤8)=true:=rfl
 have z8:decide (((0:Nat):Int) > 8)=false:=rfl
 try simp -implicitDefEqProofs only [z5,z6,z8,eq_self,xs]
 have z3:decide ((0:Int)≤1099511627776)=true:=rfl
 have z4:decide ((0:Int)≤0)=true:=rfl
 try simp -implicitDefEqProofs only [z3,z4,eq_self,xs]
 rw [loop_list (s0:=(0:Int)) ([]:List NW) tellB (Sum.inr false) (Sum.inl ()) rfl]
 rotate_left
 ·simp -implicitDefEqProofs only [not_lt_self,Int.lt_irrefl,eq_self,xs]
 ·intro i x hi hx; exact absurd hi (by simp)
 have z7:([]:List NW).all tellB=true:=rfl
 try simp -implicitDefEqProofs only [z7,eq_self,xs]
 have y5:((12:Int)==5)=false:=rfl
 have y6:((12:Int)==6)=false:=rfl
 have y11:decide ((12:Int) < 11)=false:=rfl
 simp -implicitDefEqProofs only [y5,y6,y11,rtabl_ok ([]:List KW) (by simp),F16_ok hk,eq_self,xs]
theorem rmay_ok (m:MB) (hw:m.2.2.2.2.2.2.2.1.length≤1000) (ht:m.2.2.2.2.2.2.2.2.1.length≤1000) (hk:m.2.2.2.2.2.2.2.2.2.2.2.2.1.size≤maxLen):F12 m=some (msgB m):=by
 obtain ⟨k,fr,to,sq,wh,ki,ks,nw,tb,ep,bo,ak,tk,tn,gd⟩:=m
 by_cases k1:k < 1
 ·rw [F12_eq]
  unfold msgB
  have e:decide ((1:Int)≤k)=false:=by rw [decide_eq_false_iff_not]; omega
  simp -implicitDefEqProofs only [k1,e,eq_self,xs]
 by_cases k2:k > 12
 ·rw [F12_eq]
  unfold msgB
  have e:decide (k≤12)=false:=by rw [decide_eq_false_iff_not]; omega
  simp -implicitDefEqProofs only [k1,k2,e,eq_self,xs]
 have hk12:k=1∨k=2∨k=3∨k=4∨k=5∨k=6∨k=7∨k=8∨k=9∨k=10∨k=11∨k=12:=by omega
 rcases hk12 with rfl | rfl | rfl | rfl | rfl | rfl | rfl | rfl | rfl | rfl | rfl | rfl
 ·exact rmay1 hw ht hk
 ·exact rmay2 hw ht hk
 ·exact rmay3 hw ht hk
 ·exact rmay4 hw ht hk
 ·exact rmay5 hw ht hk
 ·exact rmay6 hw ht hk
 ·exact rmay7 hw ht hk
 ·exact rmay8 hw ht hk
 ·exact rmay9 hw ht hk
 ·exact rmay10 hw ht hk
 ·exact rmay11 hw ht hk
 ·exact rmay12 hw ht hk
end Go.Proofs.Ytgbcankkfmhcoaa.VL
end
section
namespace Go.Proofs.Ytgbcankkfmhcoaa.VL
open Go
set_option linter.unusedVariables false
set_option linter.unusedSectionVars false
set_option linter.unusedSimpArgs false
set_option maxRecDepth 100000
variable [Val]
theorem bad_write {x:MB} (hw:x.2.2.2.2.2.2.2.1.length≤1000) (ht:x.2.2.2.2.2.2.2.2.1.length≤1000) (hk:x.2.2.2.2.2.2.2.2.2.2.2.2.1.size≤maxLen) (h:msgB x=false):F10 x=some (ByteArray.mk #[],1)∧F11 x=some 1:=by
 have c:=check_ok x hw ht hk
 rw [h,if_neg (by decide)] at c
 refine ⟨?_,c⟩
 rw [F10_eq]
 obtain ⟨k,fr,to,sq,wh,ki,ks,nw,tb,ep,bo,ak,tk,tn,gd⟩:=x
 simp only [c,Option.bind_some,nz1,cond_true]
theorem max21 {n:Nat} (h:n≤21):n≤maxLen:=Nat.le_trans h (by decide)
end Go.Proofs.Ytgbcankkfmhcoaa.VL
end
section
namespace Go.Proofs.Ytgbcankkfmhcoaa.VL
open Go
set_option linter.unusedVariables false
set_option linter.unusedSectionVars false
set_option linter.unusedSimpArgs false
set_option maxRecDepth 100000
variable [Val]
def hiZ (n:Nat):List Int:=if h:n≤127 then [] else ((128+n % 128:Nat):Int)::hiZ (n / 128)
termination_by n
decreasing_by omega
def loZ (n:Nat):Nat:=if h:n≤127 then n else loZ (n / 128)
termination_by n
decreasing_by omega
theorem hiZ_small {n:Nat} (h:n≤127):hiZ n=[]:=by rw [hiZ,dif_pos h]
theorem hiZ_big {n:Nat} (h:¬ n≤127):hiZ n=((128+n % 128:Nat):Int)::hiZ (n / 128):=by rw [hiZ,dif_neg h]
theorem loZ_small {n:Nat} (h:n≤127):loZ n=n:=by rw [loZ,dif_pos h]
theorem loZ_big {n:Nat} (h:¬ n≤127):loZ n=loZ (n / 128):=by rw [loZ,dif_neg h]
def numZ (n:Nat):List Int:=hiZ n++[((loZ n:Nat):Int)]
theorem loZ_le:∀ n:Nat,loZ n≤127:=by
 intro n
 induction n using Nat.strongRecOn with
 | ind n ih =>
  by_cases h:n≤127
  ·rw [loZ_small h]; exact h
  ·rw [loZ_big h]; exact ih _ (by omega)
theorem hiZ_len:∀ (k n:Nat),n < 128 ^ (k+1)→(hiZ n).length≤k:=by
 intro k
 induction k with
 | zero=>intro n h; rw [hiZ_small (by omega)]; exact Nat.le_refl _
 | succ k ih =>
  intro n h
  by_cases hs:n≤127
  ·rw [hiZ_small hs]; exact Nat.zero_le _
  ·rw [hiZ_big hs,List.length_cons]
   have:=ih (n / 128) (by
    rw [Nat.div_lt_iff_lt_mul (by omega)]
    rw [Nat.pow_succ] at h; exact h)
   omega
theorem or_tab:∀ r:Fin 256,IntKind.wrap .u8 (((((BitVec.ofInt 8 ((r.val:Nat):Int)).or (BitVec.ofInt 8 128)).toNat:Nat)):Int)=((128+r.val % 128:Nat):Int):=by decide +kernel
theorem w8 (n:Nat):IntKind.wrap .u8 ((n:Nat):Int)=((n % 256:Nat):Int):=by rw [IntKind.wrap_u8]; omega
theorem or_ok (n:Nat):IntKind.wrap .u8 (((((BitVec.ofInt 8 (IntKind.wrap .u8 ((n:Nat):Int))).or (BitVec.ofInt 8 128)).toNat:Nat)):Int)=((128+n % 128:Nat):Int):=by
 rw [show IntKind.wrap .u8 ((n:Nat):Int)=((n % 256:Nat):Int) from w8 n]
 have:=or_tab ⟨n % 256,Nat.mod_lt _ (by omega)⟩
 simp only at this
 rw [this]; omega
def bI (x:Int):UInt8:=UInt8.ofBitVec (BitVec.ofFin (Fin.mk (Nat.mod (Int.toNat x) 256) (Nat.mod_lt (Int.toNat x) (by decide))))
theorem bI_toNat (x:Int):(bI x).toNat=x.toNat % 256:=rfl
def mkB (l:List UInt8):ByteArray:=ByteArray.mk (Array.mk l)
theorem mkB_size (l:List UInt8):(mkB l).size=l.length:=rfl
theorem mkB_toList (l:List UInt8):(mkB l).toList=l:=by rw [toList_data]; rfl
theorem mkB_app (a b:List UInt8):mkB a++mkB b=mkB (a++b):=by
 apply toList_inj
 rw [toList_data,mkB_toList,ByteArray.data_append]
 simp [mkB]
def numU (x:Int):List UInt8:=(numZ x.toNat).map bI
def numsU (l:List Int):List UInt8:=l.flatMap numU
theorem numU_len {x:Int} (h:x≤18446744073709551615):(numU x).length≤10:=by
 unfold numU numZ
 rw [List.length_map,List.length_append,List.length_singleton]
 have:=hiZ_len 9 x.toNat (by
  have:(128:Nat) ^ 10=1180591620717411303424:=by decide
  omega)
 omega
theorem F22_ok {l:List Int} (hl:l.length≤900) (hr:∀ x ∈ l,0≤x∧x≤18446744073709551615):F22 l=some (mkB (numsU l)):=by
 rw [F22_eq]
 have hlen:∀ i,(((l.take i).flatMap fun x=>numZ x.toNat)).length≤9000:=by
  intro i
  have key:∀ m:List Int,(∀ x ∈ m,x≤18446744073709551615)→(m.flatMap fun x=>numZ x.toNat).length≤10 * m.length:=by
   intro m
   induction m with
   | nil=>intro _; exact Nat.le_refl _
   | cons a r ih =>
    intro h
    have h1:=ih (fun x hx=>h x (by simp [hx]))
    have h2:=numU_len (h a (by simp))
    unfold numU at h2
    rw [List.length_map] at h2
    rw [List.flatMap_cons,List.length_append,List.length_cons]
    omega
  have:=key (l.take i) (fun x hx=>(hr x (List.mem_of_mem_take hx)).2)
  rw [List.length_take] at this
  omega
 rw [loop_detE (s0:=((0:Int),([]:List Int))) l.length (fun i=>(((i:Nat):Int),(l.take i).flatMap fun x=>numZ x.toNat)) (mkB (numsU l)) rfl]
 ·have q:¬ ((l.length:Nat):Int) < ((l.length:Nat):Int):=by omega
  have e:l.take l.length=l:=List.take_length
  rw [e]
  have e2:numsU l=(l.flatMap fun x=>numZ x.toNat).map bI:=by unfold numsU numU; rw [List.map_flatMap]
  generalize (l.flatMap fun x=>numZ x.toNat)=L at *
  simp -implicitDefEqProofs only [q,List.take_length,eq_self,xs]
  rw [e2]
  rfl
 ·intro i hi
  have q1:((i:Nat):Int) < ((l.length:Nat):Int):=by omega
  have q2:(0:Int)≤(i:Int):=by omega
  have g:=List.getElem?_eq_getElem hi
  have hx:=hr l[i] (List.getElem_mem hi)
  have hb:=hlen i
  have tk:((l.take (i+1)).flatMap fun x=>numZ x.toNat)=((l.take i).flatMap fun x=>numZ x.toNat)++numZ (l[i]).toNat:=by
   rw [List.take_succ_eq_append_getElem hi,List.flatMap_append]; simp
  rw [tk]
  generalize ((l.take i).flatMap fun x=>numZ x.toNat)=A at *
  generalize l[i]=x at *
  obtain ⟨n,rfl⟩:∃ n:Nat,x=n:=⟨x.toNat,by omega⟩
  rw [Int.toNat_natCast]
  simp -implicitDefEqProofs only [q1,q2,g,eq_self,xs]
  rw [loopX_spec (ρ:=Int×List Int) (fun s:Int×List Int=>∃ k:Nat,0≤s.1∧s.1.toNat < 128 ^ (k+1)∧s.2.length+k≤20000) (fun s=>s.1.toNat) (fun s=>(((loZ s.1.toNat:Nat):Int),s.2++hiZ s.1.toNat)) ?_ (((n:Nat):Int),A) ⟨9,by omega,by
   have:(128:Nat) ^ 10=1180591620717411303424:=by decide
   simp only [Int.toNat_natCast]
   omega,by simp only; omega⟩]
  rotate_left
  ·rintro ⟨c,B⟩ ⟨k,h0,h1,h2⟩
   simp only at h0 h1 h2
   obtain ⟨c,rfl⟩:∃ m:Nat,c=m:=⟨c.toNat,by omega⟩
   simp only [Int.toNat_natCast] at h1 ⊢
   by_cases hc:c≤127
   ·left
    have p:¬ ((c:Nat):Int) > 127:=by omega
    rw [loZ_small hc,hiZ_small hc,List.append_nil]
    simp -implicitDefEqProofs only [p,eq_self,xs]
   ·right
    have p:((c:Nat):Int) > 127:=by omega
    obtain ⟨k',rfl⟩:∃ k',k=k'+1:=⟨k - 1,by
     rcases k with _ | k
     ·simp at h1; omega
     ·omega⟩
    have b1:((B.length+1:Nat):Int) * 1≤70368744177664:=by omega
    have b2:((B.length+1:Nat):Int)≤70368744177664:=by omega
    have b3:((B.length:Nat):Int)+1≤70368744177664:=by omega
    have eo:=or_ok c
    have ed:Int.fdiv ((c:Nat):Int) 128=((c / 128:Nat):Int):=by
     rw [Int.fdiv_eq_ediv_of_nonneg _ (by omega)]; rfl
    refine ⟨(((c / 128:Nat):Int),B++[((128+c % 128:Nat):Int)]),?_,⟨k',by simp only; omega,?_,by simp only [List.length_append,List.length_singleton]; omega⟩,by simp only [Int.toNat_natCast]; omega,?_⟩
    ·simp -implicitDefEqProofs only [p,eo,ed,Int.mul_one,b1,b2,b3,app_eq,List.length_append,eq_self,xs]
    ·simp only [Int.toNat_natCast]
     rw [Nat.div_lt_iff_lt_mul (by omega)]
     rw [Nat.pow_succ] at h1; exact h1
    ·simp only [Int.toNat_natCast]
     rw [loZ_big hc,hiZ_big hc,List.append_assoc]; rfl
  ·simp only [Int.toNat_natCast]
   have hn:(hiZ n).length≤9:=hiZ_len 9 n (by
    have:(128:Nat) ^ 10=1180591620717411303424:=by decide
    omega)
   have hlo:=loZ_le n
   have ew:IntKind.wrap .u8 ((loZ n:Nat):Int)=((loZ n:Nat):Int):=by rw [w8]; omega
   have hB:(A++hiZ n).length≤10000:=by rw [List.length_append]; omega
   unfold numZ
   rw [← List.append_assoc]
   generalize A++hiZ n=B at *
   have b1:((B.length+1:Nat):Int) * 1≤70368744177664:=by omega
   have b2:((B.length+1:Nat):Int)≤70368744177664:=by omega
   have b3:((B.length:Nat):Int)+1≤70368744177664:=by omega
   simp -implicitDefEqProofs only [ew,Int.mul_one,b1,b2,b3,app_eq,List.length_append,w1 (show i≤9223372036854775806 by omega),eq_self,xs]
theorem numZ_pre:∀ (n m:Nat) (r s:List UInt8),(numZ n).map bI++r=(numZ m).map bI++s→n=m∧r=s:=by
 intro n
 induction n using Nat.strongRecOn with
 | ind n ih =>
  intro m r s h
  by_cases hn:n≤127<;>by_cases hm:m≤127
  ·unfold numZ at h
   rw [hiZ_small hn,hiZ_small hm,loZ_small hn,loZ_small hm] at h
   simp only [List.nil_append,List.map_cons,List.map_nil,List.cons_append,List.cons.injEq] at h
   have:=congrArg UInt8.toNat h.1
   rw [bI_toNat,bI_toNat,Int.toNat_natCast,Int.toNat_natCast] at this
   exact ⟨by omega,h.2⟩
  ·unfold numZ at h
   rw [hiZ_small hn,hiZ_big hm,loZ_small hn] at h
   simp only [List.nil_append,List.map_cons,List.map_nil,List.cons_append,List.cons.injEq] at h
   have:=congrArg UInt8.toNat h.1
   rw [bI_toNat,bI_toNat,Int.toNat_natCast,Int.toNat_natCast] at this
   omega
  ·unfold numZ at h
   rw [hiZ_small hm,hiZ_big hn,loZ_small hm] at h
   simp only [List.nil_append,List.map_cons,List.map_nil,List.cons_append,List.cons.injEq] at h
   have:=congrArg UInt8.toNat h.1
   rw [bI_toNat,bI_toNat,Int.toNat_natCast,Int.toNat_natCast] at this
   omega
  ·have e:∀ c,¬ c≤127→numZ c=((128+c % 128:Nat):Int)::numZ (c / 128):=by
    intro c hc
    unfold numZ
    rw [hiZ_big hc,loZ_big hc]; rfl
   rw [e n hn,e m hm] at h
   simp only [List.map_cons,List.cons_append,List.cons.injEq] at h
   have h1:=congrArg UInt8.toNat h.1
   rw [bI_toNat,bI_toNat,Int.toNat_natCast,Int.toNat_natCast] at h1
   obtain ⟨h2,h3⟩:=ih (n / 128) (by omega) (m / 128) r s h.2
   exact ⟨by omega,h3⟩
theorem numU_pre {x y:Int} {r s:List UInt8} (hx:0≤x) (hy:0≤y) (h:numU x++r=numU y++s):x=y∧r=s:=by
 obtain ⟨a,b⟩:=numZ_pre _ _ _ _ h
 exact ⟨by omega,b⟩
end Go.Proofs.Ytgbcankkfmhcoaa.VL
end
section
namespace Go.Proofs.Ytgbcankkfmhcoaa.VL
open Go
set_option linter.unusedVariables false
set_option linter.unusedSectionVars false
set_option linter.unusedSimpArgs false
set_option maxRecDepth 100000
variable [Val]
abbrev U64 (x:Int):Prop:=0≤x∧x≤18446744073709551615
structure Giv (m:MB):Prop where
 sq:U64 m.2.2.2.1
 ki:U64 m.2.2.2.2.2.1
 nw:∀ x ∈ m.2.2.2.2.2.2.2.1,U64 x.2.1
 tb:∀ x ∈ m.2.2.2.2.2.2.2.2.1,U64 x.1
 ep:U64 m.2.2.2.2.2.2.2.2.2.1
 bo:U64 m.2.2.2.2.2.2.2.2.2.2.1
 tn:U64 m.2.2.2.2.2.2.2.2.2.2.2.2.2.1
structure May (m:MB):Prop where
 k:1≤m.1∧m.1≤12
 fr:0≤m.2.1∧m.2.1≤63
 to:0≤m.2.2.1∧m.2.2.1≤63
 sq:kindB m.1 0=false→m.2.2.2.1=0
 wh:kindB m.1 1=false→m.2.2.2.2.1=0
 ki:kindB m.1 2=false→m.2.2.2.2.2.1=0
 ks:kindB m.1 2=false→m.2.2.2.2.2.2.1=0
 nw:kindB m.1 3=false→m.2.2.2.2.2.2.2.1=[]
 tb:kindB m.1 4=false→m.2.2.2.2.2.2.2.2.1=[]
 ep:kindB m.1 5=false→m.2.2.2.2.2.2.2.2.2.1=0
 bo:kindB m.1 6=false→m.2.2.2.2.2.2.2.2.2.2.1=0
 ak:kindB m.1 7=false→m.2.2.2.2.2.2.2.2.2.2.2.1=0
 tk:kindB m.1 8=false→m.2.2.2.2.2.2.2.2.2.2.2.2.1.toList=[]
 tn:kindB m.1 8=false→m.2.2.2.2.2.2.2.2.2.2.2.2.2.1=0
 gd:kindB m.1 9=false→m.2.2.2.2.2.2.2.2.2.2.2.2.2.2=false
 rwh:0≤m.2.2.2.2.1∧m.2.2.2.2.1≤63
 rks:0≤m.2.2.2.2.2.2.1∧m.2.2.2.2.2.2.1≤3
 rnw:m.2.2.2.2.2.2.2.1.length≤8∧∀ x ∈ m.2.2.2.2.2.2.2.1,(0≤x.1∧x.1≤63)∧0≤x.2.2∧x.2.2≤3
 rtb:m.2.2.2.2.2.2.2.2.1.length≤64∧∀ x ∈ m.2.2.2.2.2.2.2.2.1,0≤x.2∧x.2≤3
 rak:0≤m.2.2.2.2.2.2.2.2.2.2.2.1∧m.2.2.2.2.2.2.2.2.2.2.2.1≤1099511627776
 rtk:m.2.2.2.2.2.2.2.2.2.2.2.2.1.size≤20
theorem may_of {m:MB} (h:msgB m=true):May m:=by
 obtain ⟨k,fr,to,sq,wh,ki,ks,nw,tb,ep,bo,ak,tk,tn,gd⟩:=m
 unfold msgB sameB bareM nodeB partsB nodeB at h
 simp only [Bool.and_eq_true,decide_eq_true_eq,Bool.not_eq_true',beq_eq_false_iff_ne,beq_iff_eq] at h
 obtain ⟨h1,⟨h2,h3⟩,h4,⟨_,_,_,s1,s2,s3,s4,s5,s6,s7,s8,s9,s10,s11,s12⟩,p1,p2,p3,p4,p5,p6⟩:=h
 have z1:kindB k 0=false→sq=0:=fun q=>by rw [q] at s1; simpa using s1
 have z2:kindB k 1=false→wh=0:=fun q=>by rw [q] at s2; simpa using s2
 have z3:kindB k 2=false→ki=0:=fun q=>by rw [q] at s3; simpa using s3
 have z4:kindB k 2=false→ks=0:=fun q=>by rw [q] at s4; simpa using s4
 have z5:kindB k 3=false→nw=[]:=fun q=>by rw [q] at s5; simpa using s5
 have z6:kindB k 4=false→tb=[]:=fun q=>by rw [q] at s6; simpa using s6
 have z7:kindB k 5=false→ep=0:=fun q=>by rw [q] at s7; simpa using s7
 have z8:kindB k 6=false→bo=0:=fun q=>by rw [q] at s8; simpa using s8
 have z9:kindB k 7=false→ak=0:=fun q=>by rw [q] at s9; simpa using s9
 have z10:kindB k 8=false→tk.toList=[]:=fun q=>by
  rw [q] at s10
  have e:(ByteArray.mk #[]).toList=[]:=by rw [toList_data]
  simpa [e] using s10
 have z11:kindB k 8=false→tn=0:=fun q=>by rw [q] at s11; simpa using s11
 have z12:kindB k 9=false→gd=false:=fun q=>by rw [q] at s12; simpa using s12
 refine ⟨h1,h2,h3,z1,z2,z3,z4,z5,z6,z7,z8,z9,z10,z11,z12,?_,?_,?_,?_,?_,?_⟩
 ·cases q:kindB k 1
  ·show 0≤wh∧wh≤63
   rw [z2 q]; omega
  ·rw [q] at p1
   simpa [nodeB] using p1
 ·cases q:kindB k 2
  ·show 0≤ks∧ks≤3
   rw [z4 q]; omega
  ·rw [q] at p2
   simpa [knowB] using p2
 ·cases q:kindB k 3
  ·show nw.length≤8∧∀ x ∈ nw,_
   rw [z5 q]; exact ⟨by simp,fun x hx=>by simp at hx⟩
  ·rw [q] at p3
   have p3:newsB nw=true:=by simpa using p3
   unfold newsB at p3
   rw [Bool.and_eq_true,decide_eq_true_iff,List.all_eq_true] at p3
   refine ⟨p3.1,fun x hx=>?_⟩
   have:=p3.2 x hx
   simpa [tellB,nodeB,knowB] using this
 ·cases q:kindB k 4
  ·show tb.length≤64∧∀ x ∈ tb,_
   rw [z6 q]; exact ⟨by simp,fun x hx=>by simp at hx⟩
  ·rw [q] at p4
   have p4:tabB tb=true:=by simpa using p4
   unfold tabB at p4
   rw [Bool.and_eq_true,Bool.and_eq_true,decide_eq_true_iff,decide_eq_true_iff,List.all_eq_true] at p4
   refine ⟨p4.1.2,fun x hx=>?_⟩
   have:=p4.2 x hx
   simpa [knowB] using this
 ·cases q:kindB k 7
  ·show 0≤ak∧ak≤1099511627776
   rw [z9 q]; omega
  ·rw [q] at p5
   simpa [tickB] using p5
 ·cases q:kindB k 8
  ·show tk.size≤20
   rw [← toList_len,z10 q]; exact Nat.zero_le _
  ·rw [q] at p6
   have p6:nmB tk=true:=by simpa using p6
   unfold nmB at p6
   rw [Bool.and_eq_true,Bool.and_eq_true,decide_eq_true_iff,decide_eq_true_iff] at p6
   exact p6.2.2
theorem F22_1 {x:Int} (h:U64 x):F22 [x]=some (mkB (numU x)):=by
 have:=F22_ok (l:=[x]) (show 1≤900 by decide) (fun y hy=>by rw [List.mem_singleton] at hy; subst hy; exact h)
 simpa [numsU] using this
theorem F22_2 {x y:Int} (h:U64 x) (k:U64 y):F22 [x,y]=some (mkB (numU x++numU y)):=by
 have:=F22_ok (l:=[x,y]) (show 2≤900 by decide) (fun z hz=>by
  rcases List.mem_cons.1 hz with rfl | hz
  ·exact h
  ·rw [List.mem_singleton] at hz; subst hz; exact k)
 simpa [numsU] using this
theorem F22_3 {x y z:Int} (h:U64 x) (k:U64 y) (l:U64 z):F22 [x,y,z]=some (mkB (numU x++(numU y++numU z))):=by
 have:=F22_ok (l:=[x,y,z]) (show 3≤900 by decide) (fun w hw=>by
  rcases List.mem_cons.1 hw with rfl | hw
  ·exact h
  rcases List.mem_cons.1 hw with rfl | hw
  ·exact k
  ·rw [List.mem_singleton] at hw; subst hw; exact l)
 simpa [numsU] using this
theorem uw {x:Int} (h:U64 x):IntKind.wrap .u64 x=x:=wu h.1 h.2
def newO (x:NW):List UInt8:=numU x.1++(numU x.2.1++numU x.2.2)
def tabO (x:KW):List UInt8:=numU x.1++numU x.2
def pN (m:MB):Nat→List UInt8
 | 0=>numU m.2.2.2.1
 | 1=>numU m.2.2.2.2.2.2.2.2.2.1
 | 2=>numU m.2.2.2.2.2.2.2.2.2.2.1
 | 3=>numU m.2.2.2.2.2.2.2.2.2.2.2.2.2.1
 | 4=>numU m.2.2.2.2.1
 | 5=>numU m.2.2.2.2.2.1++numU m.2.2.2.2.2.2.1
 | 6=>numU ((m.2.2.2.2.2.2.2.1.length:Nat):Int)++m.2.2.2.2.2.2.2.1.flatMap newO
 | 7=>numU ((m.2.2.2.2.2.2.2.2.1.length:Nat):Int)++m.2.2.2.2.2.2.2.2.1.flatMap tabO
 | 8=>numU m.2.2.2.2.2.2.2.2.2.2.2.1
 | 9=>numU ((m.2.2.2.2.2.2.2.2.2.2.2.2.1.size:Nat):Int)++m.2.2.2.2.2.2.2.2.2.2.2.2.1.toList
 | _=>numU (if m.2.2.2.2.2.2.2.2.2.2.2.2.2.2=true then 1 else 0)
def litN:Nat→ByteArray
 | 0=>ByteArray.mk #[115,101,113]
 | 1=>ByteArray.mk #[101,112,111,99,104]
 | 2=>ByteArray.mk #[98,111,111,116]
 | 3=>ByteArray.mk #[116,111,107,101,110]
 | 4=>ByteArray.mk #[119,104,111]
 | 5=>ByteArray.mk #[107]
 | 6=>ByteArray.mk #[110,101,119,115]
 | 7=>ByteArray.mk #[116,97,98,108,101]
 | 8=>ByteArray.mk #[97,115,107,101,100]
 | 9=>ByteArray.mk #[116,97,115,107]
 | _=>ByteArray.mk #[103,111,111,100]
def hasN (k:Int):List Nat:=if k=1 then [0,5,6] else if k=2 then [0,4,6] else if k=3 then [0,4,5,6] else if k=4 then [0,4] else if k=5 then [7] else if k=6 then [7] else if k=7 then [1,2,8] else if k=8 then [1,2,8] else if k=9 then [1,2] else if k=10 then [2,8] else if k=11 then [1,2,8,9,3] else [9,3,10]
theorem kinds {k:Int} (h:1≤k∧k≤12):k=1∨k=2∨k=3∨k=4∨k=5∨k=6∨k=7∨k=8∨k=9∨k=10∨k=11∨k=12:=by omega
theorem has_ok {k:Int} (h:1≤k∧k≤12):F24 k=some ((hasN k).map litN)∧(hasN k).length≤5∧∀ j ∈ hasN k,j≤10:=by
 rcases kinds h with rfl | rfl | rfl | rfl | rfl | rfl | rfl | rfl | rfl | rfl | rfl | rfl
 ·exact ⟨has1,by decide,by decide⟩
 ·exact ⟨has2,by decide,by decide⟩
 ·exact ⟨has3,by decide,by decide⟩
 ·exact ⟨has4,by decide,by decide⟩
 ·exact ⟨has5,by decide,by decide⟩
 ·exact ⟨has6,by decide,by decide⟩
 ·exact ⟨has7,by decide,by decide⟩
 ·exact ⟨has8,by decide,by decide⟩
 ·exact ⟨has9,by decide,by decide⟩
 ·exact ⟨has10,by decide,by decide⟩
 ·exact ⟨has11,by decide,by decide⟩
 ·exact ⟨has12,by decide,by decide⟩
theorem flat_len10 {α:Type} {f:α→List UInt8} {c:Nat}:∀ {l:List α},(∀ x ∈ l,(f x).length≤c)→(l.flatMap f).length≤c * l.length
 | [],_=>Nat.le_refl _
 | a::r,h=>by
  have h1:=flat_len10 (l:=r) (fun x hx=>h x (by simp [hx]))
  have h2:=h a (by simp)
  rw [List.flatMap_cons,List.length_append,List.length_cons,Nat.mul_add]
  omega
theorem F61_ok {i s:Int} (h:U64 i) (k:0≤s∧s≤3):F61 (i,s)=some (mkB (numU i++numU s)):=by
 rw [F61_eq]
 have e:U64 s:=⟨k.1,by omega⟩
 have f:=F22_2 h e
 simp only [uw e]
 rw [f]; rfl
theorem news_oct {m:MB} (g:Giv m) (h:May m):F65 m=some (mkB (pN m 6)):=by
 rw [F65_eq]
 obtain ⟨k,fr,to,sq,wh,ki,ks,l,tb,ep,bo,ak,tk,tn,gd⟩:=m
 have hl:l.length≤8:=h.rnw.1
 have hr:∀ x ∈ l,(0≤x.1∧x.1≤63)∧0≤x.2.2∧x.2.2≤3:=h.rnw.2
 have hu:∀ x ∈ l,U64 x.2.1:=g.nw
 have e0:U64 ((l.length:Nat):Int):=⟨by omega,by omega⟩
 have f0:=F22_1 e0
 have hn:(numU ((l.length:Nat):Int)).length≤10:=numU_len e0.2
 have ho:∀ x ∈ l,(newO x).length≤30:=fun x hx=>by
  obtain ⟨⟨a,b⟩,c,d⟩:=hr x hx
  have h1:=numU_len (x:=x.1) (by omega)
  have h2:=numU_len (hu x hx).2
  have h3:=numU_len (x:=x.2.2) (by omega)
  unfold newO
  rw [List.length_append,List.length_append]; omega
 show _=some (mkB (numU ((l.length:Nat):Int)++l.flatMap newO))
 simp -implicitDefEqProofs only [uw e0,f0,eq_self,xs]
 rw [loop_detE (s0:=(mkB (numU ((l.length:Nat):Int)),(0:Int))) l.length (fun i=>(mkB (numU ((l.length:Nat):Int)++(l.take i).flatMap newO),((i:Nat):Int))) (mkB (numU ((l.length:Nat):Int)++l.flatMap newO)) (by simp)]
 ·have q:¬ ((l.length:Nat):Int) < ((l.length:Nat):Int):=by omega
  have e:l.take l.length=l:=List.take_length
  simp -implicitDefEqProofs only [q,e,eq_self,xs]
 ·intro i hi
  have q1:((i:Nat):Int) < ((l.length:Nat):Int):=by omega
  have q2:(0:Int)≤(i:Int):=by omega
  have gg:=List.getElem?_eq_getElem hi
  have hx:=hr l[i] (List.getElem_mem hi)
  have hux:=hu l[i] (List.getElem_mem hi)
  have hox:=ho l[i] (List.getElem_mem hi)
  have tk':(l.take (i+1)).flatMap newO=(l.take i).flatMap newO++newO l[i]:=by
   rw [List.take_succ_eq_append_getElem hi,List.flatMap_append]; simp
  have hA:((l.take i).flatMap newO).length≤240:=by
   have:=flat_len10 (l:=l.take i) (fun x hx=>ho x (List.mem_of_mem_take hx))
   rw [List.length_take] at this
   omega
  rw [tk']
  generalize l[i]=x at *
  generalize (l.take i).flatMap newO=A at *
  have e1:U64 x.1:=⟨hx.1.1,by omega⟩
  have f1:=F22_1 e1
  have f2:=F61_ok hux hx.2
  have hB:(numU ((l.length:Nat):Int)++A).length≤300:=by rw [List.length_append]; omega
  rw [← List.append_assoc]
  generalize numU ((l.length:Nat):Int)++A=B at *
  unfold newO at hox ⊢
  have s1:(mkB (numU x.1)).size+(mkB (numU x.2.1++numU x.2.2)).size≤4611686018427387904:=by
   rw [mkB_size,mkB_size]; rw [List.length_append] at hox; omega
  have s2:(mkB B).size+(mkB (numU x.1++(numU x.2.1++numU x.2.2))).size≤4611686018427387904:=by
   rw [mkB_size,mkB_size]; omega
  have ww:=w1 (show i≤9223372036854775806 by omega)
  simp -implicitDefEqProofs only [q1,q2,gg,uw e1,f1,f2,s1,mkB_app,s2,ww,eq_self,xs]
theorem tab_oct {m:MB} (g:Giv m) (h:May m):F69 m=some (mkB (pN m 7)):=by
 rw [F69_eq]
 obtain ⟨k,fr,to,sq,wh,ki,ks,nw,l,ep,bo,ak,tk,tn,gd⟩:=m
 have hl:l.length≤64:=h.rtb.1
 have hr:∀ x ∈ l,0≤x.2∧x.2≤3:=h.rtb.2
 have hu:∀ x ∈ l,U64 x.1:=g.tb
 have e0:U64 ((l.length:Nat):Int):=⟨by omega,by omega⟩
 have f0:=F22_1 e0
 have hn:(numU ((l.length:Nat):Int)).length≤10:=numU_len e0.2
 have ho:∀ x ∈ l,(tabO x).length≤20:=fun x hx=>by
  obtain ⟨c,d⟩:=hr x hx
  have h2:=numU_len (hu x hx).2
  have h3:=numU_len (x:=x.2) (by omega)
  unfold tabO
  rw [List.length_append]; omega
 show _=some (mkB (numU ((l.length:Nat):Int)++l.flatMap tabO))
 simp -implicitDefEqProofs only [uw e0,f0,eq_self,xs]
 rw [loop_detE (s0:=(mkB (numU ((l.length:Nat):Int)),(0:Int))) l.length (fun i=>(mkB (numU ((l.length:Nat):Int)++(l.take i).flatMap tabO),((i:Nat):Int))) (mkB (numU ((l.length:Nat):Int)++l.flatMap tabO)) (by simp)]
 ·have q:¬ ((l.length:Nat):Int) < ((l.length:Nat):Int):=by omega
  have e:l.take l.length=l:=List.take_length
  simp -implicitDefEqProofs only [q,e,eq_self,xs]
 ·intro i hi
  have q1:((i:Nat):Int) < ((l.length:Nat):Int):=by omega
  have q2:(0:Int)≤(i:Int):=by omega
  have gg:=List.getElem?_eq_getElem hi
  have hx:=hr l[i] (List.getElem_mem hi)
  have hux:=hu l[i] (List.getElem_mem hi)
  have hox:=ho l[i] (List.getElem_mem hi)
  have tk':(l.take (i+1)).flatMap tabO=(l.take i).flatMap tabO++tabO l[i]:=by
   rw [List.take_succ_eq_append_getElem hi,List.flatMap_append]; simp
  have hA:((l.take i).flatMap tabO).length≤1280:=by
   have:=flat_len10 (l:=l.take i) (fun x hx=>ho x (List.mem_of_mem_take hx))
   rw [List.length_take] at this
   omega
  rw [tk']
  generalize l[i]=x at *
  generalize (l.take i).flatMap tabO=A at *
  have f2:=F61_ok hux hx
  have hB:(numU ((l.length:Nat):Int)++A).length≤1300:=by rw [List.length_append]; omega
  rw [← List.append_assoc]
  generalize numU ((l.length:Nat):Int)++A=B at *
  unfold tabO at hox ⊢
  have s2:(mkB B).size+(mkB (numU x.1++numU x.2)).size≤4611686018427387904:=by
   rw [mkB_size,mkB_size]; omega
  have ww:=w1 (show i≤9223372036854775806 by omega)
  simp -implicitDefEqProofs only [q1,q2,gg,f2,mkB_app,s2,ww,eq_self,xs]
theorem mkB_of (s:ByteArray):mkB s.toList=s:=toList_inj (mkB_toList _)
theorem task_oct {m:MB} (h:May m):F76 m=some (mkB (pN m 9)):=by
 rw [F76_eq,F88_eq]
 obtain ⟨k,fr,to,sq,wh,ki,ks,nw,tb,ep,bo,ak,tk,tn,gd⟩:=m
 have hs:tk.size≤20:=h.rtk
 have e0:U64 ((tk.size:Nat):Int):=⟨by omega,by omega⟩
 have f0:=F22_1 e0
 have hn:(numU ((tk.size:Nat):Int)).length≤10:=numU_len e0.2
 have q:¬ ((tk.size:Nat):Int) > 200:=by omega
 have s1:(mkB (numU ((tk.size:Nat):Int))).size+tk.size≤4611686018427387904:=by rw [mkB_size]; omega
 have e:mkB (numU ((tk.size:Nat):Int))++tk=mkB (numU ((tk.size:Nat):Int)++tk.toList):=by
  rw [← mkB_app,mkB_of]
 show _=some (mkB (numU ((tk.size:Nat):Int)++tk.toList))
 simp -implicitDefEqProofs only [q,uw e0,f0,s1,nz0,e,eq_self,xs]
theorem good_oct {m:MB}:F78 m=some (mkB (pN m 10)):=by
 rw [F78_eq]
 obtain ⟨k,fr,to,sq,wh,ki,ks,nw,tb,ep,bo,ak,tk,tn,gd⟩:=m
 show _=some (mkB (numU (if gd=true then 1 else 0)))
 have f1:=F22_1 (x:=1) ⟨by omega,by omega⟩
 have f0:=F22_1 (x:=0) ⟨by omega,by omega⟩
 cases gd<;>simp only [F79_eq,cond_true,cond_false,Option.bind_some,f1,f0,if_true,Bool.false_eq_true,if_false]
theorem pN_len {m:MB} (g:Giv m) (h:May m) (j:Nat):(pN m j).length≤1400:=by
 have hz:∀ x:Int,U64 x→(numU x).length≤10:=fun x hx=>numU_len hx.2
 match j with
 | 0=>have:=hz _ g.sq; simp only [pN]; omega
 | 1=>have:=hz _ g.ep; simp only [pN]; omega
 | 2=>have:=hz _ g.bo; simp only [pN]; omega
 | 3=>have:=hz _ g.tn; simp only [pN]; omega
 | 4=>have:=numU_len (x:=m.2.2.2.2.1) (by have:=h.rwh; omega); simp only [pN]; omega
 | 5 =>
  have h1:=hz _ g.ki
  have h2:=numU_len (x:=m.2.2.2.2.2.2.1) (by have:=h.rks; omega)
  simp only [pN,List.length_append]; omega
 | 6 =>
  have h1:=numU_len (x:=((m.2.2.2.2.2.2.2.1.length:Nat):Int)) (by have:=h.rnw.1; omega)
  have h2:=flat_len10 (f:=newO) (c:=30) (l:=m.2.2.2.2.2.2.2.1) (fun x hx=>by
   obtain ⟨⟨a,b⟩,c,d⟩:=h.rnw.2 x hx
   have h1:=numU_len (x:=x.1) (by omega)
   have h2:=hz _ (g.nw x hx)
   have h3:=numU_len (x:=x.2.2) (by omega)
   unfold newO
   rw [List.length_append,List.length_append]; omega)
  have:=h.rnw.1
  simp only [pN,List.length_append]; omega
 | 7 =>
  have h1:=numU_len (x:=((m.2.2.2.2.2.2.2.2.1.length:Nat):Int)) (by have:=h.rtb.1; omega)
  have h2:=flat_len10 (f:=tabO) (c:=20) (l:=m.2.2.2.2.2.2.2.2.1) (fun x hx=>by
   obtain ⟨c,d⟩:=h.rtb.2 x hx
   have h2:=hz _ (g.tb x hx)
   have h3:=numU_len (x:=x.2) (by omega)
   unfold tabO
   rw [List.length_append]; omega)
  have:=h.rtb.1
  simp only [pN,List.length_append]; omega
 | 8=>have:=numU_len (x:=m.2.2.2.2.2.2.2.2.2.2.2.1) (by have:=h.rak; omega); simp only [pN]; omega
 | 9 =>
  have h1:=numU_len (x:=((m.2.2.2.2.2.2.2.2.2.2.2.2.1.size:Nat):Int)) (by have:=h.rtk; omega)
  have h2:=toList_len m.2.2.2.2.2.2.2.2.2.2.2.2.1
  have:=h.rtk
  simp only [pN,List.length_append]; omega
 | j+10 =>
  simp only [pN]
  have:=numU_len (x:=if m.2.2.2.2.2.2.2.2.2.2.2.2.2.2=true then 1 else 0) (by split<;>omega)
  omega
end Go.Proofs.Ytgbcankkfmhcoaa.VL
end
section
namespace Go.Proofs.Ytgbcankkfmhcoaa.VL
open Go
set_option linter.unusedVariables false
set_option linter.unusedSectionVars false
set_option linter.unusedSimpArgs false
set_option maxRecDepth 100000
variable [Val]
theorem pN_len2 {m:MB} (g:Giv m) (h:May m) (j:Nat) (hj:j≠7):(pN m j).length≤300:=by
 have hz:∀ x:Int,U64 x→(numU x).length≤10:=fun x hx=>numU_len hx.2
 match j,hj with
 | 0,_=>have:=hz _ g.sq; simp only [pN]; omega
 | 1,_=>have:=hz _ g.ep; simp only [pN]; omega
 | 2,_=>have:=hz _ g.bo; simp only [pN]; omega
 | 3,_=>have:=hz _ g.tn; simp only [pN]; omega
 | 4,_=>have:=numU_len (x:=m.2.2.2.2.1) (by have:=h.rwh; omega); simp only [pN]; omega
 | 5,_ =>
  have h1:=hz _ g.ki
  have h2:=numU_len (x:=m.2.2.2.2.2.2.1) (by have:=h.rks; omega)
  simp only [pN,List.length_append]; omega
 | 6,_ =>
  have h1:=numU_len (x:=((m.2.2.2.2.2.2.2.1.length:Nat):Int)) (by have:=h.rnw.1; omega)
  have h2:=flat_len10 (f:=newO) (c:=30) (l:=m.2.2.2.2.2.2.2.1) (fun x hx=>by
   obtain ⟨⟨a,b⟩,c,d⟩:=h.rnw.2 x hx
   have h1:=numU_len (x:=x.1) (by omega)
   have h2:=hz _ (g.nw x hx)
   have h3:=numU_len (x:=x.2.2) (by omega)
   unfold newO
   rw [List.length_append,List.length_append]; omega)
  have:=h.rnw.1
  simp only [pN,List.length_append]; omega
 | 8,_=>have:=numU_len (x:=m.2.2.2.2.2.2.2.2.2.2.2.1) (by have:=h.rak; omega); simp only [pN]; omega
 | 9,_ =>
  have h1:=numU_len (x:=((m.2.2.2.2.2.2.2.2.2.2.2.2.1.size:Nat):Int)) (by have:=h.rtk; omega)
  have h2:=toList_len m.2.2.2.2.2.2.2.2.2.2.2.2.1
  have:=h.rtk
  simp only [pN,List.length_append]; omega
 | j+10,_ =>
  simp only [pN]
  have:=numU_len (x:=if m.2.2.2.2.2.2.2.2.2.2.2.2.2.2=true then 1 else 0) (by split<;>omega)
  omega
def parO (m:MB):List UInt8:=(hasN m.1).flatMap (pN m)
theorem parO_len {m:MB} (g:Giv m) (h:May m):(parO m).length≤1500:=by
 unfold parO
 by_cases h7:hasN m.1=[7]
 ·rw [h7]
  have:=pN_len g h 7
  simp only [List.flatMap_cons,List.flatMap_nil,List.append_nil]; omega
 ·have hn:∀ j ∈ hasN m.1,j≠7:=by
   have hk:=h.k
   generalize m.1=k at *
   rcases kinds hk with rfl | rfl | rfl | rfl | rfl | rfl | rfl | rfl | rfl | rfl | rfl | rfl<;>first | decide | exact absurd rfl h7
  have h1:=flat_len10 (f:=pN m) (c:=300) (l:=hasN m.1) (fun j hj=>pN_len2 g h j (hn j hj))
  have h2:=(has_ok h.k).2.1
  omega
def heaO (m:MB):List UInt8:=numU m.1++(numU m.2.1++numU m.2.2.1)
def bodO (m:MB):List UInt8:=heaO m++parO m
def four (c:Int):List UInt8:=[bI (IntKind.wrap .u8 c),bI (IntKind.wrap .u8 (Int.fdiv c 256)),bI (IntKind.wrap .u8 (Int.fdiv c 65536)),bI (IntKind.wrap .u8 (Int.fdiv c 16777216))]
def txtO (m:MB):List UInt8:=bodO m++four (crc (bodO m))
theorem F81_ok (c:Int):F81 c=some (mkB (four c)):=by rw [F81_eq]; rfl
theorem seal_ok {l:List UInt8} (h:l.length≤4096):F25 (mkB l)=some (mkB (l++four (crc l)),0):=by
 rw [F25_eq]
 have q:¬ (((mkB l).size:Nat):Int) > 4096:=by rw [mkB_size]; omega
 have f:=F82_ok (s:=mkB l) (by rw [mkB_size]; omega)
 rw [mkB_toList] at f
 have f2:=F81_ok (crc l)
 have s:(mkB l).size+(mkB (four (crc l))).size≤4611686018427387904:=by
  rw [mkB_size,mkB_size]
  have:(four (crc l)).length=4:=rfl
  omega
 rw [decide_eq_false q,cond_false]
 simp only [f,f2,Option.bind_some,decide_eq_true s,cond_true,mkB_app]
theorem write_ok {m:MB} (g:Giv m) (hm:msgB m=true) (hw:m.2.2.2.2.2.2.2.1.length≤1000) (ht:m.2.2.2.2.2.2.2.2.1.length≤1000) (hk:m.2.2.2.2.2.2.2.2.2.2.2.2.1.size≤maxLen):F10 m=some (mkB (txtO m),0):=by
 have h:=may_of hm
 have c:=check_ok m hw ht hk
 rw [if_pos hm] at c
 have hr:=h.k
 have hf:=h.fr
 have hto:=h.to
 have e1:U64 m.1:=⟨by omega,by omega⟩
 have e2:U64 m.2.1:=⟨by omega,by omega⟩
 have e3:U64 m.2.2.1:=⟨by omega,by omega⟩
 have f3:=F22_3 e1 e2 e3
 obtain ⟨f24,hlen,hj10⟩:=has_ok h.k
 have p0:F22 [m.2.2.2.1]=some (mkB (pN m 0)):=F22_1 g.sq
 have p1:F22 [m.2.2.2.2.2.2.2.2.2.1]=some (mkB (pN m 1)):=F22_1 g.ep
 have p2:F22 [m.2.2.2.2.2.2.2.2.2.2.1]=some (mkB (pN m 2)):=F22_1 g.bo
 have p3:F22 [m.2.2.2.2.2.2.2.2.2.2.2.2.2.1]=some (mkB (pN m 3)):=F22_1 g.tn
 have p4:F56 m=some (mkB (pN m 4)):=by
  rw [F56_eq]
  have e:U64 m.2.2.2.2.1:=⟨h.rwh.1,by have:=h.rwh; omega⟩
  rw [uw e,F22_1 e]; rfl
 have p5:F60 m=some (mkB (pN m 5)):=by
  rw [F60_eq,F61_ok g.ki h.rks]; rfl
 have p6:=news_oct g h
 have p7:=tab_oct g h
 have p8:F73 m=some (mkB (pN m 8)):=by
  rw [F73_eq]
  have e:U64 m.2.2.2.2.2.2.2.2.2.2.2.1:=⟨h.rak.1,by have:=h.rak; omega⟩
  rw [uw e,F22_1 e]; rfl
 have p9:=task_oct h
 have p10:F78 m=some (mkB (pN m 10)):=good_oct
 have pl:=pN_len g h
 have hP:=parO_len g h
 have hH:(heaO m).length≤30:=by
  unfold heaO
  have a:=numU_len e1.2
  have b:=numU_len e2.2
  have d:=numU_len e3.2
  rw [List.length_append,List.length_append]; omega
 have fs:=seal_ok (l:=bodO m) (by unfold bodO; rw [List.length_append]; omega)
 have u1:=uw e1
 have u2:=uw e2
 have u3:=uw e3
 unfold txtO
 have hbod:bodO m=heaO m++(hasN m.1).flatMap (pN m):=rfl
 have hhea:mkB (numU m.1++(numU m.2.1++numU m.2.2.1))=mkB (heaO m):=rfl
 rw [F10_eq]
 obtain ⟨k,fr,to,sq,wh,ki,ks,nw,tb,ep,bo,ak,tk,tn,gd⟩:=m
 simp only at c u1 u2 u3 f3 f24 p0 p1 p2 p3 hhea hbod hlen hj10
 simp only [c,u1,u2,u3,f3,f24,Option.bind_some,nz0,cond_false,hhea]
 generalize hm':((k,fr,to,sq,wh,ki,ks,nw,tb,ep,bo,ak,tk,tn,gd):MB)=m at *
 generalize heaO m=H at *
 generalize hasN k=L at *
 rw [loop_detE (s0:=(mkB H,(0:Int))) L.length (fun i=>(mkB (H++(L.take i).flatMap (pN m)),((i:Nat):Int))) (mkB (H++L.flatMap (pN m))) (by simp)]
 ·rw [hbod] at fs
  simp only [Option.bind_some,fs,hbod]
  try rfl
 ·have q:¬ ((L.length:Nat):Int) < (((L.map litN).length:Nat):Int):=by rw [List.length_map]; omega
  have e:L.take L.length=L:=List.take_length
  simp only [decide_eq_false q,cond_false,e]
 ·intro i hi
  have q1:((i:Nat):Int) < (((L.map litN).length:Nat):Int):=by rw [List.length_map]; omega
  have q2:(0:Int)≤(i:Int):=by omega
  have gg:(L.map litN)[i]?=some (litN L[i]):=by rw [List.getElem?_map,List.getElem?_eq_getElem hi]; rfl
  have hj:=hj10 L[i] (List.getElem_mem hi)
  have tk':(L.take (i+1)).flatMap (pN m)=(L.take i).flatMap (pN m)++pN m L[i]:=by
   rw [List.take_succ_eq_append_getElem hi,List.flatMap_append]; simp
  have hA:((L.take i).flatMap (pN m)).length≤7000:=by
   have:=flat_len10 (f:=pN m) (c:=1400) (l:=L.take i) (fun j _=>pl j)
   rw [List.length_take] at this
   omega
  rw [tk',← List.append_assoc]
  generalize L[i]=j at *
  have hB:(H++(L.take i).flatMap (pN m)).length≤7100:=by rw [List.length_append]; omega
  generalize H++(L.take i).flatMap (pN m)=B at *
  have ss:(mkB B).size+(mkB (pN m j)).size≤4611686018427387904:=by
   rw [mkB_size,mkB_size]
   have:=pl j
   omega
  have ww:=w1 (show i≤9223372036854775806 by omega)
  have hjj:j=0∨j=1∨j=2∨j=3∨j=4∨j=5∨j=6∨j=7∨j=8∨j=9∨j=10:=by omega
  rcases hjj with rfl | rfl | rfl | rfl | rfl | rfl | rfl | rfl | rfl | rfl | rfl<;>simp only [litN] at gg<;>simp -implicitDefEqProofs only [q1,q2,gg,nq,p0,p1,p2,p3,p4,p5,p6,p7,p8,p9,p10,ss,mkB_app,ww,eq_self,xs]
end Go.Proofs.Ytgbcankkfmhcoaa.VL
end
section
namespace Go.Proofs.Ytgbcankkfmhcoaa.VL
open Go
set_option linter.unusedVariables false
set_option linter.unusedSectionVars false
set_option linter.unusedSimpArgs false
set_option maxRecDepth 100000
variable [Val]
theorem list_pre {α:Type} {f:α→List UInt8}:∀ {l l':List α} {r s:List UInt8},(∀ x ∈ l,∀ y ∈ l',∀ r s,f x++r=f y++s→x=y∧r=s)→l.length=l'.length→l.flatMap f++r=l'.flatMap f++s→l=l'∧r=s
 | [],[],r,s,_,_,h=>⟨rfl,by simpa using h⟩
 | [],b::l',r,s,_,hl,_=>by simp at hl
 | a::l,[],r,s,_,hl,_=>by simp at hl
 | a::l,b::l',r,s,hf,hl,h=>by
  rw [List.flatMap_cons,List.flatMap_cons,List.append_assoc,List.append_assoc] at h
  obtain ⟨h1,h2⟩:=hf a (by simp) b (by simp) _ _ h
  obtain ⟨h3,h4⟩:=list_pre (l:=l) (l':=l') (fun x hx y hy=>hf x (by simp [hx]) y (by simp [hy])) (by simpa using hl) h2
  exact ⟨by rw [h1,h3],h4⟩
def fEq (m n:MB):Nat→Prop
 | 0=>m.2.2.2.1=n.2.2.2.1
 | 1=>m.2.2.2.2.2.2.2.2.2.1=n.2.2.2.2.2.2.2.2.2.1
 | 2=>m.2.2.2.2.2.2.2.2.2.2.1=n.2.2.2.2.2.2.2.2.2.2.1
 | 3=>m.2.2.2.2.2.2.2.2.2.2.2.2.2.1=n.2.2.2.2.2.2.2.2.2.2.2.2.2.1
 | 4=>m.2.2.2.2.1=n.2.2.2.2.1
 | 5=>m.2.2.2.2.2.1=n.2.2.2.2.2.1∧m.2.2.2.2.2.2.1=n.2.2.2.2.2.2.1
 | 6=>m.2.2.2.2.2.2.2.1=n.2.2.2.2.2.2.2.1
 | 7=>m.2.2.2.2.2.2.2.2.1=n.2.2.2.2.2.2.2.2.1
 | 8=>m.2.2.2.2.2.2.2.2.2.2.2.1=n.2.2.2.2.2.2.2.2.2.2.2.1
 | 9=>m.2.2.2.2.2.2.2.2.2.2.2.2.1.toList=n.2.2.2.2.2.2.2.2.2.2.2.2.1.toList
 | _=>m.2.2.2.2.2.2.2.2.2.2.2.2.2.2=n.2.2.2.2.2.2.2.2.2.2.2.2.2.2
theorem part_pre {m n:MB} (gm:Giv m) (hm:May m) (gn:Giv n) (hn:May n) (j:Nat) {r s:List UInt8} (h:pN m j++r=pN n j++s):fEq m n j∧r=s:=by
 match j,h with
 | 0,h=>exact numU_pre gm.sq.1 gn.sq.1 h
 | 1,h=>exact numU_pre gm.ep.1 gn.ep.1 h
 | 2,h=>exact numU_pre gm.bo.1 gn.bo.1 h
 | 3,h=>exact numU_pre gm.tn.1 gn.tn.1 h
 | 4,h=>exact numU_pre hm.rwh.1 hn.rwh.1 h
 | 5,h =>
  simp only [pN,List.append_assoc] at h
  obtain ⟨h1,h2⟩:=numU_pre gm.ki.1 gn.ki.1 h
  obtain ⟨h3,h4⟩:=numU_pre hm.rks.1 hn.rks.1 h2
  exact ⟨⟨h1,h3⟩,h4⟩
 | 6,h =>
  simp only [pN,List.append_assoc] at h
  obtain ⟨h1,h2⟩:=numU_pre (by omega) (by omega) h
  refine list_pre (fun x hx y hy r s hh=>?_) (by omega) h2
  simp only [newO,List.append_assoc] at hh
  obtain ⟨a1,a2⟩:=numU_pre (hm.rnw.2 x hx).1.1 (hn.rnw.2 y hy).1.1 hh
  obtain ⟨a3,a4⟩:=numU_pre (gm.nw x hx).1 (gn.nw y hy).1 a2
  obtain ⟨a5,a6⟩:=numU_pre (hm.rnw.2 x hx).2.1 (hn.rnw.2 y hy).2.1 a4
  exact ⟨Prod.ext a1 (Prod.ext a3 a5),a6⟩
 | 7,h =>
  simp only [pN,List.append_assoc] at h
  obtain ⟨h1,h2⟩:=numU_pre (by omega) (by omega) h
  refine list_pre (fun x hx y hy r s hh=>?_) (by omega) h2
  simp only [tabO,List.append_assoc] at hh
  obtain ⟨a1,a2⟩:=numU_pre (gm.tb x hx).1 (gn.tb y hy).1 hh
  obtain ⟨a3,a4⟩:=numU_pre (hm.rtb.2 x hx).1 (hn.rtb.2 y hy).1 a2
  exact ⟨Prod.ext a1 a3,a4⟩
 | 8,h=>exact numU_pre hm.rak.1 hn.rak.1 h
 | 9,h =>
  simp only [pN,List.append_assoc] at h
  obtain ⟨h1,h2⟩:=numU_pre (by omega) (by omega) h
  exact List.append_inj h2 (by rw [toList_len,toList_len]; omega)
 | j+10,h =>
  simp only [pN] at h
  obtain ⟨h1,h2⟩:=numU_pre (by split<;>omega) (by split<;>omega) h
  refine ⟨?_,h2⟩
  show m.2.2.2.2.2.2.2.2.2.2.2.2.2.2=n.2.2.2.2.2.2.2.2.2.2.2.2.2.2
  generalize m.2.2.2.2.2.2.2.2.2.2.2.2.2.2=a at *
  generalize n.2.2.2.2.2.2.2.2.2.2.2.2.2.2=b at *
  cases a<;>cases b<;>first | rfl | (simp at h1)
theorem parts_pre {m n:MB} (gm:Giv m) (hm:May m) (gn:Giv n) (hn:May n):∀ {L:List Nat} {r s:List UInt8},L.flatMap (pN m)++r=L.flatMap (pN n)++s→(∀ j ∈ L,fEq m n j)∧r=s
 | [],r,s,h=>⟨fun j hj=>by simp at hj,by simpa using h⟩
 | a::L,r,s,h=>by
  rw [List.flatMap_cons,List.flatMap_cons,List.append_assoc,List.append_assoc] at h
  obtain ⟨h1,h2⟩:=part_pre gm hm gn hn a h
  obtain ⟨h3,h4⟩:=parts_pre gm hm gn hn h2
  exact ⟨fun j hj=>by
   rcases List.mem_cons.1 hj with rfl | hj
   ·exact h1
   ·exact h3 j hj,h4⟩
theorem in_has {k:Int} (h:1≤k∧k≤12):(kindB k 0=true→0 ∈ hasN k)∧(kindB k 1=true→4 ∈ hasN k)∧(kindB k 2=true→5 ∈ hasN k)∧(kindB k 3=true→6 ∈ hasN k)∧(kindB k 4=true→7 ∈ hasN k)∧(kindB k 5=true→1 ∈ hasN k)∧(kindB k 6=true→2 ∈ hasN k)∧(kindB k 7=true→8 ∈ hasN k)∧(kindB k 8=true→9 ∈ hasN k)∧(kindB k 8=true→3 ∈ hasN k)∧(kindB k 9=true→10 ∈ hasN k):=by
 rcases kinds h with rfl | rfl | rfl | rfl | rfl | rfl | rfl | rfl | rfl | rfl | rfl | rfl<;>decide
theorem txt_same {m n:MB} (gm:Giv m) (hm:May m) (gn:Giv n) (hn:May n) (h:txtO m=txtO n):sameB m n=true:=by
 unfold txtO at h
 have h:=(List.append_inj' h rfl).1
 unfold bodO heaO at h
 rw [List.append_assoc,List.append_assoc,List.append_assoc,List.append_assoc] at h
 have km:=hm.k
 have kn:=hn.k
 obtain ⟨h1,h2⟩:=numU_pre (by omega) (by omega) h
 obtain ⟨h3,h4⟩:=numU_pre hm.fr.1 hn.fr.1 h2
 obtain ⟨h5,h6⟩:=numU_pre hm.to.1 hn.to.1 h4
 unfold parO at h6
 rw [← h1] at h6
 obtain ⟨hall,_⟩:=parts_pre (r:=[]) (s:=[]) gm hm gn hn (L:=hasN m.1) (by rw [List.append_nil,List.append_nil]; exact h6)
 obtain ⟨i0,i1,i2,i3,i4,i5,i6,i7,i8,i8',i9⟩:=in_has km
 have e0:m.2.2.2.1=n.2.2.2.1:=by
  cases q:kindB m.1 0
  ·rw [hm.sq q,hn.sq (by rw [← h1]; exact q)]
  ·exact hall 0 (i0 q)
 have e1:m.2.2.2.2.1=n.2.2.2.2.1:=by
  cases q:kindB m.1 1
  ·rw [hm.wh q,hn.wh (by rw [← h1]; exact q)]
  ·exact hall 4 (i1 q)
 have e2:m.2.2.2.2.2.1=n.2.2.2.2.2.1∧m.2.2.2.2.2.2.1=n.2.2.2.2.2.2.1:=by
  cases q:kindB m.1 2
  ·rw [hm.ki q,hn.ki (by rw [← h1]; exact q),hm.ks q,hn.ks (by rw [← h1]; exact q)]; exact ⟨rfl,rfl⟩
  ·exact hall 5 (i2 q)
 have e3:m.2.2.2.2.2.2.2.1=n.2.2.2.2.2.2.2.1:=by
  cases q:kindB m.1 3
  ·rw [hm.nw q,hn.nw (by rw [← h1]; exact q)]
  ·exact hall 6 (i3 q)
 have e4:m.2.2.2.2.2.2.2.2.1=n.2.2.2.2.2.2.2.2.1:=by
  cases q:kindB m.1 4
  ·rw [hm.tb q,hn.tb (by rw [← h1]; exact q)]
  ·exact hall 7 (i4 q)
 have e5:m.2.2.2.2.2.2.2.2.2.1=n.2.2.2.2.2.2.2.2.2.1:=by
  cases q:kindB m.1 5
  ·rw [hm.ep q,hn.ep (by rw [← h1]; exact q)]
  ·exact hall 1 (i5 q)
 have e6:m.2.2.2.2.2.2.2.2.2.2.1=n.2.2.2.2.2.2.2.2.2.2.1:=by
  cases q:kindB m.1 6
  ·rw [hm.bo q,hn.bo (by rw [← h1]; exact q)]
  ·exact hall 2 (i6 q)
 have e7:m.2.2.2.2.2.2.2.2.2.2.2.1=n.2.2.2.2.2.2.2.2.2.2.2.1:=by
  cases q:kindB m.1 7
  ·rw [hm.ak q,hn.ak (by rw [← h1]; exact q)]
  ·exact hall 8 (i7 q)
 have e8:m.2.2.2.2.2.2.2.2.2.2.2.2.1.toList=n.2.2.2.2.2.2.2.2.2.2.2.2.1.toList:=by
  cases q:kindB m.1 8
  ·rw [hm.tk q,hn.tk (by rw [← h1]; exact q)]
  ·exact hall 9 (i8 q)
 have e9:m.2.2.2.2.2.2.2.2.2.2.2.2.2.1=n.2.2.2.2.2.2.2.2.2.2.2.2.2.1:=by
  cases q:kindB m.1 8
  ·rw [hm.tn q,hn.tn (by rw [← h1]; exact q)]
  ·exact hall 3 (i8' q)
 have e10:m.2.2.2.2.2.2.2.2.2.2.2.2.2.2=n.2.2.2.2.2.2.2.2.2.2.2.2.2.2:=by
  cases q:kindB m.1 9
  ·rw [hm.gd q,hn.gd (by rw [← h1]; exact q)]
  ·exact hall 10 (i9 q)
 unfold sameB
 rw [h1,h3,h5,e0,e1,e2.1,e2.2,e3,e4,e5,e6,e7,e8,e9,e10]
 simp
theorem same_eq {m n:MB} (h:sameB m n=true):m=n:=by
 obtain ⟨k,fr,to,sq,wh,ki,ks,nw,tb,ep,bo,ak,tk,tn,gd⟩:=m
 obtain ⟨k',fr',to',sq',wh',ki',ks',nw',tb',ep',bo',ak',tk',tn',gd'⟩:=n
 unfold sameB at h
 simp only [Bool.and_eq_true,decide_eq_true_eq,beq_iff_eq] at h
 obtain ⟨rfl,rfl,rfl,rfl,rfl,rfl,rfl,rfl,rfl,rfl,rfl,rfl,h,rfl,rfl⟩:=h
 rw [toList_inj h]
theorem few_ok2 {k fr to sq wh ki ks ep bo ak tn:Int} {nw:List NW} {tb:List KW} {tk:ByteArray} {gd:Bool}:∃ (nw':List NW) (tb':List KW) (tk':ByteArray),F9 (k,fr,to,sq,wh,ki,ks,nw,tb,ep,bo,ak,tk,tn,gd)=some (k,fr,to,sq,wh,ki,ks,nw',tb',ep,bo,ak,tk',tn,gd)∧nw'.length≤9∧tb'.length≤65∧tk'.size≤21∧(∀ x ∈ nw',x ∈ nw)∧∀ x ∈ tb',x ∈ tb:=by
  rw [F9_eq]
  obtain ⟨nw',e1,l1,m1⟩:∃ nw':List NW,cond (decide (((nw.length:Nat):Int) > 9)) (cond (decide ((9:Int)≤((nw.length:Nat):Int))) (some (List.take 9 nw)) none) (some nw)=some nw'∧nw'.length≤9∧∀ x ∈ nw',x ∈ nw:=by
    by_cases h:nw.length > 9
    · exact ⟨nw.take 9,by rw [decide_eq_true (by omega),decide_eq_true (by omega)]; rfl,by rw [List.length_take]; omega,fun x hx=>List.mem_of_mem_take hx⟩
    · exact ⟨nw,by rw [decide_eq_false (by omega)]; rfl,by omega,fun x hx=>hx⟩
  obtain ⟨tb',e2,l2,m2⟩:∃ tb':List KW,cond (decide (((tb.length:Nat):Int) > 65)) (cond (decide ((65:Int)≤((tb.length:Nat):Int))) (some (List.take 65 tb)) none) (some tb)=some tb'∧tb'.length≤65∧∀ x ∈ tb',x ∈ tb:=by
    by_cases h:tb.length > 65
    · exact ⟨tb.take 65,by rw [decide_eq_true (by omega),decide_eq_true (by omega)]; rfl,by rw [List.length_take]; omega,fun x hx=>List.mem_of_mem_take hx⟩
    · exact ⟨tb,by rw [decide_eq_false (by omega)]; rfl,by omega,fun x hx=>hx⟩
  obtain ⟨tk',e3,l3⟩:∃ tk':ByteArray,cond (decide (((tk.size:Nat):Int) > 21)) (cond (decide ((21:Int)≤((tk.size:Nat):Int))) (some (ByteArray.extract tk 0 21)) none) (some tk)=some tk'∧tk'.size≤21:=by
    by_cases h:tk.size > 21
    · exact ⟨tk.extract 0 21,by rw [decide_eq_true (by omega),decide_eq_true (by omega)]; rfl,by rw [ByteArray.size_extract]; omega⟩
    · exact ⟨tk,by rw [decide_eq_false (by omega)]; rfl,by omega⟩
  refine ⟨nw',tb',tk',?_,l1,l2,l3,m1,m2⟩
  by_cases h1:nw.length > 9<;>by_cases h2:tb.length > 65<;>by_cases h3:tk.size > 21
  all_goals
    first
      | (have a1:((nw.length:Nat):Int) > 9:=by omega
         have b1:(9:Int)≤((nw.length:Nat):Int):=by omega
         rw [decide_eq_true a1,decide_eq_true b1] at e1)
      | (have a1:¬ ((nw.length:Nat):Int) > 9:=by omega
         rw [decide_eq_false a1] at e1)
    first
      | (have a2:((tb.length:Nat):Int) > 65:=by omega
         have b2:(65:Int)≤((tb.length:Nat):Int):=by omega
         rw [decide_eq_true a2,decide_eq_true b2] at e2)
      | (have a2:¬ ((tb.length:Nat):Int) > 65:=by omega
         rw [decide_eq_false a2] at e2)
    first
      | (have a3:((tk.size:Nat):Int) > 21:=by omega
         have b3:(21:Int)≤((tk.size:Nat):Int):=by omega
         rw [decide_eq_true a3,decide_eq_true b3] at e3)
      | (have a3:¬ ((tk.size:Nat):Int) > 21:=by omega
         rw [decide_eq_false a3] at e3)
    simp only [cond_true,cond_false,Option.some.injEq] at e1 e2 e3
    subst e1 e2 e3
    simp -implicitDefEqProofs only [a1,a2,a3,eq_self,xs]
    try simp only [decide_eq_true b1,cond_true,Option.bind_some]
    try simp only [decide_eq_true b2,cond_true,Option.bind_some]
    try simp only [decide_eq_true b3,cond_true,Option.bind_some]
    try simp only [*,decide_true,decide_false,cond_true,cond_false,Option.bind_some]
theorem few_giv {m:MB} (g:Giv m):∃ m':MB,F9 m=some m'∧m'.2.2.2.2.2.2.2.1.length≤9∧m'.2.2.2.2.2.2.2.2.1.length≤65∧m'.2.2.2.2.2.2.2.2.2.2.2.2.1.size≤21∧Giv m':=by
 obtain ⟨k,fr,to,sq,wh,ki,ks,nw,tb,ep,bo,ak,tk,tn,gd⟩:=m
 have key:∃ (nw':List NW) (tb':List KW) (tk':ByteArray),F9 (k,fr,to,sq,wh,ki,ks,nw,tb,ep,bo,ak,tk,tn,gd)=some (k,fr,to,sq,wh,ki,ks,nw',tb',ep,bo,ak,tk',tn,gd)∧nw'.length≤9∧tb'.length≤65∧tk'.size≤21∧(∀ x ∈ nw',x ∈ nw)∧∀ x ∈ tb',x ∈ tb:=by
  obtain ⟨nw',tb',tk',h,l1,l2,l3,h4⟩:=few_ok2 (k:=k) (fr:=fr) (to:=to) (sq:=sq) (wh:=wh) (ki:=ki) (ks:=ks) (ep:=ep) (bo:=bo) (ak:=ak) (tn:=tn) (nw:=nw) (tb:=tb) (tk:=tk) (gd:=gd)
  exact ⟨nw',tb',tk',h,l1,l2,l3,h4⟩
 obtain ⟨nw',tb',tk',h,l1,l2,l3,hn,ht⟩:=key
 exact ⟨_,h,l1,l2,l3,g.sq,g.ki,fun x hx=>g.nw x (hn x hx),fun x hx=>g.tb x (ht x hx),g.ep,g.bo,g.tn⟩
theorem giv_of {m:MB} (h:WfD (.p (.i .i64) (.p (.i .i64) (.p (.i .i64) (.p (.i .u64) (.p (.i .i64) (.p (.i .u64) (.p (.i .i64) (.p (.sl (.p (.i .i64) (.p (.i .u64) (.i .i64)))) (.p (.sl (.p (.i .u64) (.i .i64))) (.p (.i .u64) (.p (.i .u64) (.p (.i .i64) (.p .s (.p (.i .u64) .b)))))))))))))) m):Giv m:=by
 obtain ⟨_,_,_,h1,_,h2,_,h3,h4,h5,h6,_,_,h7,_⟩:=h
 exact ⟨h1,h2,fun x hx=>(h3.2 x hx).2.1,fun x hx=>(h4.2 x hx).1,h5,h6,h7⟩
end Go.Proofs.Ytgbcankkfmhcoaa.VL
end
section
namespace Go.Proofs.Ytgbcankkfmhcoaa.VL
open Go
set_option linter.unusedVariables false
set_option linter.unusedSectionVars false
set_option linter.unusedSimpArgs false
set_option maxRecDepth 100000
variable [Val]
def tk:Nat→Nat→List UInt8→Nat×(Nat×Nat)
 | _,_,[]=>(0,0,3)
 | i,n,c::r=>if (0 < i∧c.toNat=0)∨(i=9∧1 < c.toNat) then (0,0,2) else if c.toNat < 128 then (n+c.toNat % 128 * 128 ^ i,i+1,0) else tk (i+1) (n+c.toNat % 128 * 128 ^ i) r
def tkR (a:Nat) (r:Nat×(Nat×Nat)):Int×(Int×Int):=(((r.1:Nat):Int),(if r.2.2=0 then ((a+r.2.1:Nat):Int) else 0,((r.2.2:Nat):Int)))
theorem and_tab:∀ r:Fin 256,IntKind.wrap .u8 (((((BitVec.ofInt 8 ((r.val:Nat):Int)).and (BitVec.ofInt 8 127)).toNat:Nat)):Int)=((r.val % 128:Nat):Int):=by decide +kernel
theorem and_c (c:UInt8):IntKind.wrap .u8 (((((BitVec.ofInt 8 ((c.toNat:Nat):Int)).and (BitVec.ofInt 8 127)).toNat:Nat)):Int)=((c.toNat % 128:Nat):Int):=and_tab ⟨c.toNat,c.toNat_lt⟩
theorem bv64 {n:Nat} (h:n < 18446744073709551616):(BitVec.ofInt 64 ((n:Nat):Int)).toNat=n:=by
 rw [BitVec.toNat_ofInt]; omega
theorem or64 {n m i:Nat} (hn:n < 128 ^ i) (hm:m * 128 ^ i < 18446744073709551616) (hi:i≤9):((BitVec.ofInt 64 ((n:Nat):Int)).or (BitVec.ofInt 64 ((m * 128 ^ i:Nat):Int))).toNat=n+m * 128 ^ i:=by
 have h9:128 ^ i≤128 ^ 9:=Nat.pow_le_pow_right (by omega) hi
 have e9:(128:Nat) ^ 9=9223372036854775808:=by decide
 have hb:n < 18446744073709551616:=by omega
 show ((BitVec.ofInt 64 ((n:Nat):Int)) ||| (BitVec.ofInt 64 ((m * 128 ^ i:Nat):Int))).toNat=_
 rw [BitVec.toNat_or,bv64 hb,bv64 hm]
 have e:128 ^ i=2 ^ (7 * i):=by rw [Nat.pow_mul]
 rw [e] at hn ⊢
 have:=Nat.two_pow_add_eq_or_of_lt hn m
 rw [Nat.or_comm,Nat.mul_comm m,← this,Nat.add_comm]
theorem pow_i {i:Nat} (hi:i≤9):Int.pow 2 (min (Int.toNat (IntKind.wrap .i64 (7 * ((i:Nat):Int)))) 64)=((128 ^ i:Nat):Int):=by
 rw [wi (by omega) (by omega)]
 have e:(7 * ((i:Nat):Int)).toNat=7 * i:=by omega
 rw [e,Nat.min_eq_left (by omega)]
 have e2:128 ^ i=2 ^ (7 * i):=by rw [Nat.pow_mul]
 rw [e2]
 show (2:Int) ^ (7 * i)=_
 rw [Int.natCast_pow]; rfl
theorem tk_step {i n c:Nat} (hi:i≤9) (hn:n < 128 ^ i) (h9:i=9→c≤1) (hc:c < 256):n+c % 128 * 128 ^ i < 18446744073709551616∧(i < 9→n+c % 128 * 128 ^ i < 128 ^ (i+1))∧c % 128 * 128 ^ i < 18446744073709551616:=by
 have hp:0 < 128 ^ i:=Nat.pos_of_ne_zero (by
  have:=Nat.pow_pos (n:=i) (show 0 < 128 by omega)
  omega)
 by_cases h:i=9
 ·subst h
  have:=h9 rfl
  have e9:(128:Nat) ^ 9=9223372036854775808:=by decide
  rw [e9] at hn ⊢
  have e:c % 128=c:=by omega
  rw [e]
  clear h9 e9 hp
  refine ⟨?_,fun q=>absurd q (Nat.lt_irrefl 9),?_⟩<;>(rcases Nat.le_one_iff_eq_zero_or_eq_one.1 this with q | q<;>rw [q]<;>clear q this e<;>simp only [Nat.zero_mul,Nat.one_mul,Nat.add_zero]<;>omega)
 ·have e:n+c % 128 * 128 ^ i < 128 ^ (i+1):=by
   rw [Nat.pow_succ]
   have h1:c % 128≤127:=by omega
   have h2:c % 128 * 128 ^ i≤127 * 128 ^ i:=Nat.mul_le_mul_right _ h1
   omega
  have h9':128 ^ (i+1)≤128 ^ 9:=Nat.pow_le_pow_right (by omega) (by omega)
  have e9:(128:Nat) ^ 9=9223372036854775808:=by decide
  exact ⟨by omega,fun _=>e,by omega⟩
theorem bad_ok (i c:Nat):(cond (decide (((i:Nat):Int) > 0)) (cond (((c:Nat):Int)==0) (some true) (cond (((i:Nat):Int)==9) (some (decide (((c:Nat):Int) > 1))) (some false))) (cond (((i:Nat):Int)==9) (some (decide (((c:Nat):Int) > 1))) (some false)))=some (decide ((0 < i∧c=0)∨(i=9∧1 < c))):=by
 have e1:(((c:Nat):Int)==0)=decide (c=0):=by rw [Bool.eq_iff_iff]; simp
 have e2:(((i:Nat):Int)==9)=decide (i=9):=by rw [Bool.eq_iff_iff]; simp; omega
 have e3:decide (((i:Nat):Int) > 0)=decide (0 < i):=by rw [Bool.eq_iff_iff]; simp
 have e4:decide (((c:Nat):Int) > 1)=decide (1 < c):=by rw [Bool.eq_iff_iff]; simp; omega
 rw [e1,e2,e3,e4]
 by_cases h1:0 < i<;>by_cases h2:c=0<;>by_cases h3:i=9<;>by_cases h4:1 < c<;>simp [h1,h2,h3,h4]
theorem ba_at {s:ByteArray} {i:Nat} (h:i < s.toList.length):s[i]?=some s.toList[i]:=by
 have hi:i < s.size:=by rw [toList_len] at h; exact h
 have:=ba_get hi
 rw [Int.toNat_natCast] at this
 rw [this]
 congr 1
 have h1:i < s.data.size:=hi
 have h2:s.get! i=s.data[i]:=by
  show s.data[i]! = _
  rw [getElem!_pos s.data i h1]
 rw [h2]
 have h3:∀ (l:List UInt8) (e:l=s.data.toList) (hi:i < l.length),s.data[i]=l[i]:=by
  intro l e hi; subst e; simp
 exact h3 _ (toList_data s) _
theorem F85_ok {s:ByteArray} {a:Nat} (ha:a≤s.size) (hs:s.size≤4611686018427387904):F85 (s,((a:Nat):Int))=some (tkR a (tk 0 0 (s.toList.drop a))):=by
 rw [F85_eq]
 have p1:¬ ((a:Nat):Int) < 0:=by omega
 have p2:¬ ((a:Nat):Int) > ((s.size:Nat):Int):=by omega
 simp -implicitDefEqProofs only [p1,p2,eq_self,xs]
 have el:IntKind.wrap .i64 (((s.size:Nat):Int) - ((a:Nat):Int))=((s.size - a:Nat):Int):=by rw [wi (by omega) (by omega)]; omega
 rw [el]
 rw [loopX_spec (ρ:=Int×(Int×Int)) (fun x:Int×Int=>∃ n i:Nat,x=(((n:Nat):Int),((i:Nat):Int))∧i≤s.size - a∧i≤10∧(i≤9→n < 128 ^ i)∧(i=10→False)) (fun x=>s.size - a - x.2.toNat) (fun x=>tkR a (tk x.2.toNat x.1.toNat (s.toList.drop (a+x.2.toNat)))) ?_ (0,0) ⟨0,0,rfl,by omega,by omega,fun _=>by decide,fun h=>by omega⟩]
 ·rfl
 ·rintro _ ⟨n,i,rfl,h1,h2,h3,h4⟩
  have hi:i≤9:=by
   rcases Nat.lt_or_ge i 10 with h | h
   ·omega
   ·exact absurd (by omega) h4
  have hn:=h3 hi
  simp only [Int.toNat_natCast]
  by_cases hl:i < s.size - a
  ·have q1:((i:Nat):Int) < ((s.size - a:Nat):Int):=by omega
   have ew:IntKind.wrap .i64 (((a:Nat):Int)+((i:Nat):Int))=((a+i:Nat):Int):=by rw [wi (by omega) (by omega)]; omega
   have ew2:IntKind.wrap .i64 (((a+i:Nat):Int)+1)=((a+(i+1):Nat):Int):=by rw [wi (by omega) (by omega)]; omega
   have ew3:IntKind.wrap .i64 (((i:Nat):Int)+1)=((i+1:Nat):Int):=by rw [wi (by omega) (by omega)]; omega
   have q2:(0:Int)≤((a+i:Nat):Int):=by omega
   have hlt:a+i < s.size:=by omega
   have hlt2:a+i < s.toList.length:=by rw [toList_len]; omega
   have g:s[a+i]?=some s.toList[a+i]:=ba_at hlt2
   have hd:s.toList.drop (a+i)=s.toList[a+i]::s.toList.drop (a+(i+1)):=by
    rw [List.drop_eq_getElem_cons hlt2]; rfl
   rw [hd]
   generalize s.toList[a+i]=c at *
   have hc:c.toNat < 256:=c.toNat_lt
   have q3:¬ IntKind.wrap .i64 (7 * ((i:Nat):Int)) < 0:=by rw [wi (by omega) (by omega)]; omega
   have bk:=bad_ok i c.toNat
   have ac:=and_c c
   have pw:=pow_i hi
   by_cases hb:(0 < i∧c.toNat=0)∨(i=9∧1 < c.toNat)
   ·left
    rw [decide_eq_true hb] at bk
    simp only [tk,if_pos hb]
    simp -implicitDefEqProofs only [q1,ew,q2,g,bk,eq_self,xs]
    rfl
   ·rw [decide_eq_false hb] at bk
    obtain ⟨t1,t2,t3⟩:=tk_step hi hn (fun h=>by omega) hc
    have u1:IntKind.wrap .u64 ((c.toNat % 128:Nat):Int)=((c.toNat % 128:Nat):Int):=wu (by omega) (by omega)
    have u2:IntKind.wrap .u64 (((c.toNat % 128:Nat):Int) * ((128 ^ i:Nat):Int))=((c.toNat % 128 * 128 ^ i:Nat):Int):=by
     rw [← Int.natCast_mul]; exact wu (by omega) (by omega)
    have u3:=or64 hn t3 hi
    have u4:IntKind.wrap .u64 ((n+c.toNat % 128 * 128 ^ i:Nat):Int)=((n+c.toNat % 128 * 128 ^ i:Nat):Int):=wu (by omega) (by omega)
    by_cases hd:c.toNat < 128
    ·left
     have d1:((c.toNat:Nat):Int) < 128:=by omega
     simp only [tk,if_neg hb,if_pos hd]
     simp -implicitDefEqProofs only [q1,ew,q2,g,bk,q3,d1,ac,u1,pw,u2,u3,u4,ew2,eq_self,xs]
     rfl
    ·right
     have d1:¬ ((c.toNat:Nat):Int) < 128:=by omega
     have hi8:i < 9:=by omega
     refine ⟨(((n+c.toNat % 128 * 128 ^ i:Nat):Int),((i+1:Nat):Int)),?_,⟨_,_,rfl,by omega,by omega,fun _=>t2 hi8,fun h=>by omega⟩,by simp only [Int.toNat_natCast]; omega,?_⟩
     ·simp -implicitDefEqProofs only [q1,ew,q2,g,bk,q3,d1,ac,u1,pw,u2,u3,u4,ew3,eq_self,xs]
     ·simp only [Int.toNat_natCast,tk,if_neg hb,if_neg hd]
  ·have q1:¬ ((i:Nat):Int) < ((s.size - a:Nat):Int):=by omega
   left
   have:s.toList.drop (a+i)=[]:=List.drop_eq_nil_of_le (by rw [toList_len]; omega)
   rw [this]
   simp -implicitDefEqProofs only [q1,eq_self,xs]
   rfl
theorem tk_num:∀ (k x i n:Nat) (r:List UInt8),x < 128 ^ (k+1)→i+k≤9→(i+k=9→x < 2 * 128 ^ k)→(0 < i→0 < x)→tk i n ((numZ x).map bI++r)=(n+x * 128 ^ i,i+(numZ x).length,0):=by
 intro k
 induction k with
 | zero =>
  intro x i n r h1 h2 h3 h4
  have hs:x≤127:=by simp at h1; omega
  unfold numZ
  rw [hiZ_small hs,loZ_small hs]
  have hb:(bI ((x:Nat):Int)).toNat=x:=by rw [bI_toNat,Int.toNat_natCast]; omega
  simp only [List.nil_append,List.map_cons,List.map_nil,List.cons_append,tk,hb,List.length_cons,List.length_nil]
  rw [if_neg (by
   rintro (⟨a,b⟩ | ⟨a,b⟩)
   ·have:=h4 a; omega
   ·have:=h3 (by omega); simp at this; omega),if_pos (by omega)]
  rw [Nat.mod_eq_of_lt (by omega)]
 | succ k ih =>
  intro x i n r h1 h2 h3 h4
  by_cases hs:x≤127
  ·unfold numZ
   rw [hiZ_small hs,loZ_small hs]
   have hb:(bI ((x:Nat):Int)).toNat=x:=by rw [bI_toNat,Int.toNat_natCast]; omega
   simp only [List.nil_append,List.map_cons,List.map_nil,List.cons_append,tk,hb,List.length_cons,List.length_nil]
   rw [if_neg (by
    rintro (⟨a,b⟩ | ⟨a,b⟩)
    ·have:=h4 a; omega
    ·omega),if_pos (by omega)]
   rw [Nat.mod_eq_of_lt (by omega)]
  ·have e:numZ x=((128+x % 128:Nat):Int)::numZ (x / 128):=by
    unfold numZ
    rw [hiZ_big hs,loZ_big hs]; rfl
   have hb:(bI ((128+x % 128:Nat):Int)).toNat=128+x % 128:=by rw [bI_toNat,Int.toNat_natCast]; omega
   rw [e]
   simp only [List.map_cons,List.cons_append,tk,hb,List.length_cons]
   rw [if_neg (by rintro (⟨a,b⟩ | ⟨a,b⟩)<;>omega),if_neg (by omega)]
   rw [ih (x / 128) (i+1) _ r (by rw [Nat.div_lt_iff_lt_mul (by omega)]; rw [Nat.pow_succ] at h1; exact h1) (by omega) (fun hk=>by
    have:=h3 (by omega)
    rw [Nat.div_lt_iff_lt_mul (by omega)]
    rw [Nat.pow_succ] at this
    rw [Nat.mul_assoc]; exact this) (fun _=>by omega)]
   have e1:(128+x % 128) % 128=x % 128:=by omega
   rw [e1]
   refine Prod.ext ?_ (Prod.ext ?_ rfl)
   ·show n+x % 128 * 128 ^ i+x / 128 * 128 ^ (i+1)=n+x * 128 ^ i
    have e2:x / 128 * 128 ^ (i+1)=x / 128 * 128 * 128 ^ i:=by rw [Nat.pow_succ,Nat.mul_comm (128 ^ i) 128,Nat.mul_assoc]
    have e3:x * 128 ^ i=(x % 128+x / 128 * 128) * 128 ^ i:=by
     congr 1; omega
    rw [e2,e3,Nat.add_mul,Nat.add_assoc]
   ·show i+1+(numZ (x / 128)).length=i+((numZ (x / 128)).length+1)
    omega
theorem tk_ok {x:Int} (h:U64 x) (r:List UInt8):tk 0 0 (numU x++r)=(x.toNat,(numU x).length,0):=by
 unfold numU
 have e9:(128:Nat) ^ (9+1)=1180591620717411303424:=by decide
 have e8:2 * (128:Nat) ^ 9=18446744073709551616:=by decide
 obtain ⟨h1,h2⟩:=h
 rw [tk_num 9 x.toNat 0 0 r (by rw [e9]; omega) (by omega) (fun _=>by rw [e8]; omega) (fun q=>absurd q (Nat.lt_irrefl 0))]
 rw [List.length_map]
 refine Prod.ext ?_ (Prod.ext ?_ rfl)
 ·show 0+x.toNat * 128 ^ 0=x.toNat
  rw [Nat.pow_zero]; omega
 ·show 0+(numZ x.toNat).length=(numZ x.toNat).length
  omega
theorem tk_inv:∀ (l:List UInt8) (i n:Nat),i≤9→(tk i n l).2.2=0→∃ x r,l=(numZ x).map bI++r∧(0 < i→0 < x)∧x * 128 ^ i < 18446744073709551616∧tk i n l=(n+x * 128 ^ i,i+(numZ x).length,0):=by
 intro l
 induction l with
 | nil=>intro i n _ h; simp [tk] at h
 | cons c r ih =>
  intro i n hi h
  have hc:c.toNat < 256:=c.toNat_lt
  simp only [tk] at h ⊢
  by_cases hb:(0 < i∧c.toNat=0)∨(i=9∧1 < c.toNat)
  ·rw [if_pos hb] at h; simp at h
  ·rw [if_neg hb] at h ⊢
   by_cases hd:c.toNat < 128
   ·rw [if_pos hd] at h ⊢
    refine ⟨c.toNat,r,?_,fun hi=>Nat.pos_of_ne_zero (fun e=>hb (.inl ⟨hi,e⟩)),?_,?_⟩
    ·unfold numZ
     rw [hiZ_small (by omega),loZ_small (by omega)]
     simp only [List.nil_append,List.map_cons,List.map_nil,List.cons_append]
     congr 1
     apply UInt8.toNat_inj.1
     rw [bI_toNat,Int.toNat_natCast]; omega
    ·by_cases h9:i=9
     ·subst h9
      have e9:(128:Nat) ^ 9=9223372036854775808:=by decide
      rw [e9]
      have:c.toNat≤1:=by
       rcases Nat.lt_or_ge 1 c.toNat with q | q
       ·exact absurd (.inr ⟨rfl,q⟩) hb
       ·exact q
      have:=Nat.mul_le_mul_right 9223372036854775808 this
      exact Nat.lt_of_le_of_lt this (by decide)
     ·have h8:128 ^ i≤128 ^ 8:=Nat.pow_le_pow_right (by omega) (by omega)
      have:=Nat.mul_le_mul (show c.toNat≤128 by omega) h8
      exact Nat.lt_of_le_of_lt this (by decide)
    ·rw [Nat.mod_eq_of_lt hd]
     unfold numZ
     rw [hiZ_small (by omega)]; rfl
   ·rw [if_neg hd] at h ⊢
    have h8:i≤8:=by
     rcases Nat.lt_or_ge i 9 with q | q
     ·omega
     ·exact absurd (.inr ⟨by omega,by omega⟩) hb
    obtain ⟨x,r',e1,e2,e3,e4⟩:=ih (i+1) _ (by omega) h
    have hx:=e2 (by omega)
    have e5:numZ (c.toNat % 128+128 * x)=((c.toNat:Nat):Int)::numZ x:=by
     unfold numZ
     rw [hiZ_big (n:=c.toNat % 128+128 * x) (by omega),loZ_big (n:=c.toNat % 128+128 * x) (by omega)]
     have a:(c.toNat % 128+128 * x) / 128=x:=by omega
     have b:128+(c.toNat % 128+128 * x) % 128=c.toNat:=by omega
     rw [a,b]; rfl
    have e6:(c.toNat % 128+128 * x) * 128 ^ i=c.toNat % 128 * 128 ^ i+x * 128 ^ (i+1):=by
     rw [Nat.add_mul,Nat.pow_succ,Nat.mul_comm (128 ^ i) 128,← Nat.mul_assoc,Nat.mul_comm x 128]
    refine ⟨c.toNat % 128+128 * x,r',?_,fun _=>by omega,?_,?_⟩
    ·rw [e5,e1]
     simp only [List.map_cons,List.cons_append]
     congr 1
     apply UInt8.toNat_inj.1
     rw [bI_toNat,Int.toNat_natCast]; omega
    ·rw [e6]
     have hD:=(show ∀ j:Fin 9,18446744073709551616=2 ^ (64 - 7 * (j.val+1)) * 128 ^ (j.val+1) by decide) ⟨i,by omega⟩
     simp only at hD
     rw [hD] at e3 ⊢
     have hp:0 < 128 ^ (i+1):=Nat.pow_pos (by omega)
     have hp2:0 < 128 ^ i:=Nat.pow_pos (by omega)
     have hlt:=Nat.lt_of_mul_lt_mul_right e3
     have a:=Nat.mul_le_mul_right (128 ^ (i+1)) (show x+1≤_ from hlt)
     rw [Nat.add_mul] at a
     have b:c.toNat % 128 * 128 ^ i < 128 ^ (i+1):=by
      rw [Nat.pow_succ,Nat.mul_comm (128 ^ i)]
      exact Nat.mul_lt_mul_of_pos_right (Nat.mod_lt _ (by omega)) hp2
     generalize 2 ^ (64 - 7 * (i+1)) * 128 ^ (i+1)=A at *
     omega
    ·rw [e4,e5,e6]
     refine Prod.ext ?_ (Prod.ext ?_ rfl)
     ·show _+_+_=_+(_+_)
      omega
     ·show i+1+_=i+(_+1)
      omega
theorem tk_num_inv {l:List UInt8} (h:(tk 0 0 l).2.2=0):∃ (x:Int) (r:List UInt8),U64 x∧l=numU x++r∧tk 0 0 l=(x.toNat,(numU x).length,0):=by
 obtain ⟨x,r,e1,_,e3,e4⟩:=tk_inv l 0 0 (by omega) h
 rw [Nat.pow_zero,Nat.mul_one] at e3
 refine ⟨(x:Int),r,⟨by omega,by omega⟩,by unfold numU; rw [Int.toNat_natCast]; exact e1,?_⟩
 rw [e4]
 unfold numU
 rw [Int.toNat_natCast,List.length_map,Nat.pow_zero,Nat.mul_one,Nat.zero_add,Nat.zero_add]
theorem take_num {s:ByteArray} (hs:s.size≤4611686018427387904) {A:List UInt8} {a:Nat} {R:List UInt8} (hA:s.toList=A++R) (ha:a=A.length) :
  (∃ x r,U64 x∧R=numU x++r∧F85 (s,((a:Nat):Int))=some (x,((a+(numU x).length:Nat):Int),0)) ∨
  ((∀ x r,U64 x→R≠numU x++r)∧∃ e:Int,e≠0∧F85 (s,((a:Nat):Int))=some (0,0,e)):=by
 have hl:=toList_len s
 rw [hA,List.length_append] at hl
 have e:=F85_ok (s:=s) (a:=a) (by omega) hs
 have hd:s.toList.drop a=R:=by rw [hA,ha,List.drop_left]
 rw [hd] at e
 by_cases h0:(tk 0 0 R).2.2=0
 ·left
  obtain ⟨x,r,hx,h1,h2⟩:=tk_num_inv h0
  refine ⟨x,r,hx,h1,?_⟩
  rw [e,h2]
  unfold tkR
  have:((x.toNat:Nat):Int)=x:=by have:=hx.1; omega
  simp only [this,if_true]
  rfl
 ·right
  refine ⟨fun x r hx hr=>h0 (by rw [hr,tk_ok hx]),(((tk 0 0 R).2.2:Nat):Int),by omega,?_⟩
  have hz:∀ (l:List UInt8) (i n:Nat),(tk i n l).2.2≠0→(tk i n l).1=0:=by
   intro l
   induction l with
   | nil=>intro i n _; rfl
   | cons c r ih =>
    intro i n h
    simp only [tk] at h ⊢
    by_cases hb:(0 < i∧c.toNat=0)∨(i=9∧1 < c.toNat)
    ·rw [if_pos hb]
    ·rw [if_neg hb] at h ⊢
     by_cases hd:c.toNat < 128
     ·rw [if_pos hd] at h; simp at h
     ·rw [if_neg hd] at h ⊢
      exact ih _ _ h
  rw [e]
  unfold tkR
  rw [hz _ _ _ h0,if_neg h0]; rfl
end Go.Proofs.Ytgbcankkfmhcoaa.VL
end
section
namespace Go.Proofs.Ytgbcankkfmhcoaa.VL
open Go
set_option linter.unusedVariables false
set_option linter.unusedSectionVars false
set_option linter.unusedSimpArgs false
set_option maxRecDepth 100000
variable [Val]
theorem ext_mk (s:ByteArray) (a b:Nat):s.extract a b=mkB ((s.toList.drop a).take (b - a)):=by
 apply toList_inj
 rw [mkB_toList,toList_data,toList_data,ByteArray.data_extract,Array.toList_extract]
theorem take_text {s:ByteArray} (hs:s.size≤4611686018427387904) {A R:List UInt8} {a:Nat} (hA:s.toList=A++R) (ha:a=A.length) :
  (∃ t r:List UInt8,t.length≤200∧R=numU ((t.length:Nat):Int)++(t++r)∧F89 (s,((a:Nat):Int))=some (mkB t,((a+((numU ((t.length:Nat):Int)).length+t.length):Nat):Int),0)) ∨
  ((∀ t r:List UInt8,t.length≤200→R≠numU ((t.length:Nat):Int)++(t++r))∧∃ e:Int,e≠0∧F89 (s,((a:Nat):Int))=some (ByteArray.mk #[],0,e)):=by
 have hl:=toList_len s
 rw [F89_eq]
 rcases take_num hs hA ha with ⟨x,r,hx,h1,h2⟩ | ⟨h1,e,he,h2⟩
 ·obtain ⟨n,rfl⟩:∃ n:Nat,x=n:=⟨x.toNat,by have:=hx.1; omega⟩
  have hlen:s.size=A.length+((numU (n:Int)).length+r.length):=by rw [← hl,hA,h1,List.length_append,List.length_append]
  rw [h2]
  by_cases hn:n≤200
  ·have q1:¬ ((n:Nat):Int) > 200:=by omega
   have w1':IntKind.wrap .i64 ((n:Nat):Int)=((n:Nat):Int):=wi (by omega) (by omega)
   have w2:IntKind.wrap .i64 (((s.size:Nat):Int) - ((a+(numU (n:Int)).length:Nat):Int))=((r.length:Nat):Int):=by rw [wi (by omega) (by omega)]; omega
   by_cases hr:n≤r.length
   ·left
    have q2:¬ ((n:Nat):Int) > ((r.length:Nat):Int):=by omega
    have w3:IntKind.wrap .i64 (((a+(numU (n:Int)).length:Nat):Int)+((n:Nat):Int))=((a+((numU (n:Int)).length+n):Nat):Int):=by rw [wi (by omega) (by omega)]; omega
    have q3:(0:Int)≤((a+(numU (n:Int)).length:Nat):Int):=by omega
    have q4:((a+(numU (n:Int)).length:Nat):Int)≤((a+((numU (n:Int)).length+n):Nat):Int):=by omega
    have q5:((a+((numU (n:Int)).length+n):Nat):Int)≤((s.size:Nat):Int):=by omega
    have ht:(r.take n).length=n:=by rw [List.length_take]; omega
    refine ⟨r.take n,r.drop n,by omega,by rw [ht,List.take_append_drop,h1],?_⟩
    rw [ht]
    have e:s.extract (a+(numU (n:Int)).length) (a+((numU (n:Int)).length+n))=mkB (r.take n):=by
     rw [ext_mk,hA,h1,← List.append_assoc]
     have:a+(numU (n:Int)).length=(A++numU (n:Int)).length:=by rw [List.length_append,ha]
     rw [this,List.drop_left]
     congr 2
     rw [List.length_append]; omega
    simp -implicitDefEqProofs only [nz0,q1,w1',w2,q2,w3,q3,q4,q5,e,eq_self,xs]
   ·right
    have q2:((n:Nat):Int) > ((r.length:Nat):Int):=by omega
    refine ⟨fun t r' ht hR=>?_,3,by omega,?_⟩
    ·rw [h1] at hR
     obtain ⟨e1,e2⟩:=numU_pre (by omega) (by omega) hR
     have e3:n=t.length:=by omega
     rw [e2,List.length_append] at hr
     omega
    ·simp -implicitDefEqProofs only [nz0,q1,w1',w2,q2,eq_self,xs]
  ·right
   have q1:((n:Nat):Int) > 200:=by omega
   refine ⟨fun t r' ht hR=>?_,4,by omega,?_⟩
   ·rw [h1] at hR
    obtain ⟨e1,e2⟩:=numU_pre (by omega) (by omega) hR
    omega
   ·simp -implicitDefEqProofs only [nz0,q1,eq_self,xs]
 ·right
  refine ⟨fun t r' ht hR=>h1 _ _ ⟨by omega,by omega⟩ hR,e,he,?_⟩
  rw [h2]
  have:(e != 0)=true:=by simpa using he
  simp -implicitDefEqProofs only [this,eq_self,xs]
def openE (l:List UInt8):List UInt8×Int :=
 if l.length < 4 then ([],3) else if 4100 < l.length then ([],4) else if l.drop (l.length - 4)=four (crc (l.take (l.length - 4))) then (l.take (l.length - 4),0) else ([],10)
theorem F38_ok {s:ByteArray} (hs:s.size≤4611686018427387904):F38 s=some (mkB (openE s.toList).1,(openE s.toList).2):=by
 rw [F38_eq]
 have hl:=toList_len s
 unfold openE
 rw [hl]
 by_cases h1:s.size < 4
 ·have q:IntKind.wrap .i64 (((s.size:Nat):Int) - 4) < 0:=by rw [wi (by omega) (by omega)]; omega
  rw [if_pos h1]
  simp -implicitDefEqProofs only [q,eq_self,xs]
  rfl
 ·have w:IntKind.wrap .i64 (((s.size:Nat):Int) - 4)=((s.size - 4:Nat):Int):=by rw [wi (by omega) (by omega)]; omega
  rw [if_neg h1,w]
  have q1:¬ ((s.size - 4:Nat):Int) < 0:=by omega
  by_cases h2:4100 < s.size
  ·have q2:((s.size - 4:Nat):Int) > 4096:=by omega
   rw [if_pos h2]
   simp -implicitDefEqProofs only [q1,q2,eq_self,xs]
   rfl
  ·have q2:¬ ((s.size - 4:Nat):Int) > 4096:=by omega
   have q3:(0:Int)≤((s.size - 4:Nat):Int):=by omega
   have q4:((s.size - 4:Nat):Int)≤((s.size:Nat):Int):=by omega
   have e1:s.extract 0 (s.size - 4)=mkB (s.toList.take (s.size - 4)):=by rw [ext_mk]; rfl
   have e2:s.extract (s.size - 4) s.size=mkB (s.toList.drop (s.size - 4)):=by
    rw [ext_mk,List.take_of_length_le (by rw [List.length_drop]; omega)]
   have f:=F82_ok (s:=mkB (s.toList.take (s.size - 4))) (by rw [mkB_size,List.length_take]; omega)
   rw [mkB_toList] at f
   have f2:=F81_ok (crc (s.toList.take (s.size - 4)))
   rw [if_neg h2]
   by_cases h3:s.toList.drop (s.size - 4)=four (crc (s.toList.take (s.size - 4)))
   ·rw [if_pos h3]
    have h4:(s.toList.drop (s.size - 4)==four (crc (s.toList.take (s.size - 4))))=true:=by rw [h3]; simp
    simp -implicitDefEqProofs only [q1,q2,q3,q4,e1,e2,f,f2,mkB_toList,h4,eq_self,xs]
   ·rw [if_neg h3]
    have h4:(s.toList.drop (s.size - 4)==four (crc (s.toList.take (s.size - 4))))=false:=by simpa using h3
    simp -implicitDefEqProofs only [q1,q2,q3,q4,e1,e2,f,f2,mkB_toList,h4,eq_self,xs]
    rfl
end Go.Proofs.Ytgbcankkfmhcoaa.VL
end
section
namespace Go.Proofs.Ytgbcankkfmhcoaa.VL
open Go
set_option linter.unusedVariables false
set_option linter.unusedSectionVars false
set_option maxRecDepth 100000
variable [Val]
abbrev RS:Type:=ByteArray×(Int×Bool)
abbrev REC:Type:=(Int×(Int×(Int×(Int×(Int×(Int×(Int×(Int×(Int×(Int×(ByteArray×(Int×Bool))))))))))))
noncomputable def rNum (r:RS):Option (Int×RS):=Option.bind (F85 (r.1,r.2.1)) (fun x=>cond (x.2.2 != 0) (some (0,r.1,r.2.1,false)) (some (x.1,r.1,x.2.1,r.2.2)))
noncomputable def rSmall (r:RS):Option (Int×RS):=Option.bind (rNum r) (fun x=>cond (decide (x.1 > 1048576)) (some (0,x.2.1,x.2.2.1,false)) (some (IntKind.wrap .i64 x.1,x.2.1,x.2.2.1,x.2.2.2)))
noncomputable def rMany (most:Int) (r:RS):Option (Int×RS):=Option.bind (rSmall r) (fun x=>cond (decide (x.1 > most)) (some (0,x.2.1,x.2.2.1,false)) (some (x.1,x.2.1,x.2.2.1,x.2.2.2)))
noncomputable def rKnow (r:RS):Option (RS×(Int×Int)):=Option.bind (rNum r) (fun x=>Option.bind (rSmall (x.2.1,x.2.2.1,x.2.2.2)) (fun y=>some ((y.2.1,y.2.2.1,y.2.2.2),x.1,y.1)))
noncomputable def nBod (v11:(Int×(RS×(REC×((List (Int×(Int×Int)))×(List (Int×Int))))))) (v32:Int×RS) (v33:(Int×((ByteArray×(Int×Bool))×((Int×(Int×(Int×(Int×(Int×(Int×(Int×(Int×(Int×(Int×(ByteArray×(Int×Bool))))))))))))×(List (Int×(Int×Int))))))):Option ((Int×((ByteArray×(Int×Bool))×((Int×(Int×(Int×(Int×(Int×(Int×(Int×(Int×(Int×(Int×(ByteArray×(Int×Bool))))))))))))×(List (Int×(Int×Int)))))) ⊕ ((Int×(RS×(REC×((List (Int×(Int×Int)))×(List (Int×Int)))))) ⊕ (RS×(REC×((List (Int×(Int×Int)))×(List (Int×Int))))))) :=
 (cond (decide (v33.1 < v32.1)) (Option.bind (rSmall (v33.2.1.1,v33.2.1.2.1,v33.2.1.2.2)) (fun (v36:(Int×(ByteArray×(Int×Bool))))=>(Option.bind (rKnow (v36.2.1,v36.2.2.1,v36.2.2.2)) (fun (v42:((ByteArray×(Int×Bool))×(Int×Int)))=>(cond ((decide ((0+v33.2.2.2.length)≤v33.2.2.2.length))&&((decide (((((v33.2.2.2.length+1):Nat):Int) * (24:Int))≤(70368744177664:Int)))&&(decide ((((v33.2.2.2.length+1):Nat):Int)≤(70368744177664:Int))))) (cond (decide (((0+v33.2.2.2.length)+1)≤v33.2.2.2.length)) (cond (decide ((v33.2.2.2.length+1)=(Append.append (Append.append (List.take (0+v33.2.2.2.length) v33.2.2.2) ((v36.1,v42.2.1,v42.2.2)::[])) (List.drop ((0+v33.2.2.2.length)+1) v33.2.2.2)).length)) (cond (decide (v11.2.2.2.2.length=v11.2.2.2.2.length)) (some (.inl ((IntKind.wrap IntKind.i64 (v33.1+(1:Int))),(v42.1.1,v42.1.2.1,v42.1.2.2),(v33.2.2.1.1,v33.2.2.1.2.1,v33.2.2.1.2.2.1,v33.2.2.1.2.2.2.1,v33.2.2.1.2.2.2.2.1,v33.2.2.1.2.2.2.2.2.1,v33.2.2.1.2.2.2.2.2.2.1,v33.2.2.1.2.2.2.2.2.2.2.1,v33.2.2.1.2.2.2.2.2.2.2.2.1,v33.2.2.1.2.2.2.2.2.2.2.2.2.1,v33.2.2.1.2.2.2.2.2.2.2.2.2.2.1,v33.2.2.1.2.2.2.2.2.2.2.2.2.2.2.1,v33.2.2.1.2.2.2.2.2.2.2.2.2.2.2.2),(Append.append (Append.append (List.take (0+v33.2.2.2.length) v33.2.2.2) ((v36.1,v42.2.1,v42.2.2)::[])) (List.drop ((0+v33.2.2.2.length)+1) v33.2.2.2))))) none) none) (cond (decide ((v33.2.2.2.length+1)=(Append.append (List.take v33.2.2.2.length v33.2.2.2) ((v36.1,v42.2.1,v42.2.2)::[])).length)) (cond (decide (v11.2.2.2.2.length=v11.2.2.2.2.length)) (some (.inl ((IntKind.wrap IntKind.i64 (v33.1+(1:Int))),(v42.1.1,v42.1.2.1,v42.1.2.2),(v33.2.2.1.1,v33.2.2.1.2.1,v33.2.2.1.2.2.1,v33.2.2.1.2.2.2.1,v33.2.2.1.2.2.2.2.1,v33.2.2.1.2.2.2.2.2.1,v33.2.2.1.2.2.2.2.2.2.1,v33.2.2.1.2.2.2.2.2.2.2.1,v33.2.2.1.2.2.2.2.2.2.2.2.1,v33.2.2.1.2.2.2.2.2.2.2.2.2.1,v33.2.2.1.2.2.2.2.2.2.2.2.2.2.1,v33.2.2.1.2.2.2.2.2.2.2.2.2.2.2.1,v33.2.2.1.2.2.2.2.2.2.2.2.2.2.2.2),(Append.append (List.take v33.2.2.2.length v33.2.2.2) ((v36.1,v42.2.1,v42.2.2)::[]))))) none) none)) none))))) (Option.map (Sum.inr) (cond (decide (v33.2.2.2.length=v33.2.2.2.length)) (cond (decide (v11.2.2.2.2.length=v11.2.2.2.2.length)) (some (.inl ((IntKind.wrap IntKind.i64 (v11.1+(1:Int))),(v33.2.1.1,v33.2.1.2.1,v33.2.1.2.2),(v33.2.2.1.1,v33.2.2.1.2.1,v33.2.2.1.2.2.1,v33.2.2.1.2.2.2.1,v33.2.2.1.2.2.2.2.1,v33.2.2.1.2.2.2.2.2.1,v33.2.2.1.2.2.2.2.2.2.1,v33.2.2.1.2.2.2.2.2.2.2.1,v33.2.2.1.2.2.2.2.2.2.2.2.1,v33.2.2.1.2.2.2.2.2.2.2.2.2.1,v33.2.2.1.2.2.2.2.2.2.2.2.2.2.1,v33.2.2.1.2.2.2.2.2.2.2.2.2.2.2.1,v33.2.2.1.2.2.2.2.2.2.2.2.2.2.2.2),v33.2.2.2,v11.2.2.2.2))) none) none)))
noncomputable def tBod (v11:(Int×(RS×(REC×((List (Int×(Int×Int)))×(List (Int×Int))))))) (v46:Int×RS) (v47:(Int×((ByteArray×(Int×Bool))×((Int×(Int×(Int×(Int×(Int×(Int×(Int×(Int×(Int×(Int×(ByteArray×(Int×Bool))))))))))))×(List (Int×Int)))))):Option ((Int×((ByteArray×(Int×Bool))×((Int×(Int×(Int×(Int×(Int×(Int×(Int×(Int×(Int×(Int×(ByteArray×(Int×Bool))))))))))))×(List (Int×Int))))) ⊕ ((Int×(RS×(REC×((List (Int×(Int×Int)))×(List (Int×Int)))))) ⊕ (RS×(REC×((List (Int×(Int×Int)))×(List (Int×Int))))))) :=
 (cond (decide (v47.1 < v46.1)) (Option.bind (rKnow (v47.2.1.1,v47.2.1.2.1,v47.2.1.2.2)) (fun (v53:((ByteArray×(Int×Bool))×(Int×Int)))=>(cond ((decide ((0+v47.2.2.2.length)≤v47.2.2.2.length))&&((decide (((((v47.2.2.2.length+1):Nat):Int) * (16:Int))≤(70368744177664:Int)))&&(decide ((((v47.2.2.2.length+1):Nat):Int)≤(70368744177664:Int))))) (cond (decide (((0+v47.2.2.2.length)+1)≤v47.2.2.2.length)) (cond (decide (v11.2.2.2.1.length=v11.2.2.2.1.length)) (cond (decide ((v47.2.2.2.length+1)=(Append.append (Append.append (List.take (0+v47.2.2.2.length) v47.2.2.2) ((v53.2.1,v53.2.2)::[])) (List.drop ((0+v47.2.2.2.length)+1) v47.2.2.2)).length)) (some (.inl ((IntKind.wrap IntKind.i64 (v47.1+(1:Int))),(v53.1.1,v53.1.2.1,v53.1.2.2),(v47.2.2.1.1,v47.2.2.1.2.1,v47.2.2.1.2.2.1,v47.2.2.1.2.2.2.1,v47.2.2.1.2.2.2.2.1,v47.2.2.1.2.2.2.2.2.1,v47.2.2.1.2.2.2.2.2.2.1,v47.2.2.1.2.2.2.2.2.2.2.1,v47.2.2.1.2.2.2.2.2.2.2.2.1,v47.2.2.1.2.2.2.2.2.2.2.2.2.1,v47.2.2.1.2.2.2.2.2.2.2.2.2.2.1,v47.2.2.1.2.2.2.2.2.2.2.2.2.2.2.1,v47.2.2.1.2.2.2.2.2.2.2.2.2.2.2.2),(Append.append (Append.append (List.take (0+v47.2.2.2.length) v47.2.2.2) ((v53.2.1,v53.2.2)::[])) (List.drop ((0+v47.2.2.2.length)+1) v47.2.2.2))))) none) none) (cond (decide (v11.2.2.2.1.length=v11.2.2.2.1.length)) (cond (decide ((v47.2.2.2.length+1)=(Append.append (List.take v47.2.2.2.length v47.2.2.2) ((v53.2.1,v53.2.2)::[])).length)) (some (.inl ((IntKind.wrap IntKind.i64 (v47.1+(1:Int))),(v53.1.1,v53.1.2.1,v53.1.2.2),(v47.2.2.1.1,v47.2.2.1.2.1,v47.2.2.1.2.2.1,v47.2.2.1.2.2.2.1,v47.2.2.1.2.2.2.2.1,v47.2.2.1.2.2.2.2.2.1,v47.2.2.1.2.2.2.2.2.2.1,v47.2.2.1.2.2.2.2.2.2.2.1,v47.2.2.1.2.2.2.2.2.2.2.2.1,v47.2.2.1.2.2.2.2.2.2.2.2.2.1,v47.2.2.1.2.2.2.2.2.2.2.2.2.2.1,v47.2.2.1.2.2.2.2.2.2.2.2.2.2.2.1,v47.2.2.1.2.2.2.2.2.2.2.2.2.2.2.2),(Append.append (List.take v47.2.2.2.length v47.2.2.2) ((v53.2.1,v53.2.2)::[]))))) none) none)) none))) (Option.map (Sum.inr) (cond (decide (v11.2.2.2.1.length=v11.2.2.2.1.length)) (cond (decide (v47.2.2.2.length=v47.2.2.2.length)) (some (.inl ((IntKind.wrap IntKind.i64 (v11.1+(1:Int))),(v47.2.1.1,v47.2.1.2.1,v47.2.1.2.2),(v47.2.2.1.1,v47.2.2.1.2.1,v47.2.2.1.2.2.1,v47.2.2.1.2.2.2.1,v47.2.2.1.2.2.2.2.1,v47.2.2.1.2.2.2.2.2.1,v47.2.2.1.2.2.2.2.2.2.1,v47.2.2.1.2.2.2.2.2.2.2.1,v47.2.2.1.2.2.2.2.2.2.2.2.1,v47.2.2.1.2.2.2.2.2.2.2.2.2.1,v47.2.2.1.2.2.2.2.2.2.2.2.2.2.1,v47.2.2.1.2.2.2.2.2.2.2.2.2.2.2.1,v47.2.2.1.2.2.2.2.2.2.2.2.2.2.2.2),v11.2.2.2.1,v47.2.2.2))) none) none)))
noncomputable def rBod (v10:List ByteArray) (v11:(Int×((ByteArray×(Int×Bool))×((Int×(Int×(Int×(Int×(Int×(Int×(Int×(Int×(Int×(Int×(ByteArray×(Int×Bool))))))))))))×((List (Int×(Int×Int)))×(List (Int×Int))))))):Option ((Int×((ByteArray×(Int×Bool))×((Int×(Int×(Int×(Int×(Int×(Int×(Int×(Int×(Int×(Int×(ByteArray×(Int×Bool))))))))))))×((List (Int×(Int×Int)))×(List (Int×Int)))))) ⊕ (RS×(REC×((List (Int×(Int×Int)))×(List (Int×Int)))))) :=
 (cond (decide (v11.1 < ((v10.length:Nat):Int))) (cond (decide ((0:Int)≤v11.1)) (Option.bind v10[(Int.toNat v11.1)]? (fun (v12:ByteArray)=>(cond ((ByteArray.toList v12)==(ByteArray.toList (ByteArray.mk #[115,101,113]))) (Option.bind (rNum (v11.2.1.1,v11.2.1.2.1,v11.2.1.2.2)) (fun (v14:(Int×(ByteArray×(Int×Bool))))=>(cond (decide (v11.2.2.2.1.length=v11.2.2.2.1.length)) (cond (decide (v11.2.2.2.2.length=v11.2.2.2.2.length)) (some (.inl ((IntKind.wrap IntKind.i64 (v11.1+(1:Int))),(v14.2.1,v14.2.2.1,v14.2.2.2),(v11.2.2.1.1,v11.2.2.1.2.1,v11.2.2.1.2.2.1,v14.1,v11.2.2.1.2.2.2.2.1,v11.2.2.1.2.2.2.2.2.1,v11.2.2.1.2.2.2.2.2.2.1,v11.2.2.1.2.2.2.2.2.2.2.1,v11.2.2.1.2.2.2.2.2.2.2.2.1,v11.2.2.1.2.2.2.2.2.2.2.2.2.1,v11.2.2.1.2.2.2.2.2.2.2.2.2.2.1,v11.2.2.1.2.2.2.2.2.2.2.2.2.2.2.1,v11.2.2.1.2.2.2.2.2.2.2.2.2.2.2.2),v11.2.2.2.1,v11.2.2.2.2))) none) none))) (cond ((ByteArray.toList v12)==(ByteArray.toList (ByteArray.mk #[101,112,111,99,104]))) (Option.bind (rNum (v11.2.1.1,v11.2.1.2.1,v11.2.1.2.2)) (fun (v16:(Int×(ByteArray×(Int×Bool))))=>(cond (decide (v11.2.2.2.1.length=v11.2.2.2.1.length)) (cond (decide (v11.2.2.2.2.length=v11.2.2.2.2.length)) (some (.inl ((IntKind.wrap IntKind.i64 (v11.1+(1:Int))),(v16.2.1,v16.2.2.1,v16.2.2.2),(v11.2.2.1.1,v11.2.2.1.2.1,v11.2.2.1.2.2.1,v11.2.2.1.2.2.2.1,v11.2.2.1.2.2.2.2.1,v11.2.2.1.2.2.2.2.2.1,v11.2.2.1.2.2.2.2.2.2.1,v16.1,v11.2.2.1.2.2.2.2.2.2.2.2.1,v11.2.2.1.2.2.2.2.2.2.2.2.2.1,v11.2.2.1.2.2.2.2.2.2.2.2.2.2.1,v11.2.2.1.2.2.2.2.2.2.2.2.2.2.2.1,v11.2.2.1.2.2.2.2.2.2.2.2.2.2.2.2),v11.2.2.2.1,v11.2.2.2.2))) none) none))) (cond ((ByteArray.toList v12)==(ByteArray.toList (ByteArray.mk #[98,111,111,116]))) (Option.bind (rNum (v11.2.1.1,v11.2.1.2.1,v11.2.1.2.2)) (fun (v18:(Int×(ByteArray×(Int×Bool))))=>(cond (decide (v11.2.2.2.1.length=v11.2.2.2.1.length)) (cond (decide (v11.2.2.2.2.length=v11.2.2.2.2.length)) (some (.inl ((IntKind.wrap IntKind.i64 (v11.1+(1:Int))),(v18.2.1,v18.2.2.1,v18.2.2.2),(v11.2.2.1.1,v11.2.2.1.2.1,v11.2.2.1.2.2.1,v11.2.2.1.2.2.2.1,v11.2.2.1.2.2.2.2.1,v11.2.2.1.2.2.2.2.2.1,v11.2.2.1.2.2.2.2.2.2.1,v11.2.2.1.2.2.2.2.2.2.2.1,v18.1,v11.2.2.1.2.2.2.2.2.2.2.2.2.1,v11.2.2.1.2.2.2.2.2.2.2.2.2.2.1,v11.2.2.1.2.2.2.2.2.2.2.2.2.2.2.1,v11.2.2.1.2.2.2.2.2.2.2.2.2.2.2.2),v11.2.2.2.1,v11.2.2.2.2))) none) none))) (cond ((ByteArray.toList v12)==(ByteArray.toList (ByteArray.mk #[116,111,107,101,110]))) (Option.bind (rNum (v11.2.1.1,v11.2.1.2.1,v11.2.1.2.2)) (fun (v20:(Int×(ByteArray×(Int×Bool))))=>(cond (decide (v11.2.2.2.1.length=v11.2.2.2.1.length)) (cond (decide (v11.2.2.2.2.length=v11.2.2.2.2.length)) (some (.inl ((IntKind.wrap IntKind.i64 (v11.1+(1:Int))),(v20.2.1,v20.2.2.1,v20.2.2.2),(v11.2.2.1.1,v11.2.2.1.2.1,v11.2.2.1.2.2.1,v11.2.2.1.2.2.2.1,v11.2.2.1.2.2.2.2.1,v11.2.2.1.2.2.2.2.2.1,v11.2.2.1.2.2.2.2.2.2.1,v11.2.2.1.2.2.2.2.2.2.2.1,v11.2.2.1.2.2.2.2.2.2.2.2.1,v11.2.2.1.2.2.2.2.2.2.2.2.2.1,v11.2.2.1.2.2.2.2.2.2.2.2.2.2.1,v20.1,v11.2.2.1.2.2.2.2.2.2.2.2.2.2.2.2),v11.2.2.2.1,v11.2.2.2.2))) none) none))) (cond ((ByteArray.toList v12)==(ByteArray.toList (ByteArray.mk #[119,104,111]))) (Option.bind (rSmall (v11.2.1.1,v11.2.1.2.1,v11.2.1.2.2)) (fun (v23:(Int×(ByteArray×(Int×Bool))))=>(cond (decide (v11.2.2.2.1.length=v11.2.2.2.1.length)) (cond (decide (v11.2.2.2.2.length=v11.2.2.2.2.length)) (some (.inl ((IntKind.wrap IntKind.i64 (v11.1+(1:Int))),(v23.2.1,v23.2.2.1,v23.2.2.2),(v11.2.2.1.1,v11.2.2.1.2.1,v11.2.2.1.2.2.1,v11.2.2.1.2.2.2.1,v23.1,v11.2.2.1.2.2.2.2.2.1,v11.2.2.1.2.2.2.2.2.2.1,v11.2.2.1.2.2.2.2.2.2.2.1,v11.2.2.1.2.2.2.2.2.2.2.2.1,v11.2.2.1.2.2.2.2.2.2.2.2.2.1,v11.2.2.1.2.2.2.2.2.2.2.2.2.2.1,v11.2.2.1.2.2.2.2.2.2.2.2.2.2.2.1,v11.2.2.1.2.2.2.2.2.2.2.2.2.2.2.2),v11.2.2.2.1,v11.2.2.2.2))) none) none))) (cond ((ByteArray.toList v12)==(ByteArray.toList (ByteArray.mk #[107]))) (Option.bind (rNum (v11.2.1.1,v11.2.1.2.1,v11.2.1.2.2)) (fun (v25:(Int×(ByteArray×(Int×Bool))))=>(Option.bind (rSmall (v25.2.1,v25.2.2.1,v25.2.2.2)) (fun (v28:(Int×(ByteArray×(Int×Bool))))=>(cond (decide (v11.2.2.2.1.length=v11.2.2.2.1.length)) (cond (decide (v11.2.2.2.2.length=v11.2.2.2.2.length)) (some (.inl ((IntKind.wrap IntKind.i64 (v11.1+(1:Int))),(v28.2.1,v28.2.2.1,v28.2.2.2),(v11.2.2.1.1,v11.2.2.1.2.1,v11.2.2.1.2.2.1,v11.2.2.1.2.2.2.1,v11.2.2.1.2.2.2.2.1,v25.1,v28.1,v11.2.2.1.2.2.2.2.2.2.2.1,v11.2.2.1.2.2.2.2.2.2.2.2.1,v11.2.2.1.2.2.2.2.2.2.2.2.2.1,v11.2.2.1.2.2.2.2.2.2.2.2.2.2.1,v11.2.2.1.2.2.2.2.2.2.2.2.2.2.2.1,v11.2.2.1.2.2.2.2.2.2.2.2.2.2.2.2),v11.2.2.2.1,v11.2.2.2.2))) none) none))))) (cond ((ByteArray.toList v12)==(ByteArray.toList (ByteArray.mk #[110,101,119,115]))) (Option.bind (rMany 8 (v11.2.1.1,v11.2.1.2.1,v11.2.1.2.2)) (fun (v32:(Int×(ByteArray×(Int×Bool))))=>(cond (decide (v11.2.2.2.1.length=v11.2.2.2.1.length)) (cond (decide (v11.2.2.2.2.length=v11.2.2.2.2.length)) (loopX (nBod v11 v32) ((0:Int),(v32.2.1,v32.2.2.1,v32.2.2.2),(v11.2.2.1.1,v11.2.2.1.2.1,v11.2.2.1.2.2.1,v11.2.2.1.2.2.2.1,v11.2.2.1.2.2.2.2.1,v11.2.2.1.2.2.2.2.2.1,v11.2.2.1.2.2.2.2.2.2.1,v11.2.2.1.2.2.2.2.2.2.2.1,v11.2.2.1.2.2.2.2.2.2.2.2.1,v11.2.2.1.2.2.2.2.2.2.2.2.2.1,v11.2.2.1.2.2.2.2.2.2.2.2.2.2.1,v11.2.2.1.2.2.2.2.2.2.2.2.2.2.2.1,v11.2.2.1.2.2.2.2.2.2.2.2.2.2.2.2),v11.2.2.2.1)) none) none))) (cond ((ByteArray.toList v12)==(ByteArray.toList (ByteArray.mk #[116,97,98,108,101]))) (Option.bind (rMany 64 (v11.2.1.1,v11.2.1.2.1,v11.2.1.2.2)) (fun (v46:(Int×(ByteArray×(Int×Bool))))=>(cond (decide (v11.2.2.2.1.length=v11.2.2.2.1.length)) (cond (decide (v11.2.2.2.2.length=v11.2.2.2.2.length)) (loopX (tBod v11 v46) ((0:Int),(v46.2.1,v46.2.2.1,v46.2.2.2),(v11.2.2.1.1,v11.2.2.1.2.1,v11.2.2.1.2.2.1,v11.2.2.1.2.2.2.1,v11.2.2.1.2.2.2.2.1,v11.2.2.1.2.2.2.2.2.1,v11.2.2.1.2.2.2.2.2.2.1,v11.2.2.1.2.2.2.2.2.2.2.1,v11.2.2.1.2.2.2.2.2.2.2.2.1,v11.2.2.1.2.2.2.2.2.2.2.2.2.1,v11.2.2.1.2.2.2.2.2.2.2.2.2.2.1,v11.2.2.1.2.2.2.2.2.2.2.2.2.2.2.1,v11.2.2.1.2.2.2.2.2.2.2.2.2.2.2.2),v11.2.2.2.2)) none) none))) (cond ((ByteArray.toList v12)==(ByteArray.toList (ByteArray.mk #[97,115,107,101,100]))) (Option.bind (rNum (v11.2.1.1,v11.2.1.2.1,v11.2.1.2.2)) (fun (v55:(Int×(ByteArray×(Int×Bool))))=>(cond (decide (v11.2.2.2.1.length=v11.2.2.2.1.length)) (cond (decide (v11.2.2.2.2.length=v11.2.2.2.2.length)) (some (.inl ((IntKind.wrap IntKind.i64 (v11.1+(1:Int))),(v55.2.1,v55.2.2.1,v55.2.2.2),(v11.2.2.1.1,v11.2.2.1.2.1,v11.2.2.1.2.2.1,v11.2.2.1.2.2.2.1,v11.2.2.1.2.2.2.2.1,v11.2.2.1.2.2.2.2.2.1,v11.2.2.1.2.2.2.2.2.2.1,v11.2.2.1.2.2.2.2.2.2.2.1,v11.2.2.1.2.2.2.2.2.2.2.2.1,(IntKind.wrap IntKind.i64 v55.1),v11.2.2.1.2.2.2.2.2.2.2.2.2.2.1,v11.2.2.1.2.2.2.2.2.2.2.2.2.2.2.1,v11.2.2.1.2.2.2.2.2.2.2.2.2.2.2.2),v11.2.2.2.1,v11.2.2.2.2))) none) none))) (cond ((ByteArray.toList v12)==(ByteArray.toList (ByteArray.mk #[116,97,115,107]))) (Option.bind (Option.bind (F89 (v11.2.1.1,v11.2.1.2.1)) (fun (v56:(ByteArray×(Int×Int)))=>(cond (v56.2.2 != (0:Int)) (cond (decide (v11.2.2.2.1.length=v11.2.2.2.1.length)) (cond (decide (v11.2.2.2.2.length=v11.2.2.2.2.length)) (some ((v11.2.1.1,v11.2.1.2.1,false),v11.2.2.1.1,v11.2.2.1.2.1,v11.2.2.1.2.2.1,v11.2.2.1.2.2.2.1,v11.2.2.1.2.2.2.2.1,v11.2.2.1.2.2.2.2.2.1,v11.2.2.1.2.2.2.2.2.2.1,v11.2.2.1.2.2.2.2.2.2.2.1,v11.2.2.1.2.2.2.2.2.2.2.2.1,v11.2.2.1.2.2.2.2.2.2.2.2.2.1,v11.2.2.1.2.2.2.2.2.2.2.2.2.2.1,v11.2.2.1.2.2.2.2.2.2.2.2.2.2.2.1,v11.2.2.1.2.2.2.2.2.2.2.2.2.2.2.2)) none) none) (cond (decide (v11.2.2.2.1.length=v11.2.2.2.1.length)) (cond (decide (v11.2.2.2.2.length=v11.2.2.2.2.length)) (some ((v11.2.1.1,v56.2.1,v11.2.1.2.2),v11.2.2.1.1,v11.2.2.1.2.1,v11.2.2.1.2.2.1,v11.2.2.1.2.2.2.1,v11.2.2.1.2.2.2.2.1,v11.2.2.1.2.2.2.2.2.1,v11.2.2.1.2.2.2.2.2.2.1,v11.2.2.1.2.2.2.2.2.2.2.1,v11.2.2.1.2.2.2.2.2.2.2.2.1,v11.2.2.1.2.2.2.2.2.2.2.2.2.1,v56.1,v11.2.2.1.2.2.2.2.2.2.2.2.2.2.2.1,v11.2.2.1.2.2.2.2.2.2.2.2.2.2.2.2)) none) none)))) (fun (v57:((ByteArray×(Int×Bool))×(Int×(Int×(Int×(Int×(Int×(Int×(Int×(Int×(Int×(Int×(ByteArray×(Int×Bool))))))))))))))=>(cond (decide (v11.2.2.2.1.length=v11.2.2.2.1.length)) (cond (decide (v11.2.2.2.2.length=v11.2.2.2.2.length)) (some (.inl ((IntKind.wrap IntKind.i64 (v11.1+(1:Int))),(v57.1.1,v57.1.2.1,v57.1.2.2),(v57.2.1,v57.2.2.1,v57.2.2.2.1,v57.2.2.2.2.1,v57.2.2.2.2.2.1,v57.2.2.2.2.2.2.1,v57.2.2.2.2.2.2.2.1,v57.2.2.2.2.2.2.2.2.1,v57.2.2.2.2.2.2.2.2.2.1,v57.2.2.2.2.2.2.2.2.2.2.1,v57.2.2.2.2.2.2.2.2.2.2.2.1,v57.2.2.2.2.2.2.2.2.2.2.2.2.1,v57.2.2.2.2.2.2.2.2.2.2.2.2.2),v11.2.2.2.1,v11.2.2.2.2))) none) none))) (cond ((ByteArray.toList v12)==(ByteArray.toList (ByteArray.mk #[103,111,111,100]))) (Option.bind (rMany 1 (v11.2.1.1,v11.2.1.2.1,v11.2.1.2.2)) (fun (v61:(Int×(ByteArray×(Int×Bool))))=>(cond (decide (v11.2.2.2.1.length=v11.2.2.2.1.length)) (cond (decide (v11.2.2.2.2.length=v11.2.2.2.2.length)) (some (.inl ((IntKind.wrap IntKind.i64 (v11.1+(1:Int))),(v61.2.1,v61.2.2.1,v61.2.2.2),(v11.2.2.1.1,v11.2.2.1.2.1,v11.2.2.1.2.2.1,v11.2.2.1.2.2.2.1,v11.2.2.1.2.2.2.2.1,v11.2.2.1.2.2.2.2.2.1,v11.2.2.1.2.2.2.2.2.2.1,v11.2.2.1.2.2.2.2.2.2.2.1,v11.2.2.1.2.2.2.2.2.2.2.2.1,v11.2.2.1.2.2.2.2.2.2.2.2.2.1,v11.2.2.1.2.2.2.2.2.2.2.2.2.2.1,v11.2.2.1.2.2.2.2.2.2.2.2.2.2.2.1,(v61.1==(1:Int))),v11.2.2.2.1,v11.2.2.2.2))) none) none))) none))))))))))))) none) (Option.map (Sum.inr) (cond (decide (v11.2.2.2.1.length=v11.2.2.2.1.length)) (cond (decide (v11.2.2.2.2.length=v11.2.2.2.2.length)) (some ((v11.2.1.1,v11.2.1.2.1,v11.2.1.2.2),(v11.2.2.1.1,v11.2.2.1.2.1,v11.2.2.1.2.2.1,v11.2.2.1.2.2.2.1,v11.2.2.1.2.2.2.2.1,v11.2.2.1.2.2.2.2.2.1,v11.2.2.1.2.2.2.2.2.2.1,v11.2.2.1.2.2.2.2.2.2.2.1,v11.2.2.1.2.2.2.2.2.2.2.2.1,v11.2.2.1.2.2.2.2.2.2.2.2.2.1,v11.2.2.1.2.2.2.2.2.2.2.2.2.2.1,v11.2.2.1.2.2.2.2.2.2.2.2.2.2.2.1,v11.2.2.1.2.2.2.2.2.2.2.2.2.2.2.2),v11.2.2.2.1,v11.2.2.2.2)) none) none)))
theorem F18_r (v:ByteArray):F18 v=(Option.bind (F38 v) (fun (v0:(ByteArray×Int))=>(cond (v0.2 != (0:Int)) (some (((0:Int),(0:Int),(0:Int),(0:Int),(0:Int),(0:Int),(0:Int),[],[],(0:Int),(0:Int),(0:Int),(ByteArray.mk #[]),(0:Int),false),v0.2)) (Option.bind (rSmall (v0.1,(0:Int),true)) (fun (v3:(Int×(ByteArray×(Int×Bool))))=>(Option.bind (rSmall (v3.2.1,v3.2.2.1,v3.2.2.2)) (fun (v6:(Int×(ByteArray×(Int×Bool))))=>(Option.bind (rSmall (v6.2.1,v6.2.2.1,v6.2.2.2)) (fun (v9:(Int×(ByteArray×(Int×Bool))))=>(Option.bind (Option.bind (F24 v3.1) (fun (v10:(List ByteArray))=>(loopX (rBod v10) ((0:Int),(v9.2.1,v9.2.2.1,v9.2.2.2),(v3.1,v6.1,v9.1,(0:Int),(0:Int),(0:Int),(0:Int),(0:Int),(0:Int),(0:Int),(ByteArray.mk #[]),(0:Int),false),[],[])))) (fun (v62:((ByteArray×(Int×Bool))×((Int×(Int×(Int×(Int×(Int×(Int×(Int×(Int×(Int×(Int×(ByteArray×(Int×Bool))))))))))))×((List (Int×(Int×Int)))×(List (Int×Int))))))=>(Option.bind (cond (!v62.1.2.2) (some true) (cond (v62.1.2.1 != (((ByteArray.size v0.1):Nat):Int)) (some true) (cond (decide ((0+v62.2.2.1.length)≤v62.2.2.1.length)) (cond (decide ((0+v62.2.2.2.length)≤v62.2.2.2.length)) (Option.bind (F11 (v62.2.1.1,v62.2.1.2.1,v62.2.1.2.2.1,v62.2.1.2.2.2.1,v62.2.1.2.2.2.2.1,v62.2.1.2.2.2.2.2.1,v62.2.1.2.2.2.2.2.2.1,(List.take v62.2.2.1.length v62.2.2.1),(List.take v62.2.2.2.length v62.2.2.2),v62.2.1.2.2.2.2.2.2.2.1,v62.2.1.2.2.2.2.2.2.2.2.1,v62.2.1.2.2.2.2.2.2.2.2.2.1,v62.2.1.2.2.2.2.2.2.2.2.2.2.1,v62.2.1.2.2.2.2.2.2.2.2.2.2.2.1,v62.2.1.2.2.2.2.2.2.2.2.2.2.2.2)) (fun (v63:Int)=>(some (v63 != (0:Int))))) none) none))) (fun (v64:Bool)=>(cond v64 (some (((0:Int),(0:Int),(0:Int),(0:Int),(0:Int),(0:Int),(0:Int),[],[],(0:Int),(0:Int),(0:Int),(ByteArray.mk #[]),(0:Int),false),(2:Int))) (cond (decide ((0+v62.2.2.1.length)≤v62.2.2.1.length)) (cond (decide ((0+v62.2.2.2.length)≤v62.2.2.2.length)) (some ((v62.2.1.1,v62.2.1.2.1,v62.2.1.2.2.1,v62.2.1.2.2.2.1,v62.2.1.2.2.2.2.1,v62.2.1.2.2.2.2.2.1,v62.2.1.2.2.2.2.2.2.1,(List.take v62.2.2.1.length v62.2.2.1),(List.take v62.2.2.2.length v62.2.2.2),v62.2.1.2.2.2.2.2.2.2.1,v62.2.1.2.2.2.2.2.2.2.2.1,v62.2.1.2.2.2.2.2.2.2.2.2.1,v62.2.1.2.2.2.2.2.2.2.2.2.2.1,v62.2.1.2.2.2.2.2.2.2.2.2.2.2.1,v62.2.1.2.2.2.2.2.2.2.2.2.2.2.2),(0:Int))) none) none))))))))))))))):=by rw [F18_eq]; kernel_rfl
end Go.Proofs.Ytgbcankkfmhcoaa.VL
end
section
namespace Go.Proofs.Ytgbcankkfmhcoaa.VL
open Go
set_option linter.unusedVariables false
set_option linter.unusedSectionVars false
set_option linter.unusedSimpArgs false
set_option maxRecDepth 100000
variable [Val]
abbrev dr (s:ByteArray) (a:Nat):List UInt8:=s.toList.drop a
abbrev FitS (s:ByteArray):Prop:=s.size≤4611686018427387904
theorem num_rd {s:ByteArray} (hs:FitS s) {a:Nat} (ha:a≤s.size) :
  (∃ (x:Int) (a':Nat),U64 x∧a'≤s.size∧dr s a=numU x++dr s a'∧∀ ok,rNum (s,((a:Nat):Int),ok)=some (x,s,((a':Nat):Int),ok)) ∨
  ((∀ x r,U64 x→dr s a≠numU x++r)∧∀ ok,rNum (s,((a:Nat):Int),ok)=some (0,s,((a:Nat):Int),false)):=by
 have hl:=toList_len s
 have hA:s.toList=s.toList.take a++dr s a:=(List.take_append_drop a _).symm
 have hal:a=(s.toList.take a).length:=by rw [List.length_take]; omega
 rcases take_num hs hA hal with ⟨x,r,hx,h1,h2⟩ | ⟨h1,e,he,h2⟩
 ·left
  have h3:dr s (a+(numU x).length)=r:=by
   show s.toList.drop _=_
   rw [← List.drop_drop]
   show List.drop _ (dr s a)=_
   rw [h1,List.drop_left]
  have h4:a+(numU x).length≤s.size:=by
   have:=congrArg List.length h1
   rw [List.length_drop,List.length_append] at this
   omega
  refine ⟨x,a+(numU x).length,hx,h4,by rw [h3]; exact h1,fun ok=>?_⟩
  unfold rNum
  simp only [h2,Option.bind_some,nz0,cond_false]
 ·right
  refine ⟨h1,fun ok=>?_⟩
  have:(e != 0)=true:=by simpa using he
  unfold rNum
  simp only [h2,Option.bind_some,this,cond_true]
theorem small_rd {s:ByteArray} (hs:FitS s) {a:Nat} (ha:a≤s.size) :
  (∃ (x:Int) (a':Nat),(0≤x∧x≤1048576)∧a'≤s.size∧dr s a=numU x++dr s a'∧∀ ok,rSmall (s,((a:Nat):Int),ok)=some (x,s,((a':Nat):Int),ok)) ∨
  ((∀ x r,0≤x∧x≤1048576→dr s a≠numU x++r)∧∃ a':Nat,a'≤s.size∧∀ ok,rSmall (s,((a:Nat):Int),ok)=some (0,s,((a':Nat):Int),false)):=by
 rcases num_rd hs ha with ⟨x,a',hx,h1,h2,h3⟩ | ⟨h1,h2⟩
 ·by_cases hb:x > 1048576
  ·right
   refine ⟨fun y r hy he=>?_,a',h1,fun ok=>?_⟩
   ·rw [h2] at he
    obtain ⟨e,_⟩:=numU_pre hx.1 hy.1 he
    omega
   ·unfold rSmall
    simp only [h3,Option.bind_some,decide_eq_true hb,cond_true]
  ·left
   refine ⟨x,a',⟨hx.1,by omega⟩,h1,h2,fun ok=>?_⟩
   unfold rSmall
   simp only [h3,Option.bind_some,decide_eq_false hb,cond_false,wi (show -9223372036854775808≤x by have:=hx.1; omega) (show x≤9223372036854775807 by omega)]
 ·right
  refine ⟨fun y r hy=>h1 y r ⟨hy.1,by omega⟩,a,ha,fun ok=>?_⟩
  unfold rSmall
  simp only [h2,Option.bind_some]
  rfl
theorem many_rd {s:ByteArray} (hs:FitS s) {a:Nat} (ha:a≤s.size) {n:Int} (hn:0≤n∧n≤1048576) :
  (∃ (x:Int) (a':Nat),(0≤x∧x≤n)∧a'≤s.size∧dr s a=numU x++dr s a'∧∀ ok,rMany n (s,((a:Nat):Int),ok)=some (x,s,((a':Nat):Int),ok)) ∨
  ((∀ x r,0≤x∧x≤n→dr s a≠numU x++r)∧∃ a':Nat,a'≤s.size∧∀ ok,rMany n (s,((a:Nat):Int),ok)=some (0,s,((a':Nat):Int),false)):=by
 rcases small_rd hs ha with ⟨x,a',hx,h1,h2,h3⟩ | ⟨h1,a',h2,h3⟩
 ·by_cases hb:x > n
  ·right
   refine ⟨fun y r hy he=>?_,a',h1,fun ok=>?_⟩
   ·rw [h2] at he
    obtain ⟨e,_⟩:=numU_pre hx.1 hy.1 he
    omega
   ·unfold rMany
    simp only [h3,Option.bind_some,decide_eq_true hb,cond_true]
  ·left
   refine ⟨x,a',⟨hx.1,by omega⟩,h1,h2,fun ok=>?_⟩
   unfold rMany
   simp only [h3,Option.bind_some,decide_eq_false hb,cond_false]
 ·right
  refine ⟨fun y r hy=>h1 y r ⟨hy.1,by omega⟩,a',h2,fun ok=>?_⟩
  unfold rMany
  have:¬ (0:Int) > n:=by omega
  simp only [h3,Option.bind_some,decide_eq_false this,cond_false]
abbrev KnR (k:KW):Prop:=U64 k.1∧0≤k.2∧k.2≤1048576
theorem know_rd {s:ByteArray} (hs:FitS s) {a:Nat} (ha:a≤s.size) :
  (∃ (k:KW) (a':Nat),KnR k∧a'≤s.size∧dr s a=tabO k++dr s a'∧∀ ok,rKnow (s,((a:Nat):Int),ok)=some ((s,((a':Nat):Int),ok),k)) ∨
  ((∀ (k:KW) r,KnR k→dr s a≠tabO k++r)∧∃ (k:KW) (a':Nat),a'≤s.size∧∀ ok,rKnow (s,((a:Nat):Int),ok)=some ((s,((a':Nat):Int),false),k)):=by
 rcases num_rd hs ha with ⟨x,a',hx,h1,h2,h3⟩ | ⟨h1,h2⟩
 ·rcases small_rd hs h1 with ⟨y,b,hy,k1,k2,k3⟩ | ⟨k1,b,k2,k3⟩
  ·left
   refine ⟨(x,y),b,⟨hx,hy⟩,k1,by unfold tabO; rw [List.append_assoc,h2,k2],fun ok=>?_⟩
   unfold rKnow
   simp only [h3,k3,Option.bind_some]
  ·right
   refine ⟨fun k r hk he=>?_,(x,0),b,k2,fun ok=>?_⟩
   ·unfold tabO at he
    rw [h2,List.append_assoc] at he
    obtain ⟨_,e⟩:=numU_pre hx.1 hk.1.1 he
    exact k1 _ _ hk.2 e
   ·unfold rKnow
    simp only [h3,k3,Option.bind_some]
 ·right
  rcases small_rd hs ha with ⟨y,b,hy,k1,k2,k3⟩ | ⟨k1,b,k2,k3⟩
  ·refine ⟨fun k r hk he=>?_,(0,y),b,k1,fun ok=>?_⟩
   ·unfold tabO at he
    rw [List.append_assoc] at he
    exact h1 _ _ hk.1 he
   ·unfold rKnow
    simp only [h2,k3,Option.bind_some]
  ·refine ⟨fun k r hk he=>?_,(0,0),b,k2,fun ok=>?_⟩
   ·unfold tabO at he
    rw [List.append_assoc] at he
    exact h1 _ _ hk.1 he
   ·unfold rKnow
    simp only [h2,k3,Option.bind_some]
theorem tab_pre {x y:KW} {r t:List UInt8} (hx:KnR x) (hy:KnR y) (h:tabO x++r=tabO y++t):x=y∧r=t:=by
 unfold tabO at h
 rw [List.append_assoc,List.append_assoc] at h
 obtain ⟨h1,h2⟩:=numU_pre hx.1.1 hy.1.1 h
 obtain ⟨h3,h4⟩:=numU_pre hx.2.1 hy.2.1 h2
 exact ⟨Prod.ext h1 h3,h4⟩
abbrev NwR (k:NW):Prop:=(0≤k.1∧k.1≤1048576)∧KnR k.2
theorem new_pre {x y:NW} {r t:List UInt8} (hx:NwR x) (hy:NwR y) (h:newO x++r=newO y++t):x=y∧r=t:=by
 unfold newO at h
 simp only [List.append_assoc] at h
 obtain ⟨h1,h2⟩:=numU_pre hx.1.1 hy.1.1 h
 obtain ⟨h3,h4⟩:=tab_pre hx.2 hy.2 (r:=r) (t:=t) (by unfold tabO; rw [List.append_assoc,List.append_assoc]; exact h2)
 exact ⟨Prod.ext h1 h3,h4⟩
noncomputable def rTell (r:RS):Option (RS×NW):=Option.bind (rSmall r) (fun w=>Option.bind (rKnow w.2) (fun k=>some (k.1,w.1,k.2)))
theorem tell_rd {s:ByteArray} (hs:FitS s) {a:Nat} (ha:a≤s.size) :
  (∃ (k:NW) (a':Nat),NwR k∧a'≤s.size∧dr s a=newO k++dr s a'∧∀ ok,rTell (s,((a:Nat):Int),ok)=some ((s,((a':Nat):Int),ok),k)) ∨
  ((∀ (k:NW) r,NwR k→dr s a≠newO k++r)∧∃ (k:NW) (a':Nat),a'≤s.size∧∀ ok,rTell (s,((a:Nat):Int),ok)=some ((s,((a':Nat):Int),false),k)):=by
 have en:∀ (k:NW) (r:List UInt8),newO k++r=numU k.1++(tabO k.2++r):=by
  intro k r; unfold newO tabO; simp only [List.append_assoc]
 rcases small_rd hs ha with ⟨x,a',hx,h1,h2,h3⟩ | ⟨h1,a',h2,h3⟩
 ·rcases know_rd hs h1 with ⟨y,b,hy,k1,k2,k3⟩ | ⟨k1,y,b,k2,k3⟩
  ·left
   refine ⟨(x,y),b,⟨hx,hy⟩,k1,by rw [en,h2,k2],fun ok=>?_⟩
   unfold rTell
   simp only [h3,k3,Option.bind_some]
  ·right
   refine ⟨fun k r hk he=>?_,(x,y),b,k2,fun ok=>?_⟩
   ·rw [h2,en] at he
    obtain ⟨_,e⟩:=numU_pre hx.1 hk.1.1 he
    exact k1 _ _ hk.2 e
   ·unfold rTell
    simp only [h3,k3,Option.bind_some]
 ·right
  rcases know_rd hs h2 with ⟨y,b,hy,k1,k2,k3⟩ | ⟨k1,y,b,k2,k3⟩
  ·refine ⟨fun k r hk he=>?_,(0,y),b,k1,fun ok=>?_⟩
   ·rw [en] at he; exact h1 _ _ hk.1 he
   ·unfold rTell
    simp only [h3,k3,Option.bind_some]
  ·refine ⟨fun k r hk he=>?_,(0,y),b,k2,fun ok=>?_⟩
   ·rw [en] at he; exact h1 _ _ hk.1 he
   ·unfold rTell
    simp only [h3,k3,Option.bind_some]
theorem many_loop {E σ ρ:Type} {s:ByteArray} {f:σ→Option (σ ⊕ ρ)} {mk:Nat→Nat→Bool→List E→σ} {e:E→List UInt8} {P:E→Prop} {n B:Nat} {fin:Nat→Bool→List E→ρ}
  (step:∀ c a ok l,c < n→a≤s.size→l.length≤B→(∃ x a',P x∧a'≤s.size∧dr s a=e x++dr s a'∧f (mk c a ok l)=some (.inl (mk (c+1) a' ok (l++[x])))) ∨
   ((∀ x r,P x→dr s a≠e x++r)∧∃ x a',a'≤s.size∧f (mk c a ok l)=some (.inl (mk (c+1) a' false (l++[x])))))
  (last:∀ a ok l,f (mk n a ok l)=some (.inr (fin a ok l)))
  (pre:∀ x y r t,P x→P y→e x++r=e y++t→x=y∧r=t) :
  ∀ d c a ok l,c+d=n→a≤s.size→l.length+d≤B→∃ a' ok' l',loopX f (mk c a ok l)=some (fin a' ok' (l++l'))∧a'≤s.size∧l'.length=d ∧
   ((ok'=ok∧(∀ x ∈ l',P x)∧dr s a=l'.flatMap e++dr s a')∨((∀ (l2:List E) r,l2.length=d→(∀ x ∈ l2,P x)→dr s a≠l2.flatMap e++r)∧ok'=false))∧(ok=false→ok'=false):=by
 intro d
 induction d with
 | zero =>
  intro c a ok l h1 h2 h3
  obtain rfl:c=n:=by omega
  refine ⟨a,ok,[],?_,h2,rfl,.inl ⟨rfl,fun x hx=>by simp at hx,rfl⟩,fun h=>h⟩
  rw [loopX_eq,last,List.append_nil]
 | succ d ih =>
  intro c a ok l h1 h2 h3
  rcases step c a ok l (by omega) h2 (by omega) with ⟨x,a1,hx,k1,k2,k3⟩ | ⟨k1,x,a1,k2,k3⟩
  ·obtain ⟨a',ok',l',e1,e2,e3,e4,e5⟩:=ih (c+1) a1 ok (l++[x]) (by omega) k1 (by rw [List.length_append,List.length_singleton]; omega)
   refine ⟨a',ok',x::l',?_,e2,by rw [List.length_cons,e3],?_,e5⟩
   ·rw [loopX_eq,k3]
    simp only
    rw [e1,List.append_assoc]; rfl
   ·rcases e4 with ⟨g1,g2,g3⟩ | ⟨g1,g2⟩
    ·refine .inl ⟨g1,fun y hy=>?_,by rw [k2,g3,List.flatMap_cons,List.append_assoc]⟩
     rcases List.mem_cons.1 hy with rfl | hy
     ·exact hx
     ·exact g2 y hy
    ·refine .inr ⟨fun l2 r hl hp he=>?_,g2⟩
     cases l2 with
     | nil=>simp at hl
     | cons y l2 =>
      rw [k2,List.flatMap_cons,List.append_assoc] at he
      obtain ⟨_,he⟩:=pre x y _ _ hx (hp y (by simp)) he
      exact g1 l2 r (by simpa using hl) (fun z hz=>hp z (by simp [hz])) he
  ·obtain ⟨a',ok',l',e1,e2,e3,e4,e5⟩:=ih (c+1) a1 false (l++[x]) (by omega) k2 (by rw [List.length_append,List.length_singleton]; omega)
   refine ⟨a',ok',x::l',?_,e2,by rw [List.length_cons,e3],.inr ⟨fun l2 r hl hp he=>?_,e5 rfl⟩,fun _=>e5 rfl⟩
   ·rw [loopX_eq,k3]
    simp only
    rw [e1,List.append_assoc]; rfl
   ·cases l2 with
    | nil=>simp at hl
    | cons y l2 =>
     rw [List.flatMap_cons,List.append_assoc] at he
     exact k1 y _ (hp y (by simp)) he
end Go.Proofs.Ytgbcankkfmhcoaa.VL
end
section
namespace Go.Proofs.Ytgbcankkfmhcoaa.VL
open Go
set_option linter.unusedVariables false
set_option linter.unusedSectionVars false
set_option linter.unusedSimpArgs false
set_option maxRecDepth 100000
variable [Val]
def lay (m:MB):REC×(List NW×List KW) :=
 ((m.1,m.2.1,m.2.2.1,m.2.2.2.1,m.2.2.2.2.1,m.2.2.2.2.2.1,m.2.2.2.2.2.2.1,m.2.2.2.2.2.2.2.2.2.1,m.2.2.2.2.2.2.2.2.2.2.1,m.2.2.2.2.2.2.2.2.2.2.2.1,m.2.2.2.2.2.2.2.2.2.2.2.2.1,m.2.2.2.2.2.2.2.2.2.2.2.2.2.1,m.2.2.2.2.2.2.2.2.2.2.2.2.2.2),m.2.2.2.2.2.2.2.1,m.2.2.2.2.2.2.2.2.1)
def Rng (m:MB):Nat→Prop
 | 0=>U64 m.2.2.2.1
 | 1=>U64 m.2.2.2.2.2.2.2.2.2.1
 | 2=>U64 m.2.2.2.2.2.2.2.2.2.2.1
 | 3=>U64 m.2.2.2.2.2.2.2.2.2.2.2.2.2.1
 | 4=>0≤m.2.2.2.2.1∧m.2.2.2.2.1≤1048576
 | 5=>KnR (m.2.2.2.2.2.1,m.2.2.2.2.2.2.1)
 | 6=>m.2.2.2.2.2.2.2.1.length≤8∧∀ x ∈ m.2.2.2.2.2.2.2.1,NwR x
 | 7=>m.2.2.2.2.2.2.2.2.1.length≤64∧∀ x ∈ m.2.2.2.2.2.2.2.2.1,KnR x
 | 8=>0≤m.2.2.2.2.2.2.2.2.2.2.2.1∧m.2.2.2.2.2.2.2.2.2.2.2.1≤9223372036854775807
 | 9=>m.2.2.2.2.2.2.2.2.2.2.2.2.1.size≤200
 | _=>True
def zeroM:MB:=(0,0,0,0,0,0,0,[],[],0,0,0,ByteArray.mk #[],0,false)
structure BdM (m:MB):Prop where
 nw:m.2.2.2.2.2.2.2.1.length≤8
 tb:m.2.2.2.2.2.2.2.2.1.length≤64
 tk:m.2.2.2.2.2.2.2.2.2.2.2.2.1.size≤200
def Keep (j:Nat) (m' m:MB):Prop:=m'.1=m.1∧m'.2.1=m.2.1∧m'.2.2.1=m.2.2.1∧∀ i,i≤10→i≠j→fEq m' m i
def OutR (s:ByteArray) (j a:Nat) (ok:Bool) (m:MB) (a':Nat) (ok':Bool) (m':MB):Prop :=
 a'≤s.size∧BdM m'∧Keep j m' m∧(ok=false→ok'=false) ∧
 ((ok'=ok∧Rng m' j∧dr s a=pN m' j++dr s a')∨((∀ (x:MB) r,Rng x j→dr s a≠pN x j++r)∧(ok'=false∨(j=8∧m'.2.2.2.2.2.2.2.2.2.2.2.1 < 0))))
abbrev rS (i:Nat) (s:ByteArray) (a:Nat) (ok:Bool) (m:MB):Int×(RS×(REC×(List NW×List KW))):=(((i:Nat):Int),(s,((a:Nat):Int),ok),lay m)
def Steps (L:List Nat) (s:ByteArray) (i j a:Nat) (ok:Bool) (m:MB):Prop :=
 ∃ (a':Nat) (ok':Bool) (m':MB),rBod (L.map litN) (rS i s a ok m)=some (.inl (rS (i+1) s a' ok' m'))∧OutR s j a ok m a' ok' m'
theorem le10 {i:Nat} (h:i≤10):i=0∨i=1∨i=2∨i=3∨i=4∨i=5∨i=6∨i=7∨i=8∨i=9∨i=10:=by omega
theorem fEq_refl (m:MB) (j:Nat):fEq m m j:=by
 match j with
 | 0 | 1 | 2 | 3 | 4 | 6 | 7 | 8 | 9=>rfl
 | 5=>exact ⟨rfl,rfl⟩
 | j+10=>rfl
theorem step0 {L:List Nat} {s:ByteArray} (hs:FitS s) {i a:Nat} {ok:Bool} {m:MB} (hL:L[i]?=some 0) (hi:i≤100) (ha:a≤s.size) (b:BdM m) (hz:fEq m zeroM 0):Steps L s i 0 a ok m:=by
 obtain ⟨k,fr,to,sq,wh,ki,ks,nw,tb,ep,bo,ak,tk,tn,gd⟩:=m
 have q1:((i:Nat):Int) < (((L.map litN).length:Nat):Int):=by
  rw [List.length_map]
  have:=(List.getElem?_eq_some_iff.1 hL).1
  omega
 have q2:(0:Int)≤((i:Nat):Int):=by omega
 have gg:(L.map litN)[i]?=some (litN 0):=by rw [List.getElem?_map,hL]; rfl
 have ww:=w1 (show i≤9223372036854775806 by omega)
 simp only [litN] at gg
 rcases num_rd hs ha with ⟨x,a',hx,h1,h2,h3⟩ | ⟨h1,h2⟩
 ·refine ⟨a',ok,(k,fr,to,x,wh,ki,ks,nw,tb,ep,bo,ak,tk,tn,gd),?_,h1,⟨b.nw,b.tb,b.tk⟩,by refine ⟨rfl,rfl,rfl,fun i hi hn=>?_⟩; rcases le10 hi with rfl | rfl | rfl | rfl | rfl | rfl | rfl | rfl | rfl | rfl | rfl<;>first | exact absurd rfl hn | exact rfl | exact ⟨rfl,rfl⟩,fun h=>h,.inl ⟨rfl,hx,h2⟩⟩
  unfold rBod rS lay
  simp -implicitDefEqProofs only [q1,q2,gg,nq,h3,ww,eq_self,xs]
 ·refine ⟨a,false,(k,fr,to,0,wh,ki,ks,nw,tb,ep,bo,ak,tk,tn,gd),?_,ha,⟨b.nw,b.tb,b.tk⟩,by refine ⟨rfl,rfl,rfl,fun i hi hn=>?_⟩; rcases le10 hi with rfl | rfl | rfl | rfl | rfl | rfl | rfl | rfl | rfl | rfl | rfl<;>first | exact absurd rfl hn | exact rfl | exact ⟨rfl,rfl⟩,fun _=>rfl,.inr ⟨fun x r hx=>h1 _ r hx,.inl rfl⟩⟩
  unfold rBod rS lay
  simp -implicitDefEqProofs only [q1,q2,gg,nq,h2,ww,eq_self,xs]
theorem step1 {L:List Nat} {s:ByteArray} (hs:FitS s) {i a:Nat} {ok:Bool} {m:MB} (hL:L[i]?=some 1) (hi:i≤100) (ha:a≤s.size) (b:BdM m) (hz:fEq m zeroM 1):Steps L s i 1 a ok m:=by
 obtain ⟨k,fr,to,sq,wh,ki,ks,nw,tb,ep,bo,ak,tk,tn,gd⟩:=m
 have q1:((i:Nat):Int) < (((L.map litN).length:Nat):Int):=by
  rw [List.length_map]
  have:=(List.getElem?_eq_some_iff.1 hL).1
  omega
 have q2:(0:Int)≤((i:Nat):Int):=by omega
 have gg:(L.map litN)[i]?=some (litN 1):=by rw [List.getElem?_map,hL]; rfl
 have ww:=w1 (show i≤9223372036854775806 by omega)
 simp only [litN] at gg
 rcases num_rd hs ha with ⟨x,a',hx,h1,h2,h3⟩ | ⟨h1,h2⟩
 ·refine ⟨a',ok,(k,fr,to,sq,wh,ki,ks,nw,tb,x,bo,ak,tk,tn,gd),?_,h1,⟨b.nw,b.tb,b.tk⟩,by refine ⟨rfl,rfl,rfl,fun i hi hn=>?_⟩; rcases le10 hi with rfl | rfl | rfl | rfl | rfl | rfl | rfl | rfl | rfl | rfl | rfl<;>first | exact absurd rfl hn | exact rfl | exact ⟨rfl,rfl⟩,fun h=>h,.inl ⟨rfl,hx,h2⟩⟩
  unfold rBod rS lay
  simp -implicitDefEqProofs only [q1,q2,gg,nq,h3,ww,eq_self,xs]
 ·refine ⟨a,false,(k,fr,to,sq,wh,ki,ks,nw,tb,0,bo,ak,tk,tn,gd),?_,ha,⟨b.nw,b.tb,b.tk⟩,by refine ⟨rfl,rfl,rfl,fun i hi hn=>?_⟩; rcases le10 hi with rfl | rfl | rfl | rfl | rfl | rfl | rfl | rfl | rfl | rfl | rfl<;>first | exact absurd rfl hn | exact rfl | exact ⟨rfl,rfl⟩,fun _=>rfl,.inr ⟨fun x r hx=>h1 _ r hx,.inl rfl⟩⟩
  unfold rBod rS lay
  simp -implicitDefEqProofs only [q1,q2,gg,nq,h2,ww,eq_self,xs]
theorem step2 {L:List Nat} {s:ByteArray} (hs:FitS s) {i a:Nat} {ok:Bool} {m:MB} (hL:L[i]?=some 2) (hi:i≤100) (ha:a≤s.size) (b:BdM m) (hz:fEq m zeroM 2):Steps L s i 2 a ok m:=by
 obtain ⟨k,fr,to,sq,wh,ki,ks,nw,tb,ep,bo,ak,tk,tn,gd⟩:=m
 have q1:((i:Nat):Int) < (((L.map litN).length:Nat):Int):=by
  rw [List.length_map]
  have:=(List.getElem?_eq_some_iff.1 hL).1
  omega
 have q2:(0:Int)≤((i:Nat):Int):=by omega
 have gg:(L.map litN)[i]?=some (litN 2):=by rw [List.getElem?_map,hL]; rfl
 have ww:=w1 (show i≤9223372036854775806 by omega)
 simp only [litN] at gg
 rcases num_rd hs ha with ⟨x,a',hx,h1,h2,h3⟩ | ⟨h1,h2⟩
 ·refine ⟨a',ok,(k,fr,to,sq,wh,ki,ks,nw,tb,ep,x,ak,tk,tn,gd),?_,h1,⟨b.nw,b.tb,b.tk⟩,by refine ⟨rfl,rfl,rfl,fun i hi hn=>?_⟩; rcases le10 hi with rfl | rfl | rfl | rfl | rfl | rfl | rfl | rfl | rfl | rfl | rfl<;>first | exact absurd rfl hn | exact rfl | exact ⟨rfl,rfl⟩,fun h=>h,.inl ⟨rfl,hx,h2⟩⟩
  unfold rBod rS lay
  simp -implicitDefEqProofs only [q1,q2,gg,nq,h3,ww,eq_self,xs]
 ·refine ⟨a,false,(k,fr,to,sq,wh,ki,ks,nw,tb,ep,0,ak,tk,tn,gd),?_,ha,⟨b.nw,b.tb,b.tk⟩,by refine ⟨rfl,rfl,rfl,fun i hi hn=>?_⟩; rcases le10 hi with rfl | rfl | rfl | rfl | rfl | rfl | rfl | rfl | rfl | rfl | rfl<;>first | exact absurd rfl hn | exact rfl | exact ⟨rfl,rfl⟩,fun _=>rfl,.inr ⟨fun x r hx=>h1 _ r hx,.inl rfl⟩⟩
  unfold rBod rS lay
  simp -implicitDefEqProofs only [q1,q2,gg,nq,h2,ww,eq_self,xs]
theorem step3 {L:List Nat} {s:ByteArray} (hs:FitS s) {i a:Nat} {ok:Bool} {m:MB} (hL:L[i]?=some 3) (hi:i≤100) (ha:a≤s.size) (b:BdM m) (hz:fEq m zeroM 3):Steps L s i 3 a ok m:=by
 obtain ⟨k,fr,to,sq,wh,ki,ks,nw,tb,ep,bo,ak,tk,tn,gd⟩:=m
 have q1:((i:Nat):Int) < (((L.map litN).length:Nat):Int):=by
  rw [List.length_map]
  have:=(List.getElem?_eq_some_iff.1 hL).1
  omega
 have q2:(0:Int)≤((i:Nat):Int):=by omega
 have gg:(L.map litN)[i]?=some (litN 3):=by rw [List.getElem?_map,hL]; rfl
 have ww:=w1 (show i≤9223372036854775806 by omega)
 simp only [litN] at gg
 rcases num_rd hs ha with ⟨x,a',hx,h1,h2,h3⟩ | ⟨h1,h2⟩
 ·refine ⟨a',ok,(k,fr,to,sq,wh,ki,ks,nw,tb,ep,bo,ak,tk,x,gd),?_,h1,⟨b.nw,b.tb,b.tk⟩,by refine ⟨rfl,rfl,rfl,fun i hi hn=>?_⟩; rcases le10 hi with rfl | rfl | rfl | rfl | rfl | rfl | rfl | rfl | rfl | rfl | rfl<;>first | exact absurd rfl hn | exact rfl | exact ⟨rfl,rfl⟩,fun h=>h,.inl ⟨rfl,hx,h2⟩⟩
  unfold rBod rS lay
  simp -implicitDefEqProofs only [q1,q2,gg,nq,h3,ww,eq_self,xs]
 ·refine ⟨a,false,(k,fr,to,sq,wh,ki,ks,nw,tb,ep,bo,ak,tk,0,gd),?_,ha,⟨b.nw,b.tb,b.tk⟩,by refine ⟨rfl,rfl,rfl,fun i hi hn=>?_⟩; rcases le10 hi with rfl | rfl | rfl | rfl | rfl | rfl | rfl | rfl | rfl | rfl | rfl<;>first | exact absurd rfl hn | exact rfl | exact ⟨rfl,rfl⟩,fun _=>rfl,.inr ⟨fun x r hx=>h1 _ r hx,.inl rfl⟩⟩
  unfold rBod rS lay
  simp -implicitDefEqProofs only [q1,q2,gg,nq,h2,ww,eq_self,xs]
theorem step4 {L:List Nat} {s:ByteArray} (hs:FitS s) {i a:Nat} {ok:Bool} {m:MB} (hL:L[i]?=some 4) (hi:i≤100) (ha:a≤s.size) (b:BdM m) (hz:fEq m zeroM 4):Steps L s i 4 a ok m:=by
 obtain ⟨k,fr,to,sq,wh,ki,ks,nw,tb,ep,bo,ak,tk,tn,gd⟩:=m
 have q1:((i:Nat):Int) < (((L.map litN).length:Nat):Int):=by
  rw [List.length_map]
  have:=(List.getElem?_eq_some_iff.1 hL).1
  omega
 have q2:(0:Int)≤((i:Nat):Int):=by omega
 have gg:(L.map litN)[i]?=some (litN 4):=by rw [List.getElem?_map,hL]; rfl
 have ww:=w1 (show i≤9223372036854775806 by omega)
 simp only [litN] at gg
 rcases small_rd hs ha with ⟨x,a',hx,h1,h2,h3⟩ | ⟨h1,a',h4,h2⟩
 ·refine ⟨a',ok,(k,fr,to,sq,x,ki,ks,nw,tb,ep,bo,ak,tk,tn,gd),?_,h1,⟨b.nw,b.tb,b.tk⟩,by refine ⟨rfl,rfl,rfl,fun i hi hn=>?_⟩; rcases le10 hi with rfl | rfl | rfl | rfl | rfl | rfl | rfl | rfl | rfl | rfl | rfl<;>first | exact absurd rfl hn | exact rfl | exact ⟨rfl,rfl⟩,fun h=>h,.inl ⟨rfl,hx,h2⟩⟩
  unfold rBod rS lay
  simp -implicitDefEqProofs only [q1,q2,gg,nq,h3,ww,eq_self,xs]
 ·refine ⟨a',false,(k,fr,to,sq,0,ki,ks,nw,tb,ep,bo,ak,tk,tn,gd),?_,h4,⟨b.nw,b.tb,b.tk⟩,by refine ⟨rfl,rfl,rfl,fun i hi hn=>?_⟩; rcases le10 hi with rfl | rfl | rfl | rfl | rfl | rfl | rfl | rfl | rfl | rfl | rfl<;>first | exact absurd rfl hn | exact rfl | exact ⟨rfl,rfl⟩,fun _=>rfl,.inr ⟨fun x r hx=>h1 _ r hx,.inl rfl⟩⟩
  unfold rBod rS lay
  simp -implicitDefEqProofs only [q1,q2,gg,nq,h2,ww,eq_self,xs]
theorem step8 {L:List Nat} {s:ByteArray} (hs:FitS s) {i a:Nat} {ok:Bool} {m:MB} (hL:L[i]?=some 8) (hi:i≤100) (ha:a≤s.size) (b:BdM m) (hz:fEq m zeroM 8):Steps L s i 8 a ok m:=by
 obtain ⟨k,fr,to,sq,wh,ki,ks,nw,tb,ep,bo,ak,tk,tn,gd⟩:=m
 have q1:((i:Nat):Int) < (((L.map litN).length:Nat):Int):=by
  rw [List.length_map]
  have:=(List.getElem?_eq_some_iff.1 hL).1
  omega
 have q2:(0:Int)≤((i:Nat):Int):=by omega
 have gg:(L.map litN)[i]?=some (litN 8):=by rw [List.getElem?_map,hL]; rfl
 have ww:=w1 (show i≤9223372036854775806 by omega)
 simp only [litN] at gg
 rcases num_rd hs ha with ⟨x,a',hx,h1,h2,h3⟩ | ⟨h1,h2⟩
 ·refine ⟨a',ok,(k,fr,to,sq,wh,ki,ks,nw,tb,ep,bo,IntKind.wrap .i64 x,tk,tn,gd),?_,h1,⟨b.nw,b.tb,b.tk⟩,by refine ⟨rfl,rfl,rfl,fun i hi hn=>?_⟩; rcases le10 hi with rfl | rfl | rfl | rfl | rfl | rfl | rfl | rfl | rfl | rfl | rfl<;>first | exact absurd rfl hn | exact rfl | exact ⟨rfl,rfl⟩,fun h=>h,?_⟩
  ·unfold rBod rS lay
   simp -implicitDefEqProofs only [q1,q2,gg,nq,h3,ww,eq_self,xs]
  ·by_cases hb:x≤9223372036854775807
   ·left
    have e:IntKind.wrap .i64 x=x:=wi (by have:=hx.1; omega) hb
    rw [e]
    exact ⟨rfl,⟨hx.1,hb⟩,h2⟩
   ·right
    refine ⟨fun y r hy he=>?_,.inr ⟨rfl,?_⟩⟩
    ·rw [h2] at he
     obtain ⟨e,_⟩:=numU_pre hx.1 hy.1 he
     have:=hy.2
     omega
    ·show IntKind.wrap .i64 x < 0
     have:=hx.2
     rw [IntKind.wrap_i64]; omega
 ·refine ⟨a,false,(k,fr,to,sq,wh,ki,ks,nw,tb,ep,bo,0,tk,tn,gd),?_,ha,⟨b.nw,b.tb,b.tk⟩,by refine ⟨rfl,rfl,rfl,fun i hi hn=>?_⟩; rcases le10 hi with rfl | rfl | rfl | rfl | rfl | rfl | rfl | rfl | rfl | rfl | rfl<;>first | exact absurd rfl hn | exact rfl | exact ⟨rfl,rfl⟩,fun _=>rfl,.inr ⟨fun x r hx=>h1 _ r ⟨hx.1,by have:=hx.2; omega⟩,.inl rfl⟩⟩
  have w0:IntKind.wrap .i64 (0:Int)=0:=rfl
  unfold rBod rS lay
  simp -implicitDefEqProofs only [q1,q2,gg,nq,h2,w0,ww,eq_self,xs]
theorem step10 {L:List Nat} {s:ByteArray} (hs:FitS s) {i a:Nat} {ok:Bool} {m:MB} (hL:L[i]?=some 10) (hi:i≤100) (ha:a≤s.size) (b:BdM m) (hz:fEq m zeroM 10):Steps L s i 10 a ok m:=by
 obtain ⟨k,fr,to,sq,wh,ki,ks,nw,tb,ep,bo,ak,tk,tn,gd⟩:=m
 have q1:((i:Nat):Int) < (((L.map litN).length:Nat):Int):=by
  rw [List.length_map]
  have:=(List.getElem?_eq_some_iff.1 hL).1
  omega
 have q2:(0:Int)≤((i:Nat):Int):=by omega
 have gg:(L.map litN)[i]?=some (litN 10):=by rw [List.getElem?_map,hL]; rfl
 have ww:=w1 (show i≤9223372036854775806 by omega)
 simp only [litN] at gg
 rcases many_rd hs ha (n:=1) (by omega) with ⟨x,a',hx,h1,h2,h3⟩ | ⟨h1,a',h4,h2⟩
 ·refine ⟨a',ok,(k,fr,to,sq,wh,ki,ks,nw,tb,ep,bo,ak,tk,tn,(x==1)),?_,h1,⟨b.nw,b.tb,b.tk⟩,by refine ⟨rfl,rfl,rfl,fun i hi hn=>?_⟩; rcases le10 hi with rfl | rfl | rfl | rfl | rfl | rfl | rfl | rfl | rfl | rfl | rfl<;>first | exact absurd rfl hn | exact rfl | exact ⟨rfl,rfl⟩,fun h=>h,.inl ⟨rfl,trivial,?_⟩⟩
  ·unfold rBod rS lay
   simp -implicitDefEqProofs only [q1,q2,gg,nq,h3,ww,eq_self,xs]
  ·rw [h2]
   congr 1
   show numU x=numU (if (x==1)=true then 1 else 0)
   rcases (by omega:x=0∨x=1) with rfl | rfl<;>rfl
 ·refine ⟨a',false,(k,fr,to,sq,wh,ki,ks,nw,tb,ep,bo,ak,tk,tn,((0:Int)==1)),?_,h4,⟨b.nw,b.tb,b.tk⟩,by refine ⟨rfl,rfl,rfl,fun i hi hn=>?_⟩; rcases le10 hi with rfl | rfl | rfl | rfl | rfl | rfl | rfl | rfl | rfl | rfl | rfl<;>first | exact absurd rfl hn | exact rfl | exact ⟨rfl,rfl⟩,fun _=>rfl,.inr ⟨fun x r hx=>h1 _ r (by split<;>omega),.inl rfl⟩⟩
  unfold rBod rS lay
  simp -implicitDefEqProofs only [q1,q2,gg,nq,h2,ww,eq_self,xs]
theorem step5 {L:List Nat} {s:ByteArray} (hs:FitS s) {i a:Nat} {ok:Bool} {m:MB} (hL:L[i]?=some 5) (hi:i≤100) (ha:a≤s.size) (b:BdM m) (hz:fEq m zeroM 5):Steps L s i 5 a ok m:=by
 obtain ⟨k,fr,to,sq,wh,ki,ks,nw,tb,ep,bo,ak,tk,tn,gd⟩:=m
 have q1:((i:Nat):Int) < (((L.map litN).length:Nat):Int):=by
  rw [List.length_map]
  have:=(List.getElem?_eq_some_iff.1 hL).1
  omega
 have q2:(0:Int)≤((i:Nat):Int):=by omega
 have gg:(L.map litN)[i]?=some (litN 5):=by rw [List.getElem?_map,hL]; rfl
 have ww:=w1 (show i≤9223372036854775806 by omega)
 simp only [litN] at gg
 rcases num_rd hs ha with ⟨x,a',hx,h1,h2,h3⟩ | ⟨h1,h2⟩
 ·rcases small_rd hs h1 with ⟨y,c,hy,k1,k2,k3⟩ | ⟨k1,c,k2,k3⟩
  ·refine ⟨c,ok,(k,fr,to,sq,wh,x,y,nw,tb,ep,bo,ak,tk,tn,gd),?_,k1,⟨b.nw,b.tb,b.tk⟩,by refine ⟨rfl,rfl,rfl,fun i hi hn=>?_⟩; rcases le10 hi with rfl | rfl | rfl | rfl | rfl | rfl | rfl | rfl | rfl | rfl | rfl<;>first | exact absurd rfl hn | exact rfl | exact ⟨rfl,rfl⟩,fun h=>h,.inl ⟨rfl,⟨hx,hy⟩,?_⟩⟩
   ·unfold rBod rS lay
    simp -implicitDefEqProofs only [q1,q2,gg,nq,h3,k3,ww,eq_self,xs]
   ·show _=(numU x++numU y)++_
    rw [List.append_assoc,h2,k2]
  ·refine ⟨c,false,(k,fr,to,sq,wh,x,0,nw,tb,ep,bo,ak,tk,tn,gd),?_,k2,⟨b.nw,b.tb,b.tk⟩,by refine ⟨rfl,rfl,rfl,fun i hi hn=>?_⟩; rcases le10 hi with rfl | rfl | rfl | rfl | rfl | rfl | rfl | rfl | rfl | rfl | rfl<;>first | exact absurd rfl hn | exact rfl | exact ⟨rfl,rfl⟩,fun _=>rfl,.inr ⟨fun z r hz he=>?_,.inl rfl⟩⟩
   ·unfold rBod rS lay
    simp -implicitDefEqProofs only [q1,q2,gg,nq,h3,k3,ww,eq_self,xs]
   ·simp only [pN,List.append_assoc] at he
    rw [h2] at he
    obtain ⟨_,e⟩:=numU_pre hx.1 hz.1.1 he
    exact k1 _ _ hz.2 e
 ·rcases small_rd hs ha with ⟨y,c,hy,k1,k2,k3⟩ | ⟨k1,c,k2,k3⟩
  ·refine ⟨c,false,(k,fr,to,sq,wh,0,y,nw,tb,ep,bo,ak,tk,tn,gd),?_,k1,⟨b.nw,b.tb,b.tk⟩,by refine ⟨rfl,rfl,rfl,fun i hi hn=>?_⟩; rcases le10 hi with rfl | rfl | rfl | rfl | rfl | rfl | rfl | rfl | rfl | rfl | rfl<;>first | exact absurd rfl hn | exact rfl | exact ⟨rfl,rfl⟩,fun _=>rfl,.inr ⟨fun z r hz he=>?_,.inl rfl⟩⟩
   ·unfold rBod rS lay
    simp -implicitDefEqProofs only [q1,q2,gg,nq,h2,k3,ww,eq_self,xs]
   ·simp only [pN,List.append_assoc] at he
    exact h1 _ _ hz.1 he
  ·refine ⟨c,false,(k,fr,to,sq,wh,0,0,nw,tb,ep,bo,ak,tk,tn,gd),?_,k2,⟨b.nw,b.tb,b.tk⟩,by refine ⟨rfl,rfl,rfl,fun i hi hn=>?_⟩; rcases le10 hi with rfl | rfl | rfl | rfl | rfl | rfl | rfl | rfl | rfl | rfl | rfl<;>first | exact absurd rfl hn | exact rfl | exact ⟨rfl,rfl⟩,fun _=>rfl,.inr ⟨fun z r hz he=>?_,.inl rfl⟩⟩
   ·unfold rBod rS lay
    simp -implicitDefEqProofs only [q1,q2,gg,nq,h2,k3,ww,eq_self,xs]
   ·simp only [pN,List.append_assoc] at he
    exact h1 _ _ hz.1 he
theorem step9 {L:List Nat} {s:ByteArray} (hs:FitS s) {i a:Nat} {ok:Bool} {m:MB} (hL:L[i]?=some 9) (hi:i≤100) (ha:a≤s.size) (b:BdM m) (hz:fEq m zeroM 9):Steps L s i 9 a ok m:=by
 obtain ⟨k,fr,to,sq,wh,ki,ks,nw,tb,ep,bo,ak,tk,tn,gd⟩:=m
 have q1:((i:Nat):Int) < (((L.map litN).length:Nat):Int):=by
  rw [List.length_map]
  have:=(List.getElem?_eq_some_iff.1 hL).1
  omega
 have q2:(0:Int)≤((i:Nat):Int):=by omega
 have gg:(L.map litN)[i]?=some (litN 9):=by rw [List.getElem?_map,hL]; rfl
 have ww:=w1 (show i≤9223372036854775806 by omega)
 simp only [litN] at gg
 have hl:=toList_len s
 have hA:s.toList=s.toList.take a++dr s a:=(List.take_append_drop a _).symm
 have hal:a=(s.toList.take a).length:=by rw [List.length_take]; omega
 rcases take_text hs hA hal with ⟨t,r,ht,h1,h2⟩ | ⟨h1,e,he,h2⟩
 ·have h3:dr s (a+((numU ((t.length:Nat):Int)).length+t.length))=r:=by
   show s.toList.drop _=_
   rw [← List.drop_drop]
   show List.drop _ (dr s a)=_
   rw [h1,← List.append_assoc,← List.length_append,List.drop_left]
  have h4:a+((numU ((t.length:Nat):Int)).length+t.length)≤s.size:=by
   have:=congrArg List.length h1
   rw [List.length_drop,List.length_append,List.length_append] at this
   omega
  refine ⟨a+((numU ((t.length:Nat):Int)).length+t.length),ok,(k,fr,to,sq,wh,ki,ks,nw,tb,ep,bo,ak,mkB t,tn,gd),?_,h4,⟨b.nw,b.tb,by rw [mkB_size]; exact ht⟩,by refine ⟨rfl,rfl,rfl,fun i hi hn=>?_⟩; rcases le10 hi with rfl | rfl | rfl | rfl | rfl | rfl | rfl | rfl | rfl | rfl | rfl<;>first | exact absurd rfl hn | exact rfl | exact ⟨rfl,rfl⟩,fun h=>h,.inl ⟨rfl,by show (mkB t).size≤200; rw [mkB_size]; exact ht,?_⟩⟩
  ·unfold rBod rS lay
   simp -implicitDefEqProofs only [q1,q2,gg,nq,nz0,h2,ww,eq_self,xs]
  ·show _=(numU (((mkB t).size:Nat):Int)++(mkB t).toList)++_
   rw [h3,mkB_size,mkB_toList,List.append_assoc,h1]
 ·refine ⟨a,false,(k,fr,to,sq,wh,ki,ks,nw,tb,ep,bo,ak,tk,tn,gd),?_,ha,⟨b.nw,b.tb,b.tk⟩,by refine ⟨rfl,rfl,rfl,fun i hi hn=>?_⟩; rcases le10 hi with rfl | rfl | rfl | rfl | rfl | rfl | rfl | rfl | rfl | rfl | rfl<;>first | exact absurd rfl hn | exact rfl | exact ⟨rfl,rfl⟩,fun _=>rfl,.inr ⟨fun x r hx hh=>?_,.inl rfl⟩⟩
  ·have q:(e != 0)=true:=by simpa using he
   unfold rBod rS lay
   simp -implicitDefEqProofs only [q1,q2,gg,nq,q,h2,ww,eq_self,xs]
  ·simp only [pN,List.append_assoc] at hh
   have el:=toList_len x.2.2.2.2.2.2.2.2.2.2.2.2.1
   exact h1 x.2.2.2.2.2.2.2.2.2.2.2.2.1.toList r (by rw [el]; exact hx) (by rw [el]; exact hh)
theorem nBod_step {v11:Int×(RS×(REC×(List NW×List KW)))} {v32:Int×RS} {c n:Nat} {r r':RS} {R:REC} {l:List NW} {x:NW} (hn:v32.1=((n:Nat):Int)) (hc:c < n) (hn2:n≤100) (hl:l.length≤100) (h:rTell r=some (r',x)) :
  nBod v11 v32 (((c:Nat):Int),r,R,l)=some (.inl (((c+1:Nat):Int),r',R,l++[x])):=by
 have q1:((c:Nat):Int) < v32.1:=by rw [hn]; omega
 have ww:=w1 (show c≤9223372036854775806 by omega)
 unfold rTell at h
 cases e1:rSmall r with
 | none=>rw [e1] at h; cases h
 | some w =>
  rw [e1,Option.bind_some] at h
  cases e2:rKnow w.2 with
  | none=>rw [e2] at h; cases h
  | some k =>
   rw [e2,Option.bind_some] at h
   obtain ⟨rfl,rfl⟩:k.1=r'∧(w.1,k.2)=x:=by cases h; exact ⟨rfl,rfl⟩
   have b1:((l.length+1:Nat):Int) * 24≤70368744177664:=by omega
   have b2:((l.length+1:Nat):Int)≤70368744177664:=by omega
   have b3:¬ l.length+1≤l.length:=by omega
   unfold nBod
   simp -implicitDefEqProofs only [q1,e1,e2,b1,b2,b3,ww,eq_self,xs]
theorem nBod_last {v11:Int×(RS×(REC×(List NW×List KW)))} {v32:Int×RS} {n:Nat} {r:RS} {R:REC} {l:List NW} (hn:v32.1=((n:Nat):Int)) :
  nBod v11 v32 (((n:Nat):Int),r,R,l)=some (.inr (.inl (IntKind.wrap .i64 (v11.1+1),r,R,l,v11.2.2.2.2))):=by
 have q1:¬ ((n:Nat):Int) < v32.1:=by rw [hn]; omega
 unfold nBod
 simp -implicitDefEqProofs only [q1,eq_self,xs]
theorem step6 {L:List Nat} {s:ByteArray} (hs:FitS s) {i a:Nat} {ok:Bool} {m:MB} (hL:L[i]?=some 6) (hi:i≤100) (ha:a≤s.size) (b:BdM m) (hz:fEq m zeroM 6):Steps L s i 6 a ok m:=by
 obtain ⟨k,fr,to,sq,wh,ki,ks,nw,tb,ep,bo,ak,tk,tn,gd⟩:=m
 have q1:((i:Nat):Int) < (((L.map litN).length:Nat):Int):=by
  rw [List.length_map]
  have:=(List.getElem?_eq_some_iff.1 hL).1
  omega
 have q2:(0:Int)≤((i:Nat):Int):=by omega
 have gg:(L.map litN)[i]?=some (litN 6):=by rw [List.getElem?_map,hL]; rfl
 have ww:=w1 (show i≤9223372036854775806 by omega)
 simp only [litN] at gg
 obtain rfl:nw=[]:=hz
 rcases many_rd hs ha (n:=8) (by omega) with ⟨x,a',hx,h1,h2,h3⟩ | ⟨h1,a',h4,h2⟩
 ·obtain ⟨n,rfl⟩:∃ n:Nat,x=n:=⟨x.toNat,by omega⟩
  have key:=many_loop (s:=s) (f:=nBod (rS i s a ok (k,fr,to,sq,wh,ki,ks,[],tb,ep,bo,ak,tk,tn,gd)) (((n:Nat):Int),s,((a':Nat):Int),ok)) (mk:=fun c a ok l=>(((c:Nat):Int),(s,((a:Nat):Int),ok),(k,fr,to,sq,wh,ki,ks,ep,bo,ak,tk,tn,gd),l)) (e:=newO) (P:=NwR) (n:=n) (B:=8)
   (fin:=fun a ok l=>.inl (IntKind.wrap .i64 (((i:Nat):Int)+1),(s,((a:Nat):Int),ok),(k,fr,to,sq,wh,ki,ks,ep,bo,ak,tk,tn,gd),l,tb))
   (fun c a ok l hc ha hl=>by
    rcases tell_rd hs ha with ⟨x,b,p1,p2,p3,p4⟩ | ⟨p1,x,b,p2,p3⟩
    ·exact .inl ⟨x,b,p1,p2,p3,nBod_step rfl hc (by omega) (by omega) (p4 ok)⟩
    ·exact .inr ⟨p1,x,b,p2,nBod_step rfl hc (by omega) (by omega) (p3 ok)⟩)
   (fun a ok l=>nBod_last rfl)
   (fun x y r t=>new_pre) n 0 a' ok [] (by omega) h1 (by simp; omega)
  obtain ⟨a2,ok2,l,e1,e2,e3,e4,e5⟩:=key
  rw [List.nil_append] at e1
  refine ⟨a2,ok2,(k,fr,to,sq,wh,ki,ks,l,tb,ep,bo,ak,tk,tn,gd),?_,e2,⟨by show l.length≤8; omega,b.tb,b.tk⟩,by refine ⟨rfl,rfl,rfl,fun i hi hn=>?_⟩; rcases le10 hi with rfl | rfl | rfl | rfl | rfl | rfl | rfl | rfl | rfl | rfl | rfl<;>first | exact absurd rfl hn | exact rfl | exact ⟨rfl,rfl⟩,e5,?_⟩
  ·have e1':=e1
   unfold rS lay at e1'
   simp only at e1'
   unfold rBod rS lay
   simp -implicitDefEqProofs only [q1,q2,gg,nq,h3,eq_self,xs]
   rw [Int.natCast_zero] at e1'
   rw [e1',ww]
  ·rcases e4 with ⟨g1,g2,g3⟩ | ⟨g1,g2⟩
   ·refine .inl ⟨g1,⟨by show l.length≤_; omega,g2⟩,?_⟩
    show _=(numU ((l.length:Nat):Int)++l.flatMap newO)++_
    rw [List.append_assoc,h2,e3,g3]
   ·refine .inr ⟨fun y r hy he=>?_,.inl g2⟩
    simp only [pN,List.append_assoc] at he
    rw [h2] at he
    obtain ⟨q,he⟩:=numU_pre (by omega) (by omega) he
    exact g1 _ r (by omega) hy.2 he
 ·refine ⟨a',false,(k,fr,to,sq,wh,ki,ks,[],tb,ep,bo,ak,tk,tn,gd),?_,h4,⟨b.nw,b.tb,b.tk⟩,by refine ⟨rfl,rfl,rfl,fun i hi hn=>?_⟩; rcases le10 hi with rfl | rfl | rfl | rfl | rfl | rfl | rfl | rfl | rfl | rfl | rfl<;>first | exact absurd rfl hn | exact rfl | exact ⟨rfl,rfl⟩,fun _=>rfl,.inr ⟨fun y r hy he=>?_,.inl rfl⟩⟩
  ·have lst:=nBod_last (v11:=rS i s a ok (k,fr,to,sq,wh,ki,ks,[],tb,ep,bo,ak,tk,tn,gd)) (v32:=((0:Int),s,((a':Nat):Int),false)) (n:=0) (r:=(s,((a':Nat):Int),false)) (R:=(k,fr,to,sq,wh,ki,ks,ep,bo,ak,tk,tn,gd)) (l:=[]) rfl
   rw [Int.natCast_zero] at lst
   unfold rS lay at lst
   simp only at lst
   unfold rBod rS lay
   simp -implicitDefEqProofs only [q1,q2,gg,nq,h2,eq_self,xs]
   rw [loopX_eq,lst,ww]
  ·simp only [pN,List.append_assoc] at he
   exact h1 _ _ ⟨by omega,by have:=hy.1; omega⟩ he
theorem tBod_step {v11:Int×(RS×(REC×(List NW×List KW)))} {v32:Int×RS} {c n:Nat} {r r':RS} {R:REC} {l:List KW} {x:KW} (hn:v32.1=((n:Nat):Int)) (hc:c < n) (hn2:n≤100) (hl:l.length≤100) (h:rKnow r=some (r',x)) :
  tBod v11 v32 (((c:Nat):Int),r,R,l)=some (.inl (((c+1:Nat):Int),r',R,l++[x])):=by
 have q1:((c:Nat):Int) < v32.1:=by rw [hn]; omega
 have ww:=w1 (show c≤9223372036854775806 by omega)
 have b1:((l.length+1:Nat):Int) * 16≤70368744177664:=by omega
 have b2:((l.length+1:Nat):Int)≤70368744177664:=by omega
 have b3:¬ l.length+1≤l.length:=by omega
 unfold tBod
 simp -implicitDefEqProofs only [q1,h,b1,b2,b3,ww,eq_self,xs]
theorem tBod_last {v11:Int×(RS×(REC×(List NW×List KW)))} {v32:Int×RS} {n:Nat} {r:RS} {R:REC} {l:List KW} (hn:v32.1=((n:Nat):Int)) :
  tBod v11 v32 (((n:Nat):Int),r,R,l)=some (.inr (.inl (IntKind.wrap .i64 (v11.1+1),r,R,v11.2.2.2.1,l))):=by
 have q1:¬ ((n:Nat):Int) < v32.1:=by rw [hn]; omega
 unfold tBod
 simp -implicitDefEqProofs only [q1,eq_self,xs]
theorem step7 {L:List Nat} {s:ByteArray} (hs:FitS s) {i a:Nat} {ok:Bool} {m:MB} (hL:L[i]?=some 7) (hi:i≤100) (ha:a≤s.size) (b:BdM m) (hz:fEq m zeroM 7):Steps L s i 7 a ok m:=by
 obtain ⟨k,fr,to,sq,wh,ki,ks,nw,tb,ep,bo,ak,tk,tn,gd⟩:=m
 have q1:((i:Nat):Int) < (((L.map litN).length:Nat):Int):=by
  rw [List.length_map]
  have:=(List.getElem?_eq_some_iff.1 hL).1
  omega
 have q2:(0:Int)≤((i:Nat):Int):=by omega
 have gg:(L.map litN)[i]?=some (litN 7):=by rw [List.getElem?_map,hL]; rfl
 have ww:=w1 (show i≤9223372036854775806 by omega)
 simp only [litN] at gg
 obtain rfl:tb=[]:=hz
 rcases many_rd hs ha (n:=64) (by omega) with ⟨x,a',hx,h1,h2,h3⟩ | ⟨h1,a',h4,h2⟩
 ·obtain ⟨n,rfl⟩:∃ n:Nat,x=n:=⟨x.toNat,by omega⟩
  have key:=many_loop (s:=s) (f:=tBod (rS i s a ok (k,fr,to,sq,wh,ki,ks,nw,[],ep,bo,ak,tk,tn,gd)) (((n:Nat):Int),s,((a':Nat):Int),ok)) (mk:=fun c a ok l=>(((c:Nat):Int),(s,((a:Nat):Int),ok),(k,fr,to,sq,wh,ki,ks,ep,bo,ak,tk,tn,gd),l)) (e:=tabO) (P:=KnR) (n:=n) (B:=64)
   (fin:=fun a ok l=>.inl (IntKind.wrap .i64 (((i:Nat):Int)+1),(s,((a:Nat):Int),ok),(k,fr,to,sq,wh,ki,ks,ep,bo,ak,tk,tn,gd),nw,l))
   (fun c a ok l hc ha hl=>by
    rcases know_rd hs ha with ⟨x,b,p1,p2,p3,p4⟩ | ⟨p1,x,b,p2,p3⟩
    ·exact .inl ⟨x,b,p1,p2,p3,tBod_step rfl hc (by omega) (by omega) (p4 ok)⟩
    ·exact .inr ⟨p1,x,b,p2,tBod_step rfl hc (by omega) (by omega) (p3 ok)⟩)
   (fun a ok l=>tBod_last rfl)
   (fun x y r t=>tab_pre) n 0 a' ok [] (by omega) h1 (by simp; omega)
  obtain ⟨a2,ok2,l,e1,e2,e3,e4,e5⟩:=key
  rw [List.nil_append] at e1
  refine ⟨a2,ok2,(k,fr,to,sq,wh,ki,ks,nw,l,ep,bo,ak,tk,tn,gd),?_,e2,⟨b.nw,by show l.length≤64; omega,b.tk⟩,by refine ⟨rfl,rfl,rfl,fun i hi hn=>?_⟩; rcases le10 hi with rfl | rfl | rfl | rfl | rfl | rfl | rfl | rfl | rfl | rfl | rfl<;>first | exact absurd rfl hn | exact rfl | exact ⟨rfl,rfl⟩,e5,?_⟩
  ·have e1':=e1
   unfold rS lay at e1'
   simp only at e1'
   unfold rBod rS lay
   simp -implicitDefEqProofs only [q1,q2,gg,nq,h3,eq_self,xs]
   rw [Int.natCast_zero] at e1'
   rw [e1',ww]
  ·rcases e4 with ⟨g1,g2,g3⟩ | ⟨g1,g2⟩
   ·refine .inl ⟨g1,⟨by show l.length≤_; omega,g2⟩,?_⟩
    show _=(numU ((l.length:Nat):Int)++l.flatMap tabO)++_
    rw [List.append_assoc,h2,e3,g3]
   ·refine .inr ⟨fun y r hy he=>?_,.inl g2⟩
    simp only [pN,List.append_assoc] at he
    rw [h2] at he
    obtain ⟨q,he⟩:=numU_pre (by omega) (by omega) he
    exact g1 _ r (by omega) hy.2 he
 ·refine ⟨a',false,(k,fr,to,sq,wh,ki,ks,nw,[],ep,bo,ak,tk,tn,gd),?_,h4,⟨b.nw,b.tb,b.tk⟩,by refine ⟨rfl,rfl,rfl,fun i hi hn=>?_⟩; rcases le10 hi with rfl | rfl | rfl | rfl | rfl | rfl | rfl | rfl | rfl | rfl | rfl<;>first | exact absurd rfl hn | exact rfl | exact ⟨rfl,rfl⟩,fun _=>rfl,.inr ⟨fun y r hy he=>?_,.inl rfl⟩⟩
  ·have lst:=tBod_last (v11:=rS i s a ok (k,fr,to,sq,wh,ki,ks,nw,[],ep,bo,ak,tk,tn,gd)) (v32:=((0:Int),s,((a':Nat):Int),false)) (n:=0) (r:=(s,((a':Nat):Int),false)) (R:=(k,fr,to,sq,wh,ki,ks,ep,bo,ak,tk,tn,gd)) (l:=[]) rfl
   rw [Int.natCast_zero] at lst
   unfold rS lay at lst
   simp only at lst
   unfold rBod rS lay
   simp -implicitDefEqProofs only [q1,q2,gg,nq,h2,eq_self,xs]
   rw [loopX_eq,lst,ww]
  ·simp only [pN,List.append_assoc] at he
   exact h1 _ _ ⟨by omega,by have:=hy.1; omega⟩ he
end Go.Proofs.Ytgbcankkfmhcoaa.VL
end
section
namespace Go.Proofs.Ytgbcankkfmhcoaa.VL
open Go
set_option linter.unusedVariables false
set_option linter.unusedSectionVars false
set_option linter.unusedSimpArgs false
set_option maxRecDepth 100000
variable [Val]
theorem step_any {L:List Nat} {s:ByteArray} (hs:FitS s) {i j a:Nat} {ok:Bool} {m:MB} (hL:L[i]?=some j) (hj:j≤10) (hi:i≤100) (ha:a≤s.size) (b:BdM m) (hz:fEq m zeroM j):Steps L s i j a ok m:=by
 rcases le10 hj with rfl | rfl | rfl | rfl | rfl | rfl | rfl | rfl | rfl | rfl | rfl
 ·exact step0 hs hL hi ha b hz
 ·exact step1 hs hL hi ha b hz
 ·exact step2 hs hL hi ha b hz
 ·exact step3 hs hL hi ha b hz
 ·exact step4 hs hL hi ha b hz
 ·exact step5 hs hL hi ha b hz
 ·exact step6 hs hL hi ha b hz
 ·exact step7 hs hL hi ha b hz
 ·exact step8 hs hL hi ha b hz
 ·exact step9 hs hL hi ha b hz
 ·exact step10 hs hL hi ha b hz
theorem fEq_symm {m n:MB} {j:Nat} (h:fEq m n j):fEq n m j:=by
 match j,h with
 | 0,h | 1,h | 2,h | 3,h | 4,h | 6,h | 7,h | 8,h | 9,h=>exact Eq.symm h
 | 5,h=>exact ⟨h.1.symm,h.2.symm⟩
 | j+10,h=>exact Eq.symm h
theorem fEq_trans {m n p:MB} {j:Nat} (h:fEq m n j) (k:fEq n p j):fEq m p j:=by
 match j,h,k with
 | 0,h,k | 1,h,k | 2,h,k | 3,h,k | 4,h,k | 6,h,k | 7,h,k | 8,h,k | 9,h,k=>exact Eq.trans h k
 | 5,h,k=>exact ⟨h.1.trans k.1,h.2.trans k.2⟩
 | j+10,h,k=>exact Eq.trans h k
theorem pN_congr {m n:MB} {j:Nat} (h:fEq m n j):pN m j=pN n j:=by
 match j,h with
 | 0,h | 1,h | 2,h | 3,h | 4,h | 6,h | 7,h | 8,h=>simp only [pN]; simp only [fEq] at h; rw [h]
 | 5,h=>simp only [pN]; rw [h.1,h.2]
 | 9,h =>
  simp only [pN]; simp only [fEq] at h
  rw [← toList_len,← toList_len,h]
 | j+10,h=>simp only [pN]; simp only [fEq] at h; rw [h]
theorem Rng_congr {m n:MB} {j:Nat} (h:fEq m n j) (r:Rng n j):Rng m j:=by
 match j,h,r with
 | 0,h,r | 1,h,r | 2,h,r | 3,h,r | 4,h,r | 6,h,r | 7,h,r | 8,h,r=>simp only [Rng] at r ⊢; simp only [fEq] at h; rw [h]; exact r
 | 5,h,r=>simp only [Rng] at r ⊢; rw [h.1,h.2]; exact r
 | 9,h,r =>
  simp only [Rng] at r ⊢; simp only [fEq] at h
  rw [← toList_len,h,toList_len]; exact r
 | j+10,h,r=>trivial
theorem rng_pre {m n:MB} {j:Nat} (gm:Rng m j) (gn:Rng n j) {r s:List UInt8} (h:pN m j++r=pN n j++s):fEq m n j∧r=s:=by
 match j,gm,gn,h with
 | 0,gm,gn,h | 1,gm,gn,h | 2,gm,gn,h | 3,gm,gn,h | 4,gm,gn,h | 8,gm,gn,h=>exact numU_pre gm.1 gn.1 h
 | 5,gm,gn,h =>
  obtain ⟨h1,h2⟩:=tab_pre gm gn (r:=r) (t:=s) h
  exact ⟨⟨(Prod.mk.inj h1).1,(Prod.mk.inj h1).2⟩,h2⟩
 | 6,gm,gn,h =>
  simp only [pN,List.append_assoc] at h
  obtain ⟨h1,h2⟩:=numU_pre (by omega) (by omega) h
  exact list_pre (fun x hx y hy r s hh=>new_pre (gm.2 x hx) (gn.2 y hy) hh) (by omega) h2
 | 7,gm,gn,h =>
  simp only [pN,List.append_assoc] at h
  obtain ⟨h1,h2⟩:=numU_pre (by omega) (by omega) h
  exact list_pre (fun x hx y hy r s hh=>tab_pre (gm.2 x hx) (gn.2 y hy) hh) (by omega) h2
 | 9,gm,gn,h =>
  simp only [pN,List.append_assoc] at h
  obtain ⟨h1,h2⟩:=numU_pre (by omega) (by omega) h
  exact List.append_inj h2 (by rw [toList_len,toList_len]; omega)
 | j+10,gm,gn,h =>
  simp only [pN] at h
  obtain ⟨h1,h2⟩:=numU_pre (by split<;>omega) (by split<;>omega) h
  refine ⟨?_,h2⟩
  show m.2.2.2.2.2.2.2.2.2.2.2.2.2.2=n.2.2.2.2.2.2.2.2.2.2.2.2.2.2
  revert h1
  generalize m.2.2.2.2.2.2.2.2.2.2.2.2.2.2=b
  generalize n.2.2.2.2.2.2.2.2.2.2.2.2.2.2=c
  cases b<;>cases c<;>simp
theorem rng_pres {m n:MB}:∀ {L:List Nat} {r s:List UInt8},(∀ j ∈ L,Rng m j)→(∀ j ∈ L,Rng n j)→L.flatMap (pN m)++r=L.flatMap (pN n)++s→(∀ j ∈ L,fEq m n j)∧r=s
 | [],r,s,_,_,h=>⟨fun j hj=>by simp at hj,by simpa using h⟩
 | a::L,r,s,gm,gn,h=>by
  rw [List.flatMap_cons,List.flatMap_cons,List.append_assoc,List.append_assoc] at h
  obtain ⟨h1,h2⟩:=rng_pre (gm a (by simp)) (gn a (by simp)) h
  obtain ⟨h3,h4⟩:=rng_pres (fun j hj=>gm j (by simp [hj])) (fun j hj=>gn j (by simp [hj])) h2
  exact ⟨fun j hj=>by
   rcases List.mem_cons.1 hj with rfl | hj
   ·exact h1
   ·exact h3 j hj,h4⟩
theorem loop_rd {L:List Nat} {s:ByteArray} (hs:FitS s) (hL:L.length≤100) (hj:∀ j ∈ L,j≤10):∀ (d i a:Nat) (ok:Bool) (m:MB),i+d=L.length→(L.drop i).Nodup→a≤s.size→BdM m→(∀ j ∈ L.drop i,fEq m zeroM j) →
    ∃ (a':Nat) (ok':Bool) (m':MB),loopX (rBod (L.map litN)) (rS i s a ok m)=some ((s,((a':Nat):Int),ok'),lay m')∧a'≤s.size∧BdM m'∧(m'.1=m.1∧m'.2.1=m.2.1∧m'.2.2.1=m.2.2.1) ∧
      (∀ j,j≤10→j ∉ L.drop i→fEq m' m j)∧(ok=false→ok'=false) ∧
      ((ok'=ok∧(∀ j ∈ L.drop i,Rng m' j)∧dr s a=(L.drop i).flatMap (pN m')++dr s a') ∨
       ((∀ (x:MB) r,(∀ j ∈ L.drop i,Rng x j)→dr s a≠(L.drop i).flatMap (pN x)++r)∧(ok'=false∨m'.2.2.2.2.2.2.2.2.2.2.2.1 < 0))):=by
  intro d
  induction d with
  | zero =>
    intro i a ok m h1 h2 h3 h4 h5
    have hd:L.drop i=[]:=List.drop_eq_nil_of_le (by omega)
    rw [hd]
    refine ⟨a,ok,m,?_,h3,h4,⟨rfl,rfl,rfl⟩,fun j _ _=>fEq_refl m j,fun h=>h,.inl ⟨rfl,fun j hj=>by simp at hj,rfl⟩⟩
    have q1:¬ ((i:Nat):Int) < (((L.map litN).length:Nat):Int):=by rw [List.length_map]; omega
    rw [loopX_eq]
    have:rBod (L.map litN) (rS i s a ok m)=some (.inr ((s,((a:Nat):Int),ok),lay m)):=by
      unfold rBod rS lay
      simp -implicitDefEqProofs only [q1,eq_self,xs]
    rw [this]
  | succ d ih =>
    intro i a ok m h1 h2 h3 h4 h5
    have hlt:i < L.length:=by omega
    have hd:L.drop i=L[i]::L.drop (i+1):=List.drop_eq_getElem_cons hlt
    have hg:L[i]?=some L[i]:=List.getElem?_eq_getElem hlt
    have hj10:=hj L[i] (List.getElem_mem hlt)
    rw [hd] at h2 h5 ⊢
    generalize L[i]=j at *
    obtain ⟨hnj,hnd⟩:=List.nodup_cons.1 h2
    obtain ⟨a1,ok1,m1,e1,o1,o2,⟨o3,o4,o5,o6⟩,o7,o8⟩:=step_any (ok:=ok) hs hg hj10 (by omega) h3 h4 (h5 j (by simp))
    obtain ⟨a',ok',m',f1,f2,f3,⟨f4,f5,f6⟩,f7,f8,f9⟩:=ih (i+1) a1 ok1 m1 (by omega) hnd o1 o2 (fun x hx=>by
      have hx10:x≤10:=hj x (List.mem_of_mem_drop hx)
      exact fEq_trans (o6 x hx10 (fun e=>hnj (e ▸ hx))) (h5 x (by simp [hx])))
    have hm1:fEq m' m1 j:=f7 j hj10 hnj
    refine ⟨a',ok',m',?_,f2,f3,⟨f4.trans o3,f5.trans o4,f6.trans o5⟩,fun x hx hn=>?_,fun h=>f8 (o7 h),?_⟩
    · rw [loopX_eq,e1]; exact f1
    · have hn1:x≠j:=fun e=>hn (by simp [e])
      have hn2:x ∉ L.drop (i+1):=fun e=>hn (by simp [e])
      exact fEq_trans (f7 x hx hn2) (o6 x hx hn1)
    · rcases o8 with ⟨p1,p2,p3⟩ | ⟨p1,p2⟩
      · rcases f9 with ⟨g1,g2,g3⟩ | ⟨g1,g2⟩
        · refine .inl ⟨g1.trans p1,fun x hx=>?_,?_⟩
          · rcases List.mem_cons.1 hx with rfl | hx
            · exact Rng_congr hm1 p2
            · exact g2 x hx
          · rw [p3,g3,List.flatMap_cons,List.append_assoc,pN_congr hm1]
        · refine .inr ⟨fun x r hx he=>?_,g2⟩
          rw [p3,List.flatMap_cons,List.append_assoc] at he
          obtain ⟨_,he⟩:=rng_pre p2 (hx j (by simp)) he
          exact g1 x r (fun z hz=>hx z (by simp [hz])) he
      · refine .inr ⟨fun x r hx he=>?_,?_⟩
        · rw [List.flatMap_cons,List.append_assoc] at he
          exact p1 x _ (hx j (by simp)) he
        · rcases p2 with p2 | ⟨rfl,p2⟩
          · exact .inl (f8 p2)
          · right
            have:m'.2.2.2.2.2.2.2.2.2.2.2.1=m1.2.2.2.2.2.2.2.2.2.2.2.1:=hm1
            rw [this]; exact p2
end Go.Proofs.Ytgbcankkfmhcoaa.VL
end
section
namespace Go.Proofs.Ytgbcankkfmhcoaa.VL
open Go
set_option linter.unusedVariables false
set_option linter.unusedSectionVars false
set_option linter.unusedSimpArgs false
set_option maxRecDepth 100000
variable [Val]
def hasL (k:Int):List Nat:=if 1≤k∧k≤12 then hasN k else []
theorem hasL_ok (k:Int):F24 k=some ((hasL k).map litN)∧(hasL k).length≤5∧(∀ j ∈ hasL k,j≤10)∧(hasL k).Nodup:=by
 unfold hasL
 by_cases h:1≤k∧k≤12
 ·rw [if_pos h]
  obtain ⟨h1,h2,h3⟩:=has_ok h
  refine ⟨h1,h2,h3,?_⟩
  rcases kinds h with rfl | rfl | rfl | rfl | rfl | rfl | rfl | rfl | rfl | rfl | rfl | rfl<;>decide
 ·rw [if_neg h]
  refine ⟨?_,by simp,fun j hj=>by simp at hj,List.nodup_nil⟩
  rw [F24_eq]
  have e:∀ c:Int,1≤c→c≤12→(k==c)=false:=by
   intro c h1 h2
   rw [beq_eq_false_iff_ne]; omega
  simp only [e 1 (by omega) (by omega),e 2 (by omega) (by omega),e 3 (by omega) (by omega),e 4 (by omega) (by omega),e 5 (by omega) (by omega),e 6 (by omega) (by omega),e 7 (by omega) (by omega),e 8 (by omega) (by omega),e 9 (by omega) (by omega),e 10 (by omega) (by omega),e 11 (by omega) (by omega),e 12 (by omega) (by omega),cond_false,List.map_nil]
abbrev SmR (x:Int):Prop:=0≤x∧x≤1048576
theorem head_rd {s:ByteArray} (hs:FitS s) :
  ∃ (k fr to:Int) (a:Nat) (ok:Bool),a≤s.size∧(∃ r1 r2,rSmall (s,((0:Nat):Int),true)=some (k,r1)∧rSmall r1=some (fr,r2)∧rSmall r2=some (to,s,((a:Nat):Int),ok)) ∧
   ((ok=true∧SmR k∧SmR fr∧SmR to∧s.toList=(numU k++(numU fr++numU to))++dr s a)∨(ok=false∧∀ (k fr to:Int) r,SmR k→SmR fr→SmR to→s.toList≠(numU k++(numU fr++numU to))++r)):=by
 have en:∀ (k fr to:Int) (r:List UInt8),(numU k++(numU fr++numU to))++r=numU k++(numU fr++(numU to++r)):=by
  intro k fr to r; simp only [List.append_assoc]
 have d0:s.toList=dr s 0:=rfl
 rcases small_rd hs (a:=0) (Nat.zero_le _) with ⟨k,a1,hk,h1,h2,h3⟩ | ⟨h1,a1,h2,h3⟩
 ·rcases small_rd hs h1 with ⟨fr,a2,hf,k1,k2,k3⟩ | ⟨k1,a2,k2,k3⟩
  ·rcases small_rd hs k1 with ⟨to,a3,ht,l1,l2,l3⟩ | ⟨l1,a3,l2,l3⟩
   ·exact ⟨k,fr,to,a3,true,l1,⟨_,_,h3 true,k3 true,l3 true⟩,.inl ⟨rfl,hk,hf,ht,by rw [en,d0,h2,k2,l2]⟩⟩
   ·refine ⟨k,fr,0,a3,false,l2,⟨_,_,h3 true,k3 true,l3 true⟩,.inr ⟨rfl,fun k' fr' to' r p q t he=>?_⟩⟩
    rw [en,d0,h2] at he
    obtain ⟨_,he⟩:=numU_pre hk.1 p.1 he
    rw [k2] at he
    obtain ⟨_,he⟩:=numU_pre hf.1 q.1 he
    exact l1 _ _ t he
  ·rcases small_rd hs k2 with ⟨to,a3,ht,l1,l2,l3⟩ | ⟨l1,a3,l2,l3⟩
   ·refine ⟨k,0,to,a3,false,l1,⟨_,_,h3 true,k3 true,l3 false⟩,.inr ⟨rfl,fun k' fr' to' r p q t he=>?_⟩⟩
    rw [en,d0,h2] at he
    obtain ⟨_,he⟩:=numU_pre hk.1 p.1 he
    exact k1 _ _ q he
   ·refine ⟨k,0,0,a3,false,l2,⟨_,_,h3 true,k3 true,l3 false⟩,.inr ⟨rfl,fun k' fr' to' r p q t he=>?_⟩⟩
    rw [en,d0,h2] at he
    obtain ⟨_,he⟩:=numU_pre hk.1 p.1 he
    exact k1 _ _ q he
 ·have bad:∀ (k fr to:Int) r,SmR k→SmR fr→SmR to→s.toList≠(numU k++(numU fr++numU to))++r:=by
   intro k fr to r p q t he
   rw [en] at he
   exact h1 _ _ p he
  rcases small_rd hs h2 with ⟨fr,a2,hf,k1,k2,k3⟩ | ⟨k1,a2,k2,k3⟩
  ·rcases small_rd hs k1 with ⟨to,a3,ht,l1,l2,l3⟩ | ⟨l1,a3,l2,l3⟩
   ·exact ⟨0,fr,to,a3,false,l1,⟨_,_,h3 true,k3 false,l3 false⟩,.inr ⟨rfl,bad⟩⟩
   ·exact ⟨0,fr,0,a3,false,l2,⟨_,_,h3 true,k3 false,l3 false⟩,.inr ⟨rfl,bad⟩⟩
  ·rcases small_rd hs k2 with ⟨to,a3,ht,l1,l2,l3⟩ | ⟨l1,a3,l2,l3⟩
   ·exact ⟨0,0,to,a3,false,l1,⟨_,_,h3 true,k3 false,l3 false⟩,.inr ⟨rfl,bad⟩⟩
   ·exact ⟨0,0,0,a3,false,l2,⟨_,_,h3 true,k3 false,l3 false⟩,.inr ⟨rfl,bad⟩⟩
theorem Rng_zero (j:Nat):Rng zeroM j:=by
 match j with
 | 0 | 1 | 2 | 3=>exact ⟨by decide,by decide⟩
 | 4 | 8=>exact ⟨by decide,by decide⟩
 | 5=>exact ⟨⟨by decide,by decide⟩,by decide,by decide⟩
 | 6=>exact ⟨by decide,fun x hx=>by simp [zeroM] at hx⟩
 | 7=>exact ⟨by decide,fun x hx=>by simp [zeroM] at hx⟩
 | 9=>show (ByteArray.mk #[]).size≤200; decide
 | j+10=>trivial
theorem giv_of_rng {m:MB} (h:∀ j,j≤10→Rng m j):Giv m :=
 ⟨h 0 (by omega),(h 5 (by omega)).1,fun x hx=>((h 6 (by omega)).2 x hx).2.1,fun x hx=>((h 7 (by omega)).2 x hx).1,h 1 (by omega),h 2 (by omega),h 3 (by omega)⟩
theorem rng_of {m:MB} (g:Giv m) (h:May m) (j:Nat):Rng m j:=by
 match j with
 | 0=>exact g.sq
 | 1=>exact g.ep
 | 2=>exact g.bo
 | 3=>exact g.tn
 | 4=>exact ⟨h.rwh.1,by have:=h.rwh; omega⟩
 | 5=>exact ⟨g.ki,h.rks.1,by have:=h.rks; omega⟩
 | 6=>exact ⟨h.rnw.1,fun x hx=>⟨⟨(h.rnw.2 x hx).1.1,by have:=(h.rnw.2 x hx).1; omega⟩,g.nw x hx,(h.rnw.2 x hx).2.1,by have:=(h.rnw.2 x hx).2; omega⟩⟩
 | 7=>exact ⟨h.rtb.1,fun x hx=>⟨g.tb x hx,(h.rtb.2 x hx).1,by have:=h.rtb.2 x hx; omega⟩⟩
 | 8=>exact ⟨h.rak.1,by have:=h.rak; omega⟩
 | 9=>show _≤200; have:=h.rtk; omega
 | j+10=>trivial
theorem all_fEq {m n:MB} (h0:m.1=n.1∧m.2.1=n.2.1∧m.2.2.1=n.2.2.1) (h:∀ j,j≤10→fEq m n j):m=n:=by
 obtain ⟨k,fr,to,sq,wh,ki,ks,nw,tb,ep,bo,ak,tk,tn,gd⟩:=m
 obtain ⟨k',fr',to',sq',wh',ki',ks',nw',tb',ep',bo',ak',tk',tn',gd'⟩:=n
 obtain ⟨a1,a2,a3⟩:=h0
 have e0:=h 0 (by omega)
 have e1:=h 1 (by omega)
 have e2:=h 2 (by omega)
 have e3:=h 3 (by omega)
 have e4:=h 4 (by omega)
 have e5:=h 5 (by omega)
 have e6:=h 6 (by omega)
 have e7:=h 7 (by omega)
 have e8:=h 8 (by omega)
 have e9:=h 9 (by omega)
 have e10:=h 10 (by omega)
 simp only [fEq] at a1 a2 a3 e0 e1 e2 e3 e4 e5 e6 e7 e8 e9 e10
 have e9:=toList_inj e9
 subst a1 a2 a3 e0 e1 e2 e3 e4 e6 e7 e8 e9 e10
 obtain ⟨rfl,rfl⟩:=e5
 rfl
theorem may_zero {m:MB} (h:May m) {j:Nat} (hj:j≤10) (hn:j ∉ hasN m.1):fEq m zeroM j:=by
 obtain ⟨i0,i1,i2,i3,i4,i5,i6,i7,i8,i8',i9⟩:=in_has h.k
 have no:∀ {b:Bool} {n:Nat},(b=true→n ∈ hasN m.1)→n ∉ hasN m.1→b=false:=by
  intro b n f g
  cases b
  ·rfl
  ·exact absurd (f rfl) g
 rcases le10 hj with rfl | rfl | rfl | rfl | rfl | rfl | rfl | rfl | rfl | rfl | rfl
 ·exact h.sq (no i0 hn)
 ·exact h.ep (no i5 hn)
 ·exact h.bo (no i6 hn)
 ·exact h.tn (no i8' hn)
 ·exact h.wh (no i1 hn)
 ·exact ⟨h.ki (no i2 hn),h.ks (no i2 hn)⟩
 ·exact h.nw (no i3 hn)
 ·exact h.tb (no i4 hn)
 ·exact h.ak (no i7 hn)
 ·show m.2.2.2.2.2.2.2.2.2.2.2.2.1.toList=(ByteArray.mk #[]).toList
  rw [h.tk (no i8 hn),toList_data]
 ·exact h.gd (no i9 hn)
theorem lay_full {m:MB}:((lay m).1.1,(lay m).1.2.1,(lay m).1.2.2.1,(lay m).1.2.2.2.1,(lay m).1.2.2.2.2.1,(lay m).1.2.2.2.2.2.1,(lay m).1.2.2.2.2.2.2.1,(List.take (lay m).2.1.length (lay m).2.1),(List.take (lay m).2.2.length (lay m).2.2),(lay m).1.2.2.2.2.2.2.2.1,(lay m).1.2.2.2.2.2.2.2.2.1,(lay m).1.2.2.2.2.2.2.2.2.2.1,(lay m).1.2.2.2.2.2.2.2.2.2.2.1,(lay m).1.2.2.2.2.2.2.2.2.2.2.2.1,(lay m).1.2.2.2.2.2.2.2.2.2.2.2.2)=m:=by
 obtain ⟨k,fr,to,sq,wh,ki,ks,nw,tb,ep,bo,ak,tk,tn,gd⟩:=m
 simp only [lay,List.take_length]
theorem F18_ok {s:ByteArray} (hs:FitS s) :
  ((openE s.toList).2≠0→F18 s=some (zeroM,(openE s.toList).2)) ∧
  ((openE s.toList).2=0→(∃ m:MB,Giv m∧msgB m=true∧(openE s.toList).1=bodO m∧F18 s=some (m,0))∨((∀ m:MB,Giv m→msgB m=true→(openE s.toList).1≠bodO m)∧F18 s=some (zeroM,2))):=by
 have f38:=F38_ok hs
 constructor
 ·intro h
  rw [F18_r,f38]
  have q:((openE s.toList).2 != 0)=true:=by simpa using h
  simp only [Option.bind_some,q,cond_true]
  rfl
 ·intro h
  rw [h] at f38
  have hl:=toList_len s
  have hlen:(openE s.toList).1.length≤s.size:=by
   unfold openE
   split
   ·simp
   ·split
    ·simp
    ·split
     ·rw [List.length_take]; omega
     ·simp
  generalize (openE s.toList).1=l at *
  have hb:FitS (mkB l):=by
   show (mkB l).size≤_
   rw [mkB_size]
   have:s.size≤_:=hs
   omega
  obtain ⟨k,fr,to,a,ok,ha,⟨r1,r2,g1,g2,g3⟩,hh⟩:=head_rd hb
  obtain ⟨hk1,hk2,hk3,hk4⟩:=hasL_ok k
  obtain ⟨a',ok',m',e1,e2,e3,⟨e4,e5,e6⟩,e7,e8,e9⟩:=loop_rd (L:=hasL k) hb (by omega) hk3 (hasL k).length 0 a ok (k,fr,to,0,0,0,0,[],[],0,0,0,ByteArray.mk #[],0,false) (by omega) hk4 ha ⟨Nat.zero_le _,Nat.zero_le _,by show (ByteArray.mk #[]).size≤200; decide⟩ (fun j hj=>by
   match j with
   | 0 | 1 | 2 | 3 | 4 | 6 | 7 | 8 | 9=>rfl
   | 5=>exact ⟨rfl,rfl⟩
   | j+10=>rfl)
  rw [Int.natCast_zero] at g1
  unfold rS at e1
  rw [Int.natCast_zero] at e1
  have z0:∀ j,j≤10→j ∉ hasL k→fEq m' zeroM j:=fun j h1 h2=>by
   refine fEq_trans (e7 j h1 h2) ?_
   rcases le10 h1 with rfl | rfl | rfl | rfl | rfl | rfl | rfl | rfl | rfl | rfl | rfl<;>first | exact rfl | exact ⟨rfl,rfl⟩
  have c:=check_ok m' (by have:=e3.nw; omega) (by have:=e3.tb; omega) (by have:=e3.tk; unfold maxLen; omega)
  have e1L:loopX (rBod (List.map litN (hasL k))) ((0:Int),(mkB l,((a:Nat):Int),ok),(k,fr,to,0,0,0,0,0,0,0,ByteArray.mk #[],0,false),[],[])=some ((mkB l,((a':Nat):Int),ok'),lay m'):=e1
  clear e1
  have ln:∀ n:Nat,0+n≤n:=fun n=>by omega
  have hsz:(mkB l).toList.length=(mkB l).size:=toList_len _
  have hv:F18 s=some (if ok'=true∧a'=(mkB l).size∧msgB m'=true then (m',0) else (zeroM,2)):=by
   rw [F18_r,f38]
   simp only [Option.bind_some,nz0,cond_false,g1,g2,g3,hk1,e1L,ln,decide_true,cond_true,lay_full,c]
   cases ok'
   ·rfl
   ·by_cases q:a'=(mkB l).size
    ·have q1:((((a':Nat):Int)) != (((mkB l).size:Nat):Int))=false:=by rw [q]; simp
     rw [q1]
     cases hm:msgB m'
     ·have e:¬ (true=true∧a'=(mkB l).size∧false=true):=fun h=>by simp at h
      rw [if_neg e]; rfl
     ·have e:true=true∧a'=(mkB l).size∧true=true:=⟨rfl,q,rfl⟩
      rw [if_pos e]; rfl
    ·have q1:((((a':Nat):Int)) != (((mkB l).size:Nat):Int))=true:=by rw [bne_iff_ne]; omega
     have e:¬ (true=true∧a'=(mkB l).size∧msgB m'=true):=fun h=>q h.2.1
     rw [q1,if_neg e]; rfl
  rw [hv]
  rw [mkB_toList] at hh
  have hz:∀ x:MB,bodO x=(numU x.1++(numU x.2.1++numU x.2.2.1))++(hasN x.1).flatMap (pN x):=fun x=>rfl
  have hkk:∀ x:MB,May x→hasN x.1=hasL x.1:=fun x hx=>by unfold hasL; rw [if_pos hx.k]
  have sm:∀ x:MB,May x→SmR x.1∧SmR x.2.1∧SmR x.2.2.1:=fun x hx=>by
   have h1:=hx.k
   have h2:=hx.fr
   have h3:=hx.to
   refine ⟨⟨?_,?_⟩,⟨?_,?_⟩,⟨?_,?_⟩⟩<;>omega
  simp only [List.drop_zero] at e9
  rcases hh with ⟨rfl,p1,p2,p3,p4⟩ | ⟨rfl,p1⟩
  ·rcases e9 with ⟨rfl,b1,b2⟩ | ⟨b1,b2⟩
   ·have rng:∀ j,j≤10→Rng m' j:=fun j hj=>by
     by_cases hin:j ∈ hasL k
     ·exact b1 j hin
     ·exact Rng_congr (z0 j hj hin) (Rng_zero j)
    by_cases hsz':a'=(mkB l).size
    ·have hd:dr (mkB l) a'=[]:=List.drop_eq_nil_of_le (by rw [hsz,hsz']; exact Nat.le_refl _)
     rw [hd,List.append_nil] at b2
     rw [b2] at p4
     cases hm:msgB m'
     ·right
      refine ⟨fun x gx mx he=>?_,by rw [if_neg (fun h=>by simp at h)]⟩
      have hx:=may_of mx
      rw [p4,hz] at he
      obtain ⟨s1,s2,s3⟩:=sm x hx
      simp only [List.append_assoc] at he
      obtain ⟨t1,he⟩:=numU_pre p1.1 s1.1 he
      obtain ⟨t2,he⟩:=numU_pre p2.1 s2.1 he
      obtain ⟨t3,he⟩:=numU_pre p3.1 s3.1 he
      rw [hkk x hx,← t1] at he
      obtain ⟨he,_⟩:=rng_pres (r:=[]) (s:=[]) b1 (fun j _=>rng_of gx hx j) (by rw [List.append_nil,List.append_nil]; exact he)
      have:m'=x:=all_fEq ⟨e4.trans t1,e5.trans t2,e6.trans t3⟩ (fun j hj=>by
       by_cases hin:j ∈ hasL k
       ·exact he j hin
       ·refine fEq_trans (z0 j hj hin) (fEq_symm (may_zero hx hj ?_))
        rw [hkk x hx,← t1]; exact hin)
      rw [this,mx] at hm
      cases hm
     ·left
      refine ⟨m',giv_of_rng rng,hm,?_,by rw [if_pos ⟨rfl,hsz',rfl⟩]⟩
      rw [hz,hkk m' (may_of hm),p4]
      have e4:m'.1=k:=e4
      have e5:m'.2.1=fr:=e5
      have e6:m'.2.2.1=to:=e6
      rw [e4,e5,e6]
    ·right
     refine ⟨fun x gx mx he=>?_,by rw [if_neg (fun h=>hsz' h.2.1)]⟩
     have hx:=may_of mx
     rw [p4,b2,hz] at he
     obtain ⟨s1,s2,s3⟩:=sm x hx
     simp only [List.append_assoc] at he
     obtain ⟨t1,he⟩:=numU_pre p1.1 s1.1 he
     obtain ⟨t2,he⟩:=numU_pre p2.1 s2.1 he
     obtain ⟨t3,he⟩:=numU_pre p3.1 s3.1 he
     rw [hkk x hx,← t1] at he
     obtain ⟨_,he⟩:=rng_pres (r:=dr (mkB l) a') (s:=[]) b1 (fun j _=>rng_of gx hx j) (by rw [List.append_nil]; exact he)
     have:=congrArg List.length he
     rw [List.length_drop,hsz] at this
     simp only [List.length_nil] at this
     omega
   ·right
    refine ⟨fun x gx mx he=>?_,?_⟩
    ·have hx:=may_of mx
     rw [p4,hz] at he
     obtain ⟨s1,s2,s3⟩:=sm x hx
     simp only [List.append_assoc] at he
     obtain ⟨t1,he⟩:=numU_pre p1.1 s1.1 he
     obtain ⟨t2,he⟩:=numU_pre p2.1 s2.1 he
     obtain ⟨t3,he⟩:=numU_pre p3.1 s3.1 he
     rw [hkk x hx,← t1] at he
     exact b1 x [] (fun j _=>rng_of gx hx j) (by rw [List.append_nil]; exact he)
    ·rw [if_neg]
     rintro ⟨h1,h2,h3⟩
     rcases b2 with b2 | b2
     ·rw [b2] at h1; cases h1
     ·have:=(may_of h3).rak; omega
  ·right
   refine ⟨fun x gx mx he=>?_,by rw [e8 rfl,if_neg (fun h=>by simp at h)]⟩
   have hx:=may_of mx
   obtain ⟨s1,s2,s3⟩:=sm x hx
   rw [hz] at he
   exact p1 _ _ _ _ s1 s2 s3 he
end Go.Proofs.Ytgbcankkfmhcoaa.VL
end
section
namespace Go.Proofs.Ytgbcankkfmhcoaa.VL
open Go
set_option linter.unusedVariables false
set_option linter.unusedSectionVars false
set_option linter.unusedSimpArgs false
set_option maxRecDepth 100000
variable [Val]
theorem bod_len {m:MB} (g:Giv m) (hm:msgB m=true):(bodO m).length≤1600:=by
 have h:=may_of hm
 have hP:=parO_len g h
 have a:=numU_len (x:=m.1) (by have:=h.k; omega)
 have b:=numU_len (x:=m.2.1) (by have:=h.fr; omega)
 have d:=numU_len (x:=m.2.2.1) (by have:=h.to; omega)
 unfold bodO heaO
 rw [List.length_append,List.length_append,List.length_append]; omega
theorem open_txt {m:MB} (g:Giv m) (hm:msgB m=true):openE (txtO m)=(bodO m,0):=by
 have hl:=bod_len g hm
 unfold txtO openE
 have h4:(four (crc (bodO m))).length=4:=rfl
 have e:(bodO m++four (crc (bodO m))).length - 4=(bodO m).length:=by rw [List.length_append]; omega
 rw [if_neg (by rw [List.length_append]; omega),if_neg (by rw [List.length_append]; omega),e,List.drop_left,List.take_left,if_pos rfl]
theorem bod_inj {m n:MB} (g:Giv m) (hm:msgB m=true) (g':Giv n) (hn:msgB n=true) (h:bodO m=bodO n):m=n :=
 same_eq (txt_same g (may_of hm) g' (may_of hn) (by unfold txtO; rw [h]))
theorem read_ok {m:MB} (g:Giv m) (hm:msgB m=true):F18 (mkB (txtO m))=some (m,0):=by
 have hl:=bod_len g hm
 have hs:FitS (mkB (txtO m)):=by
  show (mkB (txtO m)).size≤_
  rw [mkB_size]
  unfold txtO
  have h4:(four (crc (bodO m))).length=4:=rfl
  rw [List.length_append]; omega
 obtain ⟨_,h2⟩:=F18_ok hs
 rw [mkB_toList,open_txt g hm] at h2
 rcases h2 rfl with ⟨n,gn,hn,e,h3⟩ | ⟨h3,_⟩
 ·obtain rfl:=bod_inj g hm gn hn e
  exact h3
 ·exact absurd rfl (h3 m g hm)
theorem sameB_refl (m:MB):sameB m m=true:=by
 unfold sameB
 simp
theorem rsame_refl (m:MB) (hw:m.2.2.2.2.2.2.2.1.length≤1000) (ht:m.2.2.2.2.2.2.2.2.1.length≤1000):F14 (m,m)=some true:=by
 rw [rsame_eq,same_ok m m hw ht,sameB_refl]
end Go.Proofs.Ytgbcankkfmhcoaa.VL
end
section
namespace Go.Proofs.Ytgbcankkfmhcoaa.VL
open Go
set_option linter.unusedVariables false
set_option linter.unusedSectionVars false
set_option linter.unusedSimpArgs false
set_option maxRecDepth 100000
variable [Val]
theorem bI_cong {x y:Int} (h:x.toNat % 256=y.toNat % 256):bI x=bI y:=UInt8.toNat_inj.1 (by rw [bI_toNat,bI_toNat,h])
theorem G42_eq (F:Int→Option ByteArray) (v:Int):G42 F v=cond (decide (v < (128:Int))) (some (mkB [bI (IntKind.wrap .u8 v)])) (Option.bind (F (IntKind.wrap .u64 (Int.tdiv v (128:Int)))) (fun r=>cond (decide ((mkB [bI (IntKind.wrap .u8 (IntKind.wrap .u64 ((Int.tmod v (128:Int))+(128:Int))))]).size+r.size≤4611686018427387904)) (some (mkB [bI (IntKind.wrap .u8 (IntKind.wrap .u64 ((Int.tmod v (128:Int))+(128:Int))))]++r)) none)):=by kernel_rfl
theorem K42_ok:∀ (k n:Nat),n < 128 ^ (k+1)→n < 18446744073709551616→K42 (k+1) ((n:Nat):Int)=some (mkB ((numZ n).map bI))∧((numZ n).map bI).length≤k+1
 | k,n,h,h2=>by
  have tdv:Int.tdiv ((n:Nat):Int) 128=((n / 128:Nat):Int):=by rw [Int.tdiv_eq_ediv_of_nonneg (by omega)]; omega
  have tmd:Int.tmod ((n:Nat):Int) 128=((n % 128:Nat):Int):=by rw [Int.tmod_eq_emod_of_nonneg (by omega)]; omega
  rw [K42,G42_eq,tdv,tmd,wu (x:=((n / 128:Nat):Int)) (by omega) (by omega),wu (x:=((n % 128:Nat):Int)+128) (by omega) (by omega)]
  by_cases hn:n≤127
  ·have q:decide (((n:Nat):Int) < 128)=true:=decide_eq_true (by omega)
   rw [q]
   have e:numZ n=[((n:Nat):Int)]:=by unfold numZ; rw [hiZ_small hn,loZ_small hn]; rfl
   rw [e]
   refine ⟨?_,by simp⟩
   show some (mkB [bI _])=some (mkB [bI _])
   rw [bI_cong (y:=((n:Nat):Int)) (by rw [IntKind.wrap_u8]; omega)]
  ·have q:decide (((n:Nat):Int) < 128)=false:=decide_eq_false (by omega)
   rw [q]
   match k with
   | 0=>omega
   | k+1 =>
    have hd:n / 128 < 128 ^ (k+1):=by
     have:(128:Nat) ^ (k+1+1)=128 ^ (k+1) * 128:=Nat.pow_succ ..
     omega
    obtain ⟨i1,i2⟩:=K42_ok k (n / 128) hd (by omega)
    have e:numZ n=((128+n % 128:Nat):Int)::numZ (n / 128):=by unfold numZ; rw [hiZ_big hn,loZ_big hn]; rfl
    have eb:bI (IntKind.wrap .u8 (((n % 128:Nat):Int)+128))=bI ((128+n % 128:Nat):Int):=bI_cong (by rw [IntKind.wrap_u8]; omega)
    rw [i1,e,eb]
    have hk:k≤18446744073709551616∨¬ k≤18446744073709551616:=Decidable.em _
    have i3:((numZ (n / 128)).map bI).length≤12:=by
     have:=numU_len (x:=((n / 128:Nat):Int)) (by omega)
     unfold numU at this
     rw [Int.toNat_natCast] at this
     omega
    have q2:decide ((mkB [bI ((128+n % 128:Nat):Int)]).size+(mkB ((numZ (n / 128)).map bI)).size≤4611686018427387904)=true:=decide_eq_true (by rw [mkB_size,mkB_size,List.length_singleton]; omega)
    refine ⟨?_,by rw [List.map_cons,List.length_cons]; omega⟩
    simp only [cond_false,Option.bind_some,q2,cond_true,mkB_app,List.map_cons,List.singleton_append]
theorem F42_ok {x:Int} (h:U64 x):F42 x=some (mkB (numU x)):=by
 obtain ⟨n,rfl⟩:∃ n:Nat,x=n:=⟨x.toNat,by have:=h.1; omega⟩
 have:=(K42_ok 11 n (by have:=h.2; have e:(128:Nat) ^ (11+1)=19342813113834066795298816:=(by decide); omega) (by have:=h.2; omega)).1
 unfold numU
 rw [Int.toNat_natCast]
 exact this
theorem numsU_len {l:List Int} (hr:∀ x ∈ l,U64 x):(numsU l).length≤10 * l.length:=flat_len10 (fun x hx=>numU_len (hr x hx).2)
theorem F40_ok {l:List Int} (hl:l.length≤900) (hr:∀ x ∈ l,U64 x):F40 l=some (mkB (numsU l)):=by
 rw [F40_eq]
 rw [loop_detE (s0:=(ByteArray.mk #[],(0:Int))) l.length (fun i=>(mkB (numsU (l.take i)),((i:Nat):Int))) (mkB (numsU l)) rfl]
 ·have q:¬ ((l.length:Nat):Int) < ((l.length:Nat):Int):=by omega
  simp -implicitDefEqProofs only [q,List.take_length,eq_self,xs]
 ·intro i hi
  have q1:((i:Nat):Int) < ((l.length:Nat):Int):=by omega
  have q2:(0:Int)≤(i:Int):=by omega
  have g:=List.getElem?_eq_getElem hi
  have hx:=hr l[i] (List.getElem_mem hi)
  have hb:=numsU_len (l:=l.take i) (fun x hx=>hr x (List.mem_of_mem_take hx))
  have tk:numsU (l.take (i+1))=numsU (l.take i)++numU l[i]:=by
   unfold numsU
   rw [List.take_succ_eq_append_getElem hi,List.flatMap_append]; simp
  have h10:=numU_len hx.2
  rw [List.length_take] at hb
  have q3:(mkB (numsU (l.take i))).size+(mkB (numU l[i])).size≤4611686018427387904:=by rw [mkB_size,mkB_size]; omega
  rw [tk]
  simp -implicitDefEqProofs only [q1,q2,g,F42_ok hx,q3,w1 (show i≤9223372036854775806 by omega),mkB_app,eq_self,xs]
theorem F41_ok {t:ByteArray} (h:t.size≤200):F41 t=some (mkB (numU ((t.size:Nat):Int)++t.toList)):=by
 rw [F41_eq]
 have u:U64 ((t.size:Nat):Int):=⟨by omega,by omega⟩
 rw [uw u,F42_ok u]
 have l1:=numU_len u.2
 have q3:(mkB (numU ((t.size:Nat):Int))).size+t.size≤4611686018427387904:=by rw [mkB_size]; omega
 simp -implicitDefEqProofs only [q3,eq_self,xs]
 rw [← mkB_app,mkB_of]
end Go.Proofs.Ytgbcankkfmhcoaa.VL
end
section
namespace Go.Proofs.Ytgbcankkfmhcoaa.VL
open Go
set_option linter.unusedVariables false
set_option linter.unusedSectionVars false
set_option linter.unusedSimpArgs false
set_option maxRecDepth 100000
variable [Val]
def r1 (x:BitVec 32):BitVec 32:=(x >>> 1) ^^^ (if x.getLsbD 0=true then 3988292384#32 else 0#32)
def rN:Nat→BitVec 32→BitVec 32
 | 0,x=>x
 | k+1,x=>r1 (rN k x)
theorem rN_in:∀ (k:Nat) (x:BitVec 32),rN (k+1) x=rN k (r1 x)
 | 0,x=>rfl
 | k+1,x=>by rw [rN,rN_in k x]; rfl
theorem r1_xor (x y:BitVec 32):r1 (x ^^^ y)=r1 x ^^^ r1 y:=by
 unfold r1
 rw [BitVec.ushiftRight_xor_distrib,BitVec.getLsbD_xor]
 apply BitVec.eq_of_getLsbD_eq
 intro i hi
 cases x.getLsbD 0<;>cases y.getLsbD 0<;>simp only [BitVec.getLsbD_xor,Bool.xor_false,Bool.xor_true,Bool.not_false,Bool.not_true,Bool.false_eq_true,if_true,if_false,BitVec.getLsbD_zero]
 all_goals (cases (x >>> 1).getLsbD i<;>cases (y >>> 1).getLsbD i<;>cases (3988292384#32).getLsbD i<;>rfl)
theorem rN_xor:∀ (k:Nat) (x y:BitVec 32),rN k (x ^^^ y)=rN k x ^^^ rN k y
 | 0,x,y=>rfl
 | k+1,x,y=>by rw [rN,rN_xor k,r1_xor]; rfl
theorem bvo (x:BitVec 32):BitVec.ofInt 32 ((x.toNat:Nat):Int)=x:=by
 rw [BitVec.ofInt_natCast,BitVec.ofNat_toNat,BitVec.setWidth_eq]
theorem bvn {n:Nat} (h:n < 4294967296):(BitVec.ofInt 32 ((n:Nat):Int)).toNat=n:=by
 rw [BitVec.ofInt_natCast,BitVec.toNat_ofNat]; omega
theorem w32 {n:Nat} (h:n < 4294967296):IntKind.wrap .u32 ((n:Nat):Int)=((n:Nat):Int):=by rw [IntKind.wrap_u32]; omega
theorem shr1 (x:BitVec 32):BitVec.ofInt 32 ((x.toNat / 2:Nat):Int)=x >>> 1:=by
 apply BitVec.eq_of_toNat_eq
 rw [bvn (by have:=x.isLt; omega),BitVec.toNat_ushiftRight,Nat.shiftRight_eq_div_pow]
theorem shr8 (x:BitVec 32):BitVec.ofInt 32 ((x.toNat / 256:Nat):Int)=x >>> 8:=by
 apply BitVec.eq_of_toNat_eq
 rw [bvn (by have:=x.isLt; omega),BitVec.toNat_ushiftRight,Nat.shiftRight_eq_div_pow]
theorem low (x:BitVec 32):x.getLsbD 0=decide (x.toNat % 2=1):=by
 rw [BitVec.getLsbD,Nat.testBit_zero]
theorem rnd1_bv (x:BitVec 32):rnd1 ((x.toNat:Nat):Int)=(((r1 x).toNat:Nat):Int):=by
 have hx:=x.isLt
 have e1:Int.fdiv ((x.toNat:Nat):Int) 2=((x.toNat / 2:Nat):Int):=by rw [Int.fdiv_eq_ediv_of_nonneg _ (by omega)]; omega
 have e2:((BitVec.ofInt 32 ((x.toNat:Nat):Int)).and (BitVec.ofInt 32 1)).toNat=x.toNat % 2:=by
  rw [bvo]
  show (x &&& _).toNat=_
  rw [BitVec.toNat_and]
  show x.toNat &&& 1=_
  exact Nat.and_one_is_mod _
 unfold rnd1 r1
 rw [e1,e2,shr1,low]
 have hr:=((x >>> 1) ^^^ 3988292384#32).isLt
 have hs:=(x >>> 1).isLt
 rcases Nat.mod_two_eq_zero_or_one x.toNat with h | h
 ·rw [h,if_neg (by simp)]
  have e:BitVec.ofInt 32 (IntKind.wrap .u32 (3988292384 * IntKind.wrap .u32 ((0:Nat):Int)))=0#32:=by decide
  rw [e]
  show IntKind.wrap .u32 (((x >>> 1) ^^^ 0#32).toNat:Nat)=_
  rw [BitVec.xor_zero,w32 hs]
 ·rw [h,if_pos (by simp)]
  have e:BitVec.ofInt 32 (IntKind.wrap .u32 (3988292384 * IntKind.wrap .u32 ((1:Nat):Int)))=3988292384#32:=by decide
  rw [e]
  show IntKind.wrap .u32 (((x >>> 1) ^^^ 3988292384#32).toNat:Nat)=_
  rw [w32 hr]
theorem rnds_bv (x:BitVec 32):∀ k,rnds k ((x.toNat:Nat):Int)=(((rN k x).toNat:Nat):Int)
 | 0=>rfl
 | k+1=>by rw [rnds,rnds_bv x k,rnd1_bv]; rfl
theorem tv_bv {i:Nat} (h:i < 256):tv i=(((rN 8 (BitVec.ofNat 32 i)).toNat:Nat):Int):=by
 unfold tv
 have e:IntKind.wrap .u32 ((i:Nat):Int)=(((BitVec.ofNat 32 i).toNat:Nat):Int):=by
  rw [w32 (by omega),BitVec.toNat_ofNat]; omega
 rw [e,rnds_bv]
def sB (x:BitVec 32) (b:UInt8):BitVec 32:=rN 8 (x ^^^ BitVec.ofNat 32 b.toNat)
theorem r1_shl (y:BitVec 32) (k:Nat) (hk:k < 8) (hy:y.toNat < 16777216):r1 (y <<< (k+1))=y <<< k:=by
 unfold r1
 have h0:(y <<< (k+1)).getLsbD 0=false:=by rw [BitVec.getLsbD_shiftLeft]; simp
 rw [h0,if_neg (by simp),BitVec.xor_zero]
 apply BitVec.eq_of_toNat_eq
 rw [BitVec.toNat_ushiftRight,BitVec.toNat_shiftLeft,BitVec.toNat_shiftLeft,Nat.shiftRight_eq_div_pow,Nat.shiftLeft_eq,Nat.shiftLeft_eq]
 rcases (by omega:k=0∨k=1∨k=2∨k=3∨k=4∨k=5∨k=6∨k=7) with rfl | rfl | rfl | rfl | rfl | rfl | rfl | rfl<;>omega
theorem rN_shl (y:BitVec 32) (hy:y.toNat < 16777216):∀ k,k≤8→rN k (y <<< k)=y
 | 0,_=>by rw [rN]; exact BitVec.shiftLeft_zero y
 | k+1,h=>by rw [rN_in,r1_shl y k (by omega) hy]; exact rN_shl y hy k (by omega)
theorem idx_bv (x:BitVec 32) (b:UInt8):∃ n:Nat,idxC ((x.toNat:Nat):Int) b=((n:Nat):Int)∧n < 256∧x ^^^ BitVec.ofNat 32 b.toNat=((x >>> 8) <<< 8) ^^^ BitVec.ofNat 32 n:=by
 have hb:=b.toNat_lt
 refine ⟨(x.toNat % 256) ^^^ b.toNat,?_,Nat.xor_lt_two_pow (n:=8) (by omega) (by omega),?_⟩
 ·unfold idxC
  have e1:BitVec.ofInt 8 (IntKind.wrap .u8 ((x.toNat:Nat):Int))=BitVec.ofNat 8 (x.toNat % 256):=by
   rw [w8,BitVec.ofInt_natCast]
  have e2:(BitVec.ofInt 8 ((b.toNat:Nat):Int))=BitVec.ofNat 8 b.toNat:=BitVec.ofInt_natCast ..
  rw [e1,e2]
  show IntKind.wrap .u8 (((BitVec.ofNat 8 (x.toNat % 256) ^^^ BitVec.ofNat 8 b.toNat).toNat:Nat):Int)=_
  rw [BitVec.toNat_xor,BitVec.toNat_ofNat,BitVec.toNat_ofNat,Nat.mod_eq_of_lt (a:=x.toNat % 256) (by omega),Nat.mod_eq_of_lt (a:=b.toNat) (by omega)]
  have h:=Nat.xor_lt_two_pow (n:=8) (x:=x.toNat % 256) (y:=b.toNat) (by omega) (by omega)
  rw [w8]; omega
 ·apply BitVec.eq_of_getLsbD_eq
  intro i hi
  rw [BitVec.getLsbD_xor,BitVec.getLsbD_xor,BitVec.getLsbD_shiftLeft,BitVec.getLsbD_ushiftRight,BitVec.getLsbD_ofNat,BitVec.getLsbD_ofNat,Nat.testBit_xor]
  have hx:x.getLsbD i=x.toNat.testBit i:=rfl
  have hm:(x.toNat % 256).testBit i=(decide (i < 8)&&x.toNat.testBit i):=Nat.testBit_mod_two_pow _ 8 i
  rw [hx,hm]
  by_cases h8:i < 8
  ·simp [h8,hi]
  ·have hb8:b.toNat.testBit i=false:=Nat.testBit_lt_two_pow (Nat.lt_of_lt_of_le hb (by
    have:(2:Nat) ^ 8≤2 ^ i:=Nat.pow_le_pow_right (by omega) (by omega)
    exact this))
   have e:x.getLsbD (8+(i - 8))=x.toNat.testBit i:=by rw [show 8+(i - 8)=i by omega]; rfl
   simp [h8,hi,hb8,e]
theorem stepC_bv (x:BitVec 32) (b:UInt8):stepC ((x.toNat:Nat):Int) b=(((sB x b).toNat:Nat):Int):=by
 obtain ⟨n,h1,h2,h3⟩:=idx_bv x b
 have hx:=x.isLt
 unfold stepC sB
 have e1:Int.fdiv ((x.toNat:Nat):Int) 256=((x.toNat / 256:Nat):Int):=by rw [Int.fdiv_eq_ediv_of_nonneg _ (by omega)]; omega
 rw [h1,Int.toNat_natCast,tv_bv h2,e1,shr8,bvo,h3,rN_xor,rN_shl (x >>> 8) (by rw [BitVec.toNat_ushiftRight,Nat.shiftRight_eq_div_pow]; omega) 8 (by omega)]
 show IntKind.wrap .u32 ((((x >>> 8) ^^^ rN 8 (BitVec.ofNat 32 n)).toNat:Nat))=_
 rw [w32 (BitVec.isLt _)]
def reg (x:BitVec 32) (l:List UInt8):BitVec 32:=l.foldl sB x
theorem crcL_bv (l:List UInt8):crcL l=(((reg 4294967295#32 l).toNat:Nat):Int):=by
 have key:∀ (l:List UInt8) (x:BitVec 32),l.foldl stepC ((x.toNat:Nat):Int)=(((reg x l).toNat:Nat):Int):=by
  intro l
  induction l with
  | nil=>intro x; rfl
  | cons b r ih=>intro x; rw [List.foldl_cons,stepC_bv,ih]; rfl
 exact key l 4294967295#32
theorem crc_bv (l:List UInt8):crc l=(((~~~ (reg 4294967295#32 l)).toNat:Nat):Int):=by
 unfold crc
 rw [crcL_bv,bvo]
 have e:(BitVec.ofInt 32 4294967295)=BitVec.allOnes 32:=by decide
 rw [e]
 show IntKind.wrap .u32 (((BitVec.allOnes 32 ^^^ reg 4294967295#32 l).toNat:Nat))=_
 rw [BitVec.allOnes_xor,w32 (BitVec.isLt _)]
theorem ba_at' {s:ByteArray} {i:Nat} (h:i < s.size):s[i]?=some (s.toList[i]'(by rw [toList_len]; exact h)):=ba_at (by rw [toList_len]; exact h)
theorem ref_step (x:BitVec 32) {R:Type} (k:Int→Option R):(Option.bind (cond ((Int.tmod ((x.toNat:Nat):Int) (2:Int))==(1:Int)) (some (IntKind.wrap IntKind.u32 (((BitVec.toNat (BitVec.xor (BitVec.ofInt 32 (IntKind.wrap IntKind.u32 (Int.tdiv ((x.toNat:Nat):Int) (2:Int)))) (BitVec.ofInt 32 (3988292384:Int)))):Nat):Int))) (some (IntKind.wrap IntKind.u32 (Int.tdiv ((x.toNat:Nat):Int) (2:Int))))) k)=k (((r1 x).toNat:Nat):Int):=by
 have hx:=x.isLt
 have e1:Int.tdiv ((x.toNat:Nat):Int) 2=((x.toNat / 2:Nat):Int):=by rw [Int.tdiv_eq_ediv_of_nonneg (by omega)]; omega
 have e2:Int.tmod ((x.toNat:Nat):Int) 2=((x.toNat % 2:Nat):Int):=by rw [Int.tmod_eq_emod_of_nonneg (by omega)]; omega
 have hr:=((x >>> 1) ^^^ 3988292384#32).isLt
 rw [e1,e2,w32 (n:=x.toNat / 2) (by omega),shr1]
 unfold r1
 rw [low]
 rcases Nat.mod_two_eq_zero_or_one x.toNat with h | h
 ·rw [h,if_neg (by simp),BitVec.xor_zero,BitVec.toNat_ushiftRight,Nat.shiftRight_eq_div_pow]
  rfl
 ·rw [h,if_pos (by simp)]
  have e:(BitVec.ofInt 32 (3988292384:Int))=3988292384#32:=by decide
  rw [e]
  show Option.bind (some (IntKind.wrap .u32 ((((x >>> 1) ^^^ 3988292384#32).toNat:Nat):Int))) k=_
  rw [w32 hr]; rfl
theorem F83_ok {s:ByteArray} (hs:s.size≤9223372036854775806):F83 s=some (crc s.toList):=by
 have hl:=toList_len s
 rw [F83_eq]
 rw [loop_detE (s0:=((4294967295:Int),(0:Int))) s.size (fun i=>((((reg 4294967295#32 (s.toList.take i)).toNat:Nat):Int),((i:Nat):Int))) (crc s.toList) rfl]
 ·have q:¬ ((s.size:Nat):Int) < ((s.size:Nat):Int):=by omega
  simp -implicitDefEqProofs only [q,eq_self,xs]
  rw [List.take_of_length_le (by omega),crc_bv,BitVec.toNat_not]
  have:=(reg 4294967295#32 s.toList).isLt
  generalize (reg 4294967295#32 s.toList).toNat=n at *
  refine congrArg (fun x:Int=>some (Sum.inr x)) ?_
  rw [IntKind.wrap_u32]
  omega
 ·intro i hi
  have q1:((i:Nat):Int) < ((s.size:Nat):Int):=by omega
  have q2:(0:Int)≤(i:Int):=by omega
  have g:=ba_at' hi
  have e:reg 4294967295#32 (s.toList.take (i+1))=sB (reg 4294967295#32 (s.toList.take i)) (s.toList[i]'(by omega)):=by
   unfold reg
   rw [List.take_succ_eq_append_getElem (by omega),List.foldl_append]; rfl
  rw [e]
  generalize reg 4294967295#32 (s.toList.take i)=x at *
  generalize (s.toList[i]'(by omega))=b at *
  have hb:=b.toNat_lt
  have e3:(IntKind.wrap IntKind.u32 (((BitVec.toNat (BitVec.xor (BitVec.ofInt 32 ((x.toNat:Nat):Int)) (BitVec.ofInt 32 (IntKind.wrap IntKind.u32 (((UInt8.toNat b):Nat):Int))))):Nat):Int))=(((x ^^^ BitVec.ofNat 32 b.toNat).toNat:Nat):Int):=by
   rw [bvo,w32 (n:=b.toNat) (by omega),BitVec.ofInt_natCast]
   show IntKind.wrap .u32 (((x ^^^ BitVec.ofNat 32 b.toNat).toNat:Nat):Int)=_
   exact w32 (BitVec.isLt _)
  simp -implicitDefEqProofs only [q1,q2,g,e3,eq_self,xs]
  rw [loop_detE (s0:=((((x ^^^ BitVec.ofNat 32 b.toNat).toNat:Nat):Int),(0:Int))) 8 (fun k=>((((rN k (x ^^^ BitVec.ofNat 32 b.toNat)).toNat:Nat):Int),((k:Nat):Int))) (((sB x b).toNat:Nat):Int) rfl]
  ·simp -implicitDefEqProofs only [w1 (show i≤9223372036854775806 by omega),eq_self,xs]
  ·have q8:¬ ((8:Nat):Int) < 8:=by omega
   simp -implicitDefEqProofs only [q8,eq_self,xs]
   rfl
  ·intro k hk
   have q8:((k:Nat):Int) < 8:=by omega
   have hw:=w1 (show k≤9223372036854775806 by omega)
   generalize x ^^^ BitVec.ofNat 32 b.toNat=y at *
   have hr:=ref_step (rN k y) (R:=(Int×Int) ⊕ Int) (fun v3=>some (.inl (v3,((k+1:Nat):Int))))
   simp only [q8,hw,decide_true,cond_true]
   exact hr
end Go.Proofs.Ytgbcankkfmhcoaa.VL
end
