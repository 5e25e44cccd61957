import Derived.Test.YticljphbbdnomaaW1Vv
namespace Go.Proofs.Yticljphbbdnomaa.VL
open Go
set_option linter.unusedVariables false
set_option linter.unusedSimpArgs false
set_option linter.unusedSectionVars false
set_option maxRecDepth 100000
variable [Val]
def icIns (sz bytes:Nat) (z:PV) (rr:Nat):ICode:=(.seq (.reg false [⟨(some 6),(.mov (.c (.sl true []))),none⟩]) (.seq (.reg false [⟨(some 10),(.mov (.t 0)),none⟩,⟨(some 11),(.mov (.t 1)),none⟩,⟨(some 12),(.slc sz (.t 10) (some (.t 11)) none none),none⟩]) (.seq (.reg false [⟨(some 13),(.mov (.t 2)),none⟩,⟨(some 14),(.len (.t 13)),none⟩,⟨(some 7),(.mov (.t 14)),none⟩]) (.seq (.seq (.reg false [⟨(some 15),(.mov (.t 7)),none⟩,⟨(some 16),(.bin .eql (.t 15) (.c (.v (.int .i64 0)))),none⟩]) (.cond (.t 16) (.seq (.reg false [⟨(some 17),(.mov (.t 0)),none⟩,⟨(some 6),(.mov (.t 17)),none⟩]) .ret) .skip)) (.seq (.reg false [⟨(some 18),(.mov (.t 0)),none⟩,⟨(some 19),(.len (.t 18)),none⟩,⟨(some 8),(.mov (.t 19)),none⟩]) (.seq (.seq (.reg false [⟨(some 20),(.mov (.t 1)),none⟩,⟨(some 21),(.mov (.t 8)),none⟩,⟨(some 22),(.bin .eql (.t 20) (.t 21)),none⟩]) (.cond (.t 22) (.seq (.reg false [⟨(some 23),(.mov (.t 0)),none⟩,⟨(some 24),(.mov (.t 2)),none⟩,⟨(some 25),(.app 1 sz bytes z (.t 23) (.t 24)),none⟩,⟨(some 6),(.mov (.t 25)),none⟩]) .ret) .skip)) (.seq (.seq (.reg false [⟨(some 26),(.mov (.t 8)),none⟩,⟨(some 27),(.mov (.t 7)),none⟩,⟨(some 28),(.bin .add (.t 26) (.t 27)),none⟩,⟨(some 29),(.mov (.t 0)),none⟩,⟨(some 30),(.cap (.t 29)),none⟩,⟨(some 31),(.bin .gtr (.t 28) (.t 30)),none⟩]) (.cond (.t 31) (.seq (.reg false [⟨(some 32),(.mov (.t 0)),none⟩,⟨(some 33),(.mov (.t 1)),none⟩,⟨(some 34),(.slc sz (.t 32) none (some (.t 33)) none),none⟩,⟨(some 35),(.mov (.t 8)),none⟩,⟨(some 36),(.mov (.t 7)),none⟩,⟨(some 37),(.bin .add (.t 35) (.t 36)),none⟩,⟨(some 38),(.mov (.t 1)),none⟩,⟨(some 39),(.bin .sub (.t 37) (.t 38)),none⟩,⟨(some 40),(.apz 2 sz bytes z (.t 34) (.t 39)),none⟩,⟨(some 9),(.mov (.t 40)),none⟩]) (.seq (.reg false [⟨(some 41),(.mov (.t 9)),none⟩,⟨(some 42),(.mov (.t 1)),none⟩,⟨(some 43),(.slc sz (.t 41) (some (.t 42)) none none),none⟩,⟨(some 44),(.mov (.t 2)),none⟩,⟨(some 45),(.cpy sz (.t 43) (.t 44)),none⟩]) (.seq (.reg true [⟨(some 46),(.mov (.t 9)),none⟩,⟨(some 47),(.mov (.t 1)),none⟩,⟨(some 48),(.mov (.t 7)),none⟩,⟨(some 49),(.bin .add (.t 47) (.t 48)),none⟩,⟨(some 50),(.slc sz (.t 46) (some (.t 49)) none none),none⟩,⟨(some 51),(.mov (.t 0)),none⟩,⟨(some 52),(.mov (.t 1)),none⟩,⟨(some 53),(.slc sz (.t 51) (some (.t 52)) none none),none⟩,⟨(some 54),(.cpy sz (.t 50) (.t 53)),none⟩]) (.seq (.reg false [⟨(some 55),(.mov (.t 9)),none⟩,⟨(some 6),(.mov (.t 55)),none⟩]) .ret)))) .skip)) (.seq (.reg false [⟨(some 56),(.mov (.t 0)),none⟩,⟨(some 57),(.mov (.t 8)),none⟩,⟨(some 58),(.mov (.t 7)),none⟩,⟨(some 59),(.bin .add (.t 57) (.t 58)),none⟩,⟨(some 60),(.slc sz (.t 56) none (some (.t 59)) none),none⟩,⟨(some 0),(.mov (.t 60)),none⟩]) (.seq (.seq (.reg false [⟨(some 61),(.mov (.t 2)),none⟩,⟨(some 62),(.mov (.t 0)),none⟩,⟨(some 63),(.mov (.t 1)),none⟩,⟨(some 64),(.mov (.t 7)),none⟩,⟨(some 65),(.bin .add (.t 63) (.t 64)),none⟩,⟨(some 66),(.slc sz (.t 62) (some (.t 65)) none none),none⟩,⟨(some 67),(.ovl (.t 61) (.t 66)),none⟩,⟨(some 68),(.un .not (.t 67)),none⟩]) (.cond (.t 68) (.seq (.reg true [⟨(some 69),(.mov (.t 0)),none⟩,⟨(some 70),(.mov (.t 1)),none⟩,⟨(some 71),(.mov (.t 7)),none⟩,⟨(some 72),(.bin .add (.t 70) (.t 71)),none⟩,⟨(some 73),(.slc sz (.t 69) (some (.t 72)) none none),none⟩,⟨(some 74),(.mov (.t 0)),none⟩,⟨(some 75),(.mov (.t 1)),none⟩,⟨(some 76),(.slc sz (.t 74) (some (.t 75)) none none),none⟩,⟨(some 77),(.cpy sz (.t 73) (.t 76)),none⟩]) (.seq (.reg false [⟨(some 78),(.mov (.t 0)),none⟩,⟨(some 79),(.mov (.t 1)),none⟩,⟨(some 80),(.slc sz (.t 78) (some (.t 79)) none none),none⟩,⟨(some 81),(.mov (.t 2)),none⟩,⟨(some 82),(.cpy sz (.t 80) (.t 81)),none⟩]) (.seq (.reg false [⟨(some 83),(.mov (.t 0)),none⟩,⟨(some 6),(.mov (.t 83)),none⟩]) .ret))) .skip)) (.seq (.reg false [⟨(some 84),(.mov (.t 0)),none⟩,⟨(some 85),(.mov (.t 8)),none⟩,⟨(some 86),(.slc sz (.t 84) (some (.t 85)) none none),none⟩,⟨(some 87),(.mov (.t 2)),none⟩,⟨(some 88),(.cpy sz (.t 86) (.t 87)),none⟩]) (.seq (.reg false [⟨(some 89),(.mov (.t 0)),none⟩,⟨(some 90),(.mov (.t 1)),none⟩,⟨(some 91),(.slc sz (.t 89) (some (.t 90)) none none),none⟩,⟨(some 92),(.mov (.t 7)),none⟩,⟨(some 93),(.call 4 rr [(.t 91),(.t 92)]),none⟩]) (.seq (.reg false [⟨(some 94),(.mov (.t 0)),none⟩,⟨(some 6),(.mov (.t 94)),none⟩]) .ret))))))))))))
def InsR (c n:Nat) (sz:Nat) (i:Nat) (es' ys:List PV) (r:PV) (L':List (Option Blk)) (N:Option Blk):Prop :=
 (r=.own 0 0 sz 0 (n+ys.length) (some c)∧L'=[some (.cells (es'.take i++ys++(es'.take n).drop i++es'.drop (n+ys.length)))]∧N=none) ∨
 (r=.own 1 1 sz 0 (n+ys.length) none∧(∃ o,L'=[o])∧N=some (.cells (es'.take i++ys++(es'.take n).drop i)))
theorem wrap_ins {x:Int} (h0:0≤x) (h1:x≤4611686018427387904):IntKind.i64.wrap x=x:=by rw [IntKind.wrap_i64]; omega
theorem insLB {α:Type} {es' ys:List α} {c n i:Nat} (hc:es'.length=c) (hi:i≤n) (hn:n≤c) (hroom:n+ys.length≤c) :
 (List.take i
         (List.take (i+ys.length) es' ++
           List.take (min (List.take (n+ys.length - i) (List.drop i es')).length (n - i))
            (List.take (n+ys.length - i) (List.drop i es')) ++
          List.drop (i+ys.length+min (List.take (n+ys.length - i) (List.drop i es')).length (n - i))
           es') ++
        List.take (min ys.length (n+ys.length - i)) ys ++
       List.drop (i+min ys.length (n+ys.length - i))
        (List.take (i+ys.length) es' ++
          List.take (min (List.take (n+ys.length - i) (List.drop i es')).length (n - i))
           (List.take (n+ys.length - i) (List.drop i es')) ++
         List.drop (i+ys.length+min (List.take (n+ys.length - i) (List.drop i es')).length (n - i))
          es'))=List.take i es'++ys++List.drop i (List.take n es')++List.drop (n+ys.length) es':=by
 have e1:min ys.length (n+ys.length - i)=ys.length:=by omega
 have e2:(List.take (n+ys.length - i) (List.drop i es')).length=n+ys.length - i:=by simp; omega
 have e3:min (n+ys.length - i) (n - i)=n - i:=by omega
 have e3':min (n - i) (n+ys.length - i)=n - i:=by omega
 rw [e1,e2,e3,List.take_take,e3',List.take_length]
 have e4:i+ys.length+(n - i)=n+ys.length:=by omega
 rw [e4,List.append_assoc,List.append_assoc,List.take_append_of_le_length (by simp; omega),List.take_take,Nat.min_eq_left (by omega)]
 have e5:List.drop (i+ys.length) (List.take (i+ys.length) es'++(List.take (n - i) (List.drop i es')++List.drop (n+ys.length) es'))=List.take (n - i) (List.drop i es')++List.drop (n+ys.length) es':=by
  rw [List.drop_append_of_le_length (by simp; omega)]
  rw [List.drop_eq_nil_of_le (by simp; omega),List.nil_append]
 rw [e5,List.drop_take]
 simp only [List.append_assoc]
theorem insLA {α:Type} {z:α} {es' ys:List α} {c n i:Nat} (hc:es'.length=c) (hi:i≤n) (hn:n≤c) :
   (List.take (i+ys.length)
                  (List.take i (List.take i es'++List.replicate (n+ys.length - i) z) ++
                      List.take (min ys.length (n+ys.length - i)) ys ++
                    List.drop (i+min ys.length (n+ys.length - i))
                      (List.take i es'++List.replicate (n+ys.length - i) z)) ++
                List.take (min (List.take (n - i) (List.drop i es')).length (n - i))
                  (List.take (n - i) (List.drop i es')) ++
              List.drop (i+ys.length+min (List.take (n - i) (List.drop i es')).length (n - i))
                (List.take i (List.take i es'++List.replicate (n+ys.length - i) z) ++
                    List.take (min ys.length (n+ys.length - i)) ys ++
                  List.drop (i+min ys.length (n+ys.length - i))
                    (List.take i es'++List.replicate (n+ys.length - i) z)))=List.take i es'++ys++List.drop i (List.take n es'):=by
  have e1:min ys.length (n+ys.length - i)=ys.length:=by omega
  have e2:(List.take (n - i) (List.drop i es')).length=n - i:=by simp; omega
  have e4:i+ys.length+(n - i)=n+ys.length:=by omega
  have e6:(List.take i es').length=i:=by simp; omega
  rw [e1,e2,Nat.min_self,List.take_length,e4]
  have e7:List.take i (List.take i es'++List.replicate (n+ys.length - i) z)=List.take i es':=by
    rw [List.take_append_of_le_length (by omega),List.take_take,Nat.min_self]
  have e8:List.drop (i+ys.length) (List.take i es'++List.replicate (n+ys.length - i) z)=List.replicate (n - i) z:=by
    rw [List.drop_append,List.drop_eq_nil_of_le (by omega),e6,List.nil_append,List.drop_replicate]
    congr 1; omega
  rw [e7,e8,List.append_assoc (List.take i es')]
  have e9:List.take (i+ys.length) (List.take i es'++(ys++List.replicate (n - i) z))=List.take i es'++ys:=by
    rw [← List.append_assoc,List.take_append_of_le_length (by simp; omega),List.take_of_length_le (by simp; omega)]
  rw [e9]
  have e10:List.drop (n+ys.length) (List.take i es'++(ys++List.replicate (n - i) z))=[]:=by
    rw [List.drop_eq_nil_iff]; simp; omega
  rw [e10,List.append_nil,List.drop_take]
  congr 1
  rw [List.take_of_length_le (by omega)]
theorem ins_go {P:Program} {Q:IExit→St→Prop} {sz bytes rr:Nat} {z:PV} {c n i:Nat} {es' ys:List PV} (hsz:0 < sz) (hz:z.cells.length=sz) (hzs:z.stor=true) (hi:i≤n) (hn:n≤c) (hc:es'.length=c) (hce:∀ e ∈ es',e.cells.length=sz) (hy:ys≠[]) (hye:∀ e ∈ ys,e.cells.length=sz)
    (hb1:(n+ys.length) * bytes≤70368744177664) (hb2:n+ys.length≤70368744177664)
    (hQ:∀ st:St,(∃ t',st.t=t'∧t'.length=95∧∃ (r:PV) (h:List Slot) (k:Nat),t'[6]?=some r∧st.h=h∧st.n=k∧h.length=6 ∧
        ((r=.own 0 0 sz 0 (n+ys.length) (some c)∧h[0]?=some (some (0,.cells (es'.take i++ys++(es'.take n).drop i++es'.drop (n+ys.length))))) ∨
         (∃ b s,r=.own b s sz 0 (n+ys.length) none∧1≤s∧h[b]?=some (some (s,.cells (es'.take i++ys++(es'.take n).drop i))))))→Q .ret st) :
    go P Q 1000 [.code (icIns sz bytes z rr)] (startSt [.own 0 0 sz 0 n (some c),vi i,.sl true ys] 95 [.cells es'] 5):=by
  simp only [startSt,List.replicate,List.cons_append,List.nil_append,List.append_nil,List.length_cons,List.length_nil,List.zipIdx_nil,List.map_nil,Nat.reduceAdd,Nat.reduceSub,icIns,List.zipIdx_cons,List.map_cons]
  have hm:0 < ys.length:=List.length_pos_iff.2 hy
  have w1:IntKind.i64.wrap ((n:Int)+(ys.length:Int))=((n+ys.length:Nat):Int):=by rw [wrap_ins (by omega) (by omega)]; omega
  have w2:IntKind.i64.wrap ((i:Int)+(ys.length:Int))=((i+ys.length:Nat):Int):=by rw [wrap_ins (by omega) (by omega)]; omega
  have w3:IntKind.i64.wrap (((n+ys.length:Nat):Int) - (i:Int))=((n+ys.length - i:Nat):Int):=by rw [wrap_ins (by omega) (by omega)]; omega
  have e0:((ys.length:Int)==0)=false:=by rw [beq_eq_false_iff_ne]; omega
  simp only [w1,w2,w3,e0,capOf,slCap,go,go1,opOk,opRes,owed_true,branch_true,branch_false,popTo,St.ev,St.put,binV,arith,shifts,unV,bndV,bndOk,isInt,isStr,intOf',strOf,rowAt,blkEs,slotIs,ldv,stv,fillV,partsV,mmV,mmGo,elems,PV.cells,PV.isAgg,PV.stor,Value.oneCell',Option.isSome_some,Option.getD_some,Option.map_some,Option.map_none,if_true,if_false,ite_true,ite_false,and_self,and_true,true_and,reduceCtorEq,true_or,or_true,List.set_cons_zero,List.set_cons_succ,List.getD_cons_zero,List.getD_cons_succ,List.getElem?_cons_zero,List.getElem?_cons_succ,List.map_cons,List.map_nil,List.length_map,List.length_cons,List.length_nil,List.length_set,List.cons_append,List.nil_append,List.drop_zero,List.drop_succ_cons,List.drop_nil,List.take_zero,List.take_succ_cons,List.take_nil,List.range_succ,List.range_zero,Nat.reduceAdd,Nat.reduceSub,Nat.reduceMul,Nat.reduceLT,Nat.reduceLeDiff,Nat.reduceEqDiff,Nat.zero_add,Nat.add_zero,Nat.lt_add_one,Int.reduceToNat,Int.toNat_natCast,Int.natCast_nonneg,Bool.not_true,Bool.not_false,decide_true,decide_false,Bool.true_eq_false,Bool.false_eq_true]
  refine owed_of ⟨by omega,by omega,by omega⟩ ?_
  simp only [w1,w2,w3,e0,capOf,slCap,go,go1,opOk,opRes,owed_true,branch_true,branch_false,popTo,St.ev,St.put,binV,arith,shifts,unV,bndV,bndOk,isInt,isStr,intOf',strOf,rowAt,blkEs,slotIs,ldv,stv,fillV,partsV,mmV,mmGo,elems,PV.cells,PV.isAgg,PV.stor,Value.oneCell',Option.isSome_some,Option.getD_some,Option.map_some,Option.map_none,if_true,if_false,ite_true,ite_false,and_self,and_true,true_and,reduceCtorEq,true_or,or_true,List.set_cons_zero,List.set_cons_succ,List.getD_cons_zero,List.getD_cons_succ,List.getElem?_cons_zero,List.getElem?_cons_succ,List.map_cons,List.map_nil,List.length_map,List.length_cons,List.length_nil,List.length_set,List.cons_append,List.nil_append,List.drop_zero,List.drop_succ_cons,List.drop_nil,List.take_zero,List.take_succ_cons,List.take_nil,List.range_succ,List.range_zero,Nat.reduceAdd,Nat.reduceSub,Nat.reduceMul,Nat.reduceLT,Nat.reduceLeDiff,Nat.reduceEqDiff,Nat.zero_add,Nat.add_zero,Nat.lt_add_one,Int.reduceToNat,Int.toNat_natCast,Int.natCast_nonneg,Bool.not_true,Bool.not_false,decide_true,decide_false,Bool.true_eq_false,Bool.false_eq_true]
  by_cases hin:i=n
  · subst hin
    have e1:((i:Int)==(i:Int))=true:=by simp
    simp only [w1,w2,w3,e1,capOf,slCap,go,go1,opOk,opRes,owed_true,branch_true,branch_false,popTo,St.ev,St.put,binV,arith,shifts,unV,bndV,bndOk,isInt,isStr,intOf',strOf,rowAt,blkEs,slotIs,ldv,stv,fillV,partsV,mmV,mmGo,elems,PV.cells,PV.isAgg,PV.stor,Value.oneCell',Option.isSome_some,Option.getD_some,Option.map_some,Option.map_none,if_true,if_false,ite_true,ite_false,and_self,and_true,true_and,reduceCtorEq,true_or,or_true,List.set_cons_zero,List.set_cons_succ,List.getD_cons_zero,List.getD_cons_succ,List.getElem?_cons_zero,List.getElem?_cons_succ,List.map_cons,List.map_nil,List.length_map,List.length_cons,List.length_nil,List.length_set,List.cons_append,List.nil_append,List.drop_zero,List.drop_succ_cons,List.drop_nil,List.take_zero,List.take_succ_cons,List.take_nil,List.range_succ,List.range_zero,Nat.reduceAdd,Nat.reduceSub,Nat.reduceMul,Nat.reduceLT,Nat.reduceLeDiff,Nat.reduceEqDiff,Nat.zero_add,Nat.add_zero,Nat.lt_add_one,Int.reduceToNat,Int.toNat_natCast,Int.natCast_nonneg,Bool.not_true,Bool.not_false,decide_true,decide_false,Bool.true_eq_false,Bool.false_eq_true]
    refine ⟨by simp,hsz,hz,hzs,ys,rfl,hye,?_⟩
    simp only [w1,w2,go,go1,opOk,opRes,owed_true,branch_true,branch_false,popTo,St.ev,St.put,binV,arith,shifts,unV,bndV,bndOk,isInt,isStr,intOf',strOf,rowAt,blkEs,slotIs,ldv,stv,fillV,partsV,mmV,mmGo,elems,PV.cells,PV.isAgg,PV.stor,Value.oneCell',Option.isSome_some,Option.getD_some,Option.map_some,Option.map_none,if_true,if_false,ite_true,ite_false,and_self,and_true,true_and,reduceCtorEq,true_or,or_true,List.set_cons_zero,List.set_cons_succ,List.getD_cons_zero,List.getD_cons_succ,List.getElem?_cons_zero,List.getElem?_cons_succ,List.map_cons,List.map_nil,List.length_map,List.length_cons,List.length_nil,List.length_set,List.cons_append,List.nil_append,List.drop_zero,List.drop_succ_cons,List.drop_nil,List.take_zero,List.take_succ_cons,List.take_nil,List.range_succ,List.range_zero,Nat.reduceAdd,Nat.reduceSub,Nat.reduceMul,Nat.reduceLT,Nat.reduceLeDiff,Nat.reduceEqDiff,Nat.zero_add,Nat.add_zero,Nat.lt_add_one,Int.reduceToNat,Int.toNat_natCast,Int.natCast_nonneg,Bool.not_true,Bool.not_false,decide_true,decide_false,Bool.true_eq_false,Bool.false_eq_true]
    refine ⟨es',rfl,by omega,hb1,hb2,?_⟩
    by_cases hroom:i+ys.length≤c
    · rw [if_pos hroom]
      refine ⟨by omega,?_⟩
      refine hQ _ ⟨_,rfl,rfl,_,_,_,rfl,rfl,rfl,rfl,.inl ⟨rfl,?_⟩⟩
      have e2:(es'.take i).drop i=[]:=by rw [List.drop_eq_nil_iff]; simp; omega
      simp only [List.getElem?_cons_zero,Nat.zero_add,e2,List.append_nil]
    · rw [if_neg hroom]
      refine hQ _ ⟨_,rfl,rfl,_,_,_,rfl,rfl,rfl,rfl,.inr ⟨1,1,rfl,by omega,?_⟩⟩
      have e2:(es'.take i).drop i=[]:=by rw [List.drop_eq_nil_iff]; simp; omega
      simp only [List.getElem?_cons_succ,List.getElem?_cons_zero,List.drop_zero,e2,List.append_nil]
  · have e1:((i:Int)==(n:Int))=false:=by rw [beq_eq_false_iff_ne]; omega
    have f2:i+(n+ys.length - i)=n+ys.length:=by omega
    have f3:n+ys.length - (i+ys.length)=n - i:=by omega
    have f4:i+ys.length+(n - i)=n+ys.length:=by omega
    simp only [w1,w2,w3,e1,capOf,slCap,Nat.sub_zero,f2,go,go1,opOk,opRes,owed_true,branch_true,branch_false,popTo,St.ev,St.put,binV,arith,shifts,unV,bndV,bndOk,isInt,isStr,intOf',strOf,rowAt,blkEs,slotIs,ldv,stv,fillV,partsV,mmV,mmGo,elems,PV.cells,PV.isAgg,PV.stor,Value.oneCell',Option.isSome_some,Option.getD_some,Option.map_some,Option.map_none,if_true,if_false,ite_true,ite_false,and_self,and_true,true_and,reduceCtorEq,true_or,or_true,List.set_cons_zero,List.set_cons_succ,List.getD_cons_zero,List.getD_cons_succ,List.getElem?_cons_zero,List.getElem?_cons_succ,List.map_cons,List.map_nil,List.length_map,List.length_cons,List.length_nil,List.length_set,List.cons_append,List.nil_append,List.drop_zero,List.drop_succ_cons,List.drop_nil,List.take_zero,List.take_succ_cons,List.take_nil,List.range_succ,List.range_zero,Nat.reduceAdd,Nat.reduceSub,Nat.reduceMul,Nat.reduceLT,Nat.reduceLeDiff,Nat.reduceEqDiff,Nat.zero_add,Nat.add_zero,Nat.lt_add_one,Int.reduceToNat,Int.toNat_natCast,Int.natCast_nonneg,Bool.not_true,Bool.not_false,decide_true,decide_false,Bool.true_eq_false,Bool.false_eq_true]
    show go _ _ _ _ _
    by_cases hroom:n+ys.length≤c
    · have e2:decide (((n+ys.length:Nat):Int) > (c:Int))=false:=by rw [decide_eq_false_iff_not]; omega
      simp only [w1,w2,w3,e2,capOf,slCap,Nat.sub_zero,f2,f3,f4,go,go1,opOk,opRes,owed_true,branch_true,branch_false,popTo,St.ev,St.put,binV,arith,shifts,unV,bndV,bndOk,isInt,isStr,intOf',strOf,rowAt,blkEs,slotIs,ldv,stv,fillV,partsV,mmV,mmGo,elems,PV.cells,PV.isAgg,PV.stor,Value.oneCell',Option.isSome_some,Option.getD_some,Option.map_some,Option.map_none,if_true,if_false,ite_true,ite_false,and_self,and_true,true_and,reduceCtorEq,true_or,or_true,List.set_cons_zero,List.set_cons_succ,List.getD_cons_zero,List.getD_cons_succ,List.getElem?_cons_zero,List.getElem?_cons_succ,List.map_cons,List.map_nil,List.length_map,List.length_cons,List.length_nil,List.length_set,List.cons_append,List.nil_append,List.drop_zero,List.drop_succ_cons,List.drop_nil,List.take_zero,List.take_succ_cons,List.take_nil,List.range_succ,List.range_zero,Nat.reduceAdd,Nat.reduceSub,Nat.reduceMul,Nat.reduceLT,Nat.reduceLeDiff,Nat.reduceEqDiff,Nat.zero_add,Nat.add_zero,Nat.lt_add_one,Int.reduceToNat,Int.toNat_natCast,Int.natCast_nonneg,Bool.not_true,Bool.not_false,decide_true,decide_false,Bool.true_eq_false,Bool.false_eq_true]
      refine owed_of ⟨by omega,by omega,by omega⟩ ?_
      simp only [w1,w2,w3,e2,capOf,slCap,Nat.sub_zero,f2,f3,f4,go,go1,opOk,opRes,owed_true,branch_true,branch_false,popTo,St.ev,St.put,binV,arith,shifts,unV,bndV,bndOk,isInt,isStr,intOf',strOf,rowAt,blkEs,slotIs,ldv,stv,fillV,partsV,mmV,mmGo,elems,PV.cells,PV.isAgg,PV.stor,Value.oneCell',Option.isSome_some,Option.getD_some,Option.map_some,Option.map_none,if_true,if_false,ite_true,ite_false,and_self,and_true,true_and,reduceCtorEq,true_or,or_true,List.set_cons_zero,List.set_cons_succ,List.getD_cons_zero,List.getD_cons_succ,List.getElem?_cons_zero,List.getElem?_cons_succ,List.map_cons,List.map_nil,List.length_map,List.length_cons,List.length_nil,List.length_set,List.cons_append,List.nil_append,List.drop_zero,List.drop_succ_cons,List.drop_nil,List.take_zero,List.take_succ_cons,List.take_nil,List.range_succ,List.range_zero,Nat.reduceAdd,Nat.reduceSub,Nat.reduceMul,Nat.reduceLT,Nat.reduceLeDiff,Nat.reduceEqDiff,Nat.zero_add,Nat.add_zero,Nat.lt_add_one,Int.reduceToNat,Int.toNat_natCast,Int.natCast_nonneg,Bool.not_true,Bool.not_false,decide_true,decide_false,Bool.true_eq_false,Bool.false_eq_true]
      refine owed_of ⟨by omega,by omega,by omega⟩ ?_
      simp only [w1,w2,w3,e2,capOf,slCap,Nat.sub_zero,f2,f3,f4,go,go1,opOk,opRes,owed_true,branch_true,branch_false,popTo,St.ev,St.put,binV,arith,shifts,unV,bndV,bndOk,isInt,isStr,intOf',strOf,rowAt,blkEs,slotIs,ldv,stv,fillV,partsV,mmV,mmGo,elems,PV.cells,PV.isAgg,PV.stor,Value.oneCell',Option.isSome_some,Option.getD_some,Option.map_some,Option.map_none,if_true,if_false,ite_true,ite_false,and_self,and_true,true_and,reduceCtorEq,true_or,or_true,List.set_cons_zero,List.set_cons_succ,List.getD_cons_zero,List.getD_cons_succ,List.getElem?_cons_zero,List.getElem?_cons_succ,List.map_cons,List.map_nil,List.length_map,List.length_cons,List.length_nil,List.length_set,List.cons_append,List.nil_append,List.drop_zero,List.drop_succ_cons,List.drop_nil,List.take_zero,List.take_succ_cons,List.take_nil,List.range_succ,List.range_zero,Nat.reduceAdd,Nat.reduceSub,Nat.reduceMul,Nat.reduceLT,Nat.reduceLeDiff,Nat.reduceEqDiff,Nat.zero_add,Nat.add_zero,Nat.lt_add_one,Int.reduceToNat,Int.toNat_natCast,Int.natCast_nonneg,Bool.not_true,Bool.not_false,decide_true,decide_false,Bool.true_eq_false,Bool.false_eq_true]
      refine owed_of (by cases ys with | nil=>exact absurd rfl hy | cons y r=>rfl) ?_
      simp only [w1,w2,w3,e2,capOf,slCap,Nat.sub_zero,f2,f3,f4,go,go1,opOk,opRes,owed_true,branch_true,branch_false,popTo,St.ev,St.put,binV,arith,shifts,unV,bndV,bndOk,isInt,isStr,intOf',strOf,rowAt,blkEs,slotIs,ldv,stv,fillV,partsV,mmV,mmGo,elems,PV.cells,PV.isAgg,PV.stor,Value.oneCell',Option.isSome_some,Option.getD_some,Option.map_some,Option.map_none,if_true,if_false,ite_true,ite_false,and_self,and_true,true_and,reduceCtorEq,true_or,or_true,List.set_cons_zero,List.set_cons_succ,List.getD_cons_zero,List.getD_cons_succ,List.getElem?_cons_zero,List.getElem?_cons_succ,List.map_cons,List.map_nil,List.length_map,List.length_cons,List.length_nil,List.length_set,List.cons_append,List.nil_append,List.drop_zero,List.drop_succ_cons,List.drop_nil,List.take_zero,List.take_succ_cons,List.take_nil,List.range_succ,List.range_zero,Nat.reduceAdd,Nat.reduceSub,Nat.reduceMul,Nat.reduceLT,Nat.reduceLeDiff,Nat.reduceEqDiff,Nat.zero_add,Nat.add_zero,Nat.lt_add_one,Int.reduceToNat,Int.toNat_natCast,Int.natCast_nonneg,Bool.not_true,Bool.not_false,decide_true,decide_false,Bool.true_eq_false,Bool.false_eq_true]
      refine owed_of ⟨by omega,by omega,by omega⟩ ?_
      simp only [w1,w2,w3,e2,capOf,slCap,Nat.sub_zero,f2,f3,f4,go,go1,opOk,opRes,owed_true,branch_true,branch_false,popTo,St.ev,St.put,binV,arith,shifts,unV,bndV,bndOk,isInt,isStr,intOf',strOf,rowAt,blkEs,slotIs,ldv,stv,fillV,partsV,mmV,mmGo,elems,PV.cells,PV.isAgg,PV.stor,Value.oneCell',Option.isSome_some,Option.getD_some,Option.map_some,Option.map_none,if_true,if_false,ite_true,ite_false,and_self,and_true,true_and,reduceCtorEq,true_or,or_true,List.set_cons_zero,List.set_cons_succ,List.getD_cons_zero,List.getD_cons_succ,List.getElem?_cons_zero,List.getElem?_cons_succ,List.map_cons,List.map_nil,List.length_map,List.length_cons,List.length_nil,List.length_set,List.cons_append,List.nil_append,List.drop_zero,List.drop_succ_cons,List.drop_nil,List.take_zero,List.take_succ_cons,List.take_nil,List.range_succ,List.range_zero,Nat.reduceAdd,Nat.reduceSub,Nat.reduceMul,Nat.reduceLT,Nat.reduceLeDiff,Nat.reduceEqDiff,Nat.zero_add,Nat.add_zero,Nat.lt_add_one,Int.reduceToNat,Int.toNat_natCast,Int.natCast_nonneg,Bool.not_true,Bool.not_false,decide_true,decide_false,Bool.true_eq_false,Bool.false_eq_true]
      refine owed_of ⟨by omega,by omega,by omega⟩ ?_
      have f5:n+ys.length≤es'.length:=by omega
      simp only [w1,w2,w3,e2,capOf,slCap,Nat.sub_zero,f2,f3,f4,f5,go,go1,opOk,opRes,owed_true,branch_true,branch_false,popTo,St.ev,St.put,binV,arith,shifts,unV,bndV,bndOk,isInt,isStr,intOf',strOf,rowAt,blkEs,slotIs,ldv,stv,fillV,partsV,mmV,mmGo,elems,PV.cells,PV.isAgg,PV.stor,Value.oneCell',Option.isSome_some,Option.getD_some,Option.map_some,Option.map_none,if_true,if_false,ite_true,ite_false,and_self,and_true,true_and,reduceCtorEq,true_or,or_true,List.set_cons_zero,List.set_cons_succ,List.getD_cons_zero,List.getD_cons_succ,List.getElem?_cons_zero,List.getElem?_cons_succ,List.map_cons,List.map_nil,List.length_map,List.length_cons,List.length_nil,List.length_set,List.cons_append,List.nil_append,List.drop_zero,List.drop_succ_cons,List.drop_nil,List.take_zero,List.take_succ_cons,List.take_nil,List.range_succ,List.range_zero,Nat.reduceAdd,Nat.reduceSub,Nat.reduceMul,Nat.reduceLT,Nat.reduceLeDiff,Nat.reduceEqDiff,Nat.zero_add,Nat.add_zero,Nat.lt_add_one,Int.reduceToNat,Int.toNat_natCast,Int.natCast_nonneg,Bool.not_true,Bool.not_false,decide_true,decide_false,Bool.true_eq_false,Bool.false_eq_true]
      refine owed_of (fun e he=>hce e (List.mem_of_mem_drop (List.mem_of_mem_take he))) ?_
      simp only [w1,w2,w3,e2,capOf,slCap,Nat.sub_zero,f2,f3,f4,f5,go,go1,opOk,opRes,owed_true,branch_true,branch_false,popTo,St.ev,St.put,binV,arith,shifts,unV,bndV,bndOk,isInt,isStr,intOf',strOf,rowAt,blkEs,slotIs,ldv,stv,fillV,partsV,mmV,mmGo,elems,PV.cells,PV.isAgg,PV.stor,Value.oneCell',Option.isSome_some,Option.getD_some,Option.map_some,Option.map_none,if_true,if_false,ite_true,ite_false,and_self,and_true,true_and,reduceCtorEq,true_or,or_true,List.set_cons_zero,List.set_cons_succ,List.getD_cons_zero,List.getD_cons_succ,List.getElem?_cons_zero,List.getElem?_cons_succ,List.map_cons,List.map_nil,List.length_map,List.length_cons,List.length_nil,List.length_set,List.cons_append,List.nil_append,List.drop_zero,List.drop_succ_cons,List.drop_nil,List.take_zero,List.take_succ_cons,List.take_nil,List.range_succ,List.range_zero,Nat.reduceAdd,Nat.reduceSub,Nat.reduceMul,Nat.reduceLT,Nat.reduceLeDiff,Nat.reduceEqDiff,Nat.zero_add,Nat.add_zero,Nat.lt_add_one,Int.reduceToNat,Int.toNat_natCast,Int.natCast_nonneg,Bool.not_true,Bool.not_false,decide_true,decide_false,Bool.true_eq_false,Bool.false_eq_true]
      refine owed_of ⟨by omega,by omega,by omega⟩ ?_
      simp only [w1,w2,w3,e2,capOf,slCap,Nat.sub_zero,f2,f3,f4,f5,go,go1,opOk,opRes,owed_true,branch_true,branch_false,popTo,St.ev,St.put,binV,arith,shifts,unV,bndV,bndOk,isInt,isStr,intOf',strOf,rowAt,blkEs,slotIs,ldv,stv,fillV,partsV,mmV,mmGo,elems,PV.cells,PV.isAgg,PV.stor,Value.oneCell',Option.isSome_some,Option.getD_some,Option.map_some,Option.map_none,if_true,if_false,ite_true,ite_false,and_self,and_true,true_and,reduceCtorEq,true_or,or_true,List.set_cons_zero,List.set_cons_succ,List.getD_cons_zero,List.getD_cons_succ,List.getElem?_cons_zero,List.getElem?_cons_succ,List.map_cons,List.map_nil,List.length_map,List.length_cons,List.length_nil,List.length_set,List.cons_append,List.nil_append,List.drop_zero,List.drop_succ_cons,List.drop_nil,List.take_zero,List.take_succ_cons,List.take_nil,List.range_succ,List.range_zero,Nat.reduceAdd,Nat.reduceSub,Nat.reduceMul,Nat.reduceLT,Nat.reduceLeDiff,Nat.reduceEqDiff,Nat.zero_add,Nat.add_zero,Nat.lt_add_one,Int.reduceToNat,Int.toNat_natCast,Int.natCast_nonneg,Bool.not_true,Bool.not_false,decide_true,decide_false,Bool.true_eq_false,Bool.false_eq_true]
      refine owed_of ⟨by simp; omega,hye⟩ ?_
      simp only [w1,w2,w3,e2,capOf,slCap,Nat.sub_zero,f2,f3,f4,f5,go,go1,opOk,opRes,owed_true,branch_true,branch_false,popTo,St.ev,St.put,binV,arith,shifts,unV,bndV,bndOk,isInt,isStr,intOf',strOf,rowAt,blkEs,slotIs,ldv,stv,fillV,partsV,mmV,mmGo,elems,PV.cells,PV.isAgg,PV.stor,Value.oneCell',Option.isSome_some,Option.getD_some,Option.map_some,Option.map_none,if_true,if_false,ite_true,ite_false,and_self,and_true,true_and,reduceCtorEq,true_or,or_true,List.set_cons_zero,List.set_cons_succ,List.getD_cons_zero,List.getD_cons_succ,List.getElem?_cons_zero,List.getElem?_cons_succ,List.map_cons,List.map_nil,List.length_map,List.length_cons,List.length_nil,List.length_set,List.cons_append,List.nil_append,List.drop_zero,List.drop_succ_cons,List.drop_nil,List.take_zero,List.take_succ_cons,List.take_nil,List.range_succ,List.range_zero,Nat.reduceAdd,Nat.reduceSub,Nat.reduceMul,Nat.reduceLT,Nat.reduceLeDiff,Nat.reduceEqDiff,Nat.zero_add,Nat.add_zero,Nat.lt_add_one,Int.reduceToNat,Int.toNat_natCast,Int.natCast_nonneg,Bool.not_true,Bool.not_false,decide_true,decide_false,Bool.true_eq_false,Bool.false_eq_true]
      refine hQ _ ⟨_,rfl,rfl,_,_,_,rfl,rfl,rfl,rfl,.inl ⟨rfl,?_⟩⟩
      simp only [List.getElem?_cons_zero]
      rw [insLB hc hi hn hroom]
    · have e2:decide (((n+ys.length:Nat):Int) > (c:Int))=true:=by rw [decide_eq_true_iff]; omega
      simp only [w1,w2,w3,e2,capOf,slCap,Nat.sub_zero,f2,f3,f4,go,go1,opOk,opRes,owed_true,branch_true,branch_false,popTo,St.ev,St.put,binV,arith,shifts,unV,bndV,bndOk,isInt,isStr,intOf',strOf,rowAt,blkEs,slotIs,ldv,stv,fillV,partsV,mmV,mmGo,elems,PV.cells,PV.isAgg,PV.stor,Value.oneCell',Option.isSome_some,Option.getD_some,Option.map_some,Option.map_none,if_true,if_false,ite_true,ite_false,and_self,and_true,true_and,reduceCtorEq,true_or,or_true,List.set_cons_zero,List.set_cons_succ,List.getD_cons_zero,List.getD_cons_succ,List.getElem?_cons_zero,List.getElem?_cons_succ,List.map_cons,List.map_nil,List.length_map,List.length_cons,List.length_nil,List.length_set,List.cons_append,List.nil_append,List.drop_zero,List.drop_succ_cons,List.drop_nil,List.take_zero,List.take_succ_cons,List.take_nil,List.range_succ,List.range_zero,Nat.reduceAdd,Nat.reduceSub,Nat.reduceMul,Nat.reduceLT,Nat.reduceLeDiff,Nat.reduceEqDiff,Nat.zero_add,Nat.add_zero,Nat.lt_add_one,Int.reduceToNat,Int.toNat_natCast,Int.natCast_nonneg,Bool.not_true,Bool.not_false,decide_true,decide_false,Bool.true_eq_false,Bool.false_eq_true]
      refine owed_of ⟨by omega,by omega,by omega⟩ ?_
      simp only [w1,w2,w3,e2,capOf,slCap,hsz,Nat.sub_zero,f2,f3,f4,go,go1,opOk,opRes,owed_true,branch_true,branch_false,popTo,St.ev,St.put,binV,arith,shifts,unV,bndV,bndOk,isInt,isStr,intOf',strOf,rowAt,blkEs,slotIs,ldv,stv,fillV,partsV,mmV,mmGo,elems,PV.cells,PV.isAgg,PV.stor,Value.oneCell',Option.isSome_some,Option.getD_some,Option.map_some,Option.map_none,if_true,if_false,ite_true,ite_false,and_self,and_true,true_and,reduceCtorEq,true_or,or_true,List.set_cons_zero,List.set_cons_succ,List.getD_cons_zero,List.getD_cons_succ,List.getElem?_cons_zero,List.getElem?_cons_succ,List.map_cons,List.map_nil,List.length_map,List.length_cons,List.length_nil,List.length_set,List.cons_append,List.nil_append,List.drop_zero,List.drop_succ_cons,List.drop_nil,List.take_zero,List.take_succ_cons,List.take_nil,List.range_succ,List.range_zero,Nat.reduceAdd,Nat.reduceSub,Nat.reduceMul,Nat.reduceLT,Nat.reduceLeDiff,Nat.reduceEqDiff,Nat.zero_add,Nat.add_zero,Nat.lt_add_one,Int.reduceToNat,Int.toNat_natCast,Int.natCast_nonneg,Bool.not_true,Bool.not_false,decide_true,decide_false,Bool.true_eq_false,Bool.false_eq_true]
      have f6:c < n+ys.length:=by omega
      have f7:i≤es'.length:=by omega
      refine owed_of ⟨hz,hzs,by omega,hb1,hb2,f7⟩ ?_
      simp only [w1,w2,w3,e2,capOf,slCap,hsz,Nat.sub_zero,f2,f3,f4,go,go1,opOk,opRes,owed_true,branch_true,branch_false,popTo,St.ev,St.put,binV,arith,shifts,unV,bndV,bndOk,isInt,isStr,intOf',strOf,rowAt,blkEs,slotIs,ldv,stv,fillV,partsV,mmV,mmGo,elems,PV.cells,PV.isAgg,PV.stor,Value.oneCell',Option.isSome_some,Option.getD_some,Option.map_some,Option.map_none,if_true,if_false,ite_true,ite_false,and_self,and_true,true_and,reduceCtorEq,true_or,or_true,List.set_cons_zero,List.set_cons_succ,List.getD_cons_zero,List.getD_cons_succ,List.getElem?_cons_zero,List.getElem?_cons_succ,List.map_cons,List.map_nil,List.length_map,List.length_cons,List.length_nil,List.length_set,List.cons_append,List.nil_append,List.drop_zero,List.drop_succ_cons,List.drop_nil,List.take_zero,List.take_succ_cons,List.take_nil,List.range_succ,List.range_zero,Nat.reduceAdd,Nat.reduceSub,Nat.reduceMul,Nat.reduceLT,Nat.reduceLeDiff,Nat.reduceEqDiff,Nat.zero_add,Nat.add_zero,Nat.lt_add_one,Int.reduceToNat,Int.toNat_natCast,Int.natCast_nonneg,Bool.not_true,Bool.not_false,decide_true,decide_false,Bool.true_eq_false,Bool.false_eq_true]
      refine owed_of ⟨by omega,by omega,by omega⟩ ?_
      simp only [w1,w2,w3,e2,capOf,slCap,hsz,Nat.sub_zero,f2,f3,f4,go,go1,opOk,opRes,owed_true,branch_true,branch_false,popTo,St.ev,St.put,binV,arith,shifts,unV,bndV,bndOk,isInt,isStr,intOf',strOf,rowAt,blkEs,slotIs,ldv,stv,fillV,partsV,mmV,mmGo,elems,PV.cells,PV.isAgg,PV.stor,Value.oneCell',Option.isSome_some,Option.getD_some,Option.map_some,Option.map_none,if_true,if_false,ite_true,ite_false,and_self,and_true,true_and,reduceCtorEq,true_or,or_true,List.set_cons_zero,List.set_cons_succ,List.getD_cons_zero,List.getD_cons_succ,List.getElem?_cons_zero,List.getElem?_cons_succ,List.map_cons,List.map_nil,List.length_map,List.length_cons,List.length_nil,List.length_set,List.cons_append,List.nil_append,List.drop_zero,List.drop_succ_cons,List.drop_nil,List.take_zero,List.take_succ_cons,List.take_nil,List.range_succ,List.range_zero,Nat.reduceAdd,Nat.reduceSub,Nat.reduceMul,Nat.reduceLT,Nat.reduceLeDiff,Nat.reduceEqDiff,Nat.zero_add,Nat.add_zero,Nat.lt_add_one,Int.reduceToNat,Int.toNat_natCast,Int.natCast_nonneg,Bool.not_true,Bool.not_false,decide_true,decide_false,Bool.true_eq_false,Bool.false_eq_true]
      have f8:(List.take i es'++List.replicate (n+ys.length - i) z).length=n+ys.length:=by simp; omega
      refine owed_of ⟨by omega,hye⟩ ?_
      simp only [w1,w2,w3,e2,capOf,slCap,hsz,Nat.sub_zero,f2,f3,f4,go,go1,opOk,opRes,owed_true,branch_true,branch_false,popTo,St.ev,St.put,binV,arith,shifts,unV,bndV,bndOk,isInt,isStr,intOf',strOf,rowAt,blkEs,slotIs,ldv,stv,fillV,partsV,mmV,mmGo,elems,PV.cells,PV.isAgg,PV.stor,Value.oneCell',Option.isSome_some,Option.getD_some,Option.map_some,Option.map_none,if_true,if_false,ite_true,ite_false,and_self,and_true,true_and,reduceCtorEq,true_or,or_true,List.set_cons_zero,List.set_cons_succ,List.getD_cons_zero,List.getD_cons_succ,List.getElem?_cons_zero,List.getElem?_cons_succ,List.map_cons,List.map_nil,List.length_map,List.length_cons,List.length_nil,List.length_set,List.cons_append,List.nil_append,List.drop_zero,List.drop_succ_cons,List.drop_nil,List.take_zero,List.take_succ_cons,List.take_nil,List.range_succ,List.range_zero,Nat.reduceAdd,Nat.reduceSub,Nat.reduceMul,Nat.reduceLT,Nat.reduceLeDiff,Nat.reduceEqDiff,Nat.zero_add,Nat.add_zero,Nat.lt_add_one,Int.reduceToNat,Int.toNat_natCast,Int.natCast_nonneg,Bool.not_true,Bool.not_false,decide_true,decide_false,Bool.true_eq_false,Bool.false_eq_true]
      have f9:i+(n - i)=n:=by omega
      have f10:n≤es'.length:=by omega
      refine owed_of ⟨by omega,by omega,by omega⟩ ?_
      simp only [w1,w2,w3,e2,capOf,slCap,hsz,Nat.sub_zero,f2,f3,f4,go,go1,opOk,opRes,owed_true,branch_true,branch_false,popTo,St.ev,St.put,binV,arith,shifts,unV,bndV,bndOk,isInt,isStr,intOf',strOf,rowAt,blkEs,slotIs,ldv,stv,fillV,partsV,mmV,mmGo,elems,PV.cells,PV.isAgg,PV.stor,Value.oneCell',Option.isSome_some,Option.getD_some,Option.map_some,Option.map_none,if_true,if_false,ite_true,ite_false,and_self,and_true,true_and,reduceCtorEq,true_or,or_true,List.set_cons_zero,List.set_cons_succ,List.getD_cons_zero,List.getD_cons_succ,List.getElem?_cons_zero,List.getElem?_cons_succ,List.map_cons,List.map_nil,List.length_map,List.length_cons,List.length_nil,List.length_set,List.cons_append,List.nil_append,List.drop_zero,List.drop_succ_cons,List.drop_nil,List.take_zero,List.take_succ_cons,List.take_nil,List.range_succ,List.range_zero,Nat.reduceAdd,Nat.reduceSub,Nat.reduceMul,Nat.reduceLT,Nat.reduceLeDiff,Nat.reduceEqDiff,Nat.zero_add,Nat.add_zero,Nat.lt_add_one,Int.reduceToNat,Int.toNat_natCast,Int.natCast_nonneg,Bool.not_true,Bool.not_false,decide_true,decide_false,Bool.true_eq_false,Bool.false_eq_true]
      refine owed_of ⟨by omega,by omega,by omega⟩ ?_
      simp only [w1,w2,w3,e2,capOf,slCap,hsz,Nat.sub_zero,f2,f3,f4,f9,f10,go,go1,opOk,opRes,owed_true,branch_true,branch_false,popTo,St.ev,St.put,binV,arith,shifts,unV,bndV,bndOk,isInt,isStr,intOf',strOf,rowAt,blkEs,slotIs,ldv,stv,fillV,partsV,mmV,mmGo,elems,PV.cells,PV.isAgg,PV.stor,Value.oneCell',Option.isSome_some,Option.getD_some,Option.map_some,Option.map_none,if_true,if_false,ite_true,ite_false,and_self,and_true,true_and,reduceCtorEq,true_or,or_true,List.set_cons_zero,List.set_cons_succ,List.getD_cons_zero,List.getD_cons_succ,List.getElem?_cons_zero,List.getElem?_cons_succ,List.map_cons,List.map_nil,List.length_map,List.length_cons,List.length_nil,List.length_set,List.cons_append,List.nil_append,List.drop_zero,List.drop_succ_cons,List.drop_nil,List.take_zero,List.take_succ_cons,List.take_nil,List.range_succ,List.range_zero,Nat.reduceAdd,Nat.reduceSub,Nat.reduceMul,Nat.reduceLT,Nat.reduceLeDiff,Nat.reduceEqDiff,Nat.zero_add,Nat.add_zero,Nat.lt_add_one,Int.reduceToNat,Int.toNat_natCast,Int.natCast_nonneg,Bool.not_true,Bool.not_false,decide_true,decide_false,Bool.true_eq_false,Bool.false_eq_true]
      refine owed_of ⟨by simp; omega,fun e he=>hce e (List.mem_of_mem_drop (List.mem_of_mem_take he))⟩ ?_
      simp only [w1,w2,w3,e2,capOf,slCap,hsz,Nat.sub_zero,f2,f3,f4,f9,f10,go,go1,opOk,opRes,owed_true,branch_true,branch_false,popTo,St.ev,St.put,binV,arith,shifts,unV,bndV,bndOk,isInt,isStr,intOf',strOf,rowAt,blkEs,slotIs,ldv,stv,fillV,partsV,mmV,mmGo,elems,PV.cells,PV.isAgg,PV.stor,Value.oneCell',Option.isSome_some,Option.getD_some,Option.map_some,Option.map_none,if_true,if_false,ite_true,ite_false,and_self,and_true,true_and,reduceCtorEq,true_or,or_true,List.set_cons_zero,List.set_cons_succ,List.getD_cons_zero,List.getD_cons_succ,List.getElem?_cons_zero,List.getElem?_cons_succ,List.map_cons,List.map_nil,List.length_map,List.length_cons,List.length_nil,List.length_set,List.cons_append,List.nil_append,List.drop_zero,List.drop_succ_cons,List.drop_nil,List.take_zero,List.take_succ_cons,List.take_nil,List.range_succ,List.range_zero,Nat.reduceAdd,Nat.reduceSub,Nat.reduceMul,Nat.reduceLT,Nat.reduceLeDiff,Nat.reduceEqDiff,Nat.zero_add,Nat.add_zero,Nat.lt_add_one,Int.reduceToNat,Int.toNat_natCast,Int.natCast_nonneg,Bool.not_true,Bool.not_false,decide_true,decide_false,Bool.true_eq_false,Bool.false_eq_true]
      refine hQ _ ⟨_,rfl,rfl,_,_,_,rfl,rfl,rfl,rfl,.inr ⟨2,1,rfl,by omega,?_⟩⟩
      simp only [List.getElem?_cons_zero,List.getElem?_cons_succ]
      rw [insLA hc hi hn]
theorem renB_id {q:Nat→Nat→Option (Nat×Nat)} {es:List PV} (h:∀ e ∈ es,ren q e=e):renB q (.cells es)=.cells es:=by
 simp only [renB,Blk.cells.injEq]
 exact (List.map_congr_left h).trans (List.map_id es)
structure InsF (P:Program) (f:Nat) (sz bytes:Nat) (z:PV):Prop where
 code:∃ fn c rr,P.funcs[f]?=some fn∧fn.body=some c∧callable P f=true∧fn.results=([6].map ResultVar.tmp).toArray∧fn.ntmps=95∧cCode P (slotF [25,40,67,93] 1) c=some (icIns sz bytes z rr)
 sz0:0 < sz
 hz:z.cells.length=sz
 hzs:z.stor=true
theorem ins_vcall_c {P:Program} (hm:P.follows .mixedOrders=true) {f sz bytes:Nat} {z:PV} (hF:InsF P f sz bytes z) {c n i:Nat} {es' ys:List PV} (hi:i≤n) (hn:n≤c) (hc:es'.length=c) (hce:∀ e ∈ es',e.cells.length=sz) (hy:ys≠[]) (hye:∀ e ∈ ys,e.cells.length=sz)
  (hb1:(n+ys.length) * bytes≤70368744177664) (hb2:n+ys.length≤70368744177664) (hre:∀ (q:Nat→Nat→Option (Nat×Nat)),∀ e,e ∈ es'∨e ∈ ys→ren q e=e) :
  VCall P f [.cells es'] [.own 0 0 sz 0 n (some c),vi i,.sl true ys] (InsR c n sz i es' ys):=by
 obtain ⟨fn,code,rr,hf,hb,hcl,hr,hnt,hic⟩:=hF.code
 refine vcall_of hm hf hb hcl hr (ts:=[6]) (al:=[25,40,67,93]) hic ?_
 rw [hnt]
 have m1:∀ e ∈ es'.take i++ys++(es'.take n).drop i++es'.drop (n+ys.length),e ∈ es'∨e ∈ ys:=by
  intro e he
  simp only [List.mem_append] at he
  rcases he with ((he | he) | he) | he
  ·exact .inl (List.mem_of_mem_take he)
  ·exact .inr he
  ·exact .inl (List.mem_of_mem_take (List.mem_of_mem_drop he))
  ·exact .inl (List.mem_of_mem_drop he)
 refine icWp_mono (fun e st h=>?_) (go_sound 1000 _ _ (ins_go (P:=P) (Q:=fun e st=>(e=.normal∨e=.ret)∧∃ st',Weak st st'∧∃ nb,(nb=none∨(finN st'.h ([.cells es']:List Blk).length nb).isSome=true)∧InsR c n sz i es' ys (ren (qf ([.cells es']:List Blk).length nb) (resV st' [6])) (finL st'.h ([.cells es']:List Blk).length nb) (finN st'.h ([.cells es']:List Blk).length nb))
  (rr:=rr) hF.sz0 hF.hz hF.hzs hi hn hc hce hy hye hb1 hb2 ?_))
 ·cases e<;>exact h
 ·rintro ⟨t,h,k⟩ ⟨t',rfl,hl,r,h',k',h6,rfl,rfl,hh,hr⟩
  refine ⟨.inr rfl,_,Weak.refl _,?_⟩
  have hres:resV ⟨t,h,k⟩ [6]=r:=by
   simp only [resV,St.ev,List.getD_eq_getElem?_getD]
   rw [h6]; rfl
  rw [hres]
  rcases hr with ⟨rfl,h0⟩ | ⟨b,s,rfl,h1,h0⟩
  ·refine ⟨none,.inl rfl,.inl ⟨?_,?_,rfl⟩⟩
   ·simp [ren,qf]
   ·simp only [finL,List.length_cons,List.length_nil,List.range_succ,List.range_zero,List.nil_append,List.map_cons,List.map_nil,h0,if_true]
    rw [renB_id (fun e he=>hre _ e (m1 e he))]
  ·refine ⟨some (b,s),.inr ?_,.inr ⟨?_,?_,?_⟩⟩
   ·simp [finN,h0,h1]
   ·have:¬ s < 1:=by omega
    simp [ren,qf,this]
   ·simp only [finL,List.length_cons,List.length_nil,List.range_succ,List.range_zero,List.nil_append,List.map_cons,List.map_nil]
    exact ⟨_,rfl⟩
   ·simp only [finN,h0,List.length_cons,List.length_nil,Nat.zero_add,h1,and_self,if_true]
    rw [renB_id (fun e he=>hre _ e (m1 e (by simp only [List.mem_append] at he ⊢; exact .inl he)))]
theorem grow_dead {C:Ctx} {st:St} {a:Act} {E:Env} (I:InvE C st a E) {b s:Nat} {es:List PV} {en:Ent} (hb:st.h[b]?=some (some (s,.cells es))) (hσ:E.σ s=some en) {k:Nat} (hk:es.length+k≤en.tot) :
  InvE C ⟨st.t,st.h.set b (some (s,.cells (es++List.replicate k (.agg (List.replicate en.sz .dead))))),st.n⟩ a E:=by
 have A:At E st.h b s (.cells es) en:=⟨hb,hσ⟩
 have:=I.upd A (k':=.cells (es++List.replicate k (.agg (List.replicate en.sz .dead)))) (w':=E.w) rfl rfl rfl rfl (fun r=>.inr rfl) (fun _=>?_)
 ·exact this
 ·obtain ⟨⟨b1,b2,b3,b4⟩,_⟩:=A.brep I.good
  refine ⟨by simpa using hk,b2,fun i e he=>?_,fun h0=>?_⟩
  ·rw [List.getElem?_append] at he
   split at he
   ·exact b3 i e he
   ·rw [List.getElem?_replicate] at he
    split at he
    ·cases he; simp [PV.cells]
    ·cases he
  ·obtain ⟨arr,t,g1,g2,g3,g4⟩:=b4 h0
   refine ⟨arr,t,g1,g2,fun i e j c he hc=>?_,g4⟩
   rw [List.getElem?_append] at he
   split at he
   ·exact g3 i e j c he hc
   ·rename_i hge
    rw [List.getElem?_replicate] at he
    split at he
    ·rename_i hlt
     cases he
     simp only [PV.cells,List.getElem?_replicate] at hc
     split at hc
     ·rename_i hj
      cases hc
      have:en.base+i * en.sz+j < arr.size:=by
       have:=Nat.mul_le_mul_right en.sz (show i+1≤en.tot by omega)
       rw [Nat.add_mul] at this
       omega
      exact ⟨arr[en.base+i * en.sz+j],Array.getElem?_eq_getElem this,.dead _⟩
     ·cases hc
    ·cases he
theorem fin_new {C:Ctx} {E:Env} {es1 es2 tl:List PV} {en:Ent} (I:InvE C ⟨[],slots [some (.cells es1)] none,2⟩ emptyAct E) (he:es1=es2++tl) (hre:∀ (q:Nat→Nat→Option (Nat×Nat)),∀ e ∈ es2,ren q e=e) (hσ:E.σ 0=some en) (hC:C.σ 1=none) :
  InvE C ⟨[],slots [none] (some (.cells es2)),2⟩ emptyAct ⟨E.w,giveAt E.σ 1 en,E.S⟩:=by
 have s1:slots [some (.cells es1)] none=[some (0,.cells es1),none]:=rfl
 have s2:slots [none] (some (.cells es2))=[none,some (1,.cells es2)]:=rfl
 rw [s1] at I
 rw [s2]
 have A:At E [some (0,.cells es1),none] 0 0 (.cells es1) en:=⟨rfl,hσ⟩
 obtain ⟨hB,hS⟩:=A.brep I.good
 have old:∀ (b s:Nat) (k:Blk),([none,some (1,.cells es2)]:List Slot)[b]?=some (some (s,k))→b=1∧s=1∧k=.cells es2:=by
  intro b s k h
  match b with
  | 0=>simp at h
  | 1=>simp at h; exact ⟨rfl,h.1.symm,h.2.symm⟩
  | b+2=>simp at h
 have ent:∀ (b s:Nat) (k:Blk) (en':Ent),At ⟨E.w,giveAt E.σ 1 en,E.S⟩ [none,some (1,.cells es2)] b s k en'→b=1∧en'=en:=by
  intro b s k en' A'
  obtain ⟨rfl,rfl,rfl⟩:=old _ _ _ A'.slot
  have:=A'.σ
  simp [giveAt] at this
  exact ⟨rfl,this.symm⟩
 refine { good:=⟨?_,?_,?_,I.good.stay⟩,since:=⟨I.since.os,I.since.tape,I.since.output,I.since.size,I.since.kept,?_,I.since.S1,I.since.S2,I.since.drawn⟩,touch:=?_,defers:=rfl,tsize:=rfl,tmps:=fun i p u hp=>by simp at hp }
 ·intro s hs
  have hs:2≤s:=hs
  have h1:s≠1:=by omega
  simp only [giveAt,h1,if_false]
  exact I.good.free s hs
 ·intro b s k hb
  obtain ⟨rfl,rfl,rfl⟩:=old _ _ _ hb
  refine ⟨en,⟨rfl,by simp [giveAt]⟩,?_,hS⟩
  obtain ⟨b1,b2,b3,b4⟩:=hB
  subst he
  have pre:∀ (i:Nat) (e:PV),es2[i]?=some e→(es2++tl)[i]?=some e:=fun i e h=>by
   rw [List.getElem?_append_left (List.getElem?_eq_some_iff.1 h).1]; exact h
  refine ⟨by simp at b1; omega,b2,fun i e he=>b3 i e (pre i e he),fun h0=>?_⟩
  obtain ⟨arr,t,g1,g2,g3,g4⟩:=b4 h0
  refine ⟨arr,t,g1,g2,fun i e j c he hc=>?_,g4⟩
  obtain ⟨u,hu,hr⟩:=g3 i e j c (pre i e he) hc
  refine ⟨u,hu,?_⟩
  have h1:=Rep.ren (E:=E) (E':=⟨E.w,giveAt E.σ 1 en,E.S⟩) (q:=fun _ _=>none) (fun _ h=>h) (fun _ _=>rfl) (fun b s b' s' en h=>by cases h) hr
  have h2:=hre (fun _ _=>none) e (List.mem_of_getElem? he)
  have h3:=ren_cells (fun _ _=>none) e
  rw [h2] at h3
  rw [h3,List.getElem?_map] at hc
  simp only [Option.map_eq_some_iff] at hc
  obtain ⟨c',hc',rfl⟩:=hc
  have h4:ren (fun _ _=>none) (ren (fun _ _=>none) c')=ren (fun _ _=>none) c':=by
   have:e.cells=e.cells.map (ren fun _ _=>none):=h3
   have h5:=congrArg (fun l=>l[j]?) this
   simp only [List.getElem?_map,hc',Option.map_some,Option.some.injEq] at h5
   rw [← h5,← h5]
  rwa [h4] at h1
 ·intro b b' s s' k k' en1 en2 A1 A2 _ _ _
  rw [(ent _ _ _ _ A1).1,(ent _ _ _ _ A2).1]
 ·intro b en' hb
  have:b≠1:=fun h=>by rw [h,hC] at hb; cases hb
  show giveAt E.σ 1 en b=some en'
  simp only [giveAt,this,if_false]
  exact I.since.σ b en' hb
 ·intro b s k en' A' h0
  obtain ⟨rfl,rfl⟩:=ent _ _ _ _ A'
  exact I.touch 0 0 _ _ A h0
theorem ins_vcall_n {P:Program} (hm:P.follows .mixedOrders=true) {f sz bytes:Nat} {z:PV} (hF:InsF P f sz bytes z) {i:Nat} {es ys:List PV} (hi:i≤es.length) (hce:∀ e ∈ es,e.cells.length=sz) (hy:ys≠[]) (hye:∀ e ∈ ys,e.cells.length=sz)
  (hb1:(es.length+ys.length) * bytes≤70368744177664) (hb2:es.length+ys.length≤70368744177664) (hre:∀ (q:Nat→Nat→Option (Nat×Nat)),∀ e,e ∈ es∨e ∈ ys→ren q e=e) :
  VCall P f [.cells es] [.own 0 0 sz 0 es.length none,vi i,.sl true ys] (fun r L' N=>r=.own 1 1 sz 0 (es.length+ys.length) none∧L'=[none]∧N=some (.cells (es.take i++ys++es.drop i))):=by
 refine ⟨(ins_vcall_c hm hF (c:=es.length) hi (Nat.le_refl _) rfl hce hy hye hb1 hb2 hre).1,fun W S ents vals hlen I hv hargs=>?_⟩
 obtain ⟨en,rfl⟩:∃ en,ents=[en]:=by
  match ents,hlen with
  | [en],_=>exact ⟨en,rfl⟩
 have h0:∃ u,vals[0]?=some u:=⟨vals[0]'(by rw [hv]; simp),Array.getElem?_eq_getElem _⟩
 obtain ⟨u,hu⟩:=h0
 have hrep:=hargs 0 _ u rfl hu
 obtain ⟨en',c,ad,rfl,hσ,hsz,had,hn,hlen',hc,htot,hcap⟩:=rep_own hrep
 obtain rfl:en'=en:=by simpa using hσ.symm
 have hct:c=en'.tot:=by have:=hcap rfl; omega
 have I':InvE ⟨W,(([en']:List Ent)[·]?),handed [en'],S⟩ ⟨[],slots [some (.cells (es++List.replicate (c - es.length) (.agg (List.replicate sz .dead))))] none,1⟩ emptyAct ⟨W,(([en']:List Ent)[·]?),S⟩:=by
  have:=grow_dead I (b:=0) (s:=0) (es:=es) (en:=en') rfl rfl (k:=c - es.length) (by omega)
  rw [hsz] at this
  exact this
 have hd:∀ e ∈ es++List.replicate (c - es.length) (PV.agg (List.replicate sz .dead)),e ∈ es∨e=.agg (List.replicate sz .dead):=by
  intro e he
  rcases List.mem_append.1 he with he | he
  ·exact .inl he
  ·exact .inr (List.mem_replicate.1 he).2
 have hrd:∀ (q:Nat→Nat→Option (Nat×Nat)),ren q (.agg (List.replicate sz .dead))=.agg (List.replicate sz .dead):=by
  intro q
  simp only [ren,renL_map,List.map_replicate]
 have main:=(ins_vcall_c hm hF (c:=c) (n:=es.length) (i:=i) (es':=es++List.replicate (c - es.length) (PV.agg (List.replicate sz PV.dead))) (ys:=ys) hi hlen' (by simp; omega)
  (fun e he=>by rcases hd e he with h | h; exact hce e h; rw [h]; simp [PV.cells]) hy hye hb1 hb2
  (fun q e he=>by
   rcases he with he | he
   ·rcases hd e he with h | h
    ·exact hre q e (.inl h)
    ·rw [h]; exact hrd q
   ·exact hre q e (.inr he))).2 W S [en'] vals rfl I' (by simpa using hv) (fun j p w hp hw=>?_)
 ·refine main.mono ?_
  rintro e W' ⟨v,r,L',N,σ',S',rfl,hR,hL,J,hr⟩
  have ht:(es++List.replicate (c - es.length) (PV.agg (List.replicate sz .dead))).take es.length=es:=by rw [List.take_append_of_le_length (Nat.le_refl _),List.take_length]
  have hti:(es++List.replicate (c - es.length) (PV.agg (List.replicate sz .dead))).take i=es.take i:=by rw [List.take_append_of_le_length hi]
  have hmem:∀ (q:Nat→Nat→Option (Nat×Nat)),∀ e ∈ es.take i++ys++es.drop i,ren q e=e:=by
   intro q e he
   simp only [List.mem_append] at he
   rcases he with (he | he) | he
   ·exact hre q e (.inl (List.mem_of_mem_take he))
   ·exact hre q e (.inr he)
   ·exact hre q e (.inl (List.mem_of_mem_drop he))
  have hσ0:σ' 0=some en':=J.since.σ 0 en' rfl
  unfold InsR at hR
  rw [ht,hti] at hR
  rcases hR with ⟨rfl,rfl,rfl⟩ | ⟨rfl,⟨o,rfl⟩,rfl⟩
  ·have J':=fin_new (E:=⟨W',σ',S'⟩) (es1:=es.take i++ys++es.drop i++(es++List.replicate (c - es.length) (PV.agg (List.replicate sz .dead))).drop (es.length+ys.length)) (es2:=es.take i++ys++es.drop i) (tl:=_) J rfl hmem hσ0 rfl
   refine ⟨v,_,_,_,_,S',rfl,⟨rfl,rfl,rfl⟩,rfl,J',?_⟩
   obtain ⟨en2,c2,ad2,rfl,q1,q2,q3,q4,q5,q6,q7,q8⟩:=rep_own hr
   obtain rfl:en2=en':=by rw [show (⟨W',σ',S'⟩:Env).σ 0=σ' 0 from rfl,hσ0] at q1; cases q1; rfl
   obtain rfl:=q6 c rfl
   rw [← q2]
   exact .own 1 1 0 (es.length+ys.length) none en2 c2 ad2 (by simp [giveAt]) q3 q4 q5 (by simp) q7 (fun _=>by omega)
  ·have J':=J.kill 0
   refine ⟨v,_,[none],_,σ',S',rfl,⟨rfl,rfl,rfl⟩,rfl,?_,hr⟩
   cases o<;>exact J'
 ·match j with
  | 0 =>
   simp only [List.getElem?_cons_zero,Option.some.injEq] at hp
   subst hp
   rw [hu] at hw
   cases hw
   rw [← hsz]
   exact .own 0 0 0 es.length (some c) en' c ad rfl had hn hlen' (fun k hk=>by cases hk; rfl) (by omega) (by simp)
  | j+1=>exact hargs (j+1) p w hp hw
theorem ins_vcall {P:Program} (hm:P.follows .mixedOrders=true) {f sz bytes:Nat} {z:PV} (hF:InsF P f sz bytes z) {i:Nat} {es ys:List PV} {cap:Option Nat} (hcap:cap=none∨cap=some es.length) (hi:i≤es.length) (hce:∀ e ∈ es,e.cells.length=sz) (hy:ys≠[]) (hye:∀ e ∈ ys,e.cells.length=sz)
  (hb1:(es.length+ys.length) * bytes≤70368744177664) (hb2:es.length+ys.length≤70368744177664) (hre:∀ (q:Nat→Nat→Option (Nat×Nat)),∀ e,e ∈ es∨e ∈ ys→ren q e=e) :
  VCall P f [.cells es] [.own 0 0 sz 0 es.length cap,vi i,.sl true ys] (fun r L' N=>r=.own 1 1 sz 0 (es.length+ys.length) none∧L'=[none]∧N=some (.cells (es.take i++ys++es.drop i))):=by
 rcases hcap with rfl | rfl
 ·exact ins_vcall_n hm hF hi hce hy hye hb1 hb2 hre
 have main:=ins_vcall_c hm hF (c:=es.length) hi (Nat.le_refl _) rfl hce hy hye hb1 hb2 hre
 refine ⟨main.1,fun W S ents vals hlen I hv hargs=>(main.2 W S ents vals hlen I hv hargs).mono ?_⟩
 rintro e W' ⟨v,r,L',N,σ',S',rfl,hR,hL,J,hr⟩
 have hm:0 < ys.length:=List.length_pos_iff.2 hy
 unfold InsR at hR
 rw [List.take_length] at hR
 rcases hR with ⟨rfl,rfl,rfl⟩ | ⟨rfl,⟨o,rfl⟩,rfl⟩
 ·obtain ⟨en2,c2,ad2,rfl,q1,q2,q3,q4,q5,q6,q7,q8⟩:=rep_own hr
  have:=q6 _ rfl
  omega
 ·have J':=J.kill 0
  refine ⟨v,_,[none],_,σ',S',rfl,⟨rfl,rfl,rfl⟩,rfl,?_,hr⟩
  cases o<;>exact J'
end Go.Proofs.Yticljphbbdnomaa.VL
