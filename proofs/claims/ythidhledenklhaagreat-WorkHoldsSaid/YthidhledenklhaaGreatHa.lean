/- Chapter 20: how long a term may be held: the guards, gone through. -/
import Derived.Test.YthidhledenklhaaGreatTa
import Derived.Test.YthidhledenklhaaGreatWc
import Derived.KernelRfl
namespace Go.Proofs.YthidhledenklhaaGreat.VL
open Go
set_option linter.unusedVariables false
set_option linter.unusedSimpArgs false
set_option linter.unusedSectionVars false
set_option maxRecDepth 100000
variable [Val]
theorem hm : Tryz.prog.follows .mixedOrders = true := by kernel_rfl

/-- A contract among all blocks, by reckoning. -/
def EndG (ts : List Nat) (r : PV) (h : List Slot) (n : Nat) (e : IExit) (st : St) : Prop := (e = .normal ∨ e = .ret) ∧ ∃ st', Weak st st' ∧ resV st' ts = r ∧ st'.h.take h.length = h ∧ st'.n = n
theorem resR_t (st : St) (ts : List Nat) : resR st (ts.map RV.t) = some (resV st ts) := by
  have : ∀ ts : List Nat, valsR st (ts.map RV.t) = some (ts.map fun t => st.ev (.t t)) := by
    intro ts
    induction ts with
    | nil => rfl
    | cons t r ih => simp only [List.map_cons, valsR, valR, ih]
  unfold resR
  rw [this]
  match ts with
  | [] => rfl
  | [t] => rfl
  | t :: t' :: r => rfl
theorem gcall_go {f : Nat} {fn : Func} {c : Code} {ic : ICode} {ts : List Nat} {args : List PV} {r : PV} {h : List Slot} {n : Nat} {slot : Option Nat → Nat} (nt m fuel : Nat)
    (hf : Tryz.prog.funcs[f]? = some fn) (hb : fn.body = some c) (hcl : callable Tryz.prog f = true) (hr : fn.results = (ts.map ResultVar.tmp).toArray) (hnt : fn.ntmps = nt) (hic : cCode Tryz.prog slot c = some ic)
    (hK : go Tryz.prog (EndG ts r h n) fuel [.code ic] ⟨args ++ List.replicate (nt - args.length) (.v undef), h ++ List.replicate m none, n⟩) : GCall Tryz.prog f args h n r h n := by
  subst hnt
  refine gcall_of (ts := ts.map RV.t) hm hf hb hcl (by rw [hr, List.map_map]; rfl) (by simp [RV.okB]) hic m ?_
  refine icWp_mono ?_ (go_sound fuel _ _ hK)
  rintro e st ⟨he, st', hw, h1, h2, h3⟩
  exact ⟨he, st', h.length, hw, by rw [resR_t, h1], h2, h3⟩
theorem called_g {s f : Nat} {args : List PV} {dst : Option Nat} {G : Cont} {k : List Itm} {st : St} {r : PV} {h' : List Slot} {n' : Nat} (h : GCall Tryz.prog f args st.h st.n r h' n') (hG : G k (St.put ⟨st.t, h', n'⟩ dst r)) : called Tryz.prog false s f args dst G k st := .inr (.inr ⟨rfl, r, h', n', h, hG⟩)

theorem wrapI {x : Int} (h0 : -9223372036854775808 ≤ x) (h1 : x ≤ 9223372036854775807) : IntKind.i64.wrap x = x := wrap_in h0 h1

/-- Too many ticks? -/
def fI (T D R x : Int) : Bool := decide (x + D + x.tdiv R ≥ T)
def boundB (D R : Int) : Bool := decide (0 ≤ D) && decide (D ≤ 1099511627776) && decide (1 ≤ R) && decide (R ≤ 1099511627776)
theorem div_range {x R : Int} (h0 : 0 ≤ x) (hR : 1 ≤ R) : 0 ≤ x.tdiv R ∧ x.tdiv R ≤ x := by
  have e := Int.tdiv_eq_ediv_of_nonneg (b := R) h0
  have h1 := Int.ediv_nonneg h0 (show 0 ≤ R by omega)
  have h2 := Int.ediv_le_self R h0
  omega
theorem div_mono {x y R : Int} (h0 : 0 ≤ x) (h : x ≤ y) (hR : 1 ≤ R) : x.tdiv R ≤ y.tdiv R := by
  rw [Int.tdiv_eq_ediv_of_nonneg (b := R) h0, Int.tdiv_eq_ediv_of_nonneg (b := R) (show 0 ≤ y by omega)]
  exact Int.ediv_le_ediv (by omega) h
theorem f_mono {T D R x y : Int} (h0 : 0 ≤ x) (h : x ≤ y) (hR : 1 ≤ R) (hf : fI T D R x = true) : fI T D R y = true := by
  have := div_mono h0 h hR
  simp only [fI, decide_eq_true_eq] at hf ⊢
  omega

/-- The three captured numbers' blocks. -/
def h3 (T D R : Int) : List Slot := [some (0, .cells [vi T]), some (1, .cells [vi D]), some (2, .cells [vi R]), none]
theorem guard1_ok (T D R x : Int) (hR : 1 ≤ R) (hR2 : R ≤ 1099511627776) (hD : 0 ≤ D) (hD2 : D ≤ 1099511627776) (hx : 0 ≤ x) (hx2 : x ≤ 1099511627777) :
    GCall Tryz.prog 82 [vi x, .optr 1 1 0 0, .optr 2 2 0 0, .optr 0 0 0 0] (h3 T D R ++ [none]) 3 (vb (fI T D R x)) (h3 T D R ++ [none]) 3 := by
  refine gcall_go 15 1 1000 Tryz.func82 rfl (by kernel_rfl) (ts := [5]) rfl rfl (slot := slotF [] 5) (ic := ic82.at 5) (by kernel_rfl) ?_
  have q := div_range hx hR
  have w1 : IntKind.i64.wrap (x + D) = x + D := wrapI (by omega) (by omega)
  have w2 : IntKind.i64.wrap (x.tdiv R) = x.tdiv R := wrapI (by omega) (by omega)
  have w3 : IntKind.i64.wrap (x + D + x.tdiv R) = x + D + x.tdiv R := wrapI (by omega) (by omega)
  have r0 : ¬ R = 0 := by omega
  simp only [ic82, ICode.at, atOps, IOper.at, IOp.at, h3, List.cons_append, List.nil_append, List.length_cons, List.length_nil, Nat.reduceAdd, Nat.reduceSub, List.replicate, List.append_nil]
  simp only [w1, w2, w3, r0, go, go1, opOk, opRes, owed_true, branch_true, branch_false, popTo, St.ev, St.put, binV, arith, shifts, unV, bndV, bndOk, isInt, isStr, intOf', strOf, rowAt, blkEs, slotIs, ldv, stv, fillV, partsV, mmV, mmGo, elems, PV.cells, PV.isAgg, PV.stor, Value.oneCell', Option.isSome_some, Option.getD_some, Option.map_some, Option.map_none, if_true, if_false, ite_true, ite_false, and_self, and_true, true_and, reduceCtorEq, true_or, or_true, List.set_cons_zero, List.set_cons_succ, List.getD_cons_zero, List.getD_cons_succ, List.getElem?_cons_zero, List.getElem?_cons_succ, List.map_cons, List.map_nil, List.length_map, List.length_cons, List.length_nil, List.length_set, List.cons_append, List.nil_append, List.drop_zero, List.drop_succ_cons, List.drop_nil, List.take_zero, List.take_succ_cons, List.take_nil, List.range_succ, List.range_zero, Nat.reduceAdd, Nat.reduceSub, Nat.reduceMul, Nat.reduceLT, Nat.reduceLeDiff, Nat.reduceEqDiff, Nat.zero_add, Nat.add_zero, Nat.lt_add_one, Int.reduceToNat, Int.toNat_natCast, Int.natCast_nonneg, Bool.not_true, Bool.not_false, decide_true, decide_false, Bool.true_eq_false, Bool.false_eq_true]
  exact ⟨.inr rfl, _, Weak.refl _, by simp [resV, St.ev, fI], rfl, rfl⟩

def srI (T D R : Int) (H n : Nat) (m : Nat) (st : St) : Prop := ∃ i j : Nat, i ≤ H ∧ H ≤ j ∧ j ≤ n ∧ m = j - i ∧ st = ⟨[.dead, .clo 82 [] [.optr 1 1 0 0, .optr 2 2 0 0, .optr 0 0 0 0], .dead, .dead, .dead, vi i, vi j, .dead, .dead, .dead, .dead, .dead, .dead, .dead, .dead, .dead, .dead, .dead, .dead, .dead, .dead, .dead, .dead, .dead, .dead, .dead], h3 T D R ++ [none], 3⟩
theorem search_ok (T D R : Int) (H n : Nat) (hn : (n : Int) ≤ 1099511627777) (hR : 1 ≤ R) (hR2 : R ≤ 1099511627776) (hD : 0 ≤ D) (hD2 : D ≤ 1099511627776) (hH : H ≤ n) (hlo : ∀ x : Nat, x < H → fI T D R x = false) (hhi : ∀ x : Nat, H ≤ x → fI T D R x = true) :
    GCall Tryz.prog 81 [vi n, .clo 82 [] [.optr 1 1 0 0, .optr 2 2 0 0, .optr 0 0 0 0]] (h3 T D R) 3 (vi H) (h3 T D R) 3 := by
  refine gcall_go 26 1 1000 Tryz.func81 rfl (by kernel_rfl) (ts := [4]) rfl rfl (slot := slotF [] 4) (ic := ic81.at 4) (by kernel_rfl) ?_
  simp only [ic81, ICode.at, atOps, IOper.at, IOp.at, h3, List.cons_append, List.nil_append, List.length_cons, List.length_nil, Nat.reduceAdd, Nat.reduceSub, List.replicate, List.append_nil]
  simp only [go, go1, opOk, opRes, owed_true, branch_true, branch_false, popTo, St.ev, St.put, binV, arith, shifts, unV, bndV, bndOk, isInt, isStr, intOf', strOf, rowAt, blkEs, slotIs, ldv, stv, fillV, partsV, mmV, mmGo, elems, PV.cells, PV.isAgg, PV.stor, Value.oneCell', Option.isSome_some, Option.getD_some, Option.map_some, Option.map_none, if_true, if_false, ite_true, ite_false, and_self, and_true, true_and, reduceCtorEq, true_or, or_true, List.set_cons_zero, List.set_cons_succ, List.getD_cons_zero, List.getD_cons_succ, List.getElem?_cons_zero, List.getElem?_cons_succ, List.map_cons, List.map_nil, List.length_map, List.length_cons, List.length_nil, List.length_set, List.cons_append, List.nil_append, List.drop_zero, List.drop_succ_cons, List.drop_nil, List.take_zero, List.take_succ_cons, List.take_nil, List.range_succ, List.range_zero, Nat.reduceAdd, Nat.reduceSub, Nat.reduceMul, Nat.reduceLT, Nat.reduceLeDiff, Nat.reduceEqDiff, Nat.zero_add, Nat.add_zero, Nat.lt_add_one, Int.reduceToNat, Int.toNat_natCast, Int.natCast_nonneg, Bool.not_true, Bool.not_false, decide_true, decide_false, Bool.true_eq_false, Bool.false_eq_true]
  refine looped_of (srI T D R H n) n (Weak.keep _ [1, 5, 6] [0, 1, 2]) ⟨0, n, Nat.zero_le _, hH, Nat.le_refl _, rfl, by simp [St.keep, keepT, keepS, h3]⟩ 1000 ?_
  rintro m st ⟨i, j, hi, hj, hjn, hm', rfl⟩
  simp only [go, go1, opOk, opRes, owed_true, branch_true, branch_false, popTo, St.ev, St.put, binV, arith, shifts, unV, bndV, bndOk, isInt, isStr, intOf', strOf, rowAt, blkEs, slotIs, ldv, stv, fillV, partsV, mmV, mmGo, elems, PV.cells, PV.isAgg, PV.stor, Value.oneCell', Option.isSome_some, Option.getD_some, Option.map_some, Option.map_none, if_true, if_false, ite_true, ite_false, and_self, and_true, true_and, reduceCtorEq, true_or, or_true, List.set_cons_zero, List.set_cons_succ, List.getD_cons_zero, List.getD_cons_succ, List.getElem?_cons_zero, List.getElem?_cons_succ, List.map_cons, List.map_nil, List.length_map, List.length_cons, List.length_nil, List.length_set, List.cons_append, List.nil_append, List.drop_zero, List.drop_succ_cons, List.drop_nil, List.take_zero, List.take_succ_cons, List.take_nil, List.range_succ, List.range_zero, Nat.reduceAdd, Nat.reduceSub, Nat.reduceMul, Nat.reduceLT, Nat.reduceLeDiff, Nat.reduceEqDiff, Nat.zero_add, Nat.add_zero, Nat.lt_add_one, Int.reduceToNat, Int.toNat_natCast, Int.natCast_nonneg, Bool.not_true, Bool.not_false, decide_true, decide_false, Bool.true_eq_false, Bool.false_eq_true]
  by_cases hlt : i < j
  · have hlt' : (i : Int) < (j : Int) := by omega
    have w1 : IntKind.i64.wrap ((i : Int) + (j : Int)) = (i : Int) + j := wrapI (by omega) (by omega)
    have w2 : IntKind.u64.wrap ((i : Int) + (j : Int)) = (i : Int) + j := wrap_in (k := .u64) (by simp [ikLo]; omega) (by simp [ikHi]; omega)
    have w3 : ((i : Int) + j).fdiv (2 ^ (min 1 IntKind.u64.bits)) = (((i + j) / 2 : Nat) : Int) := by
      have : (2 ^ (min 1 IntKind.u64.bits) : Int) = 2 := by decide
      rw [this, Int.fdiv_eq_ediv_of_nonneg _ (by omega)]
      omega
    have w4 : IntKind.i64.wrap (((i + j) / 2 : Nat) : Int) = (((i + j) / 2 : Nat) : Int) := wrapI (by omega) (by omega)
    have n1 : ¬ (1 : Int) < 0 := by omega
    simp only [hlt', w1, w2, w3, w4, n1, go, go1, opOk, opRes, owed_true, branch_true, branch_false, popTo, St.ev, St.put, binV, arith, shifts, unV, bndV, bndOk, isInt, isStr, intOf', strOf, rowAt, blkEs, slotIs, ldv, stv, fillV, partsV, mmV, mmGo, elems, PV.cells, PV.isAgg, PV.stor, Value.oneCell', Option.isSome_some, Option.getD_some, Option.map_some, Option.map_none, if_true, if_false, ite_true, ite_false, and_self, and_true, true_and, reduceCtorEq, true_or, or_true, List.set_cons_zero, List.set_cons_succ, List.getD_cons_zero, List.getD_cons_succ, List.getElem?_cons_zero, List.getElem?_cons_succ, List.map_cons, List.map_nil, List.length_map, List.length_cons, List.length_nil, List.length_set, List.cons_append, List.nil_append, List.drop_zero, List.drop_succ_cons, List.drop_nil, List.take_zero, List.take_succ_cons, List.take_nil, List.range_succ, List.range_zero, Nat.reduceAdd, Nat.reduceSub, Nat.reduceMul, Nat.reduceLT, Nat.reduceLeDiff, Nat.reduceEqDiff, Nat.zero_add, Nat.add_zero, Nat.lt_add_one, Int.reduceToNat, Int.toNat_natCast, Int.natCast_nonneg, Bool.not_true, Bool.not_false, decide_true, decide_false, Bool.true_eq_false, Bool.false_eq_true]
    have hg := guard1_ok T D R (((i + j) / 2 : Nat) : Int) hR hR2 hD hD2 (by omega) (by omega)
    refine called_g (h' := h3 T D R ++ [none]) (n' := 3) (r := vb (fI T D R (((i + j) / 2 : Nat) : Int))) (by simpa using hg) ?_
    cases hf : fI T D R (((i + j) / 2 : Nat) : Int)
    · have w5 : IntKind.i64.wrap ((((i + j) / 2 : Nat) : Int) + 1) = (((i + j) / 2 + 1 : Nat) : Int) := by rw [wrapI (by omega) (by omega)]; omega
      simp only [w5, go, go1, opOk, opRes, owed_true, branch_true, branch_false, popTo, St.ev, St.put, binV, arith, shifts, unV, bndV, bndOk, isInt, isStr, intOf', strOf, rowAt, blkEs, slotIs, ldv, stv, fillV, partsV, mmV, mmGo, elems, PV.cells, PV.isAgg, PV.stor, Value.oneCell', Option.isSome_some, Option.getD_some, Option.map_some, Option.map_none, if_true, if_false, ite_true, ite_false, and_self, and_true, true_and, reduceCtorEq, true_or, or_true, List.set_cons_zero, List.set_cons_succ, List.getD_cons_zero, List.getD_cons_succ, List.getElem?_cons_zero, List.getElem?_cons_succ, List.map_cons, List.map_nil, List.length_map, List.length_cons, List.length_nil, List.length_set, List.cons_append, List.nil_append, List.drop_zero, List.drop_succ_cons, List.drop_nil, List.take_zero, List.take_succ_cons, List.take_nil, List.range_succ, List.range_zero, Nat.reduceAdd, Nat.reduceSub, Nat.reduceMul, Nat.reduceLT, Nat.reduceLeDiff, Nat.reduceEqDiff, Nat.zero_add, Nat.add_zero, Nat.lt_add_one, Int.reduceToNat, Int.toNat_natCast, Int.natCast_nonneg, Bool.not_true, Bool.not_false, decide_true, decide_false, Bool.true_eq_false, Bool.false_eq_true]
      have hlt2 : (i + j) / 2 < H := by
        apply Classical.byContradiction
        intro hc
        rw [hhi _ (by omega)] at hf; cases hf
      refine again_of (j - ((i + j) / 2 + 1)) (by omega) (Weak.keep _ [1, 5, 6] [0, 1, 2]) ⟨(i + j) / 2 + 1, j, by omega, hj, hjn, rfl, by simp [St.keep, keepT, keepS, h3]⟩
    · simp only [go, go1, opOk, opRes, owed_true, branch_true, branch_false, popTo, St.ev, St.put, binV, arith, shifts, unV, bndV, bndOk, isInt, isStr, intOf', strOf, rowAt, blkEs, slotIs, ldv, stv, fillV, partsV, mmV, mmGo, elems, PV.cells, PV.isAgg, PV.stor, Value.oneCell', Option.isSome_some, Option.getD_some, Option.map_some, Option.map_none, if_true, if_false, ite_true, ite_false, and_self, and_true, true_and, reduceCtorEq, true_or, or_true, List.set_cons_zero, List.set_cons_succ, List.getD_cons_zero, List.getD_cons_succ, List.getElem?_cons_zero, List.getElem?_cons_succ, List.map_cons, List.map_nil, List.length_map, List.length_cons, List.length_nil, List.length_set, List.cons_append, List.nil_append, List.drop_zero, List.drop_succ_cons, List.drop_nil, List.take_zero, List.take_succ_cons, List.take_nil, List.range_succ, List.range_zero, Nat.reduceAdd, Nat.reduceSub, Nat.reduceMul, Nat.reduceLT, Nat.reduceLeDiff, Nat.reduceEqDiff, Nat.zero_add, Nat.add_zero, Nat.lt_add_one, Int.reduceToNat, Int.toNat_natCast, Int.natCast_nonneg, Bool.not_true, Bool.not_false, decide_true, decide_false, Bool.true_eq_false, Bool.false_eq_true]
      have hge : H ≤ (i + j) / 2 := by
        apply Classical.byContradiction
        intro hc
        rw [hlo _ (by omega)] at hf; cases hf
      refine again_of ((i + j) / 2 - i) (by omega) (Weak.keep _ [1, 5, 6] [0, 1, 2]) ⟨i, (i + j) / 2, hi, hge, by omega, rfl, by simp [St.keep, keepT, keepS, h3]⟩
  · have hge : ¬ (i : Int) < (j : Int) := by omega
    have e : i = H := by omega
    simp only [hge, go, go1, opOk, opRes, owed_true, branch_true, branch_false, popTo, St.ev, St.put, binV, arith, shifts, unV, bndV, bndOk, isInt, isStr, intOf', strOf, rowAt, blkEs, slotIs, ldv, stv, fillV, partsV, mmV, mmGo, elems, PV.cells, PV.isAgg, PV.stor, Value.oneCell', Option.isSome_some, Option.getD_some, Option.map_some, Option.map_none, if_true, if_false, ite_true, ite_false, and_self, and_true, true_and, reduceCtorEq, true_or, or_true, List.set_cons_zero, List.set_cons_succ, List.getD_cons_zero, List.getD_cons_succ, List.getElem?_cons_zero, List.getElem?_cons_succ, List.map_cons, List.map_nil, List.length_map, List.length_cons, List.length_nil, List.length_set, List.cons_append, List.nil_append, List.drop_zero, List.drop_succ_cons, List.drop_nil, List.take_zero, List.take_succ_cons, List.take_nil, List.range_succ, List.range_zero, Nat.reduceAdd, Nat.reduceSub, Nat.reduceMul, Nat.reduceLT, Nat.reduceLeDiff, Nat.reduceEqDiff, Nat.zero_add, Nat.add_zero, Nat.lt_add_one, Int.reduceToNat, Int.toNat_natCast, Int.natCast_nonneg, Bool.not_true, Bool.not_false, decide_true, decide_false, Bool.true_eq_false, Bool.false_eq_true]
    exact ⟨.inr rfl, _, Weak.refl _, by simp [resV, St.ev, e], rfl, rfl⟩
end Go.Proofs.YthidhledenklhaaGreat.VL
