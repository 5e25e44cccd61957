/- Chapter 20: how long a term may be held, gone through. -/
import Derived.Test.YthidhledenklhaaGreatHa
namespace Go.Proofs.YthidhledenklhaaGreat.VL
open Go
set_option linter.unusedVariables false
set_option linter.unusedSimpArgs false
set_option linter.unusedSectionVars false
set_option maxRecDepth 100000
variable [Val]

theorem bound_at {D R : Int} (h : boundB D R = true) : 0 ≤ D ∧ D ≤ 1099511627776 ∧ 1 ≤ R ∧ R ≤ 1099511627776 := by
  simp only [boundB, Bool.and_eq_true, decide_eq_true_eq] at h
  omega
theorem bound38 (D R : Int) : VPure Tryz.prog 38 [vi D, vi R] (vb (boundB D R)) := by
  refine vpure_go hm 19 1000 Tryz.func38 rfl (by kernel_rfl) (ts := [4]) rfl rfl ic38_ok rfl rfl ?_
  simp only [startSt, List.replicate, List.cons_append, List.nil_append, List.append_nil, List.length_cons, List.length_nil, List.zipIdx_nil, List.map_nil, Nat.reduceAdd, Nat.reduceSub, ic38]
  by_cases a : 0 ≤ D
  · by_cases b : D ≤ 1099511627776
    · by_cases c : 1 ≤ R
      · by_cases d : R ≤ 1099511627776
        · simp only [a, b, c, d, go, go1, opOk, opRes, owed_true, branch_true, branch_false, popTo, St.ev, St.put, binV, arith, shifts, unV, bndV, bndOk, isInt, isStr, intOf', strOf, rowAt, blkEs, slotIs, ldv, stv, fillV, partsV, mmV, mmGo, elems, PV.cells, PV.isAgg, PV.stor, Value.oneCell', Option.isSome_some, Option.getD_some, Option.map_some, Option.map_none, if_true, if_false, ite_true, ite_false, and_self, and_true, true_and, reduceCtorEq, true_or, or_true, List.set_cons_zero, List.set_cons_succ, List.getD_cons_zero, List.getD_cons_succ, List.getElem?_cons_zero, List.getElem?_cons_succ, List.map_cons, List.map_nil, List.length_map, List.length_cons, List.length_nil, List.length_set, List.cons_append, List.nil_append, List.drop_zero, List.drop_succ_cons, List.drop_nil, List.take_zero, List.take_succ_cons, List.take_nil, List.range_succ, List.range_zero, Nat.reduceAdd, Nat.reduceSub, Nat.reduceMul, Nat.reduceLT, Nat.reduceLeDiff, Nat.reduceEqDiff, Nat.zero_add, Nat.add_zero, Nat.lt_add_one, Int.reduceToNat, Int.toNat_natCast, Int.natCast_nonneg, Bool.not_true, Bool.not_false, decide_true, decide_false, Bool.true_eq_false, Bool.false_eq_true]
          exact ended_ret (by simp [resV, St.ev, boundB, a, b, c, d])
        · simp only [a, b, c, d, go, go1, opOk, opRes, owed_true, branch_true, branch_false, popTo, St.ev, St.put, binV, arith, shifts, unV, bndV, bndOk, isInt, isStr, intOf', strOf, rowAt, blkEs, slotIs, ldv, stv, fillV, partsV, mmV, mmGo, elems, PV.cells, PV.isAgg, PV.stor, Value.oneCell', Option.isSome_some, Option.getD_some, Option.map_some, Option.map_none, if_true, if_false, ite_true, ite_false, and_self, and_true, true_and, reduceCtorEq, true_or, or_true, List.set_cons_zero, List.set_cons_succ, List.getD_cons_zero, List.getD_cons_succ, List.getElem?_cons_zero, List.getElem?_cons_succ, List.map_cons, List.map_nil, List.length_map, List.length_cons, List.length_nil, List.length_set, List.cons_append, List.nil_append, List.drop_zero, List.drop_succ_cons, List.drop_nil, List.take_zero, List.take_succ_cons, List.take_nil, List.range_succ, List.range_zero, Nat.reduceAdd, Nat.reduceSub, Nat.reduceMul, Nat.reduceLT, Nat.reduceLeDiff, Nat.reduceEqDiff, Nat.zero_add, Nat.add_zero, Nat.lt_add_one, Int.reduceToNat, Int.toNat_natCast, Int.natCast_nonneg, Bool.not_true, Bool.not_false, decide_true, decide_false, Bool.true_eq_false, Bool.false_eq_true]
          exact ended_ret (by simp [resV, St.ev, boundB, a, b, c, d])
      · simp only [a, b, c, go, go1, opOk, opRes, owed_true, branch_true, branch_false, popTo, St.ev, St.put, binV, arith, shifts, unV, bndV, bndOk, isInt, isStr, intOf', strOf, rowAt, blkEs, slotIs, ldv, stv, fillV, partsV, mmV, mmGo, elems, PV.cells, PV.isAgg, PV.stor, Value.oneCell', Option.isSome_some, Option.getD_some, Option.map_some, Option.map_none, if_true, if_false, ite_true, ite_false, and_self, and_true, true_and, reduceCtorEq, true_or, or_true, List.set_cons_zero, List.set_cons_succ, List.getD_cons_zero, List.getD_cons_succ, List.getElem?_cons_zero, List.getElem?_cons_succ, List.map_cons, List.map_nil, List.length_map, List.length_cons, List.length_nil, List.length_set, List.cons_append, List.nil_append, List.drop_zero, List.drop_succ_cons, List.drop_nil, List.take_zero, List.take_succ_cons, List.take_nil, List.range_succ, List.range_zero, Nat.reduceAdd, Nat.reduceSub, Nat.reduceMul, Nat.reduceLT, Nat.reduceLeDiff, Nat.reduceEqDiff, Nat.zero_add, Nat.add_zero, Nat.lt_add_one, Int.reduceToNat, Int.toNat_natCast, Int.natCast_nonneg, Bool.not_true, Bool.not_false, decide_true, decide_false, Bool.true_eq_false, Bool.false_eq_true]
        exact ended_ret (by simp [resV, St.ev, boundB, a, b, c])
    · simp only [a, b, go, go1, opOk, opRes, owed_true, branch_true, branch_false, popTo, St.ev, St.put, binV, arith, shifts, unV, bndV, bndOk, isInt, isStr, intOf', strOf, rowAt, blkEs, slotIs, ldv, stv, fillV, partsV, mmV, mmGo, elems, PV.cells, PV.isAgg, PV.stor, Value.oneCell', Option.isSome_some, Option.getD_some, Option.map_some, Option.map_none, if_true, if_false, ite_true, ite_false, and_self, and_true, true_and, reduceCtorEq, true_or, or_true, List.set_cons_zero, List.set_cons_succ, List.getD_cons_zero, List.getD_cons_succ, List.getElem?_cons_zero, List.getElem?_cons_succ, List.map_cons, List.map_nil, List.length_map, List.length_cons, List.length_nil, List.length_set, List.cons_append, List.nil_append, List.drop_zero, List.drop_succ_cons, List.drop_nil, List.take_zero, List.take_succ_cons, List.take_nil, List.range_succ, List.range_zero, Nat.reduceAdd, Nat.reduceSub, Nat.reduceMul, Nat.reduceLT, Nat.reduceLeDiff, Nat.reduceEqDiff, Nat.zero_add, Nat.add_zero, Nat.lt_add_one, Int.reduceToNat, Int.toNat_natCast, Int.natCast_nonneg, Bool.not_true, Bool.not_false, decide_true, decide_false, Bool.true_eq_false, Bool.false_eq_true]
      exact ended_ret (by simp [resV, St.ev, boundB, a, b])
  · simp only [a, go, go1, opOk, opRes, owed_true, branch_true, branch_false, popTo, St.ev, St.put, binV, arith, shifts, unV, bndV, bndOk, isInt, isStr, intOf', strOf, rowAt, blkEs, slotIs, ldv, stv, fillV, partsV, mmV, mmGo, elems, PV.cells, PV.isAgg, PV.stor, Value.oneCell', Option.isSome_some, Option.getD_some, Option.map_some, Option.map_none, if_true, if_false, ite_true, ite_false, and_self, and_true, true_and, reduceCtorEq, true_or, or_true, List.set_cons_zero, List.set_cons_succ, List.getD_cons_zero, List.getD_cons_succ, List.getElem?_cons_zero, List.getElem?_cons_succ, List.map_cons, List.map_nil, List.length_map, List.length_cons, List.length_nil, List.length_set, List.cons_append, List.nil_append, List.drop_zero, List.drop_succ_cons, List.drop_nil, List.take_zero, List.take_succ_cons, List.take_nil, List.range_succ, List.range_zero, Nat.reduceAdd, Nat.reduceSub, Nat.reduceMul, Nat.reduceLT, Nat.reduceLeDiff, Nat.reduceEqDiff, Nat.zero_add, Nat.add_zero, Nat.lt_add_one, Int.reduceToNat, Int.toNat_natCast, Int.natCast_nonneg, Bool.not_true, Bool.not_false, decide_true, decide_false, Bool.true_eq_false, Bool.false_eq_true]
    exact ended_ret (by simp [resV, St.ev, boundB, a])
theorem bound80 (D R : Int) : VPure Tryz.prog 80 [vi D, vi R] (vb (boundB D R)) := by
  refine vpure_go hm 19 1000 Tryz.func80 rfl (by kernel_rfl) (ts := [4]) rfl rfl ic80_ok rfl rfl ?_
  simp only [startSt, List.replicate, List.cons_append, List.nil_append, List.append_nil, List.length_cons, List.length_nil, List.zipIdx_nil, List.map_nil, Nat.reduceAdd, Nat.reduceSub, ic80]
  by_cases a : 0 ≤ D
  · by_cases b : D ≤ 1099511627776
    · by_cases c : 1 ≤ R
      · by_cases d : R ≤ 1099511627776
        · simp only [a, b, c, d, ge_iff_le, go, go1, opOk, opRes, owed_true, branch_true, branch_false, popTo, St.ev, St.put, binV, arith, shifts, unV, bndV, bndOk, isInt, isStr, intOf', strOf, rowAt, blkEs, slotIs, ldv, stv, fillV, partsV, mmV, mmGo, elems, PV.cells, PV.isAgg, PV.stor, Value.oneCell', Option.isSome_some, Option.getD_some, Option.map_some, Option.map_none, if_true, if_false, ite_true, ite_false, and_self, and_true, true_and, reduceCtorEq, true_or, or_true, List.set_cons_zero, List.set_cons_succ, List.getD_cons_zero, List.getD_cons_succ, List.getElem?_cons_zero, List.getElem?_cons_succ, List.map_cons, List.map_nil, List.length_map, List.length_cons, List.length_nil, List.length_set, List.cons_append, List.nil_append, List.drop_zero, List.drop_succ_cons, List.drop_nil, List.take_zero, List.take_succ_cons, List.take_nil, List.range_succ, List.range_zero, Nat.reduceAdd, Nat.reduceSub, Nat.reduceMul, Nat.reduceLT, Nat.reduceLeDiff, Nat.reduceEqDiff, Nat.zero_add, Nat.add_zero, Nat.lt_add_one, Int.reduceToNat, Int.toNat_natCast, Int.natCast_nonneg, Bool.not_true, Bool.not_false, decide_true, decide_false, Bool.true_eq_false, Bool.false_eq_true]
          exact ended_ret (by simp [resV, St.ev, boundB, a, b, c, d])
        · simp only [a, b, c, d, ge_iff_le, go, go1, opOk, opRes, owed_true, branch_true, branch_false, popTo, St.ev, St.put, binV, arith, shifts, unV, bndV, bndOk, isInt, isStr, intOf', strOf, rowAt, blkEs, slotIs, ldv, stv, fillV, partsV, mmV, mmGo, elems, PV.cells, PV.isAgg, PV.stor, Value.oneCell', Option.isSome_some, Option.getD_some, Option.map_some, Option.map_none, if_true, if_false, ite_true, ite_false, and_self, and_true, true_and, reduceCtorEq, true_or, or_true, List.set_cons_zero, List.set_cons_succ, List.getD_cons_zero, List.getD_cons_succ, List.getElem?_cons_zero, List.getElem?_cons_succ, List.map_cons, List.map_nil, List.length_map, List.length_cons, List.length_nil, List.length_set, List.cons_append, List.nil_append, List.drop_zero, List.drop_succ_cons, List.drop_nil, List.take_zero, List.take_succ_cons, List.take_nil, List.range_succ, List.range_zero, Nat.reduceAdd, Nat.reduceSub, Nat.reduceMul, Nat.reduceLT, Nat.reduceLeDiff, Nat.reduceEqDiff, Nat.zero_add, Nat.add_zero, Nat.lt_add_one, Int.reduceToNat, Int.toNat_natCast, Int.natCast_nonneg, Bool.not_true, Bool.not_false, decide_true, decide_false, Bool.true_eq_false, Bool.false_eq_true]
          exact ended_ret (by simp [resV, St.ev, boundB, a, b, c, d])
      · simp only [a, b, c, ge_iff_le, go, go1, opOk, opRes, owed_true, branch_true, branch_false, popTo, St.ev, St.put, binV, arith, shifts, unV, bndV, bndOk, isInt, isStr, intOf', strOf, rowAt, blkEs, slotIs, ldv, stv, fillV, partsV, mmV, mmGo, elems, PV.cells, PV.isAgg, PV.stor, Value.oneCell', Option.isSome_some, Option.getD_some, Option.map_some, Option.map_none, if_true, if_false, ite_true, ite_false, and_self, and_true, true_and, reduceCtorEq, true_or, or_true, List.set_cons_zero, List.set_cons_succ, List.getD_cons_zero, List.getD_cons_succ, List.getElem?_cons_zero, List.getElem?_cons_succ, List.map_cons, List.map_nil, List.length_map, List.length_cons, List.length_nil, List.length_set, List.cons_append, List.nil_append, List.drop_zero, List.drop_succ_cons, List.drop_nil, List.take_zero, List.take_succ_cons, List.take_nil, List.range_succ, List.range_zero, Nat.reduceAdd, Nat.reduceSub, Nat.reduceMul, Nat.reduceLT, Nat.reduceLeDiff, Nat.reduceEqDiff, Nat.zero_add, Nat.add_zero, Nat.lt_add_one, Int.reduceToNat, Int.toNat_natCast, Int.natCast_nonneg, Bool.not_true, Bool.not_false, decide_true, decide_false, Bool.true_eq_false, Bool.false_eq_true]
        exact ended_ret (by simp [resV, St.ev, boundB, a, b, c])
    · simp only [a, b, ge_iff_le, go, go1, opOk, opRes, owed_true, branch_true, branch_false, popTo, St.ev, St.put, binV, arith, shifts, unV, bndV, bndOk, isInt, isStr, intOf', strOf, rowAt, blkEs, slotIs, ldv, stv, fillV, partsV, mmV, mmGo, elems, PV.cells, PV.isAgg, PV.stor, Value.oneCell', Option.isSome_some, Option.getD_some, Option.map_some, Option.map_none, if_true, if_false, ite_true, ite_false, and_self, and_true, true_and, reduceCtorEq, true_or, or_true, List.set_cons_zero, List.set_cons_succ, List.getD_cons_zero, List.getD_cons_succ, List.getElem?_cons_zero, List.getElem?_cons_succ, List.map_cons, List.map_nil, List.length_map, List.length_cons, List.length_nil, List.length_set, List.cons_append, List.nil_append, List.drop_zero, List.drop_succ_cons, List.drop_nil, List.take_zero, List.take_succ_cons, List.take_nil, List.range_succ, List.range_zero, Nat.reduceAdd, Nat.reduceSub, Nat.reduceMul, Nat.reduceLT, Nat.reduceLeDiff, Nat.reduceEqDiff, Nat.zero_add, Nat.add_zero, Nat.lt_add_one, Int.reduceToNat, Int.toNat_natCast, Int.natCast_nonneg, Bool.not_true, Bool.not_false, decide_true, decide_false, Bool.true_eq_false, Bool.false_eq_true]
      exact ended_ret (by simp [resV, St.ev, boundB, a, b])
  · simp only [a, ge_iff_le, go, go1, opOk, opRes, owed_true, branch_true, branch_false, popTo, St.ev, St.put, binV, arith, shifts, unV, bndV, bndOk, isInt, isStr, intOf', strOf, rowAt, blkEs, slotIs, ldv, stv, fillV, partsV, mmV, mmGo, elems, PV.cells, PV.isAgg, PV.stor, Value.oneCell', Option.isSome_some, Option.getD_some, Option.map_some, Option.map_none, if_true, if_false, ite_true, ite_false, and_self, and_true, true_and, reduceCtorEq, true_or, or_true, List.set_cons_zero, List.set_cons_succ, List.getD_cons_zero, List.getD_cons_succ, List.getElem?_cons_zero, List.getElem?_cons_succ, List.map_cons, List.map_nil, List.length_map, List.length_cons, List.length_nil, List.length_set, List.cons_append, List.nil_append, List.drop_zero, List.drop_succ_cons, List.drop_nil, List.take_zero, List.take_succ_cons, List.take_nil, List.range_succ, List.range_zero, Nat.reduceAdd, Nat.reduceSub, Nat.reduceMul, Nat.reduceLT, Nat.reduceLeDiff, Nat.reduceEqDiff, Nat.zero_add, Nat.add_zero, Nat.lt_add_one, Int.reduceToNat, Int.toNat_natCast, Int.natCast_nonneg, Bool.not_true, Bool.not_false, decide_true, decide_false, Bool.true_eq_false, Bool.false_eq_true]
    exact ended_ret (by simp [resV, St.ev, boundB, a])

/-- The first number of ticks that is too many. -/
structure GuardIs (T D R : Int) (H : Nat) : Prop where
  le : (H : Int) ≤ T
  lo : ∀ x : Nat, x < H → fI T D R x = false
  hi : ∀ x : Nat, H ≤ x → fI T D R x = true
theorem least_of (p : Nat → Bool) : ∀ n : Nat, p n = true → ∃ H, H ≤ n ∧ p H = true ∧ ∀ x, x < H → p x = false
  | 0, h => ⟨0, Nat.le_refl _, h, fun x hx => by omega⟩
  | n + 1, h => by
    cases hn : p 0
    · obtain ⟨H, h1, h2, h3⟩ := least_of (fun x => p (x + 1)) n h
      refine ⟨H + 1, by omega, h2, fun x hx => ?_⟩
      match x with
      | 0 => exact hn
      | x + 1 => exact h3 x (by omega)
    · exact ⟨0, Nat.zero_le _, hn, fun x hx => by omega⟩
theorem guard_is {T D R : Int} (hT : 0 ≤ T) (hb : boundB D R = true) : ∃ H, GuardIs T D R H := by
  obtain ⟨h1, h2, h3, h4⟩ := bound_at hb
  have hq := div_range hT h3
  obtain ⟨H, a, b, c⟩ := least_of (fun x => fI T D R x) T.toNat (by
    simp only [fI, decide_eq_true_eq]
    rw [show ((T.toNat : Nat) : Int) = T by omega]
    omega)
  exact ⟨H, by omega, c, fun x hx => f_mono (by omega) (show (H : Int) ≤ x by omega) h3 b⟩

theorem guard_ok {T D R : Int} {H : Nat} (hT : 0 ≤ T) (hT2 : T ≤ 1099511627776) (hb : boundB D R = true) (hG : GuardIs T D R H) : VPure Tryz.prog 55 [vi T, vi D, vi R] (.tup [vi H, vi 0]) := by
  obtain ⟨b1, b2, b3, b4⟩ := bound_at hb
  refine vpure_go hm 26 1000 Tryz.func55 rfl (by kernel_rfl) (ts := [6, 7]) rfl rfl ic55_ok rfl rfl ?_
  simp only [startSt, List.replicate, List.cons_append, List.nil_append, List.append_nil, List.length_cons, List.length_nil, List.zipIdx_nil, List.map_nil, Nat.reduceAdd, Nat.reduceSub, ic55]
  have a : ¬ T < 0 := by omega
  have b : ¬ T > 1099511627776 := by omega
  obtain ⟨n, hn⟩ : ∃ n : Nat, (n : Int) = T + 1 := ⟨(T + 1).toNat, by omega⟩
  have w : IntKind.i64.wrap (T + 1) = (n : Int) := by rw [wrapI (by omega) (by omega), hn]
  simp only [a, b, go, go1, opOk, opRes, owed_true, branch_true, branch_false, popTo, St.ev, St.put, binV, arith, shifts, unV, bndV, bndOk, isInt, isStr, intOf', strOf, rowAt, blkEs, slotIs, ldv, stv, fillV, partsV, mmV, mmGo, elems, PV.cells, PV.isAgg, PV.stor, Value.oneCell', Option.isSome_some, Option.getD_some, Option.map_some, Option.map_none, if_true, if_false, ite_true, ite_false, and_self, and_true, true_and, reduceCtorEq, true_or, or_true, List.set_cons_zero, List.set_cons_succ, List.getD_cons_zero, List.getD_cons_succ, List.getElem?_cons_zero, List.getElem?_cons_succ, List.map_cons, List.map_nil, List.length_map, List.length_cons, List.length_nil, List.length_set, List.cons_append, List.nil_append, List.drop_zero, List.drop_succ_cons, List.drop_nil, List.take_zero, List.take_succ_cons, List.take_nil, List.range_succ, List.range_zero, Nat.reduceAdd, Nat.reduceSub, Nat.reduceMul, Nat.reduceLT, Nat.reduceLeDiff, Nat.reduceEqDiff, Nat.zero_add, Nat.add_zero, Nat.lt_add_one, Int.reduceToNat, Int.toNat_natCast, Int.natCast_nonneg, Bool.not_true, Bool.not_false, decide_true, decide_false, Bool.true_eq_false, Bool.false_eq_true]
  refine called_pure (bound80 D R) ?_
  simp only [hb, w, go, go1, opOk, opRes, owed_true, branch_true, branch_false, popTo, St.ev, St.put, binV, arith, shifts, unV, bndV, bndOk, isInt, isStr, intOf', strOf, rowAt, blkEs, slotIs, ldv, stv, fillV, partsV, mmV, mmGo, elems, PV.cells, PV.isAgg, PV.stor, Value.oneCell', Option.isSome_some, Option.getD_some, Option.map_some, Option.map_none, if_true, if_false, ite_true, ite_false, and_self, and_true, true_and, reduceCtorEq, true_or, or_true, List.set_cons_zero, List.set_cons_succ, List.getD_cons_zero, List.getD_cons_succ, List.getElem?_cons_zero, List.getElem?_cons_succ, List.map_cons, List.map_nil, List.length_map, List.length_cons, List.length_nil, List.length_set, List.cons_append, List.nil_append, List.drop_zero, List.drop_succ_cons, List.drop_nil, List.take_zero, List.take_succ_cons, List.take_nil, List.range_succ, List.range_zero, Nat.reduceAdd, Nat.reduceSub, Nat.reduceMul, Nat.reduceLT, Nat.reduceLeDiff, Nat.reduceEqDiff, Nat.zero_add, Nat.add_zero, Nat.lt_add_one, Int.reduceToNat, Int.toNat_natCast, Int.natCast_nonneg, Bool.not_true, Bool.not_false, decide_true, decide_false, Bool.true_eq_false, Bool.false_eq_true]
  refine called_g (h' := h3 T D R) (n' := 3) (r := vi H) (by simpa [h3] using search_ok T D R H n (by omega) b3 b4 b1 b2 (by have := hG.le; omega) hG.lo hG.hi) ?_
  simp only [h3, go, go1, opOk, opRes, owed_true, branch_true, branch_false, popTo, St.ev, St.put, binV, arith, shifts, unV, bndV, bndOk, isInt, isStr, intOf', strOf, rowAt, blkEs, slotIs, ldv, stv, fillV, partsV, mmV, mmGo, elems, PV.cells, PV.isAgg, PV.stor, Value.oneCell', Option.isSome_some, Option.getD_some, Option.map_some, Option.map_none, if_true, if_false, ite_true, ite_false, and_self, and_true, true_and, reduceCtorEq, true_or, or_true, List.set_cons_zero, List.set_cons_succ, List.getD_cons_zero, List.getD_cons_succ, List.getElem?_cons_zero, List.getElem?_cons_succ, List.map_cons, List.map_nil, List.length_map, List.length_cons, List.length_nil, List.length_set, List.cons_append, List.nil_append, List.drop_zero, List.drop_succ_cons, List.drop_nil, List.take_zero, List.take_succ_cons, List.take_nil, List.range_succ, List.range_zero, Nat.reduceAdd, Nat.reduceSub, Nat.reduceMul, Nat.reduceLT, Nat.reduceLeDiff, Nat.reduceEqDiff, Nat.zero_add, Nat.add_zero, Nat.lt_add_one, Int.reduceToNat, Int.toNat_natCast, Int.natCast_nonneg, Bool.not_true, Bool.not_false, decide_true, decide_false, Bool.true_eq_false, Bool.false_eq_true]
  exact ended_ret (by simp [resV, St.ev])

/-- A term's guard, if it may be held. -/
theorem hold27 {T D R : Int} {H : Nat} (hT : 1 ≤ T) (hT2 : T ≤ 1000000) (hb : boundB D R = true) (hG : GuardIs T D R H) (h1 : 1 ≤ H) : VPure Tryz.prog 27 [.agg [vi T, vi D, vi R]] (.tup [vi H, vi 0]) := by
  refine vpure_go hm 33 1000 Tryz.func27 rfl (by kernel_rfl) (ts := [2, 3]) rfl rfl ic27_ok rfl rfl ?_
  simp only [startSt, List.replicate, List.cons_append, List.nil_append, List.append_nil, List.length_cons, List.length_nil, List.zipIdx_nil, List.map_nil, Nat.reduceAdd, Nat.reduceSub, ic27]
  simp only [go, go1, opOk, opRes, owed_true, branch_true, branch_false, popTo, St.ev, St.put, binV, arith, shifts, unV, bndV, bndOk, isInt, isStr, intOf', strOf, rowAt, blkEs, slotIs, ldv, stv, fillV, partsV, mmV, mmGo, elems, PV.cells, PV.isAgg, PV.stor, Value.oneCell', Option.isSome_some, Option.getD_some, Option.map_some, Option.map_none, if_true, if_false, ite_true, ite_false, and_self, and_true, true_and, reduceCtorEq, true_or, or_true, List.set_cons_zero, List.set_cons_succ, List.getD_cons_zero, List.getD_cons_succ, List.getElem?_cons_zero, List.getElem?_cons_succ, List.map_cons, List.map_nil, List.length_map, List.length_cons, List.length_nil, List.length_set, List.cons_append, List.nil_append, List.drop_zero, List.drop_succ_cons, List.drop_nil, List.take_zero, List.take_succ_cons, List.take_nil, List.range_succ, List.range_zero, Nat.reduceAdd, Nat.reduceSub, Nat.reduceMul, Nat.reduceLT, Nat.reduceLeDiff, Nat.reduceEqDiff, Nat.zero_add, Nat.add_zero, Nat.lt_add_one, Int.reduceToNat, Int.toNat_natCast, Int.natCast_nonneg, Bool.not_true, Bool.not_false, decide_true, decide_false, Bool.true_eq_false, Bool.false_eq_true]
  refine called_pure (guard_ok (by omega) (by omega) hb hG) ?_
  have a : ¬ T < 1 := by omega
  have b : ¬ T > 1000000 := by omega
  have c : ¬ (H : Int) < 1 := by omega
  simp only [a, b, c, show ((0 : Int) != 0) = false from rfl, go, go1, opOk, opRes, owed_true, branch_true, branch_false, popTo, St.ev, St.put, binV, arith, shifts, unV, bndV, bndOk, isInt, isStr, intOf', strOf, rowAt, blkEs, slotIs, ldv, stv, fillV, partsV, mmV, mmGo, elems, PV.cells, PV.isAgg, PV.stor, Value.oneCell', Option.isSome_some, Option.getD_some, Option.map_some, Option.map_none, if_true, if_false, ite_true, ite_false, and_self, and_true, true_and, reduceCtorEq, true_or, or_true, List.set_cons_zero, List.set_cons_succ, List.getD_cons_zero, List.getD_cons_succ, List.getElem?_cons_zero, List.getElem?_cons_succ, List.map_cons, List.map_nil, List.length_map, List.length_cons, List.length_nil, List.length_set, List.cons_append, List.nil_append, List.drop_zero, List.drop_succ_cons, List.drop_nil, List.take_zero, List.take_succ_cons, List.take_nil, List.range_succ, List.range_zero, Nat.reduceAdd, Nat.reduceSub, Nat.reduceMul, Nat.reduceLT, Nat.reduceLeDiff, Nat.reduceEqDiff, Nat.zero_add, Nat.add_zero, Nat.lt_add_one, Int.reduceToNat, Int.toNat_natCast, Int.natCast_nonneg, Bool.not_true, Bool.not_false, decide_true, decide_false, Bool.true_eq_false, Bool.false_eq_true]
  exact ended_ret (by simp [resV, St.ev])

theorem fits_ok {T D R : Int} {H : Nat} (hb : boundB D R = true) (hG : GuardIs T D R H) (g : Nat) (h1 : 1 ≤ g) (h2 : (g : Int) ≤ 1099511627776) : VPure Tryz.prog 39 [vi g, vi T, vi D, vi R] (vb (decide (g ≤ H))) := by
  obtain ⟨b1, b2, b3, b4⟩ := bound_at hb
  refine vpure_go hm 24 1000 Tryz.func39 rfl (by kernel_rfl) (ts := [8]) rfl rfl ic39_ok rfl rfl ?_
  simp only [startSt, List.replicate, List.cons_append, List.nil_append, List.append_nil, List.length_cons, List.length_nil, List.zipIdx_nil, List.map_nil, Nat.reduceAdd, Nat.reduceSub, ic39]
  have n0 : ((g : Int) == 0) = false := by rw [beq_eq_false_iff_ne]; omega
  have w1 : IntKind.i64.wrap ((g : Int) - 1) = ((g - 1 : Nat) : Int) := by rw [wrapI (by omega) (by omega)]; omega
  have q := div_range (x := ((g - 1 : Nat) : Int)) (by omega) b3
  have w2 : IntKind.i64.wrap (((g - 1 : Nat) : Int) + D) = ((g - 1 : Nat) : Int) + D := wrapI (by omega) (by omega)
  have w3 : IntKind.i64.wrap (((g - 1 : Nat) : Int).tdiv R) = ((g - 1 : Nat) : Int).tdiv R := wrapI (by omega) (by omega)
  have w4 : IntKind.i64.wrap (((g - 1 : Nat) : Int) + D + ((g - 1 : Nat) : Int).tdiv R) = ((g - 1 : Nat) : Int) + D + ((g - 1 : Nat) : Int).tdiv R := wrapI (by omega) (by omega)
  have r0 : ¬ R = 0 := by omega
  simp only [n0, w1, w2, w3, w4, r0, go, go1, opOk, opRes, owed_true, branch_true, branch_false, popTo, St.ev, St.put, binV, arith, shifts, unV, bndV, bndOk, isInt, isStr, intOf', strOf, rowAt, blkEs, slotIs, ldv, stv, fillV, partsV, mmV, mmGo, elems, PV.cells, PV.isAgg, PV.stor, Value.oneCell', Option.isSome_some, Option.getD_some, Option.map_some, Option.map_none, if_true, if_false, ite_true, ite_false, and_self, and_true, true_and, reduceCtorEq, true_or, or_true, List.set_cons_zero, List.set_cons_succ, List.getD_cons_zero, List.getD_cons_succ, List.getElem?_cons_zero, List.getElem?_cons_succ, List.map_cons, List.map_nil, List.length_map, List.length_cons, List.length_nil, List.length_set, List.cons_append, List.nil_append, List.drop_zero, List.drop_succ_cons, List.drop_nil, List.take_zero, List.take_succ_cons, List.take_nil, List.range_succ, List.range_zero, Nat.reduceAdd, Nat.reduceSub, Nat.reduceMul, Nat.reduceLT, Nat.reduceLeDiff, Nat.reduceEqDiff, Nat.zero_add, Nat.add_zero, Nat.lt_add_one, Int.reduceToNat, Int.toNat_natCast, Int.natCast_nonneg, Bool.not_true, Bool.not_false, decide_true, decide_false, Bool.true_eq_false, Bool.false_eq_true]
  refine ended_ret ?_
  have lo := hG.lo (g - 1)
  have hi := hG.hi (g - 1)
  simp only [fI] at lo hi
  generalize ((g - 1 : Nat) : Int).tdiv R = qq at *
  by_cases h : g ≤ H
  · have := lo (by omega)
    simp only [decide_eq_false_iff_not] at this
    simp [resV, St.ev, h, show ((g - 1 : Nat) : Int) + D + qq < T by omega]
  · have := hi (by omega)
    simp only [decide_eq_true_eq] at this
    simp [resV, St.ev, h, show ¬ ((g - 1 : Nat) : Int) + D + qq < T by omega]

def hoI (T D R : Int) (H : Nat) (m : Nat) (st : St) : Prop := ∃ i j : Nat, i ≤ H ∧ H ≤ j ∧ (j : Int) ≤ T ∧ m = j - i ∧ st = ⟨[.dead, .optr 0 0 0 0, .dead, vi i, vi j, .dead, .dead, .dead, .dead, .dead, .dead, .dead, .dead, .dead, .dead, .dead, .dead, .dead, .dead, .dead, .dead, .dead, .dead, .dead, .dead, .dead, .dead, .dead, .dead, .dead, .dead, .dead, .dead, .dead, .dead, .dead, .dead, .dead, .dead, .dead, .dead, .dead, .dead, .dead], [some (0, .cells [.agg [vi T, vi D, vi R]]), none], 1⟩
theorem hold13 {T D R : Int} {H : Nat} (hT : 1 ≤ T) (hT2 : T ≤ 1000000) (hb : boundB D R = true) (hG : GuardIs T D R H) : VPure Tryz.prog 13 [.agg [vi T, vi D, vi R]] (vi H) := by
  refine vpure_go hm 44 1000 Tryz.func13 rfl (by kernel_rfl) (ts := [2]) rfl rfl ic13_ok rfl rfl ?_
  simp only [startSt, List.replicate, List.cons_append, List.nil_append, List.append_nil, List.length_cons, List.length_nil, List.zipIdx_nil, List.map_nil, Nat.reduceAdd, Nat.reduceSub, ic13]
  have a : ¬ T < 1 := by omega
  have b : ¬ T > 1000000 := by omega
  simp only [a, b, go, go1, opOk, opRes, owed_true, branch_true, branch_false, popTo, St.ev, St.put, binV, arith, shifts, unV, bndV, bndOk, isInt, isStr, intOf', strOf, rowAt, blkEs, slotIs, ldv, stv, fillV, partsV, mmV, mmGo, elems, PV.cells, PV.isAgg, PV.stor, Value.oneCell', Option.isSome_some, Option.getD_some, Option.map_some, Option.map_none, if_true, if_false, ite_true, ite_false, and_self, and_true, true_and, reduceCtorEq, true_or, or_true, List.set_cons_zero, List.set_cons_succ, List.getD_cons_zero, List.getD_cons_succ, List.getElem?_cons_zero, List.getElem?_cons_succ, List.map_cons, List.map_nil, List.length_map, List.length_cons, List.length_nil, List.length_set, List.cons_append, List.nil_append, List.drop_zero, List.drop_succ_cons, List.drop_nil, List.take_zero, List.take_succ_cons, List.take_nil, List.range_succ, List.range_zero, Nat.reduceAdd, Nat.reduceSub, Nat.reduceMul, Nat.reduceLT, Nat.reduceLeDiff, Nat.reduceEqDiff, Nat.zero_add, Nat.add_zero, Nat.lt_add_one, Int.reduceToNat, Int.toNat_natCast, Int.natCast_nonneg, Bool.not_true, Bool.not_false, decide_true, decide_false, Bool.true_eq_false, Bool.false_eq_true]
  refine called_pure (bound38 D R) ?_
  simp only [hb, go, go1, opOk, opRes, owed_true, branch_true, branch_false, popTo, St.ev, St.put, binV, arith, shifts, unV, bndV, bndOk, isInt, isStr, intOf', strOf, rowAt, blkEs, slotIs, ldv, stv, fillV, partsV, mmV, mmGo, elems, PV.cells, PV.isAgg, PV.stor, Value.oneCell', Option.isSome_some, Option.getD_some, Option.map_some, Option.map_none, if_true, if_false, ite_true, ite_false, and_self, and_true, true_and, reduceCtorEq, true_or, or_true, List.set_cons_zero, List.set_cons_succ, List.getD_cons_zero, List.getD_cons_succ, List.getElem?_cons_zero, List.getElem?_cons_succ, List.map_cons, List.map_nil, List.length_map, List.length_cons, List.length_nil, List.length_set, List.cons_append, List.nil_append, List.drop_zero, List.drop_succ_cons, List.drop_nil, List.take_zero, List.take_succ_cons, List.take_nil, List.range_succ, List.range_zero, Nat.reduceAdd, Nat.reduceSub, Nat.reduceMul, Nat.reduceLT, Nat.reduceLeDiff, Nat.reduceEqDiff, Nat.zero_add, Nat.add_zero, Nat.lt_add_one, Int.reduceToNat, Int.toNat_natCast, Int.natCast_nonneg, Bool.not_true, Bool.not_false, decide_true, decide_false, Bool.true_eq_false, Bool.false_eq_true]
  obtain ⟨n, hn⟩ : ∃ n : Nat, (n : Int) = T := ⟨T.toNat, by omega⟩
  have hH := hG.le
  refine looped_of (hoI T D R H) n (Weak.keep _ [1, 3, 4] [0]) ⟨0, n, Nat.zero_le _, by omega, by omega, rfl, by simp [St.keep, keepT, keepS, hn]⟩ 1000 ?_
  rintro m st ⟨i, j, hi, hj, hjT, hm', rfl⟩
  simp only [go, go1, opOk, opRes, owed_true, branch_true, branch_false, popTo, St.ev, St.put, binV, arith, shifts, unV, bndV, bndOk, isInt, isStr, intOf', strOf, rowAt, blkEs, slotIs, ldv, stv, fillV, partsV, mmV, mmGo, elems, PV.cells, PV.isAgg, PV.stor, Value.oneCell', Option.isSome_some, Option.getD_some, Option.map_some, Option.map_none, if_true, if_false, ite_true, ite_false, and_self, and_true, true_and, reduceCtorEq, true_or, or_true, List.set_cons_zero, List.set_cons_succ, List.getD_cons_zero, List.getD_cons_succ, List.getElem?_cons_zero, List.getElem?_cons_succ, List.map_cons, List.map_nil, List.length_map, List.length_cons, List.length_nil, List.length_set, List.cons_append, List.nil_append, List.drop_zero, List.drop_succ_cons, List.drop_nil, List.take_zero, List.take_succ_cons, List.take_nil, List.range_succ, List.range_zero, Nat.reduceAdd, Nat.reduceSub, Nat.reduceMul, Nat.reduceLT, Nat.reduceLeDiff, Nat.reduceEqDiff, Nat.zero_add, Nat.add_zero, Nat.lt_add_one, Int.reduceToNat, Int.toNat_natCast, Int.natCast_nonneg, Bool.not_true, Bool.not_false, decide_true, decide_false, Bool.true_eq_false, Bool.false_eq_true]
  by_cases hlt : i < j
  · have hlt' : (i : Int) < (j : Int) := by omega
    have w1 : IntKind.i64.wrap ((i : Int) + (j : Int)) = (i : Int) + j := wrapI (by omega) (by omega)
    have w2 : IntKind.i64.wrap ((i : Int) + (j : Int) + 1) = (i : Int) + j + 1 := wrapI (by omega) (by omega)
    have w3 : ((i : Int) + (j : Int) + 1).tdiv 2 = (((i + j + 1) / 2 : Nat) : Int) := by
      rw [Int.tdiv_eq_ediv_of_nonneg (by omega)]; omega
    have w4 : IntKind.i64.wrap (((i + j + 1) / 2 : Nat) : Int) = (((i + j + 1) / 2 : Nat) : Int) := wrapI (by omega) (by omega)
    simp only [hlt', w1, w2, w3, w4, show ((2 : Int) = 0) = False from by simp, go, go1, opOk, opRes, owed_true, branch_true, branch_false, popTo, St.ev, St.put, binV, arith, shifts, unV, bndV, bndOk, isInt, isStr, intOf', strOf, rowAt, blkEs, slotIs, ldv, stv, fillV, partsV, mmV, mmGo, elems, PV.cells, PV.isAgg, PV.stor, Value.oneCell', Option.isSome_some, Option.getD_some, Option.map_some, Option.map_none, if_true, if_false, ite_true, ite_false, and_self, and_true, true_and, reduceCtorEq, true_or, or_true, List.set_cons_zero, List.set_cons_succ, List.getD_cons_zero, List.getD_cons_succ, List.getElem?_cons_zero, List.getElem?_cons_succ, List.map_cons, List.map_nil, List.length_map, List.length_cons, List.length_nil, List.length_set, List.cons_append, List.nil_append, List.drop_zero, List.drop_succ_cons, List.drop_nil, List.take_zero, List.take_succ_cons, List.take_nil, List.range_succ, List.range_zero, Nat.reduceAdd, Nat.reduceSub, Nat.reduceMul, Nat.reduceLT, Nat.reduceLeDiff, Nat.reduceEqDiff, Nat.zero_add, Nat.add_zero, Nat.lt_add_one, Int.reduceToNat, Int.toNat_natCast, Int.natCast_nonneg, Bool.not_true, Bool.not_false, decide_true, decide_false, Bool.true_eq_false, Bool.false_eq_true]
    generalize hmid : (i + j + 1) / 2 = mid at *
    refine called_pure (fits_ok hb hG mid (by omega) (by omega)) ?_
    by_cases h : mid ≤ H
    · simp only [h, go, go1, opOk, opRes, owed_true, branch_true, branch_false, popTo, St.ev, St.put, binV, arith, shifts, unV, bndV, bndOk, isInt, isStr, intOf', strOf, rowAt, blkEs, slotIs, ldv, stv, fillV, partsV, mmV, mmGo, elems, PV.cells, PV.isAgg, PV.stor, Value.oneCell', Option.isSome_some, Option.getD_some, Option.map_some, Option.map_none, if_true, if_false, ite_true, ite_false, and_self, and_true, true_and, reduceCtorEq, true_or, or_true, List.set_cons_zero, List.set_cons_succ, List.getD_cons_zero, List.getD_cons_succ, List.getElem?_cons_zero, List.getElem?_cons_succ, List.map_cons, List.map_nil, List.length_map, List.length_cons, List.length_nil, List.length_set, List.cons_append, List.nil_append, List.drop_zero, List.drop_succ_cons, List.drop_nil, List.take_zero, List.take_succ_cons, List.take_nil, List.range_succ, List.range_zero, Nat.reduceAdd, Nat.reduceSub, Nat.reduceMul, Nat.reduceLT, Nat.reduceLeDiff, Nat.reduceEqDiff, Nat.zero_add, Nat.add_zero, Nat.lt_add_one, Int.reduceToNat, Int.toNat_natCast, Int.natCast_nonneg, Bool.not_true, Bool.not_false, decide_true, decide_false, Bool.true_eq_false, Bool.false_eq_true]
      exact again_of (j - mid) (by omega) (Weak.keep _ [1, 3, 4] [0]) ⟨mid, j, h, hj, hjT, rfl, by simp [St.keep, keepT, keepS]⟩
    · have w5 : IntKind.i64.wrap ((mid : Int) - 1) = ((mid - 1 : Nat) : Int) := by rw [wrapI (by omega) (by omega)]; omega
      simp only [h, w5, go, go1, opOk, opRes, owed_true, branch_true, branch_false, popTo, St.ev, St.put, binV, arith, shifts, unV, bndV, bndOk, isInt, isStr, intOf', strOf, rowAt, blkEs, slotIs, ldv, stv, fillV, partsV, mmV, mmGo, elems, PV.cells, PV.isAgg, PV.stor, Value.oneCell', Option.isSome_some, Option.getD_some, Option.map_some, Option.map_none, if_true, if_false, ite_true, ite_false, and_self, and_true, true_and, reduceCtorEq, true_or, or_true, List.set_cons_zero, List.set_cons_succ, List.getD_cons_zero, List.getD_cons_succ, List.getElem?_cons_zero, List.getElem?_cons_succ, List.map_cons, List.map_nil, List.length_map, List.length_cons, List.length_nil, List.length_set, List.cons_append, List.nil_append, List.drop_zero, List.drop_succ_cons, List.drop_nil, List.take_zero, List.take_succ_cons, List.take_nil, List.range_succ, List.range_zero, Nat.reduceAdd, Nat.reduceSub, Nat.reduceMul, Nat.reduceLT, Nat.reduceLeDiff, Nat.reduceEqDiff, Nat.zero_add, Nat.add_zero, Nat.lt_add_one, Int.reduceToNat, Int.toNat_natCast, Int.natCast_nonneg, Bool.not_true, Bool.not_false, decide_true, decide_false, Bool.true_eq_false, Bool.false_eq_true]
      exact again_of (mid - 1 - i) (by omega) (Weak.keep _ [1, 3, 4] [0]) ⟨i, mid - 1, hi, by omega, by omega, rfl, by simp [St.keep, keepT, keepS]⟩
  · have hge : ¬ (i : Int) < (j : Int) := by omega
    have e : i = H := by omega
    simp only [hge, go, go1, opOk, opRes, owed_true, branch_true, branch_false, popTo, St.ev, St.put, binV, arith, shifts, unV, bndV, bndOk, isInt, isStr, intOf', strOf, rowAt, blkEs, slotIs, ldv, stv, fillV, partsV, mmV, mmGo, elems, PV.cells, PV.isAgg, PV.stor, Value.oneCell', Option.isSome_some, Option.getD_some, Option.map_some, Option.map_none, if_true, if_false, ite_true, ite_false, and_self, and_true, true_and, reduceCtorEq, true_or, or_true, List.set_cons_zero, List.set_cons_succ, List.getD_cons_zero, List.getD_cons_succ, List.getElem?_cons_zero, List.getElem?_cons_succ, List.map_cons, List.map_nil, List.length_map, List.length_cons, List.length_nil, List.length_set, List.cons_append, List.nil_append, List.drop_zero, List.drop_succ_cons, List.drop_nil, List.take_zero, List.take_succ_cons, List.take_nil, List.range_succ, List.range_zero, Nat.reduceAdd, Nat.reduceSub, Nat.reduceMul, Nat.reduceLT, Nat.reduceLeDiff, Nat.reduceEqDiff, Nat.zero_add, Nat.add_zero, Nat.lt_add_one, Int.reduceToNat, Int.toNat_natCast, Int.natCast_nonneg, Bool.not_true, Bool.not_false, decide_true, decide_false, Bool.true_eq_false, Bool.false_eq_true]
    exact ended_ret (by simp [resV, St.ev, e])
theorem hold13_bad {T D R : Int} (h : ¬ (1 ≤ T ∧ T ≤ 1000000 ∧ boundB D R = true)) : VPure Tryz.prog 13 [.agg [vi T, vi D, vi R]] (vi 0) := by
  refine vpure_go hm 44 1000 Tryz.func13 rfl (by kernel_rfl) (ts := [2]) rfl rfl ic13_ok rfl rfl ?_
  simp only [startSt, List.replicate, List.cons_append, List.nil_append, List.append_nil, List.length_cons, List.length_nil, List.zipIdx_nil, List.map_nil, Nat.reduceAdd, Nat.reduceSub, ic13]
  by_cases a : T < 1
  · simp only [a, go, go1, opOk, opRes, owed_true, branch_true, branch_false, popTo, St.ev, St.put, binV, arith, shifts, unV, bndV, bndOk, isInt, isStr, intOf', strOf, rowAt, blkEs, slotIs, ldv, stv, fillV, partsV, mmV, mmGo, elems, PV.cells, PV.isAgg, PV.stor, Value.oneCell', Option.isSome_some, Option.getD_some, Option.map_some, Option.map_none, if_true, if_false, ite_true, ite_false, and_self, and_true, true_and, reduceCtorEq, true_or, or_true, List.set_cons_zero, List.set_cons_succ, List.getD_cons_zero, List.getD_cons_succ, List.getElem?_cons_zero, List.getElem?_cons_succ, List.map_cons, List.map_nil, List.length_map, List.length_cons, List.length_nil, List.length_set, List.cons_append, List.nil_append, List.drop_zero, List.drop_succ_cons, List.drop_nil, List.take_zero, List.take_succ_cons, List.take_nil, List.range_succ, List.range_zero, Nat.reduceAdd, Nat.reduceSub, Nat.reduceMul, Nat.reduceLT, Nat.reduceLeDiff, Nat.reduceEqDiff, Nat.zero_add, Nat.add_zero, Nat.lt_add_one, Int.reduceToNat, Int.toNat_natCast, Int.natCast_nonneg, Bool.not_true, Bool.not_false, decide_true, decide_false, Bool.true_eq_false, Bool.false_eq_true]
    exact ended_ret (by simp [resV, St.ev])
  by_cases b : T > 1000000
  · simp only [a, b, go, go1, opOk, opRes, owed_true, branch_true, branch_false, popTo, St.ev, St.put, binV, arith, shifts, unV, bndV, bndOk, isInt, isStr, intOf', strOf, rowAt, blkEs, slotIs, ldv, stv, fillV, partsV, mmV, mmGo, elems, PV.cells, PV.isAgg, PV.stor, Value.oneCell', Option.isSome_some, Option.getD_some, Option.map_some, Option.map_none, if_true, if_false, ite_true, ite_false, and_self, and_true, true_and, reduceCtorEq, true_or, or_true, List.set_cons_zero, List.set_cons_succ, List.getD_cons_zero, List.getD_cons_succ, List.getElem?_cons_zero, List.getElem?_cons_succ, List.map_cons, List.map_nil, List.length_map, List.length_cons, List.length_nil, List.length_set, List.cons_append, List.nil_append, List.drop_zero, List.drop_succ_cons, List.drop_nil, List.take_zero, List.take_succ_cons, List.take_nil, List.range_succ, List.range_zero, Nat.reduceAdd, Nat.reduceSub, Nat.reduceMul, Nat.reduceLT, Nat.reduceLeDiff, Nat.reduceEqDiff, Nat.zero_add, Nat.add_zero, Nat.lt_add_one, Int.reduceToNat, Int.toNat_natCast, Int.natCast_nonneg, Bool.not_true, Bool.not_false, decide_true, decide_false, Bool.true_eq_false, Bool.false_eq_true]
    exact ended_ret (by simp [resV, St.ev])
  have hb : boundB D R = false := by
    cases hb : boundB D R
    · rfl
    · exact absurd ⟨by omega, by omega, hb⟩ h
  simp only [a, b, go, go1, opOk, opRes, owed_true, branch_true, branch_false, popTo, St.ev, St.put, binV, arith, shifts, unV, bndV, bndOk, isInt, isStr, intOf', strOf, rowAt, blkEs, slotIs, ldv, stv, fillV, partsV, mmV, mmGo, elems, PV.cells, PV.isAgg, PV.stor, Value.oneCell', Option.isSome_some, Option.getD_some, Option.map_some, Option.map_none, if_true, if_false, ite_true, ite_false, and_self, and_true, true_and, reduceCtorEq, true_or, or_true, List.set_cons_zero, List.set_cons_succ, List.getD_cons_zero, List.getD_cons_succ, List.getElem?_cons_zero, List.getElem?_cons_succ, List.map_cons, List.map_nil, List.length_map, List.length_cons, List.length_nil, List.length_set, List.cons_append, List.nil_append, List.drop_zero, List.drop_succ_cons, List.drop_nil, List.take_zero, List.take_succ_cons, List.take_nil, List.range_succ, List.range_zero, Nat.reduceAdd, Nat.reduceSub, Nat.reduceMul, Nat.reduceLT, Nat.reduceLeDiff, Nat.reduceEqDiff, Nat.zero_add, Nat.add_zero, Nat.lt_add_one, Int.reduceToNat, Int.toNat_natCast, Int.natCast_nonneg, Bool.not_true, Bool.not_false, decide_true, decide_false, Bool.true_eq_false, Bool.false_eq_true]
  refine called_pure (bound38 D R) ?_
  simp only [hb, go, go1, opOk, opRes, owed_true, branch_true, branch_false, popTo, St.ev, St.put, binV, arith, shifts, unV, bndV, bndOk, isInt, isStr, intOf', strOf, rowAt, blkEs, slotIs, ldv, stv, fillV, partsV, mmV, mmGo, elems, PV.cells, PV.isAgg, PV.stor, Value.oneCell', Option.isSome_some, Option.getD_some, Option.map_some, Option.map_none, if_true, if_false, ite_true, ite_false, and_self, and_true, true_and, reduceCtorEq, true_or, or_true, List.set_cons_zero, List.set_cons_succ, List.getD_cons_zero, List.getD_cons_succ, List.getElem?_cons_zero, List.getElem?_cons_succ, List.map_cons, List.map_nil, List.length_map, List.length_cons, List.length_nil, List.length_set, List.cons_append, List.nil_append, List.drop_zero, List.drop_succ_cons, List.drop_nil, List.take_zero, List.take_succ_cons, List.take_nil, List.range_succ, List.range_zero, Nat.reduceAdd, Nat.reduceSub, Nat.reduceMul, Nat.reduceLT, Nat.reduceLeDiff, Nat.reduceEqDiff, Nat.zero_add, Nat.add_zero, Nat.lt_add_one, Int.reduceToNat, Int.toNat_natCast, Int.natCast_nonneg, Bool.not_true, Bool.not_false, decide_true, decide_false, Bool.true_eq_false, Bool.false_eq_true]
  exact ended_ret (by simp [resV, St.ev])

/-- What stands for the same. -/
def Same (p q : PV) : Prop := ∀ E u, Rep E p u → Rep E q u
def SameL : List PV → List PV → Prop
  | [], [] => True
  | p :: ps, q :: qs => Same p q ∧ SameL ps qs
  | _, _ => False
theorem same_refl (p : PV) : Same p p := fun _ _ h => h
theorem same_int {k : IntKind} {n : Nat} {x : Int} (h : Val.i n = x) : Same (.sy (.i k n)) (.v (.int k x)) := by
  intro E u hu
  cases hu
  have e : (SX.i k n).eval = .int k x := by simp [SX.eval, h]
  rw [e]
  exact .v _
theorem same_int' {k : IntKind} {n : Nat} {x : Int} (h : Val.i n = x) : Same (.v (.int k x)) (.sy (.i k n)) := by
  intro E u hu
  cases hu
  have e : (SX.i k n).eval = .int k x := by simp [SX.eval, h]
  rw [← e]
  exact .sy _
theorem sameL_at : ∀ {ps qs : List PV}, SameL ps qs → ps.length = qs.length ∧ ∀ (i : Nat) (p q : PV), ps[i]? = some p → qs[i]? = some q → Same p q
  | [], [], _ => ⟨rfl, fun i p q h => by simp at h⟩
  | p :: ps, q :: qs, h => by
    obtain ⟨e, g⟩ := sameL_at h.2
    refine ⟨by simp [e], fun i x y hx hy => ?_⟩
    match i with
    | 0 => simp at hx hy; subst hx hy; exact h.1
    | i + 1 => exact g i x y hx hy
theorem same_agg {ps qs : List PV} (h : SameL ps qs) : Same (.agg ps) (.agg qs) := by
  obtain ⟨e, g⟩ := sameL_at h
  intro E u hu
  cases hu with
  | agg _ vs hl ho hr =>
    refine .agg _ vs (by omega) ho fun i c u hc hu => ?_
    have hi : i < ps.length := by have := (List.getElem?_eq_some_iff.1 hc).1; omega
    exact g i ps[i] c (List.getElem?_eq_getElem hi) hc E u (hr i ps[i] u (List.getElem?_eq_getElem hi) hu)
theorem same_tup {ps qs : List PV} (h : SameL ps qs) : Same (.tup ps) (.tup qs) := by
  obtain ⟨e, g⟩ := sameL_at h
  intro E u hu
  cases hu with
  | tup _ vs hl hr =>
    refine .tup _ vs (by omega) fun i c u hc hu => ?_
    have hi : i < ps.length := by have := (List.getElem?_eq_some_iff.1 hc).1; omega
    exact g i ps[i] c (List.getElem?_eq_getElem hi) hc E u (hr i ps[i] u (List.getElem?_eq_getElem hi) hu)
/-- A contract, told of what stands for the same. -/
theorem vpure_same {P : Program} {f : Nat} {args args' : List PV} {r r' : PV} (h : VPure P f args r) (ha : SameL args' args) (hr : Same r r') (h1 : closedL args' = true) (h2 : closed r' = true) : VPure P f args' r' := by
  obtain ⟨e, g⟩ := sameL_at ha
  refine ⟨h1, h2, h.2.2.1, fun W S ents vals a b c d => ?_⟩
  refine (h.2.2.2 W S ents vals a b (by omega) fun i p u hp hu => ?_).mono ?_
  · have hi : i < args'.length := by have := (List.getElem?_eq_some_iff.1 hp).1; omega
    exact g i args'[i] p (List.getElem?_eq_getElem hi) hp _ u (d i args'[i] u (List.getElem?_eq_getElem hi) hu)
  · rintro e W' ⟨v, x, L', N, σ', S', h1, rfl, h3, h4, h5⟩
    exact ⟨v, r', L', N, σ', S', h1, rfl, h3, h4, hr _ _ h5⟩
end Go.Proofs.YthidhledenklhaaGreat.VL
