/- Grace: the reference's rules; each confirmation shortens a grace. -/
import Derived.Test.YticljphbbdnomaaGc
namespace Go.Proofs.Yticljphbbdnomaa.VL
open Go
set_option linter.unusedVariables false
set_option linter.unusedSimpArgs false
set_option maxRecDepth 100000

theorem refRules_ok (a b c : Int) : VPure Try.prog 10 [vr a b c] (vb (rulesB a b c)) := by
  refine vpure_go hm 31 1000 Try.func10 rfl (by kernel_rfl) (ts := [2]) rfl rfl ic10_ok rfl rfl ?_
  simp only [startSt, List.replicate, List.cons_append, List.nil_append, List.append_nil, List.length_cons, List.length_nil, List.zipIdx_nil, List.map_nil, Nat.reduceAdd, Nat.reduceSub, ic10]
  simp only [go, go1, opOk, opRes, owed_true, branch_true, branch_false, popTo, St.ev, St.put, binV, arith, shifts, unV, bndV, bndOk, isInt, isStr, intOf', strOf, rowAt, blkEs, slotIs, ldv, stv, fillV, partsV, mmV, mmGo, elems, PV.cells, PV.isAgg, PV.stor, Value.oneCell', Option.isSome_some, Option.getD_some, Option.map_some, Option.map_none, if_true, if_false, ite_true, ite_false, and_self, and_true, true_and, reduceCtorEq, true_or, or_true, List.set_cons_zero, List.set_cons_succ, List.getD_cons_zero, List.getD_cons_succ, List.getElem?_cons_zero, List.getElem?_cons_succ, List.map_cons, List.map_nil, List.length_map, List.length_cons, List.length_nil, List.length_set, List.cons_append, List.nil_append, List.drop_zero, List.drop_succ_cons, List.drop_nil, List.take_zero, List.take_succ_cons, List.take_nil, List.range_succ, List.range_zero, Nat.reduceAdd, Nat.reduceSub, Nat.reduceMul, Nat.reduceLT, Nat.reduceLeDiff, Nat.reduceEqDiff, Nat.zero_add, Nat.add_zero, Nat.lt_add_one, Int.reduceToNat, Int.toNat_natCast, Int.natCast_nonneg, Bool.not_true, Bool.not_false, decide_true, decide_false, Bool.true_eq_false, Bool.false_eq_true]
  by_cases h1 : 1 ≤ a
  · by_cases h2 : a ≤ 1000
    · by_cases h3 : 1 ≤ b
      · by_cases h4 : b ≤ 20
        · by_cases h5 : 0 ≤ c
          · by_cases h6 : c ≤ 10
            · simp only [h1, h2, h3, h4, h5, h6, go, go1, opOk, opRes, owed_true, branch_true, branch_false, popTo, St.ev, St.put, binV, arith, shifts, unV, bndV, bndOk, isInt, isStr, intOf', strOf, rowAt, blkEs, slotIs, ldv, stv, fillV, partsV, mmV, mmGo, elems, PV.cells, PV.isAgg, PV.stor, Value.oneCell', Option.isSome_some, Option.getD_some, Option.map_some, Option.map_none, if_true, if_false, ite_true, ite_false, and_self, and_true, true_and, reduceCtorEq, true_or, or_true, List.set_cons_zero, List.set_cons_succ, List.getD_cons_zero, List.getD_cons_succ, List.getElem?_cons_zero, List.getElem?_cons_succ, List.map_cons, List.map_nil, List.length_map, List.length_cons, List.length_nil, List.length_set, List.cons_append, List.nil_append, List.drop_zero, List.drop_succ_cons, List.drop_nil, List.take_zero, List.take_succ_cons, List.take_nil, List.range_succ, List.range_zero, Nat.reduceAdd, Nat.reduceSub, Nat.reduceMul, Nat.reduceLT, Nat.reduceLeDiff, Nat.reduceEqDiff, Nat.zero_add, Nat.add_zero, Nat.lt_add_one, Int.reduceToNat, Int.toNat_natCast, Int.natCast_nonneg, Bool.not_true, Bool.not_false, decide_true, decide_false, Bool.true_eq_false, Bool.false_eq_true]
              exact ended_ret (by simp [resV, St.ev, rulesB]; omega)
            · simp only [h1, h2, h3, h4, h5, h6, go, go1, opOk, opRes, owed_true, branch_true, branch_false, popTo, St.ev, St.put, binV, arith, shifts, unV, bndV, bndOk, isInt, isStr, intOf', strOf, rowAt, blkEs, slotIs, ldv, stv, fillV, partsV, mmV, mmGo, elems, PV.cells, PV.isAgg, PV.stor, Value.oneCell', Option.isSome_some, Option.getD_some, Option.map_some, Option.map_none, if_true, if_false, ite_true, ite_false, and_self, and_true, true_and, reduceCtorEq, true_or, or_true, List.set_cons_zero, List.set_cons_succ, List.getD_cons_zero, List.getD_cons_succ, List.getElem?_cons_zero, List.getElem?_cons_succ, List.map_cons, List.map_nil, List.length_map, List.length_cons, List.length_nil, List.length_set, List.cons_append, List.nil_append, List.drop_zero, List.drop_succ_cons, List.drop_nil, List.take_zero, List.take_succ_cons, List.take_nil, List.range_succ, List.range_zero, Nat.reduceAdd, Nat.reduceSub, Nat.reduceMul, Nat.reduceLT, Nat.reduceLeDiff, Nat.reduceEqDiff, Nat.zero_add, Nat.add_zero, Nat.lt_add_one, Int.reduceToNat, Int.toNat_natCast, Int.natCast_nonneg, Bool.not_true, Bool.not_false, decide_true, decide_false, Bool.true_eq_false, Bool.false_eq_true]
              exact ended_ret (by simp [resV, St.ev, rulesB]; omega)
          · simp only [h1, h2, h3, h4, h5, go, go1, opOk, opRes, owed_true, branch_true, branch_false, popTo, St.ev, St.put, binV, arith, shifts, unV, bndV, bndOk, isInt, isStr, intOf', strOf, rowAt, blkEs, slotIs, ldv, stv, fillV, partsV, mmV, mmGo, elems, PV.cells, PV.isAgg, PV.stor, Value.oneCell', Option.isSome_some, Option.getD_some, Option.map_some, Option.map_none, if_true, if_false, ite_true, ite_false, and_self, and_true, true_and, reduceCtorEq, true_or, or_true, List.set_cons_zero, List.set_cons_succ, List.getD_cons_zero, List.getD_cons_succ, List.getElem?_cons_zero, List.getElem?_cons_succ, List.map_cons, List.map_nil, List.length_map, List.length_cons, List.length_nil, List.length_set, List.cons_append, List.nil_append, List.drop_zero, List.drop_succ_cons, List.drop_nil, List.take_zero, List.take_succ_cons, List.take_nil, List.range_succ, List.range_zero, Nat.reduceAdd, Nat.reduceSub, Nat.reduceMul, Nat.reduceLT, Nat.reduceLeDiff, Nat.reduceEqDiff, Nat.zero_add, Nat.add_zero, Nat.lt_add_one, Int.reduceToNat, Int.toNat_natCast, Int.natCast_nonneg, Bool.not_true, Bool.not_false, decide_true, decide_false, Bool.true_eq_false, Bool.false_eq_true]
            exact ended_ret (by simp [resV, St.ev, rulesB]; omega)
        · simp only [h1, h2, h3, h4, go, go1, opOk, opRes, owed_true, branch_true, branch_false, popTo, St.ev, St.put, binV, arith, shifts, unV, bndV, bndOk, isInt, isStr, intOf', strOf, rowAt, blkEs, slotIs, ldv, stv, fillV, partsV, mmV, mmGo, elems, PV.cells, PV.isAgg, PV.stor, Value.oneCell', Option.isSome_some, Option.getD_some, Option.map_some, Option.map_none, if_true, if_false, ite_true, ite_false, and_self, and_true, true_and, reduceCtorEq, true_or, or_true, List.set_cons_zero, List.set_cons_succ, List.getD_cons_zero, List.getD_cons_succ, List.getElem?_cons_zero, List.getElem?_cons_succ, List.map_cons, List.map_nil, List.length_map, List.length_cons, List.length_nil, List.length_set, List.cons_append, List.nil_append, List.drop_zero, List.drop_succ_cons, List.drop_nil, List.take_zero, List.take_succ_cons, List.take_nil, List.range_succ, List.range_zero, Nat.reduceAdd, Nat.reduceSub, Nat.reduceMul, Nat.reduceLT, Nat.reduceLeDiff, Nat.reduceEqDiff, Nat.zero_add, Nat.add_zero, Nat.lt_add_one, Int.reduceToNat, Int.toNat_natCast, Int.natCast_nonneg, Bool.not_true, Bool.not_false, decide_true, decide_false, Bool.true_eq_false, Bool.false_eq_true]
          exact ended_ret (by simp [resV, St.ev, rulesB]; omega)
      · simp only [h1, h2, h3, go, go1, opOk, opRes, owed_true, branch_true, branch_false, popTo, St.ev, St.put, binV, arith, shifts, unV, bndV, bndOk, isInt, isStr, intOf', strOf, rowAt, blkEs, slotIs, ldv, stv, fillV, partsV, mmV, mmGo, elems, PV.cells, PV.isAgg, PV.stor, Value.oneCell', Option.isSome_some, Option.getD_some, Option.map_some, Option.map_none, if_true, if_false, ite_true, ite_false, and_self, and_true, true_and, reduceCtorEq, true_or, or_true, List.set_cons_zero, List.set_cons_succ, List.getD_cons_zero, List.getD_cons_succ, List.getElem?_cons_zero, List.getElem?_cons_succ, List.map_cons, List.map_nil, List.length_map, List.length_cons, List.length_nil, List.length_set, List.cons_append, List.nil_append, List.drop_zero, List.drop_succ_cons, List.drop_nil, List.take_zero, List.take_succ_cons, List.take_nil, List.range_succ, List.range_zero, Nat.reduceAdd, Nat.reduceSub, Nat.reduceMul, Nat.reduceLT, Nat.reduceLeDiff, Nat.reduceEqDiff, Nat.zero_add, Nat.add_zero, Nat.lt_add_one, Int.reduceToNat, Int.toNat_natCast, Int.natCast_nonneg, Bool.not_true, Bool.not_false, decide_true, decide_false, Bool.true_eq_false, Bool.false_eq_true]
        exact ended_ret (by simp [resV, St.ev, rulesB]; omega)
    · simp only [h1, h2, go, go1, opOk, opRes, owed_true, branch_true, branch_false, popTo, St.ev, St.put, binV, arith, shifts, unV, bndV, bndOk, isInt, isStr, intOf', strOf, rowAt, blkEs, slotIs, ldv, stv, fillV, partsV, mmV, mmGo, elems, PV.cells, PV.isAgg, PV.stor, Value.oneCell', Option.isSome_some, Option.getD_some, Option.map_some, Option.map_none, if_true, if_false, ite_true, ite_false, and_self, and_true, true_and, reduceCtorEq, true_or, or_true, List.set_cons_zero, List.set_cons_succ, List.getD_cons_zero, List.getD_cons_succ, List.getElem?_cons_zero, List.getElem?_cons_succ, List.map_cons, List.map_nil, List.length_map, List.length_cons, List.length_nil, List.length_set, List.cons_append, List.nil_append, List.drop_zero, List.drop_succ_cons, List.drop_nil, List.take_zero, List.take_succ_cons, List.take_nil, List.range_succ, List.range_zero, Nat.reduceAdd, Nat.reduceSub, Nat.reduceMul, Nat.reduceLT, Nat.reduceLeDiff, Nat.reduceEqDiff, Nat.zero_add, Nat.add_zero, Nat.lt_add_one, Int.reduceToNat, Int.toNat_natCast, Int.natCast_nonneg, Bool.not_true, Bool.not_false, decide_true, decide_false, Bool.true_eq_false, Bool.false_eq_true]
      exact ended_ret (by simp [resV, St.ev, rulesB]; omega)
  · simp only [h1, go, go1, opOk, opRes, owed_true, branch_true, branch_false, popTo, St.ev, St.put, binV, arith, shifts, unV, bndV, bndOk, isInt, isStr, intOf', strOf, rowAt, blkEs, slotIs, ldv, stv, fillV, partsV, mmV, mmGo, elems, PV.cells, PV.isAgg, PV.stor, Value.oneCell', Option.isSome_some, Option.getD_some, Option.map_some, Option.map_none, if_true, if_false, ite_true, ite_false, and_self, and_true, true_and, reduceCtorEq, true_or, or_true, List.set_cons_zero, List.set_cons_succ, List.getD_cons_zero, List.getD_cons_succ, List.getElem?_cons_zero, List.getElem?_cons_succ, List.map_cons, List.map_nil, List.length_map, List.length_cons, List.length_nil, List.length_set, List.cons_append, List.nil_append, List.drop_zero, List.drop_succ_cons, List.drop_nil, List.take_zero, List.take_succ_cons, List.take_nil, List.range_succ, List.range_zero, Nat.reduceAdd, Nat.reduceSub, Nat.reduceMul, Nat.reduceLT, Nat.reduceLeDiff, Nat.reduceEqDiff, Nat.zero_add, Nat.add_zero, Nat.lt_add_one, Int.reduceToNat, Int.toNat_natCast, Int.natCast_nonneg, Bool.not_true, Bool.not_false, decide_true, decide_false, Bool.true_eq_false, Bool.false_eq_true]
    exact ended_ret (by simp [resV, St.ev, rulesB]; omega)

/-- What is left of a step. -/
theorem quo_step (d c k : Int) (hd : 0 ≤ d) (hc : 1 ≤ c) (hk : 0 ≤ k) : d.tdiv c ≤ (d * (k + 1)).tdiv c - (d * k).tdiv c ∧ (d * (k + 1)).tdiv c - (d * k).tdiv c ≤ d.tdiv c + 1 := by
  have hk1 : 0 ≤ d * k := Int.mul_nonneg hd hk
  have hk2 : 0 ≤ d * (k + 1) := Int.mul_nonneg hd (by omega)
  rw [Int.tdiv_eq_ediv_of_nonneg hd, Int.tdiv_eq_ediv_of_nonneg hk1, Int.tdiv_eq_ediv_of_nonneg hk2]
  have e : d * (k + 1) = d * k + d := by rw [Int.mul_add, Int.mul_one]
  rw [e]
  generalize d * k = x at *
  have hx := Int.emod_add_ediv_mul x c
  have hxm := Int.emod_nonneg x (show c ≠ 0 by omega)
  have hxl := Int.emod_lt_of_pos x (show 0 < c by omega)
  have hd' := Int.emod_add_ediv_mul d c
  have hdm := Int.emod_nonneg d (show c ≠ 0 by omega)
  have hdl := Int.emod_lt_of_pos d (show 0 < c by omega)
  have hy := Int.emod_add_ediv_mul (x + d) c
  have hym := Int.emod_nonneg (x + d) (show c ≠ 0 by omega)
  have hyl := Int.emod_lt_of_pos (x + d) (show 0 < c by omega)
  generalize x / c = p at *
  generalize d / c = q at *
  generalize (x + d) / c = s at *
  generalize x % c = x1 at *
  generalize d % c = d1 at *
  generalize (x + d) % c = y1 at *
  have key : (s - p - q) * c = x1 + d1 - y1 := by
    rw [Int.sub_mul, Int.sub_mul]; omega
  constructor
  · refine Int.not_lt.1 fun hlt => ?_
    have : (s - p - q) * c ≤ (-1) * c := Int.mul_le_mul_of_nonneg_right (by omega) (by omega)
    omega
  · refine Int.not_lt.1 fun hlt => ?_
    have : 2 * c ≤ (s - p - q) * c := Int.mul_le_mul_of_nonneg_right (by omega) (by omega)
    omega

theorem graceV_zero {a b c : Int} {m : Nat} (h5 : 0 ≤ c) : graceV a b c m 0 = if c = 0 then a * bl m else a * bl m * b := by
  unfold graceV
  split
  · rfl
  · rw [show min (0 : Int) c = 0 by omega]; simp
theorem graceV_all {a b c : Int} {m : Nat} {k : Int} (h : c ≤ k) (h5 : 0 ≤ c) : graceV a b c m k = a * bl m := by
  unfold graceV
  split
  · rfl
  · rw [show min k c = c by omega, Int.mul_tdiv_cancel _ (by omega)]; omega

theorem grace_range {a b c k : Int} {m : Nat} (h : rulesB a b c = true) (hn : 1 ≤ m) (hn2 : m ≤ 64) (hk : 0 ≤ k) : -1400000 ≤ graceV a b c m k ∧ graceV a b c m k ≤ 140000 := by
  obtain ⟨g1, g2, g3, g4, g5, g6, g7, g8⟩ := grace_in (k := k) h hn hn2 hk
  obtain ⟨r1, r2, r3, r4, r5, r6⟩ := rules_bounds h
  unfold graceV
  split
  · omega
  · have q := quo_bounds (c := c) g7 g8 (by omega)
    omega

theorem grace_step {a b c : Int} {m k : Nat} (h : rulesB a b c = true) (hn : 1 ≤ m) (hn2 : m ≤ 64) (hk : (k : Int) < c) :
    (graceV a b c m 0 - graceV a b c m c).tdiv c ≤ graceV a b c m k - graceV a b c m ((k + 1 : Nat) : Int) ∧ graceV a b c m k - graceV a b c m ((k + 1 : Nat) : Int) ≤ (graceV a b c m 0 - graceV a b c m c).tdiv c + 1 := by
  obtain ⟨r1, r2, r3, r4, r5, r6⟩ := rules_bounds h
  obtain ⟨g1, g2, g3, g4, g5, g6, g7, g8⟩ := grace_in (k := k) h hn hn2 (by omega)
  rw [graceV_zero r5, graceV_all (Int.le_refl c) r5, if_neg (by omega)]
  have s := quo_step (a * bl m * b - a * bl m) c k (by omega) (by omega) (by omega)
  unfold graceV
  rw [if_neg (by omega), if_neg (by omega), show min (k : Int) c = k by omega, show min ((k + 1 : Nat) : Int) c = (k : Int) + 1 by omega]
  omega

theorem graceB_true {a b c n k : Int} (h : rulesB a b c = true) (h1 : 1 ≤ n) (h2 : n ≤ 64) (hk : 0 ≤ k) : graceB a b c n k = true := by simp [graceB, h]; omega
theorem grace_ok' (a b c : Int) (m : Nat) (k : Int) (h : rulesB a b c = true) (h1 : 1 ≤ m) (h2 : m ≤ 64) (hk : 0 ≤ k) : VPure Try.prog 9 [vr a b c, vi m, vi k] (.tup [vi (graceV a b c m k), vi 0]) := by
  have := grace_ok a b c m k
  rw [graceB_true h (by omega) (by omega) hk] at this
  exact this
end Go.Proofs.Yticljphbbdnomaa.VL
