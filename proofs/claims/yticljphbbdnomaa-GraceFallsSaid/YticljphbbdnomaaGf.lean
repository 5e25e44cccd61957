/- GraceFalls, gone through. -/
import Derived.Test.YticljphbbdnomaaGd
namespace Go.Proofs.Yticljphbbdnomaa.VL
open Go
set_option linter.unusedVariables false
set_option linter.unusedSimpArgs false
set_option maxRecDepth 100000

theorem tdiv_mono {x y c : Int} (h0 : 0 ≤ x) (h : x ≤ y) (hc : 1 ≤ c) : x.tdiv c ≤ y.tdiv c := by
  rw [Int.tdiv_eq_ediv_of_nonneg h0, Int.tdiv_eq_ediv_of_nonneg (by omega)]
  exact Int.ediv_le_ediv (by omega) h
theorem tdiv_add {x d c : Int} (h0 : 0 ≤ x) (hd : 0 ≤ d) (hc : 1 ≤ c) : (x + d * c).tdiv c = x.tdiv c + d := by
  have := Int.mul_nonneg hd (show 0 ≤ c by omega)
  rw [Int.tdiv_eq_ediv_of_nonneg h0, Int.tdiv_eq_ediv_of_nonneg (by omega)]
  exact Int.add_mul_ediv_right x d (by omega)

theorem grace_fall {a b c k : Int} {m : Nat} (h : rulesB a b c = true) (hn : 1 ≤ m) (hn2 : m ≤ 64) (hk : 0 ≤ k) : graceV a b c m (k + 1) ≤ graceV a b c m k := by
  obtain ⟨r1, r2, r3, r4, r5, r6⟩ := rules_bounds h
  obtain ⟨g1, g2, g3, g4, g5, g6, g7, g8⟩ := grace_in (k := k) h hn hn2 hk
  unfold graceV
  split
  · omega
  · have : (a * bl m * b - a * bl m) * min k c ≤ (a * bl m * b - a * bl m) * min (k + 1) c := Int.mul_le_mul_of_nonneg_left (by omega) (by omega)
    have := tdiv_mono g7 this (show 1 ≤ c by omega)
    omega

theorem grace_ends {a b c k : Int} {m : Nat} (h : rulesB a b c = true) (hn : 1 ≤ m) (hn2 : m ≤ 64) (hk : 0 ≤ k) : a * bl m ≤ graceV a b c m k ∧ graceV a b c m k ≤ graceV a b c m 0 := by
  obtain ⟨r1, r2, r3, r4, r5, r6⟩ := rules_bounds h
  obtain ⟨g1, g2, g3, g4, g5, g6, g7, g8⟩ := grace_in (k := k) h hn hn2 hk
  rw [graceV_zero r5]
  unfold graceV
  split
  · omega
  · have q := quo_bounds (c := c) g7 g8 (by omega)
    have e : (a * bl m * b - a * bl m) * min k c ≤ 0 + (a * bl m * b - a * bl m) * c := by
      have := Int.mul_le_mul_of_nonneg_left g6 (show 0 ≤ a * bl m * b - a * bl m by omega)
      omega
    have := tdiv_mono g7 e (show 1 ≤ c by omega)
    rw [tdiv_add (by omega) (by omega) (by omega)] at this
    simp at this
    omega

theorem grace_nodes {a b c k : Int} {m : Nat} (h : rulesB a b c = true) (hn : 1 ≤ m) (hn2 : m ≤ 63) (hk : 0 ≤ k) : graceV a b c m k ≤ graceV a b c (m + 1) k := by
  obtain ⟨r1, r2, r3, r4, r5, r6⟩ := rules_bounds h
  obtain ⟨g1, g2, g3, g4, g5, g6, g7, g8⟩ := grace_in (k := k) h hn (show m ≤ 64 by omega) hk
  obtain ⟨_, _, _, hbl⟩ := bl_tab m (by omega) hn
  have hbl := hbl hn2
  obtain ⟨D, hD, hD0⟩ : ∃ D : Int, a * (bl (m + 1) : Nat) = a * bl m + D ∧ 0 ≤ D := by
    refine ⟨a * (bl (m + 1) : Nat) - a * bl m, by omega, ?_⟩
    have := Int.mul_le_mul_of_nonneg_left (show (bl m : Int) ≤ (bl (m + 1) : Nat) by omega) (show 0 ≤ a by omega)
    omega
  unfold graceV
  rw [hD]
  generalize a * (bl m : Int) = l at *
  split
  · omega
  · have e1 : (l + D) * b = l * b + D * b := Int.add_mul l D b
    have eb : D * 1 ≤ D * b := Int.mul_le_mul_of_nonneg_left r3 hD0
    rw [e1]
    have e2 : (l * b + D * b - (l + D)) * min k c = (l * b - l) * min k c + (D * b - D) * min k c := by
      rw [show l * b + D * b - (l + D) = (l * b - l) + (D * b - D) by omega, Int.add_mul]
    rw [e2]
    have e3 : (l * b - l) * min k c + (D * b - D) * min k c ≤ (l * b - l) * min k c + (D * b - D) * c := by
      have := Int.mul_le_mul_of_nonneg_left g6 (show 0 ≤ D * b - D by omega)
      omega
    have e4 : 0 ≤ (D * b - D) * min k c := Int.mul_nonneg (by omega) g5
    have := tdiv_mono (show 0 ≤ (l * b - l) * min k c + (D * b - D) * min k c by omega) e3 (show 1 ≤ c by omega)
    rw [tdiv_add g7 (by omega) (by omega)] at this
    omega

theorem falls_ok (a b c n k : Int) (h0 : 0 ≤ n) (h1 : n ≤ 255) (k0 : 0 ≤ k) (k1 : k ≤ 255) : VPure Try.prog 3 [vr a b c, .v (.int .u8 n), .v (.int .u8 k)] (vb true) := by
  refine vpure_go hm 132 1000 Try.func3 rfl (by kernel_rfl) (ts := [6]) rfl rfl ic3_ok rfl rfl ?_
  simp only [startSt, List.replicate, List.cons_append, List.nil_append, List.append_nil, List.length_cons, List.length_nil, List.zipIdx_nil, List.map_nil, Nat.reduceAdd, Nat.reduceSub, ic3]
  obtain ⟨M, hM, hM1, hM2⟩ : ∃ M : Nat, (M : Int) = 1 + n.tmod 63 ∧ 1 ≤ M ∧ M ≤ 63 := by
    have e := Int.tmod_eq_emod_of_nonneg (b := 63) h0
    have h2 := Int.emod_nonneg n (show (63 : Int) ≠ 0 by omega)
    have h3 := Int.emod_lt_of_pos n (show (0 : Int) < 63 by omega)
    exact ⟨(1 + n.tmod 63).toNat, by omega, by omega, by omega⟩
  obtain ⟨j, hj, hj2⟩ : ∃ j : Nat, k.tmod 12 = j ∧ j ≤ 11 := by
    have e := Int.tmod_eq_emod_of_nonneg (b := 12) k0
    have h2 := Int.emod_nonneg k (show (12 : Int) ≠ 0 by omega)
    have h3 := Int.emod_lt_of_pos k (show (0 : Int) < 12 by omega)
    exact ⟨(k.tmod 12).toNat, by omega, by omega⟩
  have w1 : IntKind.i64.wrap (n.tmod 63) = n.tmod 63 := wrapI (by omega) (by omega)
  have w2 : IntKind.i64.wrap (1 + n.tmod 63) = M := by rw [wrapI (by omega) (by omega), hM]
  have w3 : IntKind.i64.wrap (j : Int) = j := wrapI (by omega) (by omega)
  have w4 : IntKind.i64.wrap ((j : Int) + 1) = (j : Int) + 1 := wrapI (by omega) (by omega)
  have w5 : IntKind.i64.wrap ((M : Int) + 1) = ((M + 1 : Nat) : Int) := by rw [wrapI (by omega) (by omega)]; omega
  simp only [w1, w2, hj, w3, show ((63 : Int) = 0) = False from by simp, show ((12 : Int) = 0) = False from by simp, go, go1, opOk, opRes, owed_true, branch_true, branch_false, popTo, St.ev, St.put, binV, arith, shifts, unV, bndV, bndOk, isInt, isStr, intOf', strOf, rowAt, blkEs, slotIs, ldv, stv, fillV, partsV, mmV, mmGo, elems, PV.cells, PV.isAgg, PV.stor, Value.oneCell', Option.isSome_some, Option.getD_some, Option.map_some, Option.map_none, if_true, if_false, ite_true, ite_false, and_self, and_true, true_and, reduceCtorEq, true_or, or_true, List.set_cons_zero, List.set_cons_succ, List.getD_cons_zero, List.getD_cons_succ, List.getElem?_cons_zero, List.getElem?_cons_succ, List.map_cons, List.map_nil, List.length_map, List.length_cons, List.length_nil, List.length_set, List.cons_append, List.nil_append, List.drop_zero, List.drop_succ_cons, List.drop_nil, List.take_zero, List.take_succ_cons, List.take_nil, List.range_succ, List.range_zero, Nat.reduceAdd, Nat.reduceSub, Nat.reduceMul, Nat.reduceLT, Nat.reduceLeDiff, Nat.reduceEqDiff, Nat.zero_add, Nat.add_zero, Nat.lt_add_one, Int.reduceToNat, Int.toNat_natCast, Int.natCast_nonneg, Bool.not_true, Bool.not_false, decide_true, decide_false, Bool.true_eq_false, Bool.false_eq_true]
  cases hr : rulesB a b c
  · have hg : ∀ n k : Int, graceB a b c n k = false := by intro n k; simp [graceB, hr]
    have gk : ∀ n k : Int, VPure Try.prog 9 [vr a b c, vi n, vi k] (.tup [vi 0, vi 1]) := by
      intro n k
      have := grace_ok a b c n k
      rw [hg] at this
      exact this
    refine called_pure (gk _ _) ?_
    simp only [w4, go, go1, opOk, opRes, owed_true, branch_true, branch_false, popTo, St.ev, St.put, binV, arith, shifts, unV, bndV, bndOk, isInt, isStr, intOf', strOf, rowAt, blkEs, slotIs, ldv, stv, fillV, partsV, mmV, mmGo, elems, PV.cells, PV.isAgg, PV.stor, Value.oneCell', Option.isSome_some, Option.getD_some, Option.map_some, Option.map_none, if_true, if_false, ite_true, ite_false, and_self, and_true, true_and, reduceCtorEq, true_or, or_true, List.set_cons_zero, List.set_cons_succ, List.getD_cons_zero, List.getD_cons_succ, List.getElem?_cons_zero, List.getElem?_cons_succ, List.map_cons, List.map_nil, List.length_map, List.length_cons, List.length_nil, List.length_set, List.cons_append, List.nil_append, List.drop_zero, List.drop_succ_cons, List.drop_nil, List.take_zero, List.take_succ_cons, List.take_nil, List.range_succ, List.range_zero, Nat.reduceAdd, Nat.reduceSub, Nat.reduceMul, Nat.reduceLT, Nat.reduceLeDiff, Nat.reduceEqDiff, Nat.zero_add, Nat.add_zero, Nat.lt_add_one, Int.reduceToNat, Int.toNat_natCast, Int.natCast_nonneg, Bool.not_true, Bool.not_false, decide_true, decide_false, Bool.true_eq_false, Bool.false_eq_true]
    refine called_pure (gk _ _) ?_
    simp only [w5, go, go1, opOk, opRes, owed_true, branch_true, branch_false, popTo, St.ev, St.put, binV, arith, shifts, unV, bndV, bndOk, isInt, isStr, intOf', strOf, rowAt, blkEs, slotIs, ldv, stv, fillV, partsV, mmV, mmGo, elems, PV.cells, PV.isAgg, PV.stor, Value.oneCell', Option.isSome_some, Option.getD_some, Option.map_some, Option.map_none, if_true, if_false, ite_true, ite_false, and_self, and_true, true_and, reduceCtorEq, true_or, or_true, List.set_cons_zero, List.set_cons_succ, List.getD_cons_zero, List.getD_cons_succ, List.getElem?_cons_zero, List.getElem?_cons_succ, List.map_cons, List.map_nil, List.length_map, List.length_cons, List.length_nil, List.length_set, List.cons_append, List.nil_append, List.drop_zero, List.drop_succ_cons, List.drop_nil, List.take_zero, List.take_succ_cons, List.take_nil, List.range_succ, List.range_zero, Nat.reduceAdd, Nat.reduceSub, Nat.reduceMul, Nat.reduceLT, Nat.reduceLeDiff, Nat.reduceEqDiff, Nat.zero_add, Nat.add_zero, Nat.lt_add_one, Int.reduceToNat, Int.toNat_natCast, Int.natCast_nonneg, Bool.not_true, Bool.not_false, decide_true, decide_false, Bool.true_eq_false, Bool.false_eq_true]
    refine called_pure (gk _ _) ?_
    simp only [go, go1, opOk, opRes, owed_true, branch_true, branch_false, popTo, St.ev, St.put, binV, arith, shifts, unV, bndV, bndOk, isInt, isStr, intOf', strOf, rowAt, blkEs, slotIs, ldv, stv, fillV, partsV, mmV, mmGo, elems, PV.cells, PV.isAgg, PV.stor, Value.oneCell', Option.isSome_some, Option.getD_some, Option.map_some, Option.map_none, if_true, if_false, ite_true, ite_false, and_self, and_true, true_and, reduceCtorEq, true_or, or_true, List.set_cons_zero, List.set_cons_succ, List.getD_cons_zero, List.getD_cons_succ, List.getElem?_cons_zero, List.getElem?_cons_succ, List.map_cons, List.map_nil, List.length_map, List.length_cons, List.length_nil, List.length_set, List.cons_append, List.nil_append, List.drop_zero, List.drop_succ_cons, List.drop_nil, List.take_zero, List.take_succ_cons, List.take_nil, List.range_succ, List.range_zero, Nat.reduceAdd, Nat.reduceSub, Nat.reduceMul, Nat.reduceLT, Nat.reduceLeDiff, Nat.reduceEqDiff, Nat.zero_add, Nat.add_zero, Nat.lt_add_one, Int.reduceToNat, Int.toNat_natCast, Int.natCast_nonneg, Bool.not_true, Bool.not_false, decide_true, decide_false, Bool.true_eq_false, Bool.false_eq_true]
    refine called_pure (gk _ _) ?_
    simp only [go, go1, opOk, opRes, owed_true, branch_true, branch_false, popTo, St.ev, St.put, binV, arith, shifts, unV, bndV, bndOk, isInt, isStr, intOf', strOf, rowAt, blkEs, slotIs, ldv, stv, fillV, partsV, mmV, mmGo, elems, PV.cells, PV.isAgg, PV.stor, Value.oneCell', Option.isSome_some, Option.getD_some, Option.map_some, Option.map_none, if_true, if_false, ite_true, ite_false, and_self, and_true, true_and, reduceCtorEq, true_or, or_true, List.set_cons_zero, List.set_cons_succ, List.getD_cons_zero, List.getD_cons_succ, List.getElem?_cons_zero, List.getElem?_cons_succ, List.map_cons, List.map_nil, List.length_map, List.length_cons, List.length_nil, List.length_set, List.cons_append, List.nil_append, List.drop_zero, List.drop_succ_cons, List.drop_nil, List.take_zero, List.take_succ_cons, List.take_nil, List.range_succ, List.range_zero, Nat.reduceAdd, Nat.reduceSub, Nat.reduceMul, Nat.reduceLT, Nat.reduceLeDiff, Nat.reduceEqDiff, Nat.zero_add, Nat.add_zero, Nat.lt_add_one, Int.reduceToNat, Int.toNat_natCast, Int.natCast_nonneg, Bool.not_true, Bool.not_false, decide_true, decide_false, Bool.true_eq_false, Bool.false_eq_true]
    refine called_pure (gk _ _) ?_
    simp only [go, go1, opOk, opRes, owed_true, branch_true, branch_false, popTo, St.ev, St.put, binV, arith, shifts, unV, bndV, bndOk, isInt, isStr, intOf', strOf, rowAt, blkEs, slotIs, ldv, stv, fillV, partsV, mmV, mmGo, elems, PV.cells, PV.isAgg, PV.stor, Value.oneCell', Option.isSome_some, Option.getD_some, Option.map_some, Option.map_none, if_true, if_false, ite_true, ite_false, and_self, and_true, true_and, reduceCtorEq, true_or, or_true, List.set_cons_zero, List.set_cons_succ, List.getD_cons_zero, List.getD_cons_succ, List.getElem?_cons_zero, List.getElem?_cons_succ, List.map_cons, List.map_nil, List.length_map, List.length_cons, List.length_nil, List.length_set, List.cons_append, List.nil_append, List.drop_zero, List.drop_succ_cons, List.drop_nil, List.take_zero, List.take_succ_cons, List.take_nil, List.range_succ, List.range_zero, Nat.reduceAdd, Nat.reduceSub, Nat.reduceMul, Nat.reduceLT, Nat.reduceLeDiff, Nat.reduceEqDiff, Nat.zero_add, Nat.add_zero, Nat.lt_add_one, Int.reduceToNat, Int.toNat_natCast, Int.natCast_nonneg, Bool.not_true, Bool.not_false, decide_true, decide_false, Bool.true_eq_false, Bool.false_eq_true]
    refine called_pure (refRules_ok _ _ _) ?_
    simp only [hr, show ((1 : Int) == 1) = true from rfl, go, go1, opOk, opRes, owed_true, branch_true, branch_false, popTo, St.ev, St.put, binV, arith, shifts, unV, bndV, bndOk, isInt, isStr, intOf', strOf, rowAt, blkEs, slotIs, ldv, stv, fillV, partsV, mmV, mmGo, elems, PV.cells, PV.isAgg, PV.stor, Value.oneCell', Option.isSome_some, Option.getD_some, Option.map_some, Option.map_none, if_true, if_false, ite_true, ite_false, and_self, and_true, true_and, reduceCtorEq, true_or, or_true, List.set_cons_zero, List.set_cons_succ, List.getD_cons_zero, List.getD_cons_succ, List.getElem?_cons_zero, List.getElem?_cons_succ, List.map_cons, List.map_nil, List.length_map, List.length_cons, List.length_nil, List.length_set, List.cons_append, List.nil_append, List.drop_zero, List.drop_succ_cons, List.drop_nil, List.take_zero, List.take_succ_cons, List.take_nil, List.range_succ, List.range_zero, Nat.reduceAdd, Nat.reduceSub, Nat.reduceMul, Nat.reduceLT, Nat.reduceLeDiff, Nat.reduceEqDiff, Nat.zero_add, Nat.add_zero, Nat.lt_add_one, Int.reduceToNat, Int.toNat_natCast, Int.natCast_nonneg, Bool.not_true, Bool.not_false, decide_true, decide_false, Bool.true_eq_false, Bool.false_eq_true]
    refine called_pure awake_ok ?_
    simp only [go, go1, opOk, opRes, owed_true, branch_true, branch_false, popTo, St.ev, St.put, binV, arith, shifts, unV, bndV, bndOk, isInt, isStr, intOf', strOf, rowAt, blkEs, slotIs, ldv, stv, fillV, partsV, mmV, mmGo, elems, PV.cells, PV.isAgg, PV.stor, Value.oneCell', Option.isSome_some, Option.getD_some, Option.map_some, Option.map_none, if_true, if_false, ite_true, ite_false, and_self, and_true, true_and, reduceCtorEq, true_or, or_true, List.set_cons_zero, List.set_cons_succ, List.getD_cons_zero, List.getD_cons_succ, List.getElem?_cons_zero, List.getElem?_cons_succ, List.map_cons, List.map_nil, List.length_map, List.length_cons, List.length_nil, List.length_set, List.cons_append, List.nil_append, List.drop_zero, List.drop_succ_cons, List.drop_nil, List.take_zero, List.take_succ_cons, List.take_nil, List.range_succ, List.range_zero, Nat.reduceAdd, Nat.reduceSub, Nat.reduceMul, Nat.reduceLT, Nat.reduceLeDiff, Nat.reduceEqDiff, Nat.zero_add, Nat.add_zero, Nat.lt_add_one, Int.reduceToNat, Int.toNat_natCast, Int.natCast_nonneg, Bool.not_true, Bool.not_false, decide_true, decide_false, Bool.true_eq_false, Bool.false_eq_true]
    exact ended_ret (by simp [resV, St.ev])
  · obtain ⟨r1, r2, r3, r4, r5, r6⟩ := rules_bounds hr
    refine called_pure (grace_ok' a b c M j hr hM1 (by omega) (by omega)) ?_
    simp only [w4, go, go1, opOk, opRes, owed_true, branch_true, branch_false, popTo, St.ev, St.put, binV, arith, shifts, unV, bndV, bndOk, isInt, isStr, intOf', strOf, rowAt, blkEs, slotIs, ldv, stv, fillV, partsV, mmV, mmGo, elems, PV.cells, PV.isAgg, PV.stor, Value.oneCell', Option.isSome_some, Option.getD_some, Option.map_some, Option.map_none, if_true, if_false, ite_true, ite_false, and_self, and_true, true_and, reduceCtorEq, true_or, or_true, List.set_cons_zero, List.set_cons_succ, List.getD_cons_zero, List.getD_cons_succ, List.getElem?_cons_zero, List.getElem?_cons_succ, List.map_cons, List.map_nil, List.length_map, List.length_cons, List.length_nil, List.length_set, List.cons_append, List.nil_append, List.drop_zero, List.drop_succ_cons, List.drop_nil, List.take_zero, List.take_succ_cons, List.take_nil, List.range_succ, List.range_zero, Nat.reduceAdd, Nat.reduceSub, Nat.reduceMul, Nat.reduceLT, Nat.reduceLeDiff, Nat.reduceEqDiff, Nat.zero_add, Nat.add_zero, Nat.lt_add_one, Int.reduceToNat, Int.toNat_natCast, Int.natCast_nonneg, Bool.not_true, Bool.not_false, decide_true, decide_false, Bool.true_eq_false, Bool.false_eq_true]
    refine called_pure (grace_ok' a b c M (j + 1) hr hM1 (by omega) (by omega)) ?_
    simp only [w5, go, go1, opOk, opRes, owed_true, branch_true, branch_false, popTo, St.ev, St.put, binV, arith, shifts, unV, bndV, bndOk, isInt, isStr, intOf', strOf, rowAt, blkEs, slotIs, ldv, stv, fillV, partsV, mmV, mmGo, elems, PV.cells, PV.isAgg, PV.stor, Value.oneCell', Option.isSome_some, Option.getD_some, Option.map_some, Option.map_none, if_true, if_false, ite_true, ite_false, and_self, and_true, true_and, reduceCtorEq, true_or, or_true, List.set_cons_zero, List.set_cons_succ, List.getD_cons_zero, List.getD_cons_succ, List.getElem?_cons_zero, List.getElem?_cons_succ, List.map_cons, List.map_nil, List.length_map, List.length_cons, List.length_nil, List.length_set, List.cons_append, List.nil_append, List.drop_zero, List.drop_succ_cons, List.drop_nil, List.take_zero, List.take_succ_cons, List.take_nil, List.range_succ, List.range_zero, Nat.reduceAdd, Nat.reduceSub, Nat.reduceMul, Nat.reduceLT, Nat.reduceLeDiff, Nat.reduceEqDiff, Nat.zero_add, Nat.add_zero, Nat.lt_add_one, Int.reduceToNat, Int.toNat_natCast, Int.natCast_nonneg, Bool.not_true, Bool.not_false, decide_true, decide_false, Bool.true_eq_false, Bool.false_eq_true]
    refine called_pure (grace_ok' a b c (M + 1) j hr (by omega) (by omega) (by omega)) ?_
    simp only [go, go1, opOk, opRes, owed_true, branch_true, branch_false, popTo, St.ev, St.put, binV, arith, shifts, unV, bndV, bndOk, isInt, isStr, intOf', strOf, rowAt, blkEs, slotIs, ldv, stv, fillV, partsV, mmV, mmGo, elems, PV.cells, PV.isAgg, PV.stor, Value.oneCell', Option.isSome_some, Option.getD_some, Option.map_some, Option.map_none, if_true, if_false, ite_true, ite_false, and_self, and_true, true_and, reduceCtorEq, true_or, or_true, List.set_cons_zero, List.set_cons_succ, List.getD_cons_zero, List.getD_cons_succ, List.getElem?_cons_zero, List.getElem?_cons_succ, List.map_cons, List.map_nil, List.length_map, List.length_cons, List.length_nil, List.length_set, List.cons_append, List.nil_append, List.drop_zero, List.drop_succ_cons, List.drop_nil, List.take_zero, List.take_succ_cons, List.take_nil, List.range_succ, List.range_zero, Nat.reduceAdd, Nat.reduceSub, Nat.reduceMul, Nat.reduceLT, Nat.reduceLeDiff, Nat.reduceEqDiff, Nat.zero_add, Nat.add_zero, Nat.lt_add_one, Int.reduceToNat, Int.toNat_natCast, Int.natCast_nonneg, Bool.not_true, Bool.not_false, decide_true, decide_false, Bool.true_eq_false, Bool.false_eq_true]
    refine called_pure (grace_ok' a b c M c hr hM1 (by omega) r5) ?_
    simp only [go, go1, opOk, opRes, owed_true, branch_true, branch_false, popTo, St.ev, St.put, binV, arith, shifts, unV, bndV, bndOk, isInt, isStr, intOf', strOf, rowAt, blkEs, slotIs, ldv, stv, fillV, partsV, mmV, mmGo, elems, PV.cells, PV.isAgg, PV.stor, Value.oneCell', Option.isSome_some, Option.getD_some, Option.map_some, Option.map_none, if_true, if_false, ite_true, ite_false, and_self, and_true, true_and, reduceCtorEq, true_or, or_true, List.set_cons_zero, List.set_cons_succ, List.getD_cons_zero, List.getD_cons_succ, List.getElem?_cons_zero, List.getElem?_cons_succ, List.map_cons, List.map_nil, List.length_map, List.length_cons, List.length_nil, List.length_set, List.cons_append, List.nil_append, List.drop_zero, List.drop_succ_cons, List.drop_nil, List.take_zero, List.take_succ_cons, List.take_nil, List.range_succ, List.range_zero, Nat.reduceAdd, Nat.reduceSub, Nat.reduceMul, Nat.reduceLT, Nat.reduceLeDiff, Nat.reduceEqDiff, Nat.zero_add, Nat.add_zero, Nat.lt_add_one, Int.reduceToNat, Int.toNat_natCast, Int.natCast_nonneg, Bool.not_true, Bool.not_false, decide_true, decide_false, Bool.true_eq_false, Bool.false_eq_true]
    refine called_pure (grace_ok' a b c M 0 hr hM1 (by omega) (by omega)) ?_
    simp only [go, go1, opOk, opRes, owed_true, branch_true, branch_false, popTo, St.ev, St.put, binV, arith, shifts, unV, bndV, bndOk, isInt, isStr, intOf', strOf, rowAt, blkEs, slotIs, ldv, stv, fillV, partsV, mmV, mmGo, elems, PV.cells, PV.isAgg, PV.stor, Value.oneCell', Option.isSome_some, Option.getD_some, Option.map_some, Option.map_none, if_true, if_false, ite_true, ite_false, and_self, and_true, true_and, reduceCtorEq, true_or, or_true, List.set_cons_zero, List.set_cons_succ, List.getD_cons_zero, List.getD_cons_succ, List.getElem?_cons_zero, List.getElem?_cons_succ, List.map_cons, List.map_nil, List.length_map, List.length_cons, List.length_nil, List.length_set, List.cons_append, List.nil_append, List.drop_zero, List.drop_succ_cons, List.drop_nil, List.take_zero, List.take_succ_cons, List.take_nil, List.range_succ, List.range_zero, Nat.reduceAdd, Nat.reduceSub, Nat.reduceMul, Nat.reduceLT, Nat.reduceLeDiff, Nat.reduceEqDiff, Nat.zero_add, Nat.add_zero, Nat.lt_add_one, Int.reduceToNat, Int.toNat_natCast, Int.natCast_nonneg, Bool.not_true, Bool.not_false, decide_true, decide_false, Bool.true_eq_false, Bool.false_eq_true]
    refine called_pure (refRules_ok _ _ _) ?_
    have f1 := grace_fall hr hM1 (show M ≤ 64 by omega) (show 0 ≤ (j : Int) by omega)
    have f2 := grace_nodes hr hM1 hM2 (show 0 ≤ (j : Int) by omega)
    have f3 := grace_ends hr hM1 (show M ≤ 64 by omega) (show 0 ≤ (j : Int) by omega)
    have f4 := graceV_zero (a := a) (b := b) (m := M) r5
    have f5 : graceV a b c M c = a * bl M := graceV_all (Int.le_refl c) r5
    obtain ⟨g1, g2, g3, g4, _⟩ := grace_in (k := 0) hr hM1 (show M ≤ 64 by omega) (Int.le_refl 0)
    have f6 : graceV a b c M 0 ≤ a * bl M * b := by
      rw [f4]; split <;> omega
    have w6 : IntKind.i64.wrap (a * bl M * b) = a * bl M * b := wrapI (by omega) (by omega)
    rw [← f5] at f3 f6 g1 w6
    have t1 : graceV a b c (M + 1) j ≥ graceV a b c M j := f2
    have t2 : graceV a b c M j ≥ graceV a b c M c := f3.1
    have t3 : graceV a b c M c ≥ 1 := g1
    simp only [hr, f1, t1, t2, f3.2, t3, w6, f6, show ((0 : Int) == 0) = true from rfl, go, go1, opOk, opRes, owed_true, branch_true, branch_false, popTo, St.ev, St.put, binV, arith, shifts, unV, bndV, bndOk, isInt, isStr, intOf', strOf, rowAt, blkEs, slotIs, ldv, stv, fillV, partsV, mmV, mmGo, elems, PV.cells, PV.isAgg, PV.stor, Value.oneCell', Option.isSome_some, Option.getD_some, Option.map_some, Option.map_none, if_true, if_false, ite_true, ite_false, and_self, and_true, true_and, reduceCtorEq, true_or, or_true, List.set_cons_zero, List.set_cons_succ, List.getD_cons_zero, List.getD_cons_succ, List.getElem?_cons_zero, List.getElem?_cons_succ, List.map_cons, List.map_nil, List.length_map, List.length_cons, List.length_nil, List.length_set, List.cons_append, List.nil_append, List.drop_zero, List.drop_succ_cons, List.drop_nil, List.take_zero, List.take_succ_cons, List.take_nil, List.range_succ, List.range_zero, Nat.reduceAdd, Nat.reduceSub, Nat.reduceMul, Nat.reduceLT, Nat.reduceLeDiff, Nat.reduceEqDiff, Nat.zero_add, Nat.add_zero, Nat.lt_add_one, Int.reduceToNat, Int.toNat_natCast, Int.natCast_nonneg, Bool.not_true, Bool.not_false, decide_true, decide_false, Bool.true_eq_false, Bool.false_eq_true]
    refine called_pure awake_ok ?_
    simp only [go, go1, opOk, opRes, owed_true, branch_true, branch_false, popTo, St.ev, St.put, binV, arith, shifts, unV, bndV, bndOk, isInt, isStr, intOf', strOf, rowAt, blkEs, slotIs, ldv, stv, fillV, partsV, mmV, mmGo, elems, PV.cells, PV.isAgg, PV.stor, Value.oneCell', Option.isSome_some, Option.getD_some, Option.map_some, Option.map_none, if_true, if_false, ite_true, ite_false, and_self, and_true, true_and, reduceCtorEq, true_or, or_true, List.set_cons_zero, List.set_cons_succ, List.getD_cons_zero, List.getD_cons_succ, List.getElem?_cons_zero, List.getElem?_cons_succ, List.map_cons, List.map_nil, List.length_map, List.length_cons, List.length_nil, List.length_set, List.cons_append, List.nil_append, List.drop_zero, List.drop_succ_cons, List.drop_nil, List.take_zero, List.take_succ_cons, List.take_nil, List.range_succ, List.range_zero, Nat.reduceAdd, Nat.reduceSub, Nat.reduceMul, Nat.reduceLT, Nat.reduceLeDiff, Nat.reduceEqDiff, Nat.zero_add, Nat.add_zero, Nat.lt_add_one, Int.reduceToNat, Int.toNat_natCast, Int.natCast_nonneg, Bool.not_true, Bool.not_false, decide_true, decide_false, Bool.true_eq_false, Bool.false_eq_true]
    exact ended_ret (by simp [resV, St.ev])
end Go.Proofs.Yticljphbbdnomaa.VL
