/- NewsBudgets, gone through. -/
import Derived.Test.YtemdbhdjchkllaaNa
namespace Go.Proofs.Ytemdbhdjchkllaa.VL
open Go
set_option linter.unusedVariables false
set_option linter.unusedSimpArgs false
set_option maxRecDepth 100000

theorem wrapI {x : Int} (h0 : -4611686018427387905 ≤ x) (h1 : x ≤ 4611686018427387905) : IntKind.i64.wrap x = x := by
  simp only [IntKind.wrap, IntKind.bits, IntKind.signed]
  by_cases hx : 0 ≤ x
  · have : x % (2 ^ 64 : Int) = x := Int.emod_eq_of_lt hx (by omega)
    simp only [this, Bool.true_and]
    rw [if_neg]
    simp only [decide_eq_true_eq]; omega
  · have : x % (2 ^ 64 : Int) = x + 2 ^ 64 := by
      rw [← Int.add_emod_right]
      exact Int.emod_eq_of_lt (by omega) (by omega)
    simp only [this, Bool.true_and]
    rw [if_pos]
    · omega
    · simp only [decide_eq_true_eq]; omega
theorem wrapU {x : Int} (h0 : 0 ≤ x) (h1 : x ≤ 18446744073709551615) : IntKind.u64.wrap x = x := by
  simp only [IntKind.wrap, IntKind.bits, IntKind.signed]
  have : x % (2 ^ 64 : Int) = x := Int.emod_eq_of_lt h0 (by omega)
  simp only [this, Bool.false_and]
  rfl


/-- How many bits a number has. -/
def bl (n : Nat) : Nat := if n = 0 then 0 else Nat.log2 n + 1
theorem len_run : ((List.range 65).map fun n : Nat => run 38 [vu n]) = (List.range 65).map fun n : Nat => some (vi (bl n)) := by kernel_rfl
theorem len_ok (n : Nat) (h : n ≤ 64) : VPure Try.prog 38 [vu n] (vi (bl n)) := by
  have := congrArg (fun l => l[n]?) len_run
  have hn : n < 65 := by omega
  simp only [List.getElem?_map, List.getElem?_range hn, Option.map_some, Option.some.injEq] at this
  exact vpure_run hm noOv_ok [10, 13] tab_ok 1000 50 this
theorem bl_tab : ∀ n, n ≤ 32 → 1 ≤ n → 1 ≤ bl n ∧ bl n ≤ 6 ∧ bl (2 * n) = bl n + 1 ∧ bl n ≤ bl (n + 1) ∧ bl (n + 1) ≤ bl n + 1 := by decide

theorem add_run : ((List.range 64).map fun a : Nat => run 10 [.sl true [], .agg [vi 5, vu 0, vi 0], vi (a + 1 : Nat)]) = (List.range 64).map fun a : Nat => some (.tup [.sl false [.agg [vi 5, vu 0, vi 0, vi (a + 1 : Nat)]], vi 0]) := by kernel_rfl
theorem add_ok (a : Int) (h0 : 1 ≤ a) (h : a ≤ 64) : VPure Try.prog 10 [.sl true [], .agg [vi 5, vu 0, vi 0], vi a] (.tup [.sl false [.agg [vi 5, vu 0, vi 0, vi a]], vi 0]) := by
  obtain ⟨m, rfl⟩ : ∃ m : Nat, a = (m + 1 : Nat) := ⟨(a - 1).toNat, by omega⟩
  have := congrArg (fun l => l[m]?) add_run
  have hn : m < 64 := by omega
  simp only [List.getElem?_map, List.getElem?_range hn, Option.map_some, Option.some.injEq] at this
  exact vpure_run hm noOv_ok [10, 13] tab_ok 1000 50 this

theorem budget_ok (m : Nat) (f : Int) (h1 : 1 ≤ m) (h2 : m ≤ 64) (f1 : 1 ≤ f) (f2 : f ≤ 8) (hb : bl m ≤ 7) : VPure Try.prog 17 [vi m, vi f] (.tup [vi (f * bl m), vi 0]) := by
  refine vpure_go hm 25 1000 Try.func17 rfl (by kernel_rfl) (ts := [4, 5]) rfl rfl ic17_ok rfl rfl ?_
  simp only [startSt, List.replicate, List.cons_append, List.nil_append, List.append_nil, List.length_cons, List.length_nil, List.zipIdx_nil, List.map_nil, Nat.reduceAdd, Nat.reduceSub, ic17]
  have hu : IntKind.u64.wrap ((m : Nat) : Int) = m := wrapU (by omega) (by omega)
  have g0 : 0 ≤ f * (bl m : Int) := Int.mul_nonneg (by omega) (by omega)
  have g1 : f * (bl m : Int) ≤ 8 * 7 := Int.mul_le_mul f2 (by omega) (by omega) (by omega)
  have w1 : IntKind.i64.wrap (f * (bl m : Int)) = f * bl m := wrapI (by omega) (by omega)
  have c1 : ¬ (m : Int) < 1 := by omega
  have c2 : ¬ (m : Int) > 64 := by omega
  have c3 : ¬ f < 1 := by omega
  have c4 : ¬ f > 8 := by omega
  simp only [c1, c2, c3, c4, hu, go, go1, opOk, opRes, owed_true, branch_true, branch_false, popTo, St.ev, St.put, binV, arith, shifts, unV, bndV, bndOk, isInt, isStr, intOf', strOf, rowAt, blkEs, slotIs, ldv, stv, fillV, partsV, mmV, mmGo, elems, PV.cells, PV.isAgg, PV.stor, Value.oneCell', Option.isSome_some, Option.getD_some, Option.map_some, Option.map_none, if_true, if_false, ite_true, ite_false, and_self, and_true, true_and, reduceCtorEq, true_or, or_true, List.set_cons_zero, List.set_cons_succ, List.getD_cons_zero, List.getD_cons_succ, List.getElem?_cons_zero, List.getElem?_cons_succ, List.map_cons, List.map_nil, List.length_map, List.length_cons, List.length_nil, List.length_set, List.cons_append, List.nil_append, List.drop_zero, List.drop_succ_cons, List.drop_nil, List.take_zero, List.take_succ_cons, List.take_nil, List.range_succ, List.range_zero, Nat.reduceAdd, Nat.reduceSub, Nat.reduceMul, Nat.reduceLT, Nat.reduceLeDiff, Nat.reduceEqDiff, Nat.zero_add, Nat.add_zero, Nat.lt_add_one, Int.reduceToNat, Int.toNat_natCast, Int.natCast_nonneg, Bool.not_true, Bool.not_false, decide_true, decide_false, Bool.true_eq_false, Bool.false_eq_true]
  refine called_pure (len_ok m (by omega)) ?_
  simp only [w1, go, go1, opOk, opRes, owed_true, branch_true, branch_false, popTo, St.ev, St.put, binV, arith, shifts, unV, bndV, bndOk, isInt, isStr, intOf', strOf, rowAt, blkEs, slotIs, ldv, stv, fillV, partsV, mmV, mmGo, elems, PV.cells, PV.isAgg, PV.stor, Value.oneCell', Option.isSome_some, Option.getD_some, Option.map_some, Option.map_none, if_true, if_false, ite_true, ite_false, and_self, and_true, true_and, reduceCtorEq, true_or, or_true, List.set_cons_zero, List.set_cons_succ, List.getD_cons_zero, List.getD_cons_succ, List.getElem?_cons_zero, List.getElem?_cons_succ, List.map_cons, List.map_nil, List.length_map, List.length_cons, List.length_nil, List.length_set, List.cons_append, List.nil_append, List.drop_zero, List.drop_succ_cons, List.drop_nil, List.take_zero, List.take_succ_cons, List.take_nil, List.range_succ, List.range_zero, Nat.reduceAdd, Nat.reduceSub, Nat.reduceMul, Nat.reduceLT, Nat.reduceLeDiff, Nat.reduceEqDiff, Nat.zero_add, Nat.add_zero, Nat.lt_add_one, Int.reduceToNat, Int.toNat_natCast, Int.natCast_nonneg, Bool.not_true, Bool.not_false, decide_true, decide_false, Bool.true_eq_false, Bool.false_eq_true]
  exact ended_ret (by simp [resV, St.ev])

theorem budgets_ok (n k : Int) (h0 : 0 ≤ n) (h1 : n ≤ 255) (k0 : 0 ≤ k) (k1 : k ≤ 255) : VPure Try.prog 7 [.v (.int .u8 n), .v (.int .u8 k)] (vb true) := by
  refine vpure_go hm 114 1000 Try.func7 rfl (by kernel_rfl) (ts := [4]) rfl rfl ic7_ok rfl rfl ?_
  simp only [startSt, List.replicate, List.cons_append, List.nil_append, List.append_nil, List.length_cons, List.length_nil, List.zipIdx_nil, List.map_nil, Nat.reduceAdd, Nat.reduceSub, ic7]
  obtain ⟨M, hM, hM1, hM2⟩ : ∃ M : Nat, (M : Int) = 1 + n.tmod 32 ∧ 1 ≤ M ∧ M ≤ 32 := by
    have e := Int.tmod_eq_emod_of_nonneg (b := 32) h0
    have h2 := Int.emod_nonneg n (show (32 : Int) ≠ 0 by omega)
    have h3 := Int.emod_lt_of_pos n (show (0 : Int) < 32 by omega)
    exact ⟨(1 + n.tmod 32).toNat, by omega, by omega, by omega⟩
  obtain ⟨f, hf, hf1, hf2⟩ : ∃ f : Int, f = 1 + k.tmod 7 ∧ 1 ≤ f ∧ f ≤ 7 := by
    have e := Int.tmod_eq_emod_of_nonneg (b := 7) k0
    have h2 := Int.emod_nonneg k (show (7 : Int) ≠ 0 by omega)
    have h3 := Int.emod_lt_of_pos k (show (0 : Int) < 7 by omega)
    exact ⟨1 + k.tmod 7, rfl, by omega, by omega⟩
  have w1 : IntKind.i64.wrap (n.tmod 32) = n.tmod 32 := wrapI (by omega) (by omega)
  have w2 : IntKind.i64.wrap (1 + n.tmod 32) = M := by rw [wrapI (by omega) (by omega), hM]
  have w3 : IntKind.i64.wrap (k.tmod 7) = k.tmod 7 := wrapI (by omega) (by omega)
  have w4 : IntKind.i64.wrap (1 + k.tmod 7) = f := by rw [wrapI (by omega) (by omega), hf]
  have w5 : IntKind.i64.wrap (2 * (M : Int)) = ((2 * M : Nat) : Int) := by rw [wrapI (by omega) (by omega)]; omega
  have w6 : IntKind.i64.wrap ((M : Int) + 1) = ((M + 1 : Nat) : Int) := by rw [wrapI (by omega) (by omega)]; omega
  have w7 : IntKind.i64.wrap (f + 1) = f + 1 := wrapI (by omega) (by omega)
  obtain ⟨b1, b2, b3, b4, b5⟩ := bl_tab M hM2 hM1
  simp only [w1, w2, w3, w4, show ((32 : Int) = 0) = False from by simp, show ((7 : Int) = 0) = False from by simp, go, go1, opOk, opRes, owed_true, branch_true, branch_false, popTo, St.ev, St.put, binV, arith, shifts, unV, bndV, bndOk, isInt, isStr, intOf', strOf, rowAt, blkEs, slotIs, ldv, stv, fillV, partsV, mmV, mmGo, elems, PV.cells, PV.isAgg, PV.stor, Value.oneCell', Option.isSome_some, Option.getD_some, Option.map_some, Option.map_none, if_true, if_false, ite_true, ite_false, and_self, and_true, true_and, reduceCtorEq, true_or, or_true, List.set_cons_zero, List.set_cons_succ, List.getD_cons_zero, List.getD_cons_succ, List.getElem?_cons_zero, List.getElem?_cons_succ, List.map_cons, List.map_nil, List.length_map, List.length_cons, List.length_nil, List.length_set, List.cons_append, List.nil_append, List.drop_zero, List.drop_succ_cons, List.drop_nil, List.take_zero, List.take_succ_cons, List.take_nil, List.range_succ, List.range_zero, Nat.reduceAdd, Nat.reduceSub, Nat.reduceMul, Nat.reduceLT, Nat.reduceLeDiff, Nat.reduceEqDiff, Nat.zero_add, Nat.add_zero, Nat.lt_add_one, Int.reduceToNat, Int.toNat_natCast, Int.natCast_nonneg, Bool.not_true, Bool.not_false, decide_true, decide_false, Bool.true_eq_false, Bool.false_eq_true]
  refine called_pure (budget_ok M f hM1 (by omega) hf1 (by omega) (by omega)) ?_
  simp only [w5, go, go1, opOk, opRes, owed_true, branch_true, branch_false, popTo, St.ev, St.put, binV, arith, shifts, unV, bndV, bndOk, isInt, isStr, intOf', strOf, rowAt, blkEs, slotIs, ldv, stv, fillV, partsV, mmV, mmGo, elems, PV.cells, PV.isAgg, PV.stor, Value.oneCell', Option.isSome_some, Option.getD_some, Option.map_some, Option.map_none, if_true, if_false, ite_true, ite_false, and_self, and_true, true_and, reduceCtorEq, true_or, or_true, List.set_cons_zero, List.set_cons_succ, List.getD_cons_zero, List.getD_cons_succ, List.getElem?_cons_zero, List.getElem?_cons_succ, List.map_cons, List.map_nil, List.length_map, List.length_cons, List.length_nil, List.length_set, List.cons_append, List.nil_append, List.drop_zero, List.drop_succ_cons, List.drop_nil, List.take_zero, List.take_succ_cons, List.take_nil, List.range_succ, List.range_zero, Nat.reduceAdd, Nat.reduceSub, Nat.reduceMul, Nat.reduceLT, Nat.reduceLeDiff, Nat.reduceEqDiff, Nat.zero_add, Nat.add_zero, Nat.lt_add_one, Int.reduceToNat, Int.toNat_natCast, Int.natCast_nonneg, Bool.not_true, Bool.not_false, decide_true, decide_false, Bool.true_eq_false, Bool.false_eq_true]
  refine called_pure (budget_ok (2 * M) f (by omega) (by omega) hf1 (by omega) (by omega)) ?_
  simp only [w6, go, go1, opOk, opRes, owed_true, branch_true, branch_false, popTo, St.ev, St.put, binV, arith, shifts, unV, bndV, bndOk, isInt, isStr, intOf', strOf, rowAt, blkEs, slotIs, ldv, stv, fillV, partsV, mmV, mmGo, elems, PV.cells, PV.isAgg, PV.stor, Value.oneCell', Option.isSome_some, Option.getD_some, Option.map_some, Option.map_none, if_true, if_false, ite_true, ite_false, and_self, and_true, true_and, reduceCtorEq, true_or, or_true, List.set_cons_zero, List.set_cons_succ, List.getD_cons_zero, List.getD_cons_succ, List.getElem?_cons_zero, List.getElem?_cons_succ, List.map_cons, List.map_nil, List.length_map, List.length_cons, List.length_nil, List.length_set, List.cons_append, List.nil_append, List.drop_zero, List.drop_succ_cons, List.drop_nil, List.take_zero, List.take_succ_cons, List.take_nil, List.range_succ, List.range_zero, Nat.reduceAdd, Nat.reduceSub, Nat.reduceMul, Nat.reduceLT, Nat.reduceLeDiff, Nat.reduceEqDiff, Nat.zero_add, Nat.add_zero, Nat.lt_add_one, Int.reduceToNat, Int.toNat_natCast, Int.natCast_nonneg, Bool.not_true, Bool.not_false, decide_true, decide_false, Bool.true_eq_false, Bool.false_eq_true]
  refine called_pure (budget_ok (M + 1) f (by omega) (by omega) hf1 (by omega) (by omega)) ?_
  simp only [w7, go, go1, opOk, opRes, owed_true, branch_true, branch_false, popTo, St.ev, St.put, binV, arith, shifts, unV, bndV, bndOk, isInt, isStr, intOf', strOf, rowAt, blkEs, slotIs, ldv, stv, fillV, partsV, mmV, mmGo, elems, PV.cells, PV.isAgg, PV.stor, Value.oneCell', Option.isSome_some, Option.getD_some, Option.map_some, Option.map_none, if_true, if_false, ite_true, ite_false, and_self, and_true, true_and, reduceCtorEq, true_or, or_true, List.set_cons_zero, List.set_cons_succ, List.getD_cons_zero, List.getD_cons_succ, List.getElem?_cons_zero, List.getElem?_cons_succ, List.map_cons, List.map_nil, List.length_map, List.length_cons, List.length_nil, List.length_set, List.cons_append, List.nil_append, List.drop_zero, List.drop_succ_cons, List.drop_nil, List.take_zero, List.take_succ_cons, List.take_nil, List.range_succ, List.range_zero, Nat.reduceAdd, Nat.reduceSub, Nat.reduceMul, Nat.reduceLT, Nat.reduceLeDiff, Nat.reduceEqDiff, Nat.zero_add, Nat.add_zero, Nat.lt_add_one, Int.reduceToNat, Int.toNat_natCast, Int.natCast_nonneg, Bool.not_true, Bool.not_false, decide_true, decide_false, Bool.true_eq_false, Bool.false_eq_true]
  refine called_pure (budget_ok M (f + 1) hM1 (by omega) (by omega) (by omega) (by omega)) ?_
  rw [b3]
  have e1 : f * ((bl M + 1 : Nat) : Int) = f * bl M + f := by push_cast; rw [Int.mul_add, Int.mul_one]
  have e2 : (f + 1) * (bl M : Int) = f * bl M + bl M := by rw [Int.add_mul, Int.one_mul]
  have p1 : f * (bl M : Int) ≤ f * (bl (M + 1) : Nat) := Int.mul_le_mul_of_nonneg_left (by omega) (by omega)
  have p2 : f * ((bl (M + 1) : Nat) : Int) ≤ f * ((bl M + 1 : Nat) : Int) := Int.mul_le_mul_of_nonneg_left (by omega) (by omega)
  have p3 : f * 1 ≤ f * (bl M : Int) := Int.mul_le_mul_of_nonneg_left (by omega) (by omega)
  have p4 : f * (bl M : Int) ≤ 7 * 6 := Int.mul_le_mul hf2 (by omega) (by omega) (by omega)
  have e3 : (f * bl M + bl M) * f = f * bl M * (f + 1) := by
    rw [← e2, Int.mul_comm (f + 1) (bl M : Int), Int.mul_assoc, Int.mul_comm (f + 1) f, ← Int.mul_assoc, Int.mul_comm (bl M : Int) f]
  have q1 : 0 ≤ f * (bl M : Int) * (f + 1) := Int.mul_nonneg (by omega) (by omega)
  have q2 : f * (bl M : Int) * (f + 1) ≤ 42 * 8 := Int.mul_le_mul (by omega) (by omega) (by omega) (by omega)
  have w8 : IntKind.i64.wrap (f * (bl M : Int) + f) = f * bl M + f := wrapI (by omega) (by omega)
  have w9 : IntKind.i64.wrap (f * (bl M : Int) * (f + 1)) = f * (bl M : Int) * (f + 1) := wrapI (by omega) (by omega)
  have c0 : ((f * (bl M : Int) + f) != (f * (bl M : Int) + f)) = false := by simp
  have c1 : ¬ f * ((bl (M + 1) : Nat) : Int) < f * (bl M : Int) := by omega
  have c2 : ¬ f * ((bl (M + 1) : Nat) : Int) > f * (bl M : Int) + f := by omega
  have c3 : ¬ f * (bl M : Int) + bl M ≤ f * (bl M : Int) := by omega
  have c4 : ¬ f * (bl M : Int) < f := by omega
  simp only [e1, e2, w8, c0, c1, c2, c3, c4, show ((0 : Int) != 0) = false from rfl, go, go1, opOk, opRes, owed_true, branch_true, branch_false, popTo, St.ev, St.put, binV, arith, shifts, unV, bndV, bndOk, isInt, isStr, intOf', strOf, rowAt, blkEs, slotIs, ldv, stv, fillV, partsV, mmV, mmGo, elems, PV.cells, PV.isAgg, PV.stor, Value.oneCell', Option.isSome_some, Option.getD_some, Option.map_some, Option.map_none, if_true, if_false, ite_true, ite_false, and_self, and_true, true_and, reduceCtorEq, true_or, or_true, List.set_cons_zero, List.set_cons_succ, List.getD_cons_zero, List.getD_cons_succ, List.getElem?_cons_zero, List.getElem?_cons_succ, List.map_cons, List.map_nil, List.length_map, List.length_cons, List.length_nil, List.length_set, List.cons_append, List.nil_append, List.drop_zero, List.drop_succ_cons, List.drop_nil, List.take_zero, List.take_succ_cons, List.take_nil, List.range_succ, List.range_zero, Nat.reduceAdd, Nat.reduceSub, Nat.reduceMul, Nat.reduceLT, Nat.reduceLeDiff, Nat.reduceEqDiff, Nat.zero_add, Nat.add_zero, Nat.lt_add_one, Int.reduceToNat, Int.toNat_natCast, Int.natCast_nonneg, Bool.not_true, Bool.not_false, decide_true, decide_false, Bool.true_eq_false, Bool.false_eq_true]
  refine called_pure (add_ok (f * bl M) (by omega) (by omega)) ?_
  simp only [e3, w9, w7, beq_self_eq_true, show ((0 : Int) == 0) = true from rfl, go, go1, opOk, opRes, owed_true, branch_true, branch_false, popTo, St.ev, St.put, binV, arith, shifts, unV, bndV, bndOk, isInt, isStr, intOf', strOf, rowAt, blkEs, slotIs, ldv, stv, fillV, partsV, mmV, mmGo, elems, PV.cells, PV.isAgg, PV.stor, Value.oneCell', Option.isSome_some, Option.getD_some, Option.map_some, Option.map_none, if_true, if_false, ite_true, ite_false, and_self, and_true, true_and, reduceCtorEq, true_or, or_true, List.set_cons_zero, List.set_cons_succ, List.getD_cons_zero, List.getD_cons_succ, List.getElem?_cons_zero, List.getElem?_cons_succ, List.map_cons, List.map_nil, List.length_map, List.length_cons, List.length_nil, List.length_set, List.cons_append, List.nil_append, List.drop_zero, List.drop_succ_cons, List.drop_nil, List.take_zero, List.take_succ_cons, List.take_nil, List.range_succ, List.range_zero, Nat.reduceAdd, Nat.reduceSub, Nat.reduceMul, Nat.reduceLT, Nat.reduceLeDiff, Nat.reduceEqDiff, Nat.zero_add, Nat.add_zero, Nat.lt_add_one, Int.reduceToNat, Int.toNat_natCast, Int.natCast_nonneg, Bool.not_true, Bool.not_false, decide_true, decide_false, Bool.true_eq_false, Bool.false_eq_true]
  refine called_pure awake_ok ?_
  simp only [go, go1, opOk, opRes, owed_true, branch_true, branch_false, popTo, St.ev, St.put, binV, arith, shifts, unV, bndV, bndOk, isInt, isStr, intOf', strOf, rowAt, blkEs, slotIs, ldv, stv, fillV, partsV, mmV, mmGo, elems, PV.cells, PV.isAgg, PV.stor, Value.oneCell', Option.isSome_some, Option.getD_some, Option.map_some, Option.map_none, if_true, if_false, ite_true, ite_false, and_self, and_true, true_and, reduceCtorEq, true_or, or_true, List.set_cons_zero, List.set_cons_succ, List.getD_cons_zero, List.getD_cons_succ, List.getElem?_cons_zero, List.getElem?_cons_succ, List.map_cons, List.map_nil, List.length_map, List.length_cons, List.length_nil, List.length_set, List.cons_append, List.nil_append, List.drop_zero, List.drop_succ_cons, List.drop_nil, List.take_zero, List.take_succ_cons, List.take_nil, List.range_succ, List.range_zero, Nat.reduceAdd, Nat.reduceSub, Nat.reduceMul, Nat.reduceLT, Nat.reduceLeDiff, Nat.reduceEqDiff, Nat.zero_add, Nat.add_zero, Nat.lt_add_one, Int.reduceToNat, Int.toNat_natCast, Int.natCast_nonneg, Bool.not_true, Bool.not_false, decide_true, decide_false, Bool.true_eq_false, Bool.false_eq_true]
  exact ended_ret (by simp [resV, St.ev])
end Go.Proofs.Ytemdbhdjchkllaa.VL
