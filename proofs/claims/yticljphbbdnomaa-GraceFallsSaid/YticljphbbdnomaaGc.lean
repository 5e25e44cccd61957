/- Grace: how long a grace is. -/
import Derived.Test.YticljphbbdnomaaAw
namespace Go.Proofs.Yticljphbbdnomaa.VL
open Go
set_option linter.unusedVariables false
set_option linter.unusedSimpArgs false
set_option maxRecDepth 100000

/-- How many bits a number has. -/
def bl (n : Nat) : Nat := if n = 0 then 0 else Nat.log2 n + 1

theorem len_run : ((List.range 65).map fun n : Nat => run 28 [vu n]) = (List.range 65).map fun n : Nat => some (vi (bl n)) := by kernel_rfl
theorem len_ok (n : Nat) (h : n ≤ 64) : VPure Try.prog 28 [vu n] (vi (bl n)) := by
  have := congrArg (fun l => l[n]?) len_run
  have hn : n < 65 := by omega
  simp only [List.getElem?_map, List.getElem?_range hn, Option.map_some, Option.some.injEq] at this
  exact vpure_run hm clones_ok [12, 13] tab_ok 1000 50 this

theorem bl_tab : ∀ n, n ≤ 64 → 1 ≤ n → 1 ≤ bl n ∧ bl n ≤ 7 ∧ (n ≤ 32 → bl (2 * n) = bl n + 1) ∧ (n ≤ 63 → bl n ≤ bl (n + 1)) := by decide

def graceV (a b c : Int) (n : Nat) (k : Int) : Int := if c = 0 then a * bl n else a * bl n * b - ((a * bl n * b - a * bl n) * min k c).tdiv c
def graceB (a b c : Int) (n k : Int) : Bool := rulesB a b c && (decide (n ≥ 1) && decide (n ≤ 64)) && decide (k ≥ 0)

theorem wrapI {x : Int} (h0 : -4611686018427387905 ≤ x) (h1 : x ≤ 4611686018427387905) : IntKind.i64.wrap x = x := by
  simp only [IntKind.wrap, IntKind.bits, IntKind.signed]
  by_cases hx : 0 ≤ x
  · have : x % (2 ^ 64 : Int) = x := Int.emod_eq_of_lt hx (by omega)
    simp only [this, Bool.true_and]
    rw [if_neg]
    simp only [decide_eq_true_eq]; omega
  · have : x % (2 ^ 64 : Int) = x + 2 ^ 64 := by
      rw [← Int.add_emod_right]
      exact Int.emod_eq_of_lt (by omega) (by omega)
    simp only [this, Bool.true_and]
    rw [if_pos]
    · omega
    · simp only [decide_eq_true_eq]; omega
theorem wrapU {x : Int} (h0 : 0 ≤ x) (h1 : x ≤ 18446744073709551615) : IntKind.u64.wrap x = x := by
  simp only [IntKind.wrap, IntKind.bits, IntKind.signed]
  have : x % (2 ^ 64 : Int) = x := Int.emod_eq_of_lt h0 (by omega)
  simp only [this, Bool.false_and]
  rfl

theorem rules_bounds {a b c : Int} (h : rulesB a b c = true) : 1 ≤ a ∧ a ≤ 1000 ∧ 1 ≤ b ∧ b ≤ 20 ∧ 0 ≤ c ∧ c ≤ 10 := by
  simp [rulesB] at h; omega

/-- What is in between. -/
theorem grace_in {a b c k : Int} {n : Nat} (h : rulesB a b c = true) (hn : 1 ≤ n) (hn2 : n ≤ 64) (hk : 0 ≤ k) :
    1 ≤ a * bl n ∧ a * bl n ≤ 7000 ∧ a * bl n ≤ a * bl n * b ∧ a * bl n * b ≤ 140000 ∧ 0 ≤ min k c ∧ min k c ≤ c ∧ 0 ≤ (a * bl n * b - a * bl n) * min k c ∧ (a * bl n * b - a * bl n) * min k c ≤ 1400000 := by
  obtain ⟨h1, h2, h3, h4, h5, h6⟩ := rules_bounds h
  obtain ⟨g1, g2, _⟩ := bl_tab n hn2 hn
  have g1' : (1 : Int) ≤ bl n := by omega
  have g2' : (bl n : Int) ≤ 7 := by omega
  generalize (bl n : Int) = m at *
  have e1 : 1 ≤ a * m := by have := Int.mul_le_mul h1 g1' (by omega) (by omega); omega
  have e2 : a * m ≤ 7000 := by have := Int.mul_le_mul h2 g2' (by omega) (by omega); omega
  generalize a * m = l at *
  have e3 : l * 1 ≤ l * b := Int.mul_le_mul_of_nonneg_left h3 (by omega)
  have e4 : l * b ≤ 7000 * 20 := Int.mul_le_mul e2 h4 (by omega) (by omega)
  generalize l * b = q at *
  have e5 : 0 ≤ min k c := by omega
  have e6 : min k c ≤ c := by omega
  generalize min k c = t at *
  have e7 : 0 ≤ (q - l) * t := Int.mul_nonneg (by omega) e5
  have e8 : (q - l) * t ≤ 140000 * 10 := Int.mul_le_mul (by omega) (by omega) e5 (by omega)
  refine ⟨e1, e2, by omega, by omega, e5, e6, e7, by omega⟩

theorem quo_bounds {x c : Int} (h0 : 0 ≤ x) (h1 : x ≤ 1400000) (hc : 1 ≤ c) : 0 ≤ x.tdiv c ∧ x.tdiv c ≤ 1400000 := by
  refine ⟨Int.tdiv_nonneg h0 (by omega), ?_⟩
  exact Int.le_trans (Int.tdiv_le_self c h0) h1

theorem grace_ok (a b c n k : Int) : VPure Try.prog 9 [vr a b c, vi n, vi k] (.tup [vi (if graceB a b c n k then graceV a b c n.toNat k else 0), vi (if graceB a b c n k then 0 else 1)]) := by
  refine vpure_go hm 49 1000 Try.func9 rfl (by kernel_rfl) (ts := [6, 7]) rfl rfl ic9_ok rfl rfl ?_
  simp only [startSt, List.replicate, List.cons_append, List.nil_append, List.append_nil, List.length_cons, List.length_nil, List.zipIdx_nil, List.map_nil, Nat.reduceAdd, Nat.reduceSub, ic9]
  simp only [go, go1, opOk, opRes, owed_true, branch_true, branch_false, popTo, St.ev, St.put, binV, arith, shifts, unV, bndV, bndOk, isInt, isStr, intOf', strOf, rowAt, blkEs, slotIs, ldv, stv, fillV, partsV, mmV, mmGo, elems, PV.cells, PV.isAgg, PV.stor, Value.oneCell', Option.isSome_some, Option.getD_some, Option.map_some, Option.map_none, if_true, if_false, ite_true, ite_false, and_self, and_true, true_and, reduceCtorEq, true_or, or_true, List.set_cons_zero, List.set_cons_succ, List.getD_cons_zero, List.getD_cons_succ, List.getElem?_cons_zero, List.getElem?_cons_succ, List.map_cons, List.map_nil, List.length_map, List.length_cons, List.length_nil, List.length_set, List.cons_append, List.nil_append, List.drop_zero, List.drop_succ_cons, List.drop_nil, List.take_zero, List.take_succ_cons, List.take_nil, List.range_succ, List.range_zero, Nat.reduceAdd, Nat.reduceSub, Nat.reduceMul, Nat.reduceLT, Nat.reduceLeDiff, Nat.reduceEqDiff, Nat.zero_add, Nat.add_zero, Nat.lt_add_one, Int.reduceToNat, Int.toNat_natCast, Int.natCast_nonneg, Bool.not_true, Bool.not_false, decide_true, decide_false, Bool.true_eq_false, Bool.false_eq_true]
  refine called_pure (may_ok _ _ _) ?_
  cases h1 : rulesB a b c
  · have hg : graceB a b c n k = false := by simp [graceB, h1]
    simp only [show ((1 : Int) != 0) = true from rfl, go, go1, opOk, opRes, owed_true, branch_true, branch_false, popTo, St.ev, St.put, binV, arith, shifts, unV, bndV, bndOk, isInt, isStr, intOf', strOf, rowAt, blkEs, slotIs, ldv, stv, fillV, partsV, mmV, mmGo, elems, PV.cells, PV.isAgg, PV.stor, Value.oneCell', Option.isSome_some, Option.getD_some, Option.map_some, Option.map_none, if_true, if_false, ite_true, ite_false, and_self, and_true, true_and, reduceCtorEq, true_or, or_true, List.set_cons_zero, List.set_cons_succ, List.getD_cons_zero, List.getD_cons_succ, List.getElem?_cons_zero, List.getElem?_cons_succ, List.map_cons, List.map_nil, List.length_map, List.length_cons, List.length_nil, List.length_set, List.cons_append, List.nil_append, List.drop_zero, List.drop_succ_cons, List.drop_nil, List.take_zero, List.take_succ_cons, List.take_nil, List.range_succ, List.range_zero, Nat.reduceAdd, Nat.reduceSub, Nat.reduceMul, Nat.reduceLT, Nat.reduceLeDiff, Nat.reduceEqDiff, Nat.zero_add, Nat.add_zero, Nat.lt_add_one, Int.reduceToNat, Int.toNat_natCast, Int.natCast_nonneg, Bool.not_true, Bool.not_false, decide_true, decide_false, Bool.true_eq_false, Bool.false_eq_true]
    exact ended_ret (by simp [resV, St.ev, hg])
  · simp only [show ((0 : Int) != 0) = false from rfl, go, go1, opOk, opRes, owed_true, branch_true, branch_false, popTo, St.ev, St.put, binV, arith, shifts, unV, bndV, bndOk, isInt, isStr, intOf', strOf, rowAt, blkEs, slotIs, ldv, stv, fillV, partsV, mmV, mmGo, elems, PV.cells, PV.isAgg, PV.stor, Value.oneCell', Option.isSome_some, Option.getD_some, Option.map_some, Option.map_none, if_true, if_false, ite_true, ite_false, and_self, and_true, true_and, reduceCtorEq, true_or, or_true, List.set_cons_zero, List.set_cons_succ, List.getD_cons_zero, List.getD_cons_succ, List.getElem?_cons_zero, List.getElem?_cons_succ, List.map_cons, List.map_nil, List.length_map, List.length_cons, List.length_nil, List.length_set, List.cons_append, List.nil_append, List.drop_zero, List.drop_succ_cons, List.drop_nil, List.take_zero, List.take_succ_cons, List.take_nil, List.range_succ, List.range_zero, Nat.reduceAdd, Nat.reduceSub, Nat.reduceMul, Nat.reduceLT, Nat.reduceLeDiff, Nat.reduceEqDiff, Nat.zero_add, Nat.add_zero, Nat.lt_add_one, Int.reduceToNat, Int.toNat_natCast, Int.natCast_nonneg, Bool.not_true, Bool.not_false, decide_true, decide_false, Bool.true_eq_false, Bool.false_eq_true]
    refine called_pure (within_ok _ _ _) ?_
    cases h2 : (decide (n ≥ 1) && decide (n ≤ 64))
    · have hg : graceB a b c n k = false := by simp [graceB, h1, h2]
      simp only [go, go1, opOk, opRes, owed_true, branch_true, branch_false, popTo, St.ev, St.put, binV, arith, shifts, unV, bndV, bndOk, isInt, isStr, intOf', strOf, rowAt, blkEs, slotIs, ldv, stv, fillV, partsV, mmV, mmGo, elems, PV.cells, PV.isAgg, PV.stor, Value.oneCell', Option.isSome_some, Option.getD_some, Option.map_some, Option.map_none, if_true, if_false, ite_true, ite_false, and_self, and_true, true_and, reduceCtorEq, true_or, or_true, List.set_cons_zero, List.set_cons_succ, List.getD_cons_zero, List.getD_cons_succ, List.getElem?_cons_zero, List.getElem?_cons_succ, List.map_cons, List.map_nil, List.length_map, List.length_cons, List.length_nil, List.length_set, List.cons_append, List.nil_append, List.drop_zero, List.drop_succ_cons, List.drop_nil, List.take_zero, List.take_succ_cons, List.take_nil, List.range_succ, List.range_zero, Nat.reduceAdd, Nat.reduceSub, Nat.reduceMul, Nat.reduceLT, Nat.reduceLeDiff, Nat.reduceEqDiff, Nat.zero_add, Nat.add_zero, Nat.lt_add_one, Int.reduceToNat, Int.toNat_natCast, Int.natCast_nonneg, Bool.not_true, Bool.not_false, decide_true, decide_false, Bool.true_eq_false, Bool.false_eq_true]
      exact ended_ret (by simp [resV, St.ev, hg])
    · by_cases hk : k < 0
      · have hg : graceB a b c n k = false := by simp [graceB, h1, h2]; omega
        simp only [hk, go, go1, opOk, opRes, owed_true, branch_true, branch_false, popTo, St.ev, St.put, binV, arith, shifts, unV, bndV, bndOk, isInt, isStr, intOf', strOf, rowAt, blkEs, slotIs, ldv, stv, fillV, partsV, mmV, mmGo, elems, PV.cells, PV.isAgg, PV.stor, Value.oneCell', Option.isSome_some, Option.getD_some, Option.map_some, Option.map_none, if_true, if_false, ite_true, ite_false, and_self, and_true, true_and, reduceCtorEq, true_or, or_true, List.set_cons_zero, List.set_cons_succ, List.getD_cons_zero, List.getD_cons_succ, List.getElem?_cons_zero, List.getElem?_cons_succ, List.map_cons, List.map_nil, List.length_map, List.length_cons, List.length_nil, List.length_set, List.cons_append, List.nil_append, List.drop_zero, List.drop_succ_cons, List.drop_nil, List.take_zero, List.take_succ_cons, List.take_nil, List.range_succ, List.range_zero, Nat.reduceAdd, Nat.reduceSub, Nat.reduceMul, Nat.reduceLT, Nat.reduceLeDiff, Nat.reduceEqDiff, Nat.zero_add, Nat.add_zero, Nat.lt_add_one, Int.reduceToNat, Int.toNat_natCast, Int.natCast_nonneg, Bool.not_true, Bool.not_false, decide_true, decide_false, Bool.true_eq_false, Bool.false_eq_true]
        exact ended_ret (by simp [resV, St.ev, hg])
      · have hg : graceB a b c n k = true := by simp [graceB, h1, h2]; omega
        have h2' : 1 ≤ n ∧ n ≤ 64 := by simpa using h2
        obtain ⟨m, rfl⟩ : ∃ m : Nat, n = m := ⟨n.toNat, by omega⟩
        have hu : IntKind.u64.wrap ((m : Nat) : Int) = m := wrapU (by omega) (by omega)
        obtain ⟨r1, r2, r3, r4, r5, r6⟩ := rules_bounds h1
        obtain ⟨g1, g2, g3, g4, g5, g6, g7, g8⟩ := grace_in (k := k) h1 (n := m) (by omega) (by omega) (by omega)
        have w1 : IntKind.i64.wrap (a * (bl m : Nat)) = a * (bl m : Nat) := wrapI (by omega) (by omega)
        simp only [hk, hu, go, go1, opOk, opRes, owed_true, branch_true, branch_false, popTo, St.ev, St.put, binV, arith, shifts, unV, bndV, bndOk, isInt, isStr, intOf', strOf, rowAt, blkEs, slotIs, ldv, stv, fillV, partsV, mmV, mmGo, elems, PV.cells, PV.isAgg, PV.stor, Value.oneCell', Option.isSome_some, Option.getD_some, Option.map_some, Option.map_none, if_true, if_false, ite_true, ite_false, and_self, and_true, true_and, reduceCtorEq, true_or, or_true, List.set_cons_zero, List.set_cons_succ, List.getD_cons_zero, List.getD_cons_succ, List.getElem?_cons_zero, List.getElem?_cons_succ, List.map_cons, List.map_nil, List.length_map, List.length_cons, List.length_nil, List.length_set, List.cons_append, List.nil_append, List.drop_zero, List.drop_succ_cons, List.drop_nil, List.take_zero, List.take_succ_cons, List.take_nil, List.range_succ, List.range_zero, Nat.reduceAdd, Nat.reduceSub, Nat.reduceMul, Nat.reduceLT, Nat.reduceLeDiff, Nat.reduceEqDiff, Nat.zero_add, Nat.add_zero, Nat.lt_add_one, Int.reduceToNat, Int.toNat_natCast, Int.natCast_nonneg, Bool.not_true, Bool.not_false, decide_true, decide_false, Bool.true_eq_false, Bool.false_eq_true]
        refine called_pure (len_ok m (by omega)) ?_
        simp only [w1, go, go1, opOk, opRes, owed_true, branch_true, branch_false, popTo, St.ev, St.put, binV, arith, shifts, unV, bndV, bndOk, isInt, isStr, intOf', strOf, rowAt, blkEs, slotIs, ldv, stv, fillV, partsV, mmV, mmGo, elems, PV.cells, PV.isAgg, PV.stor, Value.oneCell', Option.isSome_some, Option.getD_some, Option.map_some, Option.map_none, if_true, if_false, ite_true, ite_false, and_self, and_true, true_and, reduceCtorEq, true_or, or_true, List.set_cons_zero, List.set_cons_succ, List.getD_cons_zero, List.getD_cons_succ, List.getElem?_cons_zero, List.getElem?_cons_succ, List.map_cons, List.map_nil, List.length_map, List.length_cons, List.length_nil, List.length_set, List.cons_append, List.nil_append, List.drop_zero, List.drop_succ_cons, List.drop_nil, List.take_zero, List.take_succ_cons, List.take_nil, List.range_succ, List.range_zero, Nat.reduceAdd, Nat.reduceSub, Nat.reduceMul, Nat.reduceLT, Nat.reduceLeDiff, Nat.reduceEqDiff, Nat.zero_add, Nat.add_zero, Nat.lt_add_one, Int.reduceToNat, Int.toNat_natCast, Int.natCast_nonneg, Bool.not_true, Bool.not_false, decide_true, decide_false, Bool.true_eq_false, Bool.false_eq_true]
        by_cases hc : c = 0
        · have hc' : (c == 0) = true := by simp [hc]
          simp only [hc', go, go1, opOk, opRes, owed_true, branch_true, branch_false, popTo, St.ev, St.put, binV, arith, shifts, unV, bndV, bndOk, isInt, isStr, intOf', strOf, rowAt, blkEs, slotIs, ldv, stv, fillV, partsV, mmV, mmGo, elems, PV.cells, PV.isAgg, PV.stor, Value.oneCell', Option.isSome_some, Option.getD_some, Option.map_some, Option.map_none, if_true, if_false, ite_true, ite_false, and_self, and_true, true_and, reduceCtorEq, true_or, or_true, List.set_cons_zero, List.set_cons_succ, List.getD_cons_zero, List.getD_cons_succ, List.getElem?_cons_zero, List.getElem?_cons_succ, List.map_cons, List.map_nil, List.length_map, List.length_cons, List.length_nil, List.length_set, List.cons_append, List.nil_append, List.drop_zero, List.drop_succ_cons, List.drop_nil, List.take_zero, List.take_succ_cons, List.take_nil, List.range_succ, List.range_zero, Nat.reduceAdd, Nat.reduceSub, Nat.reduceMul, Nat.reduceLT, Nat.reduceLeDiff, Nat.reduceEqDiff, Nat.zero_add, Nat.add_zero, Nat.lt_add_one, Int.reduceToNat, Int.toNat_natCast, Int.natCast_nonneg, Bool.not_true, Bool.not_false, decide_true, decide_false, Bool.true_eq_false, Bool.false_eq_true]
          exact ended_ret (by rw [hg]; simp [resV, St.ev, graceV, hc])
        · have hc' : (c == 0) = false := by simp [hc]
          have w2 : IntKind.i64.wrap (a * (bl m : Nat) * b) = a * (bl m : Nat) * b := wrapI (by omega) (by omega)
          have w3 : IntKind.i64.wrap (a * (bl m : Nat) * b - a * (bl m : Nat)) = a * (bl m : Nat) * b - a * (bl m : Nat) := wrapI (by omega) (by omega)
          have hmin : (if c < k then c else k) = min k c := by
            split <;> omega
          have w4 : IntKind.i64.wrap ((a * (bl m : Nat) * b - a * (bl m : Nat)) * min k c) = (a * (bl m : Nat) * b - a * (bl m : Nat)) * min k c := wrapI (by omega) (by omega)
          have q := quo_bounds (c := c) g7 g8 (by omega)
          have w5 : IntKind.i64.wrap (((a * (bl m : Nat) * b - a * (bl m : Nat)) * min k c).tdiv c) = ((a * (bl m : Nat) * b - a * (bl m : Nat)) * min k c).tdiv c := wrapI (by omega) (by omega)
          have w6 : IntKind.i64.wrap (a * (bl m : Nat) * b - ((a * (bl m : Nat) * b - a * (bl m : Nat)) * min k c).tdiv c) = a * (bl m : Nat) * b - ((a * (bl m : Nat) * b - a * (bl m : Nat)) * min k c).tdiv c := wrapI (by omega) (by omega)
          simp only [hc', w2, w3, hc, hmin, w4, w5, w6, go, go1, opOk, opRes, owed_true, branch_true, branch_false, popTo, St.ev, St.put, binV, arith, shifts, unV, bndV, bndOk, isInt, isStr, intOf', strOf, rowAt, blkEs, slotIs, ldv, stv, fillV, partsV, mmV, mmGo, elems, PV.cells, PV.isAgg, PV.stor, Value.oneCell', Option.isSome_some, Option.getD_some, Option.map_some, Option.map_none, if_true, if_false, ite_true, ite_false, and_self, and_true, true_and, reduceCtorEq, true_or, or_true, List.set_cons_zero, List.set_cons_succ, List.getD_cons_zero, List.getD_cons_succ, List.getElem?_cons_zero, List.getElem?_cons_succ, List.map_cons, List.map_nil, List.length_map, List.length_cons, List.length_nil, List.length_set, List.cons_append, List.nil_append, List.drop_zero, List.drop_succ_cons, List.drop_nil, List.take_zero, List.take_succ_cons, List.take_nil, List.range_succ, List.range_zero, Nat.reduceAdd, Nat.reduceSub, Nat.reduceMul, Nat.reduceLT, Nat.reduceLeDiff, Nat.reduceEqDiff, Nat.zero_add, Nat.add_zero, Nat.lt_add_one, Int.reduceToNat, Int.toNat_natCast, Int.natCast_nonneg, Bool.not_true, Bool.not_false, decide_true, decide_false, Bool.true_eq_false, Bool.false_eq_true]
          exact ended_ret (by simp [resV, St.ev, hg, graceV, hc])
end Go.Proofs.Yticljphbbdnomaa.VL
