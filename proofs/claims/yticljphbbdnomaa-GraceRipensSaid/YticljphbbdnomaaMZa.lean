import Derived.Test.YticljphbbdnomaaMXr
import Derived.Test.YticljphbbdnomaaMYw
import Derived.KernelRfl
section
namespace Go.Proofs.Yticljphbbdnomaa.VL
open Go
set_option linter.unusedVariables false
set_option linter.unusedSectionVars false
variable [Val]
theorem wi {x : Int} (h0 : -9223372036854775808 ≤ x) (h1 : x ≤ 9223372036854775807) : IntKind.wrap .i64 x = x := by rw [IntKind.wrap_i64]; omega
theorem loop_all {ρ : Type} {f : Int → Option (Int ⊕ ρ)} {n : Nat} (ok : Nat → Bool) (bad good : ρ) (hend : f (n : Int) = some (.inr good))
  (hstep : ∀ i : Nat, i < n → (∀ j, j < i → ok j = true) → f (i : Int) = if ok i = true then some (.inl ((i + 1 : Nat) : Int)) else some (.inr bad)) :
  loopX f (0 : Int) = some (if (List.range n).all ok = true then good else bad) := by
 classical
 have key : ∀ i : Nat, i ≤ n → (∀ j, j < i → ok j = true) → loopX f (i : Int) = some (if ∀ j, i ≤ j → j < n → ok j = true then good else bad) := by
  intro i hi
  generalize hd : n - i = d
  induction d generalizing i with
  | zero =>
   intro ha
   have : i = n := by omega
   subst this
   rw [loopX_eq, hend, if_pos (fun j h1 h2 => by omega)]
  | succ d ih =>
   intro ha
   rw [loopX_eq, hstep i (by omega) ha]
   by_cases h : ok i = true
   ·rw [if_pos h]
    simp only
    rw [ih (i + 1) (by omega) (by omega) (fun j hj => by
     rcases Nat.lt_or_eq_of_le (Nat.le_of_lt_succ hj) with h1 | h1
     ·exact ha j h1
     ·rw [h1]; exact h)]
    have e : (∀ j, i + 1 ≤ j → j < n → ok j = true) ↔ (∀ j, i ≤ j → j < n → ok j = true) := by
     constructor
     ·intro q j h1 h2
      rcases Nat.lt_or_eq_of_le h1 with h3 | h3
      ·exact q j h3 h2
      ·rw [← h3]; exact h
     ·intro q j h1 h2; exact q j (by omega) h2
    by_cases hq : ∀ j, i ≤ j → j < n → ok j = true
    ·rw [if_pos hq, if_pos (e.2 hq)]
    ·rw [if_neg hq, if_neg (fun q => hq (e.1 q))]
   ·rw [if_neg h]
    simp only
    rw [if_neg (fun q => h (q i (Nat.le_refl _) (by omega)))]
 have := key 0 (Nat.zero_le _) (fun j hj => by omega)
 have e0 : ((0 : Nat) : Int) = 0 := rfl
 rw [e0] at this
 rw [this]
 congr 1
 have e : (∀ j, 0 ≤ j → j < n → ok j = true) ↔ (List.range n).all ok = true := by simp [List.all_eq_true]
 by_cases h : (List.range n).all ok = true
 ·rw [if_pos h, if_pos (e.2 h)]
 ·rw [if_neg h, if_neg (fun q => h (e.1 q))]
def cntP (p : Nat → Bool) : Nat → Nat
 | 0 => 0
 | n + 1 => cntP p n + (if p n = true then 1 else 0)
theorem cntP_le (p : Nat → Bool) : ∀ n, cntP p n ≤ n
 | 0 => Nat.le_refl _
 | n + 1 => by have := cntP_le p n; simp only [cntP]; split <;> omega
theorem xs : (∀ {α : Type} (a b : α), cond true a b = a) ∧ (∀ {α : Type} (a b : α), cond false a b = b) ∧ (∀ {α β : Type} (a : α) (f : α → Option β), (some a).bind f = f a) ∧ (∀ {α β : Type} (a : α) (f : α → β), (some a).map f = some (f a)) ∧
 (∀ {α R : Type} (v : α) (k : α → Option R), joinX (some (.inl v)) k = k v) ∧ (∀ {α R : Type} (r : R) (k : α → Option R), joinX (some (.inr r)) k = some r) ∧ (∀ (h : Decidable True), @decide True h = true) ∧ (∀ (h : Decidable False), @decide False h = false) ∧ ((!true) = false) ∧ ((!false) = true) ∧ (∀ b : Bool, (b && true) = b) ∧ (∀ b : Bool, (true && b) = b) ∧ (∀ b : Bool, (b && b) = b) ∧ (∀ b : Bool, (false && b) = false) ∧ (∀ b : Bool, (b && false) = false) ∧ (∀ b : Bool, (true || b) = true) ∧ (∀ b : Bool, (b || true) = true) ∧ (∀ b : Bool, (false || b) = b) ∧ (∀ b : Bool, (b || false) = b) ∧ (∀ {α : Type} (a b : List α), Append.append a b = a ++ b) ∧ (∀ {α : Type} (a b : List α), (a ++ b).length = a.length + b.length) ∧ (∀ {α : Type} (a : α) (b : List α), (a :: b).length = b.length + 1) ∧ (∀ {α : Type}, ([] : List α).length = 0) ∧ (∀ n : Nat, 0 + n = n) ∧ (∀ n : Nat, n + 0 = n) ∧ (∀ n : Nat, ((n : Int)).toNat = n) ∧ (∀ n : Nat, (n ≤ n) = True) ∧ (∀ n : Int, (n ≤ n) = True) ∧ (∀ {α : Type} (a : List α), a.take a.length = a) ∧ (∀ {α : Type} (a b : α), (some a).getD b = a) ∧ (∀ {α : Type} (b : α), (none : Option α).getD b = b) ∧ (∀ {α : Type} (a b : α), (if True then a else b) = a) ∧ (∀ {α : Type} (a b : α), (if False then a else b) = b) ∧ ((false = true) = False) ∧ ((true = false) = False) := by
 refine ⟨fun _ _ => rfl, fun _ _ => rfl, fun _ _ => rfl, fun _ _ => rfl, fun _ _ => rfl, fun _ _ => rfl, fun _ => by simp, fun _ => by simp, rfl, rfl, ?_, ?_, ?_, ?_, ?_, ?_, ?_, ?_, ?_, fun _ _ => rfl, fun _ _ => List.length_append, fun _ _ => rfl, rfl, Nat.zero_add, fun _ => rfl, fun _ => rfl, fun _ => eq_true (Nat.le_refl _), fun _ => eq_true (Int.le_refl _), fun _ => List.take_length, fun _ _ => rfl, fun _ => rfl, fun _ _ => by simp, fun _ _ => by simp, by simp, by simp⟩ <;> (intro b; cases b <;> rfl)
end Go.Proofs.Yticljphbbdnomaa.VL
end
section
namespace Go.Proofs.Yticljphbbdnomaa.VL
open Go
set_option linter.unusedVariables false
set_option linter.unusedSectionVars false
set_option linter.unusedSimpArgs false
set_option maxRecDepth 100000
def bl (n : Nat) : Nat := if n = 0 then 0 else Nat.log2 n + 1
def rulesB (a b c : Int) : Bool := (decide (1 ≤ a) && decide (a ≤ 1000)) && ((decide (1 ≤ b) && decide (b ≤ 20)) && (decide (0 ≤ c) && decide (c ≤ 10)))
theorem bl_tab : ∀ n, n ≤ 64 → 1 ≤ n → 1 ≤ bl n ∧ bl n ≤ 7 ∧ (n ≤ 32 → bl (2 * n) = bl n + 1) ∧ (n ≤ 63 → bl n ≤ bl (n + 1)) := by decide
def graceV (a b c : Int) (n : Nat) (k : Int) : Int := if c = 0 then a * bl n else a * bl n * b - ((a * bl n * b - a * bl n) * min k c).tdiv c
theorem wrapI {x : Int} (h0 : -4611686018427387905 ≤ x) (h1 : x ≤ 4611686018427387905) : IntKind.i64.wrap x = x := by
 simp only [IntKind.wrap, IntKind.bits, IntKind.signed]
 by_cases hx : 0 ≤ x
 ·have : x % (2 ^ 64 : Int) = x := Int.emod_eq_of_lt hx (by omega)
  simp only [this, Bool.true_and]
  rw [if_neg]
  simp only [decide_eq_true_eq]; omega
 ·have : x % (2 ^ 64 : Int) = x + 2 ^ 64 := by
   rw [← Int.add_emod_right]
   exact Int.emod_eq_of_lt (by omega) (by omega)
  simp only [this, Bool.true_and]
  rw [if_pos]
  ·omega
  ·simp only [decide_eq_true_eq]; omega
theorem wrapU {x : Int} (h0 : 0 ≤ x) (h1 : x ≤ 18446744073709551615) : IntKind.u64.wrap x = x := by
 simp only [IntKind.wrap, IntKind.bits, IntKind.signed]
 have : x % (2 ^ 64 : Int) = x := Int.emod_eq_of_lt h0 (by omega)
 simp only [this, Bool.false_and]
 rfl
theorem rules_bounds {a b c : Int} (h : rulesB a b c = true) : 1 ≤ a ∧ a ≤ 1000 ∧ 1 ≤ b ∧ b ≤ 20 ∧ 0 ≤ c ∧ c ≤ 10 := by
 simp only [rulesB, Bool.and_eq_true, decide_eq_true_eq] at h; omega
theorem grace_in {a b c k : Int} {n : Nat} (h : rulesB a b c = true) (hn : 1 ≤ n) (hn2 : n ≤ 64) (hk : 0 ≤ k) :
  1 ≤ a * bl n ∧ a * bl n ≤ 7000 ∧ a * bl n ≤ a * bl n * b ∧ a * bl n * b ≤ 140000 ∧ 0 ≤ min k c ∧ min k c ≤ c ∧ 0 ≤ (a * bl n * b - a * bl n) * min k c ∧ (a * bl n * b - a * bl n) * min k c ≤ 1400000 := by
 obtain ⟨h1, h2, h3, h4, h5, h6⟩ := rules_bounds h
 obtain ⟨g1, g2, _⟩ := bl_tab n hn2 hn
 have g1' : (1 : Int) ≤ bl n := by omega
 have g2' : (bl n : Int) ≤ 7 := by omega
 generalize (bl n : Int) = m at *
 have e1 : 1 ≤ a * m := by have := Int.mul_le_mul h1 g1' (by omega) (by omega); omega
 have e2 : a * m ≤ 7000 := by have := Int.mul_le_mul h2 g2' (by omega) (by omega); omega
 generalize a * m = l at *
 have e3 : l * 1 ≤ l * b := Int.mul_le_mul_of_nonneg_left h3 (by omega)
 have e4 : l * b ≤ 7000 * 20 := Int.mul_le_mul e2 h4 (by omega) (by omega)
 generalize l * b = q at *
 have e5 : 0 ≤ min k c := by omega
 have e6 : min k c ≤ c := by omega
 generalize min k c = t at *
 have e7 : 0 ≤ (q - l) * t := Int.mul_nonneg (by omega) e5
 have e8 : (q - l) * t ≤ 140000 * 10 := Int.mul_le_mul (by omega) (by omega) e5 (by omega)
 refine ⟨e1, e2, by omega, by omega, e5, e6, e7, by omega⟩
theorem quo_bounds {x c : Int} (h0 : 0 ≤ x) (h1 : x ≤ 1400000) (hc : 1 ≤ c) : 0 ≤ x.tdiv c ∧ x.tdiv c ≤ 1400000 := by
 refine ⟨Int.tdiv_nonneg h0 (by omega), ?_⟩
 exact Int.le_trans (Int.tdiv_le_self c h0) h1
theorem graceV_zero {a b c : Int} {m : Nat} (h5 : 0 ≤ c) : graceV a b c m 0 = if c = 0 then a * bl m else a * bl m * b := by
 unfold graceV
 split
 ·rfl
 ·rw [show min (0 : Int) c = 0 by omega]; simp
theorem graceV_all {a b c : Int} {m : Nat} {k : Int} (h : c ≤ k) (h5 : 0 ≤ c) : graceV a b c m k = a * bl m := by
 unfold graceV
 split
 ·rfl
 ·rw [show min k c = c by omega, Int.mul_tdiv_cancel _ (by omega)]; omega
theorem grace_range {a b c k : Int} {m : Nat} (h : rulesB a b c = true) (hn : 1 ≤ m) (hn2 : m ≤ 64) (hk : 0 ≤ k) : -1400000 ≤ graceV a b c m k ∧ graceV a b c m k ≤ 140000 := by
 obtain ⟨g1, g2, g3, g4, g5, g6, g7, g8⟩ := grace_in (k := k) h hn hn2 hk
 obtain ⟨r1, r2, r3, r4, r5, r6⟩ := rules_bounds h
 unfold graceV
 split
 ·omega
 ·have q := quo_bounds (c := c) g7 g8 (by omega)
  omega
theorem tdiv_mono {x y c : Int} (h0 : 0 ≤ x) (h : x ≤ y) (hc : 1 ≤ c) : x.tdiv c ≤ y.tdiv c := by
 rw [Int.tdiv_eq_ediv_of_nonneg h0, Int.tdiv_eq_ediv_of_nonneg (by omega)]
 exact Int.ediv_le_ediv (by omega) h
theorem tdiv_add {x d c : Int} (h0 : 0 ≤ x) (hd : 0 ≤ d) (hc : 1 ≤ c) : (x + d * c).tdiv c = x.tdiv c + d := by
 have := Int.mul_nonneg hd (show 0 ≤ c by omega)
 rw [Int.tdiv_eq_ediv_of_nonneg h0, Int.tdiv_eq_ediv_of_nonneg (by omega)]
 exact Int.add_mul_ediv_right x d (by omega)
theorem grace_ends {a b c k : Int} {m : Nat} (h : rulesB a b c = true) (hn : 1 ≤ m) (hn2 : m ≤ 64) (hk : 0 ≤ k) : a * bl m ≤ graceV a b c m k ∧ graceV a b c m k ≤ graceV a b c m 0 := by
 obtain ⟨r1, r2, r3, r4, r5, r6⟩ := rules_bounds h
 obtain ⟨g1, g2, g3, g4, g5, g6, g7, g8⟩ := grace_in (k := k) h hn hn2 hk
 rw [graceV_zero r5]
 unfold graceV
 split
 ·omega
 ·have q := quo_bounds (c := c) g7 g8 (by omega)
  have e : (a * bl m * b - a * bl m) * min k c ≤ 0 + (a * bl m * b - a * bl m) * c := by
   have := Int.mul_le_mul_of_nonneg_left g6 (show 0 ≤ a * bl m * b - a * bl m by omega)
   omega
  have := tdiv_mono g7 e (show 1 ≤ c by omega)
  rw [tdiv_add (by omega) (by omega) (by omega)] at this
  simp at this
  omega
variable [Val]
theorem len_run : ((List.range 65).map fun n : Nat => F44 (n : Int)) = (List.range 65).map fun n : Nat => some ((bl n : Nat) : Int) := by kernel_rfl
theorem F44_ok (n : Nat) (h : n ≤ 64) : F44 (n : Int) = some ((bl n : Nat) : Int) := by
 have := congrArg (fun l => l[n]?) len_run
 have hn : n < 65 := by omega
 simpa only [List.getElem?_map, List.getElem?_range hn, Option.map_some, Option.some.injEq] using this
theorem F28_ok (n : Nat) (h : n ≤ 64) : F28 (n : Int) = some ((bl n : Nat) : Int) := by rw [F28_eq, F44_ok n h]; rfl
theorem F27_ok (n a b : Int) : F27 (n, (a, b)) = some (decide (a ≤ n) && decide (n ≤ b)) := by
 rw [F27_eq]
 show cond (decide (a ≤ n)) (some (decide (n ≤ b))) (some false) = _
 cases decide (a ≤ n) <;> rfl
theorem F10_ok (a b c : Int) : F10 (a, (b, c)) = some (rulesB a b c) := by
 rw [F10_eq]
 unfold rulesB
 cases decide (1 ≤ a) <;> cases decide (a ≤ 1000) <;> cases decide (1 ≤ b) <;> cases decide (b ≤ 20) <;> cases decide (0 ≤ c) <;> rfl
theorem F17_ok (a b c : Int) : F17 (a, (b, c)) = some (if rulesB a b c = true then 0 else 1) := by
 rw [F17_eq]
 simp only [F27_ok a 1 1000, F27_ok b 1 20, F27_ok c 0 10, Option.bind_some]
 unfold rulesB
 cases (decide (1 ≤ a) && decide (a ≤ 1000)) <;> cases (decide (1 ≤ b) && decide (b ≤ 20)) <;> cases (decide (0 ≤ c) && decide (c ≤ 10)) <;> rfl
theorem nz0 : ((0 : Int) != 0) = false := rfl
theorem F9_ok (a b c n k : Int) : F9 ((a, (b, c)), (n, k)) = some (if (rulesB a b c && ((decide (1 ≤ n) && decide (n ≤ 64)) && decide (0 ≤ k))) = true then (graceV a b c n.toNat k, 0) else (0, 1)) := by
 rw [F9_eq]
 simp only [F17_ok a b c, F27_ok n 1 64, Option.bind_some]
 cases h1 : rulesB a b c
 ·rfl
 ·cases h2 : (decide (1 ≤ n) && decide (n ≤ 64))
  ·rfl
  ·by_cases hk : k < 0
   ·have hk' : ¬ (0 ≤ k) := by omega
    simp -implicitDefEqProofs only [nz0, hk, hk', eq_self, xs]
   ·have hk' : 0 ≤ k := by omega
    have h2' : 1 ≤ n ∧ n ≤ 64 := by simpa using h2
    obtain ⟨m, rfl⟩ : ∃ m : Nat, n = m := ⟨n.toNat, by omega⟩
    have hu : IntKind.u64.wrap ((m : Nat) : Int) = m := wrapU (by omega) (by omega)
    obtain ⟨r1, r2, r3, r4, r5, r6⟩ := rules_bounds h1
    obtain ⟨g1, g2, g3, g4, g5, g6, g7, g8⟩ := grace_in (k := k) h1 (n := m) (by omega) (by omega) (by omega)
    have w1 : IntKind.i64.wrap (a * (bl m : Nat)) = a * (bl m : Nat) := wrapI (by omega) (by omega)
    have hl := F28_ok m (by omega)
    by_cases hc : c = 0
    ·subst hc
     simp -implicitDefEqProofs only [nz0, hk, hk', hu, hl, w1, beq_self_eq_true, eq_self, xs]
     unfold graceV
     rw [if_pos rfl]
    ·have hc' : (c == 0) = false := by rw [beq_eq_false_iff_ne]; exact hc
     have w2 : IntKind.i64.wrap (a * (bl m : Nat) * b) = a * (bl m : Nat) * b := wrapI (by omega) (by omega)
     have w3 : IntKind.i64.wrap (a * (bl m : Nat) * b - a * (bl m : Nat)) = a * (bl m : Nat) * b - a * (bl m : Nat) := wrapI (by omega) (by omega)
     have w4 : IntKind.i64.wrap ((a * (bl m : Nat) * b - a * (bl m : Nat)) * min k c) = (a * (bl m : Nat) * b - a * (bl m : Nat)) * min k c := wrapI (by omega) (by omega)
     have q := quo_bounds (c := c) g7 g8 (by omega)
     have w5 : IntKind.i64.wrap (((a * (bl m : Nat) * b - a * (bl m : Nat)) * min k c).tdiv c) = ((a * (bl m : Nat) * b - a * (bl m : Nat)) * min k c).tdiv c := wrapI (by omega) (by omega)
     have w6 : IntKind.i64.wrap (a * (bl m : Nat) * b - ((a * (bl m : Nat) * b - a * (bl m : Nat)) * min k c).tdiv c) = a * (bl m : Nat) * b - ((a * (bl m : Nat) * b - a * (bl m : Nat)) * min k c).tdiv c := wrapI (by omega) (by omega)
     simp -implicitDefEqProofs only [nz0, hk, hk', hu, hl, w1, hc', hc, w2, w3, w4, w5, w6, eq_self, xs]
     unfold graceV
     rw [if_neg hc]
end Go.Proofs.Yticljphbbdnomaa.VL
end
section
namespace Go.Proofs.Yticljphbbdnomaa.VL
open Go
set_option linter.unusedVariables false
set_option linter.unusedSectionVars false
set_option linter.unusedSimpArgs false
set_option maxRecDepth 100000
variable [Val]
abbrev DB := Int × (Int × (Int × List Int))
def da (l : List DB) (i : Nat) : DB := l.getD i (0, (0, (0, [])))
theorem da_eq {l : List DB} {i : Nat} (h : i < l.length) : l[i] = da l i := by
 unfold da
 rw [List.getD_eq_getElem?_getD, List.getElem?_eq_getElem h]; rfl
theorem at_da {l : List DB} {i : Nat} (h : i < l.length) : l[i]? = some (da l i) := by rw [List.getElem?_eq_getElem h, da_eq h]
def la (l : List Int) (i : Nat) : Int := l.getD i 0
theorem la_eq {l : List Int} {i : Nat} (h : i < l.length) : l[i] = la l i := by
 unfold la
 rw [List.getD_eq_getElem?_getD, List.getElem?_eq_getElem h]; rfl
theorem at_la {l : List Int} {i : Nat} (h : i < l.length) : l[i]? = some (la l i) := by rw [List.getElem?_eq_getElem h, la_eq h]
theorem len63 {n : Nat} (h : n ≤ maxLen) : n ≤ 9223372036854775807 := Nat.le_trans h (by decide)
theorem dle (a b : Int) : decide (a ≤ b) = !decide (b < a) := by rw [Bool.eq_iff_iff, Bool.not_eq_true', decide_eq_true_iff, decide_eq_false_iff_not]; omega
theorem dlt (a b : Int) : decide (a < b) = !decide (b ≤ a) := by rw [Bool.eq_iff_iff, Bool.not_eq_true', decide_eq_true_iff, decide_eq_false_iff_not]; omega
theorem dgt (a b : Int) : decide (a > b) = !decide (a ≤ b) := by rw [Bool.eq_iff_iff, Bool.not_eq_true', decide_eq_true_iff, decide_eq_false_iff_not]; omega
theorem dge (a b : Int) : decide (a ≥ b) = !decide (a < b) := by rw [Bool.eq_iff_iff, Bool.not_eq_true', decide_eq_true_iff, decide_eq_false_iff_not]; omega
theorem w1 {i : Nat} (h : i ≤ 9223372036854775806) : IntKind.wrap .i64 ((i : Int) + 1) = ((i + 1 : Nat) : Int) := by rw [wi (by omega) (by omega)]; omega
theorem wm {i : Nat} (h : i ≤ 9223372036854775806) (h0 : 0 < i) : IntKind.wrap .i64 ((i : Int) - 1) = ((i - 1 : Nat) : Int) := by rw [wi (by omega) (by omega)]; omega
def nodeB (n : Int) : Bool := decide (0 ≤ n) && decide (n ≤ 63)
def momB (n : Int) : Bool := decide (0 ≤ n) && decide (n ≤ 1099511627776)
theorem F32_ok (n : Int) : F32 n = some (nodeB n) := by rw [F32_eq, F27_ok n 0 63]; rfl
theorem F33_ok (n : Int) : F33 n = some (momB n) := by
 rw [F33_eq]; unfold momB
 show cond (decide (0 ≤ n)) _ _ = _
 cases decide (0 ≤ n) <;> rfl
def upAt (l : List Int) (i : Nat) : Bool := nodeB (la l i) && (decide (i = 0) || decide (la l (i - 1) < la l i))
def upB (l : List Int) : Bool := (List.range l.length).all (upAt l)
def risesB (l : List Int) : Bool := upB l && decide (0 < l.length)
theorem not_lt_self (n : Nat) : ¬ ((n : Nat) : Int) < ((n : Nat) : Int) := by omega
theorem F37_ok {l : List Int} (h : l.length ≤ maxLen) : F37 l = some (risesB l) := by
 have h63 := len63 h
 rw [F37_eq]
 rw [loop_all (n := l.length) (upAt l) false (decide (((l.length : Nat) : Int) > 0))]
 ·unfold risesB upB
  have e : decide (((l.length : Nat) : Int) > 0) = decide (0 < l.length) := by rw [Bool.eq_iff_iff, decide_eq_true_iff, decide_eq_true_iff]; omega
  rw [e]
  cases (List.range l.length).all (upAt l) <;> rfl
 ·simp -implicitDefEqProofs only [not_lt_self, eq_self, xs]
 ·intro i hi _
  have q1 : ((i : Nat) : Int) < ((l.length : Nat) : Int) := by omega
  have q2 : (0 : Int) ≤ (i : Int) := by omega
  simp -implicitDefEqProofs only [q1, q2, at_la hi, F32_ok, w1 (show i ≤ 9223372036854775806 by omega), eq_self, xs]
  unfold upAt
  cases nodeB (la l i)
  ·rfl
  ·by_cases h0 : i = 0
   ·subst h0
    rfl
   ·have q3 : (i : Int) > 0 := by omega
    have q4 : (0 : Int) ≤ ((i - 1 : Nat) : Int) := by omega
    simp -implicitDefEqProofs only [q3, wm (show i ≤ 9223372036854775806 by omega) (show 0 < i by omega), q4, at_la (show i - 1 < l.length by omega), h0, dge (la l (i - 1)) (la l i), eq_self, xs]
    cases decide (la l (i - 1) < la l i) <;> rfl
theorem loop_det {σ ρ : Type} {f : σ → Option (σ ⊕ ρ)} (n : Nat) (st : Nat → σ) (r : ρ) (hend : f (st n) = some (.inr r)) (hstep : ∀ i, i < n → f (st i) = some (.inl (st (i + 1)))) : loopX f (st 0) = some r := by
 have key : ∀ d i, n - i = d → i ≤ n → loopX f (st i) = some r := by
  intro d
  induction d with
  | zero =>
   intro i h1 h2
   have : i = n := by omega
   subst this; rw [loopX_eq, hend]
  | succ d ih => intro i h1 h2; rw [loopX_eq, hstep i (by omega)]; exact ih (i + 1) (by omega) (by omega)
 exact key n 0 (by omega) (Nat.zero_le _)
def manyN (l : List Int) (x : Int) : Nat := cntP (fun k => la l k == x) l.length
theorem F42_ok {l : List Int} {x : Int} (h : l.length ≤ maxLen) : F42 (l, x) = some ((manyN l x : Nat) : Int) := by
 have h63 := len63 h
 rw [F42_eq]
 refine loop_det l.length (fun i => (((cntP (fun k => la l k == x) i : Nat) : Int), (i : Int))) _ ?_ ?_
 ·simp -implicitDefEqProofs only [not_lt_self, eq_self, xs]
  rfl
 ·intro i hi
  have q1 : ((i : Nat) : Int) < ((l.length : Nat) : Int) := by omega
  have q2 : (0 : Int) ≤ (i : Int) := by omega
  have hc := cntP_le (fun k => la l k == x) i
  simp -implicitDefEqProofs only [q1, q2, at_la hi, w1 (show i ≤ 9223372036854775806 by omega), w1 (show cntP (fun k => la l k == x) i ≤ 9223372036854775806 by omega), eq_self, xs]
  have e : cntP (fun k => la l k == x) (i + 1) = cntP (fun k => la l k == x) i + (if (la l i == x) = true then 1 else 0) := rfl
  rw [e]
  cases la l i == x <;> rfl
theorem cntP_one {p : Nat → Bool} {i : Nat} (hi : p i = true) (hne : ∀ k, k ≠ i → p k = false) : ∀ n, cntP p n = if i < n then 1 else 0
 | 0 => rfl
 | n + 1 => by
  rw [cntP, cntP_one hi hne n]
  by_cases h : n = i
  ·subst h; rw [hi]; simp
  ·rw [hne n h]
   by_cases h2 : i < n
   ·have : i < n + 1 := by omega
    simp [h2, this]
   ·have : ¬ i < n + 1 := by omega
    simp [h2]; omega
theorem cntP_congr {p q : Nat → Bool} : ∀ n, (∀ k, k < n → p k = q k) → cntP p n = cntP q n
 | 0, _ => rfl
 | n + 1, h => by rw [cntP, cntP, cntP_congr n (fun k hk => h k (by omega)), h n (by omega)]
def risB (l : List Int) : Bool := (List.range l.length).all fun i => decide (i = 0) || decide (la l (i - 1) < la l i)
theorem ris_lt {l : List Int} (h : risB l = true) : ∀ i j, i < j → j < l.length → la l i < la l j := by
 unfold risB at h
 rw [List.all_eq_true] at h
 intro i j hij
 induction j with
 | zero => omega
 | succ j ih =>
  intro hj
  have := h (j + 1) (List.mem_range.2 hj)
  rw [Bool.or_eq_true, decide_eq_true_iff, decide_eq_true_iff] at this
  have : la l j < la l (j + 1) := by
   rcases this with q | q
   ·omega
   ·simpa using q
  rcases Nat.lt_or_eq_of_le (Nat.le_of_lt_succ hij) with q | q
  ·have := ih q (by omega); omega
  ·rw [q]; exact this
theorem many_one {l : List Int} (h : risB l = true) {i : Nat} (hi : i < l.length) : manyN l (la l i) = 1 := by
 unfold manyN
 have e := cntP_congr (p := fun k => la l k == la l i) (q := fun k => decide (k = i)) l.length (fun k hk => by
  rw [Bool.eq_iff_iff, beq_iff_eq, decide_eq_true_iff]
  refine ⟨fun q => ?_, fun q => by rw [q]⟩
  rcases Nat.lt_trichotomy k i with g | g | g
  ·have := ris_lt h k i g hi; omega
  ·exact g
  ·have := ris_lt h i k g hk; omega)
 rw [e, cntP_one (p := fun k => decide (k = i)) (i := i) (by simp) (fun k hk => by simp [hk]), if_pos hi]
theorem upB_eq (l : List Int) : upB l = ((List.range l.length).all (fun i => nodeB (la l i)) && risB l) := by
 unfold upB risB
 generalize List.range l.length = r
 induction r with
 | nil => rfl
 | cons a r ih =>
  simp only [List.all_cons]
  rw [ih]
  unfold upAt
  cases nodeB (la l a) <;> cases (r.all fun i => nodeB (la l i)) <;> cases (decide (a = 0) || decide (la l (a - 1) < la l a)) <;> rfl
theorem up_len {l : List Int} (h : upB l = true) : l.length ≤ 64 := by
 rw [upB_eq, Bool.and_eq_true, List.all_eq_true] at h
 obtain ⟨h1, h2⟩ := h
 have hn : ∀ i, i < l.length → 0 ≤ la l i ∧ la l i ≤ 63 := by
  intro i hi
  have := h1 i (List.mem_range.2 hi)
  unfold nodeB at this
  simpa only [Bool.and_eq_true, decide_eq_true_eq] using this
 have hge : ∀ i, i < l.length → (i : Int) ≤ la l i := by
  intro i
  induction i with
  | zero => intro hi; exact (hn 0 hi).1
  | succ i ih => intro hi; have := ih (by omega); have := ris_lt h2 i (i + 1) (by omega) hi; omega
 refine Nat.not_lt.1 fun hl => ?_
 have := hge 64 hl
 have := hn 64 hl
 omega
theorem F55_ok {l : List Int} (h : l.length ≤ maxLen) (hr : risB l = true) : F55 l = some ((List.range l.length).all (fun i => nodeB (la l i))) := by
 have h63 := len63 h
 rw [F55_eq]
 rw [loop_all (n := l.length) (fun i => nodeB (la l i)) false true]
 ·cases (List.range l.length).all (fun i => nodeB (la l i)) <;> rfl
 ·simp -implicitDefEqProofs only [not_lt_self, eq_self, xs]
 ·intro i hi _
  have q1 : ((i : Nat) : Int) < ((l.length : Nat) : Int) := by omega
  have q2 : (0 : Int) ≤ (i : Int) := by omega
  have q5 : ((1 : Nat) : Int) = (1 : Int) := rfl
  simp -implicitDefEqProofs only [q1, q2, at_la hi, F42_ok (x := la l i) h, many_one hr hi, w1 (show i ≤ 9223372036854775806 by omega), dlt (la l i) 0, dgt (la l i) 63, q5, bne_self_eq_false, eq_self, xs]
  unfold nodeB
  cases decide (0 ≤ la l i) <;> cases decide (la l i ≤ 63) <;> rfl
theorem loop_all1 {ρ : Type} {f : Int → Option (Int ⊕ ρ)} {n : Nat} (ok : Nat → Bool) (bad good : ρ) (hend : ∀ i : Nat, n ≤ i → f (i : Int) = some (.inr good))
  (hstep : ∀ i : Nat, i < n → 1 ≤ i → f (i : Int) = if ok i = true then some (.inl ((i + 1 : Nat) : Int)) else some (.inr bad)) :
  loopX f (1 : Int) = some (if (List.range n).all (fun i => decide (i = 0) || ok i) = true then good else bad) := by
 classical
 have key : ∀ d i : Nat, n - i = d → 1 ≤ i → loopX f (i : Int) = some (if ∀ j, i ≤ j → j < n → ok j = true then good else bad) := by
  intro d
  induction d with
  | zero => intro i h1 h2; rw [loopX_eq, hend i (by omega), if_pos (fun j h1 h2 => by omega)]
  | succ d ih =>
   intro i h1 h2
   rw [loopX_eq, hstep i (by omega) h2]
   by_cases h : ok i = true
   ·rw [if_pos h]
    simp only
    rw [ih (i + 1) (by omega) (by omega)]
    congr 1
    have e : (∀ j, i + 1 ≤ j → j < n → ok j = true) ↔ (∀ j, i ≤ j → j < n → ok j = true) := by
     constructor
     ·intro q j h1 h2
      rcases Nat.lt_or_eq_of_le h1 with h3 | h3
      ·exact q j h3 h2
      ·rw [← h3]; exact h
     ·intro q j h1 h2; exact q j (by omega) h2
    by_cases hq : ∀ j, i ≤ j → j < n → ok j = true
    ·rw [if_pos hq, if_pos (e.2 hq)]
    ·rw [if_neg hq, if_neg (fun q => hq (e.1 q))]
   ·rw [if_neg h]
    simp only
    rw [if_neg (fun q => h (q i (Nat.le_refl _) (by omega)))]
 have := key (n - 1) 1 rfl (Nat.le_refl _)
 have e1 : ((1 : Nat) : Int) = 1 := rfl
 rw [e1] at this
 rw [this]
 congr 1
 have e : (∀ j, 1 ≤ j → j < n → ok j = true) ↔ (List.range n).all (fun i => decide (i = 0) || ok i) = true := by
  rw [List.all_eq_true]
  constructor
  ·intro h x hx
   rw [Bool.or_eq_true, decide_eq_true_iff]
   by_cases h0 : x = 0
   ·exact .inl h0
   ·exact .inr (h x (by omega) (List.mem_range.1 hx))
  ·intro h j h1 h2
   have := h j (List.mem_range.2 h2)
   rw [Bool.or_eq_true, decide_eq_true_iff] at this
   rcases this with q | q
   ·omega
   ·exact q
 by_cases h : (List.range n).all (fun i => decide (i = 0) || ok i) = true
 ·rw [if_pos h, if_pos (e.2 h)]
 ·rw [if_neg h, if_neg (fun q => h (e.1 q))]
theorem F38_ok {l : List Int} (h : l.length ≤ maxLen) : F38 l = some (upB l) := by
 have h63 := len63 h
 rw [F38_eq]
 rw [loop_all1 (n := l.length) (fun i => decide (la l (i - 1) < la l i)) (Sum.inr false) (Sum.inl ())]
 ·have e : (List.range l.length).all (fun i => decide (i = 0) || decide (la l (i - 1) < la l i)) = risB l := rfl
  rw [e]
  cases hr : risB l
  ·have : upB l = false := by rw [upB_eq, hr, Bool.and_false]
   rw [this]; rfl
  ·simp -implicitDefEqProofs only [eq_self, xs]
   by_cases h64 : l.length ≤ 64
   ·have q : ((l.length : Nat) : Int) ≤ 64 := by omega
    simp -implicitDefEqProofs only [q, F55_ok h hr, eq_self, xs]
    rw [upB_eq, hr, Bool.and_true]
   ·have q : ¬ ((l.length : Nat) : Int) ≤ 64 := by omega
    have hu : upB l = false := by rw [Bool.eq_false_iff]; intro k; exact h64 (up_len k)
    simp -implicitDefEqProofs only [q, hu, eq_self, xs]
 ·intro i hi
  have : ¬ (i : Int) < ((l.length : Nat) : Int) := by omega
  simp -implicitDefEqProofs only [this, eq_self, xs]
 ·intro i hi h1
  have q1 : ((i : Nat) : Int) < ((l.length : Nat) : Int) := by omega
  have q2 : (0 : Int) ≤ (i : Int) := by omega
  have q4 : (0 : Int) ≤ ((i - 1 : Nat) : Int) := by omega
  simp -implicitDefEqProofs only [q1, q2, at_la hi, wm (show i ≤ 9223372036854775806 by omega) (show 0 < i by omega), q4, at_la (show i - 1 < l.length by omega), w1 (show i ≤ 9223372036854775806 by omega), dle (la l i) (la l (i - 1)), eq_self, xs]
  cases decide (la l (i - 1) < la l i) <;> rfl
def okD (l : List DB) (i : Nat) : Bool := nodeB (da l i).1 && ((decide (i = 0) || decide ((da l (i - 1)).1 < (da l i).1)) && (momB (da l i).2.2.1 && risesB (da l i).2.2.2))
def mayD (l : List DB) : Bool := (List.range l.length).all (okD l)
def szD (l : List DB) : Prop := l.length ≤ maxLen ∧ ∀ i, i < l.length → (da l i).2.2.2.length ≤ maxLen
theorem F14_ok {l : List DB} (h : szD l) : F14 l = some (if mayD l = true then 0 else 1) := by
 obtain ⟨h1, h2⟩ := h
 have h63 := len63 h1
 rw [F14_eq]
 rw [loop_all (n := l.length) (okD l) (1 : Int) 0]
 ·rfl
 ·simp -implicitDefEqProofs only [not_lt_self, eq_self, xs]
 ·intro i hi _
  have q1 : ((i : Nat) : Int) < ((l.length : Nat) : Int) := by omega
  have q2 : (0 : Int) ≤ (i : Int) := by omega
  simp -implicitDefEqProofs only [q1, q2, at_da hi, F32_ok, F33_ok, F37_ok (h2 i hi), w1 (show i ≤ 9223372036854775806 by omega), eq_self, xs]
  unfold okD
  by_cases h0 : i = 0
  ·subst h0
   cases nodeB (da l 0).1 <;> cases momB (da l 0).2.2.1 <;> cases risesB (da l 0).2.2.2 <;> rfl
  ·have q3 : (i : Int) > 0 := by omega
   have q4 : (0 : Int) ≤ ((i - 1 : Nat) : Int) := by omega
   simp -implicitDefEqProofs only [q3, wm (show i ≤ 9223372036854775806 by omega) (show 0 < i by omega), q4, at_da (show i - 1 < l.length by omega), h0, dge (da l (i - 1)).1 (da l i).1, eq_self, xs]
   cases nodeB (da l i).1 <;> cases decide ((da l (i - 1)).1 < (da l i).1) <;> cases momB (da l i).2.2.1 <;> cases risesB (da l i).2.2.2 <;> rfl
theorem F19_ok {l : List DB} (h : szD l) : F19 l = some (mayD l) := by
 obtain ⟨h1, h2⟩ := h
 have h63 := len63 h1
 rw [F19_eq]
 rw [loop_all (n := l.length) (okD l) false true]
 ·unfold mayD
  cases (List.range l.length).all (okD l) <;> rfl
 ·simp -implicitDefEqProofs only [not_lt_self, eq_self, xs]
 ·intro i hi _
  have q1 : ((i : Nat) : Int) < ((l.length : Nat) : Int) := by omega
  have q2 : (0 : Int) ≤ (i : Int) := by omega
  have e0 : ((((da l i).2.2.2.length : Nat) : Int) == 0) = !decide (0 < (da l i).2.2.2.length) := by
   rw [Bool.eq_iff_iff, Bool.not_eq_true', beq_iff_eq, decide_eq_false_iff_not]; omega
  simp -implicitDefEqProofs only [q1, q2, at_da hi, F38_ok (h2 i hi), w1 (show i ≤ 9223372036854775806 by omega), dlt (da l i).1 0, dgt (da l i).1 63, dlt (da l i).2.2.1 0, dgt (da l i).2.2.1 1099511627776, e0, eq_self, xs]
  unfold okD nodeB momB risesB
  by_cases h0 : i = 0
  ·subst h0
   cases decide (0 ≤ (da l 0).1) <;> cases decide ((da l 0).1 ≤ 63) <;> cases decide (0 ≤ (da l 0).2.2.1) <;> cases decide ((da l 0).2.2.1 ≤ 1099511627776) <;> cases upB (da l 0).2.2.2 <;> cases decide (0 < (da l 0).2.2.2.length) <;> rfl
  ·have q3 : (i : Int) > 0 := by omega
   have q4 : (0 : Int) ≤ ((i - 1 : Nat) : Int) := by omega
   simp -implicitDefEqProofs only [q3, wm (show i ≤ 9223372036854775806 by omega) (show 0 < i by omega), q4, at_da (show i - 1 < l.length by omega), h0, dle (da l i).1 (da l (i - 1)).1, eq_self, xs]
   cases decide (0 ≤ (da l i).1) <;> cases decide ((da l i).1 ≤ 63) <;> cases decide ((da l (i - 1)).1 < (da l i).1) <;> cases decide (0 ≤ (da l i).2.2.1) <;> cases decide ((da l i).2.2.1 ≤ 1099511627776) <;> cases upB (da l i).2.2.2 <;> cases decide (0 < (da l i).2.2.2.length) <;> rfl
end Go.Proofs.Yticljphbbdnomaa.VL
end
section
namespace Go.Proofs.Yticljphbbdnomaa.VL
open Go
set_option linter.unusedVariables false
set_option linter.unusedSectionVars false
set_option linter.unusedSimpArgs false
set_option maxRecDepth 100000
variable [Val]
theorem loop_detE {σ ρ : Type} {f : σ → Option (σ ⊕ ρ)} {s0 : σ} (n : Nat) (st : Nat → σ) (r : ρ) (h0 : s0 = st 0) (hend : f (st n) = some (.inr r)) (hstep : ∀ i, i < n → f (st i) = some (.inl (st (i + 1)))) : loopX f s0 = some r := by
 rw [h0]; exact loop_det n st r hend hstep
theorem loop_ex {σ ρ : Type} {f : σ → Option (σ ⊕ ρ)} (I : σ → Prop) (m : σ → Nat) (P : ρ → Prop) (h : ∀ s, I s → (∃ r, f s = some (.inr r) ∧ P r) ∨ ∃ s', f s = some (.inl s') ∧ I s' ∧ m s' < m s) (s : σ) (hs : I s) : ∃ r, loopX f s = some r ∧ P r := by
 have key : ∀ (n : Nat) (s : σ), m s ≤ n → I s → ∃ r, loopX f s = some r ∧ P r := by
  intro n
  induction n with
  | zero =>
   intro s hn hs
   rw [loopX_eq]
   rcases h s hs with ⟨r, h1, h2⟩ | ⟨s', h1, h2, h3⟩
   ·rw [h1]; exact ⟨r, rfl, h2⟩
   ·omega
  | succ n ih =>
   intro s hn hs
   rw [loopX_eq]
   rcases h s hs with ⟨r, h1, h2⟩ | ⟨s', h1, h2, h3⟩
   ·rw [h1]; exact ⟨r, rfl, h2⟩
   ·rw [h1]; exact ih s' (by omega) h2
 exact key (m s) s (Nat.le_refl _) hs
def fewD (l : List DB) : Prop := l.length ≤ 65 ∧ ∀ d ∈ l, d.2.2.2.length ≤ 65
theorem few_sz {l : List DB} (h : fewD l) : szD l := by
 refine ⟨Nat.le_trans h.1 (by decide), fun i hi => Nat.le_trans (h.2 _ ?_) (show 65 ≤ maxLen by decide)⟩
 rw [← da_eq hi]; exact List.getElem_mem hi
theorem F18_ok {l : List DB} (h : l.length ≤ maxLen) : ∃ l', F18 l = some l' ∧ fewD l' := by
 have h63 := len63 h
 rw [F18_eq]
 refine loop_ex (fun s : Int × List DB => ∃ i : Nat, s.1 = i ∧ i ≤ l.length ∧ i ≤ 65 ∧ s.2.length = i ∧ ∀ d ∈ s.2, d.2.2.2.length ≤ 65) (fun s => 65 - s.1.toNat) fewD ?_ ((0 : Int), []) ⟨0, rfl, Nat.zero_le _, Nat.zero_le _, rfl, fun d hd => by simp at hd⟩
 rintro ⟨_, a⟩ ⟨i, rfl, h1, h2, h3, h4⟩
 simp only at h3 h4
 by_cases hi : i < l.length
 ·have q1 : ((i : Nat) : Int) < ((l.length : Nat) : Int) := by omega
  by_cases h65 : i < 65
  ·right
   have q5 : ((i : Nat) : Int) < 65 := by omega
   have q2 : (0 : Int) ≤ (i : Int) := by omega
   have q3 : (((a.length + 1 : Nat) : Int) * 48 ≤ 70368744177664) := by omega
   have q4 : (((a.length + 1 : Nat) : Int) ≤ 70368744177664) := by omega
   by_cases hb : (((da l i).2.2.2.length : Nat) : Int) > 65
   ·have q6 : (65 : Int) ≤ (((da l i).2.2.2.length : Nat) : Int) := by omega
    simp -implicitDefEqProofs only [q1, q5, q2, at_da hi, hb, q6, q3, q4, w1 (show i ≤ 9223372036854775806 by omega), eq_self, xs]
    refine ⟨_, rfl, ⟨i + 1, rfl, by omega, by omega, by simp [h3], ?_⟩, by simp only [Int.toNat_natCast]; omega⟩
    intro d hd
    rcases List.mem_append.1 hd with q | q
    ·exact h4 d q
    ·rw [List.mem_singleton] at q; subst q
     simp only [List.length_take]; omega
   ·simp -implicitDefEqProofs only [q1, q5, q2, at_da hi, hb, q3, q4, w1 (show i ≤ 9223372036854775806 by omega), eq_self, xs]
    refine ⟨_, rfl, ⟨i + 1, rfl, by omega, by omega, by simp [h3], ?_⟩, by simp only [Int.toNat_natCast]; omega⟩
    intro d hd
    rcases List.mem_append.1 hd with q | q
    ·exact h4 d q
    ·rw [List.mem_singleton] at q; subst q
     show (da l i).2.2.2.length ≤ 65
     omega
  ·left
   have q5 : ¬ ((i : Nat) : Int) < 65 := by omega
   simp -implicitDefEqProofs only [q1, q5, eq_self, xs]
   exact ⟨_, rfl, by omega, h4⟩
 ·left
  have q1 : ¬ ((i : Nat) : Int) < ((l.length : Nat) : Int) := by omega
  simp -implicitDefEqProofs only [q1, eq_self, xs]
  exact ⟨_, rfl, by omega, h4⟩
theorem copyI {l : List Int} (hl : l.length ≤ 1000) : bothX (List.isEmpty l) (some []) (cond ((decide ((((l.length : Nat) : Int) * (8 : Int)) ≤ (70368744177664 : Int))) && (decide (((l.length : Nat) : Int) ≤ (70368744177664 : Int)))) (some l) none) = some l := by
 have q1 : ((l.length : Nat) : Int) * 8 ≤ 70368744177664 := by omega
 have q2 : ((l.length : Nat) : Int) ≤ 70368744177664 := by omega
 have e : cond ((decide ((((l.length : Nat) : Int) * (8 : Int)) ≤ (70368744177664 : Int))) && (decide (((l.length : Nat) : Int) ≤ (70368744177664 : Int)))) (some l) none = some l := by simp -implicitDefEqProofs only [q1, q2, eq_self, xs]
 rw [e, bothX_eq (fun h => ?_)]
 rw [List.isEmpty_iff] at h; rw [h]
theorem copyD {l : List DB} (hl : l.length ≤ 1000) : bothX (List.isEmpty l) (some []) (cond ((decide ((((l.length : Nat) : Int) * (48 : Int)) ≤ (70368744177664 : Int))) && (decide (((l.length : Nat) : Int) ≤ (70368744177664 : Int)))) (some l) none) = some l := by
 have q1 : ((l.length : Nat) : Int) * 48 ≤ 70368744177664 := by omega
 have q2 : ((l.length : Nat) : Int) ≤ 70368744177664 := by omega
 have e : cond ((decide ((((l.length : Nat) : Int) * (48 : Int)) ≤ (70368744177664 : Int))) && (decide (((l.length : Nat) : Int) ≤ (70368744177664 : Int)))) (some l) none = some l := by simp -implicitDefEqProofs only [q1, q2, eq_self, xs]
 rw [e, bothX_eq (fun h => ?_)]
 rw [List.isEmpty_iff] at h; rw [h]
theorem set_self {l : List DB} {i : Nat} (h : i < l.length) : l.set i (da l i) = l := by rw [← da_eq h, List.set_getElem_self]
def gr (a b c : Int) (n : Nat) (d : DB) : Int := graceV a b c n ((d.2.2.2.length : Int) - 1)
def ripB (a b c : Int) (n : Nat) (now : Int) (d : DB) : Bool := decide (d.2.2.1 + gr a b c n d ≤ now)
theorem take_succ' {l : List DB} {i : Nat} (h : i < l.length) : l.take (i + 1) = l.take i ++ [da l i] := by rw [List.take_succ_eq_append_getElem h, da_eq h]
theorem okD_of {l : List DB} (h : mayD l = true) {i : Nat} (hi : i < l.length) : okD l i = true := by
 unfold mayD at h
 rw [List.all_eq_true] at h
 exact h i (List.mem_range.2 hi)
theorem gr_of {l : List DB} (h : mayD l = true) {i : Nat} (hi : i < l.length) : 0 < (da l i).2.2.2.length ∧ (da l i).2.2.2.length ≤ 64 ∧ 0 ≤ (da l i).2.2.1 ∧ (da l i).2.2.1 ≤ 1099511627776 := by
 have := okD_of h hi
 unfold okD momB risesB at this
 simp only [Bool.and_eq_true, decide_eq_true_eq] at this
 exact ⟨this.2.2.2.2, up_len this.2.2.2.1, this.2.2.1.1, this.2.2.1.2⟩
theorem F20_ok {l : List DB} {a b c : Int} {n : Nat} {now : Int} (hf : fewD l) (hm : mayD l = true) (hr : rulesB a b c = true) (h1 : 1 ≤ n) (h2 : n ≤ 64) (hn : momB now = true) :
  F20 (l, ((a, (b, c)), ((n : Int), now))) = some (l.filter (ripB a b c n now), (l.filter (fun d => !ripB a b c n now d), 0)) := by
 have hz := few_sz hf
 have h65 := hf.1
 have hnB : (decide ((1 : Int) ≤ (n : Int)) && decide ((n : Int) ≤ 64)) = true := by rw [Bool.and_eq_true, decide_eq_true_iff, decide_eq_true_iff]; omega
 rw [F20_eq]
 simp -implicitDefEqProofs only [F14_ok hz, hm, nz0, F17_ok a b c, hr, F27_ok (n : Int) 1 64, hnB, F33_ok now, hn, copyD (show l.length ≤ 1000 by omega), eq_self, xs]
 rw [loop_detE (s0 := ((0 : Int), l)) l.length (fun i => ((i : Int), l)) l rfl]
 rotate_left
 ·simp -implicitDefEqProofs only [not_lt_self, eq_self, xs]
 ·intro i hi
  have q1 : ((i : Nat) : Int) < ((l.length : Nat) : Int) := by omega
  have q2 : (0 : Int) ≤ (i : Int) := by omega
  have hby := hf.2 (da l i) (by rw [← da_eq hi]; exact List.getElem_mem hi)
  simp -implicitDefEqProofs only [q1, q2, at_da hi, copyI (show (da l i).2.2.2.length ≤ 1000 by omega), w1 (show i ≤ 9223372036854775806 by omega), eq_self, xs]
  have e : l.set i ((da l i).1, ((da l i).2.1, ((da l i).2.2.1, (da l i).2.2.2))) = l := set_self hi
  rw [e]
 simp -implicitDefEqProofs only [eq_self, xs]
 rw [loop_detE (s0 := ((0 : Int), (([] : List DB), ([] : List DB)))) l.length (fun i => ((i : Int), ((l.take i).filter (ripB a b c n now), (l.take i).filter (fun d => !ripB a b c n now d)))) (Sum.inl (l.filter (ripB a b c n now), l.filter (fun d => !ripB a b c n now d))) (by simp)]
 ·simp -implicitDefEqProofs only [eq_self, xs]
 ·simp -implicitDefEqProofs only [not_lt_self, eq_self, xs]
 ·intro i hi
  have q1 : ((i : Nat) : Int) < ((l.length : Nat) : Int) := by omega
  have q2 : (0 : Int) ≤ (i : Int) := by omega
  obtain ⟨g1, g2, g3, g4⟩ := gr_of hm hi
  have hk : IntKind.wrap .i64 ((((da l i).2.2.2.length : Nat) : Int) - 1) = (((da l i).2.2.2.length : Nat) : Int) - 1 := wi (by omega) (by omega)
  have hk0 : 0 ≤ (((da l i).2.2.2.length : Nat) : Int) - 1 := by omega
  have hG := F9_ok a b c (n : Int) ((((da l i).2.2.2.length : Nat) : Int) - 1)
  rw [hr, hnB, decide_eq_true hk0, Bool.and_self, Bool.and_self, if_pos rfl, Int.toNat_natCast] at hG
  have hgr := grace_range hr h1 h2 hk0
  have hs : IntKind.wrap .i64 ((da l i).2.2.1 + graceV a b c n ((((da l i).2.2.2.length : Nat) : Int) - 1)) = (da l i).2.2.1 + graceV a b c n ((((da l i).2.2.2.length : Nat) : Int) - 1) := wi (by omega) (by omega)
  have L1 : ((l.take i).filter (ripB a b c n now)).length ≤ 65 := Nat.le_trans (List.length_filter_le _ _) (by rw [List.length_take]; omega)
  have L2 : ((l.take i).filter (fun d => !ripB a b c n now d)).length ≤ 65 := Nat.le_trans (List.length_filter_le _ _) (by rw [List.length_take]; omega)
  have et : (l.take (i + 1)).filter (ripB a b c n now) = (l.take i).filter (ripB a b c n now) ++ (if ripB a b c n now (da l i) = true then [da l i] else []) := by
   rw [take_succ' hi, List.filter_append]; congr 1; cases h : ripB a b c n now (da l i) <;> simp [h]
  have ef : (l.take (i + 1)).filter (fun d => !ripB a b c n now d) = (l.take i).filter (fun d => !ripB a b c n now d) ++ (if ripB a b c n now (da l i) = true then [] else [da l i]) := by
   rw [take_succ' hi, List.filter_append]; congr 1; cases h : ripB a b c n now (da l i) <;> simp [h]
  rw [et, ef]
  generalize (l.take i).filter (ripB a b c n now) = A at *
  generalize (l.take i).filter (fun d => !ripB a b c n now d) = B at *
  have hrip : ripB a b c n now (da l i) = decide ((da l i).2.2.1 + graceV a b c n ((((da l i).2.2.2.length : Nat) : Int) - 1) ≤ now) := rfl
  have q3 : (((A.length + 1 : Nat) : Int) * 48 ≤ 70368744177664) := by omega
  have q4 : (((A.length + 1 : Nat) : Int) ≤ 70368744177664) := by omega
  have q5 : (((B.length + 1 : Nat) : Int) * 48 ≤ 70368744177664) := by omega
  have q6 : (((B.length + 1 : Nat) : Int) ≤ 70368744177664) := by omega
  by_cases hd : (da l i).2.2.1 + graceV a b c n ((((da l i).2.2.2.length : Nat) : Int) - 1) ≤ now
  ·rw [hrip, decide_eq_true hd]
   simp -implicitDefEqProofs only [q1, q2, at_da hi, hk, hG, nz0, hs, hd, q3, q4, w1 (show i ≤ 9223372036854775806 by omega), List.append_nil, eq_self, xs]
  ·rw [hrip, decide_eq_false hd]
   simp -implicitDefEqProofs only [q1, q2, at_da hi, hk, hG, nz0, hs, hd, q5, q6, w1 (show i ≤ 9223372036854775806 by omega), List.append_nil, eq_self, xs]
end Go.Proofs.Yticljphbbdnomaa.VL
end
section
namespace Go.Proofs.Yticljphbbdnomaa.VL
open Go
set_option linter.unusedVariables false
set_option linter.unusedSectionVars false
set_option linter.unusedSimpArgs false
set_option maxRecDepth 100000
variable [Val]
theorem filter_both {α : Type} (p : α → Bool) : ∀ l : List α, (l.filter p).length + (l.filter (fun d => !p d)).length = l.length
 | [] => rfl
 | x :: r => by
  have := filter_both p r
  cases h : p x <;> simp [h] <;> omega
theorem gr_mem {l : List DB} (h : mayD l = true) {d : DB} (hd : d ∈ l) : 0 < d.2.2.2.length ∧ d.2.2.2.length ≤ 64 ∧ 0 ≤ d.2.2.1 ∧ d.2.2.1 ≤ 1099511627776 := by
 obtain ⟨i, hi, rfl⟩ := List.getElem_of_mem hd
 rw [da_eq hi]
 exact gr_of h hi
theorem F7_ok {l : List DB} {a b c N C W B I now m : Int} (hl : l.length ≤ maxLen) (hm : 0 ≤ m ∧ m ≤ 255) : F7 ((l, (a, (b, (c, (N, (C, (W, (B, (I, now))))))))), m) = some true := by
 rw [F7_eq]
 obtain ⟨l', h18, hf⟩ := F18_ok hl
 have hz := few_sz hf
 have h11 : F11 () = some true := rfl
 simp -implicitDefEqProofs only [h18, F19_ok hz, eq_self, xs]
 cases hmay : mayD l'
 ·simp -implicitDefEqProofs only [h11, eq_self, xs]
 cases hr : rulesB a b c
 ·simp -implicitDefEqProofs only [F10_ok a b c, hr, h11, eq_self, xs]
 by_cases hN1 : N < 1
 ·simp -implicitDefEqProofs only [F10_ok a b c, hr, hN1, h11, eq_self, xs]
 by_cases hN2 : N > 64
 ·simp -implicitDefEqProofs only [F10_ok a b c, hr, hN1, hN2, h11, eq_self, xs]
 by_cases hn1 : now < 0
 ·simp -implicitDefEqProofs only [F10_ok a b c, hr, hN1, hN2, hn1, h11, eq_self, xs]
 by_cases hn2 : now > 549755813888
 ·simp -implicitDefEqProofs only [F10_ok a b c, hr, hN1, hN2, hn1, hn2, h11, eq_self, xs]
 obtain ⟨n, rfl⟩ : ∃ n : Nat, N = n := ⟨N.toNat, by omega⟩
 have h1 : 1 ≤ n := by omega
 have h2 : n ≤ 64 := by omega
 have hw1 : IntKind.wrap .i64 m = m := wi (by omega) (by omega)
 have hw2 : IntKind.wrap .i64 (now + m) = now + m := wi (by omega) (by omega)
 have hmo1 : momB now = true := by unfold momB; rw [Bool.and_eq_true, decide_eq_true_iff, decide_eq_true_iff]; omega
 have hmo2 : momB (now + m) = true := by unfold momB; rw [Bool.and_eq_true, decide_eq_true_iff, decide_eq_true_iff]; omega
 have r := rules_bounds hr
 have hnB : (decide ((1 : Int) ≤ (n : Int)) && decide ((n : Int) ≤ 64)) = true := by rw [Bool.and_eq_true, decide_eq_true_iff, decide_eq_true_iff]; omega
 have hG : ∀ k : Int, 0 ≤ k → F9 ((a, (b, c)), ((n : Int), k)) = some (graceV a b c n k, 0) := by
  intro k hk
  have hG := F9_ok a b c (n : Int) k
  rw [hr, hnB, decide_eq_true hk, Bool.and_self, Bool.and_self, if_pos rfl, Int.toNat_natCast] at hG
  exact hG
 have h20 := F20_ok hf hmay hr h1 h2 hmo1
 have h20' := F20_ok hf hmay hr h1 h2 hmo2
 have hsum := filter_both (ripB a b c n now) l'
 have hmono : (l'.filter (ripB a b c n now)).length ≤ (l'.filter (ripB a b c n (now + m))).length := by
  rw [← List.countP_eq_length_filter, ← List.countP_eq_length_filter]
  refine List.countP_mono_left fun d hd hp => ?_
  unfold ripB at hp ⊢
  rw [decide_eq_true_iff] at hp ⊢
  omega
 have hA : ∀ d ∈ l'.filter (ripB a b c n now), d ∈ l' ∧ d.2.2.1 + gr a b c n d ≤ now := by
  intro d hd
  rw [List.mem_filter] at hd
  exact ⟨hd.1, of_decide_eq_true hd.2⟩
 have hB : ∀ d ∈ l'.filter (fun d => !ripB a b c n now d), d ∈ l' ∧ ¬ d.2.2.1 + gr a b c n d ≤ now := by
  intro d hd
  rw [List.mem_filter] at hd
  refine ⟨hd.1, ?_⟩
  have := hd.2
  unfold ripB at this
  simpa using this
 have h65 := hf.1
 generalize l'.filter (ripB a b c n now) = A at *
 generalize l'.filter (fun d => !ripB a b c n now d) = B at *
 generalize l'.filter (ripB a b c n (now + m)) = A2 at *
 have hlen : IntKind.wrap .i64 ((A.length : Int) + (B.length : Int)) = (l'.length : Int) := by rw [wi (by omega) (by omega)]; omega
 have hmo : ¬ ((A2.length : Int) < (A.length : Int)) := by omega
 have hal : A.length ≤ 65 := by omega
 have hbl : B.length ≤ 65 := by omega
 simp -implicitDefEqProofs only [F10_ok a b c, hr, hN1, hN2, hn1, hn2, h20, hw1, hw2, h20', nz0, hlen, bne_self_eq_false, hmo, hG c (by omega), hG 0 (by omega), eq_self, xs]
 rw [loop_detE (s0 := (0 : Int)) A.length (fun i => (i : Int)) (Sum.inl ()) rfl]
 rotate_left
 ·simp -implicitDefEqProofs only [not_lt_self, eq_self, xs]
 ·intro i hi
  have q1 : ((i : Nat) : Int) < ((A.length : Nat) : Int) := by omega
  have q2 : (0 : Int) ≤ (i : Int) := by omega
  obtain ⟨g1, g2⟩ := hA (da A i) (by rw [← da_eq hi]; exact List.getElem_mem hi)
  obtain ⟨k1, k2, k3, k4⟩ := gr_mem hmay g1
  have e1 := grace_ends (k := ((da A i).2.2.2.length : Int) - 1) hr h1 h2 (by omega)
  have e2 := graceV_all (a := a) (b := b) (c := c) (m := n) (Int.le_refl c) (by omega)
  have e3 := grace_range hr h1 h2 (k := c) (by omega)
  have hs : IntKind.wrap .i64 ((da A i).2.2.1 + graceV a b c n c) = (da A i).2.2.1 + graceV a b c n c := wi (by omega) (by omega)
  have hgt : ¬ ((da A i).2.2.1 + graceV a b c n c > now) := by
   unfold gr at g2
   omega
  simp -implicitDefEqProofs only [q1, q2, at_da hi, hs, hgt, w1 (show i ≤ 9223372036854775806 by omega), eq_self, xs]
 simp -implicitDefEqProofs only [eq_self, xs]
 rw [loop_detE (s0 := (0 : Int)) B.length (fun i => (i : Int)) true rfl]
 ·simp -implicitDefEqProofs only [not_lt_self, h11, eq_self, xs]
 ·intro i hi
  have q1 : ((i : Nat) : Int) < ((B.length : Nat) : Int) := by omega
  have q2 : (0 : Int) ≤ (i : Int) := by omega
  obtain ⟨g1, g2⟩ := hB (da B i) (by rw [← da_eq hi]; exact List.getElem_mem hi)
  obtain ⟨k1, k2, k3, k4⟩ := gr_mem hmay g1
  have e1 := grace_ends (k := ((da B i).2.2.2.length : Int) - 1) hr h1 h2 (by omega)
  have e3 := grace_range hr h1 h2 (k := 0) (by omega)
  have hs : IntKind.wrap .i64 ((da B i).2.2.1 + graceV a b c n 0) = (da B i).2.2.1 + graceV a b c n 0 := wi (by omega) (by omega)
  have hgt : ¬ ((da B i).2.2.1 + graceV a b c n 0 ≤ now) := by
   unfold gr at g2
   omega
  simp -implicitDefEqProofs only [q1, q2, at_da hi, hs, hgt, w1 (show i ≤ 9223372036854775806 by omega), eq_self, xs]
end Go.Proofs.Yticljphbbdnomaa.VL
end
