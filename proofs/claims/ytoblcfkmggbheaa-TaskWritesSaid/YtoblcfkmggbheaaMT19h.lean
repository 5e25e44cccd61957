import Derived.Test.YtoblcfkmggbheaaMYw
section
namespace Go.Proofs.Ytoblcfkmggbheaa.VL
open Go
set_option linter.unusedVariables false
set_option linter.unusedSectionVars false
set_option linter.unusedSimpArgs false
variable [Val]
theorem nz5 : ((5 : Int) != 0) = true := rfl
theorem nz9 : ((9 : Int) != 0) = true := rfl
def opnT (l : List TK) : List TK := ((List.range l.length).filter fun i => decide ((ta l i).2.1 < 2)).map (ta l)
theorem opnT_len (l : List TK) : (opnT l).length = (opnL l).length := by unfold opnT opnL; rw [List.length_map, List.length_map]
theorem gathO {l : List TK} {f : Int × List TK → Option ((Int × List TK) ⊕ List TK)} (hend : ∀ a : List TK, a.length ≤ l.length → f ((l.length : Int), a) = some (.inr a))
  (hstep : ∀ (i : Nat) (a : List TK), i < l.length → a.length ≤ i → f ((i : Int), a) = some (.inl (((i + 1 : Nat) : Int), a ++ (if decide ((ta l i).2.1 < 2) = true then [ta l i] else [])))) : loopX f ((0 : Int), []) = some (opnT l) := by
 refine (loop_gather (n := l.length) (fun i => if decide ((ta l i).2.1 < 2) = true then [ta l i] else []) (fun a => a) ?_ hend hstep).trans (by rw [flat_filter]; rfl)
 intro i; show (if _ then _ else _ : List TK).length ≤ 1; split <;> simp
def newT (nm : ByteArray) (pr : Int) : TK := (nm, (0, (pr, (0, (0, (-1, 0))))))
def addR (c : Int × Int) (b : BK) (k : Int) (nm : ByteArray) (pr : Int) : BK × Int := if (nmB nm && (decide (0 ≤ pr) && decide (pr ≤ 9))) = true then (if fnd b.2.2 nm = true then (b, 5) else if (decide ((((opnL b.2.2).length : Nat) : Int) ≥ c.1) || decide (((b.2.2.length : Nat) : Int) ≥ 100)) = true then (b, 9) else ((k, (b.2.1, setL b.2.2 (newT nm pr))), 0)) else (b, 1)
theorem ins_setL {l : List TK} {nm : ByteArray} {t : TK} (h : fnd l nm = false) (ht : t.1 = nm) : insL l [t] ((plc l nm : Nat) : Int) = setL l t := by
 unfold setL insL off
 rw [ht, h, Int.toNat_natCast]; rfl
theorem ins_len {l : List TK} {t : TK} (p : Nat) (h : p ≤ l.length) : (insL l [t] (p : Int)).length = l.length + 1 := by
 unfold insL
 rw [Int.toNat_natCast, List.length_append, List.length_append, List.length_take, List.length_drop, List.length_singleton]; omega
theorem F17_ok {c : Int × Int} {b : BK} {k : Int} {nm : ByteArray} {pr : Int} (hz : szB b) (hn : nm.size ≤ maxLen) : F17 (c, (b, (k, (nm, pr)))) = some (gS c b k (addR c b k nm pr)) := by
 have hp := plc_le b.2.2 nm
 unfold gS
 cases hc : capsB c
 ·have h1 := F29_f hc
  rw [F17_eq]
  simp -implicitDefEqProofs only [h1, nz1, nz0, eq_self, xs]
 have h1 := F29_t hc
 cases hb : bookB b
 ·have h2 := F26_f hz hb
  rw [F17_eq]
  simp -implicitDefEqProofs only [h1, h2, nz0, nz1, eq_self, xs]
 have h2 := F26_t hz hb
 by_cases hk : k < b.1
 ·rw [F17_eq]
  have nz8 : ((8 : Int) != 0) = true := rfl
  simp -implicitDefEqProofs only [h1, h2, nz0, hk, nz8, eq_self, xs]
 have hs := srt_of hb
 have hl := len_of hb
 rw [F17_eq, copyL hl]
 simp -implicitDefEqProofs only [h1, h2, nz0, hk, decide_false, cond_false, cond_true, Option.bind_some, joinX_l]
 rw [srch hs nm]
 rotate_left
 ·intro i hi
  have q : ¬ (i : Int) < (i : Int) := by omega
  simp -implicitDefEqProofs only [q, eq_self, xs]
 ·intro i j m hij hj hm hml q1
  have hmid := mid (i := i) (j := j) (by omega)
  rw [← hm] at hmid
  have q3 : (0 : Int) ≤ (m : Int) := by omega
  have q4 : (m : Int) < ((b.2.2.length : Nat) : Int) := by omega
  have hw : IntKind.wrap .i64 ((m : Int) + 1) = ((m + 1 : Nat) : Int) := by rw [wi (by omega) (by omega)]; omega
  simp -implicitDefEqProofs only [q1, hmid, q3, q4, at_ta hml, F61_ok (ta b.2.2 m) nm, cmp_lt, hw, eq_self, xs]
 by_cases hq : plc b.2.2 nm < b.2.2.length
 rotate_left
 ·have hf : fnd b.2.2 nm = false := by unfold fnd; rw [decide_eq_false hq]; rfl
  have q1 : ¬ ((plc b.2.2 nm : Nat) : Int) < ((b.2.2.length : Nat) : Int) := by omega
  simp -implicitDefEqProofs only [q1, hf, addR, hc, hb, hk, F46_ok hn, F47_ok pr 0 9, nz1, nz5, eq_self, xs]
  cases nmB nm
  ·simp -implicitDefEqProofs only [eq_self, xs]
  cases (decide (0 ≤ pr) && decide (pr ≤ 9))
  ·simp -implicitDefEqProofs only [eq_self, xs]
  simp -implicitDefEqProofs only [eq_self, xs]
  rw [gathO (l := b.2.2)]
  rotate_left
  ·intro a ha
   have q : ¬ ((b.2.2.length : Nat) : Int) < ((b.2.2.length : Nat) : Int) := by omega
   simp -implicitDefEqProofs only [q, eq_self, xs]
  ·intro i a hi ha
   have qq1 : ((i : Nat) : Int) < ((b.2.2.length : Nat) : Int) := by omega
   have qq2 : (0 : Int) ≤ (i : Int) := by omega
   have hw : IntKind.wrap .i64 ((i : Int) + 1) = ((i + 1 : Nat) : Int) := by rw [wi (by omega) (by omega)]; omega
   have k1 : (((a.length + 1 : Nat) : Int) * 64 ≤ 70368744177664) := by omega
   have k2 : (((a.length + 1 : Nat) : Int) ≤ 70368744177664) := by omega
   simp -implicitDefEqProofs only [qq1, qq2, at_ta hi, hw, k1, k2, F43_ok (ta b.2.2 i), open_of hb hi, eq_self, xs]
   cases decide ((ta b.2.2 i).2.1 < 2) <;> simp -implicitDefEqProofs only [List.append_nil, eq_self, xs]
  have e100 : (((b.2.2.length : Nat) : Int) == 100) = decide (((b.2.2.length : Nat) : Int) ≥ 100) := by rw [Bool.eq_iff_iff, beq_iff_eq, decide_eq_true_iff]; omega
  simp -implicitDefEqProofs only [opnT_len, e100, eq_self, xs]
  cases decide ((((opnL b.2.2).length : Nat) : Int) ≥ c.1)
  rotate_left
  ·simp -implicitDefEqProofs only [nz9, eq_self, xs]
  cases decide (((b.2.2.length : Nat) : Int) ≥ 100)
  rotate_left
  ·simp -implicitDefEqProofs only [nz9, eq_self, xs]
  have q9 : ((plc b.2.2 nm : Nat) : Int) ≤ ((b.2.2.length : Nat) : Int) := by omega
  have q8 : (0 : Int) ≤ ((plc b.2.2 nm : Nat) : Int) := by omega
  have k1 : (((b.2.2.length + 1 : Nat) : Int) * 64 ≤ 70368744177664) := by omega
  have k2 : (((b.2.2.length + 1 : Nat) : Int) ≤ 70368744177664) := by omega
  have hil := ins_len (l := b.2.2) (t := (nm, (0, (pr, (0, (0, (-1, 0))))))) (plc b.2.2 nm) hp
  have htk : List.take (b.2.2.length + 1) (insL b.2.2 [(nm, (0, (pr, (0, (0, (-1, 0))))))] ((plc b.2.2 nm : Nat) : Int)) = insL b.2.2 [(nm, (0, (pr, (0, (0, (-1, 0))))))] ((plc b.2.2 nm : Nat) : Int) := List.take_of_length_le (by rw [hil]; exact Nat.le_refl _)
  have hin := ins_setL (l := b.2.2) (nm := nm) (t := newT nm pr) hf rfl
  simp -implicitDefEqProofs only [q9, q8, k1, k2, nz0, hil, htk, eq_self, xs]
  rw [← hin]; rfl
 have q1 : ((plc b.2.2 nm : Nat) : Int) < ((b.2.2.length : Nat) : Int) := by omega
 have q2 : (0 : Int) ≤ ((plc b.2.2 nm : Nat) : Int) := by omega
 cases hf : eqN (ta b.2.2 (plc b.2.2 nm)).1 nm
 ·have hf' : fnd b.2.2 nm = false := by unfold fnd; rw [hf, Bool.and_false]
  simp -implicitDefEqProofs only [q1, q2, at_ta hq, F61_ok (ta b.2.2 (plc b.2.2 nm)) nm, cmp_eq, hf, hf', addR, hc, hb, hk, F46_ok hn, F47_ok pr 0 9, nz1, nz5, eq_self, xs]
  cases nmB nm
  ·simp -implicitDefEqProofs only [eq_self, xs]
  cases (decide (0 ≤ pr) && decide (pr ≤ 9))
  ·simp -implicitDefEqProofs only [eq_self, xs]
  simp -implicitDefEqProofs only [eq_self, xs]
  rw [gathO (l := b.2.2)]
  rotate_left
  ·intro a ha
   have q : ¬ ((b.2.2.length : Nat) : Int) < ((b.2.2.length : Nat) : Int) := by omega
   simp -implicitDefEqProofs only [q, eq_self, xs]
  ·intro i a hi ha
   have qq1 : ((i : Nat) : Int) < ((b.2.2.length : Nat) : Int) := by omega
   have qq2 : (0 : Int) ≤ (i : Int) := by omega
   have hw : IntKind.wrap .i64 ((i : Int) + 1) = ((i + 1 : Nat) : Int) := by rw [wi (by omega) (by omega)]; omega
   have k1 : (((a.length + 1 : Nat) : Int) * 64 ≤ 70368744177664) := by omega
   have k2 : (((a.length + 1 : Nat) : Int) ≤ 70368744177664) := by omega
   simp -implicitDefEqProofs only [qq1, qq2, at_ta hi, hw, k1, k2, F43_ok (ta b.2.2 i), open_of hb hi, eq_self, xs]
   cases decide ((ta b.2.2 i).2.1 < 2) <;> simp -implicitDefEqProofs only [List.append_nil, eq_self, xs]
  have e100 : (((b.2.2.length : Nat) : Int) == 100) = decide (((b.2.2.length : Nat) : Int) ≥ 100) := by rw [Bool.eq_iff_iff, beq_iff_eq, decide_eq_true_iff]; omega
  simp -implicitDefEqProofs only [opnT_len, e100, eq_self, xs]
  cases decide ((((opnL b.2.2).length : Nat) : Int) ≥ c.1)
  rotate_left
  ·simp -implicitDefEqProofs only [nz9, eq_self, xs]
  cases decide (((b.2.2.length : Nat) : Int) ≥ 100)
  rotate_left
  ·simp -implicitDefEqProofs only [nz9, eq_self, xs]
  have q9 : ((plc b.2.2 nm : Nat) : Int) ≤ ((b.2.2.length : Nat) : Int) := by omega
  have q8 : (0 : Int) ≤ ((plc b.2.2 nm : Nat) : Int) := by omega
  have k1 : (((b.2.2.length + 1 : Nat) : Int) * 64 ≤ 70368744177664) := by omega
  have k2 : (((b.2.2.length + 1 : Nat) : Int) ≤ 70368744177664) := by omega
  have hil := ins_len (l := b.2.2) (t := (nm, (0, (pr, (0, (0, (-1, 0))))))) (plc b.2.2 nm) hp
  have htk : List.take (b.2.2.length + 1) (insL b.2.2 [(nm, (0, (pr, (0, (0, (-1, 0))))))] ((plc b.2.2 nm : Nat) : Int)) = insL b.2.2 [(nm, (0, (pr, (0, (0, (-1, 0))))))] ((plc b.2.2 nm : Nat) : Int) := List.take_of_length_le (by rw [hil]; exact Nat.le_refl _)
  have hin := ins_setL (l := b.2.2) (nm := nm) (t := newT nm pr) hf' rfl
  simp -implicitDefEqProofs only [q9, q8, k1, k2, nz0, hil, htk, eq_self, xs]
  rw [← hin]; rfl
 have hf' : fnd b.2.2 nm = true := by unfold fnd; rw [hf, decide_eq_true hq]; rfl
 have hsg := sget hq
 simp -implicitDefEqProofs only [q1, q2, at_ta hq, F61_ok (ta b.2.2 (plc b.2.2 nm)) nm, cmp_eq, hf, addR, hf', hc, hb, hk, F46_ok hn, F47_ok pr 0 9, nz1, nz5, eq_self, xs]
 cases nmB nm <;> cases (decide (0 ≤ pr) && decide (pr ≤ 9)) <;> simp -implicitDefEqProofs only [eq_self, xs]
theorem F18_ok {c : Int × Int} {b : BK} {k : Int} {nm : ByteArray} {pr : Int} (hz : szB b) (hn : nm.size ≤ maxLen) : F18 (c, (b, (k, (nm, pr)))) = some (gS c b k (addR c b k nm pr)) := by
 rw [F18_eq]
 unfold gS addR
 simp -implicitDefEqProofs only [F50_g (c := c) (k := k) hz, Option.bind_some]
 cases hc : capsB c
 ·rfl
 cases hb : bookB b
 ·rfl
 by_cases hk : k < b.1
 ·simp -implicitDefEqProofs only [hk, eq_self, xs]
  rfl
 have hs := srt_of hb
 have hl := len_of hb
 have h31 : F31 (((b).1, ((b).2.1, (b).2.2)), nm) = _ := F31_ok (b := b) hs (by omega)
 have h33 : F33 (((b).1, ((b).2.1, (b).2.2))) = _ := F33_ok (b := b) (by omega)
 have h51 := F51_ok hn
 simp -implicitDefEqProofs only [hk, nz0, h51, dlt, dgt, h31, h33, eq_self, xs]
 cases nmB nm
 ·rfl
 cases decide (0 ≤ pr)
 ·rfl
 cases decide (pr ≤ 9)
 ·rfl
 cases hf : fnd b.2.2 nm
 ·have n1 : ¬ ((-1 : Int) ≥ 0) := by omega
  have h52 : F52 (((b).1, ((b).2.1, (b).2.2)), (k, (nm, (0, (pr, (0, (0, (-1, 0)))))))) = _ := F52_ok (b := b) (t := newT nm pr) hs (by omega)
  simp -implicitDefEqProofs only [n1, eq_self, xs]
  cases decide ((((opnL b.2.2).length : Nat) : Int) ≥ c.1)
  ·cases decide (((b.2.2.length : Nat) : Int) ≥ 100)
   ·simp -implicitDefEqProofs only [h52, eq_self, xs]
   ·rfl
  ·rfl
 ·have hq := fnd_lt hf
  have q3 : ((plc b.2.2 nm : Nat) : Int) ≥ 0 := by omega
  simp -implicitDefEqProofs only [q3, eq_self, xs]
def takeT (c : Int × Int) (b : BK) (w u : Int) (t : TK) : TK := (t.1, (1, (t.2.2.1, (IntKind.wrap IntKind.u64 (b.2.1 + 1), (IntKind.wrap IntKind.i64 (t.2.2.2.2.1 + 1), (w, u))))))
def takeR (c : Int × Int) (b : BK) (k : Int) (nm : ByteArray) (w u : Int) : BK × (Int × Int) := if (decide (0 ≤ w) && decide (w ≤ 63)) = true then (if fnd b.2.2 nm = true then (if (bne (ta b.2.2 (plc b.2.2 nm)).2.1 0 || decide ((ta b.2.2 (plc b.2.2 nm)).2.2.2.2.1 ≥ c.2)) = true then (b, (0, 7)) else if (b.2.1 == 18446744073709551615) = true then (b, (0, 4)) else ((k, (IntKind.wrap IntKind.u64 (b.2.1 + 1), setL b.2.2 (takeT c b w u (ta b.2.2 (plc b.2.2 nm))))), (IntKind.wrap IntKind.u64 (b.2.1 + 1), 0))) else (b, (0, 6))) else (b, (0, 1))
def gS2 (c : Int × Int) (b : BK) (k : Int) (r : BK × (Int × Int)) : BK × (Int × Int) := if (capsB c && bookB b) = true then (if decide (k < b.1) = true then (b, (0, 8)) else r) else (b, (0, 1))
theorem F20_ok {c : Int × Int} {b : BK} {k : Int} {nm : ByteArray} {w u : Int} (hz : szB b) : F20 (c, (b, (k, (nm, (w, u))))) = some (gS2 c b k (takeR c b k nm w u)) := by
 have hp := plc_le b.2.2 nm
 unfold gS2
 cases hc : capsB c
 ·have h1 := F29_f hc
  rw [F20_eq]
  simp -implicitDefEqProofs only [h1, nz1, nz0, eq_self, xs]
 have h1 := F29_t hc
 cases hb : bookB b
 ·have h2 := F26_f hz hb
  rw [F20_eq]
  simp -implicitDefEqProofs only [h1, h2, nz0, nz1, eq_self, xs]
 have h2 := F26_t hz hb
 by_cases hk : k < b.1
 ·rw [F20_eq]
  have nz8 : ((8 : Int) != 0) = true := rfl
  simp -implicitDefEqProofs only [h1, h2, nz0, hk, nz8, eq_self, xs]
 have hs := srt_of hb
 have hl := len_of hb
 rw [F20_eq, copyL hl]
 simp -implicitDefEqProofs only [h1, h2, nz0, hk, decide_false, cond_false, cond_true, Option.bind_some, joinX_l]
 rw [srch hs nm]
 rotate_left
 ·intro i hi
  have q : ¬ (i : Int) < (i : Int) := by omega
  simp -implicitDefEqProofs only [q, eq_self, xs]
 ·intro i j m hij hj hm hml q1
  have hmid := mid (i := i) (j := j) (by omega)
  rw [← hm] at hmid
  have q3 : (0 : Int) ≤ (m : Int) := by omega
  have q4 : (m : Int) < ((b.2.2.length : Nat) : Int) := by omega
  have hw : IntKind.wrap .i64 ((m : Int) + 1) = ((m + 1 : Nat) : Int) := by rw [wi (by omega) (by omega)]; omega
  simp -implicitDefEqProofs only [q1, hmid, q3, q4, at_ta hml, F61_ok (ta b.2.2 m) nm, cmp_lt, hw, eq_self, xs]
 by_cases hq : plc b.2.2 nm < b.2.2.length
 rotate_left
 ·have hf : fnd b.2.2 nm = false := by unfold fnd; rw [decide_eq_false hq]; rfl
  have q1 : ¬ ((plc b.2.2 nm : Nat) : Int) < ((b.2.2.length : Nat) : Int) := by omega
  have nz6 : ((6 : Int) != 0) = true := rfl
  simp -implicitDefEqProofs only [q1, hf, takeR, hc, hb, hk, F54_ok w, eq_self, xs]
  cases (decide (0 ≤ w) && decide (w ≤ 63))
  ·simp -implicitDefEqProofs only [nz1, eq_self, xs]
  ·simp -implicitDefEqProofs only [nz6, eq_self, xs]
 have q1 : ((plc b.2.2 nm : Nat) : Int) < ((b.2.2.length : Nat) : Int) := by omega
 have q2 : (0 : Int) ≤ ((plc b.2.2 nm : Nat) : Int) := by omega
 cases hf : eqN (ta b.2.2 (plc b.2.2 nm)).1 nm
 ·have hf' : fnd b.2.2 nm = false := by unfold fnd; rw [hf, Bool.and_false]
  have nz6 : ((6 : Int) != 0) = true := rfl
  simp -implicitDefEqProofs only [q1, q2, at_ta hq, F61_ok (ta b.2.2 (plc b.2.2 nm)) nm, cmp_eq, hf, hf', takeR, hc, hb, hk, F54_ok w, eq_self, xs]
  cases (decide (0 ≤ w) && decide (w ≤ 63))
  ·simp -implicitDefEqProofs only [nz1, eq_self, xs]
  ·simp -implicitDefEqProofs only [nz6, eq_self, xs]
 have hf' : fnd b.2.2 nm = true := by unfold fnd; rw [hf, decide_eq_true hq]; rfl
 have hsg := sget hq
 have hbp : b.2.2.length = b.2.2.length := rfl
 have nz7 : ((7 : Int) != 0) = true := rfl
 have nz4 : ((4 : Int) != 0) = true := rfl
 simp -implicitDefEqProofs only [q1, q2, at_ta hq, F61_ok (ta b.2.2 (plc b.2.2 nm)) nm, cmp_eq, hf, takeR, hf', hc, hb, hk, F54_ok w, eq_self, xs]
 cases (decide (0 ≤ w) && decide (w ≤ 63))
 ·simp -implicitDefEqProofs only [nz1, eq_self, xs]
 simp -implicitDefEqProofs only [eq_self, xs]
 cases (bne (ta b.2.2 (plc b.2.2 nm)).2.1 0)
 rotate_left
 ·simp -implicitDefEqProofs only [nz7, eq_self, xs]
 simp -implicitDefEqProofs only [eq_self, xs]
 cases decide ((ta b.2.2 (plc b.2.2 nm)).2.2.2.2.1 ≥ c.2)
 rotate_left
 ·simp -implicitDefEqProofs only [nz7, eq_self, xs]
 simp -implicitDefEqProofs only [eq_self, xs]
 cases (b.2.1 == 18446744073709551615)
 rotate_left
 ·simp -implicitDefEqProofs only [nz4, eq_self, xs]
 have hsl := set_setL (t := takeT c b w u (ta b.2.2 (plc b.2.2 nm))) hf' (fnd_eq hf')
 have hlen : ∀ t : TK, (b.2.2.set (plc b.2.2 nm) t).length = b.2.2.length := fun t => List.length_set
 have htk : ∀ t : TK, List.take b.2.2.length (b.2.2.set (plc b.2.2 nm) t) = b.2.2.set (plc b.2.2 nm) t := fun t => List.take_of_length_le (by rw [List.length_set]; exact Nat.le_refl _)
 simp -implicitDefEqProofs only [hsg, List.set_set, nz0, hlen, htk, eq_self, xs]
 rw [← hsl]; rfl
theorem F21_ok {c : Int × Int} {b : BK} {k : Int} {nm : ByteArray} {w u : Int} (hz : szB b) : F21 (c, (b, (k, (nm, (w, u))))) = some (gS2 c b k (takeR c b k nm w u)) := by
 rw [F21_eq]
 unfold gS2 takeR
 simp -implicitDefEqProofs only [F50_g (c := c) (k := k) hz, Option.bind_some]
 cases hc : capsB c
 ·rfl
 cases hb : bookB b
 ·rfl
 by_cases hk : k < b.1
 ·simp -implicitDefEqProofs only [hk, eq_self, xs]
  rfl
 have hs := srt_of hb
 have hl := len_of hb
 have h31 : F31 (((b).1, ((b).2.1, (b).2.2)), nm) = _ := F31_ok (b := b) hs (by omega)
 simp -implicitDefEqProofs only [hk, nz0, dlt, dgt, h31, eq_self, xs]
 cases decide (0 ≤ w)
 ·rfl
 cases decide (w ≤ 63)
 ·rfl
 cases hf : fnd b.2.2 nm
 ·have n1 : ¬ ((0 : Int) ≤ -1) := by omega
  simp -implicitDefEqProofs only [n1, eq_self, xs]
 ·have hq := fnd_lt hf
  have q2 : (0 : Int) ≤ ((plc b.2.2 nm : Nat) : Int) := by omega
  have h52 : F52 (((b).1, ((b).2.1, (b).2.2)), (k, (nm, (1, ((ta b.2.2 (plc b.2.2 nm)).2.2.1, (IntKind.wrap IntKind.u64 (b.2.1 + 1), (IntKind.wrap IntKind.i64 ((ta b.2.2 (plc b.2.2 nm)).2.2.2.2.1 + 1), (w, u)))))))) = _ := F52_ok (b := b) (t := (nm, (1, ((ta b.2.2 (plc b.2.2 nm)).2.2.1, (IntKind.wrap IntKind.u64 (b.2.1 + 1), (IntKind.wrap IntKind.i64 ((ta b.2.2 (plc b.2.2 nm)).2.2.2.2.1 + 1), (w, u))))))) hs (by omega)
  have et : takeT c b w u (ta b.2.2 (plc b.2.2 nm)) = (nm, (1, ((ta b.2.2 (plc b.2.2 nm)).2.2.1, (IntKind.wrap IntKind.u64 (b.2.1 + 1), (IntKind.wrap IntKind.i64 ((ta b.2.2 (plc b.2.2 nm)).2.2.2.2.1 + 1), (w, u)))))) := by unfold takeT; rw [fnd_eq hf]
  simp -implicitDefEqProofs only [q2, at_ta hq, et, eq_self, xs]
  cases (bne (ta b.2.2 (plc b.2.2 nm)).2.1 0)
  ·simp -implicitDefEqProofs only [eq_self, xs]
   cases decide ((ta b.2.2 (plc b.2.2 nm)).2.2.2.2.1 ≥ c.2)
   ·simp -implicitDefEqProofs only [eq_self, xs]
    cases (b.2.1 == 18446744073709551615)
    ·simp -implicitDefEqProofs only [h52, eq_self, xs]
    ·rfl
   ·rfl
  ·rfl
end Go.Proofs.Ytoblcfkmggbheaa.VL
end
section
namespace Go.Proofs.Ytoblcfkmggbheaa.VL
open Go
set_option linter.unusedVariables false
set_option linter.unusedSectionVars false
set_option linter.unusedSimpArgs false
variable [Val]
theorem setL_len (l : List TK) (t : TK) : (setL l t).length ≤ l.length + 1 := by
 have := plc_le l t.1
 unfold setL
 rw [List.length_append, List.length_append, List.length_take, List.length_drop, List.length_singleton]; omega
theorem gS_len {c : Int × Int} {b : BK} {k : Int} {r : BK × Int} (hb : b.2.2.length ≤ 200) (hr : r.1.2.2.length ≤ 200) : (gS c b k r).1.2.2.length ≤ 200 := by
 unfold gS
 split
 ·split
  ·exact hb
  ·exact hr
 ·exact hb
theorem gS2_len {c : Int × Int} {b : BK} {k : Int} {r : BK × (Int × Int)} (hb : b.2.2.length ≤ 200) (hr : r.1.2.2.length ≤ 200) : (gS2 c b k r).1.2.2.length ≤ 200 := by
 unfold gS2
 split
 ·split
  ·exact hb
  ·exact hr
 ·exact hb
section
variable {c : Int × Int} {b : BK} {k : Int} {nm : ByteArray} (hb : b.2.2.length ≤ 199)
include hb
theorem setL_len' (t : TK) : (setL b.2.2 t).length ≤ 200 := by have := setL_len b.2.2 t; omega
theorem addR_len (pr : Int) : (addR c b k nm pr).1.2.2.length ≤ 200 := by
 unfold addR
 repeat' split
 all_goals first | exact setL_len' hb _ | (show b.2.2.length ≤ 200; omega)
theorem dropR_len : (dropR b k nm).1.2.2.length ≤ 200 := by
 unfold dropR
 repeat' split
 all_goals first | exact setL_len' hb _ | (show b.2.2.length ≤ 200; omega)
theorem doneR_len (g s : Int) : (doneR c b k nm g s).1.2.2.length ≤ 200 := by
 unfold doneR
 repeat' split
 all_goals first | exact setL_len' hb _ | (show b.2.2.length ≤ 200; omega)
theorem takeR_len (w u : Int) : (takeR c b k nm w u).1.2.2.length ≤ 200 := by
 unfold takeR
 repeat' split
 all_goals first | exact setL_len' hb _ | (show b.2.2.length ≤ 200; omega)
end
theorem same_of {b : BK} (h : b.2.2.length ≤ 200) : F15 (((b).1, ((b).2.1, (b).2.2)), ((b).1, ((b).2.1, (b).2.2))) = some true := F15_refl b (by omega)
theorem F4_ok {c1 c2 : Int} {a g0 : Int} {l : List TK} {k : Int} {nm : ByteArray} {x g : Int} {d : Bool} (hz : szB (a, (g0, l))) (hn : nm.size ≤ maxLen) (h14 : F14 () = some true) :
  F4 (c1, (c2, (a, (g0, (l, (k, (nm, (x, (g, d))))))))) = some true := by
 rw [F4_eq]
 obtain ⟨l', h10, hz', hl⟩ := szB_cut hz
 clear hz
 have hb : (a, (g0, l')).2.2.length ≤ 199 := by show l'.length ≤ 199; omega
 have hb' : (a, (g0, l')).2.2.length ≤ 200 := by show l'.length ≤ 200; omega
 have e17 := F17_ok (c := (c1, c2)) (k := k) (pr := x) hz' hn
 have e18 := F18_ok (c := (c1, c2)) (k := k) (pr := x) hz' hn
 have l17 := gS_len (c := (c1, c2)) (k := k) hb' (addR_len (c := (c1, c2)) (k := k) (nm := nm) hb x)
 generalize gS (c1, c2) (a, (g0, l')) k (addR (c1, c2) (a, (g0, l')) k nm x) = G17 at e17 e18 l17
 have e16 := F16_ok (c := (c1, c2)) (k := k) (nm := nm) hz'
 have e19 := F19_ok (c := (c1, c2)) (k := k) (nm := nm) hz'
 have l16 := gS_len (c := (c1, c2)) (k := k) hb' (dropR_len (k := k) (nm := nm) hb)
 generalize gS (c1, c2) (a, (g0, l')) k (dropR (a, (g0, l')) k nm) = G16 at e16 e19 l16
 have e20 := F20_ok (c := (c1, c2)) (k := k) (nm := nm) (w := x) (u := g) hz'
 have e21 := F21_ok (c := (c1, c2)) (k := k) (nm := nm) (w := x) (u := g) hz'
 have l20 := gS2_len (c := (c1, c2)) (k := k) hb' (takeR_len (c := (c1, c2)) (k := k) (nm := nm) hb x g)
 generalize gS2 (c1, c2) (a, (g0, l')) k (takeR (c1, c2) (a, (g0, l')) k nm x g) = G20 at e20 e21 l20
 have e22 := F22_ok (c := (c1, c2)) (k := k) (nm := nm) (g := g) hz'
 have e23 := F23_ok (c := (c1, c2)) (k := k) (nm := nm) (g := g) (s := 0) hz'
 have l22 := gS_len (c := (c1, c2)) (k := k) hb' (doneR_len (c := (c1, c2)) (k := k) (nm := nm) hb g 0)
 generalize gS (c1, c2) (a, (g0, l')) k (doneR (c1, c2) (a, (g0, l')) k nm g 0) = G22 at e22 e23 l22
 have e13 := F13_ok (c := (c1, c2)) (k := k) (nm := nm) (g := g) (d := d) hz'
 have e33 := F23_ok (c := (c1, c2)) (k := k) (nm := nm) (g := g) (s := if d = true then 2 else 1) hz'
 have l13 := gS_len (c := (c1, c2)) (k := k) hb' (doneR_len (c := (c1, c2)) (k := k) (nm := nm) hb g (if d = true then 2 else 1))
 generalize gS (c1, c2) (a, (g0, l')) k (doneR (c1, c2) (a, (g0, l')) k nm g (if d = true then 2 else 1)) = G13 at e13 e33 l13
 have hd : ∀ {R : Type} (f : Int → Option R), Option.bind (cond d (some (2 : Int)) (some 1)) f = f (if d = true then 2 else 1) := by intro R f; cases d <;> rfl
 simp -implicitDefEqProofs only [h10, h14, e17, e18, e16, e19, e20, e21, e22, e23, e13, hd, e33, same_of l17, same_of l16, same_of l20, same_of l22, same_of l13, Option.bind_some, bne_self_eq_false, beq_self_eq_true, Bool.not_true, cond_false, cond_true, joinX_l]
end Go.Proofs.Ytoblcfkmggbheaa.VL
end
