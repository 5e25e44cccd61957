/- TaskGives: contracts of calls in any round, told of symbols and then of numbers. -/
import Derived.Test.YtoblcfkmggbheaaEa
import Derived.Test.YtoblcfkmggbheaaWd
namespace Go.Proofs.Ytoblcfkmggbheaa.VL
open Go
set_option maxRecDepth 100000
set_option linter.unusedSectionVars false
set_option linter.unusedVariables false
set_option linter.unusedSimpArgs false

/-! ### Symbols: 0: open, 1: tries, 2: the round -/
abbrev kS : SX := .i .i64 2
abbrev tS : SX := .i .i64 1
def uS : SX := .conv .u64 kS
def uS1 : SX := .bin .add uS (.c (.int .u64 1))
def kS1 : SX := .bin .add kS (.c (.int .i64 1))
def oS : SX := .bin .rem kS (.c (.int .i64 64))
def bZ : PV := .agg [vu 1, vu 0, .sl false [.agg [sa, vi 0, vi 0, vu 0, vi 0, vi (-1), vu 0]]]
def bkS (st : Int) : PV := .agg [vu 1, .sy uS, .sl false [.agg [sa, vi st, vi 0, .sy uS, .sy kS, vi (-1), vu 0]]]
def bkS1 (st : Int) : PV := .agg [vu 1, .sy uS1, .sl false [.agg [sa, vi st, vi 0, .sy uS1, .sy kS1, vi (-1), vu 0]]]
def bgS : PV := .agg [vu 1, .sy uS1, .sl false [.agg [sa, vi 1, vi 0, .sy uS1, .sy kS1, .sy oS, .sy uS]]]
def tkS1 (st : Int) : PV := .agg [sa, vi st, vi 0, .sy uS1, .sy kS1, vi (-1), vu 0]
/-- From a round on, and so many less than tries. -/
def FL (lo : Int) (d : Int) : Facts := ⟨[(0, 1, 100), (1, 1, 100), (2, lo, 100)], [⟨d, [⟨1, kS, some (0, 100)⟩, ⟨-1, tS, some (1, 100)⟩]⟩], []⟩
def FE (lo : Int) (d : Int) : Facts := ⟨[(0, 1, 100), (1, 1, 100), (2, lo, 100)], [⟨d, [⟨1, kS, some (0, 100)⟩, ⟨-1, tS, some (1, 100)⟩]⟩, ⟨-d, [⟨-1, kS, some (0, 100)⟩, ⟨1, tS, some (1, 100)⟩]⟩], []⟩
section
variable [Val]
theorem FL_ok {lo d : Int} (h0 : 1 ≤ Val.i 0 ∧ Val.i 0 ≤ 100) (h1 : 1 ≤ Val.i 1 ∧ Val.i 1 ≤ 100) (h2 : 0 ≤ lo ∧ lo ≤ Val.i 2 ∧ Val.i 2 ≤ 100) (h : Val.i 2 + d ≤ Val.i 1) : (FL lo d).holds := by
  have y : (SX.int kS) = Val.i 2 := rfl
  have z : (SX.int tS) = Val.i 1 := rfl
  refine ⟨fun r hr => ?_, fun r hr => ?_, fun _ h => (by cases h)⟩
  · simp only [FL, List.mem_cons, List.not_mem_nil, or_false] at hr
    obtain rfl | rfl | rfl := hr
    · exact h0
    · exact h1
    · exact ⟨h2.2.1, h2.2.2⟩
  · simp only [FL, List.mem_cons, List.not_mem_nil, or_false] at hr
    subst hr
    refine ⟨fun t ht => ?_, ?_⟩
    · simp only [List.mem_cons, List.not_mem_nil, or_false] at ht
      obtain rfl | rfl := ht
      · simp only [Bd.has, y]; omega
      · simp only [Bd.has, z]; omega
    · simp only [LE.val, tmsVal, y, z]; omega
theorem FE_ok {lo d : Int} (h0 : 1 ≤ Val.i 0 ∧ Val.i 0 ≤ 100) (h1 : 1 ≤ Val.i 1 ∧ Val.i 1 ≤ 100) (h2 : 0 ≤ lo ∧ lo ≤ Val.i 2 ∧ Val.i 2 ≤ 100) (h : Val.i 2 + d = Val.i 1) : (FE lo d).holds := by
  have y : (SX.int kS) = Val.i 2 := rfl
  have z : (SX.int tS) = Val.i 1 := rfl
  refine ⟨fun r hr => ?_, fun r hr => ?_, fun _ h => (by cases h)⟩
  · simp only [FE, List.mem_cons, List.not_mem_nil, or_false] at hr
    obtain rfl | rfl | rfl := hr
    · exact h0
    · exact h1
    · exact ⟨h2.2.1, h2.2.2⟩
  · simp only [FE, List.mem_cons, List.not_mem_nil, or_false] at hr
    obtain rfl | rfl := hr
    all_goals
      refine ⟨fun t ht => ?_, ?_⟩
      · simp only [List.mem_cons, List.not_mem_nil, or_false] at ht
        obtain rfl | rfl := ht
        · simp only [Bd.has, y]; omega
        · simp only [Bd.has, z]; omega
      · simp only [LE.val, tmsVal, y, z]; omega
theorem sub_run : (runK noK 17 [cS, b0, vu 1, sa, vi 0]).all (leafIs (.tup [bZ, vi 0])) (FL 0 0) = true := by kernel_rfl
theorem grantZ_run : (runK noK 20 [cS, bZ, vu 1, sa, vi 0, vu 0]).all (leafIs (.tup [.agg [vu 1, vu 1, .sl false [.agg [sa, vi 1, vi 0, vu 1, vi 1, vi 0, vu 0]]], vu 1, vi 0])) (FL 0 1) = true := by kernel_rfl
theorem grantS_run : (runK noK 20 [cS, bkS 0, vu 1, sa, .sy oS, .sy uS]).all (leafIs (.tup [bgS, .sy uS1, vi 0])) (FL 1 1) = true := by kernel_rfl
theorem repL_run : (runK noK 13 [cS, bgS, vu 1, sa, .sy uS1, vb false]).all (leafIs (.tup [bkS1 0, vi 0])) (FL 0 2) = true := by kernel_rfl
theorem repE_run : (runK noK 13 [cS, bgS, vu 1, sa, .sy uS1, vb false]).all (leafIs (.tup [bkS1 3, vi 0])) (FE 0 1) = true := by kernel_rfl
theorem expL_run : (runK noK 22 [cS, bgS, vu 1, sa, .sy uS1]).all (leafIs (.tup [bkS1 0, vi 0])) (FL 0 2) = true := by kernel_rfl
theorem expE_run : (runK noK 22 [cS, bgS, vu 1, sa, .sy uS1]).all (leafIs (.tup [bkS1 3, vi 0])) (FE 0 1) = true := by kernel_rfl
theorem qry0_run : (runK noK 11 [bkS1 0, sa]).all (leafIs (.tup [tkS1 0, vi 0])) (FL 0 1) = true := by kernel_rfl
theorem qry3_run : (runK noK 11 [bkS1 3, sa]).all (leafIs (.tup [tkS1 3, vi 0])) (FL 0 1) = true := by kernel_rfl
theorem grantE_run : (runK noK 20 [cS, bkS 3, vu 1, sa, vi 0, vu 1]).all (leafIs (.tup [bkS 3, vu 0, vi 7])) (FE 1 0) = true := by kernel_rfl
theorem openE_run : (runK noK 25 [bkS 3]).all (leafIs (.sl true [])) (FE 1 0) = true := by kernel_rfl
def badF' (n : Nat) (lo hi : Int) : Facts := ⟨[(n, lo, hi)], [], []⟩
theorem badF'_ok {n : Nat} {lo hi : Int} (h : lo ≤ Val.i n ∧ Val.i n ≤ hi) : (badF' n lo hi).holds :=
  ⟨fun r hr => by simp only [badF', List.mem_cons, List.not_mem_nil, or_false] at hr; subst hr; exact h, fun _ h => (by cases h), fun _ h => (by cases h)⟩
theorem capsOk_run : (runK noK 12 [cS]).all leafTrue (FL 0 0) = true := by kernel_rfl
theorem capsB1_run : (runK noK 12 [cS]).all (leafIs (vb false)) (badF' 0 (-9223372036854775808) 0) = true := by kernel_rfl
theorem capsB2_run : (runK noK 12 [cS]).all (leafIs (vb false)) (badF' 0 101 9223372036854775807) = true := by kernel_rfl
theorem capsB3_run : (runK noK 12 [cS]).all (leafIs (vb false)) (badF' 1 (-9223372036854775808) 0) = true := by kernel_rfl
def badG : Facts := ⟨[(0, 1, 100), (1, 101, 9223372036854775807)], [], []⟩
theorem badG_ok (h0 : 1 ≤ Val.i 0 ∧ Val.i 0 ≤ 100) (h1 : 101 ≤ Val.i 1 ∧ Val.i 1 ≤ 9223372036854775807) : badG.holds := by
  refine ⟨fun r hr => ?_, fun _ h => (by cases h), fun _ h => (by cases h)⟩
  simp only [badG, List.mem_cons, List.not_mem_nil, or_false] at hr
  obtain rfl | rfl := hr
  · exact h0
  · exact h1
theorem capsB4_run : (runK noK 12 [cS]).all (leafIs (.sy (.bin .leq tS (.c (.int .i64 100))))) badG = true := by kernel_rfl
end

/-! ### Of numbers -/
def cN (O T : Int) : PV := .agg [vi O, vi T]
def bkN (st : Int) (k : Nat) : PV := .agg [vu 1, vu k, .sl false [.agg [sa, vi st, vi 0, vu k, vi k, vi (-1), vu 0]]]
def bgN (k : Nat) : PV := .agg [vu 1, vu (k + 1 : Nat), .sl false [.agg [sa, vi 1, vi 0, vu (k + 1 : Nat), vi (k + 1 : Nat), vi (k % 64 : Nat), vu k]]]
def tkN (st : Int) (k : Nat) : PV := .agg [sa, vi st, vi 0, vu k, vi k, vi (-1), vu 0]
@[reducible] def val3 (O T k : Int) : Val := ⟨fun n => if n = 0 then O else if n = 1 then T else if n = 2 then k else 1, fun n hn => by rw [if_neg (by omega), if_neg (by omega), if_neg (by omega)]; decide, fun _ => false, fun _ => ⟨#[]⟩⟩
theorem v3_0 (O T k : Int) : @Val.i (val3 O T k) 0 = O := rfl
theorem v3_1 (O T k : Int) : @Val.i (val3 O T k) 1 = T := rfl
theorem v3_2 (O T k : Int) : @Val.i (val3 O T k) 2 = k := rfl
theorem ev_u (O T : Int) (k : Nat) (hk : k ≤ 100) : @SX.eval (val3 O T k) uS = .int .u64 k := by
  letI : Val := val3 O T k
  have : IntKind.u64.wrap (k : Int) = k := wrap_in (k := .u64) (by simp [v3_2, ikLo]) (by simp [v3_2, ikHi]; omega)
  simp [v3_2, uS, SX.eval, this]
theorem ev_u1 (O T : Int) (k : Nat) (hk : k ≤ 100) : @SX.eval (val3 O T k) uS1 = .int .u64 (k + 1 : Nat) := by
  letI : Val := val3 O T k
  have : IntKind.u64.wrap ((k : Int) + 1) = (k + 1 : Nat) := wrap_in (k := .u64) (by simp [v3_2, ikLo]; omega) (by simp [v3_2, ikHi]; omega)
  have e := ev_u O T k hk
  simp [v3_2, uS1, SX.eval, e, binW, arith, this]
theorem ev_k1 (O T : Int) (k : Nat) (hk : k ≤ 100) : @SX.eval (val3 O T k) kS1 = .int .i64 (k + 1 : Nat) := by
  letI : Val := val3 O T k
  have : IntKind.i64.wrap ((k : Int) + 1) = (k + 1 : Nat) := wrap_in (k := .i64) (by simp [v3_2, ikLo]; omega) (by simp [v3_2, ikHi]; omega)
  simp [v3_2, kS1, SX.eval, binW, arith, this]
theorem ev_o (O T : Int) (k : Nat) (hk : k ≤ 100) : @SX.eval (val3 O T k) oS = .int .i64 (k % 64 : Nat) := by
  letI : Val := val3 O T k
  have e := Int.tmod_eq_emod_of_nonneg (b := 64) (show 0 ≤ (k : Int) by omega)
  have : IntKind.i64.wrap ((k : Int).tmod 64) = (k % 64 : Nat) := by rw [e]; exact wrap_in (k := .i64) (by simp [v3_2, ikLo]; omega) (by simp [v3_2, ikHi]; omega)
  simp [v3_2, oS, SX.eval, binW, arith, e]
section
variable [Val]
theorem capsN {O T : Int} (hO : 1 ≤ O ∧ O ≤ 100) (hT : 1 ≤ T ∧ T ≤ 100) : VPure Try.prog 12 [cN O T] (vb true) :=
  vpure_num (V := val3 O T 0) (@trueK (val3 O T 0) noK trivial _ (@FL_ok (val3 O T 0) 0 0 hO hT ⟨by decide, by show (0 : Int) ≤ 0; decide, by show (0 : Int) ≤ 100; decide⟩ (by show (0 : Int) + 0 ≤ T; omega)) _ _ (@capsOk_run (val3 O T 0))) rfl rfl rfl rfl
theorem capsBadN {O T : Int} (hO : -9223372036854775808 ≤ O ∧ O ≤ 9223372036854775807) (hT : -9223372036854775808 ≤ T ∧ T ≤ 9223372036854775807) (h : ¬ ((1 ≤ O ∧ O ≤ 100) ∧ 1 ≤ T ∧ T ≤ 100)) : VPure Try.prog 12 [cN O T] (vb false) := by
  have go : @VPure (val3 O T 0) Try.prog 12 [cS] (vb false) → VPure Try.prog 12 [cN O T] (vb false) := fun h => vpure_num h rfl rfl rfl rfl
  have go' : @VPure (val3 O T 0) Try.prog 12 [cS] (.sy (.bin .leq tS (.c (.int .i64 100)))) → 100 < T → VPure Try.prog 12 [cN O T] (vb false) := fun h hT => vpure_num h rfl (by simp [sa, v3_2, PV.num, SX.eval, binW, arith, v3_1]; omega) rfl rfl
  letI : Val := val3 O T 0
  by_cases c1 : O < 1
  · exact go (isK (l := noK) trivial (badF'_ok (n := 0) (hi := 0) ⟨hO.1, by show O ≤ 0; omega⟩) capsB1_run)
  by_cases c2 : 100 < O
  · exact go (isK (l := noK) trivial (badF'_ok (n := 0) (lo := 101) ⟨by show 101 ≤ O; omega, hO.2⟩) capsB2_run)
  by_cases c3 : T < 1
  · exact go (isK (l := noK) trivial (badF'_ok (n := 1) (hi := 0) ⟨hT.1, by show T ≤ 0; omega⟩) capsB3_run)
  · exact go' (isK (l := noK) trivial (badG_ok ⟨by show 1 ≤ O; omega, by show O ≤ 100; omega⟩ ⟨by show 101 ≤ T; omega, hT.2⟩) capsB4_run) (by omega)
theorem FLN {O T : Int} {k : Nat} {lo d : Int} (hO : 1 ≤ O ∧ O ≤ 100) (hT : 1 ≤ T ∧ T ≤ 100) (h0 : 0 ≤ lo) (h1 : lo ≤ k) (hd : 0 ≤ d) (h : (k : Int) + d ≤ T) : @Facts.holds (val3 O T k) (FL lo d) :=
  @FL_ok (val3 O T k) lo d hO hT ⟨h0, h1, by show (k : Int) ≤ 100; omega⟩ h
theorem FEN {O T : Int} {k : Nat} {lo d : Int} (hO : 1 ≤ O ∧ O ≤ 100) (hT : 1 ≤ T ∧ T ≤ 100) (h0 : 0 ≤ lo) (h1 : lo ≤ k) (hd : 0 ≤ d) (h : (k : Int) + d = T) : @Facts.holds (val3 O T k) (FE lo d) :=
  @FE_ok (val3 O T k) lo d hO hT ⟨h0, h1, by show (k : Int) ≤ 100; omega⟩ h
theorem num_c (O T : Int) (k : Nat) [V : Val] : @PV.num (val3 O T k) cS = PV.num (cN O T) := rfl
theorem num_bk (O T : Int) (k : Nat) (hk : k ≤ 100) (st : Int) [V : Val] : @PV.num (val3 O T k) (bkS st) = PV.num (bkN st k) := by
  simp [sa, v3_2, PV.num, numL, bkS, bkN, ev_u O T k hk, SX.eval]
theorem num_bk1 (O T : Int) (k : Nat) (hk : k ≤ 100) (st : Int) [V : Val] : @PV.num (val3 O T k) (bkS1 st) = PV.num (bkN st (k + 1)) := by
  simp [sa, v3_2, PV.num, numL, bkS1, bkN, ev_u1 O T k hk, ev_k1 O T k hk]
theorem num_tk1 (O T : Int) (k : Nat) (hk : k ≤ 100) (st : Int) [V : Val] : @PV.num (val3 O T k) (tkS1 st) = PV.num (tkN st (k + 1)) := by
  simp [sa, v3_2, PV.num, numL, tkS1, tkN, ev_u1 O T k hk, ev_k1 O T k hk]
theorem num_bg (O T : Int) (k : Nat) (hk : k ≤ 100) [V : Val] : @PV.num (val3 O T k) bgS = PV.num (bgN k) := by
  simp [sa, v3_2, PV.num, numL, bgS, bgN, ev_u O T k hk, ev_u1 O T k hk, ev_k1 O T k hk, ev_o O T k hk]
theorem subN {O T : Int} (hO : 1 ≤ O ∧ O ≤ 100) (hT : 1 ≤ T ∧ T ≤ 100) : VPure Try.prog 17 [cN O T, b0, vu 1, sa, vi 0] (.tup [bkN 0 0, vi 0]) :=
  vpure_num (V := val3 O T (0 : Nat)) (@isK (val3 O T (0 : Nat)) noK trivial _ (FLN hO hT (by decide) (by decide) (by decide) (by omega)) _ _ _ (@sub_run (val3 O T (0 : Nat)))) rfl rfl rfl rfl
theorem grantN {O T : Int} {k : Nat} (hO : 1 ≤ O ∧ O ≤ 100) (hT : 1 ≤ T ∧ T ≤ 100) (h : (k : Int) + 1 ≤ T) : VPure Try.prog 20 [cN O T, bkN 0 k, vu 1, sa, vi (k % 64 : Nat), vu k] (.tup [bgN k, vu (k + 1 : Nat), vi 0]) := by
  by_cases k0 : k = 0
  · subst k0
    exact vpure_num (V := val3 O T (0 : Nat)) (@isK (val3 O T (0 : Nat)) noK trivial _ (FLN hO hT (by decide) (by decide) (by decide) h) _ _ _ (@grantZ_run (val3 O T (0 : Nat)))) rfl rfl rfl rfl
  · have hk : k ≤ 100 := by omega
    refine vpure_num (V := val3 O T k) (@isK (val3 O T k) noK trivial _ (FLN hO hT (by decide) (by omega) (by decide) h) _ _ _ (@grantS_run (val3 O T k))) ?_ ?_ rfl rfl
    · simp only [numL, num_c, num_bk O T k hk]
      simp [sa, v3_2, PV.num, ev_u O T k hk, ev_o O T k hk]
    · simp only [PV.num, numL]
      simp [sa, v3_2, num_bg O T k hk, ev_u1 O T k hk]
theorem repN {O T : Int} {k : Nat} (hO : 1 ≤ O ∧ O ≤ 100) (hT : 1 ≤ T ∧ T ≤ 100) (h : (k : Int) + 1 ≤ T) : VPure Try.prog 13 [cN O T, bgN k, vu 1, sa, vu (k + 1 : Nat), vb false] (.tup [bkN (if ((k + 1 : Nat) : Int) = T then 3 else 0) (k + 1), vi 0]) := by
  have hk : k ≤ 100 := by omega
  by_cases e : ((k + 1 : Nat) : Int) = T
  · rw [if_pos e]
    refine vpure_num (V := val3 O T k) (@isK (val3 O T k) noK trivial _ (FEN hO hT (by decide) (by omega) (by decide) (by omega)) _ _ _ (@repE_run (val3 O T k))) ?_ ?_ rfl rfl
    · simp only [numL, num_c, num_bg O T k hk]
      simp [sa, v3_2, PV.num, ev_u1 O T k hk]
    · simp only [PV.num, numL]
      simp [sa, v3_2, num_bk1 O T k hk]
  · rw [if_neg e]
    refine vpure_num (V := val3 O T k) (@isK (val3 O T k) noK trivial _ (FLN hO hT (by decide) (by omega) (by decide) (by omega)) _ _ _ (@repL_run (val3 O T k))) ?_ ?_ rfl rfl
    · simp only [numL, num_c, num_bg O T k hk]
      simp [sa, v3_2, PV.num, ev_u1 O T k hk]
    · simp only [PV.num, numL]
      simp [sa, v3_2, num_bk1 O T k hk]
theorem expN {O T : Int} {k : Nat} (hO : 1 ≤ O ∧ O ≤ 100) (hT : 1 ≤ T ∧ T ≤ 100) (h : (k : Int) + 1 ≤ T) : VPure Try.prog 22 [cN O T, bgN k, vu 1, sa, vu (k + 1 : Nat)] (.tup [bkN (if ((k + 1 : Nat) : Int) = T then 3 else 0) (k + 1), vi 0]) := by
  have hk : k ≤ 100 := by omega
  by_cases e : ((k + 1 : Nat) : Int) = T
  · rw [if_pos e]
    refine vpure_num (V := val3 O T k) (@isK (val3 O T k) noK trivial _ (FEN hO hT (by decide) (by omega) (by decide) (by omega)) _ _ _ (@expE_run (val3 O T k))) ?_ ?_ rfl rfl
    · simp only [numL, num_c, num_bg O T k hk]
      simp [sa, v3_2, PV.num, ev_u1 O T k hk]
    · simp only [PV.num, numL]
      simp [sa, v3_2, num_bk1 O T k hk]
  · rw [if_neg e]
    refine vpure_num (V := val3 O T k) (@isK (val3 O T k) noK trivial _ (FLN hO hT (by decide) (by omega) (by decide) (by omega)) _ _ _ (@expL_run (val3 O T k))) ?_ ?_ rfl rfl
    · simp only [numL, num_c, num_bg O T k hk]
      simp [sa, v3_2, PV.num, ev_u1 O T k hk]
    · simp only [PV.num, numL]
      simp [sa, v3_2, num_bk1 O T k hk]
theorem qryN {O T : Int} {k : Nat} (hO : 1 ≤ O ∧ O ≤ 100) (hT : 1 ≤ T ∧ T ≤ 100) (h : (k : Int) + 1 ≤ T) {s : Int} (hs : s = 0 ∨ s = 3) : VPure Try.prog 11 [bkN s (k + 1), sa] (.tup [tkN s (k + 1), vi 0]) := by
  have hk : k ≤ 100 := by omega
  have hF := FLN (d := 1) hO hT (Int.le_refl 0) (show (0 : Int) ≤ k by omega) (by decide) h
  obtain rfl | rfl := hs
  · refine vpure_num (V := val3 O T k) (@isK (val3 O T k) noK trivial _ hF _ _ _ (@qry0_run (val3 O T k))) ?_ ?_ rfl rfl
    · simp only [numL, num_bk1 O T k hk]
      simp [sa, v3_2, PV.num]
    · simp only [PV.num, numL]
      simp [sa, v3_2, num_tk1 O T k hk]
  · refine vpure_num (V := val3 O T k) (@isK (val3 O T k) noK trivial _ hF _ _ _ (@qry3_run (val3 O T k))) ?_ ?_ rfl rfl
    · simp only [numL, num_bk1 O T k hk]
      simp [sa, v3_2, PV.num]
    · simp only [PV.num, numL]
      simp [sa, v3_2, num_tk1 O T k hk]
theorem grantEN {O T : Int} {k : Nat} (hO : 1 ≤ O ∧ O ≤ 100) (hT : 1 ≤ T ∧ T ≤ 100) (h : (k : Int) = T) : VPure Try.prog 20 [cN O T, bkN 3 k, vu 1, sa, vi 0, vu 1] (.tup [bkN 3 k, vu 0, vi 7]) := by
  have hk : k ≤ 100 := by omega
  refine vpure_num (V := val3 O T k) (@isK (val3 O T k) noK trivial _ (FEN (d := 0) hO hT (by decide) (by omega) (by decide) (by omega)) _ _ _ (@grantE_run (val3 O T k))) ?_ ?_ rfl rfl
  · simp only [numL, num_c, num_bk O T k hk]
    simp [sa, v3_2, PV.num]
  · simp only [PV.num, numL]
    simp [sa, v3_2, num_bk O T k hk]
theorem openEN {O T : Int} {k : Nat} (hO : 1 ≤ O ∧ O ≤ 100) (hT : 1 ≤ T ∧ T ≤ 100) (h : (k : Int) = T) : VPure Try.prog 25 [bkN 3 k] (.sl true []) := by
  have hk : k ≤ 100 := by omega
  refine vpure_num (V := val3 O T k) (@isK (val3 O T k) noK trivial _ (FEN (d := 0) hO hT (by decide) (by omega) (by decide) (by omega)) _ _ _ (@openE_run (val3 O T k))) ?_ ?_ rfl rfl
  · simp only [numL, num_bk O T k hk]
  · rfl
end
end Go.Proofs.Ytoblcfkmggbheaa.VL
