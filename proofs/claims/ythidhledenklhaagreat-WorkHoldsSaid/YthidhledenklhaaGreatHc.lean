/- Chapter 20: a task that is held, and greater tokens, gone through. -/
import Derived.Test.YthidhledenklhaaGreatHb
namespace Go.Proofs.YthidhledenklhaaGreat.VL
open Go
set_option linter.unusedVariables false
set_option linter.unusedSectionVars false
set_option maxRecDepth 100000
def tS : PV := .agg [.sy (.i .i64 0), .sy (.i .i64 1), .sy (.i .i64 2)]
abbrev hS : SX := .i .i64 1000
/-- A term is held for nothing, or for what a symbol stands for. -/
theorem hold_cases (T D R : Int) : ∃ x : Int, x ≠ 0 ∧ ∀ V : Val, V.i 0 = T → V.i 1 = D → V.i 2 = R → V.i 1000 = x →
    (@VPure V Tryz.prog 13 [tS] (vi 0) ∨ (@VPure V Tryz.prog 13 [tS] (.sy hS) ∧ @VPure V Tryz.prog 27 [tS] (.tup [.sy hS, vi 0]) ∧ 1 ≤ V.i 1000 ∧ V.i 1000 ≤ 1000000)) := by
  by_cases ok : 1 ≤ T ∧ T ≤ 1000000 ∧ boundB D R = true
  · obtain ⟨o1, o2, o3⟩ := ok
    obtain ⟨H, hG⟩ := @guard_is ⟨fun _ => 1, fun _ _ => by decide, fun _ => false, fun _ => ⟨#[]⟩⟩ T D R (show 0 ≤ T by omega) o3
    by_cases h0 : H = 0
    · subst h0
      refine ⟨1, by decide, fun V e0 e1 e2 e3 => .inl ?_⟩
      exact vpure_same (hold13 o1 o2 o3 hG) ⟨same_agg ⟨same_int e0, same_int e1, same_int e2, trivial⟩, trivial⟩ (same_refl _) rfl rfl
    · refine ⟨H, by omega, fun V e0 e1 e2 e3 => .inr ⟨?_, ?_, by omega, by have := hG.le; omega⟩⟩
      · exact vpure_same (hold13 o1 o2 o3 hG) ⟨same_agg ⟨same_int e0, same_int e1, same_int e2, trivial⟩, trivial⟩ (same_int' e3) rfl rfl
      · exact vpure_same (hold27 o1 o2 o3 hG (by omega)) ⟨same_agg ⟨same_int e0, same_int e1, same_int e2, trivial⟩, trivial⟩ (same_tup ⟨same_int' e3, same_refl _, trivial⟩) rfl rfl
  · refine ⟨1, by decide, fun V e0 e1 e2 e3 => .inl ?_⟩
    exact vpure_same (hold13_bad ok) ⟨same_agg ⟨same_int e0, same_int e1, same_int e2, trivial⟩, trivial⟩ (same_refl _) rfl rfl
variable [Val]
def clones : List (Nat × Nat × Nat × PV) := [(41, 3, 32, .agg [vs ⟨#[]⟩, vu 0, vi 0]), (69, 4, 32, .agg [vs ⟨#[]⟩, vu 0, vb false, vb false])]
theorem clones_ok : CalleeOk Tryz.prog (cloneOv clones) := cloneOv_ok hm (l := clones) ⟨fi41, fi69, trivial⟩
abbrev fz : List Nat := [8, 9, 10, 15, 16, 19, 20, 23, 25]
def kA : List Known := [⟨27, [.agg [vi 10, vi 2, vi 4]], .tup [vi 7, vi 0]⟩]
theorem guard_ten : GuardIs 10 2 4 7 := ⟨by decide, fun x hx => (by decide : ∀ x : Nat, x < 7 → fI 10 2 4 x = false) x hx, fun x hx => f_mono (x := (7 : Nat)) (by decide) (by omega) (by decide) (by decide)⟩
theorem kA_ok : KnownOk Tryz.prog kA := ⟨hold27 (by decide) (by decide) (by decide) guard_ten (by decide), trivial⟩
theorem awake_run : runR (orOv (knownOv kA) (cloneOv clones)) fz tab 1000 50 12 [] = .ok (vb true) := by kernel_rfl
theorem awake_ok : VPure Tryz.prog 12 [] (vb true) := vpure_runR hm (orOv_ok (knownOv_ok kA_ok) clones_ok) fz tab_ok 1000 50 awake_run
def noK : List Known := []
noncomputable abbrev runK (l : List Known) := runR (orOv (knownOv l) (orOv (constOv 12 (vb true)) (cloneOv clones))) fz tab 1000 50
theorem ovK {l : List Known} (h : KnownOk Tryz.prog l) : CalleeOk Tryz.prog (orOv (knownOv l) (orOv (constOv 12 (vb true)) (cloneOv clones))) := orOv_ok (knownOv_ok h) (orOv_ok (constOv_ok awake_ok) clones_ok)
theorem isK {l : List Known} (hl : KnownOk Tryz.prog l) {F : Facts} (hF : F.holds) {f : Nat} {args : List PV} {r : PV} (h : (runK l f args).all (leafIs r) F = true) : VPure Tryz.prog f args r := vpure_isR hm (ovK hl) fz tab_ok 1000 50 hF h
theorem trueK {l : List Known} (hl : KnownOk Tryz.prog l) {F : Facts} (hF : F.holds) {f : Nat} {args : List PV} (h : (runK l f args).all leafTrue F = true) : VPure Tryz.prog f args (vb true) := vpure_trueR hm (ovK hl) fz tab_ok 1000 50 hF h
def noF : Facts := ⟨[], [], []⟩
theorem noF_ok : noF.holds := ⟨fun _ h => (by cases h), fun _ h => (by cases h), fun _ h => (by cases h)⟩

def zK : List Known := [⟨13, [tS], vi 0⟩]
def hK : List Known := [⟨13, [tS], .sy hS⟩, ⟨27, [tS], .tup [.sy hS, vi 0]⟩]

/-! ### A task that is held -/
def qS : PV := .agg [.sy (.i .i64 0), .sy (.i .i64 1), .sy (.i .i64 2), .sy (.i .u16 3), .sy (.i .u16 4), .sy (.i .u64 5)]
def lateS : SX := .bin .rem (.conv .i64 (.i .u16 4)) hS
def fromS : SX := .conv .i64 (.i .u16 3)
def nowS : SX := .bin .add fromS lateS
def endS : SX := .bin .add fromS hS
abbrev sa : PV := vs ⟨#[97]⟩
def mS : PV := .agg [vi 11, vi 1, vi 0, vu 0, vi 0, vu 0, vi 0, .sl true [], .sl true [], vu 0, vu 3, .sy fromS, sa, .sy (.i .u64 5), vb false]
def w3 : PV := .agg [vu 3, .sl true [], .sl true []]
def w4 : PV := .agg [vu 4, .sl true [], .sl true []]
def wT : PV := .agg [vu 3, .sl false [.agg [sa, .sy (.i .u64 5), .sy endS]], .sl false [.agg [sa, .sy (.i .u64 5), vb false, vb false]]]
def FH : Facts := ⟨[(1000, 1, 1000000), (3, 0, 65535), (4, 0, 65535), (5, 0, 18446744073709551615)], [⟨1, [⟨1, lateS, some (0, 65535)⟩, ⟨-1, hS, some (1, 1000000)⟩]⟩], []⟩
theorem FH_ok (h0 : 1 ≤ Val.i 1000 ∧ Val.i 1000 ≤ 1000000) (h3 : 0 ≤ Val.i 3 ∧ Val.i 3 ≤ 65535) (h4 : 0 ≤ Val.i 4 ∧ Val.i 4 ≤ 65535) (h5 : 0 ≤ Val.i 5 ∧ Val.i 5 ≤ 18446744073709551615) : FH.holds := by
  have e := Int.tmod_eq_emod_of_nonneg (b := Val.i 1000) h4.1
  have e1 := Int.emod_nonneg (Val.i 4) (show Val.i 1000 ≠ 0 by omega)
  have e2 := Int.emod_lt_of_pos (Val.i 4) (show 0 < Val.i 1000 by omega)
  have e3 : (Val.i 4).tmod (Val.i 1000) ≤ Val.i 4 := by
    have g := Int.emod_add_mul_ediv (Val.i 4) (Val.i 1000)
    have g2 := Int.mul_nonneg (show 0 ≤ Val.i 1000 by omega) (Int.ediv_nonneg h4.1 (show 0 ≤ Val.i 1000 by omega))
    omega
  have x : lateS.int = (Val.i 4).tmod (Val.i 1000) := by
    simp [lateS, SX.int, SX.eval, wrapI (show -9223372036854775808 ≤ Val.i 4 by omega) (show Val.i 4 ≤ 9223372036854775807 by omega), binW, arith, intV, show Val.i 1000 ≠ 0 by omega]
  refine ⟨fun r hr => ?_, fun r hr => ?_, fun _ h => (by cases h)⟩
  · simp only [FH, List.mem_cons, List.not_mem_nil, or_false] at hr
    obtain rfl | rfl | rfl | rfl := hr
    · exact h0
    · exact h3
    · exact h4
    · exact h5
  · simp only [FH, List.mem_cons, List.not_mem_nil, or_false] at hr
    subst hr
    have y : (SX.int hS) = Val.i 1000 := rfl
    refine ⟨fun t ht => ?_, ?_⟩
    · simp only [List.mem_cons, List.not_mem_nil, or_false] at ht
      obtain rfl | rfl := ht
      · simp only [Bd.has, x]; omega
      · simp only [Bd.has, y]; omega
    · simp only [LE.val, tmsVal, x, y]; omega
theorem take_run : (runK hK 10 [tS, w3, .sy nowS, mS]).all (leafIs (.tup [wT, vi 0])) FH = true := by kernel_rfl
theorem take2_run : (runK hK 10 [tS, w3, .sy endS, mS]).all (leafIs (.tup [w3, vi 8])) FH = true := by kernel_rfl
theorem take3_run : (runK hK 10 [tS, w4, .sy nowS, mS]).all (leafIs (.tup [w4, vi 8])) FH = true := by kernel_rfl
theorem runs1_run : (runK noK 19 [wT, .sy nowS]).all (leafIs (.sl false [sa])) FH = true := by kernel_rfl
theorem runs2_run : (runK noK 19 [wT, .sy (.bin .sub endS (.c (.int .i64 1)))]).all (leafIs (.sl false [sa])) FH = true := by kernel_rfl
theorem runs3_run : (runK noK 19 [wT, .sy endS]).all (leafIs (.sl true [])) FH = true := by kernel_rfl
theorem drop_run : (runK noK 16 [wT, .sy endS]).all (leafIs (.tup [.agg [vu 3, .sl false [], .sl false [.agg [sa, .sy (.i .u64 5), vb false, vb false]]], vi 0])) FH = true := by kernel_rfl
theorem end_run : (runK noK 15 [wT, .sy endS, sa, vb true]).all (leafIs (.tup [wT, vu 0, vi 6])) FH = true := by kernel_rfl
def hK6 : List Known := [⟨13, [tS], .sy hS⟩, ⟨27, [tS], .tup [.sy hS, vi 0]⟩, ⟨10, [tS, w3, .sy nowS, mS], .tup [wT, vi 0]⟩, ⟨10, [tS, w3, .sy endS, mS], .tup [w3, vi 8]⟩, ⟨10, [tS, w4, .sy nowS, mS], .tup [w4, vi 8]⟩,
  ⟨19, [wT, .sy nowS], .sl false [sa]⟩, ⟨19, [wT, .sy (.bin .sub endS (.c (.int .i64 1)))], .sl false [sa]⟩, ⟨19, [wT, .sy endS], .sl true []⟩,
  ⟨16, [wT, .sy endS], .tup [.agg [vu 3, .sl false [], .sl false [.agg [sa, .sy (.i .u64 5), vb false, vb false]]], vi 0]⟩, ⟨15, [wT, .sy endS, sa, vb true], .tup [wT, vu 0, vi 6]⟩]
theorem holds_run : (runK hK6 6 [qS]).all leafTrue FH = true := by kernel_rfl
theorem holds0_run : (runK zK 6 [qS]).all leafTrue noF = true := by kernel_rfl
theorem holds_sym (hV : VPure Tryz.prog 13 [tS] (vi 0) ∨ (VPure Tryz.prog 13 [tS] (.sy hS) ∧ VPure Tryz.prog 27 [tS] (.tup [.sy hS, vi 0]) ∧ 1 ≤ Val.i 1000 ∧ Val.i 1000 ≤ 1000000))
    (h3 : 0 ≤ Val.i 3 ∧ Val.i 3 ≤ 65535) (h4 : 0 ≤ Val.i 4 ∧ Val.i 4 ≤ 65535) (h5 : 0 ≤ Val.i 5 ∧ Val.i 5 ≤ 18446744073709551615) : VPure Tryz.prog 6 [qS] (vb true) := by
  obtain z | ⟨a, b, c, d⟩ := hV
  · exact trueK (l := zK) ⟨z, trivial⟩ noF_ok holds0_run
  · have hF := FH_ok ⟨c, d⟩ h3 h4 h5
    have hk : KnownOk Tryz.prog hK := ⟨a, b, trivial⟩
    exact trueK (l := hK6) ⟨a, b, isK hk hF take_run, isK hk hF take2_run, isK hk hF take3_run, isK (l := noK) trivial hF runs1_run, isK (l := noK) trivial hF runs2_run, isK (l := noK) trivial hF runs3_run, isK (l := noK) trivial hF drop_run, isK (l := noK) trivial hF end_run, trivial⟩ hF holds_run

/-! ### Greater tokens -/
def FT : Facts := ⟨[(1000, 1, 1000000), (3, 0, 255), (4, 0, 255)], [], []⟩
theorem FT_ok (h0 : 1 ≤ Val.i 1000 ∧ Val.i 1000 ≤ 1000000) (h3 : 0 ≤ Val.i 3 ∧ Val.i 3 ≤ 255) (h4 : 0 ≤ Val.i 4 ∧ Val.i 4 ≤ 255) : FT.holds := by
  refine ⟨fun r hr => ?_, fun _ h => (by cases h), fun _ h => (by cases h)⟩
  simp only [FT, List.mem_cons, List.not_mem_nil, or_false] at hr
  obtain rfl | rfl | rfl := hr
  · exact h0
  · exact h3
  · exact h4
def tkArgs : List PV := [tS, .sy (.i .u8 3), .sy (.i .u8 4)]
theorem tokens_run : (runK hK 4 tkArgs).all leafTrue FT = true := by kernel_rfl
theorem tokens0_run : (runK zK 4 tkArgs).all leafTrue noF = true := by kernel_rfl
theorem tokens_sym (hV : VPure Tryz.prog 13 [tS] (vi 0) ∨ (VPure Tryz.prog 13 [tS] (.sy hS) ∧ VPure Tryz.prog 27 [tS] (.tup [.sy hS, vi 0]) ∧ 1 ≤ Val.i 1000 ∧ Val.i 1000 ≤ 1000000))
    (h3 : 0 ≤ Val.i 3 ∧ Val.i 3 ≤ 255) (h4 : 0 ≤ Val.i 4 ∧ Val.i 4 ≤ 255) : VPure Tryz.prog 4 tkArgs (vb true) := by
  obtain z | ⟨a, b, c, d⟩ := hV
  · exact trueK (l := zK) ⟨z, trivial⟩ noF_ok tokens0_run
  · exact trueK (l := hK) ⟨a, b, trivial⟩ (FT_ok ⟨c, d⟩ h3 h4) tokens_run
end Go.Proofs.YthidhledenklhaaGreat.VL
