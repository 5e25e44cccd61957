/- Chapter 19: contracts of calls at certain books, whatever the caps are. -/
import Derived.Test.YtoblcfkmggbheaaTb
namespace Go.Proofs.Ytoblcfkmggbheaa.VL
open Go
set_option maxRecDepth 100000
set_option linter.unusedSectionVars false
variable [Val]
def cS : PV := .agg [.sy (.i .i64 0), .sy (.i .i64 1)]
/-- Caps that may be; and what is known of the other symbols. -/
def okF : Facts := ⟨[(0, 1, 100), (1, 1, 100), (2, 0, 255), (3, 0, 255), (4, 0, 255), (5, 0, 255), (6, 0, 255), (7, 0, 255), (8, 0, 255), (9, 0, 255)], [], []⟩
def noK : List Known := []
noncomputable abbrev runK (l : List Known) := runR (orOv (knownOv l) (orOv (constOv 14 (vb true)) (cloneOv clones))) fz tab 1000 50
theorem ovK {l : List Known} (h : KnownOk Try.prog l) : CalleeOk Try.prog (orOv (knownOv l) (orOv (constOv 14 (vb true)) (cloneOv clones))) := orOv_ok (knownOv_ok h) (orOv_ok (constOv_ok awake_ok) clones_ok)
theorem isK {l : List Known} (hl : KnownOk Try.prog l) {F : Facts} (hF : F.holds) {f : Nat} {args : List PV} {r : PV} (h : (runK l f args).all (leafIs r) F = true) : VPure Try.prog f args r := vpure_isR hm (ovK hl) fz tab_ok 1000 50 hF h
theorem trueK {l : List Known} (hl : KnownOk Try.prog l) {F : Facts} (hF : F.holds) {f : Nat} {args : List PV} (h : (runK l f args).all leafTrue F = true) : VPure Try.prog f args (vb true) := vpure_trueR hm (ovK hl) fz tab_ok 1000 50 hF h

def sa : PV := vs ⟨#[97]⟩
def b0 : PV := .agg [vu 0, vu 0, .sl true []]
def bx : PV := .agg [vu 9, vu 0, .sl false [.agg [sa, vi 0, vi 1, vu 0, vi 0, vi (-1), vu 0]]]
def bw : PV := .agg [vu 12, vu 1, .sl false [.agg [sa, vi 1, vi 1, vu 1, vi 1, vi 5, vu 2]]]
def bv : PV := .agg [vu 12, vu 1, .sl false [.agg [sa, vi 2, vi 1, vu 1, vi 1, vi (-1), vu 0]]]
theorem may_run : (runK noK 29 [cS]).all (leafIs (vi 0)) okF = true := by kernel_rfl
theorem caps_run : (runK noK 12 [cS]).all leafTrue okF = true := by kernel_rfl
theorem check0_run : (runK noK 26 [b0]).all (leafIs (vi 0)) okF = true := by kernel_rfl
theorem checkx_run : (runK noK 26 [bx]).all (leafIs (vi 0)) okF = true := by kernel_rfl
theorem checkw_run : (runK noK 26 [bw]).all (leafIs (vi 0)) okF = true := by kernel_rfl
def k1 : List Known := [⟨29, [cS], vi 0⟩, ⟨12, [cS], vb true⟩, ⟨26, [b0], vi 0⟩, ⟨26, [bx], vi 0⟩, ⟨26, [bw], vi 0⟩]
theorem k1_ok (hF : okF.holds) : KnownOk Try.prog k1 := ⟨isK (l := noK) trivial hF may_run, trueK (l := noK) trivial hF caps_run, isK (l := noK) trivial hF check0_run, isK (l := noK) trivial hF checkx_run, isK (l := noK) trivial hF checkw_run, trivial⟩
theorem submit_run : (runK k1 17 [cS, b0, vu 9, sa, vi 1]).all (leafIs (.tup [bx, vi 0])) okF = true := by kernel_rfl
theorem grant_run : (runK k1 20 [cS, bx, vu 12, sa, vi 5, vu 2]).all (leafIs (.tup [bw, vu 1, vi 0])) okF = true := by kernel_rfl
theorem rep11_run : (runK k1 13 [cS, bw, vu 11, sa, vu 1, vb true]).all (leafIs (.tup [bw, vi 8])) okF = true := by kernel_rfl
theorem rep12_run : (runK k1 13 [cS, bw, vu 12, sa, vu 1, vb true]).all (leafIs (.tup [bv, vi 0])) okF = true := by kernel_rfl
def actS (n s : Nat) : PV := .agg [.sy (.i .u8 n), .sy (.i .u8 (n + 1)), .sy (.s s), .sy (.i .u8 (n + 2)), .sy (.i .u8 (n + 3))]
theorem doA_run : (runK k1 24 [cS, bx, actS 2 0]).all (leafIs (.tup [bx, vi 8])) okF = true := by kernel_rfl
theorem doB_run : (runK k1 24 [cS, bx, actS 6 1]).all (leafIs (.tup [bx, vi 8])) okF = true := by kernel_rfl
theorem same_run : (runK k1 15 [bx, bx]).all leafTrue okF = true := by kernel_rfl
def k2 : List Known := [⟨12, [cS], vb true⟩, ⟨17, [cS, b0, vu 9, sa, vi 1], .tup [bx, vi 0]⟩, ⟨20, [cS, bx, vu 12, sa, vi 5, vu 2], .tup [bw, vu 1, vi 0]⟩, ⟨13, [cS, bw, vu 11, sa, vu 1, vb true], .tup [bw, vi 8]⟩, ⟨13, [cS, bw, vu 12, sa, vu 1, vb true], .tup [bv, vi 0]⟩,
  ⟨24, [cS, bx, actS 2 0], .tup [bx, vi 8]⟩, ⟨24, [cS, bx, actS 6 1], .tup [bx, vi 8]⟩, ⟨15, [bx, bx], vb true⟩]
theorem k2_ok (hF : okF.holds) : KnownOk Try.prog k2 := ⟨trueK (l := noK) trivial hF caps_run, isK (k1_ok hF) hF submit_run, isK (k1_ok hF) hF grant_run, isK (k1_ok hF) hF rep11_run, isK (k1_ok hF) hF rep12_run, isK (k1_ok hF) hF doA_run, isK (k1_ok hF) hF doB_run, trueK (k1_ok hF) hF same_run, trivial⟩
def epArgs : List PV := [cS, actS 2 0, actS 6 1]
theorem epochs_run : (runK k2 5 epArgs).all leafTrue okF = true := by kernel_rfl
/-- Caps that may not be. -/
def badF (n : Nat) (lo hi : Int) : Facts := ⟨[(n, lo, hi)], [], []⟩
theorem bad1_run : (runK noK 5 epArgs).all leafTrue (badF 0 (-9223372036854775808) 0) = true := by kernel_rfl
theorem bad2_run : (runK noK 5 epArgs).all leafTrue (badF 0 101 9223372036854775807) = true := by kernel_rfl
theorem bad3_run : (runK noK 5 epArgs).all leafTrue (badF 1 (-9223372036854775808) 0) = true := by kernel_rfl
theorem bad4_run : (runK noK 5 epArgs).all leafTrue (badF 1 101 9223372036854775807) = true := by kernel_rfl
theorem badF_ok {n : Nat} {lo hi : Int} (h : lo ≤ Val.i n ∧ Val.i n ≤ hi) : (badF n lo hi).holds := ⟨fun r hr => by simp [badF] at hr; subst hr; exact h, fun e he => by simp [badF] at he, fun x hx => by simp [badF] at hx⟩
theorem epochs_sym (h0 : -9223372036854775808 ≤ Val.i 0 ∧ Val.i 0 ≤ 9223372036854775807) (h1 : -9223372036854775808 ≤ Val.i 1 ∧ Val.i 1 ≤ 9223372036854775807) (hu : ∀ n, 2 ≤ n → n ≤ 9 → 0 ≤ Val.i n ∧ Val.i n ≤ 255) : VPure Try.prog 5 epArgs (vb true) := by
  by_cases c1 : Val.i 0 < 1
  · exact trueK (l := noK) trivial (badF_ok (n := 0) ⟨h0.1, by omega⟩) bad1_run
  by_cases c2 : 100 < Val.i 0
  · exact trueK (l := noK) trivial (badF_ok (n := 0) ⟨by omega, h0.2⟩) bad2_run
  by_cases c3 : Val.i 1 < 1
  · exact trueK (l := noK) trivial (badF_ok (n := 1) ⟨h1.1, by omega⟩) bad3_run
  by_cases c4 : 100 < Val.i 1
  · exact trueK (l := noK) trivial (badF_ok (n := 1) ⟨by omega, h1.2⟩) bad4_run
  have hF : okF.holds := by
    refine ⟨fun r hr => ?_, fun e he => by simp [okF] at he, fun x hx => by simp [okF] at hx⟩
    simp only [okF, List.mem_cons, List.not_mem_nil, or_false] at hr
    rcases hr with rfl | rfl | rfl | rfl | rfl | rfl | rfl | rfl | rfl | rfl
    · exact ⟨by simp only; omega, by simp only; omega⟩
    · exact ⟨by simp only; omega, by simp only; omega⟩
    · exact hu 2 (by omega) (by omega)
    · exact hu 3 (by omega) (by omega)
    · exact hu 4 (by omega) (by omega)
    · exact hu 5 (by omega) (by omega)
    · exact hu 6 (by omega) (by omega)
    · exact hu 7 (by omega) (by omega)
    · exact hu 8 (by omega) (by omega)
    · exact hu 9 (by omega) (by omega)
  exact trueK (k2_ok hF) hF epochs_run
end Go.Proofs.Ytoblcfkmggbheaa.VL
