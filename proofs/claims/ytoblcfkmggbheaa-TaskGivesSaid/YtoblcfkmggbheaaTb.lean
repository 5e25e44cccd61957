/- The chapter's examples, carried out. -/
import Derived.Test.YtoblcfkmggbheaaTa
import Derived.Test.YtoblcfkmggbheaaWc
import Derived.KernelRfl
namespace Go.Proofs.Ytoblcfkmggbheaa.VL
open Go
set_option maxRecDepth 100000
set_option linter.unusedSectionVars false
variable [Val]
theorem hm : Try.prog.follows .mixedOrders = true := by kernel_rfl
def zTask : PV := .agg [vs ⟨#[]⟩, vi 0, vi 0, vu 0, vi 0, vi 0, vu 0]
def clones : List (Nat × Nat × Nat × PV) := [(65, 7, 64, zTask)]
theorem clones_ok : CalleeOk Try.prog (cloneOv clones) := cloneOv_ok hm (l := clones) ⟨fi65, trivial⟩
abbrev fz : List Nat := [10, 11, 13, 16, 17, 18, 19, 20, 21, 22, 23, 24, 25, 27, 33, 35, 52]
noncomputable abbrev run0 := runR (cloneOv clones) fz tab 1000 50
theorem awake_run : run0 14 [] = .ok (vb true) := by kernel_rfl
theorem awake_ok : VPure Try.prog 14 [] (vb true) := vpure_runR hm clones_ok fz tab_ok 1000 50 awake_run
end Go.Proofs.Ytoblcfkmggbheaa.VL
