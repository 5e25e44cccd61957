/- The chapter's examples, carried out. -/
import Derived.Test.YticljphbbdnomaaTa
import Derived.Test.YticljphbbdnomaaGa
import Derived.Test.YticljphbbdnomaaVx
namespace Go.Proofs.Yticljphbbdnomaa.VL
open Go
set_option maxRecDepth 100000
def clones : List (Nat × Nat × Nat × PV) := [(46, 4, 48, .agg [vi 0, vu 0, vi 0, .sl true []]), (47, 1, 8, vi 0)]
theorem clones_ok : CalleeOk Try.prog (cloneOv clones) := cloneOv_ok hm (l := clones) ⟨fi46, fi47, trivial⟩
abbrev run := runF (cloneOv clones) [12, 13] tab 1000 50
theorem awake_run : run 11 [] = some (vb true) := by kernel_rfl
theorem awake_ok : VPure Try.prog 11 [] (vb true) := vpure_run hm clones_ok [12, 13] tab_ok 1000 50 awake_run
end Go.Proofs.Yticljphbbdnomaa.VL
