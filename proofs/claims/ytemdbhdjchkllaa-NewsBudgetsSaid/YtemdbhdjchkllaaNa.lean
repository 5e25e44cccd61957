/- News: the chapter's examples, carried out; how often news are told. -/
import Derived.Test.YtemdbhdjchkllaaTa
import Derived.Test.YtemdbhdjchkllaaVx
namespace Go.Proofs.Ytemdbhdjchkllaa.VL
open Go
set_option linter.unusedVariables false
set_option linter.unusedSimpArgs false
set_option maxRecDepth 100000
theorem hm : Try.prog.follows .mixedOrders = true := by kernel_rfl
def noOv : Callee := fun _ _ _ _ => none
theorem noOv_ok : CalleeOk Try.prog noOv := by
  intro f args h n r h' n' he
  cases he
abbrev run := runF noOv [10, 13] tab 1000 50
theorem awake_run : run 14 [] = some (vb true) := by kernel_rfl
theorem awake_ok : VPure Try.prog 14 [] (vb true) := vpure_run hm noOv_ok [10, 13] tab_ok 1000 50 awake_run
end Go.Proofs.Ytemdbhdjchkllaa.VL
