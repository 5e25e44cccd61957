/-
  No cell of these rows narrows 'for every input' (looked for: loops, veiled, ifaces, maps, wideKeys, modest, calm, conditions, laid).
  DERIVED. THE GIVEN ROWS OF THIS SEAT. 6 by the template 'for every input the law returns true; each argument reads behind the call as it read before'; 0 by the template 'total and deterministic' (their statements: YticljphbbdnomaaTotals.lean).
  GIVEN WITH THE SEED: the statements are not yours to turn. If you find one false, say at which input.
  Laid BY PROGRAM, IN A SANDBOX (cutbox-rows.mjs): the forced cells as the released guide's own fill.sh prints them over the translation cec740fc5c044776… (all of the seat's roots in one cut). By AI agents, Wed Nov 11 2026. No macro, syntax, notation, axiom, sorry.
-/
import Derived.Test.YticljphbbdnomaaChecked
import GoSem.Claim
import GoSem.ClaimJoined
import GoSem.ClaimMapViews
import Derived.JoinedTies
import Derived.KernelRfl
namespace Go.Proofs.Yticljphbbdnomaa
/- THE CELL 'sum', in the pinned program and in every row, IS THE sha256 OF THE DUMP (.gsa) THAT YticljphbbdnomaaProg.lean LOADS. Nothing in Lean hashes anything: it is a label: what it is worth is what the hold of that sum in a sandbox is worth. -/
noncomputable def Try.pinned : Pinned := { name := "yticljphbbdnomaa", sum := "cec740fc5c0447769c1026c1051b3888c0ea55eec6e45ea0f9105457ecc3f847", checked := Try.checked }
namespace Rows
def none {H : Type} : Left H := { results := [], args := [] }

/-- 'tattlelaw09.GraceFalls': WHATEVER THE INPUT: true; the input reads as it did. -/
def graceFallsSpec : ChangeSpec := { name := "graceFalls", fn := fun _ => fun
  | [d1, d2, d3] => { results := [.lit (.bool true)], args := [d1, d2, d3] }
  | _ => none }
def graceFallsRow : OpenClaim := { program := "yticljphbbdnomaa", sum := "cec740fc5c0447769c1026c1051b3888c0ea55eec6e45ea0f9105457ecc3f847", func := "tattle/tattlelaw09.GraceFalls", spec := "graceFalls", inPlace := ["slices.overlaps[int]"], unfollowed := true, recurses := true, apart := false }
def GraceFallsSaid : Prop := graceFallsRow.holds Try.pinned (OpenSpec.ofChange graceFallsSpec)

/-- ITS FALSE NEIGHBOUR: 'it returns false'. Refute it at one input. -/
def graceFallsWrong : ChangeSpec := { name := "graceFalls", fn := fun _ => fun
  | [d1, d2, d3] => { results := [.lit (.bool false)], args := [d1, d2, d3] }
  | _ => none }
def GraceFallsWrongFalsely : Prop := graceFallsRow.holds Try.pinned (OpenSpec.ofChange graceFallsWrong)

/-- 'tattlelaw09.GraceOne': WHATEVER THE INPUT: true; the input reads as it did. -/
def graceOneSpec : ChangeSpec := { name := "graceOne", fn := fun _ => fun
  | [d] => { results := [.lit (.bool true)], args := [d] }
  | _ => none }
def graceOneRow : OpenClaim := { program := "yticljphbbdnomaa", sum := "cec740fc5c0447769c1026c1051b3888c0ea55eec6e45ea0f9105457ecc3f847", func := "tattle/tattlelaw09.GraceOne", spec := "graceOne", inPlace := ["slices.overlaps[int]"], unfollowed := true, recurses := true, apart := false }
def GraceOneSaid : Prop := graceOneRow.holds Try.pinned (OpenSpec.ofChange graceOneSpec)

/-- ITS FALSE NEIGHBOUR: 'it returns false'. Refute it at one input. -/
def graceOneWrong : ChangeSpec := { name := "graceOne", fn := fun _ => fun
  | [d] => { results := [.lit (.bool false)], args := [d] }
  | _ => none }
def GraceOneWrongFalsely : Prop := graceOneRow.holds Try.pinned (OpenSpec.ofChange graceOneWrong)

/-- 'tattlelaw09.GraceConfirms': WHATEVER THE INPUT: true; the input reads as it did. -/
def graceConfirmsSpec : ChangeSpec := { name := "graceConfirms", fn := fun _ => fun
  | [d1, d2] => { results := [.lit (.bool true)], args := [d1, d2] }
  | _ => none }
def graceConfirmsRow : OpenClaim := { program := "yticljphbbdnomaa", sum := "cec740fc5c0447769c1026c1051b3888c0ea55eec6e45ea0f9105457ecc3f847", func := "tattle/tattlelaw09.GraceConfirms", spec := "graceConfirms", inPlace := ["slices.overlaps[int]"], unfollowed := true, recurses := true, apart := false }
def GraceConfirmsSaid : Prop := graceConfirmsRow.holds Try.pinned (OpenSpec.ofChange graceConfirmsSpec)

/-- ITS FALSE NEIGHBOUR: 'it returns false'. Refute it at one input. -/
def graceConfirmsWrong : ChangeSpec := { name := "graceConfirms", fn := fun _ => fun
  | [d1, d2] => { results := [.lit (.bool false)], args := [d1, d2] }
  | _ => none }
def GraceConfirmsWrongFalsely : Prop := graceConfirmsRow.holds Try.pinned (OpenSpec.ofChange graceConfirmsWrong)

/-- 'tattlelaw09.GraceSteps': WHATEVER THE INPUT: true; the input reads as it did. -/
def graceStepsSpec : ChangeSpec := { name := "graceSteps", fn := fun _ => fun
  | [d1, d2] => { results := [.lit (.bool true)], args := [d1, d2] }
  | _ => none }
def graceStepsRow : OpenClaim := { program := "yticljphbbdnomaa", sum := "cec740fc5c0447769c1026c1051b3888c0ea55eec6e45ea0f9105457ecc3f847", func := "tattle/tattlelaw09.GraceSteps", spec := "graceSteps", inPlace := ["slices.overlaps[int]"], unfollowed := true, recurses := true, apart := false }
def GraceStepsSaid : Prop := graceStepsRow.holds Try.pinned (OpenSpec.ofChange graceStepsSpec)

/-- ITS FALSE NEIGHBOUR: 'it returns false'. Refute it at one input. -/
def graceStepsWrong : ChangeSpec := { name := "graceSteps", fn := fun _ => fun
  | [d1, d2] => { results := [.lit (.bool false)], args := [d1, d2] }
  | _ => none }
def GraceStepsWrongFalsely : Prop := graceStepsRow.holds Try.pinned (OpenSpec.ofChange graceStepsWrong)

/-- 'tattlelaw09.GraceRipens': WHATEVER THE INPUT: true; the input reads as it did. -/
def graceRipensSpec : ChangeSpec := { name := "graceRipens", fn := fun _ => fun
  | [d1, d2] => { results := [.lit (.bool true)], args := [d1, d2] }
  | _ => none }
def graceRipensRow : OpenClaim := { program := "yticljphbbdnomaa", sum := "cec740fc5c0447769c1026c1051b3888c0ea55eec6e45ea0f9105457ecc3f847", func := "tattle/tattlelaw09.GraceRipens", spec := "graceRipens", inPlace := ["slices.overlaps[int]"], unfollowed := true, recurses := true, apart := false }
def GraceRipensSaid : Prop := graceRipensRow.holds Try.pinned (OpenSpec.ofChange graceRipensSpec)

/-- ITS FALSE NEIGHBOUR: 'it returns false'. Refute it at one input. -/
def graceRipensWrong : ChangeSpec := { name := "graceRipens", fn := fun _ => fun
  | [d1, d2] => { results := [.lit (.bool false)], args := [d1, d2] }
  | _ => none }
def GraceRipensWrongFalsely : Prop := graceRipensRow.holds Try.pinned (OpenSpec.ofChange graceRipensWrong)

/-- 'tattlelaw09.GraceTells': WHATEVER THE INPUT: true; the input reads as it did. -/
def graceTellsSpec : ChangeSpec := { name := "graceTells", fn := fun _ => fun
  | [d] => { results := [.lit (.bool true)], args := [d] }
  | _ => none }
def graceTellsRow : OpenClaim := { program := "yticljphbbdnomaa", sum := "cec740fc5c0447769c1026c1051b3888c0ea55eec6e45ea0f9105457ecc3f847", func := "tattle/tattlelaw09.GraceTells", spec := "graceTells", inPlace := ["slices.overlaps[int]"], unfollowed := true, recurses := true, apart := false }
def GraceTellsSaid : Prop := graceTellsRow.holds Try.pinned (OpenSpec.ofChange graceTellsSpec)

/-- ITS FALSE NEIGHBOUR: 'it returns false'. Refute it at one input. -/
def graceTellsWrong : ChangeSpec := { name := "graceTells", fn := fun _ => fun
  | [d] => { results := [.lit (.bool false)], args := [d] }
  | _ => none }
def GraceTellsWrongFalsely : Prop := graceTellsRow.holds Try.pinned (OpenSpec.ofChange graceTellsWrong)

/- THE SECOND FORM. 'bulk': how many values and letters a reading holds, each counted each time it is reached (what is shared counts as often as it is met; a slice's spare places count too). A statement '..UptoSaid' is the law's where the arguments, and the package variables that the reading takes, are together of bulk at most 1048576: NARROWER than '..Said'. Prove '..Said' where nothing that the law and all that it calls make is longer than what came in: it says more and counts as full. Else prove '..UptoSaid'. A law counts once. -/
mutual
def uptoBulk {H : Type} : DataW H → Nat
  | .lit (.string bytes) => bytes.length + 1
  | .lit _ => 1
  | .nil => 1
  | .ptr d => uptoBulk d + 1
  | .slice elems spare => uptoBulkAll elems + uptoBulkAll spare + 1
  | .agg parts => uptoBulkAll parts + 1
  | .iface _ d => uptoBulk d + 1
  | .map entries => uptoBulkEntries entries + 1
  | .held _ => 1
def uptoBulkAll {H : Type} : List (DataW H) → Nat
  | [] => 0
  | d :: r => uptoBulk d + uptoBulkAll r
def uptoBulkEntries {H : Type} : List (Lit × DataW H) → Nat
  | [] => 0
  | x :: r => uptoBulkEntry x + uptoBulkEntries r
def uptoBulkEntry {H : Type} : Lit × DataW H → Nat
  | (.string bytes, d) => bytes.length + uptoBulk d + 1
  | (_, d) => uptoBulk d + 1
 end
def uptoSmall : (H : Type) → List (DataW H) → Bool := fun _ ds => decide (uptoBulkAll ds ≤ 1048576)
def OpenSpec.upto (s : _root_.Go.ChangeSpec) : _root_.Go.OpenSpec := { _root_.Go.OpenSpec.ofChange s with cond := some uptoSmall }

/-- 'tattlelaw09.GraceFalls', WHERE WHAT IT READS IS OF BULK AT MOST 1048576: true; the input reads as it did. -/
def graceFallsUptoRow : OpenClaim := { program := "yticljphbbdnomaa", sum := "cec740fc5c0447769c1026c1051b3888c0ea55eec6e45ea0f9105457ecc3f847", func := "tattle/tattlelaw09.GraceFalls", spec := "graceFalls", inPlace := ["slices.overlaps[int]"], unfollowed := true, recurses := true, apart := false, narrowed := true }
def GraceFallsUptoSaid : Prop := graceFallsUptoRow.holds Try.pinned (OpenSpec.upto graceFallsSpec)

/-- 'tattlelaw09.GraceOne', WHERE WHAT IT READS IS OF BULK AT MOST 1048576: true; the input reads as it did. -/
def graceOneUptoRow : OpenClaim := { program := "yticljphbbdnomaa", sum := "cec740fc5c0447769c1026c1051b3888c0ea55eec6e45ea0f9105457ecc3f847", func := "tattle/tattlelaw09.GraceOne", spec := "graceOne", inPlace := ["slices.overlaps[int]"], unfollowed := true, recurses := true, apart := false, narrowed := true }
def GraceOneUptoSaid : Prop := graceOneUptoRow.holds Try.pinned (OpenSpec.upto graceOneSpec)

/-- 'tattlelaw09.GraceConfirms', WHERE WHAT IT READS IS OF BULK AT MOST 1048576: true; the input reads as it did. -/
def graceConfirmsUptoRow : OpenClaim := { program := "yticljphbbdnomaa", sum := "cec740fc5c0447769c1026c1051b3888c0ea55eec6e45ea0f9105457ecc3f847", func := "tattle/tattlelaw09.GraceConfirms", spec := "graceConfirms", inPlace := ["slices.overlaps[int]"], unfollowed := true, recurses := true, apart := false, narrowed := true }
def GraceConfirmsUptoSaid : Prop := graceConfirmsUptoRow.holds Try.pinned (OpenSpec.upto graceConfirmsSpec)

/-- 'tattlelaw09.GraceSteps', WHERE WHAT IT READS IS OF BULK AT MOST 1048576: true; the input reads as it did. -/
def graceStepsUptoRow : OpenClaim := { program := "yticljphbbdnomaa", sum := "cec740fc5c0447769c1026c1051b3888c0ea55eec6e45ea0f9105457ecc3f847", func := "tattle/tattlelaw09.GraceSteps", spec := "graceSteps", inPlace := ["slices.overlaps[int]"], unfollowed := true, recurses := true, apart := false, narrowed := true }
def GraceStepsUptoSaid : Prop := graceStepsUptoRow.holds Try.pinned (OpenSpec.upto graceStepsSpec)

/-- 'tattlelaw09.GraceRipens', WHERE WHAT IT READS IS OF BULK AT MOST 1048576: true; the input reads as it did. -/
def graceRipensUptoRow : OpenClaim := { program := "yticljphbbdnomaa", sum := "cec740fc5c0447769c1026c1051b3888c0ea55eec6e45ea0f9105457ecc3f847", func := "tattle/tattlelaw09.GraceRipens", spec := "graceRipens", inPlace := ["slices.overlaps[int]"], unfollowed := true, recurses := true, apart := false, narrowed := true }
def GraceRipensUptoSaid : Prop := graceRipensUptoRow.holds Try.pinned (OpenSpec.upto graceRipensSpec)

/-- 'tattlelaw09.GraceTells', WHERE WHAT IT READS IS OF BULK AT MOST 1048576: true; the input reads as it did. -/
def graceTellsUptoRow : OpenClaim := { program := "yticljphbbdnomaa", sum := "cec740fc5c0447769c1026c1051b3888c0ea55eec6e45ea0f9105457ecc3f847", func := "tattle/tattlelaw09.GraceTells", spec := "graceTells", inPlace := ["slices.overlaps[int]"], unfollowed := true, recurses := true, apart := false, narrowed := true }
def GraceTellsUptoSaid : Prop := graceTellsUptoRow.holds Try.pinned (OpenSpec.upto graceTellsSpec)

end Rows
end Go.Proofs.Yticljphbbdnomaa
