/-
  No cell of these rows narrows 'for every input' (looked for: loops, veiled, ifaces, maps, wideKeys, modest, calm, conditions, laid).
  DERIVED. THE GIVEN ROWS OF THIS SEAT. 5 by the template 'for every input the law returns true; each argument reads behind the call as it read before'; 0 by the template 'total and deterministic' (their statements: YthidhledenklhaaGreatTotals.lean).
  GIVEN WITH THE SEED: the statements are not yours to turn. If you find one false, say at which input.
  Laid BY PROGRAM, IN A SANDBOX (cutbox-rows.mjs): the forced cells as the released guide's own fill.sh prints them over the translation 05d9bdbba9a1fb8f… (all of the seat's roots in one cut). By AI agents, Wed Nov 11 2026. No macro, syntax, notation, axiom, sorry.
-/
import Derived.Test.YthidhledenklhaaGreatChecked
import GoSem.Claim
import GoSem.ClaimJoined
import GoSem.ClaimMapViews
import Derived.JoinedTies
import Derived.KernelRfl
namespace Go.Proofs.YthidhledenklhaaGreat
/- THE CELL 'sum', in the pinned program and in every row, IS THE sha256 OF THE DUMP (.gsa) THAT YthidhledenklhaaGreatProg.lean LOADS. Nothing in Lean hashes anything: it is a label: what it is worth is what the hold of that sum in a sandbox is worth. -/
noncomputable def Tryz.pinned : Pinned := { name := "ythidhledenklhaagreat", sum := "05d9bdbba9a1fb8fa611b8011923f1a4b69b74bc09cff047441be4495c424265", checked := Tryz.checked }
namespace Rows
def none {H : Type} : Left H := { results := [], args := [] }

/-- 'tattlelaw20.WorkTwice': WHATEVER THE INPUT: true; the input reads as it did. -/
def workTwiceSpec : ChangeSpec := { name := "workTwice", fn := fun _ => fun
  | [d1, d2] => { results := [.lit (.bool true)], args := [d1, d2] }
  | _ => none }
def workTwiceRow : OpenClaim := { program := "ythidhledenklhaagreat", sum := "05d9bdbba9a1fb8fa611b8011923f1a4b69b74bc09cff047441be4495c424265", func := "tattle/tattlelaw20.WorkTwice", spec := "workTwice", inPlace := ["slices.overlaps[tattle/api.Job]", "slices.overlaps[tattle/api.Known]"], unfollowed := true, recurses := true, apart := false }
def WorkTwiceSaid : Prop := workTwiceRow.holds Tryz.pinned (OpenSpec.ofChange workTwiceSpec)

/-- ITS FALSE NEIGHBOUR: 'it returns false'. Refute it at one input. -/
def workTwiceWrong : ChangeSpec := { name := "workTwice", fn := fun _ => fun
  | [d1, d2] => { results := [.lit (.bool false)], args := [d1, d2] }
  | _ => none }
def WorkTwiceWrongFalsely : Prop := workTwiceRow.holds Tryz.pinned (OpenSpec.ofChange workTwiceWrong)

/-- 'tattlelaw20.WorkTokens': WHATEVER THE INPUT: true; the input reads as it did. -/
def workTokensSpec : ChangeSpec := { name := "workTokens", fn := fun _ => fun
  | [d1, d2, d3] => { results := [.lit (.bool true)], args := [d1, d2, d3] }
  | _ => none }
def workTokensRow : OpenClaim := { program := "ythidhledenklhaagreat", sum := "05d9bdbba9a1fb8fa611b8011923f1a4b69b74bc09cff047441be4495c424265", func := "tattle/tattlelaw20.WorkTokens", spec := "workTokens", inPlace := ["slices.overlaps[tattle/api.Job]", "slices.overlaps[tattle/api.Known]"], unfollowed := true, recurses := true, apart := false }
def WorkTokensSaid : Prop := workTokensRow.holds Tryz.pinned (OpenSpec.ofChange workTokensSpec)

/-- ITS FALSE NEIGHBOUR: 'it returns false'. Refute it at one input. -/
def workTokensWrong : ChangeSpec := { name := "workTokens", fn := fun _ => fun
  | [d1, d2, d3] => { results := [.lit (.bool false)], args := [d1, d2, d3] }
  | _ => none }
def WorkTokensWrongFalsely : Prop := workTokensRow.holds Tryz.pinned (OpenSpec.ofChange workTokensWrong)

/-- 'tattlelaw20.WorkStays': WHATEVER THE INPUT: true; the input reads as it did. -/
def workStaysSpec : ChangeSpec := { name := "workStays", fn := fun _ => fun
  | [d1, d2] => { results := [.lit (.bool true)], args := [d1, d2] }
  | _ => none }
def workStaysRow : OpenClaim := { program := "ythidhledenklhaagreat", sum := "05d9bdbba9a1fb8fa611b8011923f1a4b69b74bc09cff047441be4495c424265", func := "tattle/tattlelaw20.WorkStays", spec := "workStays", inPlace := ["slices.overlaps[tattle/api.Job]", "slices.overlaps[tattle/api.Known]"], unfollowed := true, recurses := true, apart := false }
def WorkStaysSaid : Prop := workStaysRow.holds Tryz.pinned (OpenSpec.ofChange workStaysSpec)

/-- ITS FALSE NEIGHBOUR: 'it returns false'. Refute it at one input. -/
def workStaysWrong : ChangeSpec := { name := "workStays", fn := fun _ => fun
  | [d1, d2] => { results := [.lit (.bool false)], args := [d1, d2] }
  | _ => none }
def WorkStaysWrongFalsely : Prop := workStaysRow.holds Tryz.pinned (OpenSpec.ofChange workStaysWrong)

/-- 'tattlelaw20.WorkHolds': WHATEVER THE INPUT: true; the input reads as it did. -/
def workHoldsSpec : ChangeSpec := { name := "workHolds", fn := fun _ => fun
  | [d] => { results := [.lit (.bool true)], args := [d] }
  | _ => none }
def workHoldsRow : OpenClaim := { program := "ythidhledenklhaagreat", sum := "05d9bdbba9a1fb8fa611b8011923f1a4b69b74bc09cff047441be4495c424265", func := "tattle/tattlelaw20.WorkHolds", spec := "workHolds", inPlace := ["slices.overlaps[tattle/api.Job]", "slices.overlaps[tattle/api.Known]"], unfollowed := true, recurses := true, apart := false }
def WorkHoldsSaid : Prop := workHoldsRow.holds Tryz.pinned (OpenSpec.ofChange workHoldsSpec)

/-- ITS FALSE NEIGHBOUR: 'it returns false'. Refute it at one input. -/
def workHoldsWrong : ChangeSpec := { name := "workHolds", fn := fun _ => fun
  | [d] => { results := [.lit (.bool false)], args := [d] }
  | _ => none }
def WorkHoldsWrongFalsely : Prop := workHoldsRow.holds Tryz.pinned (OpenSpec.ofChange workHoldsWrong)

/-- 'tattlelaw20.WorkTells': WHATEVER THE INPUT: true; the input reads as it did. -/
def workTellsSpec : ChangeSpec := { name := "workTells", fn := fun _ => fun
  | [d] => { results := [.lit (.bool true)], args := [d] }
  | _ => none }
def workTellsRow : OpenClaim := { program := "ythidhledenklhaagreat", sum := "05d9bdbba9a1fb8fa611b8011923f1a4b69b74bc09cff047441be4495c424265", func := "tattle/tattlelaw20.WorkTells", spec := "workTells", inPlace := ["slices.overlaps[tattle/api.Job]", "slices.overlaps[tattle/api.Known]"], unfollowed := true, recurses := true, apart := false }
def WorkTellsSaid : Prop := workTellsRow.holds Tryz.pinned (OpenSpec.ofChange workTellsSpec)

/-- ITS FALSE NEIGHBOUR: 'it returns false'. Refute it at one input. -/
def workTellsWrong : ChangeSpec := { name := "workTells", fn := fun _ => fun
  | [d] => { results := [.lit (.bool false)], args := [d] }
  | _ => none }
def WorkTellsWrongFalsely : Prop := workTellsRow.holds Tryz.pinned (OpenSpec.ofChange workTellsWrong)

/- THE SECOND FORM. 'bulk': how many values and letters a reading holds, each counted each time it is reached (what is shared counts as often as it is met; a slice's spare places count too). A statement '..UptoSaid' is the law's where the arguments, and the package variables that the reading takes, are together of bulk at most 1048576: NARROWER than '..Said'. Prove '..Said' where nothing that the law and all that it calls make is longer than what came in: it says more and counts as full. Else prove '..UptoSaid'. A law counts once. -/
mutual
def uptoBulk {H : Type} : DataW H → Nat
  | .lit (.string bytes) => bytes.length + 1
  | .lit _ => 1
  | .nil => 1
  | .ptr d => uptoBulk d + 1
  | .slice elems spare => uptoBulkAll elems + uptoBulkAll spare + 1
  | .agg parts => uptoBulkAll parts + 1
  | .iface _ d => uptoBulk d + 1
  | .map entries => uptoBulkEntries entries + 1
  | .held _ => 1
def uptoBulkAll {H : Type} : List (DataW H) → Nat
  | [] => 0
  | d :: r => uptoBulk d + uptoBulkAll r
def uptoBulkEntries {H : Type} : List (Lit × DataW H) → Nat
  | [] => 0
  | x :: r => uptoBulkEntry x + uptoBulkEntries r
def uptoBulkEntry {H : Type} : Lit × DataW H → Nat
  | (.string bytes, d) => bytes.length + uptoBulk d + 1
  | (_, d) => uptoBulk d + 1
 end
def uptoSmall : (H : Type) → List (DataW H) → Bool := fun _ ds => decide (uptoBulkAll ds ≤ 1048576)
def OpenSpec.upto (s : _root_.Go.ChangeSpec) : _root_.Go.OpenSpec := { _root_.Go.OpenSpec.ofChange s with cond := some uptoSmall }

/-- 'tattlelaw20.WorkTwice', WHERE WHAT IT READS IS OF BULK AT MOST 1048576: true; the input reads as it did. -/
def workTwiceUptoRow : OpenClaim := { program := "ythidhledenklhaagreat", sum := "05d9bdbba9a1fb8fa611b8011923f1a4b69b74bc09cff047441be4495c424265", func := "tattle/tattlelaw20.WorkTwice", spec := "workTwice", inPlace := ["slices.overlaps[tattle/api.Job]", "slices.overlaps[tattle/api.Known]"], unfollowed := true, recurses := true, apart := false, narrowed := true }
def WorkTwiceUptoSaid : Prop := workTwiceUptoRow.holds Tryz.pinned (OpenSpec.upto workTwiceSpec)

/-- 'tattlelaw20.WorkTokens', WHERE WHAT IT READS IS OF BULK AT MOST 1048576: true; the input reads as it did. -/
def workTokensUptoRow : OpenClaim := { program := "ythidhledenklhaagreat", sum := "05d9bdbba9a1fb8fa611b8011923f1a4b69b74bc09cff047441be4495c424265", func := "tattle/tattlelaw20.WorkTokens", spec := "workTokens", inPlace := ["slices.overlaps[tattle/api.Job]", "slices.overlaps[tattle/api.Known]"], unfollowed := true, recurses := true, apart := false, narrowed := true }
def WorkTokensUptoSaid : Prop := workTokensUptoRow.holds Tryz.pinned (OpenSpec.upto workTokensSpec)

/-- 'tattlelaw20.WorkStays', WHERE WHAT IT READS IS OF BULK AT MOST 1048576: true; the input reads as it did. -/
def workStaysUptoRow : OpenClaim := { program := "ythidhledenklhaagreat", sum := "05d9bdbba9a1fb8fa611b8011923f1a4b69b74bc09cff047441be4495c424265", func := "tattle/tattlelaw20.WorkStays", spec := "workStays", inPlace := ["slices.overlaps[tattle/api.Job]", "slices.overlaps[tattle/api.Known]"], unfollowed := true, recurses := true, apart := false, narrowed := true }
def WorkStaysUptoSaid : Prop := workStaysUptoRow.holds Tryz.pinned (OpenSpec.upto workStaysSpec)

/-- 'tattlelaw20.WorkHolds', WHERE WHAT IT READS IS OF BULK AT MOST 1048576: true; the input reads as it did. -/
def workHoldsUptoRow : OpenClaim := { program := "ythidhledenklhaagreat", sum := "05d9bdbba9a1fb8fa611b8011923f1a4b69b74bc09cff047441be4495c424265", func := "tattle/tattlelaw20.WorkHolds", spec := "workHolds", inPlace := ["slices.overlaps[tattle/api.Job]", "slices.overlaps[tattle/api.Known]"], unfollowed := true, recurses := true, apart := false, narrowed := true }
def WorkHoldsUptoSaid : Prop := workHoldsUptoRow.holds Tryz.pinned (OpenSpec.upto workHoldsSpec)

/-- 'tattlelaw20.WorkTells', WHERE WHAT IT READS IS OF BULK AT MOST 1048576: true; the input reads as it did. -/
def workTellsUptoRow : OpenClaim := { program := "ythidhledenklhaagreat", sum := "05d9bdbba9a1fb8fa611b8011923f1a4b69b74bc09cff047441be4495c424265", func := "tattle/tattlelaw20.WorkTells", spec := "workTells", inPlace := ["slices.overlaps[tattle/api.Job]", "slices.overlaps[tattle/api.Known]"], unfollowed := true, recurses := true, apart := false, narrowed := true }
def WorkTellsUptoSaid : Prop := workTellsUptoRow.holds Tryz.pinned (OpenSpec.upto workTellsSpec)

end Rows
end Go.Proofs.YthidhledenklhaaGreat
