/-
  No cell of these rows narrows 'for every input' (looked for: loops, veiled, ifaces, maps, wideKeys, modest, calm, conditions, laid).
  DERIVED. THE GIVEN ROWS OF THIS SEAT. 7 by the template 'for every input the law returns true; each argument reads behind the call as it read before'; 0 by the template 'total and deterministic' (their statements: YtoblcfkmggbheaaTotals.lean).
  GIVEN WITH THE SEED: the statements are not yours to turn. If you find one false, say at which input.
  Laid BY PROGRAM, IN A SANDBOX (cutbox-rows.mjs): the forced cells as the released guide's own fill.sh prints them over the translation 568800b20bc36f11… (all of the seat's roots in one cut). By AI agents, Wed Nov 11 2026. No macro, syntax, notation, axiom, sorry.
-/
import Derived.Test.YtoblcfkmggbheaaChecked
import GoSem.Claim
import GoSem.ClaimJoined
import GoSem.ClaimMapViews
import Derived.JoinedTies
import Derived.KernelRfl
namespace Go.Proofs.Ytoblcfkmggbheaa
/- THE CELL 'sum', in the pinned program and in every row, IS THE sha256 OF THE DUMP (.gsa) THAT YtoblcfkmggbheaaProg.lean LOADS. Nothing in Lean hashes anything: it is a label: what it is worth is what the hold of that sum in a sandbox is worth. -/
noncomputable def Try.pinned : Pinned := { name := "ytoblcfkmggbheaa", sum := "568800b20bc36f119fefc127e06948a990f388d9c373e6fad6e561772ac00e04", checked := Try.checked }
namespace Rows
def none {H : Type} : Left H := { results := [], args := [] }

/-- 'tattlelaw19.TaskTokens': WHATEVER THE INPUT: true; the input reads as it did. -/
def taskTokensSpec : ChangeSpec := { name := "taskTokens", fn := fun _ => fun
  | [d] => { results := [.lit (.bool true)], args := [d] }
  | _ => none }
def taskTokensRow : OpenClaim := { program := "ytoblcfkmggbheaa", sum := "568800b20bc36f119fefc127e06948a990f388d9c373e6fad6e561772ac00e04", func := "tattle/tattlelaw19.TaskTokens", spec := "taskTokens", inPlace := ["slices.overlaps[tattle/api.Task]"], unfollowed := true, recurses := true, apart := false }
def TaskTokensSaid : Prop := taskTokensRow.holds Try.pinned (OpenSpec.ofChange taskTokensSpec)

/-- ITS FALSE NEIGHBOUR: 'it returns false'. Refute it at one input. -/
def taskTokensWrong : ChangeSpec := { name := "taskTokens", fn := fun _ => fun
  | [d] => { results := [.lit (.bool false)], args := [d] }
  | _ => none }
def TaskTokensWrongFalsely : Prop := taskTokensRow.holds Try.pinned (OpenSpec.ofChange taskTokensWrong)

/-- 'tattlelaw19.TaskWrites': WHATEVER THE INPUT: true; the input reads as it did. -/
def taskWritesSpec : ChangeSpec := { name := "taskWrites", fn := fun _ => fun
  | [d] => { results := [.lit (.bool true)], args := [d] }
  | _ => none }
def taskWritesRow : OpenClaim := { program := "ytoblcfkmggbheaa", sum := "568800b20bc36f119fefc127e06948a990f388d9c373e6fad6e561772ac00e04", func := "tattle/tattlelaw19.TaskWrites", spec := "taskWrites", inPlace := ["slices.overlaps[tattle/api.Task]"], unfollowed := true, recurses := true, apart := false }
def TaskWritesSaid : Prop := taskWritesRow.holds Try.pinned (OpenSpec.ofChange taskWritesSpec)

/-- ITS FALSE NEIGHBOUR: 'it returns false'. Refute it at one input. -/
def taskWritesWrong : ChangeSpec := { name := "taskWrites", fn := fun _ => fun
  | [d] => { results := [.lit (.bool false)], args := [d] }
  | _ => none }
def TaskWritesWrongFalsely : Prop := taskWritesRow.holds Try.pinned (OpenSpec.ofChange taskWritesWrong)

/-- 'tattlelaw19.TaskEpochs': WHATEVER THE INPUT: true; the input reads as it did. -/
def taskEpochsSpec : ChangeSpec := { name := "taskEpochs", fn := fun _ => fun
  | [d1, d2, d3] => { results := [.lit (.bool true)], args := [d1, d2, d3] }
  | _ => none }
def taskEpochsRow : OpenClaim := { program := "ytoblcfkmggbheaa", sum := "568800b20bc36f119fefc127e06948a990f388d9c373e6fad6e561772ac00e04", func := "tattle/tattlelaw19.TaskEpochs", spec := "taskEpochs", inPlace := ["slices.overlaps[tattle/api.Task]"], unfollowed := true, recurses := true, apart := false }
def TaskEpochsSaid : Prop := taskEpochsRow.holds Try.pinned (OpenSpec.ofChange taskEpochsSpec)

/-- ITS FALSE NEIGHBOUR: 'it returns false'. Refute it at one input. -/
def taskEpochsWrong : ChangeSpec := { name := "taskEpochs", fn := fun _ => fun
  | [d1, d2, d3] => { results := [.lit (.bool false)], args := [d1, d2, d3] }
  | _ => none }
def TaskEpochsWrongFalsely : Prop := taskEpochsRow.holds Try.pinned (OpenSpec.ofChange taskEpochsWrong)

/-- 'tattlelaw19.TaskGives': WHATEVER THE INPUT: true; the input reads as it did. -/
def taskGivesSpec : ChangeSpec := { name := "taskGives", fn := fun _ => fun
  | [d1, d2] => { results := [.lit (.bool true)], args := [d1, d2] }
  | _ => none }
def taskGivesRow : OpenClaim := { program := "ytoblcfkmggbheaa", sum := "568800b20bc36f119fefc127e06948a990f388d9c373e6fad6e561772ac00e04", func := "tattle/tattlelaw19.TaskGives", spec := "taskGives", inPlace := ["slices.overlaps[tattle/api.Task]"], unfollowed := true, recurses := true, apart := false }
def TaskGivesSaid : Prop := taskGivesRow.holds Try.pinned (OpenSpec.ofChange taskGivesSpec)

/-- ITS FALSE NEIGHBOUR: 'it returns false'. Refute it at one input. -/
def taskGivesWrong : ChangeSpec := { name := "taskGives", fn := fun _ => fun
  | [d1, d2] => { results := [.lit (.bool false)], args := [d1, d2] }
  | _ => none }
def TaskGivesWrongFalsely : Prop := taskGivesRow.holds Try.pinned (OpenSpec.ofChange taskGivesWrong)

/-- 'tattlelaw19.TaskFull': WHATEVER THE INPUT: true; the input reads as it did. -/
def taskFullSpec : ChangeSpec := { name := "taskFull", fn := fun _ => fun
  | [d1, d2] => { results := [.lit (.bool true)], args := [d1, d2] }
  | _ => none }
def taskFullRow : OpenClaim := { program := "ytoblcfkmggbheaa", sum := "568800b20bc36f119fefc127e06948a990f388d9c373e6fad6e561772ac00e04", func := "tattle/tattlelaw19.TaskFull", spec := "taskFull", inPlace := ["slices.overlaps[tattle/api.Task]"], unfollowed := true, recurses := true, apart := false }
def TaskFullSaid : Prop := taskFullRow.holds Try.pinned (OpenSpec.ofChange taskFullSpec)

/-- ITS FALSE NEIGHBOUR: 'it returns false'. Refute it at one input. -/
def taskFullWrong : ChangeSpec := { name := "taskFull", fn := fun _ => fun
  | [d1, d2] => { results := [.lit (.bool false)], args := [d1, d2] }
  | _ => none }
def TaskFullWrongFalsely : Prop := taskFullRow.holds Try.pinned (OpenSpec.ofChange taskFullWrong)

/-- 'tattlelaw19.TaskStays': WHATEVER THE INPUT: true; the input reads as it did. -/
def taskStaysSpec : ChangeSpec := { name := "taskStays", fn := fun _ => fun
  | [d1, d2] => { results := [.lit (.bool true)], args := [d1, d2] }
  | _ => none }
def taskStaysRow : OpenClaim := { program := "ytoblcfkmggbheaa", sum := "568800b20bc36f119fefc127e06948a990f388d9c373e6fad6e561772ac00e04", func := "tattle/tattlelaw19.TaskStays", spec := "taskStays", inPlace := ["slices.overlaps[tattle/api.Task]"], unfollowed := true, recurses := true, apart := false }
def TaskStaysSaid : Prop := taskStaysRow.holds Try.pinned (OpenSpec.ofChange taskStaysSpec)

/-- ITS FALSE NEIGHBOUR: 'it returns false'. Refute it at one input. -/
def taskStaysWrong : ChangeSpec := { name := "taskStays", fn := fun _ => fun
  | [d1, d2] => { results := [.lit (.bool false)], args := [d1, d2] }
  | _ => none }
def TaskStaysWrongFalsely : Prop := taskStaysRow.holds Try.pinned (OpenSpec.ofChange taskStaysWrong)

/-- 'tattlelaw19.TaskReads': WHATEVER THE INPUT: true; the input reads as it did. -/
def taskReadsSpec : ChangeSpec := { name := "taskReads", fn := fun _ => fun
  | [d1, d2] => { results := [.lit (.bool true)], args := [d1, d2] }
  | _ => none }
def taskReadsRow : OpenClaim := { program := "ytoblcfkmggbheaa", sum := "568800b20bc36f119fefc127e06948a990f388d9c373e6fad6e561772ac00e04", func := "tattle/tattlelaw19.TaskReads", spec := "taskReads", inPlace := ["slices.overlaps[tattle/api.Task]"], unfollowed := true, recurses := true, apart := false }
def TaskReadsSaid : Prop := taskReadsRow.holds Try.pinned (OpenSpec.ofChange taskReadsSpec)

/-- ITS FALSE NEIGHBOUR: 'it returns false'. Refute it at one input. -/
def taskReadsWrong : ChangeSpec := { name := "taskReads", fn := fun _ => fun
  | [d1, d2] => { results := [.lit (.bool false)], args := [d1, d2] }
  | _ => none }
def TaskReadsWrongFalsely : Prop := taskReadsRow.holds Try.pinned (OpenSpec.ofChange taskReadsWrong)

/- THE SECOND FORM. 'bulk': how many values and letters a reading holds, each counted each time it is reached (what is shared counts as often as it is met; a slice's spare places count too). A statement '..UptoSaid' is the law's where the arguments, and the package variables that the reading takes, are together of bulk at most 1048576: NARROWER than '..Said'. Prove '..Said' where nothing that the law and all that it calls make is longer than what came in: it says more and counts as full. Else prove '..UptoSaid'. A law counts once. -/
mutual
def uptoBulk {H : Type} : DataW H → Nat
  | .lit (.string bytes) => bytes.length + 1
  | .lit _ => 1
  | .nil => 1
  | .ptr d => uptoBulk d + 1
  | .slice elems spare => uptoBulkAll elems + uptoBulkAll spare + 1
  | .agg parts => uptoBulkAll parts + 1
  | .iface _ d => uptoBulk d + 1
  | .map entries => uptoBulkEntries entries + 1
  | .held _ => 1
def uptoBulkAll {H : Type} : List (DataW H) → Nat
  | [] => 0
  | d :: r => uptoBulk d + uptoBulkAll r
def uptoBulkEntries {H : Type} : List (Lit × DataW H) → Nat
  | [] => 0
  | x :: r => uptoBulkEntry x + uptoBulkEntries r
def uptoBulkEntry {H : Type} : Lit × DataW H → Nat
  | (.string bytes, d) => bytes.length + uptoBulk d + 1
  | (_, d) => uptoBulk d + 1
 end
def uptoSmall : (H : Type) → List (DataW H) → Bool := fun _ ds => decide (uptoBulkAll ds ≤ 1048576)
def OpenSpec.upto (s : _root_.Go.ChangeSpec) : _root_.Go.OpenSpec := { _root_.Go.OpenSpec.ofChange s with cond := some uptoSmall }

/-- 'tattlelaw19.TaskTokens', WHERE WHAT IT READS IS OF BULK AT MOST 1048576: true; the input reads as it did. -/
def taskTokensUptoRow : OpenClaim := { program := "ytoblcfkmggbheaa", sum := "568800b20bc36f119fefc127e06948a990f388d9c373e6fad6e561772ac00e04", func := "tattle/tattlelaw19.TaskTokens", spec := "taskTokens", inPlace := ["slices.overlaps[tattle/api.Task]"], unfollowed := true, recurses := true, apart := false, narrowed := true }
def TaskTokensUptoSaid : Prop := taskTokensUptoRow.holds Try.pinned (OpenSpec.upto taskTokensSpec)

/-- 'tattlelaw19.TaskWrites', WHERE WHAT IT READS IS OF BULK AT MOST 1048576: true; the input reads as it did. -/
def taskWritesUptoRow : OpenClaim := { program := "ytoblcfkmggbheaa", sum := "568800b20bc36f119fefc127e06948a990f388d9c373e6fad6e561772ac00e04", func := "tattle/tattlelaw19.TaskWrites", spec := "taskWrites", inPlace := ["slices.overlaps[tattle/api.Task]"], unfollowed := true, recurses := true, apart := false, narrowed := true }
def TaskWritesUptoSaid : Prop := taskWritesUptoRow.holds Try.pinned (OpenSpec.upto taskWritesSpec)

/-- 'tattlelaw19.TaskEpochs', WHERE WHAT IT READS IS OF BULK AT MOST 1048576: true; the input reads as it did. -/
def taskEpochsUptoRow : OpenClaim := { program := "ytoblcfkmggbheaa", sum := "568800b20bc36f119fefc127e06948a990f388d9c373e6fad6e561772ac00e04", func := "tattle/tattlelaw19.TaskEpochs", spec := "taskEpochs", inPlace := ["slices.overlaps[tattle/api.Task]"], unfollowed := true, recurses := true, apart := false, narrowed := true }
def TaskEpochsUptoSaid : Prop := taskEpochsUptoRow.holds Try.pinned (OpenSpec.upto taskEpochsSpec)

/-- 'tattlelaw19.TaskGives', WHERE WHAT IT READS IS OF BULK AT MOST 1048576: true; the input reads as it did. -/
def taskGivesUptoRow : OpenClaim := { program := "ytoblcfkmggbheaa", sum := "568800b20bc36f119fefc127e06948a990f388d9c373e6fad6e561772ac00e04", func := "tattle/tattlelaw19.TaskGives", spec := "taskGives", inPlace := ["slices.overlaps[tattle/api.Task]"], unfollowed := true, recurses := true, apart := false, narrowed := true }
def TaskGivesUptoSaid : Prop := taskGivesUptoRow.holds Try.pinned (OpenSpec.upto taskGivesSpec)

/-- 'tattlelaw19.TaskFull', WHERE WHAT IT READS IS OF BULK AT MOST 1048576: true; the input reads as it did. -/
def taskFullUptoRow : OpenClaim := { program := "ytoblcfkmggbheaa", sum := "568800b20bc36f119fefc127e06948a990f388d9c373e6fad6e561772ac00e04", func := "tattle/tattlelaw19.TaskFull", spec := "taskFull", inPlace := ["slices.overlaps[tattle/api.Task]"], unfollowed := true, recurses := true, apart := false, narrowed := true }
def TaskFullUptoSaid : Prop := taskFullUptoRow.holds Try.pinned (OpenSpec.upto taskFullSpec)

/-- 'tattlelaw19.TaskStays', WHERE WHAT IT READS IS OF BULK AT MOST 1048576: true; the input reads as it did. -/
def taskStaysUptoRow : OpenClaim := { program := "ytoblcfkmggbheaa", sum := "568800b20bc36f119fefc127e06948a990f388d9c373e6fad6e561772ac00e04", func := "tattle/tattlelaw19.TaskStays", spec := "taskStays", inPlace := ["slices.overlaps[tattle/api.Task]"], unfollowed := true, recurses := true, apart := false, narrowed := true }
def TaskStaysUptoSaid : Prop := taskStaysUptoRow.holds Try.pinned (OpenSpec.upto taskStaysSpec)

/-- 'tattlelaw19.TaskReads', WHERE WHAT IT READS IS OF BULK AT MOST 1048576: true; the input reads as it did. -/
def taskReadsUptoRow : OpenClaim := { program := "ytoblcfkmggbheaa", sum := "568800b20bc36f119fefc127e06948a990f388d9c373e6fad6e561772ac00e04", func := "tattle/tattlelaw19.TaskReads", spec := "taskReads", inPlace := ["slices.overlaps[tattle/api.Task]"], unfollowed := true, recurses := true, apart := false, narrowed := true }
def TaskReadsUptoSaid : Prop := taskReadsUptoRow.holds Try.pinned (OpenSpec.upto taskReadsSpec)

end Rows
end Go.Proofs.Ytoblcfkmggbheaa
