/-
  No cell of these rows narrows 'for every input' (looked for: loops, veiled, ifaces, maps, wideKeys, modest, calm, conditions, laid).
  DERIVED. THE GIVEN ROWS OF THIS SEAT. 6 by the template 'for every input the law returns true; each argument reads behind the call as it read before'; 0 by the template 'total and deterministic' (their statements: YtgbcankkfmhcoaaTotals.lean).
  GIVEN WITH THE SEED: the statements are not yours to turn. If you find one false, say at which input.
  Laid BY PROGRAM, IN A SANDBOX (cutbox-rows.mjs): the forced cells as the released guide's own fill.sh prints them over the translation af132471752f0aff… (all of the seat's roots in one cut). By AI agents, Wed Nov 11 2026. No macro, syntax, notation, axiom, sorry.
-/
import Derived.Test.YtgbcankkfmhcoaaChecked
import GoSem.Claim
import GoSem.ClaimJoined
import GoSem.ClaimMapViews
import Derived.JoinedTies
import Derived.KernelRfl
namespace Go.Proofs.Ytgbcankkfmhcoaa
/- THE CELL 'sum', in the pinned program and in every row, IS THE sha256 OF THE DUMP (.gsa) THAT YtgbcankkfmhcoaaProg.lean LOADS. Nothing in Lean hashes anything: it is a label: what it is worth is what the hold of that sum in a sandbox is worth. -/
noncomputable def Try.pinned : Pinned := { name := "ytgbcankkfmhcoaa", sum := "af132471752f0aff164adc231a0cbb40b8343488f363713159107580011296fa", checked := Try.checked }
namespace Rows
def none {H : Type} : Left H := { results := [], args := [] }

/-- 'tattlelaw10.MsgWrites': WHATEVER THE INPUT: true; the input reads as it did. -/
def msgWritesSpec : ChangeSpec := { name := "msgWrites", fn := fun _ => fun
  | [d1, d2, d3] => { results := [.lit (.bool true)], args := [d1, d2, d3] }
  | _ => none }
def msgWritesRow : OpenClaim := { program := "ytgbcankkfmhcoaa", sum := "af132471752f0aff164adc231a0cbb40b8343488f363713159107580011296fa", func := "tattle/tattlelaw10.MsgWrites", spec := "msgWrites", unfollowed := true, recurses := true, apart := false }
def MsgWritesSaid : Prop := msgWritesRow.holds Try.pinned (OpenSpec.ofChange msgWritesSpec)

/-- ITS FALSE NEIGHBOUR: 'it returns false'. Refute it at one input. -/
def msgWritesWrong : ChangeSpec := { name := "msgWrites", fn := fun _ => fun
  | [d1, d2, d3] => { results := [.lit (.bool false)], args := [d1, d2, d3] }
  | _ => none }
def MsgWritesWrongFalsely : Prop := msgWritesRow.holds Try.pinned (OpenSpec.ofChange msgWritesWrong)

/-- 'tattlelaw10.MsgReads': WHATEVER THE INPUT: true; the input reads as it did. -/
def msgReadsSpec : ChangeSpec := { name := "msgReads", fn := fun _ => fun
  | [d] => { results := [.lit (.bool true)], args := [d] }
  | _ => none }
def msgReadsRow : OpenClaim := { program := "ytgbcankkfmhcoaa", sum := "af132471752f0aff164adc231a0cbb40b8343488f363713159107580011296fa", func := "tattle/tattlelaw10.MsgReads", spec := "msgReads", unfollowed := true, recurses := true, apart := false }
def MsgReadsSaid : Prop := msgReadsRow.holds Try.pinned (OpenSpec.ofChange msgReadsSpec)

/-- ITS FALSE NEIGHBOUR: 'it returns false'. Refute it at one input. -/
def msgReadsWrong : ChangeSpec := { name := "msgReads", fn := fun _ => fun
  | [d] => { results := [.lit (.bool false)], args := [d] }
  | _ => none }
def MsgReadsWrongFalsely : Prop := msgReadsRow.holds Try.pinned (OpenSpec.ofChange msgReadsWrong)

/-- 'tattlelaw10.MsgTurns': WHATEVER THE INPUT: true; the input reads as it did. -/
def msgTurnsSpec : ChangeSpec := { name := "msgTurns", fn := fun _ => fun
  | [d1, d2, d3] => { results := [.lit (.bool true)], args := [d1, d2, d3] }
  | _ => none }
def msgTurnsRow : OpenClaim := { program := "ytgbcankkfmhcoaa", sum := "af132471752f0aff164adc231a0cbb40b8343488f363713159107580011296fa", func := "tattle/tattlelaw10.MsgTurns", spec := "msgTurns", unfollowed := true, recurses := true, apart := false }
def MsgTurnsSaid : Prop := msgTurnsRow.holds Try.pinned (OpenSpec.ofChange msgTurnsSpec)

/-- ITS FALSE NEIGHBOUR: 'it returns false'. Refute it at one input. -/
def msgTurnsWrong : ChangeSpec := { name := "msgTurns", fn := fun _ => fun
  | [d1, d2, d3] => { results := [.lit (.bool false)], args := [d1, d2, d3] }
  | _ => none }
def MsgTurnsWrongFalsely : Prop := msgTurnsRow.holds Try.pinned (OpenSpec.ofChange msgTurnsWrong)

/-- 'tattlelaw10.MsgHeads': WHATEVER THE INPUT: true; the input reads as it did. -/
def msgHeadsSpec : ChangeSpec := { name := "msgHeads", fn := fun _ => fun
  | [d1, d2] => { results := [.lit (.bool true)], args := [d1, d2] }
  | _ => none }
def msgHeadsRow : OpenClaim := { program := "ytgbcankkfmhcoaa", sum := "af132471752f0aff164adc231a0cbb40b8343488f363713159107580011296fa", func := "tattle/tattlelaw10.MsgHeads", spec := "msgHeads", unfollowed := true, recurses := true, apart := false }
def MsgHeadsSaid : Prop := msgHeadsRow.holds Try.pinned (OpenSpec.ofChange msgHeadsSpec)

/-- ITS FALSE NEIGHBOUR: 'it returns false'. Refute it at one input. -/
def msgHeadsWrong : ChangeSpec := { name := "msgHeads", fn := fun _ => fun
  | [d1, d2] => { results := [.lit (.bool false)], args := [d1, d2] }
  | _ => none }
def MsgHeadsWrongFalsely : Prop := msgHeadsRow.holds Try.pinned (OpenSpec.ofChange msgHeadsWrong)

/-- 'tattlelaw10.MsgParts': WHATEVER THE INPUT: true; the input reads as it did. -/
def msgPartsSpec : ChangeSpec := { name := "msgParts", fn := fun _ => fun
  | [d1, d2] => { results := [.lit (.bool true)], args := [d1, d2] }
  | _ => none }
def msgPartsRow : OpenClaim := { program := "ytgbcankkfmhcoaa", sum := "af132471752f0aff164adc231a0cbb40b8343488f363713159107580011296fa", func := "tattle/tattlelaw10.MsgParts", spec := "msgParts", unfollowed := true, recurses := true, apart := false }
def MsgPartsSaid : Prop := msgPartsRow.holds Try.pinned (OpenSpec.ofChange msgPartsSpec)

/-- ITS FALSE NEIGHBOUR: 'it returns false'. Refute it at one input. -/
def msgPartsWrong : ChangeSpec := { name := "msgParts", fn := fun _ => fun
  | [d1, d2] => { results := [.lit (.bool false)], args := [d1, d2] }
  | _ => none }
def MsgPartsWrongFalsely : Prop := msgPartsRow.holds Try.pinned (OpenSpec.ofChange msgPartsWrong)

/-- 'tattlelaw10.MsgKinds': WHATEVER THE INPUT: true; the input reads as it did. -/
def msgKindsSpec : ChangeSpec := { name := "msgKinds", fn := fun _ => fun
  | [d1, d2, d3] => { results := [.lit (.bool true)], args := [d1, d2, d3] }
  | _ => none }
def msgKindsRow : OpenClaim := { program := "ytgbcankkfmhcoaa", sum := "af132471752f0aff164adc231a0cbb40b8343488f363713159107580011296fa", func := "tattle/tattlelaw10.MsgKinds", spec := "msgKinds", unfollowed := true, recurses := true, apart := false }
def MsgKindsSaid : Prop := msgKindsRow.holds Try.pinned (OpenSpec.ofChange msgKindsSpec)

/-- ITS FALSE NEIGHBOUR: 'it returns false'. Refute it at one input. -/
def msgKindsWrong : ChangeSpec := { name := "msgKinds", fn := fun _ => fun
  | [d1, d2, d3] => { results := [.lit (.bool false)], args := [d1, d2, d3] }
  | _ => none }
def MsgKindsWrongFalsely : Prop := msgKindsRow.holds Try.pinned (OpenSpec.ofChange msgKindsWrong)

/- THE SECOND FORM. 'bulk': how many values and letters a reading holds, each counted each time it is reached (what is shared counts as often as it is met; a slice's spare places count too). A statement '..UptoSaid' is the law's where the arguments, and the package variables that the reading takes, are together of bulk at most 1048576: NARROWER than '..Said'. Prove '..Said' where nothing that the law and all that it calls make is longer than what came in: it says more and counts as full. Else prove '..UptoSaid'. A law counts once. -/
mutual
def uptoBulk {H : Type} : DataW H → Nat
  | .lit (.string bytes) => bytes.length + 1
  | .lit _ => 1
  | .nil => 1
  | .ptr d => uptoBulk d + 1
  | .slice elems spare => uptoBulkAll elems + uptoBulkAll spare + 1
  | .agg parts => uptoBulkAll parts + 1
  | .iface _ d => uptoBulk d + 1
  | .map entries => uptoBulkEntries entries + 1
  | .held _ => 1
def uptoBulkAll {H : Type} : List (DataW H) → Nat
  | [] => 0
  | d :: r => uptoBulk d + uptoBulkAll r
def uptoBulkEntries {H : Type} : List (Lit × DataW H) → Nat
  | [] => 0
  | x :: r => uptoBulkEntry x + uptoBulkEntries r
def uptoBulkEntry {H : Type} : Lit × DataW H → Nat
  | (.string bytes, d) => bytes.length + uptoBulk d + 1
  | (_, d) => uptoBulk d + 1
 end
def uptoSmall : (H : Type) → List (DataW H) → Bool := fun _ ds => decide (uptoBulkAll ds ≤ 1048576)
def OpenSpec.upto (s : _root_.Go.ChangeSpec) : _root_.Go.OpenSpec := { _root_.Go.OpenSpec.ofChange s with cond := some uptoSmall }

/-- 'tattlelaw10.MsgWrites', WHERE WHAT IT READS IS OF BULK AT MOST 1048576: true; the input reads as it did. -/
def msgWritesUptoRow : OpenClaim := { program := "ytgbcankkfmhcoaa", sum := "af132471752f0aff164adc231a0cbb40b8343488f363713159107580011296fa", func := "tattle/tattlelaw10.MsgWrites", spec := "msgWrites", unfollowed := true, recurses := true, apart := false, narrowed := true }
def MsgWritesUptoSaid : Prop := msgWritesUptoRow.holds Try.pinned (OpenSpec.upto msgWritesSpec)

/-- 'tattlelaw10.MsgReads', WHERE WHAT IT READS IS OF BULK AT MOST 1048576: true; the input reads as it did. -/
def msgReadsUptoRow : OpenClaim := { program := "ytgbcankkfmhcoaa", sum := "af132471752f0aff164adc231a0cbb40b8343488f363713159107580011296fa", func := "tattle/tattlelaw10.MsgReads", spec := "msgReads", unfollowed := true, recurses := true, apart := false, narrowed := true }
def MsgReadsUptoSaid : Prop := msgReadsUptoRow.holds Try.pinned (OpenSpec.upto msgReadsSpec)

/-- 'tattlelaw10.MsgTurns', WHERE WHAT IT READS IS OF BULK AT MOST 1048576: true; the input reads as it did. -/
def msgTurnsUptoRow : OpenClaim := { program := "ytgbcankkfmhcoaa", sum := "af132471752f0aff164adc231a0cbb40b8343488f363713159107580011296fa", func := "tattle/tattlelaw10.MsgTurns", spec := "msgTurns", unfollowed := true, recurses := true, apart := false, narrowed := true }
def MsgTurnsUptoSaid : Prop := msgTurnsUptoRow.holds Try.pinned (OpenSpec.upto msgTurnsSpec)

/-- 'tattlelaw10.MsgHeads', WHERE WHAT IT READS IS OF BULK AT MOST 1048576: true; the input reads as it did. -/
def msgHeadsUptoRow : OpenClaim := { program := "ytgbcankkfmhcoaa", sum := "af132471752f0aff164adc231a0cbb40b8343488f363713159107580011296fa", func := "tattle/tattlelaw10.MsgHeads", spec := "msgHeads", unfollowed := true, recurses := true, apart := false, narrowed := true }
def MsgHeadsUptoSaid : Prop := msgHeadsUptoRow.holds Try.pinned (OpenSpec.upto msgHeadsSpec)

/-- 'tattlelaw10.MsgParts', WHERE WHAT IT READS IS OF BULK AT MOST 1048576: true; the input reads as it did. -/
def msgPartsUptoRow : OpenClaim := { program := "ytgbcankkfmhcoaa", sum := "af132471752f0aff164adc231a0cbb40b8343488f363713159107580011296fa", func := "tattle/tattlelaw10.MsgParts", spec := "msgParts", unfollowed := true, recurses := true, apart := false, narrowed := true }
def MsgPartsUptoSaid : Prop := msgPartsUptoRow.holds Try.pinned (OpenSpec.upto msgPartsSpec)

/-- 'tattlelaw10.MsgKinds', WHERE WHAT IT READS IS OF BULK AT MOST 1048576: true; the input reads as it did. -/
def msgKindsUptoRow : OpenClaim := { program := "ytgbcankkfmhcoaa", sum := "af132471752f0aff164adc231a0cbb40b8343488f363713159107580011296fa", func := "tattle/tattlelaw10.MsgKinds", spec := "msgKinds", unfollowed := true, recurses := true, apart := false, narrowed := true }
def MsgKindsUptoSaid : Prop := msgKindsUptoRow.holds Try.pinned (OpenSpec.upto msgKindsSpec)

end Rows
end Go.Proofs.Ytgbcankkfmhcoaa
