/-
  No cell of these rows narrows 'for every input' (looked for: loops, veiled, ifaces, maps, wideKeys, modest, calm, conditions, laid).
  DERIVED. THE GIVEN ROWS OF THIS SEAT. 6 by the template 'for every input the law returns true; each argument reads behind the call as it read before'; 0 by the template 'total and deterministic' (their statements: YtemdbhdjchkllaaTotals.lean).
  GIVEN WITH THE SEED: the statements are not yours to turn. If you find one false, say at which input.
  Laid BY PROGRAM, IN A SANDBOX (cutbox-rows.mjs): the forced cells as the released guide's own fill.sh prints them over the translation da16558c25fa2b44… (all of the seat's roots in one cut). By AI agents, Wed Nov 11 2026. No macro, syntax, notation, axiom, sorry.
-/
import Derived.Test.YtemdbhdjchkllaaChecked
import GoSem.Claim
import GoSem.ClaimJoined
import GoSem.ClaimMapViews
import Derived.JoinedTies
import Derived.KernelRfl
namespace Go.Proofs.Ytemdbhdjchkllaa
/- THE CELL 'sum', in the pinned program and in every row, IS THE sha256 OF THE DUMP (.gsa) THAT YtemdbhdjchkllaaProg.lean LOADS. Nothing in Lean hashes anything: it is a label: what it is worth is what the hold of that sum in a sandbox is worth. -/
noncomputable def Try.pinned : Pinned := { name := "ytemdbhdjchkllaa", sum := "da16558c25fa2b442266b74f4bc66a8fc48e36b387dad9b049079d674c4d4130", checked := Try.checked }
namespace Rows
def none {H : Type} : Left H := { results := [], args := [] }

/-- 'tattlelaw07.NewsOnce': WHATEVER THE INPUT: true; the input reads as it did. -/
def newsOnceSpec : ChangeSpec := { name := "newsOnce", fn := fun _ => fun
  | [d1, d2] => { results := [.lit (.bool true)], args := [d1, d2] }
  | _ => none }
def newsOnceRow : OpenClaim := { program := "ytemdbhdjchkllaa", sum := "da16558c25fa2b442266b74f4bc66a8fc48e36b387dad9b049079d674c4d4130", func := "tattle/tattlelaw07.NewsOnce", spec := "newsOnce", inPlace := ["slices.overlaps[tattle/api.Told]"], unfollowed := true, recurses := true, apart := false }
def NewsOnceSaid : Prop := newsOnceRow.holds Try.pinned (OpenSpec.ofChange newsOnceSpec)

/-- ITS FALSE NEIGHBOUR: 'it returns false'. Refute it at one input. -/
def newsOnceWrong : ChangeSpec := { name := "newsOnce", fn := fun _ => fun
  | [d1, d2] => { results := [.lit (.bool false)], args := [d1, d2] }
  | _ => none }
def NewsOnceWrongFalsely : Prop := newsOnceRow.holds Try.pinned (OpenSpec.ofChange newsOnceWrong)

/-- 'tattlelaw07.NewsOften': WHATEVER THE INPUT: true; the input reads as it did. -/
def newsOftenSpec : ChangeSpec := { name := "newsOften", fn := fun _ => fun
  | [d1, d2, d3] => { results := [.lit (.bool true)], args := [d1, d2, d3] }
  | _ => none }
def newsOftenRow : OpenClaim := { program := "ytemdbhdjchkllaa", sum := "da16558c25fa2b442266b74f4bc66a8fc48e36b387dad9b049079d674c4d4130", func := "tattle/tattlelaw07.NewsOften", spec := "newsOften", inPlace := ["slices.overlaps[tattle/api.Told]"], unfollowed := true, recurses := true, apart := false }
def NewsOftenSaid : Prop := newsOftenRow.holds Try.pinned (OpenSpec.ofChange newsOftenSpec)

/-- ITS FALSE NEIGHBOUR: 'it returns false'. Refute it at one input. -/
def newsOftenWrong : ChangeSpec := { name := "newsOften", fn := fun _ => fun
  | [d1, d2, d3] => { results := [.lit (.bool false)], args := [d1, d2, d3] }
  | _ => none }
def NewsOftenWrongFalsely : Prop := newsOftenRow.holds Try.pinned (OpenSpec.ofChange newsOftenWrong)

/-- 'tattlelaw07.NewsFair': WHATEVER THE INPUT: true; the input reads as it did. -/
def newsFairSpec : ChangeSpec := { name := "newsFair", fn := fun _ => fun
  | [d1, d2] => { results := [.lit (.bool true)], args := [d1, d2] }
  | _ => none }
def newsFairRow : OpenClaim := { program := "ytemdbhdjchkllaa", sum := "da16558c25fa2b442266b74f4bc66a8fc48e36b387dad9b049079d674c4d4130", func := "tattle/tattlelaw07.NewsFair", spec := "newsFair", inPlace := ["slices.overlaps[tattle/api.Told]"], unfollowed := true, recurses := true, apart := false }
def NewsFairSaid : Prop := newsFairRow.holds Try.pinned (OpenSpec.ofChange newsFairSpec)

/-- ITS FALSE NEIGHBOUR: 'it returns false'. Refute it at one input. -/
def newsFairWrong : ChangeSpec := { name := "newsFair", fn := fun _ => fun
  | [d1, d2] => { results := [.lit (.bool false)], args := [d1, d2] }
  | _ => none }
def NewsFairWrongFalsely : Prop := newsFairRow.holds Try.pinned (OpenSpec.ofChange newsFairWrong)

/-- 'tattlelaw07.NewsBeats': WHATEVER THE INPUT: true; the input reads as it did. -/
def newsBeatsSpec : ChangeSpec := { name := "newsBeats", fn := fun _ => fun
  | [d] => { results := [.lit (.bool true)], args := [d] }
  | _ => none }
def newsBeatsRow : OpenClaim := { program := "ytemdbhdjchkllaa", sum := "da16558c25fa2b442266b74f4bc66a8fc48e36b387dad9b049079d674c4d4130", func := "tattle/tattlelaw07.NewsBeats", spec := "newsBeats", inPlace := ["slices.overlaps[tattle/api.Told]"], unfollowed := true, recurses := true, apart := false }
def NewsBeatsSaid : Prop := newsBeatsRow.holds Try.pinned (OpenSpec.ofChange newsBeatsSpec)

/-- ITS FALSE NEIGHBOUR: 'it returns false'. Refute it at one input. -/
def newsBeatsWrong : ChangeSpec := { name := "newsBeats", fn := fun _ => fun
  | [d] => { results := [.lit (.bool false)], args := [d] }
  | _ => none }
def NewsBeatsWrongFalsely : Prop := newsBeatsRow.holds Try.pinned (OpenSpec.ofChange newsBeatsWrong)

/-- 'tattlelaw07.NewsBudgets': WHATEVER THE INPUT: true; the input reads as it did. -/
def newsBudgetsSpec : ChangeSpec := { name := "newsBudgets", fn := fun _ => fun
  | [d1, d2] => { results := [.lit (.bool true)], args := [d1, d2] }
  | _ => none }
def newsBudgetsRow : OpenClaim := { program := "ytemdbhdjchkllaa", sum := "da16558c25fa2b442266b74f4bc66a8fc48e36b387dad9b049079d674c4d4130", func := "tattle/tattlelaw07.NewsBudgets", spec := "newsBudgets", inPlace := ["slices.overlaps[tattle/api.Told]"], unfollowed := true, recurses := true, apart := false }
def NewsBudgetsSaid : Prop := newsBudgetsRow.holds Try.pinned (OpenSpec.ofChange newsBudgetsSpec)

/-- ITS FALSE NEIGHBOUR: 'it returns false'. Refute it at one input. -/
def newsBudgetsWrong : ChangeSpec := { name := "newsBudgets", fn := fun _ => fun
  | [d1, d2] => { results := [.lit (.bool false)], args := [d1, d2] }
  | _ => none }
def NewsBudgetsWrongFalsely : Prop := newsBudgetsRow.holds Try.pinned (OpenSpec.ofChange newsBudgetsWrong)

/-- 'tattlelaw07.NewsTells': WHATEVER THE INPUT: true; the input reads as it did. -/
def newsTellsSpec : ChangeSpec := { name := "newsTells", fn := fun _ => fun
  | [d] => { results := [.lit (.bool true)], args := [d] }
  | _ => none }
def newsTellsRow : OpenClaim := { program := "ytemdbhdjchkllaa", sum := "da16558c25fa2b442266b74f4bc66a8fc48e36b387dad9b049079d674c4d4130", func := "tattle/tattlelaw07.NewsTells", spec := "newsTells", inPlace := ["slices.overlaps[tattle/api.Told]"], unfollowed := true, recurses := true, apart := false }
def NewsTellsSaid : Prop := newsTellsRow.holds Try.pinned (OpenSpec.ofChange newsTellsSpec)

/-- ITS FALSE NEIGHBOUR: 'it returns false'. Refute it at one input. -/
def newsTellsWrong : ChangeSpec := { name := "newsTells", fn := fun _ => fun
  | [d] => { results := [.lit (.bool false)], args := [d] }
  | _ => none }
def NewsTellsWrongFalsely : Prop := newsTellsRow.holds Try.pinned (OpenSpec.ofChange newsTellsWrong)

/- THE SECOND FORM. 'bulk': how many values and letters a reading holds, each counted each time it is reached (what is shared counts as often as it is met; a slice's spare places count too). A statement '..UptoSaid' is the law's where the arguments, and the package variables that the reading takes, are together of bulk at most 1048576: NARROWER than '..Said'. Prove '..Said' where nothing that the law and all that it calls make is longer than what came in: it says more and counts as full. Else prove '..UptoSaid'. A law counts once. -/
mutual
def uptoBulk {H : Type} : DataW H → Nat
  | .lit (.string bytes) => bytes.length + 1
  | .lit _ => 1
  | .nil => 1
  | .ptr d => uptoBulk d + 1
  | .slice elems spare => uptoBulkAll elems + uptoBulkAll spare + 1
  | .agg parts => uptoBulkAll parts + 1
  | .iface _ d => uptoBulk d + 1
  | .map entries => uptoBulkEntries entries + 1
  | .held _ => 1
def uptoBulkAll {H : Type} : List (DataW H) → Nat
  | [] => 0
  | d :: r => uptoBulk d + uptoBulkAll r
def uptoBulkEntries {H : Type} : List (Lit × DataW H) → Nat
  | [] => 0
  | x :: r => uptoBulkEntry x + uptoBulkEntries r
def uptoBulkEntry {H : Type} : Lit × DataW H → Nat
  | (.string bytes, d) => bytes.length + uptoBulk d + 1
  | (_, d) => uptoBulk d + 1
 end
def uptoSmall : (H : Type) → List (DataW H) → Bool := fun _ ds => decide (uptoBulkAll ds ≤ 1048576)
def OpenSpec.upto (s : _root_.Go.ChangeSpec) : _root_.Go.OpenSpec := { _root_.Go.OpenSpec.ofChange s with cond := some uptoSmall }

/-- 'tattlelaw07.NewsOnce', WHERE WHAT IT READS IS OF BULK AT MOST 1048576: true; the input reads as it did. -/
def newsOnceUptoRow : OpenClaim := { program := "ytemdbhdjchkllaa", sum := "da16558c25fa2b442266b74f4bc66a8fc48e36b387dad9b049079d674c4d4130", func := "tattle/tattlelaw07.NewsOnce", spec := "newsOnce", inPlace := ["slices.overlaps[tattle/api.Told]"], unfollowed := true, recurses := true, apart := false, narrowed := true }
def NewsOnceUptoSaid : Prop := newsOnceUptoRow.holds Try.pinned (OpenSpec.upto newsOnceSpec)

/-- 'tattlelaw07.NewsOften', WHERE WHAT IT READS IS OF BULK AT MOST 1048576: true; the input reads as it did. -/
def newsOftenUptoRow : OpenClaim := { program := "ytemdbhdjchkllaa", sum := "da16558c25fa2b442266b74f4bc66a8fc48e36b387dad9b049079d674c4d4130", func := "tattle/tattlelaw07.NewsOften", spec := "newsOften", inPlace := ["slices.overlaps[tattle/api.Told]"], unfollowed := true, recurses := true, apart := false, narrowed := true }
def NewsOftenUptoSaid : Prop := newsOftenUptoRow.holds Try.pinned (OpenSpec.upto newsOftenSpec)

/-- 'tattlelaw07.NewsFair', WHERE WHAT IT READS IS OF BULK AT MOST 1048576: true; the input reads as it did. -/
def newsFairUptoRow : OpenClaim := { program := "ytemdbhdjchkllaa", sum := "da16558c25fa2b442266b74f4bc66a8fc48e36b387dad9b049079d674c4d4130", func := "tattle/tattlelaw07.NewsFair", spec := "newsFair", inPlace := ["slices.overlaps[tattle/api.Told]"], unfollowed := true, recurses := true, apart := false, narrowed := true }
def NewsFairUptoSaid : Prop := newsFairUptoRow.holds Try.pinned (OpenSpec.upto newsFairSpec)

/-- 'tattlelaw07.NewsBeats', WHERE WHAT IT READS IS OF BULK AT MOST 1048576: true; the input reads as it did. -/
def newsBeatsUptoRow : OpenClaim := { program := "ytemdbhdjchkllaa", sum := "da16558c25fa2b442266b74f4bc66a8fc48e36b387dad9b049079d674c4d4130", func := "tattle/tattlelaw07.NewsBeats", spec := "newsBeats", inPlace := ["slices.overlaps[tattle/api.Told]"], unfollowed := true, recurses := true, apart := false, narrowed := true }
def NewsBeatsUptoSaid : Prop := newsBeatsUptoRow.holds Try.pinned (OpenSpec.upto newsBeatsSpec)

/-- 'tattlelaw07.NewsBudgets', WHERE WHAT IT READS IS OF BULK AT MOST 1048576: true; the input reads as it did. -/
def newsBudgetsUptoRow : OpenClaim := { program := "ytemdbhdjchkllaa", sum := "da16558c25fa2b442266b74f4bc66a8fc48e36b387dad9b049079d674c4d4130", func := "tattle/tattlelaw07.NewsBudgets", spec := "newsBudgets", inPlace := ["slices.overlaps[tattle/api.Told]"], unfollowed := true, recurses := true, apart := false, narrowed := true }
def NewsBudgetsUptoSaid : Prop := newsBudgetsUptoRow.holds Try.pinned (OpenSpec.upto newsBudgetsSpec)

/-- 'tattlelaw07.NewsTells', WHERE WHAT IT READS IS OF BULK AT MOST 1048576: true; the input reads as it did. -/
def newsTellsUptoRow : OpenClaim := { program := "ytemdbhdjchkllaa", sum := "da16558c25fa2b442266b74f4bc66a8fc48e36b387dad9b049079d674c4d4130", func := "tattle/tattlelaw07.NewsTells", spec := "newsTells", inPlace := ["slices.overlaps[tattle/api.Told]"], unfollowed := true, recurses := true, apart := false, narrowed := true }
def NewsTellsUptoSaid : Prop := newsTellsUptoRow.holds Try.pinned (OpenSpec.upto newsTellsSpec)

end Rows
end Go.Proofs.Ytemdbhdjchkllaa
