/-
  No cell of these rows narrows 'for every input' (looked for: loops, veiled, ifaces, maps, wideKeys, modest, calm, conditions, laid).
  DERIVED. THE GIVEN ROWS OF THIS SEAT. 6 by the template 'for every input the law returns true; each argument reads behind the call as it read before'; 0 by the template 'total and deterministic' (their statements: YtnjdmaeoebihpaaTotals.lean).
  GIVEN WITH THE SEED: the statements are not yours to turn. If you find one false, say at which input.
  Laid BY PROGRAM, IN A SANDBOX (cutbox-rows.mjs): the forced cells as the released guide's own fill.sh prints them over the translation 226a162e7fb7a5ec… (all of the seat's roots in one cut). By AI agents, Wed Nov 11 2026. No macro, syntax, notation, axiom, sorry.
-/
import Derived.Test.YtnjdmaeoebihpaaChecked
import GoSem.Claim
import GoSem.ClaimJoined
import GoSem.ClaimMapViews
import Derived.JoinedTies
import Derived.KernelRfl
namespace Go.Proofs.Ytnjdmaeoebihpaa
/- THE CELL 'sum', in the pinned program and in every row, IS THE sha256 OF THE DUMP (.gsa) THAT YtnjdmaeoebihpaaProg.lean LOADS. Nothing in Lean hashes anything: it is a label: what it is worth is what the hold of that sum in a sandbox is worth. -/
noncomputable def Try.pinned : Pinned := { name := "ytnjdmaeoebihpaa", sum := "226a162e7fb7a5ec423edcf6b4470d2a1aca7de88b62efee5bfd58ddd507004a", checked := Try.checked }
namespace Rows
def none {H : Type} : Left H := { results := [], args := [] }

/-- 'tripwirelaw05.PageFinds': WHATEVER THE INPUT: true; the input reads as it did. -/
def pageFindsSpec : ChangeSpec := { name := "pageFinds", fn := fun _ => fun
  | [d1, d2] => { results := [.lit (.bool true)], args := [d1, d2] }
  | _ => none }
def pageFindsRow : OpenClaim := { program := "ytnjdmaeoebihpaa", sum := "226a162e7fb7a5ec423edcf6b4470d2a1aca7de88b62efee5bfd58ddd507004a", func := "tripwire/tripwirelaw05.PageFinds", spec := "pageFinds", unfollowed := true, recurses := true, apart := false }
def PageFindsSaid : Prop := pageFindsRow.holds Try.pinned (OpenSpec.ofChange pageFindsSpec)

/-- ITS FALSE NEIGHBOUR: 'it returns false'. Refute it at one input. -/
def pageFindsWrong : ChangeSpec := { name := "pageFinds", fn := fun _ => fun
  | [d1, d2] => { results := [.lit (.bool false)], args := [d1, d2] }
  | _ => none }
def PageFindsWrongFalsely : Prop := pageFindsRow.holds Try.pinned (OpenSpec.ofChange pageFindsWrong)

/-- 'tripwirelaw05.PageHalves': WHATEVER THE INPUT: true; the input reads as it did. -/
def pageHalvesSpec : ChangeSpec := { name := "pageHalves", fn := fun _ => fun
  | [d1, d2] => { results := [.lit (.bool true)], args := [d1, d2] }
  | _ => none }
def pageHalvesRow : OpenClaim := { program := "ytnjdmaeoebihpaa", sum := "226a162e7fb7a5ec423edcf6b4470d2a1aca7de88b62efee5bfd58ddd507004a", func := "tripwire/tripwirelaw05.PageHalves", spec := "pageHalves", unfollowed := true, recurses := true, apart := false }
def PageHalvesSaid : Prop := pageHalvesRow.holds Try.pinned (OpenSpec.ofChange pageHalvesSpec)

/-- ITS FALSE NEIGHBOUR: 'it returns false'. Refute it at one input. -/
def pageHalvesWrong : ChangeSpec := { name := "pageHalves", fn := fun _ => fun
  | [d1, d2] => { results := [.lit (.bool false)], args := [d1, d2] }
  | _ => none }
def PageHalvesWrongFalsely : Prop := pageHalvesRow.holds Try.pinned (OpenSpec.ofChange pageHalvesWrong)

/-- 'tripwirelaw05.PageNodes': WHATEVER THE INPUT: true; the input reads as it did. -/
def pageNodesSpec : ChangeSpec := { name := "pageNodes", fn := fun _ => fun
  | [d] => { results := [.lit (.bool true)], args := [d] }
  | _ => none }
def pageNodesRow : OpenClaim := { program := "ytnjdmaeoebihpaa", sum := "226a162e7fb7a5ec423edcf6b4470d2a1aca7de88b62efee5bfd58ddd507004a", func := "tripwire/tripwirelaw05.PageNodes", spec := "pageNodes", unfollowed := true, recurses := true, apart := false }
def PageNodesSaid : Prop := pageNodesRow.holds Try.pinned (OpenSpec.ofChange pageNodesSpec)

/-- ITS FALSE NEIGHBOUR: 'it returns false'. Refute it at one input. -/
def pageNodesWrong : ChangeSpec := { name := "pageNodes", fn := fun _ => fun
  | [d] => { results := [.lit (.bool false)], args := [d] }
  | _ => none }
def PageNodesWrongFalsely : Prop := pageNodesRow.holds Try.pinned (OpenSpec.ofChange pageNodesWrong)

/-- 'tripwirelaw05.PageReads': WHATEVER THE INPUT: true; the input reads as it did. -/
def pageReadsSpec : ChangeSpec := { name := "pageReads", fn := fun _ => fun
  | [d1, d2, d3] => { results := [.lit (.bool true)], args := [d1, d2, d3] }
  | _ => none }
def pageReadsRow : OpenClaim := { program := "ytnjdmaeoebihpaa", sum := "226a162e7fb7a5ec423edcf6b4470d2a1aca7de88b62efee5bfd58ddd507004a", func := "tripwire/tripwirelaw05.PageReads", spec := "pageReads", unfollowed := true, recurses := true, apart := false }
def PageReadsSaid : Prop := pageReadsRow.holds Try.pinned (OpenSpec.ofChange pageReadsSpec)

/-- ITS FALSE NEIGHBOUR: 'it returns false'. Refute it at one input. -/
def pageReadsWrong : ChangeSpec := { name := "pageReads", fn := fun _ => fun
  | [d1, d2, d3] => { results := [.lit (.bool false)], args := [d1, d2, d3] }
  | _ => none }
def PageReadsWrongFalsely : Prop := pageReadsRow.holds Try.pinned (OpenSpec.ofChange pageReadsWrong)

/-- 'tripwirelaw05.PageSplits': WHATEVER THE INPUT: true; the input reads as it did. -/
def pageSplitsSpec : ChangeSpec := { name := "pageSplits", fn := fun _ => fun
  | [d] => { results := [.lit (.bool true)], args := [d] }
  | _ => none }
def pageSplitsRow : OpenClaim := { program := "ytnjdmaeoebihpaa", sum := "226a162e7fb7a5ec423edcf6b4470d2a1aca7de88b62efee5bfd58ddd507004a", func := "tripwire/tripwirelaw05.PageSplits", spec := "pageSplits", unfollowed := true, recurses := true, apart := false }
def PageSplitsSaid : Prop := pageSplitsRow.holds Try.pinned (OpenSpec.ofChange pageSplitsSpec)

/-- ITS FALSE NEIGHBOUR: 'it returns false'. Refute it at one input. -/
def pageSplitsWrong : ChangeSpec := { name := "pageSplits", fn := fun _ => fun
  | [d] => { results := [.lit (.bool false)], args := [d] }
  | _ => none }
def PageSplitsWrongFalsely : Prop := pageSplitsRow.holds Try.pinned (OpenSpec.ofChange pageSplitsWrong)

/-- 'tripwirelaw05.PageOwns': WHATEVER THE INPUT: true; the input reads as it did. -/
def pageOwnsSpec : ChangeSpec := { name := "pageOwns", fn := fun _ => fun
  | [d] => { results := [.lit (.bool true)], args := [d] }
  | _ => none }
def pageOwnsRow : OpenClaim := { program := "ytnjdmaeoebihpaa", sum := "226a162e7fb7a5ec423edcf6b4470d2a1aca7de88b62efee5bfd58ddd507004a", func := "tripwire/tripwirelaw05.PageOwns", spec := "pageOwns", unfollowed := true, recurses := true, apart := false }
def PageOwnsSaid : Prop := pageOwnsRow.holds Try.pinned (OpenSpec.ofChange pageOwnsSpec)

/-- ITS FALSE NEIGHBOUR: 'it returns false'. Refute it at one input. -/
def pageOwnsWrong : ChangeSpec := { name := "pageOwns", fn := fun _ => fun
  | [d] => { results := [.lit (.bool false)], args := [d] }
  | _ => none }
def PageOwnsWrongFalsely : Prop := pageOwnsRow.holds Try.pinned (OpenSpec.ofChange pageOwnsWrong)

/- THE SECOND FORM. 'bulk': how many values and letters a reading holds, each counted each time it is reached (what is shared counts as often as it is met; a slice's spare places count too). A statement '..UptoSaid' is the law's where the arguments, and the package variables that the reading takes, are together of bulk at most 1048576: NARROWER than '..Said'. Prove '..Said' where nothing that the law and all that it calls make is longer than what came in: it says more and counts as full. Else prove '..UptoSaid'. A law counts once. -/
mutual
def uptoBulk {H : Type} : DataW H → Nat
  | .lit (.string bytes) => bytes.length + 1
  | .lit _ => 1
  | .nil => 1
  | .ptr d => uptoBulk d + 1
  | .slice elems spare => uptoBulkAll elems + uptoBulkAll spare + 1
  | .agg parts => uptoBulkAll parts + 1
  | .iface _ d => uptoBulk d + 1
  | .map entries => uptoBulkEntries entries + 1
  | .held _ => 1
def uptoBulkAll {H : Type} : List (DataW H) → Nat
  | [] => 0
  | d :: r => uptoBulk d + uptoBulkAll r
def uptoBulkEntries {H : Type} : List (Lit × DataW H) → Nat
  | [] => 0
  | x :: r => uptoBulkEntry x + uptoBulkEntries r
def uptoBulkEntry {H : Type} : Lit × DataW H → Nat
  | (.string bytes, d) => bytes.length + uptoBulk d + 1
  | (_, d) => uptoBulk d + 1
 end
def uptoSmall : (H : Type) → List (DataW H) → Bool := fun _ ds => decide (uptoBulkAll ds ≤ 1048576)
def OpenSpec.upto (s : _root_.Go.ChangeSpec) : _root_.Go.OpenSpec := { _root_.Go.OpenSpec.ofChange s with cond := some uptoSmall }

/-- 'tripwirelaw05.PageFinds', WHERE WHAT IT READS IS OF BULK AT MOST 1048576: true; the input reads as it did. -/
def pageFindsUptoRow : OpenClaim := { program := "ytnjdmaeoebihpaa", sum := "226a162e7fb7a5ec423edcf6b4470d2a1aca7de88b62efee5bfd58ddd507004a", func := "tripwire/tripwirelaw05.PageFinds", spec := "pageFinds", unfollowed := true, recurses := true, apart := false, narrowed := true }
def PageFindsUptoSaid : Prop := pageFindsUptoRow.holds Try.pinned (OpenSpec.upto pageFindsSpec)

/-- 'tripwirelaw05.PageHalves', WHERE WHAT IT READS IS OF BULK AT MOST 1048576: true; the input reads as it did. -/
def pageHalvesUptoRow : OpenClaim := { program := "ytnjdmaeoebihpaa", sum := "226a162e7fb7a5ec423edcf6b4470d2a1aca7de88b62efee5bfd58ddd507004a", func := "tripwire/tripwirelaw05.PageHalves", spec := "pageHalves", unfollowed := true, recurses := true, apart := false, narrowed := true }
def PageHalvesUptoSaid : Prop := pageHalvesUptoRow.holds Try.pinned (OpenSpec.upto pageHalvesSpec)

/-- 'tripwirelaw05.PageNodes', WHERE WHAT IT READS IS OF BULK AT MOST 1048576: true; the input reads as it did. -/
def pageNodesUptoRow : OpenClaim := { program := "ytnjdmaeoebihpaa", sum := "226a162e7fb7a5ec423edcf6b4470d2a1aca7de88b62efee5bfd58ddd507004a", func := "tripwire/tripwirelaw05.PageNodes", spec := "pageNodes", unfollowed := true, recurses := true, apart := false, narrowed := true }
def PageNodesUptoSaid : Prop := pageNodesUptoRow.holds Try.pinned (OpenSpec.upto pageNodesSpec)

/-- 'tripwirelaw05.PageReads', WHERE WHAT IT READS IS OF BULK AT MOST 1048576: true; the input reads as it did. -/
def pageReadsUptoRow : OpenClaim := { program := "ytnjdmaeoebihpaa", sum := "226a162e7fb7a5ec423edcf6b4470d2a1aca7de88b62efee5bfd58ddd507004a", func := "tripwire/tripwirelaw05.PageReads", spec := "pageReads", unfollowed := true, recurses := true, apart := false, narrowed := true }
def PageReadsUptoSaid : Prop := pageReadsUptoRow.holds Try.pinned (OpenSpec.upto pageReadsSpec)

/-- 'tripwirelaw05.PageSplits', WHERE WHAT IT READS IS OF BULK AT MOST 1048576: true; the input reads as it did. -/
def pageSplitsUptoRow : OpenClaim := { program := "ytnjdmaeoebihpaa", sum := "226a162e7fb7a5ec423edcf6b4470d2a1aca7de88b62efee5bfd58ddd507004a", func := "tripwire/tripwirelaw05.PageSplits", spec := "pageSplits", unfollowed := true, recurses := true, apart := false, narrowed := true }
def PageSplitsUptoSaid : Prop := pageSplitsUptoRow.holds Try.pinned (OpenSpec.upto pageSplitsSpec)

/-- 'tripwirelaw05.PageOwns', WHERE WHAT IT READS IS OF BULK AT MOST 1048576: true; the input reads as it did. -/
def pageOwnsUptoRow : OpenClaim := { program := "ytnjdmaeoebihpaa", sum := "226a162e7fb7a5ec423edcf6b4470d2a1aca7de88b62efee5bfd58ddd507004a", func := "tripwire/tripwirelaw05.PageOwns", spec := "pageOwns", unfollowed := true, recurses := true, apart := false, narrowed := true }
def PageOwnsUptoSaid : Prop := pageOwnsUptoRow.holds Try.pinned (OpenSpec.upto pageOwnsSpec)

end Rows
end Go.Proofs.Ytnjdmaeoebihpaa
