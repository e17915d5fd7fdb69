/-
  No cell of these rows narrows 'for every input' (looked for: loops, veiled, ifaces, maps, wideKeys, modest, calm, conditions, laid).
  DERIVED. THE GIVEN ROWS OF THIS SEAT. 3 by the template 'for every input the law returns true; each argument reads behind the call as it read before'; 0 by the template 'total and deterministic' (their statements: YtdkdjdlndcihmaaTotals.lean).
  GIVEN WITH THE SEED: the statements are not yours to turn. If you find one false, say at which input.
  Laid BY PROGRAM, IN A SANDBOX (cutbox-rows.mjs): the forced cells as the released guide's own fill.sh prints them over the translation de5d565196181a6d… (all of the seat's roots in one cut). By AI agents, Wed Nov 11 2026. No macro, syntax, notation, axiom, sorry.
-/
import Derived.Test.YtdkdjdlndcihmaaChecked
import GoSem.Claim
import GoSem.ClaimJoined
import GoSem.ClaimMapViews
import Derived.JoinedTies
import Derived.KernelRfl
namespace Go.Proofs.Ytdkdjdlndcihmaa
/- THE CELL 'sum', in the pinned program and in every row, IS THE sha256 OF THE DUMP (.gsa) THAT YtdkdjdlndcihmaaProg.lean LOADS. Nothing in Lean hashes anything: it is a label: what it is worth is what the hold of that sum in a sandbox is worth. -/
noncomputable def Try.pinned : Pinned := { name := "ytdkdjdlndcihmaa", sum := "de5d565196181a6d388d396b02c81ed137e9604228fdf01e45d291035708f7f4", checked := Try.checked }
namespace Rows
def none {H : Type} : Left H := { results := [], args := [] }

/-- 'tripwirelaw07.SchemaNames': WHATEVER THE INPUT: true; the input reads as it did. -/
def schemaNamesSpec : ChangeSpec := { name := "schemaNames", fn := fun _ => fun
  | [d] => { results := [.lit (.bool true)], args := [d] }
  | _ => none }
def schemaNamesRow : OpenClaim := { program := "ytdkdjdlndcihmaa", sum := "de5d565196181a6d388d396b02c81ed137e9604228fdf01e45d291035708f7f4", func := "tripwire/tripwirelaw07.SchemaNames", spec := "schemaNames", unfollowed := true, recurses := true, apart := false }
def SchemaNamesSaid : Prop := schemaNamesRow.holds Try.pinned (OpenSpec.ofChange schemaNamesSpec)

/-- ITS FALSE NEIGHBOUR: 'it returns false'. Refute it at one input. -/
def schemaNamesWrong : ChangeSpec := { name := "schemaNames", fn := fun _ => fun
  | [d] => { results := [.lit (.bool false)], args := [d] }
  | _ => none }
def SchemaNamesWrongFalsely : Prop := schemaNamesRow.holds Try.pinned (OpenSpec.ofChange schemaNamesWrong)

/-- 'tripwirelaw07.SchemaFits': WHATEVER THE INPUT: true; the input reads as it did. -/
def schemaFitsSpec : ChangeSpec := { name := "schemaFits", fn := fun _ => fun
  | [d1, d2] => { results := [.lit (.bool true)], args := [d1, d2] }
  | _ => none }
def schemaFitsRow : OpenClaim := { program := "ytdkdjdlndcihmaa", sum := "de5d565196181a6d388d396b02c81ed137e9604228fdf01e45d291035708f7f4", func := "tripwire/tripwirelaw07.SchemaFits", spec := "schemaFits", unfollowed := true, recurses := true, apart := false }
def SchemaFitsSaid : Prop := schemaFitsRow.holds Try.pinned (OpenSpec.ofChange schemaFitsSpec)

/-- ITS FALSE NEIGHBOUR: 'it returns false'. Refute it at one input. -/
def schemaFitsWrong : ChangeSpec := { name := "schemaFits", fn := fun _ => fun
  | [d1, d2] => { results := [.lit (.bool false)], args := [d1, d2] }
  | _ => none }
def SchemaFitsWrongFalsely : Prop := schemaFitsRow.holds Try.pinned (OpenSpec.ofChange schemaFitsWrong)

/-- 'tripwirelaw07.SchemaColumns': WHATEVER THE INPUT: true; the input reads as it did. -/
def schemaColumnsSpec : ChangeSpec := { name := "schemaColumns", fn := fun _ => fun
  | [d1, d2] => { results := [.lit (.bool true)], args := [d1, d2] }
  | _ => none }
def schemaColumnsRow : OpenClaim := { program := "ytdkdjdlndcihmaa", sum := "de5d565196181a6d388d396b02c81ed137e9604228fdf01e45d291035708f7f4", func := "tripwire/tripwirelaw07.SchemaColumns", spec := "schemaColumns", unfollowed := true, recurses := true, apart := false }
def SchemaColumnsSaid : Prop := schemaColumnsRow.holds Try.pinned (OpenSpec.ofChange schemaColumnsSpec)

/-- ITS FALSE NEIGHBOUR: 'it returns false'. Refute it at one input. -/
def schemaColumnsWrong : ChangeSpec := { name := "schemaColumns", fn := fun _ => fun
  | [d1, d2] => { results := [.lit (.bool false)], args := [d1, d2] }
  | _ => none }
def SchemaColumnsWrongFalsely : Prop := schemaColumnsRow.holds Try.pinned (OpenSpec.ofChange schemaColumnsWrong)

/- THE SECOND FORM. 'bulk': how many values and letters a reading holds, each counted each time it is reached (what is shared counts as often as it is met; a slice's spare places count too). A statement '..UptoSaid' is the law's where the arguments, and the package variables that the reading takes, are together of bulk at most 1048576: NARROWER than '..Said'. Prove '..Said' where nothing that the law and all that it calls make is longer than what came in: it says more and counts as full. Else prove '..UptoSaid'. A law counts once. -/
mutual
def uptoBulk {H : Type} : DataW H → Nat
  | .lit (.string bytes) => bytes.length + 1
  | .lit _ => 1
  | .nil => 1
  | .ptr d => uptoBulk d + 1
  | .slice elems spare => uptoBulkAll elems + uptoBulkAll spare + 1
  | .agg parts => uptoBulkAll parts + 1
  | .iface _ d => uptoBulk d + 1
  | .map entries => uptoBulkEntries entries + 1
  | .held _ => 1
def uptoBulkAll {H : Type} : List (DataW H) → Nat
  | [] => 0
  | d :: r => uptoBulk d + uptoBulkAll r
def uptoBulkEntries {H : Type} : List (Lit × DataW H) → Nat
  | [] => 0
  | x :: r => uptoBulkEntry x + uptoBulkEntries r
def uptoBulkEntry {H : Type} : Lit × DataW H → Nat
  | (.string bytes, d) => bytes.length + uptoBulk d + 1
  | (_, d) => uptoBulk d + 1
 end
def uptoSmall : (H : Type) → List (DataW H) → Bool := fun _ ds => decide (uptoBulkAll ds ≤ 1048576)
def OpenSpec.upto (s : _root_.Go.ChangeSpec) : _root_.Go.OpenSpec := { _root_.Go.OpenSpec.ofChange s with cond := some uptoSmall }

/-- 'tripwirelaw07.SchemaNames', WHERE WHAT IT READS IS OF BULK AT MOST 1048576: true; the input reads as it did. -/
def schemaNamesUptoRow : OpenClaim := { program := "ytdkdjdlndcihmaa", sum := "de5d565196181a6d388d396b02c81ed137e9604228fdf01e45d291035708f7f4", func := "tripwire/tripwirelaw07.SchemaNames", spec := "schemaNames", unfollowed := true, recurses := true, apart := false, narrowed := true }
def SchemaNamesUptoSaid : Prop := schemaNamesUptoRow.holds Try.pinned (OpenSpec.upto schemaNamesSpec)

/-- 'tripwirelaw07.SchemaFits', WHERE WHAT IT READS IS OF BULK AT MOST 1048576: true; the input reads as it did. -/
def schemaFitsUptoRow : OpenClaim := { program := "ytdkdjdlndcihmaa", sum := "de5d565196181a6d388d396b02c81ed137e9604228fdf01e45d291035708f7f4", func := "tripwire/tripwirelaw07.SchemaFits", spec := "schemaFits", unfollowed := true, recurses := true, apart := false, narrowed := true }
def SchemaFitsUptoSaid : Prop := schemaFitsUptoRow.holds Try.pinned (OpenSpec.upto schemaFitsSpec)

/-- 'tripwirelaw07.SchemaColumns', WHERE WHAT IT READS IS OF BULK AT MOST 1048576: true; the input reads as it did. -/
def schemaColumnsUptoRow : OpenClaim := { program := "ytdkdjdlndcihmaa", sum := "de5d565196181a6d388d396b02c81ed137e9604228fdf01e45d291035708f7f4", func := "tripwire/tripwirelaw07.SchemaColumns", spec := "schemaColumns", unfollowed := true, recurses := true, apart := false, narrowed := true }
def SchemaColumnsUptoSaid : Prop := schemaColumnsUptoRow.holds Try.pinned (OpenSpec.upto schemaColumnsSpec)

end Rows
end Go.Proofs.Ytdkdjdlndcihmaa
