/-
  No cell of these rows narrows 'for every input' (looked for: loops, veiled, ifaces, maps, wideKeys, modest, calm, conditions, laid).
  DERIVED. THE GIVEN ROWS OF THIS SEAT. 5 by the template 'for every input the law returns true; each argument reads behind the call as it read before'; 0 by the template 'total and deterministic' (their statements: YtmlgockejacjeaaTotals.lean).
  GIVEN WITH THE SEED: the statements are not yours to turn. If you find one false, say at which input.
  Laid BY PROGRAM, IN A SANDBOX (cutbox-rows.mjs): the forced cells as the released guide's own fill.sh prints them over the translation ae862f9f419458b0… (all of the seat's roots in one cut). By AI agents, Wed Nov 11 2026. No macro, syntax, notation, axiom, sorry.
-/
import Derived.Test.YtmlgockejacjeaaChecked
import GoSem.Claim
import GoSem.ClaimJoined
import GoSem.ClaimMapViews
import Derived.JoinedTies
import Derived.KernelRfl
namespace Go.Proofs.Ytmlgockejacjeaa
/- THE CELL 'sum', in the pinned program and in every row, IS THE sha256 OF THE DUMP (.gsa) THAT YtmlgockejacjeaaProg.lean LOADS. Nothing in Lean hashes anything: it is a label: what it is worth is what the hold of that sum in a sandbox is worth. -/
noncomputable def Try.pinned : Pinned := { name := "ytmlgockejacjeaa", sum := "ae862f9f419458b0fe8fb40b164d0162d41fb679f6d5bf944215936b3db5dc53", checked := Try.checked }
namespace Rows
def none {H : Type} : Left H := { results := [], args := [] }

/-- 'tripwirelaw04.ArenaOwns': WHATEVER THE INPUT: true; the input reads as it did. -/
def arenaOwnsSpec : ChangeSpec := { name := "arenaOwns", fn := fun _ => fun
  | [d1, d2] => { results := [.lit (.bool true)], args := [d1, d2] }
  | _ => none }
def arenaOwnsRow : OpenClaim := { program := "ytmlgockejacjeaa", sum := "ae862f9f419458b0fe8fb40b164d0162d41fb679f6d5bf944215936b3db5dc53", func := "tripwire/tripwirelaw04.ArenaOwns", spec := "arenaOwns", apart := false }
def ArenaOwnsSaid : Prop := arenaOwnsRow.holds Try.pinned (OpenSpec.ofChange arenaOwnsSpec)

/-- ITS FALSE NEIGHBOUR: 'it returns false'. Refute it at one input. -/
def arenaOwnsWrong : ChangeSpec := { name := "arenaOwns", fn := fun _ => fun
  | [d1, d2] => { results := [.lit (.bool false)], args := [d1, d2] }
  | _ => none }
def ArenaOwnsWrongFalsely : Prop := arenaOwnsRow.holds Try.pinned (OpenSpec.ofChange arenaOwnsWrong)

/-- 'tripwirelaw04.ArenaPlays': WHATEVER THE INPUT: true; the input reads as it did. -/
def arenaPlaysSpec : ChangeSpec := { name := "arenaPlays", fn := fun _ => fun
  | [d1, d2] => { results := [.lit (.bool true)], args := [d1, d2] }
  | _ => none }
def arenaPlaysRow : OpenClaim := { program := "ytmlgockejacjeaa", sum := "ae862f9f419458b0fe8fb40b164d0162d41fb679f6d5bf944215936b3db5dc53", func := "tripwire/tripwirelaw04.ArenaPlays", spec := "arenaPlays", apart := false }
def ArenaPlaysSaid : Prop := arenaPlaysRow.holds Try.pinned (OpenSpec.ofChange arenaPlaysSpec)

/-- ITS FALSE NEIGHBOUR: 'it returns false'. Refute it at one input. -/
def arenaPlaysWrong : ChangeSpec := { name := "arenaPlays", fn := fun _ => fun
  | [d1, d2] => { results := [.lit (.bool false)], args := [d1, d2] }
  | _ => none }
def ArenaPlaysWrongFalsely : Prop := arenaPlaysRow.holds Try.pinned (OpenSpec.ofChange arenaPlaysWrong)

/-- 'tripwirelaw04.ArenaQuota': WHATEVER THE INPUT: true; the input reads as it did. -/
def arenaQuotaSpec : ChangeSpec := { name := "arenaQuota", fn := fun _ => fun
  | [d1, d2] => { results := [.lit (.bool true)], args := [d1, d2] }
  | _ => none }
def arenaQuotaRow : OpenClaim := { program := "ytmlgockejacjeaa", sum := "ae862f9f419458b0fe8fb40b164d0162d41fb679f6d5bf944215936b3db5dc53", func := "tripwire/tripwirelaw04.ArenaQuota", spec := "arenaQuota", apart := false }
def ArenaQuotaSaid : Prop := arenaQuotaRow.holds Try.pinned (OpenSpec.ofChange arenaQuotaSpec)

/-- ITS FALSE NEIGHBOUR: 'it returns false'. Refute it at one input. -/
def arenaQuotaWrong : ChangeSpec := { name := "arenaQuota", fn := fun _ => fun
  | [d1, d2] => { results := [.lit (.bool false)], args := [d1, d2] }
  | _ => none }
def ArenaQuotaWrongFalsely : Prop := arenaQuotaRow.holds Try.pinned (OpenSpec.ofChange arenaQuotaWrong)

/-- 'tripwirelaw04.ArenaNone': WHATEVER THE INPUT: true; the input reads as it did. -/
def arenaNoneSpec : ChangeSpec := { name := "arenaNone", fn := fun _ => fun
  | [d] => { results := [.lit (.bool true)], args := [d] }
  | _ => none }
def arenaNoneRow : OpenClaim := { program := "ytmlgockejacjeaa", sum := "ae862f9f419458b0fe8fb40b164d0162d41fb679f6d5bf944215936b3db5dc53", func := "tripwire/tripwirelaw04.ArenaNone", spec := "arenaNone", apart := false }
def ArenaNoneSaid : Prop := arenaNoneRow.holds Try.pinned (OpenSpec.ofChange arenaNoneSpec)

/-- ITS FALSE NEIGHBOUR: 'it returns false'. Refute it at one input. -/
def arenaNoneWrong : ChangeSpec := { name := "arenaNone", fn := fun _ => fun
  | [d] => { results := [.lit (.bool false)], args := [d] }
  | _ => none }
def ArenaNoneWrongFalsely : Prop := arenaNoneRow.holds Try.pinned (OpenSpec.ofChange arenaNoneWrong)

/-- 'tripwirelaw04.ArenaSnaps': WHATEVER THE INPUT: true; the input reads as it did. -/
def arenaSnapsSpec : ChangeSpec := { name := "arenaSnaps", fn := fun _ => fun
  | [d1, d2, d3] => { results := [.lit (.bool true)], args := [d1, d2, d3] }
  | _ => none }
def arenaSnapsRow : OpenClaim := { program := "ytmlgockejacjeaa", sum := "ae862f9f419458b0fe8fb40b164d0162d41fb679f6d5bf944215936b3db5dc53", func := "tripwire/tripwirelaw04.ArenaSnaps", spec := "arenaSnaps", apart := false }
def ArenaSnapsSaid : Prop := arenaSnapsRow.holds Try.pinned (OpenSpec.ofChange arenaSnapsSpec)

/-- ITS FALSE NEIGHBOUR: 'it returns false'. Refute it at one input. -/
def arenaSnapsWrong : ChangeSpec := { name := "arenaSnaps", fn := fun _ => fun
  | [d1, d2, d3] => { results := [.lit (.bool false)], args := [d1, d2, d3] }
  | _ => none }
def ArenaSnapsWrongFalsely : Prop := arenaSnapsRow.holds Try.pinned (OpenSpec.ofChange arenaSnapsWrong)

/- THE SECOND FORM. 'bulk': how many values and letters a reading holds, each counted each time it is reached (what is shared counts as often as it is met; a slice's spare places count too). A statement '..UptoSaid' is the law's where the arguments, and the package variables that the reading takes, are together of bulk at most 1048576: NARROWER than '..Said'. Prove '..Said' where nothing that the law and all that it calls make is longer than what came in: it says more and counts as full. Else prove '..UptoSaid'. A law counts once. -/
mutual
def uptoBulk {H : Type} : DataW H → Nat
  | .lit (.string bytes) => bytes.length + 1
  | .lit _ => 1
  | .nil => 1
  | .ptr d => uptoBulk d + 1
  | .slice elems spare => uptoBulkAll elems + uptoBulkAll spare + 1
  | .agg parts => uptoBulkAll parts + 1
  | .iface _ d => uptoBulk d + 1
  | .map entries => uptoBulkEntries entries + 1
  | .held _ => 1
def uptoBulkAll {H : Type} : List (DataW H) → Nat
  | [] => 0
  | d :: r => uptoBulk d + uptoBulkAll r
def uptoBulkEntries {H : Type} : List (Lit × DataW H) → Nat
  | [] => 0
  | x :: r => uptoBulkEntry x + uptoBulkEntries r
def uptoBulkEntry {H : Type} : Lit × DataW H → Nat
  | (.string bytes, d) => bytes.length + uptoBulk d + 1
  | (_, d) => uptoBulk d + 1
 end
def uptoSmall : (H : Type) → List (DataW H) → Bool := fun _ ds => decide (uptoBulkAll ds ≤ 1048576)
def OpenSpec.upto (s : _root_.Go.ChangeSpec) : _root_.Go.OpenSpec := { _root_.Go.OpenSpec.ofChange s with cond := some uptoSmall }

/-- 'tripwirelaw04.ArenaOwns', WHERE WHAT IT READS IS OF BULK AT MOST 1048576: true; the input reads as it did. -/
def arenaOwnsUptoRow : OpenClaim := { program := "ytmlgockejacjeaa", sum := "ae862f9f419458b0fe8fb40b164d0162d41fb679f6d5bf944215936b3db5dc53", func := "tripwire/tripwirelaw04.ArenaOwns", spec := "arenaOwns", apart := false, narrowed := true }
def ArenaOwnsUptoSaid : Prop := arenaOwnsUptoRow.holds Try.pinned (OpenSpec.upto arenaOwnsSpec)

/-- 'tripwirelaw04.ArenaPlays', WHERE WHAT IT READS IS OF BULK AT MOST 1048576: true; the input reads as it did. -/
def arenaPlaysUptoRow : OpenClaim := { program := "ytmlgockejacjeaa", sum := "ae862f9f419458b0fe8fb40b164d0162d41fb679f6d5bf944215936b3db5dc53", func := "tripwire/tripwirelaw04.ArenaPlays", spec := "arenaPlays", apart := false, narrowed := true }
def ArenaPlaysUptoSaid : Prop := arenaPlaysUptoRow.holds Try.pinned (OpenSpec.upto arenaPlaysSpec)

/-- 'tripwirelaw04.ArenaQuota', WHERE WHAT IT READS IS OF BULK AT MOST 1048576: true; the input reads as it did. -/
def arenaQuotaUptoRow : OpenClaim := { program := "ytmlgockejacjeaa", sum := "ae862f9f419458b0fe8fb40b164d0162d41fb679f6d5bf944215936b3db5dc53", func := "tripwire/tripwirelaw04.ArenaQuota", spec := "arenaQuota", apart := false, narrowed := true }
def ArenaQuotaUptoSaid : Prop := arenaQuotaUptoRow.holds Try.pinned (OpenSpec.upto arenaQuotaSpec)

/-- 'tripwirelaw04.ArenaNone', WHERE WHAT IT READS IS OF BULK AT MOST 1048576: true; the input reads as it did. -/
def arenaNoneUptoRow : OpenClaim := { program := "ytmlgockejacjeaa", sum := "ae862f9f419458b0fe8fb40b164d0162d41fb679f6d5bf944215936b3db5dc53", func := "tripwire/tripwirelaw04.ArenaNone", spec := "arenaNone", apart := false, narrowed := true }
def ArenaNoneUptoSaid : Prop := arenaNoneUptoRow.holds Try.pinned (OpenSpec.upto arenaNoneSpec)

/-- 'tripwirelaw04.ArenaSnaps', WHERE WHAT IT READS IS OF BULK AT MOST 1048576: true; the input reads as it did. -/
def arenaSnapsUptoRow : OpenClaim := { program := "ytmlgockejacjeaa", sum := "ae862f9f419458b0fe8fb40b164d0162d41fb679f6d5bf944215936b3db5dc53", func := "tripwire/tripwirelaw04.ArenaSnaps", spec := "arenaSnaps", apart := false, narrowed := true }
def ArenaSnapsUptoSaid : Prop := arenaSnapsUptoRow.holds Try.pinned (OpenSpec.upto arenaSnapsSpec)

end Rows
end Go.Proofs.Ytmlgockejacjeaa
