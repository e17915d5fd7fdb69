/-
  NARROWER THAN 'FOR EVERY INPUT', by the rows' own cells (each row's printed sentence says how): FaultRuns: loops · FaultUndoes: loops.
  DERIVED. THE GIVEN ROWS OF THIS SEAT. 4 by the template 'for every input the law returns true; each argument reads behind the call as it read before'; 0 by the template 'total and deterministic' (their statements: YtigcmbakglghpaaTotals.lean).
  GIVEN WITH THE SEED: the statements are not yours to turn. If you find one false, say at which input.
  Laid BY PROGRAM, IN A SANDBOX (cutbox-rows.mjs): the forced cells as the released guide's own fill.sh prints them over the translation 8080eb4c4350d349… (all of the seat's roots in one cut). By AI agents, Wed Nov 11 2026. No macro, syntax, notation, axiom, sorry.
-/
import Derived.Test.YtigcmbakglghpaaChecked
import GoSem.Claim
import GoSem.ClaimJoined
import GoSem.ClaimMapViews
import Derived.JoinedTies
import Derived.KernelRfl
namespace Go.Proofs.Ytigcmbakglghpaa
/- THE CELL 'sum', in the pinned program and in every row, IS THE sha256 OF THE DUMP (.gsa) THAT YtigcmbakglghpaaProg.lean LOADS. Nothing in Lean hashes anything: it is a label: what it is worth is what the hold of that sum in a sandbox is worth. -/
noncomputable def Try.pinned : Pinned := { name := "ytigcmbakglghpaa", sum := "8080eb4c4350d349f8c6fdd9f11f61908a8af40e7c166034759268fa23e5258c", checked := Try.checked }
namespace Rows
def none {H : Type} : Left H := { results := [], args := [] }

/-- 'tripwirelaw01.FaultChecks': WHATEVER THE INPUT: true; the input reads as it did. -/
def faultChecksSpec : ChangeSpec := { name := "faultChecks", fn := fun _ => fun
  | [d1, d2] => { results := [.lit (.bool true)], args := [d1, d2] }
  | _ => none }
def faultChecksRow : OpenClaim := { program := "ytigcmbakglghpaa", sum := "8080eb4c4350d349f8c6fdd9f11f61908a8af40e7c166034759268fa23e5258c", func := "tripwire/tripwirelaw01.FaultChecks", spec := "faultChecks", unfollowed := true, recurses := true, apart := false }
def FaultChecksSaid : Prop := faultChecksRow.holds Try.pinned (OpenSpec.ofChange faultChecksSpec)

/-- ITS FALSE NEIGHBOUR: 'it returns false'. Refute it at one input. -/
def faultChecksWrong : ChangeSpec := { name := "faultChecks", fn := fun _ => fun
  | [d1, d2] => { results := [.lit (.bool false)], args := [d1, d2] }
  | _ => none }
def FaultChecksWrongFalsely : Prop := faultChecksRow.holds Try.pinned (OpenSpec.ofChange faultChecksWrong)

/-- 'tripwirelaw01.FaultFirst': WHATEVER THE INPUT: true; the input reads as it did. -/
def faultFirstSpec : ChangeSpec := { name := "faultFirst", fn := fun _ => fun
  | [d] => { results := [.lit (.bool true)], args := [d] }
  | _ => none }
def faultFirstRow : OpenClaim := { program := "ytigcmbakglghpaa", sum := "8080eb4c4350d349f8c6fdd9f11f61908a8af40e7c166034759268fa23e5258c", func := "tripwire/tripwirelaw01.FaultFirst", spec := "faultFirst", unfollowed := true, recurses := true, apart := false }
def FaultFirstSaid : Prop := faultFirstRow.holds Try.pinned (OpenSpec.ofChange faultFirstSpec)

/-- ITS FALSE NEIGHBOUR: 'it returns false'. Refute it at one input. -/
def faultFirstWrong : ChangeSpec := { name := "faultFirst", fn := fun _ => fun
  | [d] => { results := [.lit (.bool false)], args := [d] }
  | _ => none }
def FaultFirstWrongFalsely : Prop := faultFirstRow.holds Try.pinned (OpenSpec.ofChange faultFirstWrong)

/-- 'tripwirelaw01.FaultRuns': WHATEVER THE INPUT: true; the input reads as it did. -/
def faultRunsSpec : ChangeSpec := { name := "faultRuns", fn := fun _ => fun
  | [d] => { results := [.lit (.bool true)], args := [d] }
  | _ => none }
def faultRunsRow : OpenClaim := { program := "ytigcmbakglghpaa", sum := "8080eb4c4350d349f8c6fdd9f11f61908a8af40e7c166034759268fa23e5258c", func := "tripwire/tripwirelaw01.FaultRuns", spec := "faultRuns", unfollowed := true, recurses := true, loops := true, apart := false }
def FaultRunsSaid : Prop := faultRunsRow.holds Try.pinned (OpenSpec.ofChange faultRunsSpec)

/-- ITS FALSE NEIGHBOUR: 'it returns false'. Refute it at one input. -/
def faultRunsWrong : ChangeSpec := { name := "faultRuns", fn := fun _ => fun
  | [d] => { results := [.lit (.bool false)], args := [d] }
  | _ => none }
def FaultRunsWrongFalsely : Prop := faultRunsRow.holds Try.pinned (OpenSpec.ofChange faultRunsWrong)

/-- 'tripwirelaw01.FaultUndoes': WHATEVER THE INPUT: true; the input reads as it did. -/
def faultUndoesSpec : ChangeSpec := { name := "faultUndoes", fn := fun _ => fun
  | [d] => { results := [.lit (.bool true)], args := [d] }
  | _ => none }
def faultUndoesRow : OpenClaim := { program := "ytigcmbakglghpaa", sum := "8080eb4c4350d349f8c6fdd9f11f61908a8af40e7c166034759268fa23e5258c", func := "tripwire/tripwirelaw01.FaultUndoes", spec := "faultUndoes", unfollowed := true, recurses := true, loops := true, apart := false }
def FaultUndoesSaid : Prop := faultUndoesRow.holds Try.pinned (OpenSpec.ofChange faultUndoesSpec)

/-- ITS FALSE NEIGHBOUR: 'it returns false'. Refute it at one input. -/
def faultUndoesWrong : ChangeSpec := { name := "faultUndoes", fn := fun _ => fun
  | [d] => { results := [.lit (.bool false)], args := [d] }
  | _ => none }
def FaultUndoesWrongFalsely : Prop := faultUndoesRow.holds Try.pinned (OpenSpec.ofChange faultUndoesWrong)

/- THE SECOND FORM. 'bulk': how many values and letters a reading holds, each counted each time it is reached (what is shared counts as often as it is met; a slice's spare places count too). A statement '..UptoSaid' is the law's where the arguments, and the package variables that the reading takes, are together of bulk at most 1048576: NARROWER than '..Said'. Prove '..Said' where nothing that the law and all that it calls make is longer than what came in: it says more and counts as full. Else prove '..UptoSaid'. A law counts once. -/
mutual
def uptoBulk {H : Type} : DataW H → Nat
  | .lit (.string bytes) => bytes.length + 1
  | .lit _ => 1
  | .nil => 1
  | .ptr d => uptoBulk d + 1
  | .slice elems spare => uptoBulkAll elems + uptoBulkAll spare + 1
  | .agg parts => uptoBulkAll parts + 1
  | .iface _ d => uptoBulk d + 1
  | .map entries => uptoBulkEntries entries + 1
  | .held _ => 1
def uptoBulkAll {H : Type} : List (DataW H) → Nat
  | [] => 0
  | d :: r => uptoBulk d + uptoBulkAll r
def uptoBulkEntries {H : Type} : List (Lit × DataW H) → Nat
  | [] => 0
  | x :: r => uptoBulkEntry x + uptoBulkEntries r
def uptoBulkEntry {H : Type} : Lit × DataW H → Nat
  | (.string bytes, d) => bytes.length + uptoBulk d + 1
  | (_, d) => uptoBulk d + 1
 end
def uptoSmall : (H : Type) → List (DataW H) → Bool := fun _ ds => decide (uptoBulkAll ds ≤ 1048576)
def OpenSpec.upto (s : _root_.Go.ChangeSpec) : _root_.Go.OpenSpec := { _root_.Go.OpenSpec.ofChange s with cond := some uptoSmall }

/-- 'tripwirelaw01.FaultChecks', WHERE WHAT IT READS IS OF BULK AT MOST 1048576: true; the input reads as it did. -/
def faultChecksUptoRow : OpenClaim := { program := "ytigcmbakglghpaa", sum := "8080eb4c4350d349f8c6fdd9f11f61908a8af40e7c166034759268fa23e5258c", func := "tripwire/tripwirelaw01.FaultChecks", spec := "faultChecks", unfollowed := true, recurses := true, apart := false, narrowed := true }
def FaultChecksUptoSaid : Prop := faultChecksUptoRow.holds Try.pinned (OpenSpec.upto faultChecksSpec)

/-- 'tripwirelaw01.FaultFirst', WHERE WHAT IT READS IS OF BULK AT MOST 1048576: true; the input reads as it did. -/
def faultFirstUptoRow : OpenClaim := { program := "ytigcmbakglghpaa", sum := "8080eb4c4350d349f8c6fdd9f11f61908a8af40e7c166034759268fa23e5258c", func := "tripwire/tripwirelaw01.FaultFirst", spec := "faultFirst", unfollowed := true, recurses := true, apart := false, narrowed := true }
def FaultFirstUptoSaid : Prop := faultFirstUptoRow.holds Try.pinned (OpenSpec.upto faultFirstSpec)

/-- 'tripwirelaw01.FaultRuns', WHERE WHAT IT READS IS OF BULK AT MOST 1048576: true; the input reads as it did. -/
def faultRunsUptoRow : OpenClaim := { program := "ytigcmbakglghpaa", sum := "8080eb4c4350d349f8c6fdd9f11f61908a8af40e7c166034759268fa23e5258c", func := "tripwire/tripwirelaw01.FaultRuns", spec := "faultRuns", unfollowed := true, recurses := true, loops := true, apart := false, narrowed := true }
def FaultRunsUptoSaid : Prop := faultRunsUptoRow.holds Try.pinned (OpenSpec.upto faultRunsSpec)

/-- 'tripwirelaw01.FaultUndoes', WHERE WHAT IT READS IS OF BULK AT MOST 1048576: true; the input reads as it did. -/
def faultUndoesUptoRow : OpenClaim := { program := "ytigcmbakglghpaa", sum := "8080eb4c4350d349f8c6fdd9f11f61908a8af40e7c166034759268fa23e5258c", func := "tripwire/tripwirelaw01.FaultUndoes", spec := "faultUndoes", unfollowed := true, recurses := true, loops := true, apart := false, narrowed := true }
def FaultUndoesUptoSaid : Prop := faultUndoesUptoRow.holds Try.pinned (OpenSpec.upto faultUndoesSpec)

end Rows
end Go.Proofs.Ytigcmbakglghpaa
