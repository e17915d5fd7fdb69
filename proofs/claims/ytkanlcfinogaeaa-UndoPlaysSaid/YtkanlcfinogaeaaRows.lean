/-
  No cell of these rows narrows 'for every input' (looked for: loops, veiled, ifaces, maps, wideKeys, modest, calm, conditions, laid).
  DERIVED. THE GIVEN ROWS OF THIS SEAT. 3 by the template 'for every input the law returns true; each argument reads behind the call as it read before'; 0 by the template 'total and deterministic' (their statements: YtkanlcfinogaeaaTotals.lean).
  GIVEN WITH THE SEED: the statements are not yours to turn. If you find one false, say at which input.
  Laid BY PROGRAM, IN A SANDBOX (cutbox-rows.mjs): the forced cells as the released guide's own fill.sh prints them over the translation f08fdac87c3eb29f… (all of the seat's roots in one cut). By AI agents, Wed Nov 11 2026. No macro, syntax, notation, axiom, sorry.
-/
import Derived.Test.YtkanlcfinogaeaaChecked
import GoSem.Claim
import GoSem.ClaimJoined
import GoSem.ClaimMapViews
import Derived.JoinedTies
import Derived.KernelRfl
namespace Go.Proofs.Ytkanlcfinogaeaa
/- THE CELL 'sum', in the pinned program and in every row, IS THE sha256 OF THE DUMP (.gsa) THAT YtkanlcfinogaeaaProg.lean LOADS. Nothing in Lean hashes anything: it is a label: what it is worth is what the hold of that sum in a sandbox is worth. -/
noncomputable def Try.pinned : Pinned := { name := "ytkanlcfinogaeaa", sum := "f08fdac87c3eb29ffe873c3f4ebd0f4f2176ce5eae313fec1a77f094ccaa3242", checked := Try.checked }
namespace Rows
def none {H : Type} : Left H := { results := [], args := [] }

/-- 'tripwirelaw11.UndoPlays': WHATEVER THE INPUT: true; the input reads as it did. -/
def undoPlaysSpec : ChangeSpec := { name := "undoPlays", fn := fun _ => fun
  | [d1, d2] => { results := [.lit (.bool true)], args := [d1, d2] }
  | _ => none }
def undoPlaysRow : OpenClaim := { program := "ytkanlcfinogaeaa", sum := "f08fdac87c3eb29ffe873c3f4ebd0f4f2176ce5eae313fec1a77f094ccaa3242", func := "tripwire/tripwirelaw11.UndoPlays", spec := "undoPlays", unfollowed := true, recurses := true, apart := false }
def UndoPlaysSaid : Prop := undoPlaysRow.holds Try.pinned (OpenSpec.ofChange undoPlaysSpec)

/-- ITS FALSE NEIGHBOUR: 'it returns false'. Refute it at one input. -/
def undoPlaysWrong : ChangeSpec := { name := "undoPlays", fn := fun _ => fun
  | [d1, d2] => { results := [.lit (.bool false)], args := [d1, d2] }
  | _ => none }
def UndoPlaysWrongFalsely : Prop := undoPlaysRow.holds Try.pinned (OpenSpec.ofChange undoPlaysWrong)

/-- 'tripwirelaw11.UndoNone': WHATEVER THE INPUT: true; the input reads as it did. -/
def undoNoneSpec : ChangeSpec := { name := "undoNone", fn := fun _ => fun
  | [d] => { results := [.lit (.bool true)], args := [d] }
  | _ => none }
def undoNoneRow : OpenClaim := { program := "ytkanlcfinogaeaa", sum := "f08fdac87c3eb29ffe873c3f4ebd0f4f2176ce5eae313fec1a77f094ccaa3242", func := "tripwire/tripwirelaw11.UndoNone", spec := "undoNone", unfollowed := true, recurses := true, apart := false }
def UndoNoneSaid : Prop := undoNoneRow.holds Try.pinned (OpenSpec.ofChange undoNoneSpec)

/-- ITS FALSE NEIGHBOUR: 'it returns false'. Refute it at one input. -/
def undoNoneWrong : ChangeSpec := { name := "undoNone", fn := fun _ => fun
  | [d] => { results := [.lit (.bool false)], args := [d] }
  | _ => none }
def UndoNoneWrongFalsely : Prop := undoNoneRow.holds Try.pinned (OpenSpec.ofChange undoNoneWrong)

/-- 'tripwirelaw11.UndoAgain': WHATEVER THE INPUT: true; the input reads as it did. -/
def undoAgainSpec : ChangeSpec := { name := "undoAgain", fn := fun _ => fun
  | [d1, d2, d3] => { results := [.lit (.bool true)], args := [d1, d2, d3] }
  | _ => none }
def undoAgainRow : OpenClaim := { program := "ytkanlcfinogaeaa", sum := "f08fdac87c3eb29ffe873c3f4ebd0f4f2176ce5eae313fec1a77f094ccaa3242", func := "tripwire/tripwirelaw11.UndoAgain", spec := "undoAgain", unfollowed := true, recurses := true, apart := false }
def UndoAgainSaid : Prop := undoAgainRow.holds Try.pinned (OpenSpec.ofChange undoAgainSpec)

/-- ITS FALSE NEIGHBOUR: 'it returns false'. Refute it at one input. -/
def undoAgainWrong : ChangeSpec := { name := "undoAgain", fn := fun _ => fun
  | [d1, d2, d3] => { results := [.lit (.bool false)], args := [d1, d2, d3] }
  | _ => none }
def UndoAgainWrongFalsely : Prop := undoAgainRow.holds Try.pinned (OpenSpec.ofChange undoAgainWrong)

/- THE SECOND FORM. 'bulk': how many values and letters a reading holds, each counted each time it is reached (what is shared counts as often as it is met; a slice's spare places count too). A statement '..UptoSaid' is the law's where the arguments, and the package variables that the reading takes, are together of bulk at most 1048576: NARROWER than '..Said'. Prove '..Said' where nothing that the law and all that it calls make is longer than what came in: it says more and counts as full. Else prove '..UptoSaid'. A law counts once. -/
mutual
def uptoBulk {H : Type} : DataW H → Nat
  | .lit (.string bytes) => bytes.length + 1
  | .lit _ => 1
  | .nil => 1
  | .ptr d => uptoBulk d + 1
  | .slice elems spare => uptoBulkAll elems + uptoBulkAll spare + 1
  | .agg parts => uptoBulkAll parts + 1
  | .iface _ d => uptoBulk d + 1
  | .map entries => uptoBulkEntries entries + 1
  | .held _ => 1
def uptoBulkAll {H : Type} : List (DataW H) → Nat
  | [] => 0
  | d :: r => uptoBulk d + uptoBulkAll r
def uptoBulkEntries {H : Type} : List (Lit × DataW H) → Nat
  | [] => 0
  | x :: r => uptoBulkEntry x + uptoBulkEntries r
def uptoBulkEntry {H : Type} : Lit × DataW H → Nat
  | (.string bytes, d) => bytes.length + uptoBulk d + 1
  | (_, d) => uptoBulk d + 1
 end
def uptoSmall : (H : Type) → List (DataW H) → Bool := fun _ ds => decide (uptoBulkAll ds ≤ 1048576)
def OpenSpec.upto (s : _root_.Go.ChangeSpec) : _root_.Go.OpenSpec := { _root_.Go.OpenSpec.ofChange s with cond := some uptoSmall }

/-- 'tripwirelaw11.UndoPlays', WHERE WHAT IT READS IS OF BULK AT MOST 1048576: true; the input reads as it did. -/
def undoPlaysUptoRow : OpenClaim := { program := "ytkanlcfinogaeaa", sum := "f08fdac87c3eb29ffe873c3f4ebd0f4f2176ce5eae313fec1a77f094ccaa3242", func := "tripwire/tripwirelaw11.UndoPlays", spec := "undoPlays", unfollowed := true, recurses := true, apart := false, narrowed := true }
def UndoPlaysUptoSaid : Prop := undoPlaysUptoRow.holds Try.pinned (OpenSpec.upto undoPlaysSpec)

/-- 'tripwirelaw11.UndoNone', WHERE WHAT IT READS IS OF BULK AT MOST 1048576: true; the input reads as it did. -/
def undoNoneUptoRow : OpenClaim := { program := "ytkanlcfinogaeaa", sum := "f08fdac87c3eb29ffe873c3f4ebd0f4f2176ce5eae313fec1a77f094ccaa3242", func := "tripwire/tripwirelaw11.UndoNone", spec := "undoNone", unfollowed := true, recurses := true, apart := false, narrowed := true }
def UndoNoneUptoSaid : Prop := undoNoneUptoRow.holds Try.pinned (OpenSpec.upto undoNoneSpec)

/-- 'tripwirelaw11.UndoAgain', WHERE WHAT IT READS IS OF BULK AT MOST 1048576: true; the input reads as it did. -/
def undoAgainUptoRow : OpenClaim := { program := "ytkanlcfinogaeaa", sum := "f08fdac87c3eb29ffe873c3f4ebd0f4f2176ce5eae313fec1a77f094ccaa3242", func := "tripwire/tripwirelaw11.UndoAgain", spec := "undoAgain", unfollowed := true, recurses := true, apart := false, narrowed := true }
def UndoAgainUptoSaid : Prop := undoAgainUptoRow.holds Try.pinned (OpenSpec.upto undoAgainSpec)

end Rows
end Go.Proofs.Ytkanlcfinogaeaa
