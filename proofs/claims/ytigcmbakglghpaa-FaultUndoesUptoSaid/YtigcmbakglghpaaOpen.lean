/-
  Arguments that came in, opened to cells: a slice of whatever element type, element by element; a struct of fields of one cell each.
-/
import Derived.Test.YtigcmbakglghpaaCommon
import Derived.ProofKit
import Derived.Deep.Slices
import Derived.ChangeSame
namespace Go.Proofs.Ytigcmbakglghpaa
open Go.RowKit Go.ChangeShapes Go.WideShapes Go.ChangeAt
set_option linter.unusedVariables false
set_option linter.unusedSimpArgs false

section
variable {H : Type} {enc : TypeId × Value → H} {P : Program} {w : World} {sp : Nat → Bool} {hd : Bool}

theorem addr_spot {w : World} {a : Addr} {v : Value} (h : w.cell? (a.add 0) = some v) : ∃ b off, a = ⟨b, off, none⟩ := by
  obtain ⟨b, off, s⟩ := a
  cases s with
  | none => exact ⟨b, off, rfl⟩
  | some s =>
    exfalso
    unfold World.cell? Addr.add at h
    simp at h
    split at h
    · cases h
    · cases h

/-- How the cells of one element, from offset o on in block b, stand in memory; and that they read. -/
def ElemAt (enc : TypeId × Value → H) (P : Program) (w : World) (sp : Nat → Bool) (hd : Bool) (e : TypeId) (b o : Nat) : Prop :=
  ∃ (cs : List Value) (n : Nat) (x : DataW H × List MemPlace), cs.length = P.cellsOf e ∧ (∀ j, j < P.cellsOf e → w.cell? ⟨b, o + j, none⟩ = cs[j]?) ∧ DataW.trod enc P w 0 sp hd n e cs = some x

/-- A slice of elements of one cell or more, opened: nil, or each element by its cells. -/
theorem slice_cells {t e : TypeId} {fuel : Nat} {a : Option Addr} {len cap : Nat} {x : DataW H × List MemPlace} (ht : P.underlying t = some (.slice e)) (hpos : 0 < P.cellsOf e) (h : DataW.trod enc P w 0 sp hd fuel t [.slice a len cap] = some x) :
    (a = none ∧ len = 0 ∧ cap = 0) ∨ (len ≤ cap ∧ cap ≤ maxLen ∧ ∃ ad, a = some ad ∧ ∀ i, i < len → ∃ b off, ad = ⟨b, off, none⟩ ∧ b < w.heap.size ∧ ElemAt enc P w sp hd e b (off + i * P.cellsOf e)) := by
  rcases Go.Deep.open_slice ht h with ⟨hcs, _⟩ | ⟨ad, l, c, m, n, D, Pl, hcs, _, hl, hm, hmm, _, hi⟩
  · simp at hcs
    exact .inl hcs
  · simp at hcs
    obtain ⟨rfl, rfl, rfl⟩ := hcs
    refine .inr ⟨hl, hm, ad, rfl, fun i hlt => ?_⟩
    have hlm : len ≤ m := by rw [hmm]; split <;> omega
    have at0 : ∃ v, w.cell? (ad.add 0) = some v := by
      obtain ⟨cs', hc, _⟩ := hi 0 (by omega)
      obtain ⟨_, hcl, hat⟩ := World.cells?_some hc
      have h0 := hat 0 hpos
      rw [Nat.zero_mul, Go.Deep.add_add] at h0
      rw [h0, List.getElem?_eq_getElem (by omega)]
      exact ⟨_, rfl⟩
    obtain ⟨v, hv⟩ := at0
    obtain ⟨b, off, rfl⟩ := addr_spot hv
    obtain ⟨cs', hc, ht'⟩ := hi i (by omega)
    obtain ⟨_, hcl, hat⟩ := World.cells?_some hc
    have hbl : b < w.heap.size := by
      have := World.block_lt_of_cell? w _ hv
      rwa [Addr.add_lit] at this
    refine ⟨b, off, rfl, hbl, cs', n, _, hcl, fun j hj => ?_, ht'⟩
    have := hat j hj
    rw [Go.Deep.add_add, Addr.add_lit, ← Nat.add_assoc] at this
    exact this
end
end Go.Proofs.Ytigcmbakglghpaa
