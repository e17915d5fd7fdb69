/-
  Words on memory that this seat's walks use: what a block holds behind an allocation, a store, a call; and what lies in it, cell by cell. No program is named here.
-/
import Derived.WalkKit
import Derived.Defers
import Derived.Recover
import Derived.Laws.Pointers
import Derived.Laws.StructEq
import Derived.WalkLawsBesides
import Derived.Lib.Hide
import Derived.Outline
namespace Go.Proofs.Ytigcmbakglghpaa
open Go.RowKit

/-! ### Blocks -/
theorem heap_alloc_new (w : World) (o : Obj) : (w.alloc o).heap[w.heap.size]? = some o := by
  show (w.heap.push o)[w.heap.size]? = _
  simp
theorem heap_alloc_at (w : World) (o : Obj) (k : Nat) (h : k = w.heap.size) : (w.alloc o).heap[k]? = some o := by subst h; exact heap_alloc_new _ _
theorem lt_of_block {w : World} {B : Nat} {o : Obj} (h : w.heap[B]? = some o) : B < w.heap.size := by
  rcases Nat.lt_or_ge B w.heap.size with h' | h'
  · exact h'
  · rw [Array.getElem?_eq_none h'] at h; cases h
/-- What lay there lies there behind an allocation. -/
theorem blk_alloc {w : World} {B : Nat} {o : Obj} (h : w.heap[B]? = some o) (x : Obj) : (w.alloc x).heap[B]? = some o := (Below.heap_alloc _ _ _ (lt_of_block h)).trans h
theorem blk_set_ne {w : World} {B : Nat} {o : Obj} (h : w.heap[B]? = some o) {C : Nat} (i : Nat) (v : Value) (hne : B ≠ C) : (w.setCell ⟨C, i, none⟩ v).heap[B]? = some o := (Below.heap_setCell _ _ _ _ hne).trans h
theorem blk_set {w : World} {B : Nat} {cs : Array Value} {t : TypeId} {fr : Nat × Nat} (h : w.heap[B]? = some (.cells cs t fr)) (i : Nat) (v : Value) : (w.setCell ⟨B, i, none⟩ v).heap[B]? = some (.cells (cs.setIfInBounds i v) t fr) := by
  simp only [World.setCell, Array.getElem?_modify, if_true, h, Option.map_some]
  rfl
theorem blk_drew {w : World} {B : Nat} {o : Obj} (h : w.heap[B]? = some o) : w.drew.heap[B]? = some o := h
theorem blk_below {w w' : World} {B k : Nat} {o : Obj} (h : w.heap[B]? = some o) (hb : Below k w w') (hk : B < k) : w'.heap[B]? = some o := (hb.block B hk).trans h

theorem cell_of_block {w : World} {B : Nat} {cs : Array Value} {t : TypeId} {fr : Nat × Nat} (h : w.heap[B]? = some (.cells cs t fr)) (i : Nat) : w.cell? ⟨B, i, none⟩ = cs[i]? := by
  unfold World.cell?; simp [h]
theorem free_of_block {w : World} {B : Nat} {cs : Array Value} {t : TypeId} (h : w.heap[B]? = some (.cells cs t)) (i : Nat) : w.frozen? ⟨B, i, none⟩ = false := by
  unfold World.frozen?; simp [h]
/-- A block of one cell. -/
theorem one_of_block {w : World} {B : Nat} {v : Value} {t : TypeId} (h : w.heap[B]? = some (.cells #[v] t)) : w.cell? ⟨B, 0, none⟩ = some v ∧ w.frozen? ⟨B, 0, none⟩ = false ∧ B < w.heap.size := ⟨cell_of_block h 0, free_of_block h 0, lt_of_block h⟩
/-- A block of two cells. -/
theorem two_of_block {w : World} {B : Nat} {v u : Value} {t : TypeId} (h : w.heap[B]? = some (.cells #[v, u] t)) : w.cell? ⟨B, 0, none⟩ = some v ∧ w.cell? ⟨B, 1, none⟩ = some u ∧ w.frozen? ⟨B, 0, none⟩ = false ∧ w.frozen? ⟨B, 1, none⟩ = false ∧ B < w.heap.size := ⟨cell_of_block h 0, cell_of_block h 1, free_of_block h 0, free_of_block h 1, lt_of_block h⟩

/-! ### One block of those that were there may have turned -/
/-- Block B alone, of those that were there, may differ (and new ones may have come). -/
structure But (B : Nat) (w w' : World) : Prop where
  os : w'.os = w.os
  tape : w'.tape = w.tape
  output : w'.output = w.output
  size : w.heap.size ≤ w'.heap.size
  block : ∀ k, k < w.heap.size → k ≠ B → w'.heap[k]? = w.heap[k]?

theorem But.refl (B : Nat) (w : World) : But B w w := ⟨rfl, rfl, rfl, Nat.le_refl _, fun _ _ _ => rfl⟩
theorem But.alloc {B : Nat} {w w' : World} (h : But B w w') (o : Obj) : But B w (w'.alloc o) :=
  ⟨h.os, h.tape, h.output, by simp; have := h.size; omega, fun k hk hB => (Below.heap_alloc _ _ _ (by have := h.size; omega)).trans (h.block k hk hB)⟩
theorem But.setCell {B : Nat} {w w' : World} (h : But B w w') (i : Nat) (v : Value) : But B w (w'.setCell ⟨B, i, none⟩ v) :=
  ⟨h.os, h.tape, h.output, by simp; exact h.size, fun k hk hB => (Below.heap_setCell _ _ _ _ hB).trans (h.block k hk hB)⟩
theorem But.drew {B : Nat} {w w' : World} (h : But B w w') : But B w w'.drew := ⟨h.os, h.tape, h.output, h.size, h.block⟩
theorem But.cell {B : Nat} {w w' : World} (h : But B w w') {b i : Nat} (hlt : b < w.heap.size) (hne : b ≠ B) : w'.cell? ⟨b, i, none⟩ = w.cell? ⟨b, i, none⟩ := World.cell?_of_block (w := w) (a := ⟨b, i, none⟩) (h.block b hlt hne)
theorem But.frozen {B : Nat} {w w' : World} (h : But B w w') {b i : Nat} (hlt : b < w.heap.size) (hne : b ≠ B) : w'.frozen? ⟨b, i, none⟩ = w.frozen? ⟨b, i, none⟩ := World.frozen?_of_block (w := w) (a := ⟨b, i, none⟩) (h.block b hlt hne)
theorem But.below {B k : Nat} {w w' : World} (h : But B w w') (hB : k ≤ B) (hk : k ≤ w.heap.size) : Below k w w' := ⟨h.os, h.tape, h.output, h.size, fun i hi => h.block i (by omega) (by omega)⟩
theorem blk_but {w w' : World} {B C : Nat} {o : Obj} (h : w.heap[B]? = some o) (hb : But C w w') (hne : B ≠ C) : w'.heap[B]? = some o := (hb.block B (lt_of_block h) hne).trans h

/-! ### Operations whose run the walk takes as it stands -/
theorem unary_not {P : Program} (x : Bool) (w : World) : (Op.unary .not (.bool x)).run P w = .ok (.bool (!x)) w := rfl
theorem make_func {P : Program} (fn : Fn) (first cap : Array Value) (w : World) : (Instr.makeFunc fn first cap).run P w = .ok (.func fn first cap) w := rfl
end Go.Proofs.Ytigcmbakglghpaa
