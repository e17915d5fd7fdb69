/-
  Words on memory that this seat's walks use: what a block holds behind an allocation, a store, a call; and what lies in it, cell by cell. No program is named here.
-/
import Derived.WalkKit
import Derived.Defers
import Derived.Recover
import Derived.Laws.Pointers
import Derived.Laws.StructEq
import Derived.WalkLawsBesides
import Derived.Lib.Hide
import Derived.Outline
import Derived.Laws.AppendOwn
import Derived.Deep.AppendLies
import Derived.StillTailTactics
namespace Go.Proofs.Ytigcmbakglghpaa
open Go.RowKit
set_option linter.unusedVariables false
set_option linter.unusedSimpArgs false

/-! ### Blocks -/
theorem heap_alloc_new (w : World) (o : Obj) : (w.alloc o).heap[w.heap.size]? = some o := by
  show (w.heap.push o)[w.heap.size]? = _
  simp
theorem heap_alloc_at (w : World) (o : Obj) (k : Nat) (h : k = w.heap.size) : (w.alloc o).heap[k]? = some o := by subst h; exact heap_alloc_new _ _
theorem lt_of_block {w : World} {B : Nat} {o : Obj} (h : w.heap[B]? = some o) : B < w.heap.size := by
  rcases Nat.lt_or_ge B w.heap.size with h' | h'
  · exact h'
  · rw [Array.getElem?_eq_none h'] at h; cases h
/-- What lay there lies there behind an allocation. -/
theorem blk_alloc {w : World} {B : Nat} {o : Obj} (h : w.heap[B]? = some o) (x : Obj) : (w.alloc x).heap[B]? = some o := (Below.heap_alloc _ _ _ (lt_of_block h)).trans h
theorem blk_set_ne {w : World} {B : Nat} {o : Obj} (h : w.heap[B]? = some o) {C : Nat} (i : Nat) (v : Value) (hne : B ≠ C) : (w.setCell ⟨C, i, none⟩ v).heap[B]? = some o := (Below.heap_setCell _ _ _ _ hne).trans h
theorem blk_set {w : World} {B : Nat} {cs : Array Value} {t : TypeId} {fr : Nat × Nat} (h : w.heap[B]? = some (.cells cs t fr)) (i : Nat) (v : Value) : (w.setCell ⟨B, i, none⟩ v).heap[B]? = some (.cells (cs.setIfInBounds i v) t fr) := by
  simp only [World.setCell, Array.getElem?_modify, if_true, h, Option.map_some]
  rfl
theorem blk_drew {w : World} {B : Nat} {o : Obj} (h : w.heap[B]? = some o) : w.drew.heap[B]? = some o := h
theorem blk_below {w w' : World} {B k : Nat} {o : Obj} (h : w.heap[B]? = some o) (hb : Below k w w') (hk : B < k) : w'.heap[B]? = some o := (hb.block B hk).trans h

theorem cell_of_block {w : World} {B : Nat} {cs : Array Value} {t : TypeId} {fr : Nat × Nat} (h : w.heap[B]? = some (.cells cs t fr)) (i : Nat) : w.cell? ⟨B, i, none⟩ = cs[i]? := by
  unfold World.cell?; simp [h]
theorem free_of_block {w : World} {B : Nat} {cs : Array Value} {t : TypeId} (h : w.heap[B]? = some (.cells cs t)) (i : Nat) : w.frozen? ⟨B, i, none⟩ = false := by
  unfold World.frozen?; simp [h]
/-- A block of one cell. -/
theorem one_of_block {w : World} {B : Nat} {v : Value} {t : TypeId} (h : w.heap[B]? = some (.cells #[v] t)) : w.cell? ⟨B, 0, none⟩ = some v ∧ w.frozen? ⟨B, 0, none⟩ = false ∧ B < w.heap.size := ⟨cell_of_block h 0, free_of_block h 0, lt_of_block h⟩
/-- A block of two cells. -/
theorem two_of_block {w : World} {B : Nat} {v u : Value} {t : TypeId} (h : w.heap[B]? = some (.cells #[v, u] t)) : w.cell? ⟨B, 0, none⟩ = some v ∧ w.cell? ⟨B, 1, none⟩ = some u ∧ w.frozen? ⟨B, 0, none⟩ = false ∧ w.frozen? ⟨B, 1, none⟩ = false ∧ B < w.heap.size := ⟨cell_of_block h 0, cell_of_block h 1, free_of_block h 0, free_of_block h 1, lt_of_block h⟩

/-- A block of three cells. -/
theorem three_of_block {w : World} {B : Nat} {x y z : Value} {t : TypeId} (h : w.heap[B]? = some (.cells #[x, y, z] t)) : w.cell? ⟨B, 0, none⟩ = some x ∧ w.cell? ⟨B, 1, none⟩ = some y ∧ w.cell? ⟨B, 2, none⟩ = some z ∧ w.frozen? ⟨B, 0, none⟩ = false ∧ w.frozen? ⟨B, 1, none⟩ = false ∧ w.frozen? ⟨B, 2, none⟩ = false ∧ B < w.heap.size :=
  ⟨cell_of_block h 0, cell_of_block h 1, cell_of_block h 2, free_of_block h 0, free_of_block h 1, free_of_block h 2, lt_of_block h⟩
theorem own_form {w : World} {base : Nat} {e : TypeId} {size : Nat} {v : Value} {n : Nat} {xs : List Value} (h : w.ownsRow base e size v n xs) : ∃ A cap, v = .slice A n cap := by
  rcases h.2 with ⟨rfl, rfl⟩ | ⟨g, cap, cur, rfl, _⟩
  · exact ⟨_, _, rfl⟩
  · exact ⟨_, _, rfl⟩

/-! ### What may have turned -/
/-- Of the blocks that were there those of S alone may differ (and new ones may have come). -/
structure Chg (S : Nat → Prop) (w w' : World) : Prop where
  os : w'.os = w.os
  tape : w'.tape = w.tape
  output : w'.output = w.output
  size : w.heap.size ≤ w'.heap.size
  block : ∀ k, k < w.heap.size → ¬ S k → w'.heap[k]? = w.heap[k]?

theorem Chg.refl (S : Nat → Prop) (w : World) : Chg S w w := ⟨rfl, rfl, rfl, Nat.le_refl _, fun _ _ _ => rfl⟩
theorem Chg.trans {S : Nat → Prop} {a b c : World} (h : Chg S a b) (k : Chg S b c) : Chg S a c :=
  ⟨k.os.trans h.os, k.tape.trans h.tape, k.output.trans h.output, Nat.le_trans h.size k.size, fun i hi hS => (k.block i (Nat.lt_of_lt_of_le hi h.size) hS).trans (h.block i hi hS)⟩
theorem Chg.mono {S T : Nat → Prop} {w w' : World} (h : Chg S w w') (hST : ∀ k, k < w.heap.size → S k → T k) : Chg T w w' := ⟨h.os, h.tape, h.output, h.size, fun k hk hT => h.block k hk (fun hS => hT (hST k hk hS))⟩
theorem Chg.seq {S T : Nat → Prop} {a b c : World} (h : Chg S a b) (k : Chg T b c) (hT : ∀ i, i < a.heap.size → T i → S i) : Chg S a c :=
  ⟨k.os.trans h.os, k.tape.trans h.tape, k.output.trans h.output, Nat.le_trans h.size k.size, fun i hi hS => (k.block i (Nat.lt_of_lt_of_le hi h.size) (fun ht => hS (hT i hi ht))).trans (h.block i hi hS)⟩
theorem Chg.alloc {S : Nat → Prop} {w w' : World} (h : Chg S w w') (o : Obj) : Chg S w (w'.alloc o) :=
  ⟨h.os, h.tape, h.output, by simp; have := h.size; omega, fun k hk hB => (Below.heap_alloc _ _ _ (by have := h.size; omega)).trans (h.block k hk hB)⟩
theorem Chg.drew {S : Nat → Prop} {w w' : World} (h : Chg S w w') : Chg S w w'.drew := ⟨h.os, h.tape, h.output, h.size, h.block⟩
theorem Chg.setCell {S : Nat → Prop} {w w' : World} (h : Chg S w w') {B : Nat} (hB : w.heap.size ≤ B ∨ S B) (i : Nat) (v : Value) : Chg S w (w'.setCell ⟨B, i, none⟩ v) :=
  ⟨h.os, h.tape, h.output, by simp; exact h.size, fun k hk hS => (Below.heap_setCell _ _ _ _ (by rintro rfl; rcases hB with h | h; omega; exact hS h)).trans (h.block k hk hS)⟩
theorem Chg.cell {S : Nat → Prop} {w w' : World} (h : Chg S w w') {b i : Nat} (hlt : b < w.heap.size) (hne : ¬ S b) : w'.cell? ⟨b, i, none⟩ = w.cell? ⟨b, i, none⟩ := World.cell?_of_block (w := w) (a := ⟨b, i, none⟩) (h.block b hlt hne)
theorem Chg.frozen {S : Nat → Prop} {w w' : World} (h : Chg S w w') {b i : Nat} (hlt : b < w.heap.size) (hne : ¬ S b) : w'.frozen? ⟨b, i, none⟩ = w.frozen? ⟨b, i, none⟩ := World.frozen?_of_block (w := w) (a := ⟨b, i, none⟩) (h.block b hlt hne)
theorem Chg.below {S : Nat → Prop} {k : Nat} {w w' : World} (h : Chg S w w') (hS : ∀ i, i < k → ¬ S i) (hk : k ≤ w.heap.size) : Below k w w' := ⟨h.os, h.tape, h.output, h.size, fun i hi => h.block i (by omega) (hS i hi)⟩
theorem Chg.ofBelow {S : Nat → Prop} {k : Nat} {w w' : World} (h : Below k w w') (hS : ∀ i, i < w.heap.size → k ≤ i → S i) : Chg S w w' := ⟨h.os, h.tape, h.output, h.size, fun i hi hn => h.block i (Nat.lt_of_not_le (fun hk => hn (hS i hi hk)))⟩
theorem Chg.ofGrown {S : Nat → Prop} {w w' : World} {row : Option Nat} (h : w.grownBy w' row) (hS : ∀ i, row = some i → S i) : Chg S w w' := ⟨h.os, h.tape, h.output, h.size, fun k hk hn => h.block k hk (fun e => hn (hS k e.symm))⟩
theorem blk_chg {S : Nat → Prop} {w w' : World} {B : Nat} {o : Obj} (h : w.heap[B]? = some o) (hb : Chg S w w') (hne : ¬ S B) : w'.heap[B]? = some o := (hb.block B (lt_of_block h) hne).trans h
theorem blk_grown {w w' : World} {row : Option Nat} {B : Nat} {o : Obj} (h : w.heap[B]? = some o) (hb : w.grownBy w' row) (hne : some B ≠ row) : w'.heap[B]? = some o := (hb.block B (lt_of_block h) hne).trans h
/-- What is owned lies in a block of its element's type: another block than one of another type. -/
theorem owns_ne {w : World} {base : Nat} {e t : TypeId} {size : Nat} {v : Value} {n : Nat} {xs : List Value} (h : w.ownsRow base e size v n xs) {B : Nat} {cs : Array Value} {fr : Nat × Nat} (hB : w.heap[B]? = some (.cells cs t fr)) (hne : t ≠ e) : some B ≠ v.ownBlock := by
  intro he
  rcases h.2 with ⟨rfl, _⟩ | ⟨g, cap, cur, rfl, _, hg, _⟩
  · simp [Value.ownBlock] at he
  · simp [Value.ownBlock] at he
    subst he
    rw [hB] at hg
    injection hg with hg
    injection hg with _ hg
    exact hne hg

theorem owns_same {w w' : World} {base : Nat} {e : TypeId} {size : Nat} {v : Value} {n : Nat} {xs : List Value} (h : w.ownsRow base e size v n xs) (hk : ∀ k, v.ownBlock = some k → w'.heap[k]? = w.heap[k]?) : w'.ownsRow base e size v n xs := by
  refine ⟨h.1, ?_⟩
  rcases h.2 with hn | ⟨g, cap, cur, rfl, hb, hg, rest⟩
  · exact .inl hn
  · exact .inr ⟨g, cap, cur, rfl, hb, (hk g rfl).trans hg, rest⟩

/-- Block B alone, of those that were there, may differ. -/
abbrev But (B : Nat) (w w' : World) : Prop := Chg (fun k => k = B) w w'
theorem But.refl (B : Nat) (w : World) : But B w w := Chg.refl _ w
theorem But.setCell {B : Nat} {w w' : World} (h : But B w w') (i : Nat) (v : Value) : But B w (w'.setCell ⟨B, i, none⟩ v) := Chg.setCell h (.inr rfl) i v
theorem But.below {B k : Nat} {w w' : World} (h : But B w w') (hB : k ≤ B) (hk : k ≤ w.heap.size) : Below k w w' := Chg.below h (fun i hi => by omega) hk
theorem blk_but {w w' : World} {B C : Nat} {o : Obj} (h : w.heap[B]? = some o) (hb : But C w w') (hne : B ≠ C) : w'.heap[B]? = some o := blk_chg h hb hne

/-- A footprint that grows: outside of it nothing turns; what joins it is new. -/
structure Grows (own own' : Nat → Prop) (w w' : World) : Prop where
  chg : Chg own w w'
  news : ∀ k, own' k → own k ∨ w.heap.size ≤ k
theorem Grows.refl (own : Nat → Prop) (w : World) : Grows own own w w := ⟨Chg.refl _ _, fun _ h => .inl h⟩
theorem Grows.trans {o1 o2 o3 : Nat → Prop} {a b c : World} (h : Grows o1 o2 a b) (k : Grows o2 o3 b c) : Grows o1 o3 a c :=
  ⟨⟨k.chg.os.trans h.chg.os, k.chg.tape.trans h.chg.tape, k.chg.output.trans h.chg.output, Nat.le_trans h.chg.size k.chg.size, fun i hi hS => (k.chg.block i (Nat.lt_of_lt_of_le hi h.chg.size) (fun h2 => by rcases h.news i h2 with h3 | h3; exact hS h3; omega)).trans (h.chg.block i hi hS)⟩,
   fun i hi => by rcases k.news i hi with h2 | h2; exact h.news i h2; exact .inr (Nat.le_trans h.chg.size h2)⟩
theorem Grows.after {o1 o2 : Nat → Prop} {a b c : World} (h : Grows o1 o2 a b) (k : Chg (fun i => a.heap.size ≤ i) b c) : Grows o1 o2 a c :=
  ⟨⟨k.os.trans h.chg.os, k.tape.trans h.chg.tape, k.output.trans h.chg.output, Nat.le_trans h.chg.size k.size, fun i hi hS => (k.block i (Nat.lt_of_lt_of_le hi h.chg.size) (by omega)).trans (h.chg.block i hi hS)⟩, h.news⟩
theorem Grows.before {o1 o2 : Nat → Prop} {a b c : World} (h : Chg (fun _ => False) a b) (k : Grows o1 o2 b c) : Grows o1 o2 a c :=
  ⟨(h.mono (fun _ _ hf => hf.elim)).trans k.chg, fun i hi => by rcases k.news i hi with h2 | h2; exact .inl h2; exact .inr (Nat.le_trans h.size h2)⟩
theorem blk_grows {o1 o2 : Nat → Prop} {w w' : World} {B : Nat} {o : Obj} (h : w.heap[B]? = some o) (hb : Grows o1 o2 w w') (hne : ¬ o1 B) : w'.heap[B]? = some o := blk_chg h hb.chg hne

/-! ### Operations whose run the walk takes as it stands -/
theorem unary_not {P : Program} (x : Bool) (w : World) : (Op.unary .not (.bool x)).run P w = .ok (.bool (!x)) w := rfl
theorem make_func {P : Program} (fn : Fn) (first cap : Array Value) (w : World) : (Instr.makeFunc fn first cap).run P w = .ok (.func fn first cap) w := rfl
/-- A region that draws its order, whose first n operations only read, and whose others stand behind those in one order. -/
theorem region_tail {P : Program} {id : Nat} {Q : Exit → Act → World → Prop} {a : Act} {w : World} {l : List Oper} (n : Nat) (hm : P.follows .mixedOrders = true) (hB : Region.lexTailB .any l.toArray n = true)
    (h : wpStill P l.toArray w.drew (fun a' => wpList P l.toArray Q (l.drop n) a' w.drew) (l.take n) a) : (Code.region id l.toArray true).wp P Q a w := wp_region_still_tail n hm hB h
end Go.Proofs.Ytigcmbakglghpaa
