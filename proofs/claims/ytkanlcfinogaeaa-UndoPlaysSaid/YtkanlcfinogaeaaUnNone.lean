/-
  Law package 11: the law UndoNone.
-/
import Derived.Test.YtkanlcfinogaeaaUnOpen
namespace Go.Proofs.Ytkanlcfinogaeaa
open Go.RowKit Go.ChangeShapes Go.WideShapes Go.ChangeAt
set_option linter.unusedVariables false
set_option linter.unusedSimpArgs false

theorem undoNone_any (o : UOp) (hn : (Lit.int .i64 o.n).wf = true) (w : World) :
    Calls Try.prog 4 #[.agg #[.int .i64 o.k, .int .i64 o.n, .string o.name, .int .i64 o.x.e.kind, .int .i64 o.x.e.id, .string o.x.e.table, .slice o.x.oa o.x.e.old.length o.x.oc, .slice o.x.na o.x.e.new.length o.x.nc]] w fun e w' => e = .returned (.bool true) ∧ Below w.heap.size w w' := by
  have hnot := @unary_not Try.prog
  have HN := Lib.hid hn
  clear hn
  have hb0 : Below w.heap.size w (w.alloc (.cells o.cells.toArray 37)) := (Below.refl _ _).alloc (Nat.le_refl _) _
  have hk0 : (w.alloc (.cells o.cells.toArray 37)).heap[w.heap.size]? = some (.cells o.cells.toArray 37) := heap_alloc_new _ _
  have HB0 := Lib.hid hb0
  have HK0 := Lib.hid hk0
  clear hb0 hk0
  go_enter Try.func4, Try.ntmps4
  go_wp2_with fail
  refine (awake_any _).mono ?_
  rintro e w1 ⟨rfl, hb1⟩
  have HB1 : Hid (Below w.heap.size w w1) := HB0.out.trans (hb1.mono HB0.out.size)
  have hk1 : w1.heap[w.heap.size]? = some (.cells o.cells.toArray 37) := (hb1.block _ (lt_of_block HK0.out)).trans HK0.out
  have HK1 := Lib.hid hk1
  have c0 := cell_of_block hk1 0
  have c1 : w1.cell? ⟨w.heap.size, 1, none⟩ = some (.int .i64 o.n) := cell_of_block hk1 1
  have c2 : w1.cell? ⟨w.heap.size, 2, none⟩ = some (.string o.name) := cell_of_block hk1 2
  have c3 : w1.cell? ⟨w.heap.size, 3, none⟩ = some (.int .i64 o.x.e.kind) := cell_of_block hk1 3
  have c4 : w1.cell? ⟨w.heap.size, 4, none⟩ = some (.int .i64 o.x.e.id) := cell_of_block hk1 4
  have c5 : w1.cell? ⟨w.heap.size, 5, none⟩ = some (.string o.x.e.table) := cell_of_block hk1 5
  have c6 : w1.cell? ⟨w.heap.size, 6, none⟩ = some (.slice o.x.oa o.x.e.old.length o.x.oc) := cell_of_block hk1 6
  have c7 : w1.cell? ⟨w.heap.size, 7, none⟩ = some (.slice o.x.na o.x.e.new.length o.x.nc) := cell_of_block hk1 7
  clear hb1 hk1 c0
  go_wp2_with fail
  refine (save_nil _ _).mono ?_
  rintro e w2 ⟨rfl, rfl⟩
  go_wp2_with fail
  refine (back_nil _ _).mono ?_
  rintro e w2 ⟨rfl, rfl⟩
  go_wp2_with fail
  refine (add_nil _ _ _ _ _ _ _ _ _ _).mono ?_
  rintro e w2 ⟨rfl, hb2⟩
  have HB2 : Hid (Below w.heap.size w w2) := HB1.out.trans (hb2.mono HB1.out.size)
  have d1 : w2.cell? ⟨w.heap.size, 1, none⟩ = some (.int .i64 o.n) := cell_of_block ((hb2.block _ (lt_of_block HK1.out)).trans HK1.out) 1
  clear hb2
  go_wp2_with fail
  refine (len_nil _).mono ?_
  rintro e w3 ⟨rfl, rfl⟩
  go_wp2_with fail
  refine (to_nil _ _).mono ?_
  rintro e w3 ⟨rfl, hb3⟩
  have HB3 : Hid (Below w.heap.size w w3) := HB2.out.trans (hb3.mono HB2.out.size)
  clear hb3
  go_wp2_with fail
  refine (saves_nil _).mono ?_
  rintro e w4 ⟨rfl, rfl⟩
  go_wp2_with fail
  go_ret
  exact ⟨rfl, HB3.out⟩
theorem undoNone_walk {H : Type} {enc : TypeId × Value → H} {sp0 : Nat → Bool} {hd0 : Bool} {d0 : DataW H} {p0 : List MemPlace} {b0 : Nat} (v0 : Value) (w : World)
    (hv0 : Value.okWide Try.prog w .any b0 37 v0) (h0 : DataW.Trod enc Try.prog w 0 sp0 hd0 37 v0 d0 p0) :
    Calls Try.prog 4 #[v0] w fun e w' => e = .returned (.bool true) ∧ Below w.heap.size w w' := by
  obtain ⟨o, rfl, hn, _⟩ := open_op hv0 h0
  exact undoNone_any o hn w
end Go.Proofs.Ytkanlcfinogaeaa
