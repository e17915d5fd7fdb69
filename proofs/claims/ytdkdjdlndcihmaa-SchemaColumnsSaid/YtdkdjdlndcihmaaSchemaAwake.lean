/-
  The walk of the example that all laws of layer 7 ask first, and the law SchemaNames.
-/
import Derived.Test.YtdkdjdlndcihmaaFit
import Derived.Test.YtdkdjdlndcihmaaSchemaName
namespace Go.Proofs.Ytdkdjdlndcihmaa
open Go.RowKit
set_option linter.unusedVariables false
set_option linter.unusedSimpArgs false

theorem readsC_two {w : World} {B : Nat} {t : TypeId} {c d : Col} (h : w.heap[B]? = some (.cells #[.string c.name, .int .i64 c.typ, .bool c.nn, .bool c.uq, .string d.name, .int .i64 d.typ, .bool d.nn, .bool d.uq] t)) : ReadsC w (some ⟨B, 0, none⟩) [c, d] := by
  intro i x hx
  have hl := lt_of_block h
  match i, hx with
  | 0, hx =>
    obtain rfl : c = x := by simpa using hx
    exact ⟨B, 0, rfl, hl, cell_of_block h 0, cell_of_block h 1, cell_of_block h 2, cell_of_block h 3⟩
  | 1, hx =>
    obtain rfl : d = x := by simpa using hx
    exact ⟨B, 0, rfl, hl, cell_of_block h 4, cell_of_block h 5, cell_of_block h 6, cell_of_block h 7⟩
  | i + 2, hx => simp at hx
theorem readsV_two {w : World} {B : Nat} {t : TypeId} {c d : Val} (h : w.heap[B]? = some (.cells #[.int .i64 c.kind, .int .i64 c.n, .string c.s, .int .i64 d.kind, .int .i64 d.n, .string d.s] t)) : ReadsV w (some ⟨B, 0, none⟩) [c, d] := by
  intro i x hx
  have hl := lt_of_block h
  match i, hx with
  | 0, hx =>
    obtain rfl : c = x := by simpa using hx
    exact ⟨B, 0, rfl, hl, cell_of_block h 0, cell_of_block h 1, cell_of_block h 2⟩
  | 1, hx =>
    obtain rfl : d = x := by simpa using hx
    exact ⟨B, 0, rfl, hl, cell_of_block h 3, cell_of_block h 4, cell_of_block h 5⟩
  | i + 2, hx => simp at hx

def colA : Col := ⟨⟨#[97]⟩, 2, true, false⟩
def colB : Col := ⟨⟨#[98]⟩, 3, false, false⟩
def one : Val := ⟨2, 1, ⟨#[]⟩⟩
def nul : Val := ⟨0, 0, ⟨#[]⟩⟩

theorem awake_calls (w : World) :
    Calls Try.prog 6 #[] w fun e w' => e = .returned (.bool true) ∧ Below w.heap.size w w' := by
  have hnot := @unary_not Try.prog
  have hn : ∀ w, Calls Try.prog 7 #[.string ⟨#[97, 95, 49]⟩] w fun e w' => e = .returned (.bool true) ∧ w = w' := fun w => name_any ⟨#[97, 95, 49]⟩ w (by decide)
  have HN := Lib.hid hn; clear hn
  go_enter Try.func6, Try.ntmps6
  go_wp2_with fail
  have C0 := readsC_two (c := colA) (d := colB) (blk_alloc (blk_alloc (heap_alloc_new w (.cells #[.string ⟨#[97]⟩, .int .i64 2, .bool true, .bool false, .string ⟨#[98]⟩, .int .i64 3, .bool false, .bool false] 35)) (.cells #[.int .i64 2, .int .i64 1, .string ⟨#[]⟩] 37)) (.cells #[.int .i64 2, .int .i64 1, .string ⟨#[]⟩, .int .i64 0, .int .i64 0, .string ⟨#[]⟩] 37))
  have V0 := readsV_two (c := one) (d := nul) (heap_alloc_at ((w.alloc (.cells #[.string ⟨#[97]⟩, .int .i64 2, .bool true, .bool false, .string ⟨#[98]⟩, .int .i64 3, .bool false, .bool false] 35)).alloc (.cells #[.int .i64 2, .int .i64 1, .string ⟨#[]⟩] 37)) (.cells #[.int .i64 2, .int .i64 1, .string ⟨#[]⟩, .int .i64 0, .int .i64 0, .string ⟨#[]⟩] 37) (w.heap.size + 1 + 1) (by simp))
  have X0 := blk_alloc (heap_alloc_at (w.alloc (.cells #[.string ⟨#[97]⟩, .int .i64 2, .bool true, .bool false, .string ⟨#[98]⟩, .int .i64 3, .bool false, .bool false] 35)) (.cells #[.int .i64 2, .int .i64 1, .string ⟨#[]⟩] 37) (w.heap.size + 1) (by simp)) (.cells #[.int .i64 2, .int .i64 1, .string ⟨#[]⟩, .int .i64 0, .int .i64 0, .string ⟨#[]⟩] 37)
  have B0 : Below w.heap.size w (((w.alloc (.cells #[.string ⟨#[97]⟩, .int .i64 2, .bool true, .bool false, .string ⟨#[98]⟩, .int .i64 3, .bool false, .bool false] 35)).alloc (.cells #[.int .i64 2, .int .i64 1, .string ⟨#[]⟩] 37)).alloc (.cells #[.int .i64 2, .int .i64 1, .string ⟨#[]⟩, .int .i64 0, .int .i64 0, .string ⟨#[]⟩] 37)) := (((Below.refl _ _).alloc (Nat.le_refl _) _).alloc (by simp) _).alloc (by simp; omega) _
  have F0 := fit_any (some ⟨w.heap.size, 0, none⟩) (some ⟨w.heap.size + 1 + 1, 0, none⟩) 2 2 [colA, colB] [one, nul] _ C0 V0 (by decide) (by decide)
  rw [show fitB [colA, colB] [one, nul] = 0 from by decide] at F0
  refine F0.mono ?_
  rintro e w1 ⟨rfl, b1⟩
  have C1 := C0.below b1
  have X1 := blk_below X0 b1 (by simp)
  have z1 := b1.size
  simp only [World.size_alloc] at z1
  have B1 := B0.trans (b1.mono (by simp; omega))
  clear C0 V0 X0 B0 F0 b1
  obtain ⟨q0, q1, q2, qz, ql⟩ : w1.cell? ⟨w.heap.size + 1, 0, none⟩ = some (.int .i64 2) ∧ w1.cell? ⟨w.heap.size + 1, 1, none⟩ = some (.int .i64 1) ∧ w1.cell? ⟨w.heap.size + 1, 2, none⟩ = some (.string ⟨#[]⟩) ∧ True ∧ w.heap.size + 1 < w1.heap.size := ⟨cell_of_block X1 0, cell_of_block X1 1, cell_of_block X1 2, trivial, lt_of_block X1⟩
  have HC1 := Lib.hid C1; have HX1 := Lib.hid X1; have HB1 := Lib.hid B1; clear C1 X1 B1
  go_wp2_with fail
  have C1 := HC1.out.below ((Below.refl w1.heap.size w1).alloc (Nat.le_refl _) (.cells #[.int .i64 0, .int .i64 0, .string ⟨#[]⟩, .int .i64 0, .int .i64 0, .string ⟨#[]⟩] 37))
  have V1 := readsV_two (c := nul) (d := nul) (heap_alloc_new w1 (.cells #[.int .i64 0, .int .i64 0, .string ⟨#[]⟩, .int .i64 0, .int .i64 0, .string ⟨#[]⟩] 37))
  have F1 := fit_any (some ⟨w.heap.size, 0, none⟩) (some ⟨w1.heap.size, 0, none⟩) 2 2 [colA, colB] [nul, nul] _ C1 V1 (by decide) (by decide)
  rw [show fitB [colA, colB] [nul, nul] = 5 from by decide] at F1
  refine F1.mono ?_
  rintro e w2 ⟨rfl, b2⟩
  have z2 := b2.size
  simp only [World.size_alloc] at z2
  have C2 := C1.below b2
  have X2 := blk_below (blk_alloc HX1.out _) b2 (by simp; omega)
  have B2 := (HB1.out.alloc (by omega) _).trans (b2.mono (by simp; omega))
  clear C1 V1 F1 b2 q0 q1 q2 ql
  obtain ⟨q0, q1, q2, qz, ql⟩ : w2.cell? ⟨w.heap.size + 1, 0, none⟩ = some (.int .i64 2) ∧ w2.cell? ⟨w.heap.size + 1, 1, none⟩ = some (.int .i64 1) ∧ w2.cell? ⟨w.heap.size + 1, 2, none⟩ = some (.string ⟨#[]⟩) ∧ True ∧ w.heap.size + 1 < w2.heap.size := ⟨cell_of_block X2 0, cell_of_block X2 1, cell_of_block X2 2, trivial, lt_of_block X2⟩
  have HC2 := Lib.hid C2; have HB2 := Lib.hid B2; clear C2 X2 B2
  go_wp2_with fail
  have C2 := HC2.out.below ((Below.refl w2.heap.size w2).alloc (Nat.le_refl _) (.cells #[.int .i64 2, .int .i64 1, .string ⟨#[]⟩, .int .i64 2, .int .i64 1, .string ⟨#[]⟩] 37))
  have V2 := readsV_two (c := one) (d := one) (heap_alloc_new w2 (.cells #[.int .i64 2, .int .i64 1, .string ⟨#[]⟩, .int .i64 2, .int .i64 1, .string ⟨#[]⟩] 37))
  have F2 := fit_any (some ⟨w.heap.size, 0, none⟩) (some ⟨w2.heap.size, 0, none⟩) 2 2 [colA, colB] [one, one] _ C2 V2 (by decide) (by decide)
  rw [show fitB [colA, colB] [one, one] = 4 from by decide] at F2
  refine F2.mono ?_
  rintro e w3 ⟨rfl, b3⟩
  have z3 := b3.size
  simp only [World.size_alloc] at z3
  have HB3 := Lib.hid ((HB2.out.alloc (by omega) _).trans (b3.mono (by simp; omega)))
  clear C2 V2 F2 b3 q0 q1 q2 ql
  go_wp2_with (go_at_call 7; refine (HN.out _).mono ?_; rintro e w' ⟨rfl, rfl⟩)
  go_ret
  exact ⟨rfl, HB3.out⟩

theorem schemaNames_walk (s : ByteArray) (w : World) (_hs : s.size ≤ 140737488351232) :
    Calls Try.prog 3 #[.string s] w fun e w' => e = .returned (.bool true) ∧ Below w.heap.size w w' := by
  have hnot := @unary_not Try.prog
  by_cases hl : s.size ≤ 1000
  · have hd : decide ((1000 : Int) < (s.size : Int)) = false := by simp; omega
    go_enter Try.func3, Try.ntmps3
    go_wp2_with (first | (go_at_call 6; refine (awake_calls _).mono ?_; rintro e w1 ⟨rfl, hb0⟩) | (go_at_call 7; refine (name_any s _ hl).mono ?_; rintro e w' ⟨rfl, rfl⟩) | (go_at_call 8; refine (refName_any s _ hl).mono ?_; rintro e w' ⟨rfl, rfl⟩))
    go_ret
    exact ⟨by simp, by assumption⟩
  · have hd : decide ((1000 : Int) < (s.size : Int)) = true := by simp; omega
    go_enter Try.func3, Try.ntmps3
    go_wp2_with (go_at_call 6; refine (awake_calls _).mono ?_; rintro e w1 ⟨rfl, hb0⟩)
    go_ret
    exact ⟨by simp, by assumption⟩
end Go.Proofs.Ytdkdjdlndcihmaa
