/-
  Law package 11: the example that each law asks first; the law UndoNone.
-/
import Derived.Test.YtkanlcfinogaeaaUnSaves
namespace Go.Proofs.Ytkanlcfinogaeaa
open Go.RowKit
set_option linter.unusedVariables false
set_option linter.unusedSimpArgs false

/-- An entry of the example. -/
def exE (n : Int) : Img := ⟨⟨0, n, ⟨#[]⟩, [], []⟩, none, 0, none, 0⟩
theorem exE_rd (base : Nat) (w : World) (n : Int) : (exE n).Rd base w := ⟨RdV.nil _ _, RdV.nil _ _⟩
theorem one_save (L : List (ByteArray × Int)) (i : Nat) (p : ByteArray × Int) {q : ByteArray × Int} (h : [q][i]? = some p) : i = 0 ∧ p = q := by
  cases i with
  | zero => simp at h; exact ⟨rfl, h.symm⟩
  | succ i => simp at h
def ex1 : Ent := ⟨0, 1, ⟨#[]⟩, [], []⟩
def ex2 : Ent := ⟨0, 2, ⟨#[]⟩, [], []⟩
def ex3 : Ent := ⟨0, 3, ⟨#[]⟩, [], []⟩
def exA : ByteArray := ⟨#[97]⟩
theorem exOk (L : List Ent) (h : 1 ≤ L.length) : ULS.Ok ⟨L, [(exA, 1)], 9⟩ := by
  refine ⟨fun i j p q _ hp hq => ?_, fun i p hp => ?_⟩
  · obtain ⟨_, rfl⟩ := one_save [] i p hp
    obtain ⟨_, rfl⟩ := one_save [] j q hq
    exact Int.le_refl _
  · obtain ⟨_, rfl⟩ := one_save [] i p hp
    show (0 : Int) ≤ 1 ∧ (1 : Int) ≤ (L.length : Int)
    omega
theorem awake_any (w : World) : Calls Try.prog 6 #[] w fun e w' => e = .returned (.bool true) ∧ Below w.heap.size w w' := by
  go_enter Try.func6, Try.ntmps6
  go_wp2_with fail
  refine (new_any 9 (by omega) (by omega) w).mono ?_
  rintro e w1 ⟨rfl, hb, hu⟩
  have HB1 := Lib.hid hb
  have HU1 := Lib.hid hu
  clear hb hu
  go_wp2_with fail
  refine (add_any (S := ⟨[], [], 9⟩) HU1.out (by simp) (by simp) (exE 1) (exE_rd _ _ _) (by simp [exE]) (by simp [exE])).mono ?_
  rintro e w2 ⟨rfl, hu, hf⟩
  have HU2 : Hid (UR w.heap.size w.heap.size ⟨[ex1], [], 9⟩ w2) := hu
  have HF2 : Hid (Below w.heap.size w w2) := HB1.out.trans hf.low
  clear hu hf
  go_wp2_with fail
  refine (save_any HU2.out (by simp) exA).mono ?_
  rintro e w3 ⟨rfl, hu, hf⟩
  have HU3 : Hid (UR w.heap.size w.heap.size ⟨[ex1], [(exA, 1)], 9⟩ w3) := hu
  have HF3 : Hid (Below w.heap.size w w3) := HF2.out.trans hf.low
  clear hu hf
  go_wp2_with fail
  refine (add_any HU3.out (by simp) (by simp) (exE 2) (exE_rd _ _ _) (by simp [exE]) (by simp [exE])).mono ?_
  rintro e w4 ⟨rfl, hu, hf⟩
  have HU4 : Hid (UR w.heap.size w.heap.size ⟨[ex1, ex2], [(exA, 1)], 9⟩ w4) := hu
  have HF4 : Hid (Below w.heap.size w w4) := HF3.out.trans hf.low
  clear hu hf
  go_wp2_with fail
  refine (add_any HU4.out (by simp) (by simp) (exE 3) (exE_rd _ _ _) (by simp [exE]) (by simp [exE])).mono ?_
  rintro e w5 ⟨rfl, hu, hf⟩
  have HU5 : Hid (UR w.heap.size w.heap.size ⟨[ex1, ex2, ex3], [(exA, 1)], 9⟩ w5) := hu
  have HF5 : Hid (Below w.heap.size w w5) := HF4.out.trans hf.low
  clear hu hf
  go_wp2_with fail
  refine (back_some HU5.out (exOk _ (by simp)) (by simp) (by simp) exA 0 1 exA rfl (by simp) (fun j p hj hp => by obtain ⟨h, _⟩ := one_save [] j p hp; omega)).mono ?_
  rintro e w6 ⟨A6, c6, J, rfl, hJ, ho, -, hu, hf⟩
  have hJl : J.length = 2 := by have := congrArg List.length hJ; simpa using this
  obtain ⟨x0, x1, rfl⟩ : ∃ x0 x1, J = [x0, x1] := by
    match J, hJl with
    | [a, b], _ => exact ⟨a, b, rfl⟩
  have hid3 : x0.e.id = 3 := by
    simp [ex1, ex2, ex3] at hJ
    rw [hJ.1]
  have HU6 : Hid (UR w.heap.size w.heap.size ⟨[ex1], [(exA, 1)], 9⟩ w6) := hu
  have HF6 : Hid (Below w.heap.size w w6) := HF5.out.trans hf.low
  have HO6 := Lib.hid ho
  have HID := Lib.hid hid3
  clear hJ ho hu hf hJl hid3
  go_wp2_with fail
  refine (back_some HU6.out (exOk _ (by simp)) (by simp) (by simp) exA 0 1 exA rfl (by simp) (fun j p hj hp => by obtain ⟨h, _⟩ := one_save [] j p hp; omega)).mono ?_
  rintro e w7 ⟨A7, c7, J, rfl, hJ, ho, -, hu, hf⟩
  have hJl : J.length = 0 := by have := congrArg List.length hJ; simpa using this
  obtain rfl : J = [] := List.eq_nil_of_length_eq_zero hJl
  have HU7 : Hid (UR w.heap.size w.heap.size ⟨[ex1], [(exA, 1)], 9⟩ w7) := hu
  have HF7 : Hid (Below w.heap.size w w7) := HF6.out.trans hf.low
  have hx := hf.owns HO6.out (by unfold TB; decide)
  obtain ⟨gg, rfl⟩ : ∃ gg, A6 = some ⟨gg, 0, none⟩ := by
    rcases hx.2 with ⟨h', h''⟩ | ⟨g', cap', cur, h', _⟩
    · cases h''
    · injection h' with a
      exact ⟨g', a⟩
  obtain ⟨-, b1, -, -, -, -⟩ := ent_at hx (j := 0) (p := x0) rfl rfl
  rw [HID.out] at b1
  have hb1 : w7.cell? ⟨gg, 1, none⟩ = some (.int .i64 3) := b1
  clear hJ ho hu hf hx b1 hJl
  go_wp2_with fail
  refine (len_any HU7.out).mono ?_
  rintro e w8 ⟨rfl, rfl⟩
  go_wp2_with fail
  go_ret
  exact ⟨rfl, HF7.out⟩
end Go.Proofs.Ytkanlcfinogaeaa
