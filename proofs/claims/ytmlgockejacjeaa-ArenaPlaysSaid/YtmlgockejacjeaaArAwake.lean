/-
  Law package 04: the document's example, and the law of no arena.
-/
import Derived.Test.YtmlgockejacjeaaArBase
namespace Go.Proofs.Ytmlgockejacjeaa
open Go.RowKit
set_option linter.unusedVariables false
set_option linter.unusedSimpArgs false

theorem okS (ps : List (Option (List UInt8))) (fr : List Int) (q : Int) (h1 : ∀ n, n ∈ fr → 1 ≤ n ∧ n ≤ ps.length ∧ ps[(n - 1).toNat]? = some none) (h2 : fr.Nodup) (h3 : fr.length = ps.countP (·.isNone)) (h4 : ps.length ≤ 4096) (h5 : 0 ≤ q ∧ q ≤ 4096) : ArS.Ok ⟨ps, fr, q⟩ := ⟨h1, h2, h3, h4, h5⟩

theorem awake_any (w : World) : Calls Try.prog 8 #[] w fun e w' => e = .returned (.bool true) ∧ Below w.heap.size w w' := by
  go_enter Try.func8, Try.ntmps8
  go_wp2_with fail
  refine (new_any 2 (by omega) (by omega) w).mono ?_
  rintro e w1 ⟨rfl, hb, own, hA, -⟩
  have K1 : Hid (At w.heap.size w.heap.size ⟨[], [], 2⟩ w w1) := At.mk' hb (Nat.le_refl _) hA
  clear hb hA
  go_wp2_with fail
  refine (K1.out.new (okS _ _ _ (by simp) (by simp) (by simp) (by simp) (by omega)) (by decide) rfl).mono ?_
  rintro e w2 ⟨rfl, h2⟩
  have K2 := Lib.hid h2; clear h2
  go_wp2_with fail
  refine (K2.out.new (okS _ _ _ (by simp) (by simp) (by simp) (by simp) (by omega)) (by simp [ArS.left, ArS.used]) rfl).mono ?_
  rintro e w3 ⟨rfl, h2⟩
  have K3 := Lib.hid h2; clear h2
  go_wp2_with fail
  refine (K3.out.full (okS _ _ _ (by simp) (by simp) (by simp) (by simp) (by omega)) (by simp [ArS.left, ArS.used])).mono ?_
  rintro e w4 ⟨rfl, h2⟩
  have K4 := Lib.hid h2; clear h2
  go_wp2_with fail
  refine (K4.out.free (okS _ _ _ (by simp) (by simp) (by simp) (by simp) (by omega)) 1 (l := zpage) (by simp [ArS.page])).mono ?_
  rintro e w5 ⟨rfl, h2⟩
  have K5 : Hid (At w.heap.size w.heap.size ⟨[none, some zpage], [1], 2⟩ w w5) := (by simpa [ArS.drop] using h2 : At w.heap.size w.heap.size ⟨[none, some zpage], [1], 2⟩ w w5)
  clear h2
  go_wp2_with fail
  refine (K5.out.again (okS _ _ _ (by simp) (by simp) (by simp) (by simp) (by omega)) (by simp [ArS.left, ArS.used]) [] 1 rfl).mono ?_
  rintro e w6 ⟨rfl, h2⟩
  have K6 := Lib.hid h2; clear h2
  go_wp2_with fail
  go_ret
  exact ⟨rfl, K6.out.below⟩

theorem mkBytes (n : Nat) (hn : n ≤ 1000000) (w : World) : (Instr.makeSlice 29 (.int .i64 (n : Int)) (.int .i64 (n : Int))).run Try.prog w = .ok (.slice (some ⟨w.heap.size, 0, none⟩) n n) (w.alloc (.cells (Array.replicate n (.int .u8 0)) 5)) := by
  obtain ⟨i0, hi, hz0, hz1, hz2⟩ := info_parts info_B
  have h := run_make (P := Try.prog) w 29 5 i0 (.int .u8 0) Try.underlying29 hi hz0 .i64 .i64 n n (by omega) (by omega) (by rw [hz2]; omega) (by omega)
  have e : madeCells (Value.int .u8 0).cells (n * 1) = Array.replicate n (.int .u8 0) := by
    apply Array.toList_inj.1
    show (madeCells #[Value.int .u8 0] (n * 1)).toList = _
    rw [toList_madeCells_one, Nat.mul_one, Array.toList_replicate]
  rw [h, hz1, Int.toNat_natCast, e]
theorem mk1024 (w : World) : (Instr.makeSlice 29 (.int .i64 1024) (.int .i64 1024)).run Try.prog w = .ok (.slice (some ⟨w.heap.size, 0, none⟩) 1024 1024) (w.alloc (.cells Zp 5)) := mkBytes 1024 (by omega) w

theorem arenaNone_walk (a1 : Int) (w : World) (ha1 : (Lit.int .i64 a1).wf = true) :
    Calls Try.prog 6 #[.int .i64 a1] w fun e w' => e = .returned (.bool true) ∧ Below w.heap.size w w' := by
  have hmk := mk1024
  go_enter Try.func6, Try.ntmps6
  go_wp2_with fail
  refine (awake_any w).mono ?_
  rintro e w1 ⟨rfl, hb⟩
  have HB := Lib.hid hb; clear hb
  go_wp2_with fail
  refine (alloc_nil _).mono ?_
  rintro e w2 ⟨rfl, rfl⟩
  go_wp2_with fail
  refine (load_nil a1 ha1 _).mono ?_
  rintro e w2 ⟨rfl, rfl⟩
  go_wp2_with fail
  refine (free_nil a1 ha1 _).mono ?_
  rintro e w2 ⟨rfl, rfl⟩
  go_wp2_with fail
  refine (store_nil a1 ha1 _ _).mono ?_
  rintro e w2 ⟨rfl, rfl⟩
  go_wp2_with fail
  refine (limit_nil 3 (by decide) _).mono ?_
  rintro e w2 ⟨rfl, rfl⟩
  go_wp2_with fail
  refine (used_nil _).mono ?_
  rintro e w2 ⟨rfl, rfl⟩
  go_wp2_with fail
  refine (left_nil _).mono ?_
  rintro e w2 ⟨rfl, rfl⟩
  go_wp2_with fail
  refine (pages_nil _).mono ?_
  rintro e w2 ⟨rfl, rfl⟩
  go_wp2_with fail
  go_ret
  exact ⟨rfl, HB.out.alloc HB.out.size _⟩
end Go.Proofs.Ytmlgockejacjeaa
