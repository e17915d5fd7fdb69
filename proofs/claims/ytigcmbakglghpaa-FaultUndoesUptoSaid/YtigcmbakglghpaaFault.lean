/-
  The walks of the law FaultChecks, and of the example that all laws of layer 1 ask first.
-/
import Derived.Test.YtigcmbakglghpaaCatch
namespace Go.Proofs.Ytigcmbakglghpaa
open Go.RowKit
set_option linter.unusedVariables false
set_option linter.unusedSimpArgs false

theorem eq_fault (a b c d : Int) (w : World) : (binOp .eql 25 (.agg #[.int .i64 a, .int .i64 b]) (.agg #[.int .i64 c, .int .i64 d])).run Try.prog w = .ok (.bool (a == c && b == d)) w := by
  have h : (Op.equalIn (9998 + 2) 25 (.agg #[.int .i64 a, .int .i64 b]) (.agg #[.int .i64 c, .int .i64 d])).run Try.prog w = .ok (a == c && b == d) w := by
    rw [run_equalIn_struct w (9998 + 1) 25 _ _ (by kernel_rfl) (by kernel_rfl)]
    simp only [Program.fieldsOf, Try.underlying25, Op.eqFields]
    simp [go_sem]
    cases h1 : a == c
    · simp; intro e; simp [e] at h1
    · have e : a = c := by simpa using h1
      subst e
      by_cases h2 : b = d <;> simp [h2]
  simp only [binOp]
  simp [Op.equal, Op.maxDepth, h]

theorem awake1_calls (D : Nat) (w : World) :
    Calls Try.prog 23 #[.pointer (some ⟨D, 0, none⟩)] w fun e w' => e = .panicked (thrown 4 3) ∧ w = w' := by
  go_enter Try.func23, Try.ntmps23
  go_wp2_with (go_at_call 12; refine (stop_no 4 3 rfl _).mono ?_; rintro e w' ⟨rfl, rfl⟩)
  exact ⟨rfl, rfl, rfl⟩

theorem awake_calls (w : World) :
    Calls Try.prog 7 #[] w fun e w' => e = .returned (.bool true) ∧ Below w.heap.size w w' := by
  have hmf := @make_func Try.prog
  have heq := eq_fault
  have hnot := @unary_not Try.prog
  go_enter Try.func7, Try.ntmps7
  go_wp2_with fail
  refine (catch_stop 23 _ _ 4 3 _ (fun _ _ => by simp [go_sem]) (awake1_calls w.heap.size _) ?_).mono ?_
  · rintro w1 rfl; exact heap_alloc_new _ _
  · rintro e w' ⟨rfl, w1, rfl, hb⟩
    have hz := hb.size
    simp only [World.size_alloc] at hz
    obtain ⟨c0, _, hlt⟩ := one_of_block (blk_but (blk_alloc (heap_alloc_new w (.cells #[.bool false] 4)) _) hb (by simp))
    have Hb := Lib.hid hb; clear hb
    go_wp2_with fail
    go_ret
    exact ⟨rfl, ((((Below.refl _ _).alloc (Nat.le_refl _) _).alloc (by simp) _).trans (Hb.out.below (by simp) (by simp; omega))).alloc (by omega) _⟩

/-- The first closure of FaultChecks: C holds c, D counts. -/
theorem fc1_ok (C D : Nat) (n : Int) (w : World) (h0 : w.cell? ⟨C, 0, none⟩ = some (.int .i64 0)) (h1 : w.cell? ⟨D, 0, none⟩ = some (.int .i64 n)) (hz : w.frozen? ⟨D, 0, none⟩ = false) (hn : 0 ≤ n) (hn' : n ≤ 1000) :
    Calls Try.prog 9 #[.pointer (some ⟨C, 0, none⟩), .pointer (some ⟨D, 0, none⟩)] w fun e w' => e = .returned (.tuple #[]) ∧ w.setCell ⟨D, 0, none⟩ (.int .i64 (n + 1)) = w' := by
  go_enter Try.func9, Try.ntmps9
  go_wp2_with (go_at_call 10; refine (check_ok _).mono ?_; rintro e w' ⟨rfl, rfl⟩)
  go_end0
  exact ⟨rfl, rfl⟩

theorem fc1_no (C D : Nat) (c : Int) (w : World) (h0 : w.cell? ⟨C, 0, none⟩ = some (.int .i64 c)) (hc : (c == 0) = false) :
    Calls Try.prog 9 #[.pointer (some ⟨C, 0, none⟩), .pointer (some ⟨D, 0, none⟩)] w fun e w' => e = .panicked (thrown c 0) ∧ w = w' := by
  go_enter Try.func9, Try.ntmps9
  go_wp2_with (go_at_call 10; refine (check_no c hc _).mono ?_; rintro e w' ⟨rfl, rfl⟩)
  exact ⟨rfl, rfl, rfl⟩

theorem fc2_ok (C A D : Nat) (n a : Int) (w : World) (h0 : w.cell? ⟨C, 0, none⟩ = some (.int .i64 0)) (ha : w.cell? ⟨A, 0, none⟩ = some (.int .i64 a)) (h1 : w.cell? ⟨D, 0, none⟩ = some (.int .i64 n)) (hz : w.frozen? ⟨D, 0, none⟩ = false) (hn : 0 ≤ n) (hn' : n ≤ 1000) :
    Calls Try.prog 11 #[.pointer (some ⟨C, 0, none⟩), .pointer (some ⟨A, 0, none⟩), .pointer (some ⟨D, 0, none⟩)] w fun e w' => e = .returned (.tuple #[]) ∧ w.setCell ⟨D, 0, none⟩ (.int .i64 (n + 1)) = w' := by
  go_enter Try.func11, Try.ntmps11
  go_wp2_with (go_at_call 12; refine (stop_ok a _).mono ?_; rintro e w' ⟨rfl, rfl⟩)
  go_end0
  exact ⟨rfl, rfl⟩

theorem fc2_no (C A D : Nat) (c a : Int) (w : World) (h0 : w.cell? ⟨C, 0, none⟩ = some (.int .i64 c)) (ha : w.cell? ⟨A, 0, none⟩ = some (.int .i64 a)) (hc : (c == 0) = false) :
    Calls Try.prog 11 #[.pointer (some ⟨C, 0, none⟩), .pointer (some ⟨A, 0, none⟩), .pointer (some ⟨D, 0, none⟩)] w fun e w' => e = .panicked (thrown c a) ∧ w = w' := by
  go_enter Try.func11, Try.ntmps11
  go_wp2_with (go_at_call 12; refine (stop_no c a hc _).mono ?_; rintro e w' ⟨rfl, rfl⟩)
  exact ⟨rfl, rfl, rfl⟩

theorem checks_ok (a : Int) (w : World) :
    Calls Try.prog 3 #[.int .i64 0, .int .i64 a] w fun e w' => e = .returned (.bool true) ∧ Below w.heap.size w w' := by
  have hmf := @make_func Try.prog
  have heq := eq_fault
  have hnot := @unary_not Try.prog
  go_enter Try.func3, Try.ntmps3
  go_wp2_with (go_at_call 7; refine (awake_calls _).mono ?_; rintro e w1 ⟨rfl, hb0⟩)
  simp only [World.size_alloc] at hb0
  have z0 := hb0.size
  simp only [World.size_alloc] at z0
  have B0 := blk_below (blk_alloc (heap_alloc_new w (.cells #[.int .i64 0] 3)) (.cells #[.int .i64 a] 3)) hb0 (by omega)
  have B1 := blk_below (heap_alloc_at (w.alloc (.cells #[.int .i64 0] 3)) (.cells #[.int .i64 a] 3) (w.heap.size + 1) (by simp)) hb0 (by omega)
  have B2 := heap_alloc_new w1 (.cells #[.int .i64 0] 3)
  have Hb0 := Lib.hid hb0; clear hb0
  have q0 := one_of_block (blk_alloc (blk_alloc B0 (.cells #[.int .i64 0] 3)) (.cells #[.int .i64 0, .int .i64 0] 25))
  have q2 := one_of_block (blk_alloc B2 (.cells #[.int .i64 0, .int .i64 0] 25))
  have H0 := Lib.hid B0; have H1 := Lib.hid B1; have H2 := Lib.hid B2; clear B0 B1 B2
  have Q0 := Lib.hid q0; have Q2 := Lib.hid q2; clear q0 q2
  go_wp2_with fail
  refine (catch_back 9 _ _ _ (fun _ _ => by simp [go_sem]) (fc1_ok w.heap.size w1.heap.size 0 _ Q0.out.1 Q2.out.1 Q2.out.2.1 (by omega) (by omega)) ?_).mono ?_
  · rintro w2 rfl; exact blk_set_ne (heap_alloc_new _ _) _ _ (by simp)
  · rintro e w3 ⟨rfl, w2, rfl, hb⟩
    have z1 := hb.size
    simp only [World.size_alloc, World.size_setCell] at z1
    have C0 := blk_but (blk_set_ne (blk_alloc (blk_alloc H0.out (.cells #[.int .i64 0] 3)) (.cells #[.int .i64 0, .int .i64 0] 25)) (C := w1.heap.size) 0 (.int .i64 (0 + 1)) (by omega)) hb (by simp; omega)
    have C1 := blk_but (blk_set_ne (blk_alloc (blk_alloc H1.out (.cells #[.int .i64 0] 3)) (.cells #[.int .i64 0, .int .i64 0] 25)) (C := w1.heap.size) 0 (.int .i64 (0 + 1)) (by omega)) hb (by simp; omega)
    have C2 := blk_but (blk_set (blk_alloc H2.out (.cells #[.int .i64 0, .int .i64 0] 25)) 0 (.int .i64 (0 + 1))) hb (by simp)
    have e2 : (#[Value.int .i64 0]).setIfInBounds 0 (.int .i64 (0 + 1)) = #[.int .i64 1] := rfl
    rw [e2] at C2
    clear e2 H0 H1 H2 Q0 Q2
    have H3 := Lib.hid (heap_alloc_new w3 (.cells #[.int .i64 0, .int .i64 0] 25))
    have q0 := one_of_block (blk_alloc (blk_alloc C0 (.cells #[.int .i64 0, .int .i64 0] 25)) (.cells #[.int .i64 0, .int .i64 0] 25))
    have q1 := one_of_block (blk_alloc (blk_alloc C1 (.cells #[.int .i64 0, .int .i64 0] 25)) (.cells #[.int .i64 0, .int .i64 0] 25))
    have q2 := one_of_block (blk_alloc (blk_alloc C2 (.cells #[.int .i64 0, .int .i64 0] 25)) (.cells #[.int .i64 0, .int .i64 0] 25))
    have Q0 := Lib.hid q0; have Q1 := Lib.hid q1; have Q2 := Lib.hid q2; clear q0 q1 q2
    have Hb := Lib.hid hb; clear hb
    have H0 := Lib.hid C0; have H2 := Lib.hid C2; clear C0 C1 C2
    go_wp2_with fail
    refine (catch_back 11 _ _ _ (fun _ _ => by simp [go_sem]) (fc2_ok w.heap.size (w.heap.size + 1) w1.heap.size 1 a _ Q0.out.1 Q1.out.1 Q2.out.1 Q2.out.2.1 (by omega) (by omega)) ?_).mono ?_
    · rintro w4 rfl; exact blk_set_ne (heap_alloc_new _ _) _ _ (by simp; omega)
    · rintro e w5 ⟨rfl, w4, rfl, hb⟩
      have z2 := hb.size
      simp only [World.size_alloc, World.size_setCell] at z2
      obtain ⟨e0, _, n0⟩ := one_of_block (blk_but (blk_set_ne (blk_alloc (blk_alloc H0.out (.cells #[.int .i64 0, .int .i64 0] 25)) (.cells #[.int .i64 0, .int .i64 0] 25)) (C := w1.heap.size) 0 (.int .i64 (1 + 1)) (by omega)) hb (by simp; omega))
      have C2 := blk_but (blk_set (blk_alloc (blk_alloc H2.out (.cells #[.int .i64 0, .int .i64 0] 25)) (.cells #[.int .i64 0, .int .i64 0] 25)) 0 (.int .i64 (1 + 1))) hb (by simp; omega)
      have e2 : (#[Value.int .i64 1]).setIfInBounds 0 (.int .i64 (1 + 1)) = #[.int .i64 2] := rfl
      rw [e2] at C2
      clear e2
      obtain ⟨e2, _, n2⟩ := one_of_block C2
      obtain ⟨e3, e4, _, _, n3⟩ := two_of_block (blk_but (blk_set_ne (blk_alloc H3.out (.cells #[.int .i64 0, .int .i64 0] 25)) (C := w1.heap.size) 0 (.int .i64 (1 + 1)) (by omega)) hb (by simp))
      have Hc := Lib.hid hb; clear hb
      clear C2
      go_wp2_with fail
      go_ret
      refine ⟨rfl, ?_⟩
      have b1 := (((Below.refl w.heap.size w).alloc (Nat.le_refl _) (.cells #[.int .i64 0] 3)).alloc (by simp) (.cells #[.int .i64 a] 3)).trans (Hb0.out.mono (by omega))
      have b3 := (((b1.alloc (by omega) _).alloc (by simp; omega) _).setCell (by simp; omega) _).trans (Hb.out.below (by simp; omega) (by simp; omega))
      have b5 := (((b3.alloc (by omega) _).alloc (by simp; omega) _).setCell (by simp; omega) _).trans (Hc.out.below (by simp; omega) (by simp; omega))
      exact b5.alloc (by omega) _

theorem checks_no (c a : Int) (hc : (c == 0) = false) (w : World) :
    Calls Try.prog 3 #[.int .i64 c, .int .i64 a] w fun e w' => e = .returned (.bool true) ∧ Below w.heap.size w w' := by
  have hmf := @make_func Try.prog
  have heq := eq_fault
  have hnot := @unary_not Try.prog
  go_enter Try.func3, Try.ntmps3
  go_wp2_with (go_at_call 7; refine (awake_calls _).mono ?_; rintro e w1 ⟨rfl, hb0⟩)
  simp only [World.size_alloc] at hb0
  have z0 := hb0.size
  simp only [World.size_alloc] at z0
  have B0 := blk_below (blk_alloc (heap_alloc_new w (.cells #[.int .i64 c] 3)) (.cells #[.int .i64 a] 3)) hb0 (by omega)
  have B1 := blk_below (heap_alloc_at (w.alloc (.cells #[.int .i64 c] 3)) (.cells #[.int .i64 a] 3) (w.heap.size + 1) (by simp)) hb0 (by omega)
  have B2 := heap_alloc_new w1 (.cells #[.int .i64 0] 3)
  have Hb0 := Lib.hid hb0; clear hb0
  have Q0 := Lib.hid (one_of_block (blk_alloc (blk_alloc B0 (.cells #[.int .i64 0] 3)) (.cells #[.int .i64 0, .int .i64 0] 25)))
  have H0 := Lib.hid B0; have H1 := Lib.hid B1; have H2 := Lib.hid B2; clear B0 B1 B2
  go_wp2_with fail
  refine (catch_stop 9 _ _ c 0 _ (fun _ _ => by simp [go_sem]) (fc1_no w.heap.size w1.heap.size c _ Q0.out.1 hc) ?_).mono ?_
  · rintro w2 rfl; exact heap_alloc_new _ _
  · rintro e w3 ⟨rfl, w2, rfl, hb⟩
    have z1 := hb.size
    simp only [World.size_alloc] at z1
    have C0 := blk_but (blk_alloc (blk_alloc H0.out (.cells #[.int .i64 0] 3)) (.cells #[.int .i64 0, .int .i64 0] 25)) hb (by simp; omega)
    have C1 := blk_but (blk_alloc (blk_alloc H1.out (.cells #[.int .i64 0] 3)) (.cells #[.int .i64 0, .int .i64 0] 25)) hb (by simp; omega)
    have C2 := blk_but (blk_alloc H2.out (.cells #[.int .i64 0, .int .i64 0] 25)) hb (by simp)
    clear H0 H1 H2 Q0
    have C3 := heap_alloc_new w3 (.cells #[.int .i64 c, .int .i64 0] 25)
    have Q0 := Lib.hid (one_of_block (blk_alloc (blk_alloc C0 (.cells #[.int .i64 c, .int .i64 0] 25)) (.cells #[.int .i64 0, .int .i64 0] 25)))
    have Q1 := Lib.hid (one_of_block (blk_alloc (blk_alloc C1 (.cells #[.int .i64 c, .int .i64 0] 25)) (.cells #[.int .i64 0, .int .i64 0] 25)))
    have Hb := Lib.hid hb; clear hb
    have H0 := Lib.hid C0; have H1 := Lib.hid C1; have H2 := Lib.hid C2; have H3 := Lib.hid C3; clear C0 C1 C2 C3
    go_wp2_with fail
    refine (catch_stop 11 _ _ c a _ (fun _ _ => by simp [go_sem]) (fc2_no w.heap.size (w.heap.size + 1) w1.heap.size c a _ Q0.out.1 Q1.out.1 hc) ?_).mono ?_
    · rintro w4 rfl; exact heap_alloc_new _ _
    · rintro e w5 ⟨rfl, w4, rfl, hb⟩
      have z2 := hb.size
      simp only [World.size_alloc] at z2
      obtain ⟨e0, _, n0⟩ := one_of_block (blk_but (blk_alloc (blk_alloc H0.out (.cells #[.int .i64 c, .int .i64 0] 25)) (.cells #[.int .i64 0, .int .i64 0] 25)) hb (by simp; omega))
      obtain ⟨e1, _, n1⟩ := one_of_block (blk_but (blk_alloc (blk_alloc H1.out (.cells #[.int .i64 c, .int .i64 0] 25)) (.cells #[.int .i64 0, .int .i64 0] 25)) hb (by simp; omega))
      obtain ⟨e2, _, n2⟩ := one_of_block (blk_but (blk_alloc (blk_alloc H2.out (.cells #[.int .i64 c, .int .i64 0] 25)) (.cells #[.int .i64 0, .int .i64 0] 25)) hb (by simp; omega))
      obtain ⟨e3, e4, _, _, n3⟩ := two_of_block (blk_but (blk_alloc H3.out (.cells #[.int .i64 0, .int .i64 0] 25)) hb (by simp))
      have Hc := Lib.hid hb; clear hb
      go_wp2_with fail
      go_ret
      refine ⟨rfl, ?_⟩
      have b1 := (((Below.refl w.heap.size w).alloc (Nat.le_refl _) (.cells #[.int .i64 c] 3)).alloc (by simp) (.cells #[.int .i64 a] 3)).trans (Hb0.out.mono (by omega))
      have b3 := ((b1.alloc (by omega) _).alloc (by simp; omega) _).trans (Hb.out.below (by simp; omega) (by simp; omega))
      have b5 := ((b3.alloc (by omega) _).alloc (by simp; omega) _).trans (Hc.out.below (by simp; omega) (by simp; omega))
      exact b5.alloc (by omega) _

theorem faultChecks_walk (c a : Int) (w : World) (_wc : (Lit.int .i64 c).wf = true) (_wa : (Lit.int .i64 a).wf = true) :
    Calls Try.prog 3 #[.int .i64 c, .int .i64 a] w fun e w' => e = .returned (.bool true) ∧ Below w.heap.size w w' := by
  by_cases hc : c = 0
  · subst hc; exact checks_ok a w
  · exact checks_no c a (beq_eq_false_iff_ne.2 hc) w
end Go.Proofs.Ytigcmbakglghpaa
