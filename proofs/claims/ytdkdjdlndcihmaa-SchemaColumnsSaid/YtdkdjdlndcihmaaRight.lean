/-
  The walks of value.Right and of the reference's Right: each tells whether a value is right.
-/
import Derived.Test.YtdkdjdlndcihmaaProg
import Derived.Test.YtdkdjdlndcihmaaCommon
import Derived.BigQuiet
namespace Go.Proofs.Ytdkdjdlndcihmaa
open Go.RowKit
set_option linter.unusedVariables false
set_option linter.unusedSimpArgs false

/-- Is a value right? -/
def rightB (k n : Int) (s : ByteArray) : Bool :=
  if k = 0 then n == 0 && s.size == 0 else if k = 1 then (n == 0 || n == 1) && s.size == 0 else if k = 2 then s.size == 0 else k == 3 && n == 0 && decide (s.size ≤ 24)

theorem isEmpty_size (s : ByteArray) : s.toList.isEmpty = (s.size == 0) := by
  rw [ByteArray.toList_eq]
  have hl : s.data.toList.length = s.size := by simp
  cases h : s.data.toList with
  | nil =>
    have h0 : s.size = 0 := by rw [← hl, h]; rfl
    rw [h0]; rfl
  | cons a l =>
    have h0 : s.size = l.length + 1 := by rw [← hl, h]; rfl
    rw [h0]; rfl

theorem eq_value (a b c d : Int) (s t : ByteArray) (w : World) : (binOp .eql 37 (.agg #[.int .i64 a, .int .i64 b, .string s]) (.agg #[.int .i64 c, .int .i64 d, .string t])).run Try.prog w = .ok (.bool (a == c && (b == d && s.toList == t.toList))) w := by
  have h : (Op.equalIn (9998 + 2) 37 (.agg #[.int .i64 a, .int .i64 b, .string s]) (.agg #[.int .i64 c, .int .i64 d, .string t])).run Try.prog w = .ok (a == c && (b == d && s.toList == t.toList)) w := by
    rw [run_equalIn_struct w (9998 + 1) 37 _ _ (by kernel_rfl) (by kernel_rfl)]
    simp only [Program.fieldsOf, Try.underlying37, Op.eqFields]
    simp [go_sem]
    by_cases h1 : a = c
    · subst h1
      by_cases h2 : b = d
      · subst h2
        by_cases h3 : s.toList = t.toList <;> simp [h3]
      · simp [h2]
    · simp [h1]
  simp only [binOp]
  simp [Op.equal, Op.maxDepth, h]

theorem ret_bool' {a b : Bool} (h : a = b) : Ending.returned (.bool a) = .returned (.bool b) := by rw [h]
theorem vr_k0n0e (n : Int) (hn : n = 0) (s : ByteArray) (h3 : s.size = 0) (w : World) : Calls Try.prog 19 #[.agg #[.int .i64 0, .int .i64 n, .string s]] w fun e w' => e = .returned (.bool true) ∧ w.alloc (.cells #[.int .i64 0, .int .i64 n, .string s] 37) = w' := by
  have heq := eq_value
  have hnot := @unary_not Try.prog
  subst hn
  have he : s.toList.isEmpty = true := by rw [isEmpty_size]; simpa using h3
  have hi : ((s.size : Int) == 0) = true := beq_iff_eq.2 (by omega)
  clear h3
  go_enter Try.func19, Try.ntmps19
  go_wp2
  go_ret
  exact ⟨rfl, rfl⟩
theorem vr_k0n0 (n : Int) (hn : n = 0) (s : ByteArray) (h3 : ¬ s.size = 0) (w : World) : Calls Try.prog 19 #[.agg #[.int .i64 0, .int .i64 n, .string s]] w fun e w' => e = .returned (.bool false) ∧ w.alloc (.cells #[.int .i64 0, .int .i64 n, .string s] 37) = w' := by
  have heq := eq_value
  have hnot := @unary_not Try.prog
  subst hn
  have he : s.toList.isEmpty = false := by rw [isEmpty_size]; simpa using h3
  have hi : ((s.size : Int) == 0) = false := beq_eq_false_iff_ne.2 (by omega)
  clear h3
  go_enter Try.func19, Try.ntmps19
  go_wp2
  go_ret
  exact ⟨rfl, rfl⟩
theorem vr_k0nx (n : Int) (hn : ¬ n = 0) (s : ByteArray) (w : World) : Calls Try.prog 19 #[.agg #[.int .i64 0, .int .i64 n, .string s]] w fun e w' => e = .returned (.bool false) ∧ w.alloc (.cells #[.int .i64 0, .int .i64 n, .string s] 37) = w' := by
  have heq := eq_value
  have hnot := @unary_not Try.prog
  have nn0 : (n == 0) = false := by simp; omega
  clear hn
  go_enter Try.func19, Try.ntmps19
  go_wp2
  go_ret
  exact ⟨rfl, rfl⟩
theorem vr_k1n0e (n : Int) (hn : n = 0) (s : ByteArray) (h3 : s.size = 0) (w : World) : Calls Try.prog 19 #[.agg #[.int .i64 1, .int .i64 n, .string s]] w fun e w' => e = .returned (.bool true) ∧ w.alloc (.cells #[.int .i64 1, .int .i64 n, .string s] 37) = w' := by
  have heq := eq_value
  have hnot := @unary_not Try.prog
  subst hn
  have he : s.toList.isEmpty = true := by rw [isEmpty_size]; simpa using h3
  have hi : ((s.size : Int) == 0) = true := beq_iff_eq.2 (by omega)
  clear h3
  go_enter Try.func19, Try.ntmps19
  go_wp2
  go_ret
  exact ⟨rfl, rfl⟩
theorem vr_k1n1e (n : Int) (hn : n = 1) (s : ByteArray) (h3 : s.size = 0) (w : World) : Calls Try.prog 19 #[.agg #[.int .i64 1, .int .i64 n, .string s]] w fun e w' => e = .returned (.bool true) ∧ w.alloc (.cells #[.int .i64 1, .int .i64 n, .string s] 37) = w' := by
  have heq := eq_value
  have hnot := @unary_not Try.prog
  subst hn
  have he : s.toList.isEmpty = true := by rw [isEmpty_size]; simpa using h3
  have hi : ((s.size : Int) == 0) = true := beq_iff_eq.2 (by omega)
  clear h3
  go_enter Try.func19, Try.ntmps19
  go_wp2
  go_ret
  exact ⟨rfl, rfl⟩
theorem vr_k1nxe (n : Int) (hn : ¬ n = 0) (hn' : ¬ n = 1) (s : ByteArray) (h3 : s.size = 0) (w : World) : Calls Try.prog 19 #[.agg #[.int .i64 1, .int .i64 n, .string s]] w fun e w' => e = .returned (.bool false) ∧ w.alloc (.cells #[.int .i64 1, .int .i64 n, .string s] 37) = w' := by
  have heq := eq_value
  have hnot := @unary_not Try.prog
  have nn0 : (n == 0) = false := by simp; omega
  have nn1 : (n == 1) = false := by simp; omega
  have he : s.toList.isEmpty = true := by rw [isEmpty_size]; simpa using h3
  have hi : ((s.size : Int) == 0) = true := beq_iff_eq.2 (by omega)
  clear h3 hn hn'
  go_enter Try.func19, Try.ntmps19
  go_wp2
  go_ret
  exact ⟨rfl, rfl⟩
theorem vr_k1n0 (n : Int) (hn : n = 0) (s : ByteArray) (h3 : ¬ s.size = 0) (w : World) : Calls Try.prog 19 #[.agg #[.int .i64 1, .int .i64 n, .string s]] w fun e w' => e = .returned (.bool false) ∧ w.alloc (.cells #[.int .i64 1, .int .i64 n, .string s] 37) = w' := by
  have heq := eq_value
  have hnot := @unary_not Try.prog
  subst hn
  have he : s.toList.isEmpty = false := by rw [isEmpty_size]; simpa using h3
  have hi : ((s.size : Int) == 0) = false := beq_eq_false_iff_ne.2 (by omega)
  clear h3
  go_enter Try.func19, Try.ntmps19
  go_wp2
  go_ret
  exact ⟨rfl, rfl⟩
theorem vr_k1n1 (n : Int) (hn : n = 1) (s : ByteArray) (h3 : ¬ s.size = 0) (w : World) : Calls Try.prog 19 #[.agg #[.int .i64 1, .int .i64 n, .string s]] w fun e w' => e = .returned (.bool false) ∧ w.alloc (.cells #[.int .i64 1, .int .i64 n, .string s] 37) = w' := by
  have heq := eq_value
  have hnot := @unary_not Try.prog
  subst hn
  have he : s.toList.isEmpty = false := by rw [isEmpty_size]; simpa using h3
  have hi : ((s.size : Int) == 0) = false := beq_eq_false_iff_ne.2 (by omega)
  clear h3
  go_enter Try.func19, Try.ntmps19
  go_wp2
  go_ret
  exact ⟨rfl, rfl⟩
theorem vr_k1nx (n : Int) (hn : ¬ n = 0) (hn' : ¬ n = 1) (s : ByteArray) (h3 : ¬ s.size = 0) (w : World) : Calls Try.prog 19 #[.agg #[.int .i64 1, .int .i64 n, .string s]] w fun e w' => e = .returned (.bool false) ∧ w.alloc (.cells #[.int .i64 1, .int .i64 n, .string s] 37) = w' := by
  have heq := eq_value
  have hnot := @unary_not Try.prog
  have nn0 : (n == 0) = false := by simp; omega
  have nn1 : (n == 1) = false := by simp; omega
  have he : s.toList.isEmpty = false := by rw [isEmpty_size]; simpa using h3
  have hi : ((s.size : Int) == 0) = false := beq_eq_false_iff_ne.2 (by omega)
  clear h3 hn hn'
  go_enter Try.func19, Try.ntmps19
  go_wp2
  go_ret
  exact ⟨rfl, rfl⟩
theorem vr_k2e (n : Int) (s : ByteArray) (h3 : s.size = 0) (w : World) : Calls Try.prog 19 #[.agg #[.int .i64 2, .int .i64 n, .string s]] w fun e w' => e = .returned (.bool true) ∧ w.alloc (.cells #[.int .i64 2, .int .i64 n, .string s] 37) = w' := by
  have heq := eq_value
  have hnot := @unary_not Try.prog
  have he : s.toList.isEmpty = true := by rw [isEmpty_size]; simpa using h3
  have hi : ((s.size : Int) == 0) = true := beq_iff_eq.2 (by omega)
  clear h3
  go_enter Try.func19, Try.ntmps19
  go_wp2
  go_ret
  exact ⟨rfl, rfl⟩
theorem vr_k2 (n : Int) (s : ByteArray) (h3 : ¬ s.size = 0) (w : World) : Calls Try.prog 19 #[.agg #[.int .i64 2, .int .i64 n, .string s]] w fun e w' => e = .returned (.bool false) ∧ w.alloc (.cells #[.int .i64 2, .int .i64 n, .string s] 37) = w' := by
  have heq := eq_value
  have hnot := @unary_not Try.prog
  have he : s.toList.isEmpty = false := by rw [isEmpty_size]; simpa using h3
  have hi : ((s.size : Int) == 0) = false := beq_eq_false_iff_ne.2 (by omega)
  clear h3
  go_enter Try.func19, Try.ntmps19
  go_wp2
  go_ret
  exact ⟨rfl, rfl⟩
theorem vr_k3n0e (n : Int) (hn : n = 0) (s : ByteArray) (h3 : s.size ≤ 24) (w : World) : Calls Try.prog 19 #[.agg #[.int .i64 3, .int .i64 n, .string s]] w fun e w' => e = .returned (.bool true) ∧ w.alloc (.cells #[.int .i64 3, .int .i64 n, .string s] 37) = w' := by
  have heq := eq_value
  have hnot := @unary_not Try.prog
  subst hn
  have hi : decide ((s.size : Int) ≤ 24) = true := by simp; omega
  clear h3
  go_enter Try.func19, Try.ntmps19
  go_wp2
  go_ret
  exact ⟨rfl, rfl⟩
theorem vr_k3n0 (n : Int) (hn : n = 0) (s : ByteArray) (h3 : ¬ s.size ≤ 24) (w : World) : Calls Try.prog 19 #[.agg #[.int .i64 3, .int .i64 n, .string s]] w fun e w' => e = .returned (.bool false) ∧ w.alloc (.cells #[.int .i64 3, .int .i64 n, .string s] 37) = w' := by
  have heq := eq_value
  have hnot := @unary_not Try.prog
  subst hn
  have hi : decide ((s.size : Int) ≤ 24) = false := by simp; omega
  clear h3
  go_enter Try.func19, Try.ntmps19
  go_wp2
  go_ret
  exact ⟨rfl, rfl⟩
theorem vr_k3nx (n : Int) (hn : ¬ n = 0) (s : ByteArray) (w : World) : Calls Try.prog 19 #[.agg #[.int .i64 3, .int .i64 n, .string s]] w fun e w' => e = .returned (.bool false) ∧ w.alloc (.cells #[.int .i64 3, .int .i64 n, .string s] 37) = w' := by
  have heq := eq_value
  have hnot := @unary_not Try.prog
  have nn0 : (n == 0) = false := by simp; omega
  clear hn
  go_enter Try.func19, Try.ntmps19
  go_wp2
  go_ret
  exact ⟨rfl, rfl⟩
theorem vr_kx (k : Int) (c0 : ¬ k = 0) (c1 : ¬ k = 1) (c2 : ¬ k = 2) (c3 : ¬ k = 3) (n : Int) (s : ByteArray) (w : World) : Calls Try.prog 19 #[.agg #[.int .i64 k, .int .i64 n, .string s]] w fun e w' => e = .returned (.bool false) ∧ w.alloc (.cells #[.int .i64 k, .int .i64 n, .string s] 37) = w' := by
  have heq := eq_value
  have hnot := @unary_not Try.prog
  have k0 : (k == 0) = false := by simp; omega
  have k1 : (k == 1) = false := by simp; omega
  have k2 : (k == 2) = false := by simp; omega
  have k3 : (k == 3) = false := by simp; omega
  clear c0 c1 c2 c3
  go_enter Try.func19, Try.ntmps19
  go_wp2
  go_ret
  exact ⟨rfl, rfl⟩
theorem rr_k0n0e (n : Int) (hn : n = 0) (s : ByteArray) (h3 : s.size = 0) (w : World) : Calls Try.prog 20 #[.agg #[.int .i64 0, .int .i64 n, .string s]] w fun e w' => e = .returned (.bool true) ∧ w.alloc (.cells #[.int .i64 0, .int .i64 n, .string s] 37) = w' := by
  have heq := eq_value
  have hnot := @unary_not Try.prog
  subst hn
  have he : s.toList.isEmpty = true := by rw [isEmpty_size]; simpa using h3
  have hi : ((s.size : Int) == 0) = true := beq_iff_eq.2 (by omega)
  clear h3
  go_enter Try.func20, Try.ntmps20
  go_wp2
  go_ret
  exact ⟨rfl, rfl⟩
theorem rr_k0n0 (n : Int) (hn : n = 0) (s : ByteArray) (h3 : ¬ s.size = 0) (w : World) : Calls Try.prog 20 #[.agg #[.int .i64 0, .int .i64 n, .string s]] w fun e w' => e = .returned (.bool false) ∧ w.alloc (.cells #[.int .i64 0, .int .i64 n, .string s] 37) = w' := by
  have heq := eq_value
  have hnot := @unary_not Try.prog
  subst hn
  have he : s.toList.isEmpty = false := by rw [isEmpty_size]; simpa using h3
  have hi : ((s.size : Int) == 0) = false := beq_eq_false_iff_ne.2 (by omega)
  clear h3
  go_enter Try.func20, Try.ntmps20
  go_wp2
  go_ret
  exact ⟨rfl, rfl⟩
theorem rr_k0nx (n : Int) (hn : ¬ n = 0) (s : ByteArray) (w : World) : Calls Try.prog 20 #[.agg #[.int .i64 0, .int .i64 n, .string s]] w fun e w' => e = .returned (.bool false) ∧ w.alloc (.cells #[.int .i64 0, .int .i64 n, .string s] 37) = w' := by
  have heq := eq_value
  have hnot := @unary_not Try.prog
  have nn0 : (n == 0) = false := by simp; omega
  clear hn
  go_enter Try.func20, Try.ntmps20
  go_wp2
  go_ret
  exact ⟨rfl, rfl⟩
theorem rr_k1n0e (n : Int) (hn : n = 0) (s : ByteArray) (h3 : s.size = 0) (w : World) : Calls Try.prog 20 #[.agg #[.int .i64 1, .int .i64 n, .string s]] w fun e w' => e = .returned (.bool true) ∧ w.alloc (.cells #[.int .i64 1, .int .i64 n, .string s] 37) = w' := by
  have heq := eq_value
  have hnot := @unary_not Try.prog
  subst hn
  have he : s.toList.isEmpty = true := by rw [isEmpty_size]; simpa using h3
  have hi : ((s.size : Int) == 0) = true := beq_iff_eq.2 (by omega)
  clear h3
  go_enter Try.func20, Try.ntmps20
  go_wp2
  go_ret
  exact ⟨rfl, rfl⟩
theorem rr_k1n1e (n : Int) (hn : n = 1) (s : ByteArray) (h3 : s.size = 0) (w : World) : Calls Try.prog 20 #[.agg #[.int .i64 1, .int .i64 n, .string s]] w fun e w' => e = .returned (.bool true) ∧ w.alloc (.cells #[.int .i64 1, .int .i64 n, .string s] 37) = w' := by
  have heq := eq_value
  have hnot := @unary_not Try.prog
  subst hn
  have he : s.toList.isEmpty = true := by rw [isEmpty_size]; simpa using h3
  have hi : ((s.size : Int) == 0) = true := beq_iff_eq.2 (by omega)
  clear h3
  go_enter Try.func20, Try.ntmps20
  go_wp2
  go_ret
  exact ⟨rfl, rfl⟩
theorem rr_k1nxe (n : Int) (hn : ¬ n = 0) (hn' : ¬ n = 1) (s : ByteArray) (h3 : s.size = 0) (w : World) : Calls Try.prog 20 #[.agg #[.int .i64 1, .int .i64 n, .string s]] w fun e w' => e = .returned (.bool false) ∧ w.alloc (.cells #[.int .i64 1, .int .i64 n, .string s] 37) = w' := by
  have heq := eq_value
  have hnot := @unary_not Try.prog
  have nn0 : (n == 0) = false := by simp; omega
  have nn1 : (n == 1) = false := by simp; omega
  have he : s.toList.isEmpty = true := by rw [isEmpty_size]; simpa using h3
  have hi : ((s.size : Int) == 0) = true := beq_iff_eq.2 (by omega)
  clear h3 hn hn'
  go_enter Try.func20, Try.ntmps20
  go_wp2
  go_ret
  exact ⟨rfl, rfl⟩
theorem rr_k1n0 (n : Int) (hn : n = 0) (s : ByteArray) (h3 : ¬ s.size = 0) (w : World) : Calls Try.prog 20 #[.agg #[.int .i64 1, .int .i64 n, .string s]] w fun e w' => e = .returned (.bool false) ∧ w.alloc (.cells #[.int .i64 1, .int .i64 n, .string s] 37) = w' := by
  have heq := eq_value
  have hnot := @unary_not Try.prog
  subst hn
  have he : s.toList.isEmpty = false := by rw [isEmpty_size]; simpa using h3
  have hi : ((s.size : Int) == 0) = false := beq_eq_false_iff_ne.2 (by omega)
  clear h3
  go_enter Try.func20, Try.ntmps20
  go_wp2
  go_ret
  exact ⟨rfl, rfl⟩
theorem rr_k1n1 (n : Int) (hn : n = 1) (s : ByteArray) (h3 : ¬ s.size = 0) (w : World) : Calls Try.prog 20 #[.agg #[.int .i64 1, .int .i64 n, .string s]] w fun e w' => e = .returned (.bool false) ∧ w.alloc (.cells #[.int .i64 1, .int .i64 n, .string s] 37) = w' := by
  have heq := eq_value
  have hnot := @unary_not Try.prog
  subst hn
  have he : s.toList.isEmpty = false := by rw [isEmpty_size]; simpa using h3
  have hi : ((s.size : Int) == 0) = false := beq_eq_false_iff_ne.2 (by omega)
  clear h3
  go_enter Try.func20, Try.ntmps20
  go_wp2
  go_ret
  exact ⟨rfl, rfl⟩
theorem rr_k1nx (n : Int) (hn : ¬ n = 0) (hn' : ¬ n = 1) (s : ByteArray) (h3 : ¬ s.size = 0) (w : World) : Calls Try.prog 20 #[.agg #[.int .i64 1, .int .i64 n, .string s]] w fun e w' => e = .returned (.bool false) ∧ w.alloc (.cells #[.int .i64 1, .int .i64 n, .string s] 37) = w' := by
  have heq := eq_value
  have hnot := @unary_not Try.prog
  have nn0 : (n == 0) = false := by simp; omega
  have nn1 : (n == 1) = false := by simp; omega
  have he : s.toList.isEmpty = false := by rw [isEmpty_size]; simpa using h3
  have hi : ((s.size : Int) == 0) = false := beq_eq_false_iff_ne.2 (by omega)
  clear h3 hn hn'
  go_enter Try.func20, Try.ntmps20
  go_wp2
  go_ret
  exact ⟨rfl, rfl⟩
theorem rr_k2e (n : Int) (s : ByteArray) (h3 : s.size = 0) (w : World) : Calls Try.prog 20 #[.agg #[.int .i64 2, .int .i64 n, .string s]] w fun e w' => e = .returned (.bool true) ∧ w.alloc (.cells #[.int .i64 2, .int .i64 n, .string s] 37) = w' := by
  have heq := eq_value
  have hnot := @unary_not Try.prog
  have he : s.toList.isEmpty = true := by rw [isEmpty_size]; simpa using h3
  have hi : ((s.size : Int) == 0) = true := beq_iff_eq.2 (by omega)
  clear h3
  go_enter Try.func20, Try.ntmps20
  go_wp2
  go_ret
  exact ⟨rfl, rfl⟩
theorem rr_k2 (n : Int) (s : ByteArray) (h3 : ¬ s.size = 0) (w : World) : Calls Try.prog 20 #[.agg #[.int .i64 2, .int .i64 n, .string s]] w fun e w' => e = .returned (.bool false) ∧ w.alloc (.cells #[.int .i64 2, .int .i64 n, .string s] 37) = w' := by
  have heq := eq_value
  have hnot := @unary_not Try.prog
  have he : s.toList.isEmpty = false := by rw [isEmpty_size]; simpa using h3
  have hi : ((s.size : Int) == 0) = false := beq_eq_false_iff_ne.2 (by omega)
  clear h3
  go_enter Try.func20, Try.ntmps20
  go_wp2
  go_ret
  exact ⟨rfl, rfl⟩
theorem rr_k3n0e (n : Int) (hn : n = 0) (s : ByteArray) (h3 : s.size ≤ 24) (w : World) : Calls Try.prog 20 #[.agg #[.int .i64 3, .int .i64 n, .string s]] w fun e w' => e = .returned (.bool true) ∧ w.alloc (.cells #[.int .i64 3, .int .i64 n, .string s] 37) = w' := by
  have heq := eq_value
  have hnot := @unary_not Try.prog
  subst hn
  have hi : decide ((s.size : Int) ≤ 24) = true := by simp; omega
  clear h3
  go_enter Try.func20, Try.ntmps20
  go_wp2
  go_ret
  exact ⟨rfl, rfl⟩
theorem rr_k3n0 (n : Int) (hn : n = 0) (s : ByteArray) (h3 : ¬ s.size ≤ 24) (w : World) : Calls Try.prog 20 #[.agg #[.int .i64 3, .int .i64 n, .string s]] w fun e w' => e = .returned (.bool false) ∧ w.alloc (.cells #[.int .i64 3, .int .i64 n, .string s] 37) = w' := by
  have heq := eq_value
  have hnot := @unary_not Try.prog
  subst hn
  have hi : decide ((s.size : Int) ≤ 24) = false := by simp; omega
  clear h3
  go_enter Try.func20, Try.ntmps20
  go_wp2
  go_ret
  exact ⟨rfl, rfl⟩
theorem rr_k3nx (n : Int) (hn : ¬ n = 0) (s : ByteArray) (w : World) : Calls Try.prog 20 #[.agg #[.int .i64 3, .int .i64 n, .string s]] w fun e w' => e = .returned (.bool false) ∧ w.alloc (.cells #[.int .i64 3, .int .i64 n, .string s] 37) = w' := by
  have heq := eq_value
  have hnot := @unary_not Try.prog
  have nn0 : (n == 0) = false := by simp; omega
  clear hn
  go_enter Try.func20, Try.ntmps20
  go_wp2
  go_ret
  exact ⟨rfl, rfl⟩
theorem rr_kx (k : Int) (c0 : ¬ k = 0) (c1 : ¬ k = 1) (c2 : ¬ k = 2) (c3 : ¬ k = 3) (n : Int) (s : ByteArray) (w : World) : Calls Try.prog 20 #[.agg #[.int .i64 k, .int .i64 n, .string s]] w fun e w' => e = .returned (.bool false) ∧ w.alloc (.cells #[.int .i64 k, .int .i64 n, .string s] 37) = w' := by
  have heq := eq_value
  have hnot := @unary_not Try.prog
  have k0 : (k == 0) = false := by simp; omega
  have k1 : (k == 1) = false := by simp; omega
  have k2 : (k == 2) = false := by simp; omega
  have k3 : (k == 3) = false := by simp; omega
  clear c0 c1 c2 c3
  go_enter Try.func20, Try.ntmps20
  go_wp2
  go_ret
  exact ⟨rfl, rfl⟩

theorem valRight_any (k n : Int) (s : ByteArray) (w : World) : Calls Try.prog 19 #[.agg #[.int .i64 k, .int .i64 n, .string s]] w fun e w' => e = .returned (.bool (rightB k n s)) ∧ w.alloc (.cells #[.int .i64 k, .int .i64 n, .string s] 37) = w' := by
  by_cases k0 : k = 0
  · subst k0
    by_cases hn : n = 0
    · by_cases h3 : s.size = 0
      · rw [show rightB 0 n s = true by simp [rightB, hn, h3]]; exact vr_k0n0e n hn s h3 w
      · rw [show rightB 0 n s = false by simp [rightB, hn, h3]]; exact vr_k0n0 n hn s h3 w
    · rw [show rightB 0 n s = false by simp [rightB, hn]]; exact vr_k0nx n hn s w
  · by_cases k1 : k = 1
    · subst k1
      by_cases h3 : s.size = 0
      · by_cases hn : n = 0
        · rw [show rightB 1 n s = true by simp [rightB, hn, h3]]; exact vr_k1n0e n hn s h3 w
        · by_cases hn' : n = 1
          · rw [show rightB 1 n s = true by simp [rightB, hn', h3]]; exact vr_k1n1e n hn' s h3 w
          · rw [show rightB 1 n s = false by simp [rightB, hn, hn']]; exact vr_k1nxe n hn hn' s h3 w
      · by_cases hn : n = 0
        · rw [show rightB 1 n s = false by simp [rightB, h3]]; exact vr_k1n0 n hn s h3 w
        · by_cases hn' : n = 1
          · rw [show rightB 1 n s = false by simp [rightB, h3]]; exact vr_k1n1 n hn' s h3 w
          · rw [show rightB 1 n s = false by simp [rightB, h3]]; exact vr_k1nx n hn hn' s h3 w
    · by_cases k2 : k = 2
      · subst k2
        by_cases h3 : s.size = 0
        · rw [show rightB 2 n s = true by simp [rightB, h3]]; exact vr_k2e n s h3 w
        · rw [show rightB 2 n s = false by simp [rightB, h3]]; exact vr_k2 n s h3 w
      · by_cases k3 : k = 3
        · subst k3
          by_cases hn : n = 0
          · by_cases h3 : s.size ≤ 24
            · rw [show rightB 3 n s = true by simp [rightB, hn, h3]]; exact vr_k3n0e n hn s h3 w
            · rw [show rightB 3 n s = false by simp [rightB, h3]]; exact vr_k3n0 n hn s h3 w
          · rw [show rightB 3 n s = false by simp [rightB, hn]]; exact vr_k3nx n hn s w
        · rw [show rightB k n s = false by simp [rightB, k0, k1, k2, k3]]; exact vr_kx k k0 k1 k2 k3 n s w

theorem refRight_any (k n : Int) (s : ByteArray) (w : World) : Calls Try.prog 20 #[.agg #[.int .i64 k, .int .i64 n, .string s]] w fun e w' => e = .returned (.bool (rightB k n s)) ∧ w.alloc (.cells #[.int .i64 k, .int .i64 n, .string s] 37) = w' := by
  by_cases k0 : k = 0
  · subst k0
    by_cases hn : n = 0
    · by_cases h3 : s.size = 0
      · rw [show rightB 0 n s = true by simp [rightB, hn, h3]]; exact rr_k0n0e n hn s h3 w
      · rw [show rightB 0 n s = false by simp [rightB, hn, h3]]; exact rr_k0n0 n hn s h3 w
    · rw [show rightB 0 n s = false by simp [rightB, hn]]; exact rr_k0nx n hn s w
  · by_cases k1 : k = 1
    · subst k1
      by_cases h3 : s.size = 0
      · by_cases hn : n = 0
        · rw [show rightB 1 n s = true by simp [rightB, hn, h3]]; exact rr_k1n0e n hn s h3 w
        · by_cases hn' : n = 1
          · rw [show rightB 1 n s = true by simp [rightB, hn', h3]]; exact rr_k1n1e n hn' s h3 w
          · rw [show rightB 1 n s = false by simp [rightB, hn, hn']]; exact rr_k1nxe n hn hn' s h3 w
      · by_cases hn : n = 0
        · rw [show rightB 1 n s = false by simp [rightB, h3]]; exact rr_k1n0 n hn s h3 w
        · by_cases hn' : n = 1
          · rw [show rightB 1 n s = false by simp [rightB, h3]]; exact rr_k1n1 n hn' s h3 w
          · rw [show rightB 1 n s = false by simp [rightB, h3]]; exact rr_k1nx n hn hn' s h3 w
    · by_cases k2 : k = 2
      · subst k2
        by_cases h3 : s.size = 0
        · rw [show rightB 2 n s = true by simp [rightB, h3]]; exact rr_k2e n s h3 w
        · rw [show rightB 2 n s = false by simp [rightB, h3]]; exact rr_k2 n s h3 w
      · by_cases k3 : k = 3
        · subst k3
          by_cases hn : n = 0
          · by_cases h3 : s.size ≤ 24
            · rw [show rightB 3 n s = true by simp [rightB, hn, h3]]; exact rr_k3n0e n hn s h3 w
            · rw [show rightB 3 n s = false by simp [rightB, h3]]; exact rr_k3n0 n hn s h3 w
          · rw [show rightB 3 n s = false by simp [rightB, hn]]; exact rr_k3nx n hn s w
        · rw [show rightB k n s = false by simp [rightB, k0, k1, k2, k3]]; exact rr_kx k k0 k1 k2 k3 n s w
end Go.Proofs.Ytdkdjdlndcihmaa
