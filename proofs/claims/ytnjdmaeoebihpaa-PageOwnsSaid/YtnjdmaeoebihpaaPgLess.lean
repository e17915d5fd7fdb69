/-
  Texts in order: bytesLess is a strict order in which any two are told apart.
-/
import GoSem.Op.String
namespace Go.Proofs.Ytnjdmaeoebihpaa
open Go

theorem less_irrefl : ∀ a : List UInt8, Op.bytesLess a a = false
  | [] => rfl
  | a :: x => by
    have h := less_irrefl x
    simp [Op.bytesLess, h]
theorem less_trans : ∀ a b c : List UInt8, Op.bytesLess a b = true → Op.bytesLess b c = true → Op.bytesLess a c = true
  | _, [], _, h, _ => by simp [Op.bytesLess] at h
  | _, _ :: _, [], _, h => by simp [Op.bytesLess] at h
  | [], _ :: _, _ :: _, _, _ => rfl
  | a :: x, b :: y, c :: z, h1, h2 => by
    simp only [Op.bytesLess, Bool.or_eq_true, decide_eq_true_eq, Bool.and_eq_true, beq_iff_eq] at h1 h2 ⊢
    have ih := less_trans x y z
    rcases h1 with h1 | ⟨rfl, h1⟩
    · rcases h2 with h2 | ⟨rfl, h2⟩
      · exact .inl (UInt8.lt_trans h1 h2)
      · exact .inl h1
    · rcases h2 with h2 | ⟨rfl, h2⟩
      · exact .inl h2
      · exact .inr ⟨rfl, ih h1 h2⟩
theorem less_total : ∀ a b : List UInt8, Op.bytesLess a b = false → a ≠ b → Op.bytesLess b a = true
  | [], [], _, h => absurd rfl h
  | _ :: _, [], _, _ => rfl
  | [], _ :: _, h, _ => by simp [Op.bytesLess] at h
  | a :: x, b :: y, h1, h2 => by
    simp only [Op.bytesLess, Bool.or_eq_false_iff, decide_eq_false_iff_not, Bool.and_eq_false_iff, beq_eq_false_iff_ne, Bool.or_eq_true, decide_eq_true_eq, Bool.and_eq_true, beq_iff_eq] at h1 ⊢
    obtain ⟨h1, h3⟩ := h1
    by_cases e : a = b
    · subst e
      refine .inr ⟨rfl, less_total x y (by rcases h3 with h | h; exact absurd rfl h; exact h) (fun e => h2 (by rw [e]))⟩
    · refine .inl ?_
      rcases UInt8.lt_or_lt_of_ne e with h | h
      · exact absurd h h1
      · exact h
theorem less_asymm (a b : List UInt8) (h : Op.bytesLess a b = true) : Op.bytesLess b a = false := by
  cases hb : Op.bytesLess b a with
  | false => rfl
  | true =>
    have := less_trans a b a h hb
    rw [less_irrefl] at this
    cases this
theorem less_ne (a b : List UInt8) (h : Op.bytesLess a b = true) : (a == b) = false := by
  cases hb : a == b with
  | false => rfl
  | true =>
    rw [eq_of_beq hb, less_irrefl] at h
    cases h
/-- Not below: it is the same, or above. -/
theorem less_cases (a b : List UInt8) (h : Op.bytesLess a b = false) : Op.bytesLess b a = true ∨ a = b := by
  by_cases e : a = b
  · exact .inr e
  · exact .inl (less_total a b h e)
end Go.Proofs.Ytnjdmaeoebihpaa
