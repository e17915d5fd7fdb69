/-
  A program of steps: what it comes to, by plain functions; the reference's Run, as printed, comes to the same.
-/
import Derived.Test.YtigcmbakglghpaaPFaultRunsx
namespace Go.Proofs.Ytigcmbakglghpaa
open Go.RowKit Go.Proofs.YtigcmbakglghpaaW.PrintWords Go.Proofs.YtigcmbakglghpaaW.PrintLast Go.Proofs.YtigcmbakglghpaaW.PrintMore Go.Proofs.Ytigcmbakglghpaa.PFaultRuns
set_option linter.unusedVariables false
set_option linter.unusedSimpArgs false

abbrev Mk := S53
abbrev St := S50
abbrev RR := List S53 × Int × Int
/-- One behind the other, each by itself, till one stops. -/
def each (f : List S50 → RR) : List S50 → Int → List S53 × Int × Int × Int
  | [], _ => ([], -1, 0, 0)
  | x :: t, n => if (f [x]).2.1 = 0 then ((f [x]).1 ++ (each f t (n + 1)).1, (each f t (n + 1)).2) else ((f [x]).1, n, (f [x]).2.1, (f [x]).2.2)
/-- One step. -/
def one (f : List S50 → RR) (x : S50) : RR :=
  if x.f0 = 1 then (if x.f1 = 0 then ([], 0, 0) else ([], x.f1, x.f2))
  else if x.f0 = 2 then ((f x.f3).1 ++ [⟨2, (f x.f3).2.1, (f x.f3).2.2⟩], 0, 0)
  else if x.f0 = 3 then (if (f x.f3).2.1 = 0 then ((f x.f3).1 ++ [⟨3, (f x.f3).2.1, (f x.f3).2.2⟩], 0, 0)
    else if (f x.f4).2.1 = 0 then ((f x.f3).1 ++ (f x.f4).1 ++ [⟨3, (f x.f3).2.1, (f x.f3).2.2⟩], 0, 0) else ((f x.f3).1 ++ (f x.f4).1 ++ [⟨3, (f x.f4).2.1, (f x.f4).2.2⟩], 0, 0))
  else if x.f0 = 4 then ((each f x.f3 0).1 ++ [⟨4, (each f x.f3 0).2.2.1, (each f x.f3 0).2.2.2⟩, ⟨5, (each f x.f3 0).2.1, 0⟩], 0, 0)
  else ([⟨0, x.f1, 0⟩], 0, 0)
def all (f : List S50 → RR) : List S50 → RR
  | [] => ([], 0, 0)
  | x :: t => if (one f x).2.1 = 0 then ((one f x).1 ++ (all f t).1, (all f t).2) else one f x
/-- What a program of steps comes to: N steps within one another at the most. -/
def sp : Nat → List S50 → RR
  | 0, _ => ([], 0, 0)
  | N + 1, l => all (sp N) l
def Dp : Nat → List S50 → Prop
  | 0, l => l = []
  | N + 1, l => ∀ x ∈ l, Dp N x.f3 ∧ Dp N x.f4
theorem Dp.single : ∀ {N : Nat} {l : List S50} {y : S50}, Dp N l → y ∈ l → Dp N [y]
  | 0, l, y, h, hy => by
    have h0 : l = [] := h
    subst h0
    cases hy
  | N + 1, l, y, h, hy => fun x hx => by
    obtain rfl : x = y := by simpa using hx
    exact h x hy
def szl (f : List S50 → Nat) : List S50 → Nat
  | [] => 0
  | x :: t => 1 + f x.f3 + f x.f4 + szl f t
def sz : Nat → List S50 → Nat
  | 0, _ => 0
  | N + 1, l => szl (sz N) l
theorem szl_mem (f : List S50 → Nat) : ∀ (l : List S50) (x : S50), x ∈ l → 1 + f x.f3 + f x.f4 ≤ szl f l
  | y :: t, x, h => by
    rcases List.mem_cons.1 h with rfl | h
    · simp only [szl]; omega
    · have := szl_mem f t x h
      simp only [szl]; omega
theorem szl_drop (f : List S50 → Nat) (x : S50) (t : List S50) : szl f (x :: t) = szl f [x] + szl f t := by simp only [szl]; omega
theorem sz_cons (N : Nat) (x : S50) (t : List S50) : sz N (x :: t) = sz N [x] + sz N t := by
  cases N with
  | zero => rfl
  | succ N => exact szl_drop _ _ _
theorem sz_nil (N : Nat) : sz N [] = 0 := by cases N <;> rfl
theorem each_len (f : List S50 → RR) (g : List S50 → Nat) (hg : ∀ x t, g (x :: t) = g [x] + g t) (h : ∀ x, (f [x]).1.length ≤ 2 * g [x]) : ∀ (l : List S50) (n : Int), (each f l n).1.length ≤ 2 * g l
  | [], n => Nat.zero_le _
  | x :: t, n => by
    have h1 := h x
    have h2 := each_len f g hg h t (n + 1)
    have h3 := hg x t
    simp only [each]
    split
    · simp only [List.length_append]; omega
    · show (f [x]).1.length ≤ _
      omega
theorem one_len (f : List S50 → RR) (g : List S50 → Nat) (hg : ∀ x t, g (x :: t) = g [x] + g t) (h : ∀ l, (f l).1.length ≤ 2 * g l) (x : S50) : (one f x).1.length ≤ 2 * (1 + g x.f3 + g x.f4) := by
  have h1 := h x.f3
  have h2 := h x.f4
  have h3 := each_len f g hg (fun y => h [y]) x.f3 0
  unfold one
  split
  · split <;> simp
  · split
    · simp only [List.length_append, List.length_cons, List.length_nil]; omega
    · split
      · split
        · simp only [List.length_append, List.length_cons, List.length_nil]; omega
        · split <;> (simp only [List.length_append, List.length_cons, List.length_nil]; omega)
      · split
        · simp only [List.length_append, List.length_cons, List.length_nil]; omega
        · simp; omega
theorem all_len (f : List S50 → RR) (g : List S50 → Nat) (hg : ∀ x t, g (x :: t) = g [x] + g t) (h : ∀ l, (f l).1.length ≤ 2 * g l) : ∀ l : List S50, (all f l).1.length ≤ 2 * szl g l
  | [] => Nat.zero_le _
  | x :: t => by
    have h1 := one_len f g hg h x
    have h2 := all_len f g hg h t
    simp only [all, szl]
    split
    · simp only [List.length_append]; omega
    · omega
theorem sp_len : ∀ (N : Nat) (l : List S50), (sp N l).1.length ≤ 2 * sz N l
  | 0, l => Nat.zero_le _
  | N + 1, l => all_len (sp N) (sz N) (sz_cons N) (sp_len N) l
theorem one_at (f : List S50 → RR) (x : S50) (h : (one f x).2.1 = 0) : (one f x).2.2 = 0 := by
  unfold one at h ⊢
  split
  · split
    · rfl
    · rename_i h1 h2
      rw [if_pos h1, if_neg h2] at h
      exact absurd h h2
  · split
    · rfl
    · split
      · split
        · rfl
        · split <;> rfl
      · split <;> rfl
theorem all_at (f : List S50 → RR) : ∀ (l : List S50), (all f l).2.1 = 0 → (all f l).2.2 = 0
  | [], _ => rfl
  | x :: t, h => by
    simp only [all] at h ⊢
    split
    · rename_i h1
      rw [if_pos h1] at h
      exact all_at f t h
    · rename_i h1
      rw [if_neg h1] at h
      exact absurd h h1
theorem sp_at (N : Nat) (l : List S50) (h : (sp N l).2.1 = 0) : (sp N l).2.2 = 0 := by
  cases N with
  | zero => rfl
  | succ N => exact all_at _ l h

/-! ### The reference's Run -/
def Evt {α : Type} (g : Nat → Option α) (r : α) : Prop := ∃ k0, ∀ k, k0 ≤ k → g k = some r
theorem Evt.step {α : Type} {g h : Nat → Option α} {r : α} (H : Evt h r) (hs : ∀ k, g (k + 1) = h k) : Evt g r := by
  obtain ⟨k0, hk⟩ := H
  refine ⟨k0 + 1, fun k h1 => ?_⟩
  obtain ⟨m, rfl⟩ : ∃ m, k = m + 1 := ⟨k - 1, by omega⟩
  rw [hs]
  exact hk m (by omega)
theorem Evt.bind {α β : Type} {g : Nat → Option α} {h : Nat → α → Option β} {a : α} {r : β} (H : Evt g a) (H2 : Evt (fun k => h k a) r) : Evt (fun k => (g k).bind (h k)) r := by
  obtain ⟨k0, hk⟩ := H
  obtain ⟨k1, hk1⟩ := H2
  refine ⟨max k0 k1, fun k h1 => ?_⟩
  show (g k).bind (h k) = _
  rw [hk k (by omega)]
  exact hk1 k (by omega)
theorem Evt.const {α : Type} (r : α) : Evt (fun _ => some r) r := ⟨0, fun _ _ => rfl⟩
theorem rd_at (pre t : List S50) (x : S50) : rd_T50 (pre ++ x :: t) (pre.length : Int) = x := by
  simp [rd_T50]
end Go.Proofs.Ytigcmbakglghpaa
