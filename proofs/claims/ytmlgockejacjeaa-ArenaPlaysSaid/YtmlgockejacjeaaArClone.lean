/-
  The walks of slices.Clone, at the element types that package arena clones.
-/
import Derived.Test.YtmlgockejacjeaaProg
import Derived.Test.YtmlgockejacjeaaCommon
import Derived.OwnWalk
import Derived.WalkSpells
namespace Go.Proofs.Ytmlgockejacjeaa
open Go.RowKit
set_option linter.unusedVariables false
set_option linter.unusedSimpArgs false

theorem info_B : (Try.prog.info? 5).map (fun i => (i.zero, i.size, i.bytes)) = some (some (.int .u8 0), 1, 1) := by kernel_rfl
/-- slices.Clone of a slice that isn't nil: the same elements, in a row of the call's own. -/
theorem cloneB_any (b off cap : Nat) (xs : List Value) (w : World) (hc : ∀ j u, xs[j]? = some u → w.cell? ⟨b, off + j, none⟩ = some u) (h1 : ∀ u ∈ xs, u.oneCell' = true) (hn : xs.length ≤ 1000000) (hb : xs.length = 0 ∨ b < w.heap.size) :
    Calls Try.prog 29 #[.slice (some ⟨b, off, none⟩) xs.length cap] w fun e w' => ∃ v, e = .returned v ∧ w'.ownsRow w.heap.size 5 1 v xs.length xs ∧ Below w.heap.size w w' ∧ ∃ g c, v = .slice (some ⟨g, 0, none⟩) xs.length c := by
  have heq := fun (a : Option Addr) (n c : Nat) (w : World) => Lib.run_eql_slice_nil (P := Try.prog) w 29 5 a n c 0 0 Try.underlying29
  obtain ⟨i0, hi, hz0, hz1, hz2⟩ := info_parts info_B
  have c1 : ∀ j u, xs[j]? = some u → (w.alloc (.cells #[] 5)).cell? ((⟨b, off, none⟩ : Addr).add j) = some u := by
    intro j u hj
    rw [Addr.add_lit]
    have h := hc j u hj
    rw [World.cell?_alloc_past _ _ _ (World.block_lt_of_cell? w _ h)]
    exact h
  have c5 : w.heap.size ≤ (w.alloc (.cells #[] 5)).heap.size := by simp
  have hown : (w.alloc (.cells #[] 5)).ownsRow w.heap.size 5 1 (.slice (some ⟨w.heap.size, 0, none⟩) 0 0) 0 [] := World.ownsRow_made w #[] 0 (Nat.le_refl _) (by simp [maxLen]) (by simp)
  have C1 := Lib.hid c1; have C2 := Lib.hid h1; have C5 := Lib.hid c5; have HOWN := Lib.hid hown; have HN := Lib.hid hn
  have C3 : Hid (0 + xs.length ≤ maxLen) := (by simp only [maxLen]; omega : 0 + xs.length ≤ maxLen)
  have C4 : Hid ((0 + xs.length) * 1 ≤ 140737488355328) := (by omega : (0 + xs.length) * 1 ≤ 140737488355328)
  clear c1 h1 c5 hown hc
  go_enter Try.func29, Try.ntmps29
  go_wp2_with (at_builtin; refine wpList_append_own _ rfl _ _ 29 rfl w.heap.size 5 i0 (.int .u8 0) 1 1 Try.underlying29 hi hz0 hz1 hz2 rfl (by decide) _ _ _ rfl HOWN.out ⟨b, off, none⟩ xs.length cap xs rfl (Nat.mul_one _).symm C1.out C2.out C3.out C4.out C5.out ?_; intro v' w2 hown' hgrow hnil; have HO := Lib.hid hown'; have HG := Lib.hid hgrow; have HNI := Lib.hid hnil; clear hown' hgrow hnil)
  go_ret
  have hO : w2.ownsRow w.heap.size 5 1 v' xs.length xs := by simpa using HO.out
  refine ⟨v', rfl, hO, ((Below.refl _ _).alloc (Nat.le_refl _) _).grown HG.out (by simp) (fun k hk => by have e : w.heap.size = k := Option.some.inj hk; omega), ?_⟩
  rcases hO.2 with ⟨h, _⟩ | ⟨g, c, cur, h, _⟩
  · exact absurd (HNI.out.1 h).1 (fun h => by injection h with h; cases h)
  · exact ⟨g, c, h⟩
theorem cloneB_nil (w : World) : Calls Try.prog 29 #[.slice none 0 0] w fun e w' => e = .returned (.slice none 0 0) ∧ w = w' := by
  have heq := fun (a : Option Addr) (n c : Nat) (w : World) => Lib.run_eql_slice_nil (P := Try.prog) w 29 5 a n c 0 0 Try.underlying29
  go_enter Try.func29, Try.ntmps29
  go_wp2
  go_ret
  exact ⟨rfl, rfl⟩

theorem info_I : (Try.prog.info? 3).map (fun i => (i.zero, i.size, i.bytes)) = some (some (.int .i64 0), 1, 8) := by kernel_rfl
/-- slices.Clone of a slice that isn't nil: the same elements, in a row of the call's own. -/
theorem cloneI_any (b off cap : Nat) (xs : List Value) (w : World) (hc : ∀ j u, xs[j]? = some u → w.cell? ⟨b, off + j, none⟩ = some u) (h1 : ∀ u ∈ xs, u.oneCell' = true) (hn : xs.length ≤ 1000000) (hb : xs.length = 0 ∨ b < w.heap.size) :
    Calls Try.prog 33 #[.slice (some ⟨b, off, none⟩) xs.length cap] w fun e w' => ∃ v, e = .returned v ∧ w'.ownsRow w.heap.size 3 1 v xs.length xs ∧ Below w.heap.size w w' ∧ ∃ g c, v = .slice (some ⟨g, 0, none⟩) xs.length c := by
  have heq := fun (a : Option Addr) (n c : Nat) (w : World) => Lib.run_eql_slice_nil (P := Try.prog) w 48 3 a n c 0 0 Try.underlying48
  obtain ⟨i0, hi, hz0, hz1, hz2⟩ := info_parts info_I
  have c1 : ∀ j u, xs[j]? = some u → (w.alloc (.cells #[] 3)).cell? ((⟨b, off, none⟩ : Addr).add j) = some u := by
    intro j u hj
    rw [Addr.add_lit]
    have h := hc j u hj
    rw [World.cell?_alloc_past _ _ _ (World.block_lt_of_cell? w _ h)]
    exact h
  have c5 : w.heap.size ≤ (w.alloc (.cells #[] 3)).heap.size := by simp
  have hown : (w.alloc (.cells #[] 3)).ownsRow w.heap.size 3 1 (.slice (some ⟨w.heap.size, 0, none⟩) 0 0) 0 [] := World.ownsRow_made w #[] 0 (Nat.le_refl _) (by simp [maxLen]) (by simp)
  have C1 := Lib.hid c1; have C2 := Lib.hid h1; have C5 := Lib.hid c5; have HOWN := Lib.hid hown; have HN := Lib.hid hn
  have C3 : Hid (0 + xs.length ≤ maxLen) := (by simp only [maxLen]; omega : 0 + xs.length ≤ maxLen)
  have C4 : Hid ((0 + xs.length) * 8 ≤ 140737488355328) := (by omega : (0 + xs.length) * 8 ≤ 140737488355328)
  clear c1 h1 c5 hown hc
  go_enter Try.func33, Try.ntmps33
  go_wp2_with (at_builtin; refine wpList_append_own _ rfl _ _ 48 rfl w.heap.size 3 i0 (.int .i64 0) 1 8 Try.underlying48 hi hz0 hz1 hz2 rfl (by decide) _ _ _ rfl HOWN.out ⟨b, off, none⟩ xs.length cap xs rfl (Nat.mul_one _).symm C1.out C2.out C3.out C4.out C5.out ?_; intro v' w2 hown' hgrow hnil; have HO := Lib.hid hown'; have HG := Lib.hid hgrow; have HNI := Lib.hid hnil; clear hown' hgrow hnil)
  go_ret
  have hO : w2.ownsRow w.heap.size 3 1 v' xs.length xs := by simpa using HO.out
  refine ⟨v', rfl, hO, ((Below.refl _ _).alloc (Nat.le_refl _) _).grown HG.out (by simp) (fun k hk => by have e : w.heap.size = k := Option.some.inj hk; omega), ?_⟩
  rcases hO.2 with ⟨h, _⟩ | ⟨g, c, cur, h, _⟩
  · exact absurd (HNI.out.1 h).1 (fun h => by injection h with h; cases h)
  · exact ⟨g, c, h⟩
theorem cloneI_nil (w : World) : Calls Try.prog 33 #[.slice none 0 0] w fun e w' => e = .returned (.slice none 0 0) ∧ w = w' := by
  have heq := fun (a : Option Addr) (n c : Nat) (w : World) => Lib.run_eql_slice_nil (P := Try.prog) w 48 3 a n c 0 0 Try.underlying48
  go_enter Try.func33, Try.ntmps33
  go_wp2
  go_ret
  exact ⟨rfl, rfl⟩

theorem info_P : (Try.prog.info? 68).map (fun i => (i.zero, i.size, i.bytes)) = some (some (.pointer none), 1, 8) := by kernel_rfl
/-- slices.Clone of a slice that isn't nil: the same elements, in a row of the call's own. -/
theorem cloneP_any (b off cap : Nat) (xs : List Value) (w : World) (hc : ∀ j u, xs[j]? = some u → w.cell? ⟨b, off + j, none⟩ = some u) (h1 : ∀ u ∈ xs, u.oneCell' = true) (hn : xs.length ≤ 1000000) (hb : xs.length = 0 ∨ b < w.heap.size) :
    Calls Try.prog 32 #[.slice (some ⟨b, off, none⟩) xs.length cap] w fun e w' => ∃ v, e = .returned v ∧ w'.ownsRow w.heap.size 68 1 v xs.length xs ∧ Below w.heap.size w w' ∧ ∃ g c, v = .slice (some ⟨g, 0, none⟩) xs.length c := by
  have heq := fun (a : Option Addr) (n c : Nat) (w : World) => Lib.run_eql_slice_nil (P := Try.prog) w 58 68 a n c 0 0 Try.underlying58
  obtain ⟨i0, hi, hz0, hz1, hz2⟩ := info_parts info_P
  have c1 : ∀ j u, xs[j]? = some u → (w.alloc (.cells #[] 68)).cell? ((⟨b, off, none⟩ : Addr).add j) = some u := by
    intro j u hj
    rw [Addr.add_lit]
    have h := hc j u hj
    rw [World.cell?_alloc_past _ _ _ (World.block_lt_of_cell? w _ h)]
    exact h
  have c5 : w.heap.size ≤ (w.alloc (.cells #[] 68)).heap.size := by simp
  have hown : (w.alloc (.cells #[] 68)).ownsRow w.heap.size 68 1 (.slice (some ⟨w.heap.size, 0, none⟩) 0 0) 0 [] := World.ownsRow_made w #[] 0 (Nat.le_refl _) (by simp [maxLen]) (by simp)
  have C1 := Lib.hid c1; have C2 := Lib.hid h1; have C5 := Lib.hid c5; have HOWN := Lib.hid hown; have HN := Lib.hid hn
  have C3 : Hid (0 + xs.length ≤ maxLen) := (by simp only [maxLen]; omega : 0 + xs.length ≤ maxLen)
  have C4 : Hid ((0 + xs.length) * 8 ≤ 140737488355328) := (by omega : (0 + xs.length) * 8 ≤ 140737488355328)
  clear c1 h1 c5 hown hc
  go_enter Try.func32, Try.ntmps32
  go_wp2_with (at_builtin; refine wpList_append_own _ rfl _ _ 58 rfl w.heap.size 68 i0 (.pointer none) 1 8 Try.underlying58 hi hz0 hz1 hz2 rfl (by decide) _ _ _ rfl HOWN.out ⟨b, off, none⟩ xs.length cap xs rfl (Nat.mul_one _).symm C1.out C2.out C3.out C4.out C5.out ?_; intro v' w2 hown' hgrow hnil; have HO := Lib.hid hown'; have HG := Lib.hid hgrow; have HNI := Lib.hid hnil; clear hown' hgrow hnil)
  go_ret
  have hO : w2.ownsRow w.heap.size 68 1 v' xs.length xs := by simpa using HO.out
  refine ⟨v', rfl, hO, ((Below.refl _ _).alloc (Nat.le_refl _) _).grown HG.out (by simp) (fun k hk => by have e : w.heap.size = k := Option.some.inj hk; omega), ?_⟩
  rcases hO.2 with ⟨h, _⟩ | ⟨g, c, cur, h, _⟩
  · exact absurd (HNI.out.1 h).1 (fun h => by injection h with h; cases h)
  · exact ⟨g, c, h⟩
theorem cloneP_nil (w : World) : Calls Try.prog 32 #[.slice none 0 0] w fun e w' => e = .returned (.slice none 0 0) ∧ w = w' := by
  have heq := fun (a : Option Addr) (n c : Nat) (w : World) => Lib.run_eql_slice_nil (P := Try.prog) w 58 68 a n c 0 0 Try.underlying58
  go_enter Try.func32, Try.ntmps32
  go_wp2
  go_ret
  exact ⟨rfl, rfl⟩
end Go.Proofs.Ytmlgockejacjeaa
