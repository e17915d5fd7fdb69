/-
  Package undo: Saves; lists of texts that are alike (tripwireref06.Same).
-/
import Derived.Test.YtkanlcfinogaeaaUnBack
namespace Go.Proofs.Ytkanlcfinogaeaa
open Go.RowKit
set_option linter.unusedVariables false
set_option linter.unusedSimpArgs false

/-- The names of savepoints. -/
def ncells (l : List ByteArray) : List Value := l.map Value.string
def names (l : List (ByteArray × Int)) : List ByteArray := l.map (·.1)
def SavesRel (L : List (ByteArray × Int)) (w : World) (j : Nat) (v : Value) (wr : World) : Prop := wr.ownsRow w.heap.size 9 1 v (names (L.take j)).length (ncells (names (L.take j))) ∧ Below w.heap.size w wr
theorem names_len (L : List (ByteArray × Int)) (j : Nat) (hj : j ≤ L.length) : (names (L.take j)).length = j := by
  unfold names
  rw [List.length_map, List.length_take]
  omega
theorem names_next (L : List (ByteArray × Int)) (j : Nat) (p : ByteArray × Int) (h : L[j]? = some p) : names (L.take (j + 1)) = names (L.take j) ++ [p.1] := by
  unfold names
  rw [List.take_add_one, h]
  simp
theorem saves_any {base l : Nat} {S : ULS} {w : World} (h : UR base l S w) (hsl : S.saves.length ≤ 100000) :
    Calls Try.prog 22 #[.pointer (some ⟨l, 0, none⟩)] w fun e w' => ∃ A c, e = .returned (.slice A (names S.saves).length c) ∧ w'.ownsRow w.heap.size 9 1 (.slice A (names S.saves).length c) (names S.saves).length (ncells (names S.saves)) ∧ Below w.heap.size w w' := by
  have hle := h.le
  obtain ⟨i0, EN⟩ := elt_N
  obtain ⟨I, ev, sv, R⟩ := h
  obtain ⟨SA, sc, rfl⟩ := own_form R.sown
  obtain ⟨q0, q1, q2, y0, y1, y2, hlt⟩ := three_of_block R.blk
  have HR := Lib.hid R
  clear R
  go_enter Try.func22, Try.ntmps22
  go_wp2_with fail
  go_loopg [3, 13] S.saves.length (fun g out i wr => ∃ (j : Nat) (A : Option Addr) (c : Nat), i = .int .i64 j ∧ out = .slice A j c ∧ j ≤ S.saves.length ∧ g = S.saves.length - j ∧ Hid (SavesRel S.saves w j (.slice A j c) wr))
  case atStart => exact ⟨0, none, 0, rfl, rfl, Nat.zero_le _, rfl, World.ownsRow_nil _ _ _ _, Below.refl _ _⟩
  case round =>
    obtain ⟨j, A, c, rfl, rfl, hj, hg, HB⟩ := hrel
    by_cases hlt2 : j < S.saves.length
    · obtain ⟨p, hp⟩ : ∃ p, S.saves[j]? = some p := ⟨_, List.getElem?_eq_getElem hlt2⟩
      obtain ⟨gg, rfl, s1, s2, hgl⟩ := save_at (owns_below HR.out.sown HB.out.2 (Nat.le_refl _)) hp rfl
      have hsz := HB.out.2.size
      have hown := HB.out.1
      rw [names_len _ _ hj] at hown
      have HOWN := Lib.hid (hown.alloc (.cells #[.string p.1, .int .i64 p.2] 69))
      have HP := Lib.hid hp
      have HN1 : Hid (∀ u ∈ #[Value.string p.1].toList, u.oneCell' = true) := (by
        intro u hu
        simp at hu
        subst hu
        rfl : ∀ u ∈ #[Value.string p.1].toList, u.oneCell' = true)
      clear hp hown
      go_wp2_with (at_builtin; refine step_push EN (w := wr.alloc (.cells #[.string p.1, .int .i64 p.2] 69)) rfl _ _ rfl HOWN.out rfl #[.string p.1] rfl (by simp) rfl HN1.out (by omega) (by simp; omega) ?_; intro A5 c5 w5 ho hg; have HO5 := Lib.hid ho; have HG5 := Lib.hid hg; clear ho hg)
      go_roundg (S.saves.length - (j + 1))
      case measure => omega
      case rel =>
        refine ⟨j + 1, A5, c5, by go_num, rfl, by omega, rfl, ?_⟩
        refine Lib.hid ⟨?_, ((HB.out.2.alloc hsz _).alloc (by simp; omega) _).grown HG5.out (by simp; omega) (fun k hk => (HB.out.1.lt k hk).1)⟩
        rw [names_len _ _ (by omega), names_next _ _ _ HP.out]
        have := HO5.out
        simpa [ncells] using this
    · go_wp2_with fail
      go_ret
      obtain rfl : j = S.saves.length := by omega
      have h1 := HB.out
      unfold SavesRel at h1
      rw [List.take_length] at h1
      have hn : (names S.saves).length = S.saves.length := by unfold names; simp
      rw [hn] at h1 ⊢
      exact ⟨A, c, rfl, h1.1, h1.2⟩
end Go.Proofs.Ytkanlcfinogaeaa
