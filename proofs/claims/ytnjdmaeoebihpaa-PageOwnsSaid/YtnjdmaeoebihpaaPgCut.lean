/-
  Where a node is split: the plain law; weigh's calls; parts of a row that read.
-/
import Derived.Test.YtnjdmaeoebihpaaPgSome
namespace Go.Proofs.Ytnjdmaeoebihpaa
open Go.RowKit Go.Proofs.YtnjdmaeoebihpaaW.PrintWords Go.Proofs.YtnjdmaeoebihpaaW.PrintLast Go.Proofs.YtnjdmaeoebihpaaW.PrintMore
set_option linter.unusedVariables false
set_option linter.unusedSimpArgs false

theorem weigh_any {w : World} {A : Option Addr} {c : Nat} {l : List ByteArray} (h : Kd.C Kd.string w A l.length l) (hc : l.length ≤ c) (hl : l.length ≤ 1000) (hw : weighN l ≤ 100004000) (k : Nat) :
    Calls Try.prog 29 #[.slice A l.length c] (w.drewN k) fun e w' => e = .returned (.int .i64 (weighN l)) ∧ ∃ n, w' = (w.drewN k).drewN n := by
  have a1 : l.length ≤ 1000000 := by omega
  have a2 : 0 + weighN (l.drop 0) ≤ 1000000000 := by rw [List.drop_zero]; omega
  have hv := weigh_from l a1 (l.length + 1) 0 0 (Nat.zero_le _) (by omega) a2
  rw [List.drop_zero, Nat.zero_add] at hv
  exact (PPageHalves.page_weigh.calls (l.length + 1) A c l (weighN l) (w.drewN k) (Kd.C_drewN h k) hc hv).mono fun e w' hp => ⟨hp.1, hp.2.out⟩
theorem rd_take {w : World} {ad : Addr} {l : List ByteArray} (h : Kd.C Kd.string w (some ad) l.length l) (i : Nat) (hi : i ≤ l.length) (hl : l.length ≤ 1000000) : Kd.C Kd.string w (some ad) (l.take i).length (l.take i) := by
  have e : (l.take i).length = i := by rw [List.length_take]; omega
  refine Kd.C_of_reads (d := ByteArray.empty) ⟨rfl, by omega, fun _ => ⟨ad, rfl, fun j hj => ?_⟩⟩
  obtain ⟨ad2, e2, hc⟩ := Kd.at_string h (j : Int) (by omega) (by omega)
  injection e2 with e2
  subst e2
  rw [Int.toNat_natCast, rdOf_rec] at hc
  rw [hc]
  simp [rec, List.getElem?_take, show j < i by omega]
theorem rd_drop {w : World} {ad : Addr} {l : List ByteArray} (h : Kd.C Kd.string w (some ad) l.length l) (i : Nat) (hi : i ≤ l.length) (hl : l.length ≤ 1000000) : Kd.C Kd.string w (some (ad.add i)) (l.drop i).length (l.drop i) := by
  have e : (l.drop i).length = l.length - i := List.length_drop
  refine Kd.C_of_reads (d := ByteArray.empty) ⟨rfl, by omega, fun _ => ⟨ad.add i, rfl, fun j hj => ?_⟩⟩
  obtain ⟨ad2, e2, hc⟩ := Kd.at_string h ((i + j : Nat) : Int) (by omega) (by omega)
  injection e2 with e2
  subst e2
  rw [Int.toNat_natCast, rdOf_rec] at hc
  rw [Addr.add_add, hc]
  simp [rec]
/-- The best place among 1, .., m - 1. -/
def cutTo (side : Nat → Nat) : Nat → Nat
  | 0 => 0
  | m + 1 => if m = 0 then 0 else if cutTo side m = 0 ∨ side m < side (cutTo side m) then m else cutTo side m
theorem cutTo_lt (side : Nat → Nat) (m : Nat) (hm : 0 < m) : cutTo side m < m := by
  cases m with
  | zero => omega
  | succ m =>
    simp only [cutTo]
    split
    · omega
    · split
      · omega
      · rename_i h1 h2
        have := cutTo_lt side m (by omega)
        omega
theorem cutTo_pos (side : Nat → Nat) (m : Nat) (hm : 1 < m) : 0 < cutTo side m := by
  cases m with
  | zero => omega
  | succ m =>
    simp only [cutTo]
    rw [if_neg (by omega)]
    split
    · omega
    · rename_i h
      omega
/-- No place is better. -/
theorem cutTo_best (side : Nat → Nat) : ∀ (m j : Nat), 0 < j → j < m → side (cutTo side m) ≤ side j
  | 0, j, _, h => absurd h (Nat.not_lt_zero _)
  | m + 1, j, h0, hj => by
    simp only [cutTo]
    rw [if_neg (by omega)]
    split
    · rename_i h
      rcases Nat.lt_succ_iff_lt_or_eq.1 hj with h1 | rfl
      · have h2 := cutTo_best side m j h0 h1
        have h3 := cutTo_pos side m (by omega)
        omega
      · exact Nat.le_refl _
    · rename_i h
      rcases Nat.lt_succ_iff_lt_or_eq.1 hj with h1 | rfl
      · exact cutTo_best side m j h0 h1
      · omega
/-- How heavy the heavier side is. -/
def sideN (l : List ByteArray) (sk ea i : Nat) : Nat := max (weighN (l.take i) + i * ea) (weighN (l.drop (i + sk)) + (l.length - i - sk) * ea)
def skOf (leaf : Bool) : Nat := if leaf = true then 0 else 1
def eaOf (leaf : Bool) : Nat := if leaf = true then 0 else 4
def cutK (leaf : Bool) (l : List ByteArray) : Nat := cutTo (sideN l (skOf leaf) (eaOf leaf)) (l.length - skOf leaf)
theorem weighN_take (l : List ByteArray) (i : Nat) : weighN (l.take i) ≤ weighN l := by
  have h := weighN_append (l.take i) (l.drop i)
  rw [List.take_append_drop] at h
  omega
theorem weighN_drop (l : List ByteArray) (i : Nat) : weighN (l.drop i) ≤ weighN l := by
  have h := weighN_append (l.take i) (l.drop i)
  rw [List.take_append_drop] at h
  omega
end Go.Proofs.Ytnjdmaeoebihpaa
