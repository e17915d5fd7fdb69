/-
  What the law UndoPlays holds of both logs; a write in a row of values that is neither's.
-/
import Derived.Test.YtkanlcfinogaeaaUnDuo
namespace Go.Proofs.Ytkanlcfinogaeaa
open Go.RowKit
set_option linter.unusedVariables false
set_option linter.unusedSimpArgs false

theorem eight_of_block {w : World} {B : Nat} {a b c d e f g h : Value} {t : TypeId} {fr : Nat × Nat} (hB : w.heap[B]? = some (.cells #[a, b, c, d, e, f, g, h] t fr)) : w.cell? ⟨B, 0, none⟩ = some a ∧ w.cell? ⟨B, 1, none⟩ = some b ∧ w.cell? ⟨B, 2, none⟩ = some c ∧ w.cell? ⟨B, 3, none⟩ = some d ∧ w.cell? ⟨B, 4, none⟩ = some e ∧ w.cell? ⟨B, 5, none⟩ = some f ∧ w.cell? ⟨B, 6, none⟩ = some g ∧ w.cell? ⟨B, 7, none⟩ = some h ∧ B < w.heap.size :=
  ⟨cell_of_block hB 0, cell_of_block hB 1, cell_of_block hB 2, cell_of_block hB 3, cell_of_block hB 4, cell_of_block hB 5, cell_of_block hB 6, cell_of_block hB 7, lt_of_block hB⟩
/-- What the law's loop holds, behind n acts. -/
structure Held (S : ULS) (R : RLS) (n : Nat) : Prop where
  tie : Tie S R
  len : R.items.length ≤ n
  short : ∀ e ∈ S.entries, ShortE e
theorem Held.start (q : Int) : Held ⟨[], [], q⟩ ⟨[], q⟩ 0 := ⟨Tie.nil q, Nat.le_refl _, fun e he => by cases he⟩
theorem savesFrom_len (l : List Itm) : ∀ k, (savesFrom k l).length ≤ l.length := by
  induction l with
  | nil => intro k; exact Nat.le_refl _
  | cons y t ih =>
    intro k
    cases hs : y.save with
    | true => simp [savesFrom, hs]; exact ih k
    | false => simp [savesFrom, hs]; exact Nat.le_trans (ih (k + 1)) (Nat.le_succ _)
theorem Held.lens {S : ULS} {R : RLS} {n : Nat} (h : Held S R n) (h2 : n ≤ 120) : R.items.length ≤ 100000 ∧ S.entries.length ≤ 200000 ∧ S.saves.length ≤ 100000 := by
  have h1 := h.len
  have h3 := cntE_le R.items
  have h4 := h.tie.len
  have h5 := savesFrom_len R.items 0
  rw [← h.tie.saves] at h5
  exact ⟨by omega, by omega, by omega⟩
theorem Held.names {S : ULS} {R : RLS} {n : Nat} (h : Held S R n) : Go.Proofs.Ytkanlcfinogaeaa.names S.saves = rnames R.items := by
  rw [h.tie.saves]
  exact savesFrom_names _ _
theorem Held.up {S : ULS} {R : RLS} {n : Nat} (h : Held S R n) : Held S R (n + 1) := ⟨h.tie, Nat.le_succ_of_le h.len, h.short⟩
theorem Held.save {S : ULS} {R : RLS} {n : Nat} (h : Held S R n) (s : ByteArray) (e : Ent) : Held { S with saves := S.saves ++ [(s, (S.entries.length : Int))] } { R with items := R.items ++ [⟨true, s, e⟩] } (n + 1) :=
  ⟨h.tie.save s e, by have := h.len; simp; omega, h.short⟩
theorem Held.add {S : ULS} {R : RLS} {n : Nat} (h : Held S R n) (s : ByteArray) (e : Ent) (he : ShortE e) : Held { S with entries := S.entries ++ [e] } { R with items := R.items ++ [⟨false, s, e⟩] } (n + 1) :=
  ⟨h.tie.add s e, by have := h.len; simp; omega, fun x hx => by
    rcases List.mem_append.1 hx with hx | hx
    · exact h.short x hx
    · obtain rfl : x = e := by simpa using hx
      exact he⟩
theorem Held.cut {S : ULS} {R : RLS} {n : Nat} (h : Held S R n) (j : Nat) : Held { S with entries := S.entries.take (cntE (R.items.take j)), saves := S.saves.take (savesFrom 0 (R.items.take j)).length } { R with items := R.items.take j } (n + 1) :=
  ⟨h.tie.cut j, by have := h.len; have h1 : (R.items.take j).length ≤ R.items.length := (by rw [List.length_take]; omega); show (R.items.take j).length ≤ n + 1; omega, fun x hx => h.short x (List.mem_of_mem_take hx)⟩
theorem Held.shorts {S : ULS} {R : RLS} {n m : Nat} (h : Held S R n) {J : List Img} (hJ : J.map Img.e = (S.entries.drop m).reverse) : ∀ x ∈ J, ShortE x.e := by
  intro x hx
  have h1 : x.e ∈ J.map Img.e := List.mem_map.2 ⟨x, hx, rfl⟩
  rw [hJ, List.mem_reverse] at h1
  exact h.short _ (List.mem_of_mem_drop h1)
/-- Where both are cut. -/
def cutS (S : ULS) (R : RLS) (j : Nat) : ULS := { S with entries := S.entries.take (cntE (R.items.take j)), saves := S.saves.take (savesFrom 0 (R.items.take j)).length }
def cutR (R : RLS) (j : Nat) : RLS := { R with items := R.items.take j }
structure Place (R : RLS) (j : Nat) (z : Int) : Prop where
  le : j ≤ R.items.length
  num : ((cntE (R.items.take j) : Nat) : Int) = if 0 > z then 0 else z
  high : ∀ i, j < i → i ≤ R.items.length → cntE (R.items.take j) < cntE (R.items.take i)
theorem Place.one {R : RLS} {i j : Nat} {z : Int} (h : Place R i z) (k : Place R j z) : i = j := by
  have e : cntE (R.items.take i) = cntE (R.items.take j) := by have h1 := h.num; have h2 := k.num; omega
  rcases Nat.lt_trichotomy i j with hl | hl | hl
  · have := h.high j hl k.le; omega
  · exact hl
  · have := k.high i hl h.le; omega
theorem Place.get {R : RLS} {z : Int} (hz : z ≤ (cntE R.items : Int)) : ∃ j, Place R j z := by
  obtain ⟨m, hm⟩ : ∃ m : Nat, (m : Int) = if 0 > z then 0 else z := ⟨z.toNat, by split <;> omega⟩
  obtain ⟨j, h1, h2, h3⟩ := place_of R.items m (by split at hm <;> omega)
  exact ⟨j, h1, by rw [h2]; exact hm, fun i a b => by rw [h2]; exact h3 i a b⟩
section
variable {w0 : World} {base l r : Nat} {S : ULS} {R : RLS} {w : World}
theorem Duo.progTo (K : Duo w0 base l r S R w) {n : Nat} (H : Held S R n) (hn : n ≤ 120) {z : Int} {j : Nat} (P : Place R j z) :
    Calls Try.prog 17 #[.pointer (some ⟨l, 0, none⟩), .int .i64 z] w fun e w' => ∃ A c J, e = .returned (.slice A J.length c) ∧ J.map Img.e = outE R.items j ∧ KeepE base 35 w' A J c ∧ Duo w0 base l r (cutS S R j) R w' ∧ Frm TP base w w' := by
  obtain ⟨l1, l2, l3⟩ := H.lens hn
  obtain ⟨p1, p2, p3⟩ := H.tie.at_ P.le P.high
  refine (K.to l2 l3 z (cntE (R.items.take j)) P.num ?_ _ p1 p2 p3).mono fun e w' h => ?_
  · rw [H.tie.len]
    have h1 := cntE_append (R.items.take j) (R.items.drop j)
    rw [List.take_append_drop] at h1
    omega
  · obtain ⟨A, c, J, rfl, hJ, hk, hd, hf⟩ := h
    exact ⟨A, c, J, rfl, by rw [hJ, H.tie.out], hk, hd, hf⟩
theorem Duo.refTo (K : Duo w0 base l r S R w) (hl : R.items.length ≤ 100000) {z : Int} {j : Nat} (P : Place R j z) :
    Calls Try.prog 18 #[.pointer (some ⟨r, 0, none⟩), .int .i64 z] w fun e w' => ∃ A c J, e = .returned (.slice A J.length c) ∧ J.map Img.e = outE R.items j ∧ KeepE base 40 w' A J c ∧ Duo w0 base l r S (cutR R j) w' ∧ Frm TR base w w' := by
  have h1 := cntE_append (R.items.take j) (R.items.drop j)
  rw [List.take_append_drop] at h1
  refine (K.rto hl z (cntE (R.items.take j)) P.num (by omega)).mono fun e w' h => ?_
  obtain ⟨i, A, c, J, rfl, hi, hc, hh, hJ, hk, hd, hf⟩ := h
  have hij : i = j := Place.one ⟨hi, by rw [hc]; exact P.num, fun a b d => by rw [hc]; exact hh a b d⟩ P
  subst hij
  exact ⟨A, c, J, rfl, hJ, hk, hd, hf⟩
theorem Duo.progMore (K : Duo w0 base l r S R w) (hl : S.entries.length ≤ 200000) (n : Int) (hn : (S.entries.length : Int) < n) :
    Calls Try.prog 17 #[.pointer (some ⟨l, 0, none⟩), .int .i64 n] w fun e w' => e = .returned (.slice none 0 0) ∧ Duo w0 base l r S R w' ∧ Below w.heap.size w w' :=
  (to_more K.ur hl n hn).mono fun e w' h => ⟨h.1, K.below h.2, h.2⟩
end
theorem Held.cutBoth {S : ULS} {R : RLS} {n : Nat} (h : Held S R n) (j : Nat) : Held (cutS S R j) (cutR R j) (n + 1) := h.cut j
theorem Held.shortOut {S : ULS} {R : RLS} {n j : Nat} (h : Held S R n) {J : List Img} (hJ : J.map Img.e = outE R.items j) : (∀ x ∈ J, ShortE x.e) ∧ J.length ≤ R.items.length := by
  have h1 := hJ
  rw [h.tie.out] at h1
  refine ⟨h.shorts h1, ?_⟩
  have h2 := congrArg List.length hJ
  rw [List.length_map] at h2
  rw [h2]
  exact outE_len _ _
end Go.Proofs.Ytkanlcfinogaeaa
