/-
  Where a text stands among a node's entries: plain laws over the printed functions, and what calls of them answer.
-/
import Derived.Test.YtnjdmaeoebihpaaPgAwake
namespace Go.Proofs.Ytnjdmaeoebihpaa
open Go.RowKit Go.Proofs.YtnjdmaeoebihpaaW.PrintWords Go.Proofs.YtnjdmaeoebihpaaW.PrintLast Go.Proofs.YtnjdmaeoebihpaaW.PrintMore
set_option linter.unusedVariables false
set_option linter.unusedSimpArgs false

/-! ### great -/
structure Sml (l : List ByteArray) (ks : List Int) : Prop where
  len : l.length ≤ 400
  kids : ks.length ≤ 400
  each : ∀ j, j < l.length → (rec l j).size ≤ 1000
theorem rec_mem (l : List ByteArray) (s : ByteArray) (h : s ∈ l) : ∃ j, j < l.length ∧ rec l j = s := by
  obtain ⟨j, hj, rfl⟩ := List.getElem_of_mem h
  exact ⟨j, hj, by simp [rec, hj]⟩
theorem Sml.bd {l : List ByteArray} {ks : List Int} (h : Sml l ks) : Bd l ks :=
  ⟨Nat.le_trans h.len (by omega), Nat.le_trans h.kids (by omega), fun s hs => by
    obtain ⟨j, hj, rfl⟩ := rec_mem l s hs
    exact Nat.le_trans (h.each j hj) (by omega)⟩
theorem great_l0 (l : List ByteArray) (hl : l.length ≤ 400) (k : Nat) : ∀ j, j ≤ l.length → l.length - j < k → (∀ m, m < j → (rec l m).size ≤ 1000) → ∃ b, PPageHalves.tripwirelaw05_great.l0 k l (l.length : Int) (j : Int) = some b ∧ (b = false → ∀ m, m < l.length → (rec l m).size ≤ 1000) := by
  induction k with
  | zero => intro j _ h _; exact absurd h (Nat.not_lt_zero _)
  | succ k ih =>
    intro j hj hk hm
    simp only [PPageHalves.tripwirelaw05_great.l0]
    by_cases hlt : j < l.length
    · rw [if_pos (by omega), if_pos (by omega), if_pos (by omega), rdOf_rec]
      by_cases hs : ((rec l j).size : Int) > 1000
      · rw [if_pos hs]
        exact ⟨true, rfl, fun h => by cases h⟩
      · rw [if_neg hs, show wrap64 ((j : Int) + 1) = ((j + 1 : Nat) : Int) by unfold wrap64; omega]
        refine ih (j + 1) hlt (by omega) fun m h => ?_
        rcases Nat.lt_succ_iff_lt_or_eq.1 h with h | rfl
        · exact hm m h
        · omega
    · rw [if_neg (by omega)]
      exact ⟨false, rfl, fun _ m h => hm m (by omega)⟩
theorem great_val (leaf : Bool) (l : List ByteArray) (ks : List Int) : ∃ b, PPageHalves.tripwirelaw05_great.f 402 leaf l ks = some b ∧ (b = false → Sml l ks) := by
  unfold PPageHalves.tripwirelaw05_great.f
  by_cases h1 : (l.length : Int) > 400
  · rw [if_pos h1]
    exact ⟨true, rfl, fun h => by cases h⟩
  · rw [if_neg h1]
    by_cases h2 : (ks.length : Int) > 400
    · rw [decide_eq_true h2]
      exact ⟨true, rfl, fun h => by cases h⟩
    · rw [decide_eq_false h2]
      obtain ⟨b, hb, hs⟩ := great_l0 l (by omega) 401 0 (Nat.zero_le _) (by omega) (fun m h => absurd h (Nat.not_lt_zero _))
      refine ⟨b, ?_, fun h => ⟨by omega, by omega, hs h⟩⟩
      simp only [PPageHalves.tripwirelaw05_great.j0]
      exact hb
def GreatIs (l : List ByteArray) (ks : List Int) (w : World) (e : Ending) (w' : World) : Prop := ∃ b : Bool, e = .returned (.bool b) ∧ (b = false → Sml l ks) ∧ Below w.heap.size w w'
theorem great_any (leaf : Bool) (A : Option Addr) (c : Nat) (l : List ByteArray) (B : Option Addr) (d : Nat) (ks : List Int) (w : World) (hr : RdN w A c l B d ks) :
    Calls Try.prog 10 #[.agg #[.bool leaf, .slice A l.length c, .slice B ks.length d]] w (GreatIs l ks w) := by
  obtain ⟨b, hb, hs⟩ := great_val leaf l ks
  exact (PPageHalves.tripwirelaw05_great.calls 402 leaf A c l B d ks b w hr.recs hr.rc hr.kids hr.kc hb).mono fun e w' h => ⟨b, h.1, hs, h.2⟩

/-! ### Where a text stands -/
/-- i entries are below s, and no other. -/
structure At (l : List ByteArray) (s : ByteArray) (i : Nat) : Prop where
  le : i ≤ l.length
  below : ∀ m, m < i → lt (rec l m) s = true
  above : ∀ m, i ≤ m → m < l.length → lt (rec l m) s = false
theorem At.one {l : List ByteArray} {s : ByteArray} {i j : Nat} (h : At l s i) (k : At l s j) : i = j := by
  rcases Nat.lt_trichotomy i j with hl | hl | hl
  · have h1 := h.above i (Nat.le_refl _) (Nat.lt_of_lt_of_le hl k.le)
    rw [k.below i hl] at h1
    cases h1
  · exact hl
  · have h1 := k.above j (Nat.le_refl _) (Nat.lt_of_lt_of_le hl h.le)
    rw [h.below j hl] at h1
    cases h1
/-- Is entry i the text? -/
def isAt (l : List ByteArray) (s : ByteArray) (i : Nat) : Bool := decide (i < l.length) && ((rec l i).toList == s.toList)
def Ord (l : List ByteArray) : Prop := ∀ j, 0 < j → j < l.length → lt (rec l (j - 1)) (rec l j) = true
theorem Shp.ord {leaf : Bool} {l : List ByteArray} {ks : List Int} (h : Shp leaf l ks) : Ord l := fun j h0 hj => (h.recs j hj).up h0
theorem Ord.lt {l : List ByteArray} (h : Ord l) {a : Nat} : ∀ b, a < b → b < l.length → Go.Proofs.Ytnjdmaeoebihpaa.lt (rec l a) (rec l b) = true
  | 0, hab, _ => absurd hab (Nat.not_lt_zero _)
  | b + 1, hab, hb => by
    have h1 := h (b + 1) (Nat.succ_pos _) hb
    rw [Nat.add_sub_cancel] at h1
    rcases Nat.lt_succ_iff_lt_or_eq.1 hab with h2 | rfl
    · exact less_trans _ _ _ (Ord.lt h b h2 (by omega)) h1
    · exact h1
theorem Ord.down {l : List ByteArray} (h : Ord l) {s : ByteArray} {a b : Nat} (hab : a ≤ b) (hb : b < l.length) (hs : Go.Proofs.Ytnjdmaeoebihpaa.lt (rec l b) s = true) : Go.Proofs.Ytnjdmaeoebihpaa.lt (rec l a) s = true := by
  rcases Nat.lt_or_eq_of_le hab with h1 | rfl
  · exact less_trans _ _ _ (h.lt b h1 hb) hs
  · exact hs
theorem less_f (a b : ByteArray) : PPageHalves.cmp_Less_string.f a b = some (lt a b) := by
  simp [PPageHalves.cmp_Less_string.f, PPageHalves.cmp_isNaN_string.f, lt]
theorem mid_val (i j : Nat) (h : i + j ≤ 1000000) : wrap64 ((IntKind.u64.wrap (wrap64 ((i : Int) + (j : Int)))) / 2) = (((i + j) / 2 : Nat) : Int) := by
  have h1 : wrap64 ((i : Int) + (j : Int)) = (i : Int) + (j : Int) := by unfold wrap64; omega
  have h2 : IntKind.u64.wrap ((i : Int) + (j : Int)) = (i : Int) + (j : Int) := by
    rw [IntKind.wrap_u64]
    omega
  rw [h1, h2]
  unfold wrap64
  omega
theorem search_l0 (l : List ByteArray) (s : ByteArray) (ho : Ord l) (hl : l.length ≤ 100000) (k : Nat) : ∀ i j, i ≤ j → j ≤ l.length → j - i < k → (∀ m, m < i → lt (rec l m) s = true) → (∀ m, j ≤ m → m < l.length → lt (rec l m) s = false) →
    ∃ r, At l s r ∧ PPageHalves.slices_BinarySearch_string_string.l0 k l s (l.length : Int) (i : Int) (j : Int) = some ((r : Int), isAt l s r) := by
  induction k with
  | zero => intro i j _ _ h; exact absurd h (Nat.not_lt_zero _)
  | succ k ih =>
    intro i j hij hj hk hb ha
    simp only [PPageHalves.slices_BinarySearch_string_string.l0]
    by_cases hlt : i < j
    · rw [if_pos (by omega), mid_val i j (by omega)]
      obtain ⟨h, hh⟩ : ∃ h, (i + j) / 2 = h := ⟨_, rfl⟩
      have h1 : i ≤ h := by omega
      have h2 : h < j := by omega
      rw [hh, if_pos (by omega), if_pos (by omega), rdOf_rec, less_f, Option.bind_some]
      by_cases hs : lt (rec l h) s = true
      · rw [if_pos hs, show wrap64 ((h : Int) + 1) = ((h + 1 : Nat) : Int) by unfold wrap64; omega]
        exact ih (h + 1) j (by omega) hj (by omega) (fun m hm => ho.down (by omega) (by omega) hs) ha
      · rw [if_neg hs]
        refine ih i h h1 (by omega) (by omega) hb fun m hm hml => ?_
        cases hc : lt (rec l m) s with
        | false => rfl
        | true => exact absurd (ho.down hm hml hc) hs
    · obtain rfl : i = j := by omega
      refine ⟨i, ⟨hj, hb, ha⟩, ?_⟩
      rw [if_neg (by omega)]
      by_cases hin : i < l.length
      · rw [if_pos (by omega), if_pos (by omega), if_pos (by omega), rdOf_rec]
        by_cases he : (rec l i).toList = s.toList
        · rw [if_pos he]
          simp [isAt, hin, he]
        · rw [if_neg he]
          have h0 : ((rec l i).toList == s.toList) = false := beq_eq_false_iff_ne.2 he
          simp [PPageHalves.slices_isNaN_string.f, isAt, h0]
      · rw [if_neg (by omega)]
        simp [isAt, hin]
theorem find_val (leaf : Bool) (l : List ByteArray) (ks : List Int) (s : ByteArray) (ho : Ord l) (hl : l.length ≤ 1000) : ∃ r, At l s r ∧ PPageHalves.page_Find.f 1001 leaf l ks s = some ((r : Int), isAt l s r) := by
  obtain ⟨r, hr, he⟩ := search_l0 l s ho (by omega) 1001 0 l.length (Nat.zero_le _) (Nat.le_refl _) (by omega) (fun m h => absurd h (Nat.not_lt_zero _)) (fun m h1 h2 => absurd h1 (by omega))
  refine ⟨r, hr, ?_⟩
  simp only [PPageHalves.page_Find.f, PPageHalves.slices_BinarySearch_string_string.f]
  have he' : PPageHalves.slices_BinarySearch_string_string.l0 1001 l s (l.length : Int) 0 (l.length : Int) = some ((r : Int), isAt l s r) := he
  rw [he', Option.bind_some]
def FindIs (l : List ByteArray) (s : ByteArray) (w : World) (e : Ending) (w' : World) : Prop := ∃ r : Nat, At l s r ∧ e = .returned (.tuple #[.int .i64 r, .bool (isAt l s r)]) ∧ Below w.heap.size w w'
theorem find_any (leaf : Bool) (A : Option Addr) (c : Nat) (l : List ByteArray) (B : Option Addr) (d : Nat) (ks : List Int) (s : ByteArray) (w : World) (hr : RdN w A c l B d ks) (ho : Ord l) (hl : l.length ≤ 1000) :
    Calls Try.prog 13 #[.agg #[.bool leaf, .slice A l.length c, .slice B ks.length d], .string s] w (FindIs l s w) := by
  obtain ⟨r, h1, h2⟩ := find_val leaf l ks s ho hl
  exact (PPageHalves.page_Find.calls 1001 leaf A c l B d ks s r (isAt l s r) w hr.recs hr.rc hr.kids hr.kc h2).mono fun e w' h => ⟨r, h1, h.1, h.2⟩
end Go.Proofs.Ytnjdmaeoebihpaa
