/-
  A node's size; Right.
-/
import Derived.Test.YtnjdmaeoebihpaaPgShape
namespace Go.Proofs.Ytnjdmaeoebihpaa
open Go.RowKit Go.Proofs.YtnjdmaeoebihpaaW.PrintWords Go.Proofs.YtnjdmaeoebihpaaW.PrintLast Go.Proofs.YtnjdmaeoebihpaaW.PrintMore
set_option linter.unusedVariables false
set_option linter.unusedSimpArgs false

def weighN : List ByteArray → Nat
  | [] => 0
  | s :: t => 4 + s.size + weighN t
theorem weighN_append (a b : List ByteArray) : weighN (a ++ b) = weighN a + weighN b := by
  induction a with
  | nil => simp [weighN]
  | cons s t ih => simp only [List.cons_append, weighN, ih]; omega
def sizeN (l : List ByteArray) (ks : List Int) : Nat := 3 + 4 * ks.length + weighN l
/-- Nothing is out of hand. -/
structure Bd (l : List ByteArray) (ks : List Int) : Prop where
  len : l.length ≤ 1000
  kids : ks.length ≤ 1000
  each : ∀ s ∈ l, s.size ≤ 100000
theorem weighN_le : ∀ (l : List ByteArray) (b : Nat), (∀ s ∈ l, s.size ≤ b) → weighN l ≤ l.length * (4 + b)
  | [], b, _ => Nat.zero_le _
  | s :: t, b, h => by
    have h1 := weighN_le t b (fun x hx => h x (List.mem_cons_of_mem _ hx))
    have h2 := h s List.mem_cons_self
    simp only [weighN, List.length_cons, Nat.add_mul, Nat.one_mul]
    omega
theorem Bd.weigh {l : List ByteArray} {ks : List Int} (h : Bd l ks) : weighN l ≤ 100004000 := by
  have h1 := weighN_le l 100000 h.each
  have h2 : l.length * (4 + 100000) ≤ 1000 * (4 + 100000) := Nat.mul_le_mul_right _ h.len
  omega
theorem drop_rec (l : List ByteArray) (j : Nat) (hj : j < l.length) : l.drop j = rec l j :: l.drop (j + 1) := by
  rw [List.drop_eq_getElem_cons hj]
  simp [rec, hj]
theorem weigh_round (l : List ByteArray) (k x j : Nat) (hj : j < l.length) (hx : x + 4 + (rec l j).size ≤ 1000000000) (hl : l.length ≤ 1000000) : PPageHalves.page_weigh.l0 (k + 1) (x : Int) l (l.length : Int) (j : Int) = PPageHalves.page_weigh.l0 k ((x + 4 + (rec l j).size : Nat) : Int) l (l.length : Int) ((j + 1 : Nat) : Int) := by
  have a1 : (j : Int) < (l.length : Int) := by omega
  have a2 : (0 : Int) ≤ (j : Int) := by omega
  have e1 : wrap64 (4 + ((rec l j).size : Int)) = 4 + ((rec l j).size : Int) := by unfold wrap64; omega
  have e2 : wrap64 ((x : Int) + (4 + ((rec l j).size : Int))) = ((x + 4 + (rec l j).size : Nat) : Int) := by unfold wrap64; omega
  have e3 : wrap64 ((j : Int) + 1) = ((j + 1 : Nat) : Int) := by unfold wrap64; omega
  simp only [PPageHalves.page_weigh.l0]
  rw [if_pos a1, if_pos a2, if_pos a1, rdOf_rec, e1, e2, e3]
theorem weigh_from (l : List ByteArray) (hl : l.length ≤ 1000000) (k : Nat) : ∀ (x j : Nat), j ≤ l.length → l.length - j < k → x + weighN (l.drop j) ≤ 1000000000 → PPageHalves.page_weigh.l0 k (x : Int) l (l.length : Int) (j : Int) = some ((x + weighN (l.drop j) : Nat) : Int) := by
  induction k with
  | zero => intro x j _ h _; exact absurd h (Nat.not_lt_zero _)
  | succ k ih =>
    intro x j hj hk hx
    by_cases hlt : j < l.length
    · have hdr := drop_rec l j hlt
      have hw : weighN (l.drop j) = 4 + (rec l j).size + weighN (l.drop (j + 1)) := by rw [hdr]; rfl
      rw [hw] at hx ⊢
      have a1 : x + 4 + (rec l j).size ≤ 1000000000 := by omega
      have a2 : l.length - (j + 1) < k := by omega
      have a3 : x + 4 + (rec l j).size + weighN (l.drop (j + 1)) ≤ 1000000000 := by omega
      have a4 : x + 4 + (rec l j).size + weighN (l.drop (j + 1)) = x + (4 + (rec l j).size + weighN (l.drop (j + 1))) := by omega
      rw [weigh_round l k x j hlt a1 hl, ih _ _ hlt a2 a3, a4]
    · obtain rfl : j = l.length := Nat.le_antisymm hj (Nat.le_of_not_lt hlt)
      simp only [PPageHalves.page_weigh.l0]
      rw [if_neg (by omega)]
      simp [weighN]
theorem weigh_val {l : List ByteArray} {ks : List Int} (h : Bd l ks) : PPageHalves.page_weigh.f (l.length + 1) l = some (weighN l : Int) := by
  have hw := h.weigh
  have hl := h.len
  have a1 : l.length ≤ 1000000 := by omega
  have a2 : 0 + weighN (l.drop 0) ≤ 1000000000 := by rw [List.drop_zero]; omega
  have := weigh_from l a1 (l.length + 1) 0 0 (Nat.zero_le _) (by omega) a2
  rw [List.drop_zero, Nat.zero_add] at this
  exact this
theorem size_val (leaf : Bool) {l : List ByteArray} {ks : List Int} (h : Bd l ks) : PPageHalves.page_Size.f (l.length + 1) leaf l ks = some (sizeN l ks : Int) := by
  have hw := h.weigh
  have hl := h.len
  have hk := h.kids
  simp only [PPageHalves.page_Size.f, weigh_val h, Option.bind_some]
  congr 1
  unfold sizeN wrap64
  omega
theorem size_any (leaf : Bool) (A : Option Addr) (c : Nat) (l : List ByteArray) (B : Option Addr) (d : Nat) (ks : List Int) (w : World) (hr : RdN w A c l B d ks) (hb : Bd l ks) :
    Calls Try.prog 17 #[.agg #[.bool leaf, .slice A l.length c, .slice B ks.length d]] w fun e w' => e = .returned (.int .i64 (sizeN l ks)) ∧ Below w.heap.size w w' :=
  PPageHalves.page_Size.calls (l.length + 1) leaf A c l B d ks (sizeN l ks) w hr.recs hr.rc hr.kids hr.kc (size_val leaf hb)
def RightIs (leaf : Bool) (l : List ByteArray) (ks : List Int) (w : World) (e : Ending) (w' : World) : Prop := ∃ b : Bool, e = .returned (.bool b) ∧ (b = true ↔ Shp leaf l ks ∧ sizeN l ks ≤ 1024) ∧ Below w.heap.size w w'
set_option maxHeartbeats 1000000 in
theorem right_any (leaf : Bool) (A : Option Addr) (c : Nat) (l : List ByteArray) (B : Option Addr) (d : Nat) (ks : List Int) (w : World) (hr : RdN w A c l B d ks) (hb : Bd l ks) :
    Calls Try.prog 16 #[.agg #[.bool leaf, .slice A l.length c, .slice B ks.length d]] w (RightIs leaf l ks w) := by
  have HR := Lib.hid hr
  clear hr
  have hblk := heap_alloc_new w (NodeObj leaf A l.length c B ks.length d)
  obtain ⟨w1, hw1⟩ : ∃ w1, w1 = w.alloc (.cells #[.bool leaf, .slice A l.length c, .slice B ks.length d] 25) := ⟨_, rfl⟩
  replace hblk : w1.heap[w.heap.size]? = some (NodeObj leaf A l.length c B ks.length d) := by rw [hw1]; exact hblk
  have HB1 : Hid (Below w.heap.size w w1) := (by rw [hw1]; exact (Below.refl _ _).alloc (Nat.le_refl _) _ : Below w.heap.size w w1)
  obtain ⟨n0, n1, n2, f0, f1, f2, nl⟩ := three_of_block hblk
  have HBK := Lib.hid hblk
  clear hblk
  go_enter Try.func16, Try.ntmps16
  go_upto_region 1 with (fail)
  rw [← hw1]
  clear hw1
  go_wp2_with fail
  refine (shaped_any leaf A c l B d ks _ (HR.out.below HB1.out) (Nat.le_trans hb.len (by omega)) (Nat.le_trans hb.kids (by omega))).mono ?_
  rintro e w2 ⟨b, rfl, hs, hb2⟩
  have HS := Lib.hid hs
  have hblk := hb2.block _ nl
  have HB2 : Hid (Below w.heap.size w w2) := HB1.out.trans (hb2.mono HB1.out.size)
  rw [HBK.out] at hblk
  clear hs hb2 n0 n1 n2 f0 f1 f2 nl
  obtain ⟨n0, n1, n2, f0, f1, f2, nl⟩ := three_of_block hblk
  clear hblk
  cases b with
  | true =>
    go_wp2_with fail
    refine (size_any leaf A c l B d ks _ (HR.out.below HB2.out) hb).mono ?_
    rintro e w3 ⟨rfl, hb3⟩
    have HB3 : Hid (Below w.heap.size w w3) := HB2.out.trans (hb3.mono HB2.out.size)
    clear hb3
    go_wp2_with fail
    go_ret
    refine ⟨_, rfl, ?_, HB3.out⟩
    have h9 : Shp leaf l ks := (of_eq_true (by simpa using HS.out) : Shp leaf l ks)
    simp [h9]
    omega
  | false =>
    go_wp2_with fail
    go_ret
    refine ⟨_, rfl, ⟨(fun h => by cases h), fun h => absurd (HS.out.2 h.1) (by decide)⟩, HB2.out⟩
end Go.Proofs.Ytnjdmaeoebihpaa
