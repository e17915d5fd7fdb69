/-
  The reference's log: To.
-/
import Derived.Test.YtkanlcfinogaeaaUnRefB
import Derived.BigRegion
namespace Go.Proofs.Ytkanlcfinogaeaa
open Go.RowKit
set_option linter.unusedVariables false
set_option linter.unusedSimpArgs false

theorem Frm.grownNew {T : TypeId → Prop} {base : Nat} {w wr w' : World} {row : Option Nat} (h : Frm T base w wr) (hb : base ≤ w.heap.size) (hg : wr.grownBy w' row) (hr : ∀ k, row = some k → w.heap.size ≤ k) : Frm T base w w' :=
  ⟨h.low.grown hg (Nat.le_trans hb h.low.size) (fun k hk => Nat.le_trans hb (hr k hk)), fun k cs t fr hk ht => by
    have h1 := h.keep k cs t fr hk ht
    exact (hg.block k (lt_of_block h1) (fun e => by have := hr k e.symm; have := lt_of_block hk; omega)).trans h1⟩
/-- The entries from place j on, newest first. -/
def outE (l : List Itm) (j : Nat) : List Ent := (((l.drop j).filter fun y => !y.save).map fun y => y.e).reverse
theorem outE_next (l : List Itm) (q : Nat) (y : Itm) (h : l[q]? = some y) : outE l q = outE l (q + 1) ++ if y.save = true then [] else [y.e] := by
  unfold outE
  have hq := (List.getElem?_eq_some_iff.1 h)
  rw [List.drop_eq_getElem_cons hq.1, hq.2, List.filter_cons]
  cases hs : y.save <;> simp [hs]
theorem outE_end (l : List Itm) : outE l l.length = [] := by unfold outE; simp
theorem outE_len (l : List Itm) (j : Nat) : (outE l j).length ≤ l.length := by
  unfold outE
  rw [List.length_reverse, List.length_map]
  exact Nat.le_trans (List.length_filter_le _ _) (by rw [List.length_drop]; omega)
theorem RRep.cut {base r : Nat} {S : RLS} {J : List ItI} {A : Option Addr} {n c : Nat} {w : World} (R : RRep base r S J (.slice A n c) w) (q : Nat) (hq : q ≤ J.length) : RRep base r { S with items := S.items.take q } (J.take q) (.slice A q c) (w.setCell ⟨r, 1, none⟩ (.slice A q c)) := by
  have hn : n = J.length := by
    rcases R.lown.2 with ⟨h1, h2⟩ | ⟨g, cap, cur, h1, _⟩
    · injection h1 with a b d; omega
    · injection h1
  have h1 := R.lown
  rw [hn] at h1
  have h2 := owns_take h1 q hq (jcells_len J)
  rw [jcells_take J q hq] at h2
  have hF : Frm TR base w (w.setCell ⟨r, 1, none⟩ (.slice A q c)) := Frm.setCell (T := TR) R.blk rfl R.lo _ _
  refine ⟨R.lo, blk_set R.blk 1 _, ?_, by rw [List.map_take, R.abs], fun y hy => (R.rd y (mem_take hy)).frm hF (by unfold TR; decide) (Nat.le_refl _)⟩
  rw [List.length_take, Nat.min_eq_left hq]
  exact hF.owns h2 (by unfold TR; decide)
/-- What the loop of To has: j items are left. -/
structure PopRel (base r : Nat) (S : RLS) (J : List ItI) (A : Option Addr) (c m : Nat) (w : World) (j : Nat) (B : Option Addr) (d : Nat) (K : List Img) (wr : World) : Prop where
  rep : RRep base r { S with items := S.items.take j } (J.take j) (.slice A j c) wr
  out : wr.ownsRow w.heap.size 40 5 (.slice B K.length d) K.length (icells K)
  ents : K.map Img.e = outE S.items j
  rd : ∀ x ∈ K, x.Rd base wr
  frm : Frm TR base w wr
  low : m ≤ cntE (S.items.take j)
  high : ∀ i, j < i → i ≤ S.items.length → m < cntE (S.items.take i)
theorem img_one' (x : Img) : ∀ u ∈ x.cells.toArray.toList, u.oneCell' = true := by
  intro u hu
  simp [Img.cells] at hu
  rcases hu with rfl | rfl | rfl | rfl | rfl <;> rfl
theorem PopRel.news {base r c m j d : Nat} {S : RLS} {J : List ItI} {A B : Option Addr} {K : List Img} {w wr w2 : World} (h : PopRel base r S J A c m w j B d K wr) (hb : Below wr.heap.size wr w2) : PopRel base r S J A c m w j B d K w2 := by
  have hle : base ≤ wr.heap.size := RR.le ⟨_, _, h.rep⟩
  have hF : Frm TN base wr w2 := Frm.ofBelow hb hle
  exact ⟨h.rep.frm hF (Nat.le_refl _) (fun h => h) (fun h => h) (fun h => h), owns_below h.out hb (Nat.le_refl _), h.ents, fun x hx => (h.rd x hx).frm hF (fun h => h) (Nat.le_refl _), h.frm.trans (hF.mono fun t h => h.elim), h.low, h.high⟩
theorem take_cut {α : Type} (l : List α) (q : Nat) : (l.take (q + 1)).take q = l.take q := by rw [List.take_take, Nat.min_eq_left (by omega)]
theorem PopRel.cut {base r c m q d : Nat} {S : RLS} {J : List ItI} {A B : Option Addr} {K : List Img} {w wr : World} (hrep : RRep base r { S with items := S.items.take (q + 1) } (J.take (q + 1)) (.slice A (q + 1) c) wr) (hq : q ≤ J.length)
    (hout : wr.ownsRow w.heap.size 40 5 (.slice B K.length d) K.length (icells K)) (hrd : ∀ x ∈ K, x.Rd base wr) (hfrm : Frm TR base w wr) (hents : K.map Img.e = outE S.items q) {y : Itm} (hy : S.items[q]? = some y) (hlow : m < cntE (S.items.take (q + 1))) (hhigh : ∀ i, q + 1 < i → i ≤ S.items.length → m < cntE (S.items.take i)) :
    PopRel base r S J A c m w q B d K (wr.setCell ⟨r, 1, none⟩ (.slice A q c)) := by
  have hF : Frm TR base wr (wr.setCell ⟨r, 1, none⟩ (.slice A q c)) := Frm.setCell (T := TR) hrep.blk rfl hrep.lo _ _
  have h2 : RRep base r { S with items := S.items.take q } (J.take q) (.slice A q c) (wr.setCell ⟨r, 1, none⟩ (.slice A q c)) := by
    have h := hrep.cut q (by rw [List.length_take]; omega)
    simp only [take_cut] at h
    exact h
  have hn := cntE_next S.items q y hy
  refine ⟨h2, hF.owns hout (by unfold TR; decide), hents, fun x hx => (hrd x hx).frm hF (by unfold TR; decide) (Nat.le_refl _), hfrm.trans hF, by split at hn <;> omega, fun i h3 h4 => ?_⟩
  rcases Nat.lt_or_eq_of_le (Nat.succ_le_of_lt h3) with h5 | rfl
  · exact hhigh i h5 h4
  · exact hlow
/-- What To leaves and answers. -/
def RToPost (base r : Nat) (S : RLS) (m : Nat) (w : World) (e : Ending) (w' : World) : Prop :=
  ∃ (j : Nat) (B : Option Addr) (d : Nat) (K : List Img), e = .returned (.slice B K.length d) ∧ j ≤ S.items.length ∧ cntE (S.items.take j) = m ∧ (∀ i, j < i → i ≤ S.items.length → m < cntE (S.items.take i)) ∧ K.map Img.e = outE S.items j ∧ w'.ownsRow w.heap.size 40 5 (.slice B K.length d) K.length (icells K) ∧ (∀ x ∈ K, x.Rd base w') ∧ RR base r { S with items := S.items.take j } w' ∧ Frm TR base w w'
theorem rto_more {base r : Nat} {S : RLS} {w : World} (h : RR base r S w) (hl : S.items.length ≤ 100000) (n : Int) (hn : (cntE S.items : Int) < n) :
    Calls Try.prog 18 #[.pointer (some ⟨r, 0, none⟩), .int .i64 n] w fun e w' => e = .returned (.slice none 0 0) ∧ w = w' := by
  have HU := Lib.hid h
  clear h
  go_enter Try.func18, Try.ntmps18
  go_wp2_with fail
  refine (rlen_any HU.out hl).mono ?_
  rintro e w1 ⟨rfl, rfl⟩
  go_wp2_with fail
  go_ret
  exact ⟨rfl, rfl⟩
end Go.Proofs.Ytkanlcfinogaeaa
