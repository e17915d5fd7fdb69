/-
  The reference's log: how it lies in memory; Len.
-/
import Derived.Test.YtkanlcfinogaeaaUnScript
namespace Go.Proofs.Ytkanlcfinogaeaa
open Go.RowKit
set_option linter.unusedVariables false
set_option linter.unusedSimpArgs false

/-- An entry, or a savepoint. -/
structure Itm where
  save : Bool
  name : ByteArray
  e : Ent
/-- An item, and where its values lie. -/
structure ItI where
  save : Bool
  name : ByteArray
  x : Img
def ItI.abs (y : ItI) : Itm := ⟨y.save, y.name, y.x.e⟩
def ItI.cells (y : ItI) : List Value := .bool y.save :: .string y.name :: y.x.cells
def jcells (l : List ItI) : List Value := l.flatMap ItI.cells
theorem jcells_len (l : List ItI) : (jcells l).length = l.length * 7 := by
  induction l with
  | nil => rfl
  | cons a t ih => simp [jcells, ItI.cells, Img.cells] at ih ⊢; omega
theorem jcells_cons (p : ItI) (t : List ItI) : jcells (p :: t) = .bool p.save :: .string p.name :: .int .i64 p.x.e.kind :: .int .i64 p.x.e.id :: .string p.x.e.table :: .slice p.x.oa p.x.e.old.length p.x.oc :: .slice p.x.na p.x.e.new.length p.x.nc :: jcells t := rfl
theorem jcells_append (a b : List ItI) : jcells (a ++ b) = jcells a ++ jcells b := by simp [jcells]
theorem jcells_at : ∀ (L : List ItI) (i : Nat) (p : ItI), L[i]? = some p → ∀ j, j < 7 → (jcells L)[i * 7 + j]? = p.cells[j]?
  | [], i, p, h => by simp at h
  | q :: t, 0, p, h => by
    simp at h; subst h
    intro j hj
    show (q.cells ++ jcells t)[0 * 7 + j]? = _
    rw [Nat.zero_mul, Nat.zero_add, List.getElem?_append_left (by simpa [ItI.cells, Img.cells] using hj)]
  | q :: t, i + 1, p, h => by
    simp at h
    intro j hj
    have ih := jcells_at t i p h j hj
    show (q.cells ++ jcells t)[(i + 1) * 7 + j]? = _
    rw [List.getElem?_append_right (by simp [ItI.cells, Img.cells]; omega), ← ih]
    congr 1
    simp [ItI.cells, Img.cells]
    omega
theorem jcells_one (L : List ItI) : ∀ u ∈ jcells L, u.oneCell' = true := by
  intro u hu
  simp [jcells, ItI.cells, Img.cells] at hu
  obtain ⟨a, _, h⟩ := hu
  rcases h with rfl | rfl | rfl | rfl | rfl | rfl | rfl <;> rfl
theorem item_one (y : ItI) : ∀ u ∈ y.cells.toArray.toList, u.oneCell' = true := by
  intro u hu
  simp [ItI.cells, Img.cells] at hu
  rcases hu with rfl | rfl | rfl | rfl | rfl | rfl | rfl <;> rfl
theorem jcells_take (L : List ItI) (k : Nat) (hk : k ≤ L.length) : (jcells L).take (k * 7) = jcells (L.take k) := by
  have h : jcells L = jcells (L.take k) ++ jcells (L.drop k) := by rw [← jcells_append, List.take_append_drop]
  rw [h, List.take_append_of_le_length (by rw [jcells_len, List.length_take]; omega), List.take_of_length_le (by rw [jcells_len, List.length_take]; omega)]

structure RLS where
  items : List Itm
  quota : Int
structure RRep (base r : Nat) (S : RLS) (J : List ItI) (lv : Value) (w : World) : Prop where
  lo : base ≤ r
  blk : w.heap[r]? = some (.cells #[.int .i64 S.quota, lv] 32)
  lown : w.ownsRow base 67 7 lv J.length (jcells J)
  abs : J.map ItI.abs = S.items
  rd : ∀ y ∈ J, y.x.Rd base w
def RR (base r : Nat) (S : RLS) (w : World) : Prop := ∃ J lv, RRep base r S J lv w
/-- The type of which the reference's methods write blocks that were there. -/
def TR (t : TypeId) : Prop := t = 32
theorem RRep.frm {T : TypeId → Prop} {base base' r : Nat} {S : RLS} {J : List ItI} {lv : Value} {w w' : World} (h : RRep base r S J lv w) (hf : Frm T base' w w') (hb : base ≤ base') (h1 : ¬ T 32) (h2 : ¬ T 67) (h4 : ¬ T 42) : RRep base r S J lv w' :=
  ⟨h.lo, hf.blk h.blk h1, hf.owns h.lown h2, h.abs, fun y hy => (h.rd y hy).frm hf h4 hb⟩
theorem RR.frm {T : TypeId → Prop} {base base' r : Nat} {S : RLS} {w w' : World} (h : RR base r S w) (hf : Frm T base' w w') (hb : base ≤ base') (h1 : ¬ T 32) (h2 : ¬ T 67) (h4 : ¬ T 42) : RR base r S w' := by
  obtain ⟨J, lv, h⟩ := h
  exact ⟨J, lv, h.frm hf hb h1 h2 h4⟩
theorem RR.le {base r : Nat} {S : RLS} {w : World} (h : RR base r S w) : base ≤ w.heap.size := by
  obtain ⟨J, lv, h⟩ := h
  have := h.lo
  have := lt_of_block h.blk
  omega
theorem RR.below {base r : Nat} {S : RLS} {w w' : World} (h : RR base r S w) (hb : Below w.heap.size w w') : RR base r S w' :=
  h.frm (T := TN) (Frm.ofBelow hb (Nat.le_refl _)) h.le (fun h => h) (fun h => h) (fun h => h)
theorem RR.drewN {base r : Nat} {S : RLS} {w : World} (h : RR base r S w) (n : Nat) : RR base r S (w.drewN n) := h.below (below_drewN (Below.refl _ _) n)
/-- An item's cells in the row. -/
theorem RRep.item {base r : Nat} {S : RLS} {J : List ItI} {A : Option Addr} {n c : Nat} {w : World} (R : RRep base r S J (.slice A n c) w) {i : Nat} {y : ItI} (hy : J[i]? = some y) : ∃ g, A = some ⟨g, 0, none⟩ ∧ g < w.heap.size ∧
    w.cell? ⟨g, i * 7, none⟩ = some (.bool y.save) ∧ w.cell? ⟨g, i * 7 + 1, none⟩ = some (.string y.name) ∧ w.cell? ⟨g, i * 7 + 2, none⟩ = some (.int .i64 y.x.e.kind) ∧ w.cell? ⟨g, i * 7 + 3, none⟩ = some (.int .i64 y.x.e.id) ∧ w.cell? ⟨g, i * 7 + 4, none⟩ = some (.string y.x.e.table) ∧ w.cell? ⟨g, i * 7 + 5, none⟩ = some (.slice y.x.oa y.x.e.old.length y.x.oc) ∧ w.cell? ⟨g, i * 7 + 6, none⟩ = some (.slice y.x.na y.x.e.new.length y.x.nc) := by
  have hj := (List.getElem?_eq_some_iff.1 hy).1
  rcases R.lown.2 with ⟨h1, h2⟩ | ⟨g, cap, cur, h1, hb, hg, _⟩
  · omega
  · have hn : n = J.length := by injection h1
    injection h1 with a b d
    subst a
    have hx : w.ownsRow base 67 7 (.slice (some ⟨g, 0, none⟩) n c) n (jcells J) := by
      rw [hn]
      have := R.lown
      rw [hn] at this
      exact this
    have hc := fun j (hj : j < 7) => (World.ownsRow.cellAt hx (i * 7 + j) (by omega)).trans (jcells_at J i y hy j hj)
    exact ⟨g, rfl, lt_of_block hg, hc 0 (by omega), hc 1 (by omega), hc 2 (by omega), hc 3 (by omega), hc 4 (by omega), hc 5 (by omega), hc 6 (by omega)⟩
theorem RRep.form {base r : Nat} {S : RLS} {J : List ItI} {lv : Value} {w : World} (R : RRep base r S J lv w) : ∃ A c, lv = .slice A J.length c := own_form R.lown
theorem RRep.len {base r : Nat} {S : RLS} {J : List ItI} {lv : Value} {w : World} (R : RRep base r S J lv w) : J.length = S.items.length := by rw [← R.abs]; simp

/-- How many entries there are. -/
def cntE (l : List Itm) : Nat := l.countP fun y => !y.save
theorem cntE_next (l : List Itm) (i : Nat) (y : Itm) (h : l[i]? = some y) : cntE (l.take (i + 1)) = cntE (l.take i) + if y.save = true then 0 else 1 := by
  unfold cntE
  rw [List.take_add_one, h, List.countP_append]
  cases hs : y.save <;> simp [hs]
theorem cntE_le (l : List Itm) : cntE l ≤ l.length := List.countP_le_length
theorem cntE_take (l : List Itm) (i : Nat) : cntE (l.take i) ≤ i := Nat.le_trans (cntE_le _) (List.length_take_le _ _)
theorem rlen_any {base r : Nat} {S : RLS} {w : World} (h : RR base r S w) (hl : S.items.length ≤ 100000) :
    Calls Try.prog 20 #[.pointer (some ⟨r, 0, none⟩)] w fun e w' => e = .returned (.int .i64 (cntE S.items : Int)) ∧ w = w' := by
  obtain ⟨J, lv, R⟩ := h
  obtain ⟨A, c, rfl⟩ := R.form
  obtain ⟨q0, q1, y0, y1, hlt⟩ := two_of_block R.blk
  have hJ := R.len
  have hJl : J.length ≤ 100000 := by omega
  have HJ := Lib.hid hJ
  have HR := Lib.hid R
  clear R hJ
  go_enter Try.func20, Try.ntmps20
  go_wp2_with fail
  go_loopg [3, 4] J.length (fun g n i wr => wr = w ∧ ∃ j k : Nat, j ≤ J.length ∧ g = J.length - j ∧ i = .int .i64 j ∧ n = .int .i64 k ∧ k ≤ j ∧ Hid (k = cntE (S.items.take j)))
  case atStart => exact ⟨rfl, 0, 0, Nat.zero_le _, rfl, rfl, rfl, Nat.le_refl _, rfl⟩
  case round =>
    obtain ⟨rfl, j, k, hj, hg, rfl, rfl, hkj, HK⟩ := hrel
    by_cases hlt2 : j < J.length
    · obtain ⟨y, hy⟩ : ∃ y, J[j]? = some y := ⟨_, List.getElem?_eq_getElem hlt2⟩
      obtain ⟨gg, rfl, gl, c0, -⟩ := HR.out.item hy
      have hit : S.items[j]? = some y.abs := by rw [← HR.out.abs, List.getElem?_map, hy]; rfl
      have hnx := cntE_next _ _ _ hit
      have HNX := Lib.hid hnx
      clear hit hnx hy
      obtain ⟨sv, hsv⟩ : ∃ sv, sv = y.save := ⟨_, rfl⟩
      have HSV : Hid (y.abs.save = sv) := (by rw [hsv]; rfl : y.abs.save = sv)
      rw [← hsv] at c0
      clear hsv
      cases sv with
      | true =>
        go_wp2_with fail
        go_roundg (J.length - (j + 1))
        case measure => omega
        case rel => exact ⟨rfl, j + 1, k, by omega, rfl, by go_num, rfl, by omega, Lib.hid (by rw [HNX.out, if_pos HSV.out, HK.out, Nat.add_zero])⟩
      | false =>
        go_wp2_with fail
        go_roundg (J.length - (j + 1))
        case measure => omega
        case rel => exact ⟨rfl, j + 1, k + 1, by omega, rfl, by go_num, by go_num, by omega, Lib.hid (by rw [HNX.out, if_neg (by rw [HSV.out]; simp), HK.out])⟩
    · go_wp2_with fail
      go_ret
      obtain rfl : j = J.length := by omega
      have h1 := HK.out
      rw [HJ.out, List.take_length] at h1
      exact ⟨by rw [h1]; rfl, rfl⟩
end Go.Proofs.Ytkanlcfinogaeaa
