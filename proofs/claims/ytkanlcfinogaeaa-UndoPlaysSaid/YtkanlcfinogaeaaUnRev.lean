/-
  Package undo: slices.Reverse at entries.
-/
import Derived.Test.YtkanlcfinogaeaaUnDel
import Derived.BigRegion
namespace Go.Proofs.Ytkanlcfinogaeaa
open Go.RowKit
set_option linter.unusedVariables false
set_option linter.unusedSimpArgs false

theorem icells_take (L : List Img) (k : Nat) (hk : k ≤ L.length) : (icells L).take (k * 5) = icells (L.take k) := by
  have h : icells L = icells (L.take k) ++ icells (L.drop k) := by rw [← icells_append, List.take_append_drop]
  rw [h, List.take_append_of_le_length (by rw [icells_len, List.length_take]; omega), List.take_of_length_le (by rw [icells_len, List.length_take]; omega)]
theorem icells_drop (L : List Img) (k : Nat) (hk : k ≤ L.length) : (icells L).drop (k * 5) = icells (L.drop k) := by
  have h : icells L = icells (L.take k) ++ icells (L.drop k) := by rw [← icells_append, List.take_append_drop]
  have hl : (icells (L.take k)).length = k * 5 := by rw [icells_len, List.length_take]; omega
  rw [h, List.drop_append_of_le_length (by omega), List.drop_of_length_le (by omega), List.nil_append]
theorem icells_set : ∀ (L : List Img) (i : Nat) (x : Img), i < L.length → icells (L.set i x) = (((((icells L).set (i * 5) (.int .i64 x.e.kind)).set (i * 5 + 1) (.int .i64 x.e.id)).set (i * 5 + 2) (.string x.e.table)).set (i * 5 + 3) (.slice x.oa x.e.old.length x.oc)).set (i * 5 + 4) (.slice x.na x.e.new.length x.nc)
  | [], i, x, h => by simp at h
  | q :: t, 0, x, h => rfl
  | q :: t, i + 1, x, h => by
    have ih := icells_set t i x (by simpa using h)
    rw [List.set_cons_succ, icells_cons, icells_cons, ih]
    have e : ∀ j, (i + 1) * 5 + j = i * 5 + j + 1 + 1 + 1 + 1 + 1 := fun j => by omega
    have e0 := e 0
    simp only [Nat.add_zero] at e0
    rw [e 1, e 2, e 3, e 4, e0]
    rfl
/-- An entry's cells in a row of one's own. -/
theorem ent_at {w : World} {base : Nat} {t : TypeId} {g n c : Nat} {L : List Img} (h : w.ownsRow base t 5 (.slice (some ⟨g, 0, none⟩) n c) n (icells L)) {j : Nat} {p : Img} (hp : L[j]? = some p) (hn : n = L.length) :
    w.cell? ⟨g, j * 5, none⟩ = some (.int .i64 p.e.kind) ∧ w.cell? ⟨g, j * 5 + 1, none⟩ = some (.int .i64 p.e.id) ∧ w.cell? ⟨g, j * 5 + 2, none⟩ = some (.string p.e.table) ∧ w.cell? ⟨g, j * 5 + 3, none⟩ = some (.slice p.oa p.e.old.length p.oc) ∧ w.cell? ⟨g, j * 5 + 4, none⟩ = some (.slice p.na p.e.new.length p.nc) ∧ ∀ i, w.frozen? ⟨g, i, none⟩ = false := by
  have hj := (List.getElem?_eq_some_iff.1 hp).1
  obtain ⟨c0, c1, c2, c3, c4⟩ := icells_at L j p hp
  subst hn
  have hc := fun i (hi : i < 5) => World.ownsRow.cellAt h (j * 5 + i) (by omega)
  exact ⟨(hc 0 (by omega)).trans c0, (hc 1 (by omega)).trans c1, (hc 2 (by omega)).trans c2, (hc 3 (by omega)).trans c3, (hc 4 (by omega)).trans c4, fun i => World.ownsRow.frozenAt h i⟩
/-- An entry is laid in a row of one's own. -/
theorem ent_set {w : World} {base : Nat} {t : TypeId} {g n c : Nat} {L : List Img} (h : w.ownsRow base t 5 (.slice (some ⟨g, 0, none⟩) n c) n (icells L)) (j : Nat) (hj : j < L.length) (x : Img) :
    (((((w.setCell ⟨g, j * 5, none⟩ (.int .i64 x.e.kind)).setCell ⟨g, j * 5 + 1, none⟩ (.int .i64 x.e.id)).setCell ⟨g, j * 5 + 2, none⟩ (.string x.e.table)).setCell ⟨g, j * 5 + 3, none⟩ (.slice x.oa x.e.old.length x.oc)).setCell ⟨g, j * 5 + 4, none⟩ (.slice x.na x.e.new.length x.nc)).ownsRow base t 5 (.slice (some ⟨g, 0, none⟩) n c) n (icells (L.set j x)) := by
  rw [icells_set L j x hj]
  exact (World.ownsRow.stored (World.ownsRow.stored (World.ownsRow.stored (World.ownsRow.stored (World.ownsRow.stored h _ _).1 _ _).1 _ _).1 _ _).1 _ _).1
theorem chg_five {S : Nat → Prop} {w w' : World} {g : Nat} (h : Chg S w w') (hg : S g) (a b c d e : Nat) (x y z u v : Value) : Chg S w (((((w'.setCell ⟨g, a, none⟩ x).setCell ⟨g, b, none⟩ y).setCell ⟨g, c, none⟩ z).setCell ⟨g, d, none⟩ u).setCell ⟨g, e, none⟩ v) :=
  ((((h.setCell (.inr hg) _ _).setCell (.inr hg) _ _).setCell (.inr hg) _ _).setCell (.inr hg) _ _).setCell (.inr hg) _ _
/-- Its first k and its last k have changed places. -/
def Swapped (I l : List Img) (k : Nat) : Prop := l.length = I.length ∧ ∀ m, m < I.length → l[m]? = if m < k ∨ I.length ≤ m + k then I[I.length - 1 - m]? else I[m]?
theorem Swapped.step {I l : List Img} {k q : Nat} (h : Swapped I l k) (hq : q + 1 + k = I.length) (hlt : k < q) {a b : Img} (ha : l[k]? = some a) (hb : l[q]? = some b) : Swapped I ((l.set k b).set q a) (k + 1) := by
  obtain ⟨h1, h2⟩ := h
  refine ⟨by simp [h1], fun m hm => ?_⟩
  have ek := h2 k (by omega)
  have eq := h2 q (by omega)
  rw [if_neg (by omega), ha] at ek
  rw [if_neg (by omega), hb] at eq
  by_cases e1 : m = q
  · subst e1
    rw [List.getElem?_set_self (by simp; omega), if_pos (by omega), show I.length - 1 - m = k from by omega]
    exact ek
  · rw [List.getElem?_set_ne (Ne.symm e1)]
    by_cases e2 : m = k
    · subst e2
      rw [List.getElem?_set_self (by omega), if_pos (by omega), show I.length - 1 - m = q from by omega]
      exact eq
    · rw [List.getElem?_set_ne (Ne.symm e2), h2 m hm]
      by_cases e3 : m < k ∨ I.length ≤ m + k
      · rw [if_pos e3, if_pos (by omega)]
      · rw [if_neg e3, if_neg (by omega)]
theorem Swapped.done {I l : List Img} {k : Nat} (h : Swapped I l k) (hk : I.length ≤ 2 * k + 1) : l = I.reverse := by
  obtain ⟨h1, h2⟩ := h
  refine List.ext_getElem? fun m => ?_
  rcases Nat.lt_or_ge m I.length with hm | hm
  · rw [h2 m hm, List.getElem?_reverse hm]
    by_cases e : m < k ∨ I.length ≤ m + k
    · rw [if_pos e]
    · rw [if_neg e, show I.length - 1 - m = m from by omega]
  · rw [List.getElem?_eq_none (by omega), List.getElem?_eq_none (by simpa using hm)]
theorem Swapped.zero (I : List Img) : Swapped I I 0 := ⟨rfl, fun m hm => by rw [if_neg (by omega)]⟩

set_option maxHeartbeats 1000000 in
theorem rev_any {w : World} {base : Nat} {A : Option Addr} {c : Nat} (I : List Img) (h : w.ownsRow base 35 5 (.slice A I.length c) I.length (icells I)) (hl : I.length ≤ 200000) :
    Calls Try.prog 28 #[.slice A I.length c] w fun e w' => e = .returned (.tuple #[]) ∧ w'.ownsRow base 35 5 (.slice A I.length c) I.length (icells I.reverse) ∧ Chg (fun b => (Value.slice A I.length c).ownBlock = some b) w w' := by
  have HO := Lib.hid h
  clear h
  go_enter Try.func28, Try.ntmps28
  go_wp2_with fail
  go_loopg [2, 3] I.length (fun g i j wr => ∃ (k : Nat) (jI : Int) (l : List Img), i = .int .i64 k ∧ j = .int .i64 jI ∧ jI = (I.length : Int) - 1 - k ∧ k ≤ I.length ∧ g = I.length - k ∧ Hid (Swapped I l k) ∧ Hid (wr.ownsRow base 35 5 (.slice A I.length c) I.length (icells l)) ∧ Hid (Chg (fun b => (Value.slice A I.length c).ownBlock = some b) w wr))
  case atStart => exact ⟨0, _, I, rfl, rfl, by omega, by omega, by omega, Swapped.zero I, HO, Chg.refl _ _⟩
  case round =>
    obtain ⟨k, jI, l, rfl, rfl, hj, hk, hg, HS, HW, HC⟩ := hrel
    by_cases hlt : (k : Int) < jI
    · obtain ⟨q, rfl⟩ : ∃ q : Nat, jI = (q : Int) := ⟨jI.toNat, by omega⟩
      have hq : q + 1 + k = I.length := by omega
      have hkq : k < q := by omega
      have hll := HS.out.1
      obtain ⟨x, hx⟩ : ∃ x, l[k]? = some x := ⟨_, List.getElem?_eq_getElem (by omega)⟩
      obtain ⟨y, hy⟩ : ∃ y, l[q]? = some y := ⟨_, List.getElem?_eq_getElem (by omega)⟩
      obtain ⟨gg, rfl⟩ : ∃ gg, A = some ⟨gg, 0, none⟩ := by
        rcases HW.out.2 with ⟨h', h''⟩ | ⟨g', cap', cur, h', _⟩
        · omega
        · injection h' with a
          exact ⟨g', a⟩
      have HX := Lib.hid hx
      have HY := Lib.hid hy
      have HLL := Lib.hid hll
      obtain ⟨a0, a1, a2, a3, a4, af⟩ := ent_at HW.out hx HLL.out.symm
      obtain ⟨b0, b1, b2, b3, b4, -⟩ := ent_at HW.out hy HLL.out.symm
      have f0 := af (k * 5)
      have g0 := af (q * 5)
      have f1 := af (k * 5 + 1)
      have g1 := af (q * 5 + 1)
      have f2 := af (k * 5 + 2)
      have g2 := af (q * 5 + 2)
      have f3 := af (k * 5 + 3)
      have g3 := af (q * 5 + 3)
      have f4 := af (k * 5 + 4)
      have g4 := af (q * 5 + 4)
      clear af hx hy hll hj
      have n1 : q < I.length := by omega
      have n2 : k < I.length := by omega
      have n3 : (q : Int) < (I.length : Int) := by omega
      have n4 : (k : Int) < (I.length : Int) := by omega
      have d00 : ¬ q * 5 = k * 5 := by omega
      have e00 : ¬ k * 5 = q * 5 := by omega
      have d01 : ¬ q * 5 = k * 5 + 1 := by omega
      have e01 : ¬ k * 5 + 1 = q * 5 := by omega
      have d02 : ¬ q * 5 = k * 5 + 2 := by omega
      have e02 : ¬ k * 5 + 2 = q * 5 := by omega
      have d03 : ¬ q * 5 = k * 5 + 3 := by omega
      have e03 : ¬ k * 5 + 3 = q * 5 := by omega
      have d04 : ¬ q * 5 = k * 5 + 4 := by omega
      have e04 : ¬ k * 5 + 4 = q * 5 := by omega
      have d10 : ¬ q * 5 + 1 = k * 5 := by omega
      have e10 : ¬ k * 5 = q * 5 + 1 := by omega
      have d11 : ¬ q * 5 + 1 = k * 5 + 1 := by omega
      have e11 : ¬ k * 5 + 1 = q * 5 + 1 := by omega
      have d12 : ¬ q * 5 + 1 = k * 5 + 2 := by omega
      have e12 : ¬ k * 5 + 2 = q * 5 + 1 := by omega
      have d13 : ¬ q * 5 + 1 = k * 5 + 3 := by omega
      have e13 : ¬ k * 5 + 3 = q * 5 + 1 := by omega
      have d14 : ¬ q * 5 + 1 = k * 5 + 4 := by omega
      have e14 : ¬ k * 5 + 4 = q * 5 + 1 := by omega
      have d20 : ¬ q * 5 + 2 = k * 5 := by omega
      have e20 : ¬ k * 5 = q * 5 + 2 := by omega
      have d21 : ¬ q * 5 + 2 = k * 5 + 1 := by omega
      have e21 : ¬ k * 5 + 1 = q * 5 + 2 := by omega
      have d22 : ¬ q * 5 + 2 = k * 5 + 2 := by omega
      have e22 : ¬ k * 5 + 2 = q * 5 + 2 := by omega
      have d23 : ¬ q * 5 + 2 = k * 5 + 3 := by omega
      have e23 : ¬ k * 5 + 3 = q * 5 + 2 := by omega
      have d24 : ¬ q * 5 + 2 = k * 5 + 4 := by omega
      have e24 : ¬ k * 5 + 4 = q * 5 + 2 := by omega
      have d30 : ¬ q * 5 + 3 = k * 5 := by omega
      have e30 : ¬ k * 5 = q * 5 + 3 := by omega
      have d31 : ¬ q * 5 + 3 = k * 5 + 1 := by omega
      have e31 : ¬ k * 5 + 1 = q * 5 + 3 := by omega
      have d32 : ¬ q * 5 + 3 = k * 5 + 2 := by omega
      have e32 : ¬ k * 5 + 2 = q * 5 + 3 := by omega
      have d33 : ¬ q * 5 + 3 = k * 5 + 3 := by omega
      have e33 : ¬ k * 5 + 3 = q * 5 + 3 := by omega
      have d34 : ¬ q * 5 + 3 = k * 5 + 4 := by omega
      have e34 : ¬ k * 5 + 4 = q * 5 + 3 := by omega
      have d40 : ¬ q * 5 + 4 = k * 5 := by omega
      have e40 : ¬ k * 5 = q * 5 + 4 := by omega
      have d41 : ¬ q * 5 + 4 = k * 5 + 1 := by omega
      have e41 : ¬ k * 5 + 1 = q * 5 + 4 := by omega
      have d42 : ¬ q * 5 + 4 = k * 5 + 2 := by omega
      have e42 : ¬ k * 5 + 2 = q * 5 + 4 := by omega
      have d43 : ¬ q * 5 + 4 = k * 5 + 3 := by omega
      have e43 : ¬ k * 5 + 3 = q * 5 + 4 := by omega
      have d44 : ¬ q * 5 + 4 = k * 5 + 4 := by omega
      have e44 : ¬ k * 5 + 4 = q * 5 + 4 := by omega
      go_wp2_with fail
      go_region
      all_goals
        clear d00 e00 d01 e01 d02 e02 d03 e03 d04 e04 d10 e10 d11 e11 d12 e12 d13 e13 d14 e14 d20 e20 d21 e21 d22 e22 d23 e23 d24 e24 d30 e30 d31 e31 d32 e32 d33 e33 d34 e34 d40 e40 d41 e41 d42 e42 d43 e43 d44 e44
        have hll : l.length = I.length := HLL.out
        have ho2 := ent_set (ent_set HW.out k (by omega) y) q (by rw [List.length_set]; omega) x
        have hc2 := chg_five (chg_five HC.out (g := gg) rfl (k * 5) (k * 5 + 1) (k * 5 + 2) (k * 5 + 3) (k * 5 + 4) (.int .i64 y.e.kind) (.int .i64 y.e.id) (.string y.e.table) (.slice y.oa y.e.old.length y.oc) (.slice y.na y.e.new.length y.nc)) (g := gg) rfl (q * 5) (q * 5 + 1) (q * 5 + 2) (q * 5 + 3) (q * 5 + 4) (.int .i64 x.e.kind) (.int .i64 x.e.id) (.string x.e.table) (.slice x.oa x.e.old.length x.oc) (.slice x.na x.e.new.length x.nc)
        have HO2 := Lib.hid ho2.drew
        have HC2 := Lib.hid hc2.drew
        have HS2 := Lib.hid (HS.out.step hq hkq HX.out HY.out)
        clear ho2 hc2 hll
        go_wp2_with fail
        go_roundg (I.length - (k + 1))
        case measure => omega
        case rel => exact ⟨k + 1, _, (l.set k y).set q x, by go_num, by rfl, by omega, by omega, rfl, HS2, HO2, HC2⟩
    · go_wp2_with fail
      go_end0
      rw [HS.out.done (by omega)] at HW
      exact ⟨rfl, HW.out, HC.out⟩
end Go.Proofs.Ytkanlcfinogaeaa
