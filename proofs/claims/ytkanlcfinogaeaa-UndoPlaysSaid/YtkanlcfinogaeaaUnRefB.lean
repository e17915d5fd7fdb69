/-
  The reference's log: Saves.
-/
import Derived.Test.YtkanlcfinogaeaaUnRefAdd
namespace Go.Proofs.Ytkanlcfinogaeaa
open Go.RowKit
set_option linter.unusedVariables false
set_option linter.unusedSimpArgs false

/-- The savepoints' names. -/
def rnames (l : List Itm) : List ByteArray := (l.filter fun y => y.save).map fun y => y.name
theorem rnames_next (l : List Itm) (i : Nat) (y : Itm) (h : l[i]? = some y) : rnames (l.take (i + 1)) = rnames (l.take i) ++ if y.save = true then [y.name] else [] := by
  unfold rnames
  rw [List.take_add_one, h, List.filter_append, List.map_append]
  cases hs : y.save <;> simp [hs]
theorem rnames_len (l : List Itm) (i : Nat) : (rnames (l.take i)).length ≤ i := by
  unfold rnames
  rw [List.length_map]
  exact Nat.le_trans (List.length_filter_le _ _) (List.length_take_le _ _)
def RSavesRel (L : List Itm) (w : World) (j : Nat) (v : Value) (wr : World) : Prop := wr.ownsRow w.heap.size 9 1 v (rnames (L.take j)).length (ncells (rnames (L.take j))) ∧ Below w.heap.size w wr
theorem rsaves_any {base r : Nat} {S : RLS} {w : World} (h : RR base r S w) (hl : S.items.length ≤ 100000) :
    Calls Try.prog 23 #[.pointer (some ⟨r, 0, none⟩)] w fun e w' => ∃ A c, e = .returned (.slice A (rnames S.items).length c) ∧ w'.ownsRow w.heap.size 9 1 (.slice A (rnames S.items).length c) (rnames S.items).length (ncells (rnames S.items)) ∧ Below w.heap.size w w' := by
  have hle := h.le
  obtain ⟨i0, EN⟩ := elt_N
  obtain ⟨J, lv, R⟩ := h
  obtain ⟨A, c, rfl⟩ := R.form
  obtain ⟨q0, q1, y0, y1, hlt⟩ := two_of_block R.blk
  have hJ := R.len
  have hJl : J.length ≤ 100000 := by omega
  have HJ := Lib.hid hJ
  have HR := Lib.hid R
  clear R hJ
  go_enter Try.func23, Try.ntmps23
  go_wp2_with fail
  go_loopg [3, 4] J.length (fun g out i wr => ∃ (j k : Nat) (B : Option Addr) (d : Nat), i = .int .i64 j ∧ out = .slice B k d ∧ j ≤ J.length ∧ g = J.length - j ∧ k ≤ j ∧ Hid (k = (rnames (S.items.take j)).length) ∧ Hid (RSavesRel S.items w j (.slice B k d) wr))
  case atStart => exact ⟨0, 0, _, _, rfl, rfl, Nat.zero_le _, rfl, Nat.le_refl _, rfl, World.ownsRow_made w #[] 0 (Nat.le_refl _) (by simp [maxLen]) (by simp), (Below.refl _ _).alloc (Nat.le_refl _) _⟩
  case round =>
    obtain ⟨j, k, B, d, rfl, rfl, hj, hg, hkj, HK, HB⟩ := hrel
    have hsz := HB.out.2.size
    have hblk := HB.out.2.block r hlt
    obtain ⟨p0, p1, -, -, lz⟩ := two_of_block (hblk.trans HR.out.blk)
    clear hblk
    by_cases hlt2 : j < J.length
    · obtain ⟨y, hy⟩ : ∃ y, J[j]? = some y := ⟨_, List.getElem?_eq_getElem hlt2⟩
      have hRw : RRep base r S J (.slice A J.length c) wr := HR.out.frm (T := TN) (Frm.ofBelow HB.out.2 (Nat.le_refl _)) hle (fun h => h) (fun h => h) (fun h => h)
      obtain ⟨gg, rfl, gl, c0, c1, -⟩ := hRw.item hy
      have hit : S.items[j]? = some y.abs := by rw [← HR.out.abs, List.getElem?_map, hy]; rfl
      have hnx := rnames_next _ _ _ hit
      have HNX := Lib.hid hnx
      clear hit hnx hy hRw
      obtain ⟨sv, hsv⟩ : ∃ sv, sv = y.save := ⟨_, rfl⟩
      have HSV : Hid (y.abs.save = sv) := (by rw [hsv]; rfl : y.abs.save = sv)
      rw [← hsv] at c0
      clear hsv
      cases sv with
      | true =>
        have hown := HB.out.1
        rw [← HK.out] at hown
        have HOWN := Lib.hid hown
        have HN1 : Hid (∀ u ∈ #[Value.string y.name].toList, u.oneCell' = true) := (by
          intro u hu
          simp at hu
          subst hu
          rfl : ∀ u ∈ #[Value.string y.name].toList, u.oneCell' = true)
        clear hown
        go_wp2_with (at_builtin; refine step_push EN (w := wr) rfl _ _ rfl HOWN.out rfl #[.string y.name] rfl rfl rfl HN1.out (by omega) hsz ?_; intro A5 c5 w5 ho hg; have HO5 := Lib.hid ho; have HG5 := Lib.hid hg; clear ho hg)
        go_roundg (J.length - (j + 1))
        case measure => omega
        case rel =>
          have e1 : rnames (S.items.take (j + 1)) = rnames (S.items.take j) ++ [y.name] := by rw [HNX.out, if_pos HSV.out]; rfl
          refine ⟨j + 1, k + 1, A5, c5, by go_num, rfl, by omega, rfl, by omega, Lib.hid (by rw [e1, List.length_append, HK.out]; rfl), Lib.hid ⟨?_, (HB.out.2.alloc hsz _).grown HG5.out (by simp; omega) (fun q hq => (HB.out.1.lt q hq).1)⟩⟩
          rw [e1, List.length_append, ← HK.out]
          have := HO5.out
          simpa [ncells] using this
      | false =>
        go_wp2_with fail
        go_roundg (J.length - (j + 1))
        case measure => omega
        case rel =>
          have e1 : rnames (S.items.take (j + 1)) = rnames (S.items.take j) := by rw [HNX.out, if_neg (by rw [HSV.out]; simp), List.append_nil]
          exact ⟨j + 1, k, B, d, by go_num, rfl, by omega, rfl, by omega, Lib.hid (by rw [e1, HK.out]), Lib.hid (by unfold RSavesRel; rw [e1]; exact HB.out)⟩
    · go_wp2_with fail
      go_ret
      obtain rfl : j = J.length := by omega
      have h1 := HB.out
      have h2 := HK.out
      unfold RSavesRel at h1
      rw [HJ.out, List.take_length] at h1 h2
      rw [← h2] at h1 ⊢
      exact ⟨B, d, rfl, h1.1, h1.2⟩
end Go.Proofs.Ytkanlcfinogaeaa
