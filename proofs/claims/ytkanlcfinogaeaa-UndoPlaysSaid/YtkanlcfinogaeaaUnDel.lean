/-
  Package undo: the savepoints behind a place are struck (slices.IndexFunc, slices.DeleteFunc at them).
-/
import Derived.Test.YtkanlcfinogaeaaUnAdd
import Derived.Laws.CopyRow
namespace Go.Proofs.Ytkanlcfinogaeaa
open Go.RowKit
set_option linter.unusedVariables false
set_option linter.unusedSimpArgs false

theorem gone_yes (s : ByteArray) (a n : Int) (N : Nat) (w : World) (hN : w.cell? ⟨N, 0, none⟩ = some (.int .i64 n)) (h : n < a) :
    Calls Try.prog 30 #[.agg #[.string s, .int .i64 a], .pointer (some ⟨N, 0, none⟩)] w fun e w' => e = .returned (.bool true) ∧ Below w.heap.size w w' := by
  have hd : decide (n < a) = true := decide_eq_true h
  have hl := World.block_lt_of_cell? w _ hN
  have hc : (w.alloc (.cells #[.string s, .int .i64 a] 69)).cell? ⟨N, 0, none⟩ = some (.int .i64 n) := by rw [World.cell?_alloc_past _ _ _ hl]; exact hN
  go_enter Try.func30, Try.ntmps30
  go_wp2_with fail
  go_ret
  exact ⟨rfl, (Below.refl _ _).alloc (Nat.le_refl _) _⟩
theorem gone_no (s : ByteArray) (a n : Int) (N : Nat) (w : World) (hN : w.cell? ⟨N, 0, none⟩ = some (.int .i64 n)) (h : a ≤ n) :
    Calls Try.prog 30 #[.agg #[.string s, .int .i64 a], .pointer (some ⟨N, 0, none⟩)] w fun e w' => e = .returned (.bool false) ∧ Below w.heap.size w w' := by
  have hd : decide (n < a) = false := decide_eq_false (by omega)
  have hl := World.block_lt_of_cell? w _ hN
  have hc : (w.alloc (.cells #[.string s, .int .i64 a] 69)).cell? ⟨N, 0, none⟩ = some (.int .i64 n) := by rw [World.cell?_alloc_past _ _ _ hl]; exact hN
  go_enter Try.func30, Try.ntmps30
  go_wp2_with fail
  go_ret
  exact ⟨rfl, (Below.refl _ _).alloc (Nat.le_refl _) _⟩

/-- A savepoint's cells in a row of one's own. -/
theorem save_at {w : World} {base : Nat} {A : Option Addr} {n c : Nat} {L : List (ByteArray × Int)} (h : w.ownsRow base 69 2 (.slice A n c) n (scells L)) {j : Nat} {p : ByteArray × Int} (hp : L[j]? = some p) (hn : n = L.length) :
    ∃ g, A = some ⟨g, 0, none⟩ ∧ w.cell? ⟨g, j * 2, none⟩ = some (.string p.1) ∧ w.cell? ⟨g, j * 2 + 1, none⟩ = some (.int .i64 p.2) ∧ g < w.heap.size := by
  have hj := (List.getElem?_eq_some_iff.1 hp).1
  obtain ⟨c1, c2⟩ := scells_at L j p hp
  subst hn
  rcases h.2 with ⟨h1, h2⟩ | ⟨g, cap, cur, h1, hb, hg, _⟩
  · injection h1 with a b d
    omega
  · injection h1 with a b d
    subst a
    exact ⟨g, rfl, by rw [World.ownsRow.cellAt h (j * 2) (by omega)]; exact c1, by rw [World.ownsRow.cellAt h (j * 2 + 1) (by omega)]; exact c2, lt_of_block hg⟩
/-- The place of the first one behind, or -1. -/
def idxI (k n : Nat) : Int := if k = n then -1 else (k : Int)
theorem index_any {w : World} {base : Nat} {A : Option Addr} {c : Nat} (L : List (ByteArray × Int)) (h : w.ownsRow base 69 2 (.slice A L.length c) L.length (scells L)) (hl : L.length ≤ 100000) (n : Int) (N : Nat) (hN : w.cell? ⟨N, 0, none⟩ = some (.int .i64 n)) (k : Nat) (h1 : ∀ (i : Nat) p, i < k → L[i]? = some p → p.2 ≤ n) (h2 : ∀ (i : Nat) p, k ≤ i → L[i]? = some p → n < p.2) (hk : k ≤ L.length) :
    Calls Try.prog 31 #[.slice A L.length c, .func (.func 30) #[] #[.pointer (some ⟨N, 0, none⟩)]] w fun e w' => e = .returned (.int .i64 (idxI k L.length)) ∧ Below w.heap.size w w' := by
  have HO := Lib.hid h
  have H1 := Lib.hid h1
  have H2 := Lib.hid h2
  have hNl := World.block_lt_of_cell? w _ hN
  have HN := Lib.hid hN
  clear h h1 h2 hN
  go_enter Try.func31, Try.ntmps31
  go_wp2_with fail
  go_loopg [8] L.length (fun g i wr => ∃ j : Nat, j ≤ k ∧ g = L.length - j ∧ i = .int .i64 j ∧ Hid (Below w.heap.size w wr))
  case atStart => exact ⟨0, Nat.zero_le _, by omega, rfl, Below.refl _ _⟩
  case round =>
    obtain ⟨j, hj, hg, rfl, HB⟩ := hrel
    have hNw : Hid (wr.cell? ⟨N, 0, none⟩ = some (.int .i64 n)) := (World.cell?_of_block (w := w) (a := ⟨N, 0, none⟩) (HB.out.block N hNl)).trans HN.out
    by_cases hlt : j < L.length
    · obtain ⟨p, hp⟩ : ∃ p, L[j]? = some p := ⟨_, List.getElem?_eq_getElem hlt⟩
      obtain ⟨gg, rfl, s1, s2, hgl⟩ := save_at (owns_below HO.out HB.out (Nat.le_refl _)) hp rfl
      have HP := Lib.hid hp
      clear hp
      by_cases hjk : j < k
      · have hno := Lib.hid (H1.out j p hjk HP.out)
        go_wp2_with fail
        refine (gone_no _ _ n N _ hNw.out hno.out).mono ?_
        rintro e w2 ⟨rfl, hb⟩
        have HB2 := Lib.hid (HB.out.trans (hb.mono HB.out.size))
        clear hb
        go_wp2_with fail
        go_roundg (L.length - (j + 1))
        case measure => omega
        case rel => exact ⟨j + 1, by omega, rfl, by go_num, HB2⟩
      · have hyes := Lib.hid (H2.out j p (by omega) HP.out)
        obtain rfl : j = k := by omega
        go_wp2_with fail
        refine (gone_yes _ _ n N _ hNw.out hyes.out).mono ?_
        rintro e w2 ⟨rfl, hb⟩
        have HB2 := Lib.hid (HB.out.trans (hb.mono HB.out.size))
        clear hb
        go_wp2_with fail
        go_ret
        exact ⟨by unfold idxI; rw [if_neg (by omega)]; rfl, HB2.out⟩
    · go_wp2_with fail
      go_ret
      exact ⟨by unfold idxI; rw [if_pos (by omega)]; rfl, HB.out⟩

theorem clear_row {T e : TypeId} {z : Value} {size bytes : Nat} {i0 : TypeInfo} (E : Elt T e z size bytes i0) (hz : ∀ w, (zeroValue e).run Try.prog w = .ok z w) (h1 : ∀ u ∈ z.cells, u.oneCell' = true) (w : World) (g o n c : Nat) (cur : Array Value) (hg : w.heap[g]? = some (.cells cur e (0, 0))) (hn : 0 < n) (hl : o + n * size ≤ cur.size) :
    ∃ vs : List Value, vs.length = n * size ∧ ∀ ty, (Builtin.clear_ #[T] ty #[.slice (some ⟨g, o, none⟩) n c]).run Try.prog w = .ok (.tuple #[]) (w.setRow g (cur.toList.take o ++ vs ++ cur.toList.drop (o + vs.length)).toArray) := by
  have hlen : (Builtin.zeroCells z.cells n).toList.length = n * size := by simp [Builtin.zeroCells, E.zs]
  refine ⟨(Builtin.zeroCells z.cells n).toList, hlen, fun ty => ?_⟩
  have hone : ∀ v ∈ (Builtin.zeroCells z.cells n).toList, v.oneCell' = true := by
    intro v hv
    simp [Builtin.zeroCells] at hv
    obtain ⟨i, hi, rfl⟩ := hv
    have hs : 0 < z.cells.size := by rw [E.zs]; exact E.pos
    have hm : i % z.cells.size < z.cells.size := Nat.mod_lt _ hs
    have e1 : z.cells[i % z.cells.size]! = z.cells[i % z.cells.size] := by simp [hm]
    rw [e1]
    exact h1 _ (Array.getElem_mem _)
  have hst := run_storeCells_at (P := Try.prog) g o e (Builtin.zeroCells z.cells n).toList 0 cur w hg (by rw [hlen]; omega) hone
  obtain ⟨m, rfl⟩ : ∃ m, n = m + 1 := ⟨n - 1, by omega⟩
  simp only [Nat.add_zero] at hst
  simp [Builtin.clear_, run_underlying E.und, hz, hst]
/-- The first k elements of a row of one's own. -/
theorem owns_take {w : World} {base : Nat} {e : TypeId} {size n c : Nat} {A : Option Addr} {xs : List Value} (h : w.ownsRow base e size (.slice A n c) n xs) (k : Nat) (hk : k ≤ n) (hx : xs.length = n * size) : w.ownsRow base e size (.slice A k c) k (xs.take (k * size)) := by
  refine ⟨by rw [List.length_take, hx]; exact Nat.min_eq_left (Nat.mul_le_mul_right _ hk), ?_⟩
  rcases h.2 with ⟨h1, h2⟩ | ⟨g, cap, cur, h1, hb, hg, hnc, hcm, hcs, htake⟩
  · injection h1 with a b d
    subst a d
    obtain rfl : k = 0 := by omega
    exact .inl ⟨rfl, rfl⟩
  · injection h1 with a b d
    subst a d
    refine .inr ⟨g, c, cur, rfl, hb, hg, by omega, hcm, hcs, ?_⟩
    rw [← htake, List.take_take, Nat.min_eq_left (Nat.mul_le_mul_right _ hk)]
theorem two_one : ∀ u ∈ (Value.agg #[.string ⟨#[]⟩, .int .i64 0]).cells, u.oneCell' = true := by
  intro u hu
  have h : u ∈ #[Value.string ⟨#[]⟩, .int .i64 0] := hu
  simp at h
  rcases h with rfl | rfl <;> rfl
theorem heap_setRow_ne (w : World) (g k : Nat) (c : Array Value) (h : k ≠ g) : (w.setRow g c).heap[k]? = w.heap[k]? := by
  unfold World.setRow
  simp only [Array.getElem?_modify]
  rw [if_neg (Ne.symm h)]
theorem chg_setRow (w : World) (g : Nat) (c : Array Value) : Chg (fun b => b = g) w (w.setRow g c) :=
  ⟨rfl, rfl, rfl, by simp [World.setRow], fun k hk hn => heap_setRow_ne w g k c hn⟩
theorem zero_S (w : World) : (zeroValue 69).run Try.prog w = .ok (.agg #[.string ⟨#[]⟩, .int .i64 0]) w := by kernel_rfl
theorem scells_take (L : List (ByteArray × Int)) (k : Nat) (hk : k ≤ L.length) : (scells L).take (k * 2) = scells (L.take k) := by
  have h : scells L = scells (L.take k) ++ scells (L.drop k) := by rw [← scells_append, List.take_append_drop]
  rw [h, List.take_append_of_le_length (by rw [scells_len, List.length_take]; omega), List.take_of_length_le (by rw [scells_len, List.length_take]; omega)]
theorem del_any {w : World} {base : Nat} {A : Option Addr} {c : Nat} (L : List (ByteArray × Int)) (h : w.ownsRow base 69 2 (.slice A L.length c) L.length (scells L)) (hl : L.length ≤ 100000) (n : Int) (N : Nat) (hN : w.cell? ⟨N, 0, none⟩ = some (.int .i64 n)) (k : Nat) (h1 : ∀ (i : Nat) p, i < k → L[i]? = some p → p.2 ≤ n) (h2 : ∀ (i : Nat) p, k ≤ i → L[i]? = some p → n < p.2) (hk : k ≤ L.length) :
    Calls Try.prog 29 #[.slice A L.length c, .func (.func 30) #[] #[.pointer (some ⟨N, 0, none⟩)]] w fun e w' => e = .returned (.slice A k c) ∧ w'.ownsRow base 69 2 (.slice A k c) k (scells (L.take k)) ∧ Chg (fun b => (Value.slice A L.length c).ownBlock = some b) w w' := by
  have hcall := Lib.hid (index_any L h hl n N hN k h1 h2 hk)
  have HO := Lib.hid h
  have H1 := Lib.hid h1
  have H2 := Lib.hid h2
  have hNl := World.block_lt_of_cell? w _ hN
  have HN := Lib.hid hN
  clear h h1 h2 hN
  by_cases hkl : k = L.length
  · have e1 : idxI k L.length = -1 := if_pos hkl
    rw [e1] at hcall
    clear e1
    subst hkl
    go_enter Try.func29, Try.ntmps29
    go_wp2_with fail
    refine hcall.out.mono ?_
    rintro e w1 ⟨rfl, hb⟩
    have HB := Lib.hid hb
    clear hb
    go_wp2_with fail
    go_ret
    exact ⟨rfl, by rw [List.take_length]; exact owns_below HO.out HB.out (Nat.le_refl _), Chg.ofBelow HB.out (fun i h1 h2 => by omega)⟩
  · have e1 : idxI k L.length = (k : Int) := if_neg hkl
    rw [e1] at hcall
    clear e1
    have hk2 : k < L.length := by omega
    have hkm : ((k : Int) == -1) = false := beq_eq_false_iff_ne.2 (by omega)
    go_enter Try.func29, Try.ntmps29
    go_wp2_with fail
    refine hcall.out.mono ?_
    rintro e w1 ⟨rfl, hb⟩
    have HB := Lib.hid hb
    clear hb
    go_wp2_with fail
    go_loopg [5, 6] (L.length - (k + 1)) (fun g i5 i wr => i5 = .int .i64 k ∧ ∃ j : Nat, k < j ∧ j ≤ L.length ∧ g = L.length - j ∧ i = .int .i64 j ∧ Hid (Below w.heap.size w wr))
    case atStart => exact ⟨rfl, k + 1, by omega, by omega, rfl, by go_num, HB⟩
    case round =>
      obtain ⟨rfl, j, hjk, hj, hg, rfl, HB⟩ := hrel
      have hNw : Hid (wr.cell? ⟨N, 0, none⟩ = some (.int .i64 n)) := (World.cell?_of_block (w := w) (a := ⟨N, 0, none⟩) (HB.out.block N hNl)).trans HN.out
      by_cases hlt : j < L.length
      · obtain ⟨p, hp⟩ : ∃ p, L[j]? = some p := ⟨_, List.getElem?_eq_getElem hlt⟩
        obtain ⟨gg, rfl, s1, s2, hgl⟩ := save_at (owns_below HO.out HB.out (Nat.le_refl _)) hp rfl
        have HP := Lib.hid hp
        clear hp
        have hyes := Lib.hid (H2.out j p (by omega) HP.out)
        have hNa : Hid ((wr.alloc (.cells #[.string p.1, .int .i64 p.2] 69)).cell? ⟨N, 0, none⟩ = some (.int .i64 n)) := (by
          rw [World.cell?_alloc_past _ _ _ (World.block_lt_of_cell? wr _ hNw.out)]
          exact hNw.out : (wr.alloc (.cells #[.string p.1, .int .i64 p.2] 69)).cell? ⟨N, 0, none⟩ = some (.int .i64 n))
        go_wp2_with fail
        refine (gone_yes _ _ n N _ hNa.out hyes.out).mono ?_
        rintro e w2 ⟨rfl, hb⟩
        have HB2 : Hid (Below w.heap.size w w2) := (HB.out.alloc HB.out.size _).trans (hb.mono (by have := HB.out.size; simp; omega))
        clear hb
        go_wp2_with fail
        go_roundg (L.length - (j + 1))
        case measure => omega
        case rel => exact ⟨rfl, j + 1, by omega, by omega, rfl, by go_num, HB2⟩
      · obtain rfl : j = L.length := by omega
        obtain ⟨p, hp⟩ : ∃ p, L[k]? = some p := ⟨_, List.getElem?_eq_getElem hk2⟩
        obtain ⟨gg, rfl, -, -, hgl⟩ := save_at (owns_below HO.out HB.out (Nat.le_refl _)) hp rfl
        obtain ⟨i0, ES⟩ := elt_S
        have hOW := owns_below HO.out HB.out (Nat.le_refl _)
        obtain ⟨cur, hg5, hcl, hcs⟩ : ∃ cur, wr.heap[gg]? = some (.cells cur 69) ∧ L.length ≤ c ∧ cur.size = c * 2 := by
          rcases hOW.2 with ⟨h', _⟩ | ⟨g', cap', cur, h', _, hg', hnc, _, hcs, _⟩
          · cases h'
          · injection h' with a b d
            injection a with a
            injection a with a
            subst a d
            exact ⟨cur, hg', hnc, hcs⟩
        obtain ⟨vs, hvl, hclr⟩ := clear_row ES zero_S two_one wr gg (k * 2) (L.length - k) (c - k) cur hg5 (by omega) (by omega)
        have HG5 := Lib.hid hg5
        have HOW := Lib.hid hOW
        clear hp hg5 hOW
        go_wp2_with fail
        go_ret
        have hX : wr.ownsRow base 69 2 (.slice (some ⟨gg, 0, none⟩) L.length c) L.length (scells L) := HOW.out
        have hch : Chg (fun b => (Value.slice (some ⟨gg, 0, none⟩) L.length c).ownBlock = some b) w (wr.setRow gg (cur.toList.take (k * 2) ++ (vs ++ cur.toList.drop (k * 2 + (L.length - k) * 2))).toArray) :=
          (Chg.ofBelow HB.out (fun i h1 h2 => by omega)).trans ((chg_setRow wr gg _).mono fun b _ e => by rw [e]; rfl)
        refine ⟨rfl, ?_, hch⟩
        rcases hX.2 with ⟨h', _⟩ | ⟨g', cap', cur', h', hb', hg', hnc', hcm', hcs', htake'⟩
        · cases h'
        · injection h' with a b d
          injection a with a
          injection a with a
          subst a d
          rw [HG5.out] at hg'
          injection hg' with hg'
          injection hg' with hg'
          subst hg'
          have htl : (cur.toList.take (k * 2)).length = k * 2 := by rw [List.length_take, Array.length_toList]; omega
          refine ⟨by rw [scells_len, List.length_take]; omega, .inr ⟨gg, c, _, rfl, hb', setRow_heap wr gg cur _ _ _ HG5.out, by omega, hcm', by simp [hvl]; omega, ?_⟩⟩
          rw [List.toList_toArray, List.take_append_of_le_length (by omega), List.take_of_length_le (by omega), ← scells_take L k hk, ← htake', List.take_take, Nat.min_eq_left (by omega)]
end Go.Proofs.Ytkanlcfinogaeaa
