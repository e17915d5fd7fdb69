/-
  Package undo: Add, Save, Saves.
-/
import Derived.Test.YtkanlcfinogaeaaUnLog
namespace Go.Proofs.Ytkanlcfinogaeaa
open Go.RowKit
set_option linter.unusedVariables false
set_option linter.unusedSimpArgs false

theorem five_of_block {w : World} {B : Nat} {x y z u v : Value} {t : TypeId} (h : w.heap[B]? = some (.cells #[x, y, z, u, v] t)) : w.cell? ⟨B, 0, none⟩ = some x ∧ w.cell? ⟨B, 1, none⟩ = some y ∧ w.cell? ⟨B, 2, none⟩ = some z ∧ w.cell? ⟨B, 3, none⟩ = some u ∧ w.cell? ⟨B, 4, none⟩ = some v ∧ w.frozen? ⟨B, 3, none⟩ = false ∧ w.frozen? ⟨B, 4, none⟩ = false ∧ B < w.heap.size :=
  ⟨cell_of_block h 0, cell_of_block h 1, cell_of_block h 2, cell_of_block h 3, cell_of_block h 4, free_of_block h 3, free_of_block h 4, lt_of_block h⟩
theorem URep.ne {base l : Nat} {S : ULS} {I : List Img} {ev sv : Value} {w : World} (R : URep base l S I ev sv w) : (∀ k, ev.ownBlock = some k → k ≠ l) ∧ (∀ k, sv.ownBlock = some k → k ≠ l) ∧ ∀ k, ev.ownBlock = some k → sv.ownBlock ≠ some k :=
  ⟨fun k hk e => owns_ne R.eown R.blk (by decide) (by rw [← e]; exact hk.symm), fun k hk e => owns_ne R.sown R.blk (by decide) (by rw [← e]; exact hk.symm), fun k hk e => by
    obtain ⟨_, cs, h1⟩ := own_at R.eown hk
    exact owns_ne R.sown h1 (by decide) e.symm⟩
/-- A log's entries are set: the new row, the store. -/
theorem URep.eset {base l : Nat} {S : ULS} {I I' : List Img} {ev sv ev' : Value} {w w' : World} (R : URep base l S I ev sv w) (hf : Frm TU base w w') (hl : w'.heap[l]? = w.heap[l]?) (hs : ∀ k, sv.ownBlock = some k → w'.heap[k]? = w.heap[k]?) (ho : w'.ownsRow base 35 5 ev' I'.length (icells I')) (hI : ∀ x ∈ I', x.Rd base w') :
    URep base l { S with entries := I'.map Img.e } I' ev' sv (w'.setCell ⟨l, 1, none⟩ ev') ∧ Frm TU base w (w'.setCell ⟨l, 1, none⟩ ev') := by
  have hblk := hl.trans R.blk
  have hF : Frm TU base w' (w'.setCell ⟨l, 1, none⟩ ev') := Frm.setCell hblk (.inl rfl) R.lo _ _
  have hne : ∀ k, ev'.ownBlock = some k → k ≠ l := fun k hk e => owns_ne ho hblk (by decide) (by rw [← e]; exact hk.symm)
  refine ⟨⟨R.lo, blk_set hblk 1 _, owns_same ho fun k hk => Below.heap_setCell _ _ _ _ (hne k hk), rfl, fun x hx => (hI x hx).frm hF (by unfold TU; decide) (Nat.le_refl _), owns_same (owns_same R.sown hs) fun k hk => Below.heap_setCell _ _ _ _ (R.ne.2.1 k hk)⟩, hf.trans hF⟩
/-- A log's savepoints are set. -/
theorem URep.sset {base l : Nat} {S : ULS} {I : List Img} {ev sv sv' : Value} {w w' : World} (R : URep base l S I ev sv w) (hf : Frm TU base w w') (hl : w'.heap[l]? = w.heap[l]?) (he : ∀ k, ev.ownBlock = some k → w'.heap[k]? = w.heap[k]?) {L : List (ByteArray × Int)} (ho : w'.ownsRow base 69 2 sv' L.length (scells L)) :
    URep base l { S with saves := L } I ev sv' (w'.setCell ⟨l, 2, none⟩ sv') ∧ Frm TU base w (w'.setCell ⟨l, 2, none⟩ sv') := by
  have hblk := hl.trans R.blk
  have hF : Frm TU base w' (w'.setCell ⟨l, 2, none⟩ sv') := Frm.setCell hblk (.inl rfl) R.lo _ _
  have hne : ∀ k, sv'.ownBlock = some k → k ≠ l := fun k hk e => owns_ne ho hblk (by decide) (by rw [← e]; exact hk.symm)
  exact ⟨⟨R.lo, blk_set hblk 2 _, owns_same (owns_same R.eown he) fun k hk => Below.heap_setCell _ _ _ _ (R.ne.1 k hk), R.ent, fun x hx => ((R.rd x hx).frm hf (by unfold TU; decide) (Nat.le_refl _)).frm hF (by unfold TU; decide) (Nat.le_refl _), owns_same ho fun k hk => Below.heap_setCell _ _ _ _ (hne k hk)⟩, hf.trans hF⟩

theorem save_any {base l : Nat} {S : ULS} {w : World} (h : UR base l S w) (hs : S.saves.length ≤ 100000) (s : ByteArray) :
    Calls Try.prog 11 #[.pointer (some ⟨l, 0, none⟩), .string s] w fun e w' => e = .returned (.tuple #[]) ∧ UR base l { S with saves := S.saves ++ [(s, (S.entries.length : Int))] } w' ∧ Frm TU base w w' := by
  obtain ⟨i0, ES⟩ := elt_S
  have hle := h.le
  obtain ⟨I, ev, sv, R⟩ := h
  have hil : I.length = S.entries.length := by rw [← R.ent]; simp
  obtain ⟨A, c, rfl⟩ := own_form R.eown
  obtain ⟨q0, q1, q2, y0, y1, y2, hlt⟩ := three_of_block R.blk
  rw [hil] at q1
  have HR := Lib.hid R
  have HOWN : Hid ((w.alloc (.cells #[.string s, .int .i64 (S.entries.length : Int)] 69)).drew.ownsRow base 69 2 sv S.saves.length (scells S.saves)) := R.sown.alloc _
  have HBL : Hid ((w.alloc (.cells #[.string s, .int .i64 (S.entries.length : Int)] 69)).drew.heap[w.heap.size]? = some (.cells #[.string s, .int .i64 (S.entries.length : Int)] 69)) := heap_alloc_new _ _
  have hle2 : base ≤ (w.alloc (.cells #[.string s, .int .i64 (S.entries.length : Int)] 69)).drew.heap.size := by
    show base ≤ (w.heap.push _).size
    simp; omega
  have HLE := Lib.hid hle2
  clear hle2
  have HN1 : Hid (∀ u ∈ #[Value.string s, Value.int .i64 (S.entries.length : Int)].toList, u.oneCell' = true) := (by
    intro u hu
    simp at hu
    rcases hu with rfl | rfl <;> rfl : ∀ u ∈ #[Value.string s, Value.int .i64 (S.entries.length : Int)].toList, u.oneCell' = true)
  clear R hil
  go_enter Try.func11, Try.ntmps11
  go_wp2_with fail
  go_region_law
    ((refine reg_push ES (w := (w.alloc (.cells #[.string s, .int .i64 (S.entries.length : Int)] 69)).drew) rfl _ _ rfl HOWN.out rfl #[.string s, .int .i64 (S.entries.length : Int)] rfl HBL.out rfl HN1.out (by omega) HLE.out ?_; intro A3 c3 w3 ho hg; have HO3 := Lib.hid ho; have HG3 := Lib.hid hg; clear ho hg; obtain ⟨x0, x1, x2, z0, z1, z2, lx⟩ := three_of_block (blk_grown (blk_drew (blk_alloc HR.out.blk _)) HG3.out (owns_ne HR.out.sown HR.out.blk (by decide)))))
  all_goals
    go_wp2_with fail
    go_end0
    have hF : Frm TU base w w3 := ((Frm.refl TU base w).alloc hle _).drew.trans (Frm.grownOwn HOWN.out HG3.out (.inr (.inr rfl)) HLE.out)
    have hE : ∀ k, (Value.slice A I.length c).ownBlock = some k → w3.heap[k]? = w.heap[k]? := fun k hk => by
      obtain ⟨_, cs, h1⟩ := own_at HR.out.eown hk
      exact ((blk_grown (blk_drew (blk_alloc h1 _)) HG3.out (owns_ne HR.out.sown h1 (by decide)))).trans h1.symm
    have hL : w3.heap[l]? = w.heap[l]? := (blk_grown (blk_drew (blk_alloc HR.out.blk _)) HG3.out (owns_ne HR.out.sown HR.out.blk (by decide))).trans HR.out.blk.symm
    have h := HR.out.sset hF hL hE (L := S.saves ++ [(s, (S.entries.length : Int))]) (sv' := .slice A3 (S.saves.length + 1) c3) (by
      have := HO3.out
      rw [scells_append, List.length_append]
      exact this)
    exact ⟨rfl, ⟨_, _, _, h.1⟩, h.2⟩

theorem add_full {base l : Nat} {S : ULS} {w : World} (h : UR base l S w) (hl : S.entries.length ≤ 200000) (hq : S.quota ≤ (S.entries.length : Int)) (a b : Int) (s : ByteArray) (A B : Option Addr) (n m c d : Nat) :
    Calls Try.prog 9 #[.pointer (some ⟨l, 0, none⟩), .agg #[.int .i64 a, .int .i64 b, .string s, .slice A n c, .slice B m d]] w fun e w' => e = .returned (.int .i64 10) ∧ Below w.heap.size w w' := by
  obtain ⟨I, ev, sv, R⟩ := h
  have hil : I.length = S.entries.length := by rw [← R.ent]; simp
  obtain ⟨E, ec, rfl⟩ := own_form R.eown
  obtain ⟨q0, q1, q2, y0, y1, y2, hlt⟩ := three_of_block R.blk
  rw [hil] at q1
  clear R hil
  go_enter Try.func9, Try.ntmps9
  go_wp2_with fail
  go_quiet (fail)
  go_wp2_with fail
  go_ret
  exact ⟨rfl, below_drewN ((Below.refl _ _).alloc (Nat.le_refl _) _) _⟩
/-- A cell of a block of an entry that is no entry of the log's is written. -/
theorem URep.poke {base l : Nat} {S : ULS} {I : List Img} {ev sv : Value} {w : World} (R : URep base l S I ev sv w) {B : Nat} {cs : Array Value} (hB : w.heap[B]? = some (.cells cs 35)) (hlo : base ≤ B) (hne : ∀ k, ev.ownBlock = some k → k < B) (i : Nat) (v : Value) : URep base l S I ev sv (w.setCell ⟨B, i, none⟩ v) := by
  have hF : Frm (fun t => t = 35) base w (w.setCell ⟨B, i, none⟩ v) := Frm.setCell (T := fun t => t = 35) hB rfl hlo i v
  exact ⟨R.lo, hF.blk R.blk (by decide), owns_same R.eown fun k hk => Below.heap_setCell _ _ _ _ (Nat.ne_of_lt (hne k hk)), R.ent, fun x hx => (R.rd x hx).frm hF (by decide) (Nat.le_refl _), hF.owns R.sown (by decide)⟩
set_option maxHeartbeats 1000000 in
theorem add_any {base l : Nat} {S : ULS} {w : World} (h : UR base l S w) (hl : S.entries.length ≤ 200000) (hq : (S.entries.length : Int) < S.quota) (x : Img) (hx : x.Rd base w) (hn1 : x.e.old.length ≤ 1000) (hn2 : x.e.new.length ≤ 1000) :
    Calls Try.prog 9 #[.pointer (some ⟨l, 0, none⟩), .agg #[.int .i64 x.e.kind, .int .i64 x.e.id, .string x.e.table, .slice x.oa x.e.old.length x.oc, .slice x.na x.e.new.length x.nc]] w fun e w' => e = .returned (.int .i64 0) ∧ UR base l { S with entries := S.entries ++ [x.e] } w' ∧ Frm TU base w w' := by
  obtain ⟨i0, EE⟩ := elt_E
  have hle := h.le
  obtain ⟨I, ev, sv, R⟩ := h
  have hil : I.length = S.entries.length := by rw [← R.ent]; simp
  have HIL := Lib.hid hil
  obtain ⟨E, ec, rfl⟩ := own_form R.eown
  obtain ⟨q0, q1, q2, y0, y1, y2, hlt⟩ := three_of_block R.blk
  rw [hil] at q1
  have HR := Lib.hid R
  have HX := Lib.hid hx
  clear R hil hx
  go_enter Try.func9, Try.ntmps9
  go_wp2_with fail
  go_quiet (fail)
  go_wp2_with fail
  have hb1 : w.heap.size < ((w.alloc (.cells x.cells.toArray 35)).drewN nq).heap.size := by show _ < (w.heap.push _).size; simp
  have hk1 : ((w.alloc (.cells x.cells.toArray 35)).drewN nq).heap[w.heap.size]? = some (.cells x.cells.toArray 35) := heap_alloc_new _ _
  have hf1 : Frm TU base w ((w.alloc (.cells x.cells.toArray 35)).drewN nq) := ((Frm.refl TU base w).alloc hle _).drewN nq
  have hR1 : URep base l S I (.slice E I.length ec) sv ((w.alloc (.cells x.cells.toArray 35)).drewN nq) := (HR.out.frm (T := TN) (Frm.ofBelow (below_drewN ((Below.refl _ _).alloc (Nat.le_refl _) _) nq) (Nat.le_refl _)) hle (fun h => h) (fun h => h) (fun h => h) (fun h => h))
  have hx1 : x.Rd base ((w.alloc (.cells x.cells.toArray 35)).drewN nq) := HX.out.frm hf1 (by unfold TU; decide) (Nat.le_refl _)
  obtain ⟨w1, hw1⟩ : ∃ w1, w1 = (w.alloc (.cells #[.int .i64 x.e.kind, .int .i64 x.e.id, .string x.e.table, .slice x.oa x.e.old.length x.oc, .slice x.na x.e.new.length x.nc] 35)).drewN nq := ⟨_, rfl⟩
  rw [← hw1]
  rw [show (w.alloc (.cells x.cells.toArray 35)).drewN nq = w1 from hw1.symm] at hb1 hk1 hf1 hR1 hx1
  obtain ⟨B, hB⟩ : ∃ B, B = w.heap.size := ⟨_, rfl⟩
  have hBlo : base ≤ B := by omega
  rw [← hB] at hb1 hk1 ⊢
  clear hw1 q0 q1 q2 y0 y1 y2 hlt
  obtain ⟨b0, b1, b2, b3, b4, f3, f4, _⟩ := five_of_block hk1
  have HSo : Hid (Src w1.drew x.oa x.e.old.length x.oc (vcells x.e.old)) := by
    obtain ⟨A, c, e, h, _⟩ := hx1.1
    injection e with e1 e2 e3
    subst e1 e3
    exact h
  have HSn : Hid (Src w1 x.na x.e.new.length x.nc (vcells x.e.new)) := by
    obtain ⟨A, c, e, h, _⟩ := hx1.2
    injection e with e1 e2 e3
    subst e1 e3
    exact h
  have HEB : Hid (∀ k, (Value.slice E I.length ec).ownBlock = some k → k < B) := (fun k hk => by have := (HR.out.eown.lt k hk).2; omega : ∀ k, (Value.slice E I.length ec).ownBlock = some k → k < B)
  have HK1 := Lib.hid hk1
  have HF1 := Lib.hid hf1
  have HR1 := Lib.hid hR1
  clear hk1 hf1 hR1 hx1 hB
  go_region_with
    (first
      | ((with_reducible refine (cloneV_any HSo.out (vcells_len _) (vcells_one _) (by omega)).mono ?_); rintro e w2 ⟨A2, c2, rfl, ho2, hb2⟩; have HO2 := Lib.hid ho2; have HB2 : Hid (Below w1.heap.size w1 w2) := (below_drewN (Below.refl w1.heap.size w1) 1).trans hb2; have HSn2 : Hid (Src w2 x.na x.e.new.length x.nc (vcells x.e.new)) := HSn.out.below HB2.out (Nat.le_refl _); clear ho2 hb2; obtain ⟨d0, d1, d2, d3, d4, g3, g4, _⟩ := five_of_block ((HB2.out.block B hb1).trans HK1.out))
      | ((with_reducible refine (cloneV_any HSn2.out (vcells_len _) (vcells_one _) (by omega)).mono ?_); rintro e w3 ⟨A3, c3, rfl, ho3, hb3⟩; have HO3 := Lib.hid ho3; have HB3 : Hid (Below w2.heap.size w2 w3) := hb3; clear ho3 hb3; obtain ⟨j0, j1, j2, j3, j4, k3, k4, _⟩ := five_of_block (((HB2.out.trans (HB3.out.mono HB2.out.size)).block B hb1).trans HK1.out)))
  all_goals
    obtain ⟨y, hy⟩ : ∃ y : Img, y = ⟨x.e, A2, c2, A3, c3⟩ := ⟨_, rfl⟩
    have hB3 : Below w1.heap.size w1 w3 := HB2.out.trans (HB3.out.mono HB2.out.size)
    have hle1 : base ≤ w1.heap.size := Nat.le_trans hle HF1.out.low.size
    have hk3 : w3.heap[B]? = some (.cells x.cells.toArray 35) := (hB3.block B hb1).trans HK1.out
    have hR3 : URep base l S I (.slice E I.length ec) sv w3 := HR1.out.frm (T := TN) (Frm.ofBelow hB3 (Nat.le_refl _)) hle1 (fun h => h) (fun h => h) (fun h => h) (fun h => h)
    obtain ⟨wz, hwz⟩ : ∃ wz, wz = (w3.setCell ⟨B, 3, none⟩ (.slice A2 x.e.old.length c2)).setCell ⟨B, 4, none⟩ (.slice A3 x.e.new.length c3) := ⟨_, rfl⟩
    rw [← hwz]
    have hkz : wz.heap[B]? = some (.cells y.cells.toArray 35) := by
      rw [hwz, hy]
      exact blk_set (blk_set hk3 3 _) 4 _
    have hRz : URep base l S I (.slice E I.length ec) sv wz := by
      rw [hwz]
      exact (hR3.poke hk3 hBlo HEB.out 3 _).poke (blk_set hk3 3 _) hBlo HEB.out 4 _
    have hf3 : Frm TU base w3 wz := by
      rw [hwz]
      exact (Frm.setCell hk3 (.inr (.inl rfl)) hBlo _ _).trans (Frm.setCell (blk_set hk3 3 _) (.inr (.inl rfl)) hBlo _ _)
    have hFz : Frm TU base w wz := (HF1.out.trans (Frm.ofBelow hB3 hle1)).trans hf3
    have hlz : base ≤ wz.heap.size := Nat.le_trans hle hFz.low.size
    have hyz : y.Rd base wz := by
      rw [hy]
      exact ⟨((RdV.owned HO2.out).frm (T := TN) (Frm.ofBelow HB3.out (Nat.le_refl _)) (fun h => h) (Nat.le_trans hle1 HB2.out.size)).frm hf3 (by unfold TU; decide) (Nat.le_refl _), (RdV.owned HO3.out).frm hf3 (by unfold TU; decide) (Nat.le_refl _)⟩
    have hye : y.e = x.e := by rw [hy]
    have hya : y.oa = A2 ∧ y.oc = c2 ∧ y.na = A3 ∧ y.nc = c3 := by rw [hy]; exact ⟨rfl, rfl, rfl, rfl⟩
    obtain ⟨i0', i1', i2', i3', i4', -, -, -⟩ := five_of_block hkz
    have hblz := hRz.blk
    rw [HIL.out] at hblz
    obtain ⟨p0, p1, p2, s0, s1, s2, lz⟩ := three_of_block hblz
    have HOWN : Hid ((wz.alloc (.cells y.cells.toArray 35)).drew.ownsRow base 35 5 (.slice E S.entries.length ec) S.entries.length (icells I)) := by
      rw [← HIL.out]
      exact hRz.eown.alloc _
    have HBL : Hid ((wz.alloc (.cells y.cells.toArray 35)).drew.heap[wz.heap.size]? = some (.cells y.cells.toArray 35)) := heap_alloc_new _ _
    have HLE : Hid (base ≤ (wz.alloc (.cells y.cells.toArray 35)).drew.heap.size) := (by show base ≤ (wz.heap.push _).size; simp; omega : base ≤ (wz.alloc (.cells y.cells.toArray 35)).drew.heap.size)
    have HN1 : Hid (∀ u ∈ y.cells.toArray.toList, u.oneCell' = true) := (by
      intro u hu
      simp [Img.cells] at hu
      rcases hu with rfl | rfl | rfl | rfl | rfl <;> rfl : ∀ u ∈ y.cells.toArray.toList, u.oneCell' = true)
    have HRz := Lib.hid hRz
    have HFz := Lib.hid hFz
    have HYz := Lib.hid hyz
    have HYE := Lib.hid hye
    have HBz := Lib.hid (blk_drew (blk_alloc hblz (.cells y.cells.toArray 35)))
    have HSZ : Hid (∀ k, sv.ownBlock = some k → ∃ cs, wz.heap[k]? = some (.cells cs 69)) := fun k hk => (own_at hRz.sown hk).2
    clear hR3 hk3 hB3 hkz hRz hFz hf3 hyz hye hya hwz hy hblz b0 b1 b2 b3 b4 f3 f4
    go_wp2_with fail
    go_region_law
      ((refine reg_push EE (w := (wz.alloc (.cells y.cells.toArray 35)).drew) rfl _ _ rfl HOWN.out rfl y.cells.toArray rfl HBL.out rfl HN1.out (by omega) HLE.out ?_; intro A5 c5 w5 ho hg; have HO5 := Lib.hid ho; have HG5 := Lib.hid hg; clear ho hg; obtain ⟨x0, x1, x2, z0, z1, z2, lx⟩ := three_of_block (blk_grown HBz.out HG5.out (owns_ne HOWN.out HBz.out (by decide)))))
    all_goals
      go_wp2_with fail
      go_ret
      have hf : Frm TU base wz w5 := ((Frm.refl TU base wz).alloc hlz _).drew.trans (Frm.grownOwn HOWN.out HG5.out (.inr (.inl rfl)) HLE.out)
      have hl5 : w5.heap[l]? = wz.heap[l]? := (blk_grown (blk_drew (blk_alloc HRz.out.blk _)) HG5.out (owns_ne HOWN.out (blk_drew (blk_alloc HRz.out.blk _)) (by decide))).trans HRz.out.blk.symm
      have hs5 : ∀ k, sv.ownBlock = some k → w5.heap[k]? = wz.heap[k]? := fun k hk => by
        obtain ⟨cs, h1⟩ := HSZ.out k hk
        exact (blk_grown (blk_drew (blk_alloc h1 _)) HG5.out (owns_ne HOWN.out (blk_drew (blk_alloc h1 _)) (by decide))).trans h1.symm
      have h := HRz.out.eset hf hl5 hs5 (I' := I ++ [y]) (ev' := .slice A5 (S.entries.length + 1) c5) (by
        have h5 := HO5.out
        rw [icells_append, List.length_append]
        rw [← HIL.out] at h5 ⊢
        simpa [icells] using h5) (fun z hz => by
        rcases List.mem_append.1 hz with hz | hz
        · exact (HRz.out.rd z hz).frm hf (by unfold TU; decide) (Nat.le_refl _)
        · obtain rfl : z = y := by simpa using hz
          exact HYz.out.frm hf (by unfold TU; decide) (Nat.le_refl _))
      have hmap : (I ++ [y]).map Img.e = S.entries ++ [x.e] := by
        rw [List.map_append, HRz.out.ent, ← HYE.out]
        rfl
      rw [hmap] at h
      exact ⟨rfl, ⟨_, _, _, h.1⟩, HFz.out.trans h.2⟩
end Go.Proofs.Ytkanlcfinogaeaa
