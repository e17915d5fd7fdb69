/-
  Add of both logs: where the new entry's rows lie.
-/
import Derived.Test.YtkanlcfinogaeaaUnPlain
namespace Go.Proofs.Ytkanlcfinogaeaa
open Go.RowKit
set_option linter.unusedVariables false
set_option linter.unusedSimpArgs false

/-- An image's rows lie from block k on. -/
def Hi (k : Nat) (y : Img) : Prop := (∀ ad : Addr, y.oa = some ad → k ≤ ad.block) ∧ ∀ ad : Addr, y.na = some ad → k ≤ ad.block
/-- All but the log's own blocks stay. -/
def KeepB (l : Nat) (ev : Value) (w w' : World) : Prop := ∀ k, k < w.heap.size → k ≠ l → ev.ownBlock ≠ some k → w'.heap[k]? = w.heap[k]?
set_option maxHeartbeats 1000000 in
theorem add_core {base l : Nat} {S : ULS} {I : List Img} {ev sv : Value} {w : World} (R : URep base l S I ev sv w) (hl : S.entries.length ≤ 200000) (hq : (S.entries.length : Int) < S.quota) (x : Img) (hx : x.Rd base w) (hn1 : x.e.old.length ≤ 1000) (hn2 : x.e.new.length ≤ 1000) :
    Calls Try.prog 9 #[.pointer (some ⟨l, 0, none⟩), .agg #[.int .i64 x.e.kind, .int .i64 x.e.id, .string x.e.table, .slice x.oa x.e.old.length x.oc, .slice x.na x.e.new.length x.nc]] w fun e w' => e = .returned (.int .i64 0) ∧ (∃ y, (∃ ev', URep base l { S with entries := S.entries ++ [x.e] } (I ++ [y]) ev' sv w') ∧ Hi w.heap.size y) ∧ Frm TU base w w' ∧ KeepB l ev w w' := by
  obtain ⟨i0, EE⟩ := elt_E
  have hle := UR.le ⟨_, _, _, R⟩
  have hil : I.length = S.entries.length := by rw [← R.ent]; simp
  have HIL := Lib.hid hil
  obtain ⟨E, ec, rfl⟩ := own_form R.eown
  obtain ⟨q0, q1, q2, y0, y1, y2, hlt⟩ := three_of_block R.blk
  rw [hil] at q1
  have HR := Lib.hid R
  have HX := Lib.hid hx
  clear R hil hx
  go_enter Try.func9, Try.ntmps9
  go_wp2_with fail
  go_quiet (fail)
  go_wp2_with fail
  have hb1 : w.heap.size < ((w.alloc (.cells x.cells.toArray 35)).drewN nq).heap.size := by show _ < (w.heap.push _).size; simp
  have hk1 : ((w.alloc (.cells x.cells.toArray 35)).drewN nq).heap[w.heap.size]? = some (.cells x.cells.toArray 35) := heap_alloc_new _ _
  have hf1 : Frm TU base w ((w.alloc (.cells x.cells.toArray 35)).drewN nq) := ((Frm.refl TU base w).alloc hle _).drewN nq
  have hR1 : URep base l S I (.slice E I.length ec) sv ((w.alloc (.cells x.cells.toArray 35)).drewN nq) := (HR.out.frm (T := TN) (Frm.ofBelow (below_drewN ((Below.refl _ _).alloc (Nat.le_refl _) _) nq) (Nat.le_refl _)) hle (fun h => h) (fun h => h) (fun h => h) (fun h => h))
  have hx1 : x.Rd base ((w.alloc (.cells x.cells.toArray 35)).drewN nq) := HX.out.frm hf1 (by unfold TU; decide) (Nat.le_refl _)
  obtain ⟨w1, hw1⟩ : ∃ w1, w1 = (w.alloc (.cells #[.int .i64 x.e.kind, .int .i64 x.e.id, .string x.e.table, .slice x.oa x.e.old.length x.oc, .slice x.na x.e.new.length x.nc] 35)).drewN nq := ⟨_, rfl⟩
  rw [← hw1]
  rw [show (w.alloc (.cells x.cells.toArray 35)).drewN nq = w1 from hw1.symm] at hb1 hk1 hf1 hR1 hx1
  have HLE1 : Hid (w.heap.size ≤ w1.heap.size) := Nat.le_of_lt hb1
  have HBW1 : Hid (Below w.heap.size w w1) := (by rw [hw1]; exact below_drewN ((Below.refl _ _).alloc (Nat.le_refl _) _) nq : Below w.heap.size w w1)
  obtain ⟨B, hB⟩ : ∃ B, B = w.heap.size := ⟨_, rfl⟩
  have hBlo : base ≤ B := by omega
  have HBW : Hid (w.heap.size ≤ B) := Nat.le_of_eq hB.symm
  rw [← hB] at hb1 hk1 ⊢
  clear hw1 q0 q1 q2 y0 y1 y2 hlt
  obtain ⟨b0, b1, b2, b3, b4, f3, f4, _⟩ := five_of_block hk1
  have HSo : Hid (Src w1.drew x.oa x.e.old.length x.oc (vcells x.e.old)) := by
    obtain ⟨A, c, e, h, _⟩ := hx1.1
    injection e with e1 e2 e3
    subst e1 e3
    exact h
  have HSn : Hid (Src w1 x.na x.e.new.length x.nc (vcells x.e.new)) := by
    obtain ⟨A, c, e, h, _⟩ := hx1.2
    injection e with e1 e2 e3
    subst e1 e3
    exact h
  have HEB : Hid (∀ k, (Value.slice E I.length ec).ownBlock = some k → k < B) := (fun k hk => by have := (HR.out.eown.lt k hk).2; omega : ∀ k, (Value.slice E I.length ec).ownBlock = some k → k < B)
  have HK1 := Lib.hid hk1
  have HF1 := Lib.hid hf1
  have HR1 := Lib.hid hR1
  clear hk1 hf1 hR1 hx1 hB
  go_region_with
    (first
      | ((with_reducible refine (cloneV_any HSo.out (vcells_len _) (vcells_one _) (by omega)).mono ?_); rintro e w2 ⟨A2, c2, rfl, ho2, hb2⟩; have HO2 := Lib.hid ho2; have HB2 : Hid (Below w1.heap.size w1 w2) := (below_drewN (Below.refl w1.heap.size w1) 1).trans hb2; have HSn2 : Hid (Src w2 x.na x.e.new.length x.nc (vcells x.e.new)) := HSn.out.below HB2.out (Nat.le_refl _); clear ho2 hb2; obtain ⟨d0, d1, d2, d3, d4, g3, g4, _⟩ := five_of_block ((HB2.out.block B hb1).trans HK1.out))
      | ((with_reducible refine (cloneV_any HSn2.out (vcells_len _) (vcells_one _) (by omega)).mono ?_); rintro e w3 ⟨A3, c3, rfl, ho3, hb3⟩; have HO3 := Lib.hid ho3; have HB3 : Hid (Below w2.heap.size w2 w3) := hb3; clear ho3 hb3; obtain ⟨j0, j1, j2, j3, j4, k3, k4, _⟩ := five_of_block (((HB2.out.trans (HB3.out.mono HB2.out.size)).block B hb1).trans HK1.out)))
  all_goals
    obtain ⟨y, hy⟩ : ∃ y : Img, y = ⟨x.e, A2, c2, A3, c3⟩ := ⟨_, rfl⟩
    have hB3 : Below w1.heap.size w1 w3 := HB2.out.trans (HB3.out.mono HB2.out.size)
    have hle1 : base ≤ w1.heap.size := Nat.le_trans hle HF1.out.low.size
    have hk3 : w3.heap[B]? = some (.cells x.cells.toArray 35) := (hB3.block B hb1).trans HK1.out
    have hR3 : URep base l S I (.slice E I.length ec) sv w3 := HR1.out.frm (T := TN) (Frm.ofBelow hB3 (Nat.le_refl _)) hle1 (fun h => h) (fun h => h) (fun h => h) (fun h => h)
    obtain ⟨wz, hwz⟩ : ∃ wz, wz = (w3.setCell ⟨B, 3, none⟩ (.slice A2 x.e.old.length c2)).setCell ⟨B, 4, none⟩ (.slice A3 x.e.new.length c3) := ⟨_, rfl⟩
    rw [← hwz]
    have hkz : wz.heap[B]? = some (.cells y.cells.toArray 35) := by
      rw [hwz, hy]
      exact blk_set (blk_set hk3 3 _) 4 _
    have hRz : URep base l S I (.slice E I.length ec) sv wz := by
      rw [hwz]
      exact (hR3.poke hk3 hBlo HEB.out 3 _).poke (blk_set hk3 3 _) hBlo HEB.out 4 _
    have hf3 : Frm TU base w3 wz := by
      rw [hwz]
      exact (Frm.setCell hk3 (.inr (.inl rfl)) hBlo _ _).trans (Frm.setCell (blk_set hk3 3 _) (.inr (.inl rfl)) hBlo _ _)
    have HWZ : Hid (Below w.heap.size w wz) := (by
      rw [hwz]
      exact ((HBW1.out.trans (hB3.mono HBW1.out.size)).setCell (p := ⟨B, 3, none⟩) HBW.out _).setCell (p := ⟨B, 4, none⟩) HBW.out _ : Below w.heap.size w wz)
    have hFz : Frm TU base w wz := (HF1.out.trans (Frm.ofBelow hB3 hle1)).trans hf3
    have hlz : base ≤ wz.heap.size := Nat.le_trans hle hFz.low.size
    have hyz : y.Rd base wz := by
      rw [hy]
      exact ⟨((RdV.owned HO2.out).frm (T := TN) (Frm.ofBelow HB3.out (Nat.le_refl _)) (fun h => h) (Nat.le_trans hle1 HB2.out.size)).frm hf3 (by unfold TU; decide) (Nat.le_refl _), (RdV.owned HO3.out).frm hf3 (by unfold TU; decide) (Nat.le_refl _)⟩
    have hye : y.e = x.e := by rw [hy]
    have HHI : Hid (Hi w.heap.size y) := (by
      have h1 := HF1.out.low.size
      have h2 := HB2.out.size
      have h0 : w.heap.size ≤ w1.heap.size := HLE1.out
      have h3 : w1.drew.heap.size = w1.heap.size := rfl
      rw [hy]
      exact ⟨fun ad h => by have := (HO2.out.lt ad.block (by show (Value.slice A2 _ c2).ownBlock = _; rw [show A2 = some ad from h]; rfl)).1; omega, fun ad h => by have := (HO3.out.lt ad.block (by show (Value.slice A3 _ c3).ownBlock = _; rw [show A3 = some ad from h]; rfl)).1; omega⟩ : Hi w.heap.size y)
    have hya : y.oa = A2 ∧ y.oc = c2 ∧ y.na = A3 ∧ y.nc = c3 := by rw [hy]; exact ⟨rfl, rfl, rfl, rfl⟩
    obtain ⟨i0', i1', i2', i3', i4', -, -, -⟩ := five_of_block hkz
    have hblz := hRz.blk
    rw [HIL.out] at hblz
    obtain ⟨p0, p1, p2, s0, s1, s2, lz⟩ := three_of_block hblz
    have HOWN : Hid ((wz.alloc (.cells y.cells.toArray 35)).drew.ownsRow base 35 5 (.slice E S.entries.length ec) S.entries.length (icells I)) := by
      rw [← HIL.out]
      exact hRz.eown.alloc _
    have HBL : Hid ((wz.alloc (.cells y.cells.toArray 35)).drew.heap[wz.heap.size]? = some (.cells y.cells.toArray 35)) := heap_alloc_new _ _
    have HLE : Hid (base ≤ (wz.alloc (.cells y.cells.toArray 35)).drew.heap.size) := (by show base ≤ (wz.heap.push _).size; simp; omega : base ≤ (wz.alloc (.cells y.cells.toArray 35)).drew.heap.size)
    have HN1 : Hid (∀ u ∈ y.cells.toArray.toList, u.oneCell' = true) := (by
      intro u hu
      simp [Img.cells] at hu
      rcases hu with rfl | rfl | rfl | rfl | rfl <;> rfl : ∀ u ∈ y.cells.toArray.toList, u.oneCell' = true)
    have HRz := Lib.hid hRz
    have HFz := Lib.hid hFz
    have HYz := Lib.hid hyz
    have HYE := Lib.hid hye
    have HBz := Lib.hid (blk_drew (blk_alloc hblz (.cells y.cells.toArray 35)))
    have HSZ : Hid (∀ k, sv.ownBlock = some k → ∃ cs, wz.heap[k]? = some (.cells cs 69)) := fun k hk => (own_at hRz.sown hk).2
    clear hR3 hk3 hB3 hkz hRz hFz hf3 hyz hye hya hwz hy hblz b0 b1 b2 b3 b4 f3 f4
    go_wp2_with fail
    go_region_law
      ((refine reg_push EE (w := (wz.alloc (.cells y.cells.toArray 35)).drew) rfl _ _ rfl HOWN.out rfl y.cells.toArray rfl HBL.out rfl HN1.out (by omega) HLE.out ?_; intro A5 c5 w5 ho hg; have HO5 := Lib.hid ho; have HG5 := Lib.hid hg; clear ho hg; obtain ⟨x0, x1, x2, z0, z1, z2, lx⟩ := three_of_block (blk_grown HBz.out HG5.out (owns_ne HOWN.out HBz.out (by decide)))))
    all_goals
      go_wp2_with fail
      go_ret
      have hf : Frm TU base wz w5 := ((Frm.refl TU base wz).alloc hlz _).drew.trans (Frm.grownOwn HOWN.out HG5.out (.inr (.inl rfl)) HLE.out)
      have hl5 : w5.heap[l]? = wz.heap[l]? := (blk_grown (blk_drew (blk_alloc HRz.out.blk _)) HG5.out (owns_ne HOWN.out (blk_drew (blk_alloc HRz.out.blk _)) (by decide))).trans HRz.out.blk.symm
      have hs5 : ∀ k, sv.ownBlock = some k → w5.heap[k]? = wz.heap[k]? := fun k hk => by
        obtain ⟨cs, h1⟩ := HSZ.out k hk
        exact (blk_grown (blk_drew (blk_alloc h1 _)) HG5.out (owns_ne HOWN.out (blk_drew (blk_alloc h1 _)) (by decide))).trans h1.symm
      have h := HRz.out.eset hf hl5 hs5 (I' := I ++ [y]) (ev' := .slice A5 (S.entries.length + 1) c5) (by
        have h5 := HO5.out
        rw [icells_append, List.length_append]
        rw [← HIL.out] at h5 ⊢
        simpa [icells] using h5) (fun z hz => by
        rcases List.mem_append.1 hz with hz | hz
        · exact (HRz.out.rd z hz).frm hf (by unfold TU; decide) (Nat.le_refl _)
        · obtain rfl : z = y := by simpa using hz
          exact HYz.out.frm hf (by unfold TU; decide) (Nat.le_refl _))
      have hmap : (I ++ [y]).map Img.e = S.entries ++ [x.e] := by
        rw [List.map_append, HRz.out.ent, ← HYE.out]
        rfl
      rw [hmap] at h
      exact ⟨rfl, ⟨y, ⟨_, h.1⟩, HHI.out⟩, HFz.out.trans h.2, fun k hk hkl hke => (Below.heap_setCell _ _ _ _ hkl).trans ((HG5.out.block k (Nat.lt_of_lt_of_le hk (Nat.le_trans HWZ.out.size (by show _ ≤ (wz.heap.push _).size; simp))) (fun e => hke (by rw [HIL.out]; exact e.symm))).trans ((Below.heap_alloc _ _ _ (Nat.lt_of_lt_of_le hk HWZ.out.size)).trans (HWZ.out.block k hk)))⟩
set_option maxHeartbeats 1000000 in
theorem radd_core {base r : Nat} {S : RLS} {J : List ItI} {lv : Value} {w : World} (R : RRep base r S J lv w) (hl : S.items.length ≤ 100000) (hq : (cntE S.items : Int) < S.quota) (x : Img) (hx : x.Rd base w) :
    Calls Try.prog 10 #[.pointer (some ⟨r, 0, none⟩), .agg #[.int .i64 x.e.kind, .int .i64 x.e.id, .string x.e.table, .slice x.oa x.e.old.length x.oc, .slice x.na x.e.new.length x.nc]] w fun e w' => e = .returned (.int .i64 0) ∧ (∃ lv', RRep base r { S with items := S.items ++ [⟨false, ⟨#[]⟩, x.e⟩] } (J ++ [⟨false, ⟨#[]⟩, x⟩]) lv' w') ∧ Frm TR base w w' := by
  have hle := RR.le ⟨_, _, R⟩
  have h : RR base r S w := ⟨_, _, R⟩
  have hcl := cntE_le S.items
  have HU := Lib.hid (h.below ((Below.refl _ _).alloc (Nat.le_refl _) (.cells x.cells.toArray 40)))
  obtain ⟨i0, ET⟩ := elt_T
  obtain ⟨A, c, rfl⟩ := R.form
  obtain ⟨q0, q1, y0, y1, hlt⟩ := two_of_block R.blk
  have hJ := R.len
  have hJl : J.length ≤ 100000 := by omega
  have HR0 := Lib.hid R
  have HX0 := Lib.hid hx
  clear R hJ hx h
  go_enter Try.func10, Try.ntmps10
  go_wp2_with fail
  go_quiet ((go_at_call 20; exact Calls.quiet_of ((rlen_any (HU.out.drewN _) hl).mono fun e w' h => ⟨h.1, 0, h.2.symm⟩)))
  go_wp2_with fail
  obtain ⟨w1, hw1⟩ : ∃ w1, w1 = (w.alloc (.cells #[.int .i64 x.e.kind, .int .i64 x.e.id, .string x.e.table, .slice x.oa x.e.old.length x.oc, .slice x.na x.e.new.length x.nc] 40)).drewN nq := ⟨_, rfl⟩
  rw [← hw1]
  have hb1 : Below w.heap.size w w1 := by rw [hw1]; exact below_drewN ((Below.refl _ _).alloc (Nat.le_refl _) _) nq
  have hk1 : w1.heap[w.heap.size]? = some (.cells #[.int .i64 x.e.kind, .int .i64 x.e.id, .string x.e.table, .slice x.oa x.e.old.length x.oc, .slice x.na x.e.new.length x.nc] 40) := by rw [hw1]; exact heap_alloc_new _ _
  have hr1 : RRep base r S J (.slice A J.length c) w1 := HR0.out.frm (T := TN) (Frm.ofBelow hb1 (Nat.le_refl _)) hle (fun h => h) (fun h => h) (fun h => h)
  have HX1 := Lib.hid (HX0.out.frm (T := TN) (Frm.ofBelow hb1 (Nat.le_refl _)) (fun h => h) hle)
  have HSRC : Hid (Src w1 A J.length c (jcells J)) := Src.of hr1.lown
  have HJL := Lib.hid (jcells_len J)
  have HR := Lib.hid hr1
  have HB1 := Lib.hid hb1
  have HN1 := Lib.hid (item_one ⟨false, ⟨#[]⟩, x⟩)
  have hlt0 := hlt
  clear hw1 hb1 hr1 q0 q1 y0 y1 hlt HU
  obtain ⟨q0, q1, y0, y1, hlt⟩ := two_of_block HR.out.blk
  obtain ⟨b0, b1, b2, b3, b4, -, -, bl⟩ := five_of_block hk1
  have HKB := Lib.hid hk1
  clear hk1
  have HOa : Hid (World.ownsRow (w1.alloc (.cells #[] 67)).drew w1.heap.size 67 7 (.slice (some ⟨w1.heap.size, 0, none⟩) 0 0) 0 []) := (by
    have h := rowE w1
    skip
    exact h : World.ownsRow (w1.alloc (.cells #[] 67)).drew w1.heap.size 67 7 (.slice (some ⟨w1.heap.size, 0, none⟩) 0 0) 0 [])
  have HXa : Hid (Below w1.heap.size w1 (w1.alloc (.cells #[] 67)).drew) := (by
    refine below_drewN ?_ 1
    exact (Below.refl _ _).alloc (Nat.le_refl _) _ : Below w1.heap.size w1 (w1.alloc (.cells #[] 67)).drew)
  have HSa : Hid (Src (w1.alloc (.cells #[] 67)).drew A J.length c (jcells J)) := HSRC.out.below HXa.out (Nat.le_refl _)
  have HOb : Hid (World.ownsRow ((w1.alloc (.cells #[] 67)).alloc (.cells #[.bool false, .string ⟨#[]⟩, .int .i64 x.e.kind, .int .i64 x.e.id, .string x.e.table, .slice x.oa x.e.old.length x.oc, .slice x.na x.e.new.length x.nc] 67)).drew w1.heap.size 67 7 (.slice (some ⟨w1.heap.size, 0, none⟩) 0 0) 0 []) := (by
    have h := (rowE w1).alloc (Obj.cells #[.bool false, .string ⟨#[]⟩, .int .i64 x.e.kind, .int .i64 x.e.id, .string x.e.table, .slice x.oa x.e.old.length x.oc, .slice x.na x.e.new.length x.nc] 67)
    skip
    exact h : World.ownsRow ((w1.alloc (.cells #[] 67)).alloc (.cells #[.bool false, .string ⟨#[]⟩, .int .i64 x.e.kind, .int .i64 x.e.id, .string x.e.table, .slice x.oa x.e.old.length x.oc, .slice x.na x.e.new.length x.nc] 67)).drew w1.heap.size 67 7 (.slice (some ⟨w1.heap.size, 0, none⟩) 0 0) 0 [])
  have HXb : Hid (Below w1.heap.size w1 ((w1.alloc (.cells #[] 67)).alloc (.cells #[.bool false, .string ⟨#[]⟩, .int .i64 x.e.kind, .int .i64 x.e.id, .string x.e.table, .slice x.oa x.e.old.length x.oc, .slice x.na x.e.new.length x.nc] 67)).drew) := (by
    refine below_drewN ?_ 1
    exact ((Below.refl _ _).alloc (Nat.le_refl _) _).alloc (by simp) _ : Below w1.heap.size w1 ((w1.alloc (.cells #[] 67)).alloc (.cells #[.bool false, .string ⟨#[]⟩, .int .i64 x.e.kind, .int .i64 x.e.id, .string x.e.table, .slice x.oa x.e.old.length x.oc, .slice x.na x.e.new.length x.nc] 67)).drew)
  have HSb : Hid (Src ((w1.alloc (.cells #[] 67)).alloc (.cells #[.bool false, .string ⟨#[]⟩, .int .i64 x.e.kind, .int .i64 x.e.id, .string x.e.table, .slice x.oa x.e.old.length x.oc, .slice x.na x.e.new.length x.nc] 67)).drew A J.length c (jcells J)) := HSRC.out.below HXb.out (Nat.le_refl _)
  have HIb : Hid ((World.heap ((w1.alloc (.cells #[] 67)).alloc (.cells #[.bool false, .string ⟨#[]⟩, .int .i64 x.e.kind, .int .i64 x.e.id, .string x.e.table, .slice x.oa x.e.old.length x.oc, .slice x.na x.e.new.length x.nc] 67)).drew)[(w1.heap.size + 1)]? = some (.cells #[.bool false, .string ⟨#[]⟩, .int .i64 x.e.kind, .int .i64 x.e.id, .string x.e.table, .slice x.oa x.e.old.length x.oc, .slice x.na x.e.new.length x.nc] 67)) := (by
    have h := heap_alloc_new (w1.alloc (.cells #[] 67)) (.cells #[.bool false, .string ⟨#[]⟩, .int .i64 x.e.kind, .int .i64 x.e.id, .string x.e.table, .slice x.oa x.e.old.length x.oc, .slice x.na x.e.new.length x.nc] 67)
    rw [show (w1.alloc (.cells #[] 67)).heap.size = w1.heap.size + 1 from by simp] at h
    exact h : (World.heap ((w1.alloc (.cells #[] 67)).alloc (.cells #[.bool false, .string ⟨#[]⟩, .int .i64 x.e.kind, .int .i64 x.e.id, .string x.e.table, .slice x.oa x.e.old.length x.oc, .slice x.na x.e.new.length x.nc] 67)).drew)[(w1.heap.size + 1)]? = some (.cells #[.bool false, .string ⟨#[]⟩, .int .i64 x.e.kind, .int .i64 x.e.id, .string x.e.table, .slice x.oa x.e.old.length x.oc, .slice x.na x.e.new.length x.nc] 67))
  have HOc : Hid (World.ownsRow ((w1.alloc (.cells #[.bool false, .string ⟨#[]⟩, .int .i64 x.e.kind, .int .i64 x.e.id, .string x.e.table, .slice x.oa x.e.old.length x.oc, .slice x.na x.e.new.length x.nc] 67)).alloc (.cells #[] 67)).drew w1.heap.size 67 7 (.slice (some ⟨(w1.heap.size + 1), 0, none⟩) 0 0) 0 []) := (by
    have h := owns_up (base' := w1.heap.size) (rowE (w1.alloc (.cells #[.bool false, .string ⟨#[]⟩, .int .i64 x.e.kind, .int .i64 x.e.id, .string x.e.table, .slice x.oa x.e.old.length x.oc, .slice x.na x.e.new.length x.nc] 67))) (by simp)
    rw [show (w1.alloc (.cells #[.bool false, .string ⟨#[]⟩, .int .i64 x.e.kind, .int .i64 x.e.id, .string x.e.table, .slice x.oa x.e.old.length x.oc, .slice x.na x.e.new.length x.nc] 67)).heap.size = w1.heap.size + 1 from by simp] at h
    exact h : World.ownsRow ((w1.alloc (.cells #[.bool false, .string ⟨#[]⟩, .int .i64 x.e.kind, .int .i64 x.e.id, .string x.e.table, .slice x.oa x.e.old.length x.oc, .slice x.na x.e.new.length x.nc] 67)).alloc (.cells #[] 67)).drew w1.heap.size 67 7 (.slice (some ⟨(w1.heap.size + 1), 0, none⟩) 0 0) 0 [])
  have HXc : Hid (Below w1.heap.size w1 ((w1.alloc (.cells #[.bool false, .string ⟨#[]⟩, .int .i64 x.e.kind, .int .i64 x.e.id, .string x.e.table, .slice x.oa x.e.old.length x.oc, .slice x.na x.e.new.length x.nc] 67)).alloc (.cells #[] 67)).drew) := (by
    refine below_drewN ?_ 1
    exact ((Below.refl _ _).alloc (Nat.le_refl _) _).alloc (by simp) _ : Below w1.heap.size w1 ((w1.alloc (.cells #[.bool false, .string ⟨#[]⟩, .int .i64 x.e.kind, .int .i64 x.e.id, .string x.e.table, .slice x.oa x.e.old.length x.oc, .slice x.na x.e.new.length x.nc] 67)).alloc (.cells #[] 67)).drew)
  have HSc : Hid (Src ((w1.alloc (.cells #[.bool false, .string ⟨#[]⟩, .int .i64 x.e.kind, .int .i64 x.e.id, .string x.e.table, .slice x.oa x.e.old.length x.oc, .slice x.na x.e.new.length x.nc] 67)).alloc (.cells #[] 67)).drew A J.length c (jcells J)) := HSRC.out.below HXc.out (Nat.le_refl _)
  have HIc : Hid ((World.heap ((w1.alloc (.cells #[.bool false, .string ⟨#[]⟩, .int .i64 x.e.kind, .int .i64 x.e.id, .string x.e.table, .slice x.oa x.e.old.length x.oc, .slice x.na x.e.new.length x.nc] 67)).alloc (.cells #[] 67)).drew)[w1.heap.size]? = some (.cells #[.bool false, .string ⟨#[]⟩, .int .i64 x.e.kind, .int .i64 x.e.id, .string x.e.table, .slice x.oa x.e.old.length x.oc, .slice x.na x.e.new.length x.nc] 67)) := (by
    have h := blk_alloc (heap_alloc_new w1 (.cells #[.bool false, .string ⟨#[]⟩, .int .i64 x.e.kind, .int .i64 x.e.id, .string x.e.table, .slice x.oa x.e.old.length x.oc, .slice x.na x.e.new.length x.nc] 67)) (.cells #[] 67)
    skip
    exact h : (World.heap ((w1.alloc (.cells #[.bool false, .string ⟨#[]⟩, .int .i64 x.e.kind, .int .i64 x.e.id, .string x.e.table, .slice x.oa x.e.old.length x.oc, .slice x.na x.e.new.length x.nc] 67)).alloc (.cells #[] 67)).drew)[w1.heap.size]? = some (.cells #[.bool false, .string ⟨#[]⟩, .int .i64 x.e.kind, .int .i64 x.e.id, .string x.e.table, .slice x.oa x.e.old.length x.oc, .slice x.na x.e.new.length x.nc] 67))
  go_region_law
    (first
      | (refine reg_copy ET (w := (w1.alloc (.cells #[] 67)).drew) rfl _ _ rfl HOa.out rfl rfl HJL.out HSa.out (jcells_one _) ⟨by omega, by omega⟩ HXa.out.size ?_; intro A3 c3 w3 ho hg; simp only [Nat.zero_add, List.nil_append] at ho; have HPa := Lib.hid ho; have HGa := Lib.hid hg; have HBa : Hid (Below w1.heap.size w1 w3) := HXa.out.grown hg HXa.out.size (fun k hk => (HOa.out.lt k hk).1); clear ho hg; obtain ⟨e0, e1, e2, e3, e4, -, -, -⟩ := five_of_block ((HBa.out.block _ bl).trans HKB.out))
      | (refine reg_copy ET (w := ((w1.alloc (.cells #[] 67)).alloc (.cells #[.bool false, .string ⟨#[]⟩, .int .i64 x.e.kind, .int .i64 x.e.id, .string x.e.table, .slice x.oa x.e.old.length x.oc, .slice x.na x.e.new.length x.nc] 67)).drew) rfl _ _ rfl HOb.out rfl rfl HJL.out HSb.out (jcells_one _) ⟨by omega, by omega⟩ HXb.out.size ?_; intro A3 c3 w3 ho hg; simp only [Nat.zero_add, List.nil_append] at ho; have HPb := Lib.hid ho; have HGb := Lib.hid hg; have HBb : Hid (Below w1.heap.size w1 w3) := HXb.out.grown hg HXb.out.size (fun k hk => (HOb.out.lt k hk).1); clear ho hg; obtain ⟨e0, e1, e2, e3, e4, -, -, -⟩ := five_of_block ((HBb.out.block _ bl).trans HKB.out); have HQb := Lib.hid (blk_grown HIb.out HGb.out (fun e => Nat.ne_of_gt (Nat.lt_succ_self _) (Option.some.inj e))))
      | (refine reg_copy ET (w := ((w1.alloc (.cells #[.bool false, .string ⟨#[]⟩, .int .i64 x.e.kind, .int .i64 x.e.id, .string x.e.table, .slice x.oa x.e.old.length x.oc, .slice x.na x.e.new.length x.nc] 67)).alloc (.cells #[] 67)).drew) rfl _ _ rfl HOc.out rfl rfl HJL.out HSc.out (jcells_one _) ⟨by omega, by omega⟩ HXc.out.size ?_; intro A3 c3 w3 ho hg; simp only [Nat.zero_add, List.nil_append] at ho; have HPc := Lib.hid ho; have HGc := Lib.hid hg; have HBc : Hid (Below w1.heap.size w1 w3) := HXc.out.grown hg HXc.out.size (fun k hk => (HOc.out.lt k hk).1); clear ho hg; obtain ⟨e0, e1, e2, e3, e4, -, -, -⟩ := five_of_block ((HBc.out.block _ bl).trans HKB.out); have HQc := Lib.hid (blk_grown HIc.out HGc.out (fun e => Nat.ne_of_lt (Nat.lt_succ_self _) (Option.some.inj e))))
      | (refine reg_push ET (w := w3.alloc (.cells #[.bool false, .string ⟨#[]⟩, .int .i64 x.e.kind, .int .i64 x.e.id, .string x.e.table, .slice x.oa x.e.old.length x.oc, .slice x.na x.e.new.length x.nc] 67)) rfl _ _ rfl (HPa.out.alloc _) rfl #[.bool false, .string ⟨#[]⟩, .int .i64 x.e.kind, .int .i64 x.e.id, .string x.e.table, .slice x.oa x.e.old.length x.oc, .slice x.na x.e.new.length x.nc] rfl (heap_alloc_new _ _) rfl HN1.out (by omega) (by have := HBa.out.size; simp; omega) ?_; intro A4 c4 w4 ho hg; have HOf := Lib.hid ho; have HBf : Hid (Below w1.heap.size w1 w4) := (HBa.out.alloc HBa.out.size (Obj.cells #[.bool false, .string ⟨#[]⟩, .int .i64 x.e.kind, .int .i64 x.e.id, .string x.e.table, .slice x.oa x.e.old.length x.oc, .slice x.na x.e.new.length x.nc] 67)).grown hg ((HBa.out.alloc HBa.out.size (Obj.cells #[.bool false, .string ⟨#[]⟩, .int .i64 x.e.kind, .int .i64 x.e.id, .string x.e.table, .slice x.oa x.e.old.length x.oc, .slice x.na x.e.new.length x.nc] 67))).size (fun k hk => ((HPa.out.alloc (Obj.cells #[.bool false, .string ⟨#[]⟩, .int .i64 x.e.kind, .int .i64 x.e.id, .string x.e.table, .slice x.oa x.e.old.length x.oc, .slice x.na x.e.new.length x.nc] 67)).lt k hk).1); clear ho hg; obtain ⟨z0, z1, z2, z3, zl⟩ := two_of_block ((HBf.out.block r hlt).trans HR.out.blk))
      | (refine reg_push ET (w := w3) rfl _ _ rfl HPb.out rfl #[.bool false, .string ⟨#[]⟩, .int .i64 x.e.kind, .int .i64 x.e.id, .string x.e.table, .slice x.oa x.e.old.length x.oc, .slice x.na x.e.new.length x.nc] rfl HQb.out rfl HN1.out (by omega) HBb.out.size ?_; intro A4 c4 w4 ho hg; have HOf := Lib.hid ho; have HBf : Hid (Below w1.heap.size w1 w4) := HBb.out.grown hg (HBb.out).size (fun k hk => (HPb.out.lt k hk).1); clear ho hg; obtain ⟨z0, z1, z2, z3, zl⟩ := two_of_block ((HBf.out.block r hlt).trans HR.out.blk))
      | (refine reg_push ET (w := w3) rfl _ _ rfl HPc.out rfl #[.bool false, .string ⟨#[]⟩, .int .i64 x.e.kind, .int .i64 x.e.id, .string x.e.table, .slice x.oa x.e.old.length x.oc, .slice x.na x.e.new.length x.nc] rfl HQc.out rfl HN1.out (by omega) HBc.out.size ?_; intro A4 c4 w4 ho hg; have HOf := Lib.hid ho; have HBf : Hid (Below w1.heap.size w1 w4) := HBc.out.grown hg (HBc.out).size (fun k hk => (HPc.out.lt k hk).1); clear ho hg; obtain ⟨z0, z1, z2, z3, zl⟩ := two_of_block ((HBf.out.block r hlt).trans HR.out.blk)))
  all_goals
    go_wp2_with fail
    go_ret
    have hle1 := RR.le ⟨_, _, HR.out⟩
    have h := HR.out.lset (J' := J ++ [(⟨false, ⟨#[]⟩, x⟩ : ItI)]) (lv' := .slice A4 (J.length + 1) c4) HBf.out (by
      have h5 := owns_up HOf.out hle1
      rw [jcells_append, List.length_append]
      simpa [jcells, ItI.cells, Img.cells] using h5) (fun z hz => by
      rcases List.mem_append.1 hz with hz | hz
      · exact (HR.out.rd z hz).frm (T := TN) (Frm.ofBelow HBf.out (Nat.le_refl _)) (fun h => h) hle1
      · obtain rfl : z = ⟨false, ⟨#[]⟩, x⟩ := by simpa using hz
        exact HX1.out.frm (T := TN) (Frm.ofBelow HBf.out (Nat.le_refl _)) (fun h => h) hle1)
    have hmap : (J ++ [(⟨false, ⟨#[]⟩, x⟩ : ItI)]).map ItI.abs = S.items ++ [(ItI.abs ⟨false, ⟨#[]⟩, x⟩)] := by rw [List.map_append, HR.out.abs]; rfl
    rw [hmap] at h
    exact ⟨rfl, ⟨_, h.1⟩, (Frm.ofBelow HB1.out hle).trans h.2⟩
end Go.Proofs.Ytkanlcfinogaeaa
