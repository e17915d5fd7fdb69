/-
  The reference's log: To, where there are that many.
-/
import Derived.Test.YtkanlcfinogaeaaUnRefTo
namespace Go.Proofs.Ytkanlcfinogaeaa
open Go.RowKit
set_option linter.unusedVariables false
set_option linter.unusedSimpArgs false

set_option maxHeartbeats 2000000 in
theorem rto_core {base r : Nat} {S : RLS} {w : World} (h : RR base r S w) (hl : S.items.length ≤ 100000) (m : Nat) (hm : m ≤ cntE S.items) :
    Calls Try.prog 18 #[.pointer (some ⟨r, 0, none⟩), .int .i64 (m : Int)] w (RToPost base r S m w) := by
  have hle := h.le
  obtain ⟨i0, ER⟩ := elt_R
  have hcl := cntE_le S.items
  have HU := Lib.hid h
  obtain ⟨J, lv, R⟩ := h
  obtain ⟨A, c, rfl⟩ := R.form
  have hJ := R.len
  have hJl : J.length ≤ 100000 := by omega
  have hcap : J.length ≤ c := by
    rcases R.lown.2 with ⟨h1, h2⟩ | ⟨g, cap, cur, h1, _, _, hnc, _⟩
    · injection h1 with a b d; omega
    · injection h1 with a b d; omega
  have HJ := Lib.hid hJ
  have hst : PopRel base r S J A c m w J.length (some ⟨w.heap.size, 0, none⟩) 0 [] (w.alloc (.cells #[] 40)) := by
    have hb : Below w.heap.size w (w.alloc (.cells #[] 40)) := (Below.refl _ _).alloc (Nat.le_refl _) _
    refine ⟨?_, World.ownsRow_made w #[] 0 (Nat.le_refl _) (by simp [maxLen]) (by simp), by rw [hJ, outE_end]; rfl, (fun x hx => by cases hx), Frm.ofBelow hb hle, by rw [hJ, List.take_length]; exact hm, fun i h1 h2 => by omega⟩
    have h1 := R.frm (T := TN) (Frm.ofBelow hb (Nat.le_refl _)) hle (fun h => h) (fun h => h) (fun h => h)
    rw [hJ, List.take_length]
    rw [← hJ, List.take_length]
    exact h1
  have HST := Lib.hid hst
  have hd : decide ((cntE S.items : Int) < (m : Int)) = false := decide_eq_false (by omega)
  have hd2 : decide (cntE S.items < m) = false := decide_eq_false (by omega)
  clear R hJ hst
  go_enter Try.func18, Try.ntmps18
  go_wp2_with fail
  refine (rlen_any HU.out hl).mono ?_
  rintro e w1 ⟨rfl, rfl⟩
  go_wp2_with fail
  go_loopg [5] J.length (fun g out wr => ∃ (j k : Nat) (B : Option Addr) (d : Nat) (K : List Img), out = .slice B k d ∧ j ≤ J.length ∧ g = j ∧ k ≤ 100000 ∧ Hid (k = K.length) ∧ Hid (PopRel base r S J A c m w j B d K wr))
  case atStart => exact ⟨J.length, 0, _, _, [], rfl, Nat.le_refl _, rfl, by omega, rfl, HST⟩
  case round =>
    clear HST
    obtain ⟨j, k, B, d, K, rfl, hj, hg, hk, HK, HP⟩ := hrel
    have hlj : (S.items.take j).length ≤ 100000 := Nat.le_trans (List.length_take_le _ _) (by omega)
    have hcall := Lib.hid (rlen_any ⟨_, _, HP.out.rep⟩ hlj)
    obtain ⟨C, hC⟩ : ∃ C, C = cntE (S.items.take j) := ⟨_, rfl⟩
    have hCj : C ≤ j := by rw [hC]; exact cntE_take _ _
    have hCe : cntE ({ S with items := S.items.take j } : RLS).items = C := hC.symm
    rw [hCe] at hcall
    have HCC := Lib.hid hC
    clear hC hCe
    by_cases hlt : m < C
    · obtain ⟨q, rfl⟩ : ∃ q, j = q + 1 := ⟨j - 1, by omega⟩
      obtain ⟨y, hy⟩ : ∃ y, J[q]? = some y := ⟨_, List.getElem?_eq_getElem (by omega)⟩
      have hyt : (J.take (q + 1))[q]? = some y := by rw [List.getElem?_take, if_pos (by omega)]; exact hy
      obtain ⟨gg, hA, gl, c0, c1, c2, c3, c4, c5, c6⟩ := HP.out.rep.item hyt
      subst hA
      obtain ⟨p0, p1, f0, f1, lz⟩ := two_of_block HP.out.rep.blk
      have hit : S.items[q]? = some y.abs := by
        obtain ⟨J', lv', R'⟩ := HU.out
        have := HP.out.rep.abs
        have h1 : ((J.take (q + 1)).map ItI.abs)[q]? = some y.abs := by rw [List.getElem?_map, hyt]; rfl
        have h2 : (J.take (q + 1)).map ItI.abs = S.items.take (q + 1) := this
        rw [h2, List.getElem?_take, if_pos (by omega)] at h1
        exact h1
      have HIT := Lib.hid hit
      have HYM : Hid (y ∈ J.take (q + 1)) := List.mem_of_getElem? hyt
      have hlt3 : ((m : Int) : Int) < (C : Int) := by omega
      clear hit hy hyt
      go_wp2_with fail
      refine hcall.out.mono ?_
      rintro e wr' ⟨rfl, rfl⟩
      have n1 : q < q + 1 := Nat.lt_succ_self _
      have n2 : ((q : Int) + 1 - 1) = (q : Int) := by omega
      have n3 : IntKind.wrap .i64 ((q : Int) + 1 - 1) = (q : Int) := by rw [IntKind.wrap_i64]; omega
      have n4 : (q : Int) < (q : Int) + 1 := by omega
      have n5 : (q : Int) ≤ (c : Int) := by omega
      have n6 : q ≤ c := by omega
      have n7 : (0 : Int) ≤ (q : Int) := by omega
      have n8 : IntKind.wrap .i64 (q : Int) = (q : Int) := by rw [IntKind.wrap_i64]; omega
      go_wp2_with fail
      go_region
      have hb2 : Below wr.heap.size wr (wr.alloc (.cells y.cells.toArray 67)).drew := below_drewN ((Below.refl _ _).alloc (Nat.le_refl _) _) 1
      obtain ⟨w2, hw2⟩ : ∃ w2, w2 = (wr.alloc (.cells #[.bool y.save, .string y.name, .int .i64 y.x.e.kind, .int .i64 y.x.e.id, .string y.x.e.table, .slice y.x.oa y.x.e.old.length y.x.oc, .slice y.x.na y.x.e.new.length y.x.nc] 67)).drew := ⟨_, rfl⟩
      rw [← hw2]
      rw [show (wr.alloc (.cells y.cells.toArray 67)).drew = w2 from hw2.symm] at hb2
      have hk2 : w2.heap[wr.heap.size]? = some (.cells y.cells.toArray 67) := by rw [hw2]; exact heap_alloc_new _ _
      have hp2 := HP.out.news hb2
      have hx2 : y.x.Rd base w2 := hp2.rep.rd y HYM.out
      have HP2 := Lib.hid hp2
      have HX2 := Lib.hid hx2
      clear hb2 hw2 hp2 hx2 c0 c1 c2 c3 c4 c5 c6 p0 p1 f0 f1 lz
      obtain ⟨p0, p1, f0, f1, lz⟩ := two_of_block HP2.out.rep.blk
      have c0 : w2.cell? ⟨wr.heap.size, 0, none⟩ = some (.bool y.save) := cell_of_block hk2 0
      have c2 : w2.cell? ⟨wr.heap.size, 2, none⟩ = some (.int .i64 y.x.e.kind) := cell_of_block hk2 2
      have c3 : w2.cell? ⟨wr.heap.size, 3, none⟩ = some (.int .i64 y.x.e.id) := cell_of_block hk2 3
      have c4 : w2.cell? ⟨wr.heap.size, 4, none⟩ = some (.string y.x.e.table) := cell_of_block hk2 4
      have c5 : w2.cell? ⟨wr.heap.size, 5, none⟩ = some (.slice y.x.oa y.x.e.old.length y.x.oc) := cell_of_block hk2 5
      have c6 : w2.cell? ⟨wr.heap.size, 6, none⟩ = some (.slice y.x.na y.x.e.new.length y.x.nc) := cell_of_block hk2 6
      clear hk2
      have hnx := outE_next _ _ _ HIT.out
      obtain ⟨sv, hsv⟩ : ∃ sv, sv = y.save := ⟨_, rfl⟩
      have HSV : Hid (y.abs.save = sv) := (by rw [hsv]; rfl : y.abs.save = sv)
      have HNX := Lib.hid hnx
      rw [← hsv] at c0 ⊢
      clear hsv hnx
      cases sv with
      | true =>
        go_wp2_with fail
        refine region_tail 12 (by kernel_rfl) (by kernel_rfl) ?_
        simp only [List.take_succ_cons, List.take_zero, List.drop_succ_cons, List.drop_zero]
        repeat still_step
        refine wpStill_nil ?_
        go_wp2_with fail
        go_roundg q
        case measure => omega
        case rel =>
          have e1 : outE S.items q = outE S.items (q + 1) := by rw [HNX.out, if_pos HSV.out, List.append_nil]
          exact ⟨q, k, B, d, K, rfl, by omega, rfl, hk, HK, Lib.hid (PopRel.cut (HP2.out.rep.frm (T := TN) (Frm.ofBelow (below_drewN (Below.refl _ _) 1) (RR.le ⟨_, _, HP2.out.rep⟩)) (Nat.le_refl _) (fun h => h) (fun h => h) (fun h => h)) (by omega) HP2.out.out (fun x hx => (HP2.out.rd x hx).frm (T := TN) (Frm.ofBelow (below_drewN (Below.refl _ _) 1) (RR.le ⟨_, _, HP2.out.rep⟩)) (fun h => h) (Nat.le_refl _)) HP2.out.frm.drew (by rw [e1]; exact HP2.out.ents) HIT.out (by have := HCC.out; omega) HP2.out.high)⟩
      | false =>
        have hown := HP2.out.out
        rw [← HK.out] at hown
        have HOWN := Lib.hid hown
        have HN1 := Lib.hid (img_one' y.x)
        have hlw : w.heap.size ≤ w2.heap.size := HP2.out.frm.low.size
        clear hown
        go_wp2_with (at_builtin; refine step_push ER (w := w2) rfl _ _ rfl HOWN.out rfl #[.int .i64 y.x.e.kind, .int .i64 y.x.e.id, .string y.x.e.table, .slice y.x.oa y.x.e.old.length y.x.oc, .slice y.x.na y.x.e.new.length y.x.nc] rfl rfl rfl HN1.out (by omega) hlw ?_; intro A5 c5' w5 ho hg5; have HO5 := Lib.hid ho; have HG5 := Lib.hid hg5; clear ho hg5; obtain ⟨z0, z1, z2, z3, zl⟩ := two_of_block (blk_grown (blk_alloc HP2.out.rep.blk _) HG5.out (owns_ne HOWN.out HP2.out.rep.blk (by decide))))
        refine region_tail 12 (by kernel_rfl) (by kernel_rfl) ?_
        simp only [List.take_succ_cons, List.take_zero, List.drop_succ_cons, List.drop_zero]
        repeat still_step
        refine wpStill_nil ?_
        go_wp2_with fail
        go_roundg q
        case measure => omega
        case rel =>
          have e1 : outE S.items q = outE S.items (q + 1) ++ [y.x.e] := by rw [HNX.out, if_neg (by rw [HSV.out]; simp)]; rfl
          have hlb := RR.le ⟨_, _, HP2.out.rep⟩
          have hF5 : Frm (fun t => t = 40) base w2 w5 := ((Frm.refl _ base w2).alloc hlb _).trans (Frm.down (Frm.grownOwn (base := w.heap.size) (HOWN.out.alloc _) HG5.out rfl (by simp; omega)) hle)
          have hrep := HP2.out.rep.frm hF5 (Nat.le_refl _) (by decide) (by decide) (by decide)
          have hout : w5.ownsRow w.heap.size 40 5 (.slice A5 (K ++ [y.x]).length c5') (K ++ [y.x]).length (icells (K ++ [y.x])) := by
            have h5 := HO5.out
            rw [icells_append, List.length_append]
            rw [HK.out] at h5
            simpa [icells, Img.cells] using h5
          have hfr : Frm TR base w w5 := (HP2.out.frm.alloc hle _).grownNew hle HG5.out (fun k hk => (HOWN.out.lt k hk).1)
          have hrd : ∀ x ∈ K ++ [y.x], x.Rd base w5 := fun x hx => by
            rcases List.mem_append.1 hx with hx | hx
            · exact (HP2.out.rd x hx).frm hF5 (by decide) (Nat.le_refl _)
            · obtain rfl : x = y.x := by simpa using hx
              exact HX2.out.frm hF5 (by decide) (Nat.le_refl _)
          have hents : (K ++ [y.x]).map Img.e = outE S.items q := by rw [e1, List.map_append, HP2.out.ents]; rfl
          have hkl : (K ++ [y.x]).length ≤ 100000 := by
            have := congrArg List.length hents
            rw [List.length_map] at this
            rw [this]
            exact Nat.le_trans (outE_len _ _) hl
          have hfin := PopRel.cut (c := c) (m := m) (hrep.frm (T := TN) (Frm.ofBelow (below_drewN (Below.refl _ _) 1) (RR.le ⟨_, _, hrep⟩)) (Nat.le_refl _) (fun h => h) (fun h => h) (fun h => h)) (by omega) hout (fun x hx => (hrd x hx).frm (T := TN) (Frm.ofBelow (below_drewN (Below.refl _ _) 1) (RR.le ⟨_, _, hrep⟩)) (fun h => h) (Nat.le_refl _)) hfr.drew hents HIT.out (by have := HCC.out; omega) HP2.out.high
          exact ⟨q, k + 1, A5, c5', K ++ [y.x], rfl, by omega, rfl, by rw [List.length_append] at hkl; have := HK.out; simp at hkl; omega, Lib.hid (by rw [List.length_append, HK.out]; rfl), Lib.hid hfin⟩
    · go_wp2_with fail
      refine hcall.out.mono ?_
      rintro e wr' ⟨rfl, rfl⟩
      go_wp2_with fail
      go_ret
      have hCm : cntE (S.items.take j) = m := by have := HP.out.low; have := HCC.out; omega
      have hk2 := HK.out
      subst hk2
      exact ⟨j, B, d, K, rfl, by rw [← HJ.out]; exact hj, hCm, HP.out.high, HP.out.ents, HP.out.out, HP.out.rd, ⟨_, _, HP.out.rep⟩, HP.out.frm⟩

set_option maxHeartbeats 2000000 in
theorem rto_neg {base r : Nat} {S : RLS} {w : World} (h : RR base r S w) (hl : S.items.length ≤ 100000) (n : Int) (hn : n < 0) (hm : 0 ≤ cntE S.items) :
    Calls Try.prog 18 #[.pointer (some ⟨r, 0, none⟩), .int .i64 n] w (RToPost base r S 0 w) := by
  have hle := h.le
  obtain ⟨i0, ER⟩ := elt_R
  have hcl := cntE_le S.items
  have HU := Lib.hid h
  obtain ⟨J, lv, R⟩ := h
  obtain ⟨A, c, rfl⟩ := R.form
  have hJ := R.len
  have hJl : J.length ≤ 100000 := by omega
  have hcap : J.length ≤ c := by
    rcases R.lown.2 with ⟨h1, h2⟩ | ⟨g, cap, cur, h1, _, _, hnc, _⟩
    · injection h1 with a b d; omega
    · injection h1 with a b d; omega
  have HJ := Lib.hid hJ
  have hst : PopRel base r S J A c 0 w J.length (some ⟨w.heap.size, 0, none⟩) 0 [] (w.alloc (.cells #[] 40)) := by
    have hb : Below w.heap.size w (w.alloc (.cells #[] 40)) := (Below.refl _ _).alloc (Nat.le_refl _) _
    refine ⟨?_, World.ownsRow_made w #[] 0 (Nat.le_refl _) (by simp [maxLen]) (by simp), by rw [hJ, outE_end]; rfl, (fun x hx => by cases hx), Frm.ofBelow hb hle, by rw [hJ, List.take_length]; exact hm, fun i h1 h2 => by omega⟩
    have h1 := R.frm (T := TN) (Frm.ofBelow hb (Nat.le_refl _)) hle (fun h => h) (fun h => h) (fun h => h)
    rw [hJ, List.take_length]
    rw [← hJ, List.take_length]
    exact h1
  have HST := Lib.hid hst
  clear R hJ hst
  go_enter Try.func18, Try.ntmps18
  go_wp2_with fail
  refine (rlen_any HU.out hl).mono ?_
  rintro e w1 ⟨rfl, rfl⟩
  go_wp2_with fail
  go_loopg [5] J.length (fun g out wr => ∃ (j k : Nat) (B : Option Addr) (d : Nat) (K : List Img), out = .slice B k d ∧ j ≤ J.length ∧ g = j ∧ k ≤ 100000 ∧ Hid (k = K.length) ∧ Hid (PopRel base r S J A c 0 w j B d K wr))
  case atStart => exact ⟨J.length, 0, _, _, [], rfl, Nat.le_refl _, rfl, by omega, rfl, HST⟩
  case round =>
    clear HST
    obtain ⟨j, k, B, d, K, rfl, hj, hg, hk, HK, HP⟩ := hrel
    have hlj : (S.items.take j).length ≤ 100000 := Nat.le_trans (List.length_take_le _ _) (by omega)
    have hcall := Lib.hid (rlen_any ⟨_, _, HP.out.rep⟩ hlj)
    obtain ⟨C, hC⟩ : ∃ C, C = cntE (S.items.take j) := ⟨_, rfl⟩
    have hCj : C ≤ j := by rw [hC]; exact cntE_take _ _
    have hCe : cntE ({ S with items := S.items.take j } : RLS).items = C := hC.symm
    rw [hCe] at hcall
    have HCC := Lib.hid hC
    clear hC hCe
    by_cases hlt : 0 < C
    · obtain ⟨q, rfl⟩ : ∃ q, j = q + 1 := ⟨j - 1, by omega⟩
      obtain ⟨y, hy⟩ : ∃ y, J[q]? = some y := ⟨_, List.getElem?_eq_getElem (by omega)⟩
      have hyt : (J.take (q + 1))[q]? = some y := by rw [List.getElem?_take, if_pos (by omega)]; exact hy
      obtain ⟨gg, hA, gl, c0, c1, c2, c3, c4, c5, c6⟩ := HP.out.rep.item hyt
      subst hA
      obtain ⟨p0, p1, f0, f1, lz⟩ := two_of_block HP.out.rep.blk
      have hit : S.items[q]? = some y.abs := by
        obtain ⟨J', lv', R'⟩ := HU.out
        have := HP.out.rep.abs
        have h1 : ((J.take (q + 1)).map ItI.abs)[q]? = some y.abs := by rw [List.getElem?_map, hyt]; rfl
        have h2 : (J.take (q + 1)).map ItI.abs = S.items.take (q + 1) := this
        rw [h2, List.getElem?_take, if_pos (by omega)] at h1
        exact h1
      have HIT := Lib.hid hit
      have HYM : Hid (y ∈ J.take (q + 1)) := List.mem_of_getElem? hyt
      have hlt3 : (0 : Int) < (C : Int) := by omega
      clear hit hy hyt
      go_wp2_with fail
      refine hcall.out.mono ?_
      rintro e wr' ⟨rfl, rfl⟩
      have n1 : q < q + 1 := Nat.lt_succ_self _
      have n2 : ((q : Int) + 1 - 1) = (q : Int) := by omega
      have n3 : IntKind.wrap .i64 ((q : Int) + 1 - 1) = (q : Int) := by rw [IntKind.wrap_i64]; omega
      have n4 : (q : Int) < (q : Int) + 1 := by omega
      have n5 : (q : Int) ≤ (c : Int) := by omega
      have n6 : q ≤ c := by omega
      have n7 : (0 : Int) ≤ (q : Int) := by omega
      have n8 : IntKind.wrap .i64 (q : Int) = (q : Int) := by rw [IntKind.wrap_i64]; omega
      go_wp2_with fail
      go_region
      have hb2 : Below wr.heap.size wr (wr.alloc (.cells y.cells.toArray 67)).drew := below_drewN ((Below.refl _ _).alloc (Nat.le_refl _) _) 1
      obtain ⟨w2, hw2⟩ : ∃ w2, w2 = (wr.alloc (.cells #[.bool y.save, .string y.name, .int .i64 y.x.e.kind, .int .i64 y.x.e.id, .string y.x.e.table, .slice y.x.oa y.x.e.old.length y.x.oc, .slice y.x.na y.x.e.new.length y.x.nc] 67)).drew := ⟨_, rfl⟩
      rw [← hw2]
      rw [show (wr.alloc (.cells y.cells.toArray 67)).drew = w2 from hw2.symm] at hb2
      have hk2 : w2.heap[wr.heap.size]? = some (.cells y.cells.toArray 67) := by rw [hw2]; exact heap_alloc_new _ _
      have hp2 := HP.out.news hb2
      have hx2 : y.x.Rd base w2 := hp2.rep.rd y HYM.out
      have HP2 := Lib.hid hp2
      have HX2 := Lib.hid hx2
      clear hb2 hw2 hp2 hx2 c0 c1 c2 c3 c4 c5 c6 p0 p1 f0 f1 lz
      obtain ⟨p0, p1, f0, f1, lz⟩ := two_of_block HP2.out.rep.blk
      have c0 : w2.cell? ⟨wr.heap.size, 0, none⟩ = some (.bool y.save) := cell_of_block hk2 0
      have c2 : w2.cell? ⟨wr.heap.size, 2, none⟩ = some (.int .i64 y.x.e.kind) := cell_of_block hk2 2
      have c3 : w2.cell? ⟨wr.heap.size, 3, none⟩ = some (.int .i64 y.x.e.id) := cell_of_block hk2 3
      have c4 : w2.cell? ⟨wr.heap.size, 4, none⟩ = some (.string y.x.e.table) := cell_of_block hk2 4
      have c5 : w2.cell? ⟨wr.heap.size, 5, none⟩ = some (.slice y.x.oa y.x.e.old.length y.x.oc) := cell_of_block hk2 5
      have c6 : w2.cell? ⟨wr.heap.size, 6, none⟩ = some (.slice y.x.na y.x.e.new.length y.x.nc) := cell_of_block hk2 6
      clear hk2
      have hnx := outE_next _ _ _ HIT.out
      obtain ⟨sv, hsv⟩ : ∃ sv, sv = y.save := ⟨_, rfl⟩
      have HSV : Hid (y.abs.save = sv) := (by rw [hsv]; rfl : y.abs.save = sv)
      have HNX := Lib.hid hnx
      rw [← hsv] at c0 ⊢
      clear hsv hnx
      cases sv with
      | true =>
        go_wp2_with fail
        refine region_tail 12 (by kernel_rfl) (by kernel_rfl) ?_
        simp only [List.take_succ_cons, List.take_zero, List.drop_succ_cons, List.drop_zero]
        repeat still_step
        refine wpStill_nil ?_
        go_wp2_with fail
        go_roundg q
        case measure => omega
        case rel =>
          have e1 : outE S.items q = outE S.items (q + 1) := by rw [HNX.out, if_pos HSV.out, List.append_nil]
          exact ⟨q, k, B, d, K, rfl, by omega, rfl, hk, HK, Lib.hid (PopRel.cut (HP2.out.rep.frm (T := TN) (Frm.ofBelow (below_drewN (Below.refl _ _) 1) (RR.le ⟨_, _, HP2.out.rep⟩)) (Nat.le_refl _) (fun h => h) (fun h => h) (fun h => h)) (by omega) HP2.out.out (fun x hx => (HP2.out.rd x hx).frm (T := TN) (Frm.ofBelow (below_drewN (Below.refl _ _) 1) (RR.le ⟨_, _, HP2.out.rep⟩)) (fun h => h) (Nat.le_refl _)) HP2.out.frm.drew (by rw [e1]; exact HP2.out.ents) HIT.out (by have := HCC.out; omega) HP2.out.high)⟩
      | false =>
        have hown := HP2.out.out
        rw [← HK.out] at hown
        have HOWN := Lib.hid hown
        have HN1 := Lib.hid (img_one' y.x)
        have hlw : w.heap.size ≤ w2.heap.size := HP2.out.frm.low.size
        clear hown
        go_wp2_with (at_builtin; refine step_push ER (w := w2) rfl _ _ rfl HOWN.out rfl #[.int .i64 y.x.e.kind, .int .i64 y.x.e.id, .string y.x.e.table, .slice y.x.oa y.x.e.old.length y.x.oc, .slice y.x.na y.x.e.new.length y.x.nc] rfl rfl rfl HN1.out (by omega) hlw ?_; intro A5 c5' w5 ho hg5; have HO5 := Lib.hid ho; have HG5 := Lib.hid hg5; clear ho hg5; obtain ⟨z0, z1, z2, z3, zl⟩ := two_of_block (blk_grown (blk_alloc HP2.out.rep.blk _) HG5.out (owns_ne HOWN.out HP2.out.rep.blk (by decide))))
        refine region_tail 12 (by kernel_rfl) (by kernel_rfl) ?_
        simp only [List.take_succ_cons, List.take_zero, List.drop_succ_cons, List.drop_zero]
        repeat still_step
        refine wpStill_nil ?_
        go_wp2_with fail
        go_roundg q
        case measure => omega
        case rel =>
          have e1 : outE S.items q = outE S.items (q + 1) ++ [y.x.e] := by rw [HNX.out, if_neg (by rw [HSV.out]; simp)]; rfl
          have hlb := RR.le ⟨_, _, HP2.out.rep⟩
          have hF5 : Frm (fun t => t = 40) base w2 w5 := ((Frm.refl _ base w2).alloc hlb _).trans (Frm.down (Frm.grownOwn (base := w.heap.size) (HOWN.out.alloc _) HG5.out rfl (by simp; omega)) hle)
          have hrep := HP2.out.rep.frm hF5 (Nat.le_refl _) (by decide) (by decide) (by decide)
          have hout : w5.ownsRow w.heap.size 40 5 (.slice A5 (K ++ [y.x]).length c5') (K ++ [y.x]).length (icells (K ++ [y.x])) := by
            have h5 := HO5.out
            rw [icells_append, List.length_append]
            rw [HK.out] at h5
            simpa [icells, Img.cells] using h5
          have hfr : Frm TR base w w5 := (HP2.out.frm.alloc hle _).grownNew hle HG5.out (fun k hk => (HOWN.out.lt k hk).1)
          have hrd : ∀ x ∈ K ++ [y.x], x.Rd base w5 := fun x hx => by
            rcases List.mem_append.1 hx with hx | hx
            · exact (HP2.out.rd x hx).frm hF5 (by decide) (Nat.le_refl _)
            · obtain rfl : x = y.x := by simpa using hx
              exact HX2.out.frm hF5 (by decide) (Nat.le_refl _)
          have hents : (K ++ [y.x]).map Img.e = outE S.items q := by rw [e1, List.map_append, HP2.out.ents]; rfl
          have hkl : (K ++ [y.x]).length ≤ 100000 := by
            have := congrArg List.length hents
            rw [List.length_map] at this
            rw [this]
            exact Nat.le_trans (outE_len _ _) hl
          have hfin := PopRel.cut (c := c) (m := 0) (hrep.frm (T := TN) (Frm.ofBelow (below_drewN (Below.refl _ _) 1) (RR.le ⟨_, _, hrep⟩)) (Nat.le_refl _) (fun h => h) (fun h => h) (fun h => h)) (by omega) hout (fun x hx => (hrd x hx).frm (T := TN) (Frm.ofBelow (below_drewN (Below.refl _ _) 1) (RR.le ⟨_, _, hrep⟩)) (fun h => h) (Nat.le_refl _)) hfr.drew hents HIT.out (by have := HCC.out; omega) HP2.out.high
          exact ⟨q, k + 1, A5, c5', K ++ [y.x], rfl, by omega, rfl, by rw [List.length_append] at hkl; have := HK.out; simp at hkl; omega, Lib.hid (by rw [List.length_append, HK.out]; rfl), Lib.hid hfin⟩
    · go_wp2_with fail
      refine hcall.out.mono ?_
      rintro e wr' ⟨rfl, rfl⟩
      go_wp2_with fail
      go_ret
      have hCm : cntE (S.items.take j) = 0 := by have := HP.out.low; have := HCC.out; omega
      have hk2 := HK.out
      subst hk2
      exact ⟨j, B, d, K, rfl, by rw [← HJ.out]; exact hj, hCm, HP.out.high, HP.out.ents, HP.out.out, HP.out.rd, ⟨_, _, HP.out.rep⟩, HP.out.frm⟩
end Go.Proofs.Ytkanlcfinogaeaa
