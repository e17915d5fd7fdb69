/-
  The law PageHalves, walked.
-/
import Derived.Test.YtnjdmaeoebihpaaPgAppend
import Derived.Deep.RegionHeldLaw
namespace Go.Proofs.Ytnjdmaeoebihpaa
open Go.RowKit Go.ChangeShapes Go.WideShapes Go.ChangeAt Go.Proofs.YtnjdmaeoebihpaaW.PrintWords Go.Proofs.YtnjdmaeoebihpaaW.PrintLast Go.Proofs.YtnjdmaeoebihpaaW.PrintMore
set_option linter.unusedVariables false
set_option linter.unusedSimpArgs false

theorem src_all {w : World} {ad : Addr} {l : List ByteArray} (h : Kd.C Kd.string w (some ad) l.length l) : ∀ j u, (scl l)[j]? = some u → w.cell? (ad.add j) = some u := by
  intro j u hj
  have hlt : j < l.length := by have := (List.getElem?_eq_some_iff.1 hj).1; simpa [scl] using this
  obtain ⟨ad2, e2, hc⟩ := Kd.at_string h (j : Int) (by omega) (by omega)
  injection e2 with e2
  subst e2
  rw [Int.toNat_natCast] at hc
  rw [hc, ← hj]
  simp [scl, rdOf, hlt]
theorem scl_take_at {l : List ByteArray} {r j : Nat} {u : Value} (h : (scl (l.take r))[j]? = some u) : (scl l)[j]? = some u := by
  simp only [scl, List.getElem?_map, List.getElem?_take] at h ⊢
  split at h
  · exact h
  · cases h
theorem scl_drop_at {l : List ByteArray} {r j : Nat} {u : Value} (h : (scl (l.drop r))[j]? = some u) : (scl l)[r + j]? = some u := by
  simpa only [scl, List.getElem?_map, List.getElem?_drop] using h
set_option maxRecDepth 100000 in
set_option maxHeartbeats 8000000 in
theorem pageHalves_any (leaf : Bool) (A : Option Addr) (c : Nat) (l : List ByteArray) (B : Option Addr) (d : Nat) (ks : List Int) (s : ByteArray) (w : World) (hr : RdN w A c l B d ks) (hnil : A = none → l = [] ∧ c = 0) (hs : s.size ≤ 140737488351232) :
    Calls Try.prog 4 #[.agg #[.bool leaf, .slice A l.length c, .slice B ks.length d], .string s] w fun e w' => e = .returned (.bool true) ∧ Below w.heap.size w w' := by
  have hnot := @unary_not Try.prog
  have HR := Lib.hid hr
  have HNIL := Lib.hid hnil
  clear hr hnil
  have hblk := heap_alloc_new w (NodeObj leaf A l.length c B ks.length d)
  obtain ⟨w1, hw1⟩ : ∃ w1, w1 = w.alloc (.cells #[.bool leaf, .slice A l.length c, .slice B ks.length d] 25) := ⟨_, rfl⟩
  replace hblk : w1.heap[w.heap.size]? = some (NodeObj leaf A l.length c B ks.length d) := by rw [hw1]; exact hblk
  have HB1 : Hid (Below w.heap.size w w1) := (by rw [hw1]; exact (Below.refl _ _).alloc (Nat.le_refl _) _ : Below w.heap.size w w1)
  have HBK1 := Lib.hid hblk
  clear hblk
  go_enter Try.func4, Try.ntmps4
  go_upto_region 1 with (fail)
  rw [← hw1]
  clear hw1
  go_wp2_with fail
  refine (awake_any _).mono ?_
  rintro e w2 ⟨rfl, hb2⟩
  have HB2 := Lib.hid (HB1.out.trans (hb2.mono HB1.out.size))
  have HBK2 := Lib.hid ((hb2.block _ (lt_of_block HBK1.out)).trans HBK1.out)
  clear hb2 HB1 HBK1
  obtain ⟨n0, n1, n2, f0, f1, f2, nl⟩ := three_of_block HBK2.out
  go_wp2_with fail
  refine (great_any leaf A c l B d ks _ (HR.out.below HB2.out)).mono ?_
  rintro e w3 ⟨g, rfl, hg, hb3⟩
  have HB3 := Lib.hid (HB2.out.trans (hb3.mono HB2.out.size))
  have HBK3 := Lib.hid ((hb3.block _ nl).trans HBK2.out)
  have HG := Lib.hid hg
  clear hg hb3 n0 n1 n2 f0 f1 f2 nl HB2 HBK2
  cases g with
  | true =>
    go_wp2_with fail
    go_ret
    exact ⟨rfl, HB3.out⟩
  | false =>
  have HSM := Lib.hid (HG.out rfl)
  have hl4 := HSM.out.len
  obtain ⟨n0, n1, n2, f0, f1, f2, nl⟩ := three_of_block HBK3.out
  go_wp2_with fail
  refine (right_any leaf A c l B d ks _ (HR.out.below HB3.out) HSM.out.bd).mono ?_
  rintro e w4 ⟨b, rfl, hrt, hb4⟩
  have HB4 := Lib.hid (HB3.out.trans (hb4.mono HB3.out.size))
  have HBK4 := Lib.hid ((hb4.block _ nl).trans HBK3.out)
  have HRT := Lib.hid hrt
  clear hrt hb4 n0 n1 n2 f0 f1 f2 nl HB3 HBK3
  cases b with
  | false =>
    go_wp2_with fail
    go_ret
    exact ⟨rfl, HB4.out⟩
  | true =>
  have HRG : Hid (Shp leaf l ks ∧ sizeN l ks ≤ 1024) := (of_eq_true (by simpa using HRT.out) : Shp leaf l ks ∧ sizeN l ks ≤ 1024)
  by_cases hs1 : s.size < 1
  · have hs1b : decide ((s.size : Int) < 1) = true := decide_eq_true (by omega)
    go_wp2_with fail
    go_ret
    exact ⟨rfl, HB4.out⟩
  have hs1b : decide ((s.size : Int) < 1) = false := decide_eq_false (by omega)
  by_cases hs2 : s.size > 400
  · have hs2b : decide ((s.size : Int) > 400) = true := decide_eq_true (by omega)
    have hs2c : decide ((400 : Int) < (s.size : Int)) = true := decide_eq_true (by omega)
    go_wp2_with fail
    go_ret
    exact ⟨rfl, HB4.out⟩
  have hs2b : decide ((s.size : Int) > 400) = false := decide_eq_false (by omega)
  have hs2c : decide ((400 : Int) < (s.size : Int)) = false := decide_eq_false (by omega)
  obtain ⟨n0, n1, n2, f0, f1, f2, nl⟩ := three_of_block HBK4.out
  cases leaf with
  | false =>
    go_wp2_with fail
    go_ret
    exact ⟨rfl, HB4.out⟩
  | true =>
  have HORD : Hid (Ord l) := HRG.out.1.ord
  go_wp2_with fail
  refine (find_any true A c l B d ks s _ (HR.out.below HB4.out) HORD.out (Nat.le_trans hl4 (by omega))).mono ?_
  rintro e w5 ⟨r, hat, rfl, hb5⟩
  have HAT := Lib.hid hat
  have hrl := hat.le
  have HB5 := Lib.hid (HB4.out.trans (hb5.mono HB4.out.size))
  have HBK5 := Lib.hid ((hb5.block _ nl).trans HBK4.out)
  clear hat hb5 n0 n1 n2 f0 f1 f2 nl HB4 HBK4
  obtain ⟨q, hq⟩ : ∃ q, isAt l s r = q := ⟨_, rfl⟩
  rw [hq]
  have HQ := Lib.hid hq
  clear hq
  cases q with
  | true =>
    go_wp2_with fail
    go_ret
    exact ⟨rfl, HB5.out⟩
  | false =>
  go_upto_region 8 with (fail)
  have hRW := HR.out.below HB5.out
  have HRW := Lib.hid hRW
  clear hRW
  go_cut [7] (fun v wc => ∃ A' c', v = .slice A' (putIn l r s).length c' ∧ Hid (OwnS wc w.heap.size A' c' (putIn l r s)) ∧ Hid (Below w.heap.size w wc))
  case first =>
    clear hs1b hs2b hs2c HRT HG
    obtain ⟨i0, EN⟩ := elt_N
    have HNW : Hid (w.heap.size ≤ w5.heap.size) := HB5.out.size
    have HLW : Hid (w.heap.size < w5.heap.size) := lt_of_block (w := w5) HBK5.out
    obtain ⟨n0, n1, n2, f0, f1, f2, nl⟩ := three_of_block (w := w5.drew) HBK5.out
    have hS0 := n1
    clear n0 n1 n2 f0 f1 f2 nl
    have h1t : (l.take r).length = r := by rw [List.length_take]; omega
    have h1d : (l.drop r).length = l.length - r := List.length_drop
    have HT1 : Hid ((scl (l.take r)).length = r * 1) := (by rw [scl_len, h1t] : (scl (l.take r)).length = r * 1)
    have HD1 : Hid ((scl (l.drop r)).length = (l.length - r) * 1) := (by rw [scl_len, h1d] : (scl (l.drop r)).length = (l.length - r) * 1)
    have HPL : Hid ((putIn l r s).length = r + 1 + (l.length - r)) := (by rw [putIn_len _ _ _ hrl]; omega : (putIn l r s).length = r + 1 + (l.length - r))
    have HPC : Hid (scl (putIn l r s) = scl (l.take r) ++ [.string s] ++ scl (l.drop r)) := (by simp [scl, putIn] : scl (putIn l r s) = scl (l.take r) ++ [.string s] ++ scl (l.drop r))
    clear h1t h1d
    have HN1 : Hid (∀ u ∈ [Value.string s], u.oneCell' = true) := (fun u hu => (by obtain rfl : u = .string s := (by simpa using hu); rfl) : ∀ u ∈ [Value.string s], u.oneCell' = true)
    cases A with
    | none =>
      obtain ⟨hl0, hc0⟩ := HNIL.out rfl
      subst hl0 hc0
      obtain rfl : r = 0 := by simpa using hrl
      have SRC1 : Hid (Src w5 none 0 0 (scl (List.take 0 ([] : List ByteArray)))) := .inl ⟨rfl, rfl, rfl⟩
      have SRC2 : Hid (Src w5 none 0 0 (scl (List.drop 0 ([] : List ByteArray)))) := .inl ⟨rfl, rfl, rfl⟩
      replace hS0 : w5.drew.cell? ⟨w.heap.size, 1, none⟩ = some (.slice none 0 0) := hS0
      replace HD1 : Hid ((scl (List.drop 0 ([] : List ByteArray))).length = 0 * 1) := rfl
      replace HPL : Hid ((putIn [] 0 s).length = 1) := rfl
      have HOa : Hid (World.ownsRow (w5.alloc (.cells #[] 9)).drew w5.heap.size 9 1 (.slice (some ⟨w5.heap.size, 0, none⟩) 0 0) 0 []) := rowN w5
      have HXa : Hid (Below w5.heap.size w5 (w5.alloc (.cells #[] 9)).drew) := below_drewN ((Below.refl _ _).alloc (Nat.le_refl _) _) 1
      have HXb : Hid (Below w5.heap.size w5 ((w5.alloc (.cells #[] 9)).alloc (.cells #[.string s] 9)).drew) := below_drewN (((Below.refl _ _).alloc (Nat.le_refl _) _).alloc (by rw [heap_alloc_size]; exact Nat.le_succ _) _) 1
      have HXc : Hid (Below w5.heap.size w5 ((w5.alloc (.cells #[.string s] 9)).alloc (.cells #[] 9)).drew) := below_drewN (((Below.refl _ _).alloc (Nat.le_refl _) _).alloc (by rw [heap_alloc_size]; exact Nat.le_succ _) _) 1
      have HOb : Hid (World.ownsRow ((w5.alloc (.cells #[] 9)).alloc (.cells #[.string s] 9)).drew w5.heap.size 9 1 (.slice (some ⟨w5.heap.size, 0, none⟩) 0 0) 0 []) := rowN_at (w := ((w5.alloc (.cells #[] 9)).alloc (.cells #[.string s] 9)).drew) (blk_alloc (heap_alloc_new w5 (.cells #[] 9)) (.cells #[.string s] 9)) (Nat.le_refl _)
      have HOc : Hid (World.ownsRow ((w5.alloc (.cells #[.string s] 9)).alloc (.cells #[] 9)).drew w5.heap.size 9 1 (.slice (some ⟨w5.heap.size + 1, 0, none⟩) 0 0) 0 []) := rowN_at (w := ((w5.alloc (.cells #[.string s] 9)).alloc (.cells #[] 9)).drew) (heap_alloc_at _ _ _ (by rw [heap_alloc_size])) (Nat.le_succ _)
      have HQb : Hid ((World.heap ((w5.alloc (.cells #[] 9)).alloc (.cells #[.string s] 9)).drew)[w5.heap.size + 1]? = some (.cells #[.string s] 9)) := heap_alloc_at _ _ _ (by rw [heap_alloc_size])
      have HQc : Hid ((World.heap ((w5.alloc (.cells #[.string s] 9)).alloc (.cells #[] 9)).drew)[w5.heap.size]? = some (.cells #[.string s] 9)) := blk_alloc (heap_alloc_new w5 (.cells #[.string s] 9)) (.cells #[] 9)
      have HSa := Lib.hid (SRC1.out.below HXa.out (Nat.le_refl _))
      have HSb := Lib.hid (SRC1.out.below HXb.out (Nat.le_refl _))
      have HSc := Lib.hid (SRC1.out.below HXc.out (Nat.le_refl _))
      have hXa := (World.cell?_of_block (w := w5.drew) (a := ⟨w.heap.size, 1, none⟩) (HXa.out.block _ HLW.out)).trans hS0
      have hXb := (World.cell?_of_block (w := w5.drew) (a := ⟨w.heap.size, 1, none⟩) (HXb.out.block _ HLW.out)).trans hS0
      have hXc := (World.cell?_of_block (w := w5.drew) (a := ⟨w.heap.size, 1, none⟩) (HXc.out.block _ HLW.out)).trans hS0
      have hXs := (World.cell?_of_block (w := w5.drew) (w' := (w5.alloc (.cells #[.string s] 9)).drew) (a := ⟨w.heap.size, 1, none⟩) (Below.heap_alloc _ _ _ HLW.out)).trans hS0
      go_region_held_law (fun w' => w'.cell? ⟨w.heap.size, 1, none⟩ = some (.slice none 0 0))
        (first | (with_reducible exact hS0) | (with_reducible exact hKa) | (with_reducible exact hKa2) | (with_reducible exact hKb) | (with_reducible exact hKc) | (with_reducible exact hK2) | (with_reducible exact hK3) | (with_reducible exact hXa) | (with_reducible exact hXb) | (with_reducible exact hXc) | (with_reducible exact hXs))
        (first
          | (refine reg_copy EN (w := (w5.alloc (.cells #[] 9)).drew) (o := ⟨some 48, _, _, _, _, _⟩) rfl _ _ rfl HOa.out rfl rfl HT1.out HSa.out (scl_one _) ⟨by omega, by omega⟩ HXa.out.size ?_; intro A3 c3 w3 ho hg; have hraw := Lib.hid ho; simp only [Nat.zero_add, List.nil_append] at ho; have HPa := Lib.hid ho; have HBa : Hid (Below w5.heap.size w5 w3) := HXa.out.grown hg HXa.out.size (fun k hk => (HOa.out.lt k hk).1); have HSGa : Hid ((w3.alloc (.cells #[.string s] 9)).heap[w3.heap.size]? = some (.cells #[.string s] 9)) := heap_alloc_new w3 (.cells #[.string s] 9); have HRa := Lib.hid (HPa.out.alloc (.cells #[.string s] 9)); have HBBa := Lib.hid (HBa.out.alloc HBa.out.size (.cells #[.string s] 9)); have hKa2 := (World.cell?_of_block (w := w5.drew) (a := ⟨w.heap.size, 1, none⟩) (HBBa.out.block _ HLW.out)).trans hS0; have hKa := (World.cell?_of_block (w := w5.drew) (a := ⟨w.heap.size, 1, none⟩) (HBa.out.block _ HLW.out)).trans hS0; clear ho hg)
          | (refine reg_copy EN (w := ((w5.alloc (.cells #[] 9)).alloc (.cells #[.string s] 9)).drew) (o := ⟨some 48, _, _, _, _, _⟩) rfl _ _ rfl HOb.out rfl rfl HT1.out HSb.out (scl_one _) ⟨by omega, by omega⟩ HXb.out.size ?_; intro A3 c3 w3 ho hg; have hraw := Lib.hid ho; simp only [Nat.zero_add, List.nil_append] at ho; have HPb := Lib.hid ho; have HBb : Hid (Below w5.heap.size w5 w3) := HXb.out.grown hg HXb.out.size (fun k hk => (HOb.out.lt k hk).1); have HSGb := Lib.hid (blk_grown HQb.out hg (fun e => Nat.ne_of_gt (Nat.lt_succ_self _) (Option.some.inj e))); have HRb := hraw; have HBBb := HBb; have hKb := (World.cell?_of_block (w := w5.drew) (a := ⟨w.heap.size, 1, none⟩) (HBb.out.block _ HLW.out)).trans hS0; clear ho hg)
          | (refine reg_copy EN (w := ((w5.alloc (.cells #[.string s] 9)).alloc (.cells #[] 9)).drew) (o := ⟨some 48, _, _, _, _, _⟩) rfl _ _ rfl HOc.out rfl rfl HT1.out HSc.out (scl_one _) ⟨by omega, by omega⟩ HXc.out.size ?_; intro A3 c3 w3 ho hg; have hraw := Lib.hid ho; simp only [Nat.zero_add, List.nil_append] at ho; have HPc := Lib.hid ho; have HBc : Hid (Below w5.heap.size w5 w3) := HXc.out.grown hg HXc.out.size (fun k hk => (HOc.out.lt k hk).1); have HSGc := Lib.hid (blk_grown HQc.out hg (fun e => Nat.ne_of_lt (Nat.lt_succ_self _) (Option.some.inj e))); have HRc := hraw; have HBBc := HBc; have hKc := (World.cell?_of_block (w := w5.drew) (a := ⟨w.heap.size, 1, none⟩) (HBc.out.block _ HLW.out)).trans hS0; clear ho hg)
          | (refine reg_copy EN (w := w3.alloc (.cells #[.string s] 9)) (o := ⟨some 51, _, _, _, _, _⟩) rfl _ _ rfl HRa.out rfl rfl rfl (src_one HSGa.out) HN1.out ⟨by omega, by omega⟩ HBBa.out.size ?_; intro A4 c4 w4 ho hg; have HP2 := Lib.hid ho; have HB2 : Hid (Below w5.heap.size w5 w4) := HBBa.out.grown hg HBBa.out.size (fun k hk => (HRa.out.lt k hk).1); have HS2 := Lib.hid (SRC2.out.below HB2.out (Nat.le_refl _)); have hK2 := (World.cell?_of_block (w := w5.drew) (a := ⟨w.heap.size, 1, none⟩) (HB2.out.block _ HLW.out)).trans hS0; clear ho hg)
          | (refine reg_copy EN (w := w3) (o := ⟨some 51, _, _, _, _, _⟩) rfl _ _ rfl HRb.out rfl rfl rfl (src_one HSGb.out) HN1.out ⟨by omega, by omega⟩ HBBb.out.size ?_; intro A4 c4 w4 ho hg; have HP2 := Lib.hid ho; have HB2 : Hid (Below w5.heap.size w5 w4) := HBBb.out.grown hg HBBb.out.size (fun k hk => (HRb.out.lt k hk).1); have HS2 := Lib.hid (SRC2.out.below HB2.out (Nat.le_refl _)); have hK2 := (World.cell?_of_block (w := w5.drew) (a := ⟨w.heap.size, 1, none⟩) (HB2.out.block _ HLW.out)).trans hS0; clear ho hg)
          | (refine reg_copy EN (w := w3) (o := ⟨some 51, _, _, _, _, _⟩) rfl _ _ rfl HRc.out rfl rfl rfl (src_one HSGc.out) HN1.out ⟨by omega, by omega⟩ HBBc.out.size ?_; intro A4 c4 w4 ho hg; have HP2 := Lib.hid ho; have HB2 : Hid (Below w5.heap.size w5 w4) := HBBc.out.grown hg HBBc.out.size (fun k hk => (HRc.out.lt k hk).1); have HS2 := Lib.hid (SRC2.out.below HB2.out (Nat.le_refl _)); have hK2 := (World.cell?_of_block (w := w5.drew) (a := ⟨w.heap.size, 1, none⟩) (HB2.out.block _ HLW.out)).trans hS0; clear ho hg)
          | (refine reg_copy EN (w := w4) (o := ⟨some 56, _, _, _, _, _⟩) rfl _ _ rfl HP2.out rfl rfl HD1.out HS2.out (scl_one _) ⟨by omega, by omega⟩ HB2.out.size ?_; intro A5 c5 w6 ho hg; have HP3 := Lib.hid ho; have HB3 : Hid (Below w5.heap.size w5 w6) := HB2.out.grown hg HB2.out.size (fun k hk => (HP2.out.lt k hk).1); have hK3 := (World.cell?_of_block (w := w5.drew) (a := ⟨w.heap.size, 1, none⟩) (HB3.out.block _ HLW.out)).trans hS0; clear ho hg))
      all_goals
        go_wp2_with fail
        go_meet
        refine ⟨A5, c5, by rw [HPL.out], ?_, Lib.hid (HB5.out.trans (HB3.out.mono HB5.out.size))⟩
        have h := owns_up HP3.out HNW.out
        try simp only [Nat.zero_add, List.nil_append] at h
        refine Lib.hid ?_
        rw [OwnS, HPC.out, HPL.out]
        exact h
    | some ad =>
      have hsrc := src_all HRW.out.recs
      have SRC1 : Hid (Src w5 (some ad) r c (scl (l.take r))) := .inr ⟨ad, rfl, fun j u hj => hsrc j u (scl_take_at hj)⟩
      by_cases hca : c = r
      · subst hca
        have hlc : l.length = c := Nat.le_antisymm HRW.out.rc hrl
        subst hlc
        have SRC2 : Hid (Src w5 (some ad) 0 0 (scl (l.drop l.length))) := .inr ⟨ad, rfl, fun j u hj => by rw [List.drop_length] at hj; simp [scl] at hj⟩
        replace HD1 : Hid ((scl (l.drop l.length)).length = 0 * 1) := (by rw [List.drop_length]; rfl : (scl (l.drop l.length)).length = 0 * 1)
        replace HPL : Hid ((putIn l l.length s).length = l.length + 1) := putIn_len _ _ _ (Nat.le_refl _)
        have HOa : Hid (World.ownsRow (w5.alloc (.cells #[] 9)).drew w5.heap.size 9 1 (.slice (some ⟨w5.heap.size, 0, none⟩) 0 0) 0 []) := rowN w5
        have HXa : Hid (Below w5.heap.size w5 (w5.alloc (.cells #[] 9)).drew) := below_drewN ((Below.refl _ _).alloc (Nat.le_refl _) _) 1
        have HXb : Hid (Below w5.heap.size w5 ((w5.alloc (.cells #[] 9)).alloc (.cells #[.string s] 9)).drew) := below_drewN (((Below.refl _ _).alloc (Nat.le_refl _) _).alloc (by rw [heap_alloc_size]; exact Nat.le_succ _) _) 1
        have HXc : Hid (Below w5.heap.size w5 ((w5.alloc (.cells #[.string s] 9)).alloc (.cells #[] 9)).drew) := below_drewN (((Below.refl _ _).alloc (Nat.le_refl _) _).alloc (by rw [heap_alloc_size]; exact Nat.le_succ _) _) 1
        have HOb : Hid (World.ownsRow ((w5.alloc (.cells #[] 9)).alloc (.cells #[.string s] 9)).drew w5.heap.size 9 1 (.slice (some ⟨w5.heap.size, 0, none⟩) 0 0) 0 []) := rowN_at (w := ((w5.alloc (.cells #[] 9)).alloc (.cells #[.string s] 9)).drew) (blk_alloc (heap_alloc_new w5 (.cells #[] 9)) (.cells #[.string s] 9)) (Nat.le_refl _)
        have HOc : Hid (World.ownsRow ((w5.alloc (.cells #[.string s] 9)).alloc (.cells #[] 9)).drew w5.heap.size 9 1 (.slice (some ⟨w5.heap.size + 1, 0, none⟩) 0 0) 0 []) := rowN_at (w := ((w5.alloc (.cells #[.string s] 9)).alloc (.cells #[] 9)).drew) (heap_alloc_at _ _ _ (by rw [heap_alloc_size])) (Nat.le_succ _)
        have HQb : Hid ((World.heap ((w5.alloc (.cells #[] 9)).alloc (.cells #[.string s] 9)).drew)[w5.heap.size + 1]? = some (.cells #[.string s] 9)) := heap_alloc_at _ _ _ (by rw [heap_alloc_size])
        have HQc : Hid ((World.heap ((w5.alloc (.cells #[.string s] 9)).alloc (.cells #[] 9)).drew)[w5.heap.size]? = some (.cells #[.string s] 9)) := blk_alloc (heap_alloc_new w5 (.cells #[.string s] 9)) (.cells #[] 9)
        have HSa := Lib.hid (SRC1.out.below HXa.out (Nat.le_refl _))
        have HSb := Lib.hid (SRC1.out.below HXb.out (Nat.le_refl _))
        have HSc := Lib.hid (SRC1.out.below HXc.out (Nat.le_refl _))
        have hXa := (World.cell?_of_block (w := w5.drew) (a := ⟨w.heap.size, 1, none⟩) (HXa.out.block _ HLW.out)).trans hS0
        have hXb := (World.cell?_of_block (w := w5.drew) (a := ⟨w.heap.size, 1, none⟩) (HXb.out.block _ HLW.out)).trans hS0
        have hXc := (World.cell?_of_block (w := w5.drew) (a := ⟨w.heap.size, 1, none⟩) (HXc.out.block _ HLW.out)).trans hS0
        have hXs := (World.cell?_of_block (w := w5.drew) (w' := (w5.alloc (.cells #[.string s] 9)).drew) (a := ⟨w.heap.size, 1, none⟩) (Below.heap_alloc _ _ _ HLW.out)).trans hS0
        go_region_held_law (fun w' => w'.cell? ⟨w.heap.size, 1, none⟩ = some (.slice (some ad) l.length l.length))
          (first | (with_reducible exact hS0) | (with_reducible exact hKa) | (with_reducible exact hKa2) | (with_reducible exact hKb) | (with_reducible exact hKc) | (with_reducible exact hK2) | (with_reducible exact hK3) | (with_reducible exact hXa) | (with_reducible exact hXb) | (with_reducible exact hXc) | (with_reducible exact hXs))
          (first
            | (refine reg_copy EN (w := (w5.alloc (.cells #[] 9)).drew) (o := ⟨some 48, _, _, _, _, _⟩) rfl _ _ rfl HOa.out rfl rfl HT1.out HSa.out (scl_one _) ⟨by omega, by omega⟩ HXa.out.size ?_; intro A3 c3 w3 ho hg; have hraw := Lib.hid ho; simp only [Nat.zero_add, List.nil_append] at ho; have HPa := Lib.hid ho; have HBa : Hid (Below w5.heap.size w5 w3) := HXa.out.grown hg HXa.out.size (fun k hk => (HOa.out.lt k hk).1); have HSGa : Hid ((w3.alloc (.cells #[.string s] 9)).heap[w3.heap.size]? = some (.cells #[.string s] 9)) := heap_alloc_new w3 (.cells #[.string s] 9); have HRa := Lib.hid (HPa.out.alloc (.cells #[.string s] 9)); have HBBa := Lib.hid (HBa.out.alloc HBa.out.size (.cells #[.string s] 9)); have hKa2 := (World.cell?_of_block (w := w5.drew) (a := ⟨w.heap.size, 1, none⟩) (HBBa.out.block _ HLW.out)).trans hS0; have hKa := (World.cell?_of_block (w := w5.drew) (a := ⟨w.heap.size, 1, none⟩) (HBa.out.block _ HLW.out)).trans hS0; clear ho hg)
            | (refine reg_copy EN (w := ((w5.alloc (.cells #[] 9)).alloc (.cells #[.string s] 9)).drew) (o := ⟨some 48, _, _, _, _, _⟩) rfl _ _ rfl HOb.out rfl rfl HT1.out HSb.out (scl_one _) ⟨by omega, by omega⟩ HXb.out.size ?_; intro A3 c3 w3 ho hg; have hraw := Lib.hid ho; simp only [Nat.zero_add, List.nil_append] at ho; have HPb := Lib.hid ho; have HBb : Hid (Below w5.heap.size w5 w3) := HXb.out.grown hg HXb.out.size (fun k hk => (HOb.out.lt k hk).1); have HSGb := Lib.hid (blk_grown HQb.out hg (fun e => Nat.ne_of_gt (Nat.lt_succ_self _) (Option.some.inj e))); have HRb := hraw; have HBBb := HBb; have hKb := (World.cell?_of_block (w := w5.drew) (a := ⟨w.heap.size, 1, none⟩) (HBb.out.block _ HLW.out)).trans hS0; clear ho hg)
            | (refine reg_copy EN (w := ((w5.alloc (.cells #[.string s] 9)).alloc (.cells #[] 9)).drew) (o := ⟨some 48, _, _, _, _, _⟩) rfl _ _ rfl HOc.out rfl rfl HT1.out HSc.out (scl_one _) ⟨by omega, by omega⟩ HXc.out.size ?_; intro A3 c3 w3 ho hg; have hraw := Lib.hid ho; simp only [Nat.zero_add, List.nil_append] at ho; have HPc := Lib.hid ho; have HBc : Hid (Below w5.heap.size w5 w3) := HXc.out.grown hg HXc.out.size (fun k hk => (HOc.out.lt k hk).1); have HSGc := Lib.hid (blk_grown HQc.out hg (fun e => Nat.ne_of_lt (Nat.lt_succ_self _) (Option.some.inj e))); have HRc := hraw; have HBBc := HBc; have hKc := (World.cell?_of_block (w := w5.drew) (a := ⟨w.heap.size, 1, none⟩) (HBc.out.block _ HLW.out)).trans hS0; clear ho hg)
            | (refine reg_copy EN (w := w3.alloc (.cells #[.string s] 9)) (o := ⟨some 51, _, _, _, _, _⟩) rfl _ _ rfl HRa.out rfl rfl rfl (src_one HSGa.out) HN1.out ⟨by omega, by omega⟩ HBBa.out.size ?_; intro A4 c4 w4 ho hg; have HP2 := Lib.hid ho; have HB2 : Hid (Below w5.heap.size w5 w4) := HBBa.out.grown hg HBBa.out.size (fun k hk => (HRa.out.lt k hk).1); have HS2 := Lib.hid (SRC2.out.below HB2.out (Nat.le_refl _)); have hK2 := (World.cell?_of_block (w := w5.drew) (a := ⟨w.heap.size, 1, none⟩) (HB2.out.block _ HLW.out)).trans hS0; clear ho hg)
            | (refine reg_copy EN (w := w3) (o := ⟨some 51, _, _, _, _, _⟩) rfl _ _ rfl HRb.out rfl rfl rfl (src_one HSGb.out) HN1.out ⟨by omega, by omega⟩ HBBb.out.size ?_; intro A4 c4 w4 ho hg; have HP2 := Lib.hid ho; have HB2 : Hid (Below w5.heap.size w5 w4) := HBBb.out.grown hg HBBb.out.size (fun k hk => (HRb.out.lt k hk).1); have HS2 := Lib.hid (SRC2.out.below HB2.out (Nat.le_refl _)); have hK2 := (World.cell?_of_block (w := w5.drew) (a := ⟨w.heap.size, 1, none⟩) (HB2.out.block _ HLW.out)).trans hS0; clear ho hg)
            | (refine reg_copy EN (w := w3) (o := ⟨some 51, _, _, _, _, _⟩) rfl _ _ rfl HRc.out rfl rfl rfl (src_one HSGc.out) HN1.out ⟨by omega, by omega⟩ HBBc.out.size ?_; intro A4 c4 w4 ho hg; have HP2 := Lib.hid ho; have HB2 : Hid (Below w5.heap.size w5 w4) := HBBc.out.grown hg HBBc.out.size (fun k hk => (HRc.out.lt k hk).1); have HS2 := Lib.hid (SRC2.out.below HB2.out (Nat.le_refl _)); have hK2 := (World.cell?_of_block (w := w5.drew) (a := ⟨w.heap.size, 1, none⟩) (HB2.out.block _ HLW.out)).trans hS0; clear ho hg)
            | (refine reg_copy EN (w := w4) (o := ⟨some 56, _, _, _, _, _⟩) rfl _ _ rfl HP2.out rfl rfl HD1.out HS2.out (scl_one _) ⟨by omega, by omega⟩ HB2.out.size ?_; intro A5 c5 w6 ho hg; have HP3 := Lib.hid ho; have HB3 : Hid (Below w5.heap.size w5 w6) := HB2.out.grown hg HB2.out.size (fun k hk => (HP2.out.lt k hk).1); have hK3 := (World.cell?_of_block (w := w5.drew) (a := ⟨w.heap.size, 1, none⟩) (HB3.out.block _ HLW.out)).trans hS0; clear ho hg))
        all_goals
          go_wp2_with fail
          go_meet
          refine ⟨A5, c5, by rw [HPL.out], ?_, Lib.hid (HB5.out.trans (HB3.out.mono HB5.out.size))⟩
          have h := owns_up HP3.out HNW.out
          try simp only [Nat.zero_add, List.nil_append] at h
          refine Lib.hid ?_
          rw [OwnS, HPC.out, HPL.out]
          exact h
      · have SRC2 : Hid (Src w5 (some (ad.add r)) (l.length - r) (c - r) (scl (l.drop r))) := .inr ⟨ad.add r, rfl, fun j u hj => by rw [Addr.add_add]; exact hsrc _ u (scl_drop_at hj)⟩
        have hca2 : c ≠ r := hca
        have hrc := HRW.out.rc
        have hz1 : (r : Int) ≤ (l.length : Int) := by omega
        have hz2 : (r : Int) ≤ (c : Int) := by omega
        have HOa : Hid (World.ownsRow (w5.alloc (.cells #[] 9)).drew w5.heap.size 9 1 (.slice (some ⟨w5.heap.size, 0, none⟩) 0 0) 0 []) := rowN w5
        have HXa : Hid (Below w5.heap.size w5 (w5.alloc (.cells #[] 9)).drew) := below_drewN ((Below.refl _ _).alloc (Nat.le_refl _) _) 1
        have HXb : Hid (Below w5.heap.size w5 ((w5.alloc (.cells #[] 9)).alloc (.cells #[.string s] 9)).drew) := below_drewN (((Below.refl _ _).alloc (Nat.le_refl _) _).alloc (by rw [heap_alloc_size]; exact Nat.le_succ _) _) 1
        have HXc : Hid (Below w5.heap.size w5 ((w5.alloc (.cells #[.string s] 9)).alloc (.cells #[] 9)).drew) := below_drewN (((Below.refl _ _).alloc (Nat.le_refl _) _).alloc (by rw [heap_alloc_size]; exact Nat.le_succ _) _) 1
        have HOb : Hid (World.ownsRow ((w5.alloc (.cells #[] 9)).alloc (.cells #[.string s] 9)).drew w5.heap.size 9 1 (.slice (some ⟨w5.heap.size, 0, none⟩) 0 0) 0 []) := rowN_at (w := ((w5.alloc (.cells #[] 9)).alloc (.cells #[.string s] 9)).drew) (blk_alloc (heap_alloc_new w5 (.cells #[] 9)) (.cells #[.string s] 9)) (Nat.le_refl _)
        have HOc : Hid (World.ownsRow ((w5.alloc (.cells #[.string s] 9)).alloc (.cells #[] 9)).drew w5.heap.size 9 1 (.slice (some ⟨w5.heap.size + 1, 0, none⟩) 0 0) 0 []) := rowN_at (w := ((w5.alloc (.cells #[.string s] 9)).alloc (.cells #[] 9)).drew) (heap_alloc_at _ _ _ (by rw [heap_alloc_size])) (Nat.le_succ _)
        have HQb : Hid ((World.heap ((w5.alloc (.cells #[] 9)).alloc (.cells #[.string s] 9)).drew)[w5.heap.size + 1]? = some (.cells #[.string s] 9)) := heap_alloc_at _ _ _ (by rw [heap_alloc_size])
        have HQc : Hid ((World.heap ((w5.alloc (.cells #[.string s] 9)).alloc (.cells #[] 9)).drew)[w5.heap.size]? = some (.cells #[.string s] 9)) := blk_alloc (heap_alloc_new w5 (.cells #[.string s] 9)) (.cells #[] 9)
        have HSa := Lib.hid (SRC1.out.below HXa.out (Nat.le_refl _))
        have HSb := Lib.hid (SRC1.out.below HXb.out (Nat.le_refl _))
        have HSc := Lib.hid (SRC1.out.below HXc.out (Nat.le_refl _))
        have hXa := (World.cell?_of_block (w := w5.drew) (a := ⟨w.heap.size, 1, none⟩) (HXa.out.block _ HLW.out)).trans hS0
        have hXb := (World.cell?_of_block (w := w5.drew) (a := ⟨w.heap.size, 1, none⟩) (HXb.out.block _ HLW.out)).trans hS0
        have hXc := (World.cell?_of_block (w := w5.drew) (a := ⟨w.heap.size, 1, none⟩) (HXc.out.block _ HLW.out)).trans hS0
        have hXs := (World.cell?_of_block (w := w5.drew) (w' := (w5.alloc (.cells #[.string s] 9)).drew) (a := ⟨w.heap.size, 1, none⟩) (Below.heap_alloc _ _ _ HLW.out)).trans hS0
        go_region_held_law (fun w' => w'.cell? ⟨w.heap.size, 1, none⟩ = some (.slice (some ad) l.length c))
          (first | (with_reducible exact hS0) | (with_reducible exact hKa) | (with_reducible exact hKa2) | (with_reducible exact hKb) | (with_reducible exact hKc) | (with_reducible exact hK2) | (with_reducible exact hK3) | (with_reducible exact hXa) | (with_reducible exact hXb) | (with_reducible exact hXc) | (with_reducible exact hXs))
          (first
            | (refine reg_copy EN (w := (w5.alloc (.cells #[] 9)).drew) (o := ⟨some 48, _, _, _, _, _⟩) rfl _ _ rfl HOa.out rfl rfl HT1.out HSa.out (scl_one _) ⟨by omega, by omega⟩ HXa.out.size ?_; intro A3 c3 w3 ho hg; have hraw := Lib.hid ho; simp only [Nat.zero_add, List.nil_append] at ho; have HPa := Lib.hid ho; have HBa : Hid (Below w5.heap.size w5 w3) := HXa.out.grown hg HXa.out.size (fun k hk => (HOa.out.lt k hk).1); have HSGa : Hid ((w3.alloc (.cells #[.string s] 9)).heap[w3.heap.size]? = some (.cells #[.string s] 9)) := heap_alloc_new w3 (.cells #[.string s] 9); have HRa := Lib.hid (HPa.out.alloc (.cells #[.string s] 9)); have HBBa := Lib.hid (HBa.out.alloc HBa.out.size (.cells #[.string s] 9)); have hKa2 := (World.cell?_of_block (w := w5.drew) (a := ⟨w.heap.size, 1, none⟩) (HBBa.out.block _ HLW.out)).trans hS0; have hKa := (World.cell?_of_block (w := w5.drew) (a := ⟨w.heap.size, 1, none⟩) (HBa.out.block _ HLW.out)).trans hS0; clear ho hg)
            | (refine reg_copy EN (w := ((w5.alloc (.cells #[] 9)).alloc (.cells #[.string s] 9)).drew) (o := ⟨some 48, _, _, _, _, _⟩) rfl _ _ rfl HOb.out rfl rfl HT1.out HSb.out (scl_one _) ⟨by omega, by omega⟩ HXb.out.size ?_; intro A3 c3 w3 ho hg; have hraw := Lib.hid ho; simp only [Nat.zero_add, List.nil_append] at ho; have HPb := Lib.hid ho; have HBb : Hid (Below w5.heap.size w5 w3) := HXb.out.grown hg HXb.out.size (fun k hk => (HOb.out.lt k hk).1); have HSGb := Lib.hid (blk_grown HQb.out hg (fun e => Nat.ne_of_gt (Nat.lt_succ_self _) (Option.some.inj e))); have HRb := hraw; have HBBb := HBb; have hKb := (World.cell?_of_block (w := w5.drew) (a := ⟨w.heap.size, 1, none⟩) (HBb.out.block _ HLW.out)).trans hS0; clear ho hg)
            | (refine reg_copy EN (w := ((w5.alloc (.cells #[.string s] 9)).alloc (.cells #[] 9)).drew) (o := ⟨some 48, _, _, _, _, _⟩) rfl _ _ rfl HOc.out rfl rfl HT1.out HSc.out (scl_one _) ⟨by omega, by omega⟩ HXc.out.size ?_; intro A3 c3 w3 ho hg; have hraw := Lib.hid ho; simp only [Nat.zero_add, List.nil_append] at ho; have HPc := Lib.hid ho; have HBc : Hid (Below w5.heap.size w5 w3) := HXc.out.grown hg HXc.out.size (fun k hk => (HOc.out.lt k hk).1); have HSGc := Lib.hid (blk_grown HQc.out hg (fun e => Nat.ne_of_lt (Nat.lt_succ_self _) (Option.some.inj e))); have HRc := hraw; have HBBc := HBc; have hKc := (World.cell?_of_block (w := w5.drew) (a := ⟨w.heap.size, 1, none⟩) (HBc.out.block _ HLW.out)).trans hS0; clear ho hg)
            | (refine reg_copy EN (w := w3.alloc (.cells #[.string s] 9)) (o := ⟨some 51, _, _, _, _, _⟩) rfl _ _ rfl HRa.out rfl rfl rfl (src_one HSGa.out) HN1.out ⟨by omega, by omega⟩ HBBa.out.size ?_; intro A4 c4 w4 ho hg; have HP2 := Lib.hid ho; have HB2 : Hid (Below w5.heap.size w5 w4) := HBBa.out.grown hg HBBa.out.size (fun k hk => (HRa.out.lt k hk).1); have HS2 := Lib.hid (SRC2.out.below HB2.out (Nat.le_refl _)); have hK2 := (World.cell?_of_block (w := w5.drew) (a := ⟨w.heap.size, 1, none⟩) (HB2.out.block _ HLW.out)).trans hS0; clear ho hg)
            | (refine reg_copy EN (w := w3) (o := ⟨some 51, _, _, _, _, _⟩) rfl _ _ rfl HRb.out rfl rfl rfl (src_one HSGb.out) HN1.out ⟨by omega, by omega⟩ HBBb.out.size ?_; intro A4 c4 w4 ho hg; have HP2 := Lib.hid ho; have HB2 : Hid (Below w5.heap.size w5 w4) := HBBb.out.grown hg HBBb.out.size (fun k hk => (HRb.out.lt k hk).1); have HS2 := Lib.hid (SRC2.out.below HB2.out (Nat.le_refl _)); have hK2 := (World.cell?_of_block (w := w5.drew) (a := ⟨w.heap.size, 1, none⟩) (HB2.out.block _ HLW.out)).trans hS0; clear ho hg)
            | (refine reg_copy EN (w := w3) (o := ⟨some 51, _, _, _, _, _⟩) rfl _ _ rfl HRc.out rfl rfl rfl (src_one HSGc.out) HN1.out ⟨by omega, by omega⟩ HBBc.out.size ?_; intro A4 c4 w4 ho hg; have HP2 := Lib.hid ho; have HB2 : Hid (Below w5.heap.size w5 w4) := HBBc.out.grown hg HBBc.out.size (fun k hk => (HRc.out.lt k hk).1); have HS2 := Lib.hid (SRC2.out.below HB2.out (Nat.le_refl _)); have hK2 := (World.cell?_of_block (w := w5.drew) (a := ⟨w.heap.size, 1, none⟩) (HB2.out.block _ HLW.out)).trans hS0; clear ho hg)
            | (refine reg_copy EN (w := w4) (o := ⟨some 56, _, _, _, _, _⟩) rfl _ _ rfl HP2.out rfl rfl HD1.out HS2.out (scl_one _) ⟨by omega, by omega⟩ HB2.out.size ?_; intro A5 c5 w6 ho hg; have HP3 := Lib.hid ho; have HB3 : Hid (Below w5.heap.size w5 w6) := HB2.out.grown hg HB2.out.size (fun k hk => (HP2.out.lt k hk).1); have hK3 := (World.cell?_of_block (w := w5.drew) (a := ⟨w.heap.size, 1, none⟩) (HB3.out.block _ HLW.out)).trans hS0; clear ho hg))
        all_goals
          go_wp2_with fail
          go_meet
          refine ⟨A5, c5, by rw [HPL.out], ?_, Lib.hid (HB5.out.trans (HB3.out.mono HB5.out.size))⟩
          have h := owns_up HP3.out HNW.out
          try simp only [Nat.zero_add, List.nil_append] at h
          refine Lib.hid ?_
          rw [OwnS, HPC.out, HPL.out]
          exact h
  case rest =>
    obtain ⟨A', c', rfl, HOW, HBW⟩ := hcut
    clear HRW HBK5 HB5
    have hsz9 : sizeN l ks ≤ 1024 := HRG.out.2
    unfold sizeN at hsz9
    have hLw := putIn_weigh l r s
    have hSHP := putIn_shp HRG.out.1 (by omega) (by omega) HAT.out HQ.out
    have hLl := putIn_len l r s hrl
    obtain ⟨L, hL⟩ : ∃ L, L = putIn l r s := ⟨_, rfl⟩
    rw [← hL] at HOW hLw hSHP hLl ⊢
    have hbd : Bd L [] := ⟨by omega, by simp, fun x hx => by
      obtain ⟨j, hj, rfl⟩ := rec_mem L x hx
      exact Nat.le_trans (hSHP.recs j hj).hi (by omega)⟩
    have hhv : 1021 < weighN L → _ := fun h => halves L (fun j hj => (hSHP.recs j hj).hi) h (by omega)
    have HBD := Lib.hid hbd
    have HSHP := Lib.hid hSHP
    have HHV := Lib.hid hhv
    have HLW := Lib.hid hLw
    have hL4 : L.length ≤ 401 := by omega
    clear hL hbd hSHP hhv hLw hsz9 hLl HQ HAT HORD HRG hrl hl4
    have hmb := heap_alloc_new wc (.cells #[.bool true, .slice A' L.length c', .slice none 0 0] 25)
    have hmB : Below w.heap.size w (wc.alloc (.cells #[.bool true, .slice A' L.length c', .slice none 0 0] 25)) := HBW.out.alloc HBW.out.size _
    have hmr : RdN (wc.alloc (.cells #[.bool true, .slice A' L.length c', .slice none 0 0] 25)) A' c' L none 0 [] := (RdN.mk HOW.out.reads.1 (Kd.C_nil _ _) HOW.out.reads.2 (Nat.le_refl _)).below ((Below.refl _ _).alloc (Nat.le_refl _) _)
    go_upto_region 10 with (fail)
    obtain ⟨w7, hw7⟩ : ∃ w7, w7 = wc.alloc (.cells #[.bool true, .slice A' L.length c', .slice none 0 0] 25) := ⟨_, rfl⟩
    rw [← hw7] at hmb hmB hmr ⊢
    clear hw7
    have HMB := Lib.hid hmb
    have HMR := Lib.hid hmr
    have HB7 := Lib.hid hmB
    obtain ⟨m0, m1, m2, mf0, mf1, mf2, ml⟩ := three_of_block hmb
    clear hmb hmr hmB
    go_wp2_with fail
    refine (size_any true A' c' L none 0 [] _ HMR.out HBD.out).mono ?_
    rintro e w8 ⟨rfl, hb8⟩
    have HB8 := Lib.hid (HB7.out.trans (hb8.mono HB7.out.size))
    have HMB8 := Lib.hid ((hb8.block _ ml).trans HMB.out)
    have HMR8 := Lib.hid (HMR.out.below hb8)
    clear hb8 m0 m1 m2 mf0 mf1 mf2 ml HB7 HMB HMR
    obtain ⟨m0, m1, m2, mf0, mf1, mf2, ml⟩ := three_of_block HMB8.out
    by_cases hfit : sizeN L [] ≤ 1024
    · have hfb : decide ((sizeN L [] : Int) ≤ 1024) = true := decide_eq_true (by omega)
      go_wp2_with fail
      refine (right_any true A' c' L none 0 [] _ HMR8.out HBD.out).mono ?_
      rintro e w9 ⟨b, rfl, hrt, hb9⟩
      obtain rfl : b = true := hrt.2 ⟨HSHP.out, hfit⟩
      have HB9 := Lib.hid (HB8.out.trans (hb9.mono HB8.out.size))
      clear hb9 hrt m0 m1 m2 mf0 mf1 mf2 ml
      go_wp2_with fail
      go_ret
      exact ⟨rfl, HB9.out⟩
    · have hfb : decide ((sizeN L [] : Int) ≤ 1024) = false := decide_eq_false (by omega)
      have hwg : 1021 < weighN L := by unfold sizeN at hfit; simp at hfit; omega
      obtain ⟨h2, hw1, hw2⟩ := HHV.out hwg
      have HW1 := Lib.hid hw1
      have HW2 := Lib.hid hw2
      go_wp2_with fail
      refine (split_any true A' c' L none 0 [] _ HMR8.out HBD.out h2).mono ?_
      rintro e w9 ⟨A1, c1, B1, d1, A2, c2, B2, d2, rfl, hm1, hm2, hb9⟩
      have hKp : 0 < cutK true L := cutTo_pos _ _ (by show 1 < L.length - 0; omega)
      have hKl : cutK true L < L.length := cutTo_lt _ _ (by show 0 < L.length - 0; omega)
      have hkk : ∀ a b, kidsOf true [] a b = [] := fun _ _ => rfl
      have hsk : cutK true L + skOf true = cutK true L := rfl
      rw [hsk] at hm2 ⊢
      rw [hkk] at hm1 hm2 ⊢
      rw [hkk]
      obtain ⟨K, hK⟩ : ∃ K, cutK true L = K := ⟨_, rfl⟩
      rw [hK] at hm1 hm2 HW1 HW2 hKp hKl ⊢
      have hr1 : RdN w9 A1 c1 (sub L 0 K) B1 d1 [] := ⟨hm1.recs.reads.1, hm1.kids.reads.1, hm1.recs.reads.2, hm1.kids.reads.2⟩
      have hr2 : RdN w9 A2 c2 (sub L K L.length) B2 d2 [] := ⟨hm2.recs.reads.1, hm2.kids.reads.1, hm2.recs.reads.2, hm2.kids.reads.2⟩
      have s1 : Shp true (sub L 0 K) [] ∧ sizeN (sub L 0 K) [] ≤ 1024 := ⟨HSHP.out.sub 0 K (by omega), by have := HW1.out; unfold sizeN sub; simp; omega⟩
      have s2 : Shp true (sub L K L.length) [] ∧ sizeN (sub L K L.length) [] ≤ 1024 := ⟨HSHP.out.sub K L.length (Nat.le_refl _), by
        have := HW2.out
        have e : (L.drop K).take (L.length - K) = L.drop K := List.take_of_length_le (by rw [List.length_drop]; omega)
        unfold sizeN sub
        rw [e]
        simp
        omega⟩
      have hl1 : (sub L 0 K).length = K := by rw [sub_len _ _ _ (by omega)]; omega
      have hl2 : (sub L K L.length).length = L.length - K := sub_len _ _ _ (Nat.le_refl _)
      have hd1 : Bd (sub L 0 K) [] := ⟨by omega, by simp, fun x hx => by
        obtain ⟨j, hj, rfl⟩ := rec_mem _ x hx
        exact Nat.le_trans (s1.1.recs j hj).hi (by omega)⟩
      have hd2 : Bd (sub L K L.length) [] := ⟨by omega, by simp, fun x hx => by
        obtain ⟨j, hj, rfl⟩ := rec_mem _ x hx
        exact Nat.le_trans (s2.1.recs j hj).hi (by omega)⟩
      have hx0 : rec (sub L K L.length) 0 = rec L K := by rw [rec_sub _ _ _ _ (Nat.le_refl _) (by omega), Nat.add_zero]
      obtain ⟨ad2, hA2, hcell⟩ := Kd.at_string hr2.recs 0 (by omega) (by omega)
      rw [show ((0 : Int)) = ((0 : Nat) : Int) from rfl, rdOf_rec, hx0] at hcell
      obtain ⟨x, hx⟩ : ∃ x, rec L K = x := ⟨_, rfl⟩
      rw [hx] at hcell ⊢
      subst hA2
      obtain ⟨N1, hN1⟩ : ∃ N1, sub L 0 K = N1 := ⟨_, rfl⟩
      obtain ⟨N2, hN2⟩ : ∃ N2, sub L K L.length = N2 := ⟨_, rfl⟩
      rw [hN1] at hr1 s1 hl1 hd1 ⊢
      rw [hN2] at hr2 s2 hl2 hd2 ⊢
      have HR1 := Lib.hid hr1
      have HR2 := Lib.hid hr2
      have HS1 := Lib.hid s1
      have HS2 := Lib.hid s2
      have HD1 := Lib.hid hd1
      have HD2 := Lib.hid hd2
      have HC := Lib.hid hcell
      have HB9 := Lib.hid (HB8.out.trans (hb9.mono HB8.out.size))
      have hp1 : 0 < N1.length := by omega
      have hp2 : 0 < N2.length := by omega
      clear hm1 hm2 hkk hsk hK hr1 hr2 s1 s2 hl1 hl2 hd1 hd2 hx0 hx hN1 hN2 hcell hb9 m0 m1 m2 mf0 mf1 mf2 ml hw1 hw2 hwg hfit hfb
      have hq1 : ((w9.alloc (.cells #[.bool true, .slice A1 N1.length c1, .slice B1 0 d1] 25)).alloc (.cells #[.bool true, .slice (some ad2) N2.length c2, .slice B2 0 d2] 25)).heap[w9.heap.size]? = some (.cells #[.bool true, .slice A1 N1.length c1, .slice B1 0 d1] 25) := blk_alloc (heap_alloc_new _ _) _
      have hq2 : ((w9.alloc (.cells #[.bool true, .slice A1 N1.length c1, .slice B1 0 d1] 25)).alloc (.cells #[.bool true, .slice (some ad2) N2.length c2, .slice B2 0 d2] 25)).heap[w9.heap.size + 1]? = some (.cells #[.bool true, .slice (some ad2) N2.length c2, .slice B2 0 d2] 25) := heap_alloc_at _ _ _ (by rw [heap_alloc_size])
      have hq3 : Below w9.heap.size w9 ((w9.alloc (.cells #[.bool true, .slice A1 N1.length c1, .slice B1 0 d1] 25)).alloc (.cells #[.bool true, .slice (some ad2) N2.length c2, .slice B2 0 d2] 25)) := ((Below.refl _ _).alloc (Nat.le_refl _) _).alloc (by rw [heap_alloc_size]; exact Nat.le_succ _) _
      go_upto_region 13 with (fail)
      obtain ⟨wg, hwg⟩ : ∃ wg, wg = ((w9.alloc (.cells #[.bool true, .slice A1 N1.length c1, .slice B1 0 d1] 25)).alloc (.cells #[.bool true, .slice (some ad2) N2.length c2, .slice B2 0 d2] 25)) := ⟨_, rfl⟩
      rw [← hwg] at hq1 hq2 hq3 ⊢
      clear hwg
      have HQ1 := Lib.hid hq1
      have HQ2 := Lib.hid hq2
      have HQ3 := Lib.hid hq3
      have HBg := Lib.hid (HB9.out.trans (hq3.mono HB9.out.size))
      obtain ⟨p0, p1, p2, pf0, pf1, pf2, pl⟩ := three_of_block hq1
      clear hq1 hq2 hq3
      go_wp2_with fail
      refine (right_any true A1 c1 N1 B1 d1 [] _ (HR1.out.below HQ3.out) HD1.out).mono ?_
      rintro e wh ⟨b, rfl, hrt, hbh⟩
      obtain rfl : b = true := hrt.2 HS1.out
      have HQ1h := Lib.hid ((hbh.block _ pl).trans HQ1.out)
      have HQ2h := Lib.hid ((hbh.block _ (lt_of_block HQ2.out)).trans HQ2.out)
      have HQ3h := Lib.hid (HQ3.out.trans (hbh.mono HQ3.out.size))
      have HBh := Lib.hid (HBg.out.trans (hbh.mono HBg.out.size))
      clear hrt hbh p0 p1 p2 pf0 pf1 pf2 pl HQ1 HQ2 HQ3 HBg
      obtain ⟨p0, p1, p2, pf0, pf1, pf2, pl⟩ := three_of_block HQ2h.out
      go_wp2_with fail
      refine (right_any true (some ad2) c2 N2 B2 d2 [] _ (HR2.out.below HQ3h.out) HD2.out).mono ?_
      rintro e wi ⟨b, rfl, hrt, hbi⟩
      obtain rfl : b = true := hrt.2 HS2.out
      have HQ1i := Lib.hid ((hbi.block _ (lt_of_block HQ1h.out)).trans HQ1h.out)
      have HQ2i := Lib.hid ((hbi.block _ pl).trans HQ2h.out)
      have HQ3i := Lib.hid (HQ3h.out.trans (hbi.mono HQ3h.out.size))
      have HBi := Lib.hid (HBh.out.trans (hbi.mono HBh.out.size))
      clear hrt hbi p0 p1 p2 pf0 pf1 pf2 pl HQ1h HQ2h HQ3h HBh
      obtain ⟨p0, p1, p2, pf0, pf1, pf2, pl⟩ := three_of_block HQ1i.out
      obtain ⟨q0, q1, q2, qf0, qf1, qf2, ql⟩ := three_of_block HQ2i.out
      have hcx : wi.cell? (ad2.add 0) = some (.string x) := (World.cell?_of_block (w := w9) (a := ad2.add 0) (HQ3i.out.block _ (World.block_lt_of_cell? w9 _ HC.out))).trans HC.out
      have hcx0 : wi.cell? ad2 = some (.string x) := by rw [Addr.add_zero'] at hcx; exact hcx
      have hp1b : decide ((N1.length : Int) > 0) = true := decide_eq_true (by omega)
      have hp1c : decide ((0 : Int) < (N1.length : Int)) = true := decide_eq_true (by omega)
      have hp2b : decide ((N2.length : Int) > 0) = true := decide_eq_true (by omega)
      have hp2c : decide ((0 : Int) < (N2.length : Int)) = true := decide_eq_true (by omega)
      have hp2d : (0 : Int) < (N2.length : Int) := by omega
      go_wp2_with fail
      go_ret
      exact ⟨by simp, HBi.out⟩
theorem pageHalves_walk {H : Type} {enc : TypeId × Value → H} {sp0 : Nat → Bool} {hd0 : Bool} {d0 : DataW H} {p0 : List MemPlace} {b0 : Nat} (v0 : Value) (s : ByteArray) (w : World)
    (hv0 : Value.okWide Try.prog w .any b0 25 v0) (h0 : DataW.Trod enc Try.prog w 0 sp0 hd0 25 v0 d0 p0) (hs : s.size ≤ 140737488351232) :
    Calls Try.prog 4 #[v0, .string s] w fun e w' => e = .returned (.bool true) ∧ Below w.heap.size w w' := by
  obtain ⟨leaf, A, c, l, B, d, ks, rfl, hr, -, hnil, -⟩ := open_node hv0 h0
  exact pageHalves_any leaf A c l B d ks s w hr hnil hs
end Go.Proofs.Ytnjdmaeoebihpaa
