/-
  Decode, walked.
-/
import Derived.Test.YtnjdmaeoebihpaaPgRead
namespace Go.Proofs.Ytnjdmaeoebihpaa
open Go.RowKit Go.Proofs.YtnjdmaeoebihpaaW.PrintWords Go.Proofs.YtnjdmaeoebihpaaW.PrintLast Go.Proofs.YtnjdmaeoebihpaaW.PrintMore
set_option linter.unusedVariables false
set_option linter.unusedSimpArgs false

theorem one_block {w : World} {B : Nat} {x : Value} {t : TypeId} (h : w.heap[B]? = some (.cells #[x] t)) : w.cell? ⟨B, 0, none⟩ = some x ∧ w.frozen? ⟨B, 0, none⟩ = false ∧ B < w.heap.size := ⟨cell_of_block h 0, free_of_block h 0, lt_of_block h⟩
def lfOf (bs : List UInt8) : Bool := isLeaf bs
def lsOf (bs : List UInt8) : List ByteArray := recsR bs (cnt bs)
def ksOf (bs : List UInt8) : List Int := kidsR bs (kidN bs)
/-- What the closure leaves, where the bytes are a node's. -/
structure Dec1 (bs : List UInt8) (V : Nat) (W w1 : World) : Prop where
  chg : Chg (fun k => k = V) W w1
  ex : ∃ A c B d, w1.heap[V]? = some (.cells #[.bool (lfOf bs), .slice A (lsOf bs).length c, .slice B (ksOf bs).length d] 25) ∧ OwnS w1 W.heap.size A c (lsOf bs) ∧ OwnI w1 W.heap.size B d (ksOf bs)
set_option maxRecDepth 100000 in
theorem dec1_ok (bb cap : Nat) (bs : List UInt8) (P V : Nat) (W : World) (hbb : ∃ fr, W.heap[bb]? = some (.cells (bc bs).toArray 5 fr)) (hlen : bs.length = 1024) (hcap : 1024 ≤ cap) (hP : W.heap[P]? = some (.cells #[.slice (some ⟨bb, 0, none⟩) 1024 cap] 39)) (hV : W.heap[V]? = some (.cells #[.bool false, .slice none 0 0, .slice none 0 0] 25)) (hf : Fits bs) :
    Calls Try.prog 35 #[.pointer (some ⟨P, 0, none⟩), .pointer (some ⟨V, 0, none⟩)] W fun e w1 => e = .returned (.tuple #[]) ∧ Dec1 bs V W w1 := by
  obtain ⟨p0, pf0, pl⟩ := one_block hP
  have HV := Lib.hid hV
  have HF := Lib.hid hf
  have HBB := Lib.hid hbb
  clear hP hV hf hbb
  go_enter Try.func35, Try.ntmps35
  go_wp2_with fail
  refine (read_any bb cap bs _ HBB.out hlen hcap).mono ?_
  intro e y h
  rcases h with ⟨-, A, c, B, d, rfl, hos, hoi, hb⟩ | ⟨hn, -⟩
  · have HOS := Lib.hid hos
    have HOI := Lib.hid hoi
    have HB := Lib.hid hb
    have hVy := (hb.block V (lt_of_block HV.out)).trans HV.out
    have HVY := Lib.hid hVy
    obtain ⟨v0, v1, v2, vf0, vf1, vf2, vl⟩ := three_of_block hVy
    clear hos hoi hb hVy
    go_wp2_with fail
    go_end0
    have hF := s3_frm HVY.out (Nat.zero_le V) (.bool (isLeaf bs)) (.slice A (recsR bs (cnt bs)).length c) (.slice B (kidsR bs (kidN bs)).length d)
    refine ⟨rfl, ?_, A, c, B, d, s3_self HVY.out _ _ _, hF.owns HOS.out (by decide), hF.owns HOI.out (by decide)⟩
    exact (((show But V W y from Chg.ofBelow HB.out (fun i h1 h2 => by omega)).setCell 0 _).setCell 1 _).setCell 2 _
  · exact absurd HF.out hn
set_option maxRecDepth 100000 in
theorem dec1_no (bb cap : Nat) (bs : List UInt8) (P V : Nat) (W : World) (hbb : ∃ fr, W.heap[bb]? = some (.cells (bc bs).toArray 5 fr)) (hlen : bs.length = 1024) (hcap : 1024 ≤ cap) (hP : W.heap[P]? = some (.cells #[.slice (some ⟨bb, 0, none⟩) 1024 cap] 39)) (hf : ¬ Fits bs) :
    Calls Try.prog 35 #[.pointer (some ⟨P, 0, none⟩), .pointer (some ⟨V, 0, none⟩)] W fun e w1 => e = .panicked (thrown 16 0) ∧ Below W.heap.size W w1 := by
  obtain ⟨p0, pf0, pl⟩ := one_block hP
  have HF := Lib.hid hf
  have HBB := Lib.hid hbb
  clear hP hf hbb
  go_enter Try.func35, Try.ntmps35
  go_wp2_with fail
  refine (read_any bb cap bs _ HBB.out hlen hcap).mono ?_
  intro e y h
  rcases h with ⟨hy, -⟩ | ⟨-, rfl, hb⟩
  · exact absurd hy HF.out
  · have HB := Lib.hid hb
    clear hb
    go_wp2_with fail
    exact ⟨rfl, rfl, HB.out⟩
structure Good (bs : List UInt8) : Prop where
  fits : Fits bs
  shp : Shp (lfOf bs) (lsOf bs) (ksOf bs)
  size : sizeN (lsOf bs) (ksOf bs) ≤ 1024
  page : pageB (lfOf bs) (lsOf bs) (ksOf bs) = bs
def DecIs (bs : List UInt8) (w : World) (e : Ending) (w' : World) : Prop :=
  (Good bs ∧ ∃ A c B d, e = .returned (.tuple #[.agg #[.bool (lfOf bs), .slice A (lsOf bs).length c, .slice B (ksOf bs).length d], .int .i64 0]) ∧ OwnS w' w.heap.size A c (lsOf bs) ∧ OwnI w' w.heap.size B d (ksOf bs) ∧ Below w.heap.size w w') ∨
  (¬ Good bs ∧ e = .returned (.tuple #[.agg #[.bool false, .slice none 0 0, .slice none 0 0], .int .i64 16]) ∧ Below w.heap.size w w')
theorem recsR_mem (bs : List UInt8) (n : Nat) (s : ByteArray) (h : s ∈ recsR bs n) : s.size ≤ 65536 := by
  induction n with
  | zero => cases h
  | succ n ih =>
    rcases List.mem_append.1 h with h | h
    · exact ih h
    · obtain rfl : s = _ := List.mem_singleton.1 h
      have h1 := two_le bs (at2 bs + 4 * n + 2)
      unfold txt
      have e : (⟨((List.drop (two bs (at2 bs + 4 * n)) bs).take (two bs (at2 bs + 4 * n + 2))).toArray⟩ : ByteArray).size = ((List.drop (two bs (at2 bs + 4 * n)) bs).take (two bs (at2 bs + 4 * n + 2))).length := rfl
      rw [e, List.length_take]
      omega
theorem Fits.bd {bs : List UInt8} (h : Fits bs) : Bd (lsOf bs) (ksOf bs) := by
  have h1 := h.slots
  unfold at2 at h1
  refine ⟨?_, ?_, fun s hs => Nat.le_trans (recsR_mem bs _ s hs) (by omega)⟩
  · rw [lsOf, recsR_len]; omega
  · rw [ksOf, kidsR_len]; omega

set_option maxRecDepth 100000 in
set_option maxHeartbeats 4000000 in
theorem decode_any (bb cap : Nat) (bs : List UInt8) (w : World) (hbb : ∃ fr, w.heap[bb]? = some (.cells (bc bs).toArray 5 fr)) (hlen : bs.length = 1024) (hcap : 1024 ≤ cap) :
    Calls Try.prog 21 #[.slice (some ⟨bb, 0, none⟩) 1024 cap] w (DecIs bs w) := by
  have hmf := @make_func Try.prog
  have hnot := @unary_not Try.prog
  have hbl : bb < w.heap.size := by obtain ⟨fr, h⟩ := hbb; exact lt_of_block h
  have hP0 := blk_alloc (heap_alloc_new w (.cells #[.slice (some ⟨bb, 0, none⟩) 1024 cap] 39)) (.cells #[.bool false, .slice none 0 0, .slice none 0 0] 25)
  have hV0 : ((w.alloc (.cells #[.slice (some ⟨bb, 0, none⟩) 1024 cap] 39)).alloc (.cells #[.bool false, .slice none 0 0, .slice none 0 0] 25)).heap[w.heap.size + 1]? = _ := heap_alloc_at _ _ _ (by rw [heap_alloc_size])
  have hB0 : Below w.heap.size w ((w.alloc (.cells #[.slice (some ⟨bb, 0, none⟩) 1024 cap] 39)).alloc (.cells #[.bool false, .slice none 0 0, .slice none 0 0] 25)) := ((Below.refl _ _).alloc (Nat.le_refl _) _).alloc (by rw [heap_alloc_size]; exact Nat.le_succ _) _
  have hS0 : ((w.alloc (.cells #[.slice (some ⟨bb, 0, none⟩) 1024 cap] 39)).alloc (.cells #[.bool false, .slice none 0 0, .slice none 0 0] 25)).heap.size = w.heap.size + 2 := by rw [heap_alloc_size, heap_alloc_size]
  go_enter Try.func21, Try.ntmps21
  go_upto_region 1 with (fail)
  obtain ⟨w1, hw1⟩ : ∃ w1, w1 = ((w.alloc (.cells #[.slice (some ⟨bb, 0, none⟩) 1024 cap] 39)).alloc (.cells #[.bool false, .slice none 0 0, .slice none 0 0] 25)) := ⟨_, rfl⟩
  rw [← hw1] at hP0 hV0 hB0 hS0 ⊢
  clear hw1
  have hbb1 : ∃ fr, w1.heap[bb]? = some (.cells (bc bs).toArray 5 fr) := by obtain ⟨fr, h⟩ := hbb; exact ⟨fr, (hB0.block bb hbl).trans h⟩
  have HP := Lib.hid hP0
  have HV := Lib.hid hV0
  have HB := Lib.hid hB0
  have HBB := Lib.hid hbb1
  have HS := Lib.hid hS0
  obtain ⟨p0, pf0, pl⟩ := one_block hP0
  clear hP0 hV0 hB0 hbb hbb1 hS0
  go_wp2_with fail
  have hFb : Below (w1.heap.size + 1) (w1.alloc (.cells #[.int .i64 0, .int .i64 0] 65)) (w1.alloc (.cells #[.int .i64 0, .int .i64 0] 65)) := Below.refl _ _
  have hPF := blk_alloc HP.out (.cells #[.int .i64 0, .int .i64 0] 65)
  have hVF := blk_alloc HV.out (.cells #[.int .i64 0, .int .i64 0] 65)
  have hBF : ∃ fr, (w1.alloc (.cells #[.int .i64 0, .int .i64 0] 65)).heap[bb]? = some (.cells (bc bs).toArray 5 fr) := by obtain ⟨fr, h⟩ := HBB.out; exact ⟨fr, blk_alloc h _⟩
  by_cases hf : Fits bs
  · refine (catch_back 35 _ w1 _ (fun _ _ => by simp [go_sem]) (dec1_ok bb cap bs w.heap.size (w.heap.size + 1) (w1.alloc (.cells #[.int .i64 0, .int .i64 0] 65)) hBF hlen hcap hPF hVF hf) ?_).mono ?_
    · intro w2 h2
      exact (h2.chg.block w1.heap.size (by rw [heap_alloc_size]; exact Nat.lt_succ_self _) (by have := HS.out; omega)).trans (heap_alloc_new _ _)
    · rintro e w3 ⟨rfl, w2, h2, hbut⟩
      obtain ⟨A, c, B, d, hV2, hos2, hoi2⟩ := h2.ex
      have hsz := HS.out
      have hV3 := blk_but hV2 hbut (by omega)
      have hP3 := blk_but ((h2.chg.block w.heap.size (by rw [heap_alloc_size]; omega) (by omega)).trans hPF) hbut (by omega)
      have hbb3 : ∃ fr, w3.heap[bb]? = some (.cells (bc bs).toArray 5 fr) := by obtain ⟨fr, h⟩ := hBF; exact ⟨fr, blk_but ((h2.chg.block bb (by rw [heap_alloc_size]; omega) (by omega)).trans h) hbut (by omega)⟩
      have hlow3 : Below w.heap.size w w3 := HB.out.trans ((((Below.refl _ _).alloc (by omega) _).trans (h2.chg.below (fun i hi => by omega) (by rw [heap_alloc_size]; omega))).trans (hbut.below (by omega) (by have := h2.chg.size; rw [heap_alloc_size] at this; omega)))
      have hsz2 := h2.chg.size
      rw [heap_alloc_size] at hsz2
      have hos3 : OwnS w3 w.heap.size A c (lsOf bs) := owns_up (owns_same hos2 fun k hk => hbut.block k (hos2.lt k hk).2 (by have h5 := (hos2.lt k hk).1; rw [heap_alloc_size] at h5; omega)) (by rw [heap_alloc_size]; omega)
      have hoi3 : OwnI w3 w.heap.size B d (ksOf bs) := owns_up (owns_same hoi2 fun k hk => hbut.block k (hoi2.lt k hk).2 (by have h5 := (hoi2.lt k hk).1; rw [heap_alloc_size] at h5; omega)) (by rw [heap_alloc_size]; omega)
      have HF := Lib.hid hf
      have HBD := Lib.hid hf.bd
      have HV3 := Lib.hid (blk_alloc hV3 (.cells #[.int .i64 0, .int .i64 0] 65))
      have HP3 := Lib.hid (blk_alloc hP3 (.cells #[.int .i64 0, .int .i64 0] 65))
      have HBB3 : Hid (∃ fr, (w3.alloc (.cells #[.int .i64 0, .int .i64 0] 65)).heap[bb]? = some (.cells (bc bs).toArray 5 fr)) := (by obtain ⟨fr, h⟩ := hbb3; exact ⟨fr, blk_alloc h _⟩ : ∃ fr, (w3.alloc (.cells #[.int .i64 0, .int .i64 0] 65)).heap[bb]? = some (.cells (bc bs).toArray 5 fr))
      have HL3 := Lib.hid (hlow3.alloc hlow3.size (.cells #[.int .i64 0, .int .i64 0] 65))
      have HOS3 := Lib.hid (hos3.alloc (.cells #[.int .i64 0, .int .i64 0] 65))
      have HOI3 := Lib.hid (hoi3.alloc (.cells #[.int .i64 0, .int .i64 0] 65))
      have hfa := heap_alloc_new w3 (.cells #[.int .i64 0, .int .i64 0] 65)
      clear h2 hbut hV2 hos2 hoi2 hV3 hP3 hbb3 hlow3 hos3 hoi3 hf HP HV HB HBB HS p0 pf0 pl hFb hPF hVF hBF hsz hsz2
      go_upto_region 4 with (fail)
      obtain ⟨w4, hw4⟩ : ∃ w4, w4 = w3.alloc (.cells #[.int .i64 0, .int .i64 0] 65) := ⟨_, rfl⟩
      rw [← hw4] at HV3 HP3 HBB3 HL3 HOS3 HOI3 hfa ⊢
      clear hw4
      obtain ⟨a0, a1, af0, af1, al⟩ := two_of_block hfa
      obtain ⟨v0, v1, v2, vf0, vf1, vf2, vl⟩ := three_of_block HV3.out
      go_wp2_with fail
      have HRD := Lib.hid (RdN.mk (OwnS.reads HOS3.out).1 (OwnI.reads HOI3.out).1 (OwnS.reads HOS3.out).2 (OwnI.reads HOI3.out).2)
      refine (right_any (lfOf bs) A c (lsOf bs) B d (ksOf bs) _ HRD.out HBD.out).mono ?_
      rintro e w5 ⟨b, rfl, hrt, hb5⟩
      have HRT := Lib.hid hrt
      have HV5 := Lib.hid ((hb5.block _ vl).trans HV3.out)
      have HP5 := Lib.hid ((hb5.block _ (lt_of_block HP3.out)).trans HP3.out)
      have HBB5 : Hid (∃ fr, w5.heap[bb]? = some (.cells (bc bs).toArray 5 fr)) := (by obtain ⟨fr, h⟩ := HBB3.out; exact ⟨fr, (hb5.block bb (lt_of_block h)).trans h⟩ : ∃ fr, w5.heap[bb]? = some (.cells (bc bs).toArray 5 fr))
      have HL5 := Lib.hid (HL3.out.trans (hb5.mono HL3.out.size))
      have HOS5 := Lib.hid (owns_below HOS3.out hb5 (Nat.le_refl _))
      have HOI5 := Lib.hid (owns_below HOI3.out hb5 (Nat.le_refl _))
      have HRD5 := Lib.hid (HRD.out.below hb5)
      clear hrt hb5 a0 a1 af0 af1 al v0 v1 v2 vf0 vf1 vf2 vl hfa HV3 HP3 HBB3 HL3 HOS3 HOI3 HRD
      obtain ⟨v0, v1, v2, vf0, vf1, vf2, vl⟩ := three_of_block HV5.out
      have HVx := HV5
      cases b with
      | false =>
        have HNG : Hid (¬ Good bs) := (fun h => absurd (HRT.out.2 ⟨h.shp, h.size⟩) (by decide) : ¬ Good bs)
        go_wp2_with fail
        have hE := s3_self HVx.out (.bool false) (.slice none 0 0) (.slice none 0 0)
        obtain ⟨q0, q1, q2, -, -, -, -⟩ := three_of_block hE
        have hF := s3_frm HVx.out (Nat.le_succ w.heap.size) (.bool false) (.slice none 0 0) (.slice none 0 0)
        refine bodyPost_ret (v := .tuple #[.agg #[.bool false, .slice none 0 0, .slice none 0 0], .int .i64 16]) (by simp [results, Try.results21, go_sem, q0, q1, q2]) rfl ?_
        exact .inr ⟨HNG.out, rfl, (HL5.out).trans hF.low⟩
      | true =>
        have HRG : Hid (Shp (lfOf bs) (lsOf bs) (ksOf bs) ∧ sizeN (lsOf bs) (ksOf bs) ≤ 1024) := HRT.out.1 rfl
        go_wp2_with fail
        refine (encode_good (lfOf bs) A c (lsOf bs) B d (ksOf bs) _ HRD5.out HBD.out HRG.out.1 HRG.out.2).mono ?_
        rintro e w6 ⟨pb, rfl, hpl, hpg, hb6⟩
        have HV6 := Lib.hid ((hb6.block _ vl).trans HV5.out)
        have HP6 := Lib.hid ((hb6.block _ (lt_of_block HP5.out)).trans HP5.out)
        have hbb6 : ∃ fr, w6.heap[bb]? = some (.cells (bc bs).toArray 5 fr) := by obtain ⟨fr, h⟩ := HBB5.out; exact ⟨fr, (hb6.block bb (lt_of_block h)).trans h⟩
        have HL6 := Lib.hid (HL5.out.trans (hb6.mono HL5.out.size))
        have HOS6 := Lib.hid (owns_below HOS5.out hb6 (Nat.le_refl _))
        have HOI6 := Lib.hid (owns_below HOI5.out hb6 (Nat.le_refl _))
        have hcv1 := conv_from (c := 1024) hpg (off := 0) (pageB (lfOf bs) (lsOf bs) (ksOf bs)) (n := 1024) (pageB_len _ _ _ HRG.out.2) (fun j hj => by rw [Nat.zero_add]; exact List.getElem?_eq_getElem hj)
        have hcv2 : (convert 39 9 (.slice (some ⟨bb, 0, none⟩) 1024 cap)).run Try.prog w6 = .ok (.string ⟨bs.toArray⟩) w6 := by
          obtain ⟨fr, h⟩ := hbb6
          exact conv_from (c := cap) h (off := 0) bs (n := 1024) hlen (fun j hj => by rw [Nat.zero_add]; exact List.getElem?_eq_getElem hj)
        obtain ⟨px, hpx⟩ : ∃ px : ByteArray, px = ⟨(pageB (lfOf bs) (lsOf bs) (ksOf bs)).toArray⟩ := ⟨_, rfl⟩
        obtain ⟨bx, hbx⟩ : ∃ bx : ByteArray, bx = ⟨bs.toArray⟩ := ⟨_, rfl⟩
        rw [← hpx] at hcv1
        rw [← hbx] at hcv2
        have HEQ : Hid (px.toList = bx.toList ↔ pageB (lfOf bs) (lsOf bs) (ksOf bs) = bs) := (by rw [ByteArray.toList_eq, ByteArray.toList_eq, hpx, hbx] : px.toList = bx.toList ↔ pageB (lfOf bs) (lsOf bs) (ksOf bs) = bs)
        clear hpx hbx hpl hpg hb6 hbb6 v0 v1 v2 vf0 vf1 vf2 vl HV5 HVx HP5 HBB5 HL5 HOS5 HOI5 HRD5
        obtain ⟨p0, pf0, pl⟩ := one_block HP6.out
        obtain ⟨v0, v1, v2, vf0, vf1, vf2, vl⟩ := three_of_block HV6.out
        have HVx := HV6
        by_cases hpe : pageB (lfOf bs) (lsOf bs) (ksOf bs) = bs
        · have hxe : px.toList = bx.toList := HEQ.out.2 hpe
          have HG : Hid (Good bs) := (⟨HF.out, HRG.out.1, HRG.out.2, hpe⟩ : Good bs)
          clear hpe
          go_wp2_with fail
          have hE := s3_self HVx.out (.bool (lfOf bs)) (.slice A (lsOf bs).length c) (.slice B (ksOf bs).length d)
          obtain ⟨q0, q1, q2, -, -, -, -⟩ := three_of_block hE
          have hF := s3_frm HVx.out (Nat.le_succ w.heap.size) (.bool (lfOf bs)) (.slice A (lsOf bs).length c) (.slice B (ksOf bs).length d)
          refine bodyPost_ret (v := .tuple #[.agg #[.bool (lfOf bs), .slice A (lsOf bs).length c, .slice B (ksOf bs).length d], .int .i64 0]) (by simp [results, Try.results21, go_sem, q0, q1, q2]) rfl ?_
          exact .inl ⟨HG.out, A, c, B, d, rfl, hF.owns HOS6.out (by decide), hF.owns HOI6.out (by decide), HL6.out.trans hF.low⟩
        · have hxe : (px.toList == bx.toList) = false := beq_eq_false_iff_ne.2 (fun h => hpe (HEQ.out.1 h))
          have hxe2 : px.toList ≠ bx.toList := fun h => hpe (HEQ.out.1 h)
          have HNG : Hid (¬ Good bs) := (fun h => hpe h.page : ¬ Good bs)
          go_wp2_with fail
          have hE := s3_self HVx.out (.bool false) (.slice none 0 0) (.slice none 0 0)
          obtain ⟨q0, q1, q2, -, -, -, -⟩ := three_of_block hE
          have hF := s3_frm HVx.out (Nat.le_succ w.heap.size) (.bool false) (.slice none 0 0) (.slice none 0 0)
          refine bodyPost_ret (v := .tuple #[.agg #[.bool false, .slice none 0 0, .slice none 0 0], .int .i64 16]) (by simp [results, Try.results21, go_sem, q0, q1, q2]) rfl ?_
          exact .inr ⟨HNG.out, rfl, (HL6.out).trans hF.low⟩
  · refine (catch_stop 35 _ w1 16 0 _ (fun _ _ => by simp [go_sem]) (dec1_no bb cap bs w.heap.size (w.heap.size + 1) (w1.alloc (.cells #[.int .i64 0, .int .i64 0] 65)) hBF hlen hcap hPF hf) ?_).mono ?_
    · intro w2 h2
      exact (h2.block w1.heap.size (by rw [heap_alloc_size]; exact Nat.lt_succ_self _)).trans (heap_alloc_new _ _)
    · rintro e w3 ⟨rfl, w2, h2, hbut⟩
      have hsz := HS.out
      have hV3 := blk_but ((h2.block (w.heap.size + 1) (by rw [heap_alloc_size]; omega)).trans hVF) hbut (by omega)
      have hlow3 : Below w.heap.size w w3 := HB.out.trans ((((Below.refl _ _).alloc (by omega) _).trans (h2.mono (by rw [heap_alloc_size]; omega))).trans (hbut.below (by omega) (by have := h2.size; rw [heap_alloc_size] at this; omega)))
      have HNG : Hid (¬ Good bs) := (fun h => hf h.fits : ¬ Good bs)
      have HVx := Lib.hid (blk_alloc hV3 (.cells #[.int .i64 16, .int .i64 0] 65))
      have HL3 := Lib.hid (hlow3.alloc hlow3.size (.cells #[.int .i64 16, .int .i64 0] 65))
      have hfa := heap_alloc_new w3 (.cells #[.int .i64 16, .int .i64 0] 65)
      clear h2 hbut hV3 hlow3 hf HP HV HB HBB HS p0 pf0 pl hFb hPF hVF hBF hsz
      go_upto_region 4 with (fail)
      obtain ⟨w4, hw4⟩ : ∃ w4, w4 = w3.alloc (.cells #[.int .i64 16, .int .i64 0] 65) := ⟨_, rfl⟩
      rw [← hw4] at HVx HL3 hfa ⊢
      clear hw4
      obtain ⟨a0, a1, af0, af1, al⟩ := two_of_block hfa
      obtain ⟨v0, v1, v2, vf0, vf1, vf2, vl⟩ := three_of_block HVx.out
      go_wp2_with fail
      have hE := s3_self HVx.out (.bool false) (.slice none 0 0) (.slice none 0 0)
      obtain ⟨q0, q1, q2, -, -, -, -⟩ := three_of_block hE
      have hF := s3_frm HVx.out (Nat.le_succ w.heap.size) (.bool false) (.slice none 0 0) (.slice none 0 0)
      refine bodyPost_ret (v := .tuple #[.agg #[.bool false, .slice none 0 0, .slice none 0 0], .int .i64 16]) (by simp [results, Try.results21, go_sem, q0, q1, q2]) rfl ?_
      exact .inr ⟨HNG.out, rfl, (HL3.out).trans hF.low⟩

set_option maxRecDepth 100000 in
theorem decode_short (A : Option Addr) (n cap : Nat) (w : World) (hn : n ≠ 1024) (hm : n ≤ 1000000) :
    Calls Try.prog 21 #[.slice A n cap] w fun e w' => e = .returned (.tuple #[.agg #[.bool false, .slice none 0 0, .slice none 0 0], .int .i64 16]) ∧ Below w.heap.size w w' := by
  have hn2 : ((n : Int) != 1024) = true := bne_iff_ne.2 (by omega)
  go_enter Try.func21, Try.ntmps21
  go_wp2_with fail
  refine bodyPost_ret (v := .tuple #[.agg #[.bool false, .slice none 0 0, .slice none 0 0], .int .i64 16]) ?_ rfl ⟨rfl, ((Below.refl _ _).alloc (Nat.le_refl _) _).alloc (by rw [heap_alloc_size]; exact Nat.le_succ _) _⟩
  have hE := heap_alloc_at (w.alloc (.cells #[.slice A n cap] 39)) (.cells #[.bool false, .slice none 0 0, .slice none 0 0] 25) (w.heap.size + 1) (by rw [heap_alloc_size])
  obtain ⟨q0, q1, q2, -, -, -, -⟩ := three_of_block hE
  simp [results, Try.results21, go_sem, q0, q1, q2]
end Go.Proofs.Ytnjdmaeoebihpaa
