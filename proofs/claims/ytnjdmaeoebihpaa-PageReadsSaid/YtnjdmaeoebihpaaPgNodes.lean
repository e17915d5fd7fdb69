/-
  The document's Size; the law PageNodes, walked.
-/
import Derived.Test.YtnjdmaeoebihpaaPgPageW
import Derived.Test.YtnjdmaeoebihpaaPgOpen
import Derived.Test.YtnjdmaeoebihpaaPgSame
import Derived.Deep.RegionHeld
namespace Go.Proofs.Ytnjdmaeoebihpaa
open Go.RowKit Go.Proofs.YtnjdmaeoebihpaaW.PrintWords Go.Proofs.YtnjdmaeoebihpaaW.PrintLast Go.Proofs.YtnjdmaeoebihpaaW.PrintMore
set_option linter.unusedVariables false
set_option linter.unusedSimpArgs false

set_option maxRecDepth 100000 in
set_option maxHeartbeats 2000000 in
theorem rsize_any (leaf : Bool) (A : Option Addr) (c : Nat) (l : List ByteArray) (B : Option Addr) (d : Nat) (ks : List Int) (w : World) (hr : RdN w A c l B d ks) (hb : Bd l ks) :
    Calls Try.prog 20 #[.agg #[.bool leaf, .slice A l.length c, .slice B ks.length d]] w fun e w' => e = .returned (.int .i64 (sizeN l ks)) ∧ Below w.heap.size w w' := by
  have HR := Lib.hid hr
  have HBD := Lib.hid hb
  have hbk := hb.kids
  have hbw := hb.weigh
  clear hr hb
  have hblk := heap_alloc_new w (RNodeObj leaf A l.length c B ks.length d)
  obtain ⟨w1, hw1⟩ : ∃ w1, w1 = w.alloc (.cells #[.bool leaf, .slice A l.length c, .slice B ks.length d] 29) := ⟨_, rfl⟩
  replace hblk : w1.heap[w.heap.size]? = some (RNodeObj leaf A l.length c B ks.length d) := by rw [hw1]; exact hblk
  have HB1 : Hid (Below w.heap.size w w1) := (by rw [hw1]; exact (Below.refl _ _).alloc (Nat.le_refl _) _ : Below w.heap.size w w1)
  obtain ⟨n0, n1, n2, f0, f1, f2, nl⟩ := three_of_block hblk
  clear hblk
  go_enter Try.func20, Try.ntmps20
  go_upto_region 1 with (fail)
  rw [← hw1]
  clear hw1
  have HRW := Lib.hid (HR.out.below HB1.out)
  have HWV : Hid (3 + 4 * ks.length + weighN l = sizeN l ks) := rfl
  obtain ⟨z, hz⟩ : ∃ z, weighN l = z := ⟨_, rfl⟩
  have HZ := Lib.hid hz
  rw [hz] at hbw HWV
  clear hz
  go_quiet ((go_at_call 33; exact Calls.quiet_of_same ((rweigh_any (w := w1.drewN _) HRW.out.recs HRW.out.rc HBD.out.len HBD.out.weigh).mono (fun e w' ⟨he, hw⟩ => ⟨by rw [he, HZ.out], hw.symm⟩))))
  go_wp2_with fail
  rw [show (3 + 4 * (ks.length : Int) + (z : Int)) = (sizeN l ks : Int) by have := HWV.out; omega]
  go_ret
  exact ⟨rfl, below_drewN HB1.out _⟩
theorem row_conv {w : World} {base g c n : Nat} {bs : List UInt8} (h : Row8 w base g bs) (hn : bs.length = n) : (convert 39 9 (.slice (some ⟨g, 0, none⟩) n c)).run Try.prog w = .ok (.string ⟨bs.toArray⟩) w := by
  subst hn
  obtain ⟨_, cs, fr, hg, ht⟩ := h
  refine run_convert_bytes_back (P := Try.prog) w _ _ 5 ⟨g, 0, none⟩ c bs Try.underlying39 Try.underlying5 Try.underlying9 (fun j hj => ?_)
  rw [Addr.add_lit, Nat.zero_add, cell_of_block hg, ← Array.getElem?_toList]
  have h2 : (cs.toList.take bs.length)[j]? = cs.toList[j]? := by rw [List.getElem?_take, if_pos hj]
  rw [← h2, ht]
  simp [bc, hj]
/-- A node's three cells. -/
abbrev C3 (w : World) (b : Nat) (lf : Bool) (A : Option Addr) (n c : Nat) (B : Option Addr) (m d : Nat) : Prop :=
  w.cell? ⟨b, 0, none⟩ = some (.bool lf) ∧ w.cell? ⟨b, 1, none⟩ = some (.slice A n c) ∧ w.cell? ⟨b, 2, none⟩ = some (.slice B m d)
/-- The node's two boxes, and what they say. -/
structure Nds (w : World) (b0 b3 : Nat) (leaf : Bool) (A : Option Addr) (c : Nat) (l : List ByteArray) (B : Option Addr) (d : Nat) (ks : List Int) : Prop where
  nod : w.heap[b0]? = some (NodeObj leaf A l.length c B ks.length d)
  rno : w.heap[b3]? = some (RNodeObj leaf A l.length c B ks.length d)
  rd : RdN w A c l B d ks
section
variable {w w' : World} {b0 b3 : Nat} {leaf : Bool} {A : Option Addr} {c : Nat} {l : List ByteArray} {B : Option Addr} {d : Nat} {ks : List Int}
theorem Nds.below (h : Nds w b0 b3 leaf A c l B d ks) (hb : Below w.heap.size w w') : Nds w' b0 b3 leaf A c l B d ks :=
  ⟨(hb.block _ (lt_of_block h.nod)).trans h.nod, (hb.block _ (lt_of_block h.rno)).trans h.rno, h.rd.below hb⟩
theorem Nds.drew (h : Nds w b0 b3 leaf A c l B d ks) : Nds w.drew b0 b3 leaf A c l B d ks := h.below ⟨rfl, rfl, rfl, Nat.le_refl _, fun _ _ => rfl⟩
theorem Nds.c0 (h : Nds w b0 b3 leaf A c l B d ks) : C3 w b0 leaf A l.length c B ks.length d := ⟨(cell_of_block h.nod 0).trans rfl, (cell_of_block h.nod 1).trans rfl, (cell_of_block h.nod 2).trans rfl⟩
theorem Nds.c3 (h : Nds w b0 b3 leaf A c l B d ks) : C3 w b3 leaf A l.length c B ks.length d := ⟨(cell_of_block h.rno 0).trans rfl, (cell_of_block h.rno 1).trans rfl, (cell_of_block h.rno 2).trans rfl⟩
end

abbrev Back (leaf : Bool) (l : List ByteArray) (ks : List Int) : Prop := Good (pageB leaf l ks) ∧ lfOf (pageB leaf l ks) = leaf ∧ lsOf (pageB leaf l ks) = l ∧ ksOf (pageB leaf l ks) = ks
theorem dec_page (leaf : Bool) (l : List ByteArray) (ks : List Int) (hs : Shp leaf l ks) (hz : sizeN l ks ≤ 1024) (hbk : Back leaf l ks) (bb : Nat) (w : World) (hbb : ∃ fr, w.heap[bb]? = some (.cells (bc (pageB leaf l ks)).toArray 5 fr)) :
    Calls Try.prog 21 #[.slice (some ⟨bb, 0, none⟩) 1024 1024] w fun e w' => ∃ A c B d, e = .returned (.tuple #[.agg #[.bool leaf, .slice A l.length c, .slice B ks.length d], .int .i64 0]) ∧ RdN w' A c l B d ks ∧ Below w.heap.size w w' := by
  refine (decode_any bb 1024 (pageB leaf l ks) w hbb (pageB_len leaf l ks hz) (Nat.le_refl _)).mono ?_
  rintro e w' (⟨hg, A, c, B, d, he, hs2, hi2, hb⟩ | ⟨hng, -, -⟩)
  · rw [hbk.2.1, hbk.2.2.1, hbk.2.2.2] at he
    rw [hbk.2.2.1] at hs2
    rw [hbk.2.2.2] at hi2
    exact ⟨A, c, B, d, he, ⟨hs2.reads.1, hi2.reads.1, hs2.reads.2, hi2.reads.2⟩, hb⟩
  · exact absurd hbk.1 hng
abbrev CP (w : World) (bb : Nat) (px : ByteArray) : Prop := (convert 39 9 (.slice (some ⟨bb, 0, none⟩) 1024 1024)).run Try.prog w = .ok (.string px) w
/-- All that the last comparison reads. -/
structure Alle (w : World) (b0 b3 b7 bb : Nat) (leaf : Bool) (A : Option Addr) (c : Nat) (l : List ByteArray) (B : Option Addr) (d : Nat) (ks : List Int) (A2 : Option Addr) (c2 : Nat) (B2 : Option Addr) (d2 : Nat) : Prop where
  n : Nds w b0 b3 leaf A c l B d ks
  m : w.heap[b7]? = some (.cells #[.bool leaf, .slice A2 l.length c2, .slice B2 ks.length d2] 25)
  rd2 : RdN w A2 c2 l B2 d2 ks
  pg : w.heap[bb]? = some (.cells (bc (pageB leaf l ks)).toArray 5)
section
variable {w w' : World} {b0 b3 b7 bb : Nat} {leaf : Bool} {A B A2 B2 : Option Addr} {c d c2 d2 : Nat} {l : List ByteArray} {ks : List Int}
theorem Alle.below (h : Alle w b0 b3 b7 bb leaf A c l B d ks A2 c2 B2 d2) (hb : Below w.heap.size w w') : Alle w' b0 b3 b7 bb leaf A c l B d ks A2 c2 B2 d2 :=
  ⟨h.n.below hb, (hb.block _ (lt_of_block h.m)).trans h.m, h.rd2.below hb, (hb.block _ (lt_of_block h.pg)).trans h.pg⟩
theorem Alle.drew (h : Alle w b0 b3 b7 bb leaf A c l B d ks A2 c2 B2 d2) : Alle w.drew b0 b3 b7 bb leaf A c l B d ks A2 c2 B2 d2 := h.below ⟨rfl, rfl, rfl, Nat.le_refl _, fun _ _ => rfl⟩
theorem Alle.S (h : Alle w b0 b3 b7 bb leaf A c l B d ks A2 c2 B2 d2) (hl : (pageB leaf l ks).length = 1024) {px : ByteArray} (hp : ⟨(pageB leaf l ks).toArray⟩ = px) : CP w bb px ∧ C3 w b3 leaf A l.length c B ks.length d ∧ C3 w b7 leaf A2 l.length c2 B2 ks.length d2 := by
  refine ⟨?_, h.n.c3, (cell_of_block h.m 0).trans rfl, (cell_of_block h.m 1).trans rfl, (cell_of_block h.m 2).trans rfl⟩
  rw [← hp]
  exact conv_from (off := 0) h.pg _ hl (fun j hj => by rw [Nat.zero_add]; exact List.getElem?_eq_getElem hj)
end

set_option maxRecDepth 100000 in
set_option maxHeartbeats 8000000 in
theorem pageNodes_any (leaf : Bool) (A : Option Addr) (c : Nat) (l : List ByteArray) (B : Option Addr) (d : Nat) (ks : List Int) (w : World) (hr : RdN w A c l B d ks) (hbk : ∀ (leaf : Bool) (l : List ByteArray) (ks : List Int), Shp leaf l ks → sizeN l ks ≤ 1024 → Good (pageB leaf l ks) ∧ lfOf (pageB leaf l ks) = leaf ∧ lsOf (pageB leaf l ks) = l ∧ ksOf (pageB leaf l ks) = ks) :
    Calls Try.prog 5 #[.agg #[.bool leaf, .slice A l.length c, .slice B ks.length d]] w fun e w' => e = .returned (.bool true) ∧ Below w.heap.size w w' := by
  have hnot := @unary_not Try.prog
  have HR := Lib.hid hr
  have HBACK := Lib.hid hbk
  clear hr hbk
  have hblk := heap_alloc_new w (NodeObj leaf A l.length c B ks.length d)
  obtain ⟨w1, hw1⟩ : ∃ w1, w1 = w.alloc (.cells #[.bool leaf, .slice A l.length c, .slice B ks.length d] 25) := ⟨_, rfl⟩
  replace hblk : w1.heap[w.heap.size]? = some (NodeObj leaf A l.length c B ks.length d) := by rw [hw1]; exact hblk
  have HB1 : Hid (Below w.heap.size w w1) := (by rw [hw1]; exact (Below.refl _ _).alloc (Nat.le_refl _) _ : Below w.heap.size w w1)
  have HBK1 := Lib.hid hblk
  clear hblk
  go_enter Try.func5, Try.ntmps5
  go_upto_region 1 with (fail)
  rw [← hw1]
  clear hw1
  go_wp2_with fail
  refine (awake_any _).mono ?_
  rintro e w2 ⟨rfl, hb2⟩
  have HB2 := Lib.hid (HB1.out.trans (hb2.mono HB1.out.size))
  have HBK2 := Lib.hid ((hb2.block _ (lt_of_block HBK1.out)).trans HBK1.out)
  clear hb2 HB1 HBK1
  obtain ⟨n0, n1, n2, f0, f1, f2, nl⟩ := three_of_block HBK2.out
  go_wp2_with fail
  refine (great_any leaf A c l B d ks _ (HR.out.below HB2.out)).mono ?_
  rintro e w3 ⟨g, rfl, hg, hb3⟩
  have HB3 := Lib.hid (HB2.out.trans (hb3.mono HB2.out.size))
  have HBK3 := Lib.hid ((hb3.block _ nl).trans HBK2.out)
  have HG := Lib.hid hg
  clear hg hb3 n0 n1 n2 f0 f1 f2 nl HB2 HBK2
  cases g with
  | true =>
    go_wp2_with fail
    go_ret
    exact ⟨rfl, HB3.out⟩
  | false =>
  have HSM := Lib.hid (HG.out rfl)
  have HBD : Hid (Bd l ks) := HSM.out.bd
  obtain ⟨n0, n1, n2, f0, f1, f2, nl⟩ := three_of_block HBK3.out
  go_wp2_with fail
  refine (plain_any leaf A l.length c B ks.length d _).mono ?_
  rintro e w4 ⟨rfl, hb4⟩
  have HB4 := Lib.hid (HB3.out.trans (hb4.mono HB3.out.size))
  have HBK4 := Lib.hid ((hb4.block _ nl).trans HBK3.out)
  clear hb4 n0 n1 n2 f0 f1 f2 nl HB3 HBK3
  go_upto_region 6 with (fail)
  have h5 := heap_alloc_new w4 (RNodeObj leaf A l.length c B ks.length d)
  have hb5 : Below w4.heap.size w4 (w4.alloc (RNodeObj leaf A l.length c B ks.length d)) := (Below.refl _ _).alloc (Nat.le_refl _) _
  obtain ⟨w5, hw5⟩ : ∃ w5, w5 = w4.alloc (.cells #[.bool leaf, .slice A l.length c, .slice B ks.length d] 29) := ⟨_, rfl⟩
  replace h5 : w5.heap[w4.heap.size]? = some (RNodeObj leaf A l.length c B ks.length d) := by rw [hw5]; exact h5
  replace hb5 : Below w4.heap.size w4 w5 := by rw [hw5]; exact hb5
  rw [← hw5]
  clear hw5
  obtain ⟨b3, hb3⟩ : ∃ b3, b3 = w4.heap.size := ⟨_, rfl⟩
  rw [← hb3] at h5 ⊢
  clear hb3
  have HB5 := Lib.hid (HB4.out.trans (hb5.mono HB4.out.size))
  have HN5 : Hid (Nds w5 w.heap.size b3 leaf A c l B d ks) := ⟨(hb5.block _ (lt_of_block HBK4.out)).trans HBK4.out, h5, HR.out.below HB5.out⟩
  clear h5 hb5 HBK4 HB4
  obtain ⟨m0, m1, m2, e0, e1, e2, ml⟩ := three_of_block HN5.out.rno
  go_wp2_with fail
  refine (rshaped_any leaf A c l B d ks _ HN5.out.rd (Nat.le_trans HSM.out.len (by omega)) (Nat.le_trans HSM.out.kids (by omega))).mono ?_
  rintro e w6 ⟨b, rfl, hsh, hb6⟩
  have HB6 := Lib.hid (HB5.out.trans (hb6.mono HB5.out.size))
  have HN6 := Lib.hid (HN5.out.below hb6)
  have HSH := Lib.hid hsh
  clear hsh hb6 m0 m1 m2 e0 e1 e2 ml HN5 HB5
  obtain ⟨n0, n1, n2, f0, f1, f2, nl⟩ := three_of_block HN6.out.nod
  cases b with
  | false =>
    have HNS : Hid (¬ Shp leaf l ks) := (of_eq_false (by simpa using HSH.out) : ¬ Shp leaf l ks)
    go_wp2_with fail
    refine (encode_bad leaf A c l B d ks _ HN6.out.rd HBD.out HNS.out).mono ?_
    rintro e w7 ⟨rfl, hb7⟩
    have HB7 := Lib.hid (HB6.out.trans (hb7.mono HB6.out.size))
    have HN7 := Lib.hid (HN6.out.below hb7)
    clear hb7 n0 n1 n2 f0 f1 f2 nl HN6 HB6
    have HN0 := Lib.hid HN7.out.drew
    obtain ⟨a0, a1, a2⟩ := HN0.out.c0
    obtain ⟨c0, c1, c2⟩ := HN0.out.c3
    go_wp2_with fail
    go_region_with
      (first
        | (go_at_call 17; refine (size_any leaf A c l B d ks _ HN0.out.rd HBD.out).mono ?_; rintro e y1 ⟨rfl, hb⟩; have HY1 := Lib.hid hb; have HN1 := Lib.hid (HN0.out.below hb); obtain ⟨p0, p1, p2⟩ := HN1.out.c0; obtain ⟨q0, q1, q2⟩ := HN1.out.c3; clear hb)
        | (go_at_call 20; refine (rsize_any leaf A c l B d ks _ HN1.out.rd HBD.out).mono ?_; rintro e y2 ⟨rfl, hb⟩; have HY2 := Lib.hid hb; have HN2 := Lib.hid (HN1.out.below hb); obtain ⟨r0, r1, r2⟩ := HN2.out.c0; obtain ⟨s0, s1, s2⟩ := HN2.out.c3; clear hb)
        | (go_at_call 16; refine (right_any leaf A c l B d ks _ HN2.out.rd HBD.out).mono ?_; rintro e y3 ⟨rb, rfl, hrb, hb⟩; obtain rfl : rb = false := (by cases rb with | false => rfl | true => exact absurd (hrb.1 rfl).1 HNS.out); have HY3 := Lib.hid hb; have HN3 := Lib.hid (HN2.out.below hb); clear hb hrb))
    all_goals
      go_wp2_with fail
      go_ret
      exact ⟨rfl, HB7.out.trans ((((pw_below_drewN (Below.refl w7.heap.size w7) 1).trans HY1.out).trans (HY2.out.mono HY1.out.size)).trans (HY3.out.mono (Nat.le_trans HY1.out.size HY2.out.size)) |>.mono HB7.out.size)⟩
  | true =>
    have HSHP : Hid (Shp leaf l ks) := HSH.out.1 rfl
    by_cases hz : sizeN l ks ≤ 1024
    case neg =>
      have HNZ := Lib.hid hz
      have hz2 : ¬ (sizeN l ks : Int) ≤ 1024 := by omega
      have hz3 : (1024 : Int) < (sizeN l ks : Int) := by omega
      clear hz
      go_wp2_with fail
      refine (encode_long leaf A c l B d ks _ HN6.out.rd HBD.out HSHP.out HNZ.out).mono ?_
      rintro e w7 ⟨rfl, hb7⟩
      have HB7 := Lib.hid (HB6.out.trans (hb7.mono HB6.out.size))
      have HN7 := Lib.hid (HN6.out.below hb7)
      clear hb7 n0 n1 n2 f0 f1 f2 nl HN6 HB6
      have HN0 := Lib.hid HN7.out.drew
      have hS0 : C3 w7.drew w.heap.size leaf A l.length c B ks.length d ∧ C3 w7.drew b3 leaf A l.length c B ks.length d := ⟨HN0.out.c0, HN0.out.c3⟩
      go_wp2_with fail
      go_region_held (fun w' => C3 w' w.heap.size leaf A l.length c B ks.length d ∧ C3 w' b3 leaf A l.length c B ks.length d)
        (first | (with_reducible exact hS0) | (with_reducible exact hS1) | (with_reducible exact hS2) | (with_reducible exact hS3) | (with_reducible exact hS4))
        (first
          | (go_at_call 17; refine (size_any leaf A c l B d ks _ HN0.out.rd HBD.out).mono ?_; rintro e y1 ⟨rfl, hb⟩; have HY1 := Lib.hid hb; have HN1 := Lib.hid (HN0.out.below hb); have hS1 : C3 y1 w.heap.size leaf A l.length c B ks.length d ∧ C3 y1 b3 leaf A l.length c B ks.length d := ⟨HN1.out.c0, HN1.out.c3⟩; clear hb)
          | (go_at_call 16; refine (right_any leaf A c l B d ks _ HN2.out.rd HBD.out).mono ?_; rintro e y3 ⟨rb, rfl, hrb, hb⟩; obtain rfl : rb = false := (by cases rb with | false => rfl | true => exact absurd (hrb.1 rfl).2 HNZ.out); have HY3 := Lib.hid hb; have HN3 := Lib.hid (HN2.out.below hb); have hS3 : C3 y3 w.heap.size leaf A l.length c B ks.length d ∧ C3 y3 b3 leaf A l.length c B ks.length d := ⟨HN3.out.c0, HN3.out.c3⟩; clear hb hrb)
          | (go_at_call 20; refine (rsize_any leaf A c l B d ks _ HN3.out.rd HBD.out).mono ?_; rintro e y4 ⟨rfl, hb⟩; have HY4 := Lib.hid hb; have HN4 := Lib.hid (HN3.out.below hb); have hS4 : C3 y4 w.heap.size leaf A l.length c B ks.length d ∧ C3 y4 b3 leaf A l.length c B ks.length d := ⟨HN4.out.c0, HN4.out.c3⟩; clear hb)
          | (go_at_call 20; refine (rsize_any leaf A c l B d ks _ HN1.out.rd HBD.out).mono ?_; rintro e y2 ⟨rfl, hb⟩; have HY2 := Lib.hid hb; have HN2 := Lib.hid (HN1.out.below hb); have hS2 : C3 y2 w.heap.size leaf A l.length c B ks.length d ∧ C3 y2 b3 leaf A l.length c B ks.length d := ⟨HN2.out.c0, HN2.out.c3⟩; clear hb))
      all_goals
        have HB8 : Hid (Below w.heap.size w y4) := HB7.out.trans (((((pw_below_drewN (Below.refl w7.heap.size w7) 1).trans HY1.out).trans (HY2.out.mono HY1.out.size)).trans (HY3.out.mono (Nat.le_trans HY1.out.size HY2.out.size))).trans (HY4.out.mono (Nat.le_trans (Nat.le_trans HY1.out.size HY2.out.size) HY3.out.size)) |>.mono HB7.out.size)
        obtain ⟨n0, n1, n2, f0, f1, f2, nl⟩ := three_of_block HN4.out.rno
        go_wp2_with fail
        refine (rsize_any leaf A c l B d ks _ HN4.out.rd HBD.out).mono ?_
        rintro e w9 ⟨rfl, hb9⟩
        have HB9 := Lib.hid (HB8.out.trans (hb9.mono HB8.out.size))
        clear hb9
        go_wp2_with fail
        go_ret
        exact ⟨rfl, HB9.out⟩
    case pos =>
      have HZ := Lib.hid hz
      have hz2 : (sizeN l ks : Int) ≤ 1024 := by omega
      have hz3 : ¬ (1024 : Int) < (sizeN l ks : Int) := by omega
      clear hz
      go_wp2_with fail
      refine (encode_good leaf A c l B d ks _ HN6.out.rd HBD.out HSHP.out HZ.out).mono ?_
      rintro e w7 ⟨bb, rfl, hbl, hpg, hb7⟩
      have HPG7 := Lib.hid hpg
      have HB7 := Lib.hid (HB6.out.trans (hb7.mono HB6.out.size))
      have HN7 := Lib.hid (HN6.out.below hb7)
      clear hb7 hbl hpg n0 n1 n2 f0 f1 f2 nl HN6 HB6
      have HN0 := Lib.hid HN7.out.drew
      have hS0 : C3 w7.drew w.heap.size leaf A l.length c B ks.length d ∧ C3 w7.drew b3 leaf A l.length c B ks.length d := ⟨HN0.out.c0, HN0.out.c3⟩
      go_wp2_with fail
      go_region_held (fun w' => C3 w' w.heap.size leaf A l.length c B ks.length d ∧ C3 w' b3 leaf A l.length c B ks.length d)
        (first | (with_reducible exact hS0) | (with_reducible exact hS1) | (with_reducible exact hS2) | (with_reducible exact hS3) | (with_reducible exact hS4))
        (first
          | (go_at_call 17; refine (size_any leaf A c l B d ks _ HN0.out.rd HBD.out).mono ?_; rintro e y1 ⟨rfl, hb⟩; have HY1 := Lib.hid hb; have HN1 := Lib.hid (HN0.out.below hb); have hS1 : C3 y1 w.heap.size leaf A l.length c B ks.length d ∧ C3 y1 b3 leaf A l.length c B ks.length d := ⟨HN1.out.c0, HN1.out.c3⟩; clear hb)
          | (go_at_call 16; refine (right_any leaf A c l B d ks _ HN2.out.rd HBD.out).mono ?_; rintro e y3 ⟨rb, rfl, hrb, hb⟩; obtain rfl : rb = true := hrb.2 ⟨HSHP.out, HZ.out⟩; have HY3 := Lib.hid hb; have HN3 := Lib.hid (HN2.out.below hb); have hS3 : C3 y3 w.heap.size leaf A l.length c B ks.length d ∧ C3 y3 b3 leaf A l.length c B ks.length d := ⟨HN3.out.c0, HN3.out.c3⟩; clear hb hrb)
          | (go_at_call 20; refine (rsize_any leaf A c l B d ks _ HN3.out.rd HBD.out).mono ?_; rintro e y4 ⟨rfl, hb⟩; have HY4 := Lib.hid hb; have HN4 := Lib.hid (HN3.out.below hb); have hS4 : C3 y4 w.heap.size leaf A l.length c B ks.length d ∧ C3 y4 b3 leaf A l.length c B ks.length d := ⟨HN4.out.c0, HN4.out.c3⟩; clear hb)
          | (go_at_call 20; refine (rsize_any leaf A c l B d ks _ HN1.out.rd HBD.out).mono ?_; rintro e y2 ⟨rfl, hb⟩; have HY2 := Lib.hid hb; have HN2 := Lib.hid (HN1.out.below hb); have hS2 : C3 y2 w.heap.size leaf A l.length c B ks.length d ∧ C3 y2 b3 leaf A l.length c B ks.length d := ⟨HN2.out.c0, HN2.out.c3⟩; clear hb))
      all_goals
        have HB7' : Hid (Below w7.heap.size w7 y4) := (((((pw_below_drewN (Below.refl w7.heap.size w7) 1).trans HY1.out).trans (HY2.out.mono HY1.out.size)).trans (HY3.out.mono (Nat.le_trans HY1.out.size HY2.out.size))).trans (HY4.out.mono (Nat.le_trans (Nat.le_trans HY1.out.size HY2.out.size) HY3.out.size)))
        have HB8 : Hid (Below w.heap.size w y4) := HB7.out.trans (HB7'.out.mono HB7.out.size)
        have HPG8 := Lib.hid ((HB7'.out.block _ (lt_of_block HPG7.out)).trans HPG7.out)
        clear HB7 HN7 HN0 HPG7 HY1 HY2 HY3 HY4 HN1 HN2 HN3 hS0 hS1 hS2 hS3 hS4 HB7'
        obtain ⟨n0, n1, n2, f0, f1, f2, nl⟩ := three_of_block HN4.out.rno
        go_wp2_with fail
        refine (rsize_any leaf A c l B d ks _ HN4.out.rd HBD.out).mono ?_
        rintro e w9 ⟨rfl, hb9⟩
        have HB9 := Lib.hid (HB8.out.trans (hb9.mono HB8.out.size))
        have HN9 := Lib.hid (HN4.out.below hb9)
        have HPG9 := Lib.hid ((hb9.block _ (lt_of_block HPG8.out)).trans HPG8.out)
        clear hb9 HB8 HN4 HPG8 n0 n1 n2 f0 f1 f2 nl
        go_wp2_with fail
        refine (dec_page leaf l ks HSHP.out HZ.out (HBACK.out leaf l ks HSHP.out HZ.out) bb _ ⟨_, HPG9.out⟩).mono ?_
        rintro e w10 ⟨A2, c2, B2, d2, rfl, hrd2, hb10⟩
        have HB10 := Lib.hid (HB9.out.trans (hb10.mono HB9.out.size))
        have HN10 := Lib.hid (HN9.out.below hb10)
        have HPG10 := Lib.hid ((hb10.block _ (lt_of_block HPG9.out)).trans HPG9.out)
        have HRD2 := Lib.hid hrd2
        clear hb10 hrd2 HB9 HN9 HPG9
        go_upto_region 15 with (fail)
        have h11 := heap_alloc_new w10 (.cells #[.bool leaf, .slice A2 l.length c2, .slice B2 ks.length d2] 25)
        have hb11 : Below w10.heap.size w10 (w10.alloc (.cells #[.bool leaf, .slice A2 l.length c2, .slice B2 ks.length d2] 25)) := (Below.refl _ _).alloc (Nat.le_refl _) _
        obtain ⟨w11, hw11⟩ : ∃ w11, w11 = w10.alloc (.cells #[.bool leaf, .slice A2 l.length c2, .slice B2 ks.length d2] 25) := ⟨_, rfl⟩
        rw [← hw11] at h11 hb11 ⊢
        clear hw11
        obtain ⟨b7, hb7⟩ : ∃ b7, b7 = w10.heap.size := ⟨_, rfl⟩
        rw [← hb7] at h11 ⊢
        clear hb7
        have HB11 := Lib.hid (HB10.out.trans (hb11.mono HB10.out.size))
        have HX11 : Hid (Alle w11 w.heap.size b3 b7 bb leaf A c l B d ks A2 c2 B2 d2) := ⟨HN10.out.below hb11, h11, HRD2.out.below hb11, (hb11.block _ (lt_of_block HPG10.out)).trans HPG10.out⟩
        have HX0 := Lib.hid HX11.out.drew
        have HPL : Hid ((pageB leaf l ks).length = 1024) := pageB_len leaf l ks HZ.out
        obtain ⟨px, hpx⟩ : ∃ px : ByteArray, ⟨(pageB leaf l ks).toArray⟩ = px := ⟨_, rfl⟩
        have HPX := Lib.hid hpx
        have hS0 := HX0.out.S HPL.out HPX.out
        clear h11 hb11 HN10 HPG10 HRD2 HB10 hpx HX11
        go_region_held (fun w' => CP w' bb px ∧ C3 w' b3 leaf A l.length c B ks.length d ∧ C3 w' b7 leaf A2 l.length c2 B2 ks.length d2)
          (first | (with_reducible exact hS0) | (with_reducible exact hS1) | (with_reducible exact hS2) | (with_reducible exact hS3))
          (first
            | (go_at_call 22; refine (page_any leaf A c l B d ks _ HX0.out.n.rd HSHP.out HZ.out).mono ?_; rintro e y5 ⟨g5, c5, rfl, hrow, hb⟩; have HY1 := Lib.hid hb; have HX1 := Lib.hid (HX0.out.below hb); have hS1 := HX1.out.S HPL.out HPX.out; have hcv5 := row_conv (c := c5) hrow HPL.out; rw [HPX.out] at hcv5; clear hb hrow)
            | (go_at_call 12; refine (plain_any leaf A2 l.length c2 B2 ks.length d2 _).mono ?_; rintro e y6 ⟨rfl, hb⟩; have HY2 := Lib.hid hb; have HX2 := Lib.hid (HX1.out.below hb); have hS2 := HX2.out.S HPL.out HPX.out; clear hb)
            | (go_at_call 23; refine (rsame_any leaf A2 c2 l B2 d2 ks A c B d _ HX2.out.rd2 HX2.out.n.rd (Nat.le_trans HSM.out.len (by omega)) (Nat.le_trans HSM.out.kids (by omega))).mono ?_; rintro e y7 ⟨rfl, hb⟩; have HY3 := Lib.hid hb; have HX3 := Lib.hid (HX2.out.below hb); have hS3 := HX3.out.S HPL.out HPX.out; clear hb))
        all_goals
          go_wp2_with fail
          go_ret
          exact ⟨rfl, HB11.out.trans ((((pw_below_drewN (Below.refl w11.heap.size w11) 1).trans HY1.out).trans (HY2.out.mono HY1.out.size)).trans (HY3.out.mono (Nat.le_trans HY1.out.size HY2.out.size)) |>.mono HB11.out.size)⟩
end Go.Proofs.Ytnjdmaeoebihpaa
