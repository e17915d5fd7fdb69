/-
  The law PageFinds, walked.
-/
import Derived.Test.YtnjdmaeoebihpaaPgOpen
namespace Go.Proofs.Ytnjdmaeoebihpaa
open Go.RowKit Go.ChangeShapes Go.WideShapes Go.ChangeAt Go.Proofs.YtnjdmaeoebihpaaW.PrintWords Go.Proofs.YtnjdmaeoebihpaaW.PrintLast Go.Proofs.YtnjdmaeoebihpaaW.PrintMore
set_option linter.unusedVariables false
set_option linter.unusedSimpArgs false

set_option maxRecDepth 100000 in
set_option maxHeartbeats 4000000 in
theorem pageFinds_any (leaf : Bool) (A : Option Addr) (c : Nat) (l : List ByteArray) (B : Option Addr) (d : Nat) (ks : List Int) (s : ByteArray) (w : World) (hr : RdN w A c l B d ks) (hs : s.size ≤ 140737488351232) :
    Calls Try.prog 3 #[.agg #[.bool leaf, .slice A l.length c, .slice B ks.length d], .string s] w fun e w' => e = .returned (.bool true) ∧ Below w.heap.size w w' := by
  have hnot := @unary_not Try.prog
  have HR := Lib.hid hr
  clear hr
  have hblk := heap_alloc_new w (NodeObj leaf A l.length c B ks.length d)
  obtain ⟨w1, hw1⟩ : ∃ w1, w1 = w.alloc (.cells #[.bool leaf, .slice A l.length c, .slice B ks.length d] 25) := ⟨_, rfl⟩
  replace hblk : w1.heap[w.heap.size]? = some (NodeObj leaf A l.length c B ks.length d) := by rw [hw1]; exact hblk
  have HB1 : Hid (Below w.heap.size w w1) := (by rw [hw1]; exact (Below.refl _ _).alloc (Nat.le_refl _) _ : Below w.heap.size w w1)
  have HBK1 := Lib.hid hblk
  clear hblk
  go_enter Try.func3, Try.ntmps3
  go_upto_region 1 with (fail)
  rw [← hw1]
  clear hw1
  go_wp2_with fail
  refine (awake_any _).mono ?_
  rintro e w2 ⟨rfl, hb2⟩
  have HB2 := Lib.hid (HB1.out.trans (hb2.mono HB1.out.size))
  have HBK2 := Lib.hid ((hb2.block _ (lt_of_block HBK1.out)).trans HBK1.out)
  clear hb2 HB1 HBK1
  obtain ⟨n0, n1, n2, f0, f1, f2, nl⟩ := three_of_block HBK2.out
  go_wp2_with fail
  refine (great_any leaf A c l B d ks _ (HR.out.below HB2.out)).mono ?_
  rintro e w3 ⟨g, rfl, hg, hb3⟩
  have HB3 := Lib.hid (HB2.out.trans (hb3.mono HB2.out.size))
  have HBK3 := Lib.hid ((hb3.block _ nl).trans HBK2.out)
  have HG := Lib.hid hg
  clear hg hb3 n0 n1 n2 f0 f1 f2 nl HB2 HBK2
  cases g with
  | true =>
    go_wp2_with fail
    go_ret
    exact ⟨rfl, HB3.out⟩
  | false =>
  have HSM := Lib.hid (HG.out rfl)
  by_cases hs1 : s.size > 1000
  · have hs1b : decide ((s.size : Int) > 1000) = true := decide_eq_true (by omega)
    have hs1c : decide ((1000 : Int) < (s.size : Int)) = true := decide_eq_true (by omega)
    go_wp2_with fail
    go_ret
    exact ⟨rfl, HB3.out⟩
  · have hs1b : decide ((s.size : Int) > 1000) = false := decide_eq_false (by omega)
    have hs1c : decide ((1000 : Int) < (s.size : Int)) = false := decide_eq_false (by omega)
    obtain ⟨n0, n1, n2, f0, f1, f2, nl⟩ := three_of_block HBK3.out
    go_wp2_with fail
    refine (plain_any leaf A l.length c B ks.length d _).mono ?_
    rintro e w4 ⟨rfl, hb4⟩
    have HB4 := Lib.hid (HB3.out.trans (hb4.mono HB3.out.size))
    have HBK4 := Lib.hid ((hb4.block _ nl).trans HBK3.out)
    clear hb4 n0 n1 n2 f0 f1 f2 nl HB3 HBK3
    go_wp2_with fail
    refine (rshaped_any leaf A c l B d ks _ (HR.out.below HB4.out) (Nat.le_trans HSM.out.len (by omega)) (Nat.le_trans HSM.out.kids (by omega))).mono ?_
    rintro e w5 ⟨b, rfl, hsh, hb5⟩
    have HB5 := Lib.hid (HB4.out.trans (hb5.mono HB4.out.size))
    have HBK5 := Lib.hid ((hb5.block _ (lt_of_block HBK4.out)).trans HBK4.out)
    have HSH := Lib.hid hsh
    clear hsh hb5 HB4 HBK4
    cases b with
    | false =>
      go_wp2_with fail
      go_ret
      exact ⟨rfl, HB5.out⟩
    | true =>
    have HORD : Hid (Ord l) := (of_eq_true (by simpa using HSH.out) : Shp leaf l ks).ord
    have HLEN : Hid (l.length ≤ 1000) := Nat.le_trans HSM.out.len (by omega)
    obtain ⟨n0, n1, n2, f0, f1, f2, nl⟩ := three_of_block HBK5.out
    go_wp2_with fail
    refine (find_any leaf A c l B d ks s _ (HR.out.below HB5.out) HORD.out HLEN.out).mono ?_
    rintro e w6 ⟨r, hat, rfl, hb6⟩
    have HAT := Lib.hid hat
    have hrl : r ≤ 1000 := Nat.le_trans hat.le HLEN.out
    have HB6 := Lib.hid (HB5.out.trans (hb6.mono HB5.out.size))
    have HBK6 := Lib.hid ((hb6.block _ nl).trans HBK5.out)
    clear hat hb6 n0 n1 n2 f0 f1 f2 nl HB5 HBK5
    obtain ⟨n0, n1, n2, f0, f1, f2, nl⟩ := three_of_block HBK6.out
    go_wp2_with fail
    refine (plain_any leaf A l.length c B ks.length d _).mono ?_
    rintro e w7 ⟨rfl, hb7⟩
    have HB7 := Lib.hid (HB6.out.trans (hb7.mono HB6.out.size))
    have HBK7 := Lib.hid ((hb7.block _ nl).trans HBK6.out)
    clear hb7 n0 n1 n2 f0 f1 f2 nl HB6 HBK6
    go_wp2_with fail
    refine (below_any leaf A c l B d ks s _ (HR.out.below HB7.out) HORD.out HLEN.out).mono ?_
    rintro e w8 ⟨r', hat', rfl, hb8⟩
    obtain rfl : r' = r := hat'.one HAT.out
    have HB8 := Lib.hid (HB7.out.trans (hb8.mono HB7.out.size))
    have HBK8 := Lib.hid ((hb8.block _ (lt_of_block HBK7.out)).trans HBK7.out)
    clear hat' hb8 HB7 HBK7
    obtain ⟨n0, n1, n2, f0, f1, f2, nl⟩ := three_of_block HBK8.out
    obtain ⟨q, hq⟩ : ∃ q, isAt l s r' = q := ⟨_, rfl⟩
    rw [hq]
    have HQ := Lib.hid hq
    clear hq
    cases q with
    | true =>
      go_wp2_with fail
      refine (kid_any leaf A c l B d ks s _ (HR.out.below HB8.out) HORD.out HLEN.out).mono ?_
      rintro e w9 ⟨r2, hat2, rfl, hb9⟩
      obtain rfl : r2 = r' := hat2.one HAT.out
      rw [if_pos HQ.out]
      have HB9 := Lib.hid (HB8.out.trans (hb9.mono HB8.out.size))
      clear hat2 hb9 n0 n1 n2 f0 f1 f2 nl
      go_wp2_with fail
      go_ret
      exact ⟨rfl, HB9.out⟩
    | false =>
      go_wp2_with fail
      refine (kid_any leaf A c l B d ks s _ (HR.out.below HB8.out) HORD.out HLEN.out).mono ?_
      rintro e w9 ⟨r2, hat2, rfl, hb9⟩
      obtain rfl : r2 = r' := hat2.one HAT.out
      rw [if_neg (by rw [HQ.out]; decide)]
      have HB9 := Lib.hid (HB8.out.trans (hb9.mono HB8.out.size))
      clear hat2 hb9 n0 n1 n2 f0 f1 f2 nl
      go_wp2_with fail
      go_ret
      exact ⟨rfl, HB9.out⟩
theorem pageFinds_walk {H : Type} {enc : TypeId × Value → H} {sp0 : Nat → Bool} {hd0 : Bool} {d0 : DataW H} {p0 : List MemPlace} {b0 : Nat} (v0 : Value) (s : ByteArray) (w : World)
    (hv0 : Value.okWide Try.prog w .any b0 25 v0) (h0 : DataW.Trod enc Try.prog w 0 sp0 hd0 25 v0 d0 p0) (hs : s.size ≤ 140737488351232) :
    Calls Try.prog 3 #[v0, .string s] w fun e w' => e = .returned (.bool true) ∧ Below w.heap.size w w' := by
  obtain ⟨leaf, A, c, l, B, d, ks, rfl, hr, -⟩ := open_node hv0 h0
  exact pageFinds_any leaf A c l B d ks s w hr hs
end Go.Proofs.Ytnjdmaeoebihpaa
