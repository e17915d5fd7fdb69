/-
  The document's Below; Kid.
-/
import Derived.Test.YtnjdmaeoebihpaaPgRef
namespace Go.Proofs.Ytnjdmaeoebihpaa
open Go.RowKit Go.Proofs.YtnjdmaeoebihpaaW.PrintWords Go.Proofs.YtnjdmaeoebihpaaW.PrintLast Go.Proofs.YtnjdmaeoebihpaaW.PrintMore
set_option linter.unusedVariables false
set_option linter.unusedSimpArgs false

set_option maxRecDepth 100000 in
set_option maxHeartbeats 4000000 in
theorem below_any (leaf : Bool) (A : Option Addr) (c : Nat) (l : List ByteArray) (B : Option Addr) (d : Nat) (ks : List Int) (s : ByteArray) (w : World) (hr : RdN w A c l B d ks) (ho : Ord l) (hl : l.length ≤ 1000) :
    Calls Try.prog 14 #[.agg #[.bool leaf, .slice A l.length c, .slice B ks.length d], .string s] w (FindIs l s w) := by
  have HR := Lib.hid hr
  have HO := Lib.hid ho
  clear hr ho
  have hblk := heap_alloc_new w (RNodeObj leaf A l.length c B ks.length d)
  obtain ⟨w1, hw1⟩ : ∃ w1, w1 = w.alloc (.cells #[.bool leaf, .slice A l.length c, .slice B ks.length d] 29) := ⟨_, rfl⟩
  replace hblk : w1.heap[w.heap.size]? = some (RNodeObj leaf A l.length c B ks.length d) := by rw [hw1]; exact hblk
  have HB1 : Hid (Below w.heap.size w w1) := (by rw [hw1]; exact (Below.refl _ _).alloc (Nat.le_refl _) _ : Below w.heap.size w w1)
  obtain ⟨n0, n1, n2, f0, f1, f2, nl⟩ := three_of_block hblk
  have HBK := Lib.hid hblk
  clear hblk
  have HRW := Lib.hid (HR.out.below HB1.out)
  go_enter Try.func14, Try.ntmps14
  go_upto_region 1 with (fail)
  rw [← hw1]
  clear hw1
  go_wp2_with fail
  go_loopg [6] l.length (fun g i w' => ∃ j : Nat, j ≤ l.length ∧ g = l.length - j ∧ i = .int .i64 j ∧ Hid (∀ m, m < j → lt (rec l m) s = true) ∧ w' = w1)
  case atStart => exact ⟨0, by omega, by omega, rfl, Lib.hid (fun m hm => absurd hm (Nat.not_lt_zero _)), rfl⟩
  case round =>
    obtain ⟨j, hj, hg, rfl, HM, rfl⟩ := hrel
    by_cases hlt : j < l.length
    · obtain ⟨ad, rfl, hcell⟩ := Kd.at_string HRW.out.recs (j : Int) (by omega) (by omega)
      simp only [Int.toNat_natCast, rdOf_rec] at hcell
      have hlt2 : (j : Int) < (l.length : Int) := by omega
      have hlt3 : decide ((j : Int) < (l.length : Int)) = true := decide_eq_true hlt2
      obtain ⟨x, hx⟩ : ∃ x, x = rec l j := ⟨_, rfl⟩
      rw [← hx] at hcell
      have HX := Lib.hid hx
      clear hx
      cases h4 : lt x s with
      | true =>
        have hA : Op.bytesLess x.toList s.toList = true := h4
        have HL4 := Lib.hid h4
        clear h4
        go_wp2_with fail
        go_roundg (l.length - (j + 1))
        case measure => omega
        case rel =>
          refine ⟨j + 1, by omega, rfl, by go_num, Lib.hid (fun m hm => ?_), rfl⟩
          rcases Nat.lt_succ_iff_lt_or_eq.1 hm with h | rfl
          · exact HM.out m h
          · rw [← HX.out]; exact HL4.out
      | false =>
        have hA : Op.bytesLess x.toList s.toList = false := h4
        have HAT : Hid (At l s j) := (⟨hj, HM.out, fun m h1 h2 => by
          cases hc : lt (rec l m) s with
          | false => rfl
          | true =>
            have := HO.out.down h1 h2 hc
            rw [← HX.out, h4] at this
            cases this⟩ : At l s j)
        clear h4
        have HIS : Hid (isAt l s j = (x.toList == s.toList)) := (by simp [isAt, hlt, ← HX.out] : isAt l s j = (x.toList == s.toList))
        cases h5 : (x.toList == s.toList) with
        | true =>
          have h6 : x.toList = s.toList := eq_of_beq h5
          have hA2 : Op.bytesLess s.toList s.toList = false := less_irrefl _
          have HIS2 : Hid (isAt l s j = true) := HIS.out.trans h5
          go_wp2_with fail
          go_quiet (fail)
          go_wp2_with fail
          go_ret2
          exact ⟨j, HAT.out, by rw [HIS2.out]; rfl, below_drewN HB1.out _⟩
        | false =>
          have h6 : x.toList ≠ s.toList := beq_eq_false_iff_ne.1 h5
          have HIS2 : Hid (isAt l s j = false) := HIS.out.trans h5
          go_wp2_with fail
          go_quiet (fail)
          go_wp2_with fail
          go_ret2
          exact ⟨j, HAT.out, by rw [HIS2.out]; rfl, below_drewN HB1.out _⟩
    · have hlt2 : ¬ (j : Int) < (l.length : Int) := by omega
      have hlt3 : decide ((j : Int) < (l.length : Int)) = false := decide_eq_false hlt2
      have HAT : Hid (At l s j) := (⟨hj, HM.out, fun m h1 h2 => by omega⟩ : At l s j)
      have HIS2 : Hid (isAt l s j = false) := (by simp [isAt, hlt] : isAt l s j = false)
      go_wp2_with fail
      go_quiet (fail)
      go_wp2_with fail
      go_ret2
      exact ⟨j, HAT.out, by rw [HIS2.out]; rfl, below_drewN HB1.out _⟩
def KidIs (l : List ByteArray) (s : ByteArray) (w : World) (e : Ending) (w' : World) : Prop := ∃ r : Nat, At l s r ∧ e = .returned (.int .i64 (if isAt l s r = true then (r : Int) + 1 else r)) ∧ Below w.heap.size w w'
theorem kid_any (leaf : Bool) (A : Option Addr) (c : Nat) (l : List ByteArray) (B : Option Addr) (d : Nat) (ks : List Int) (s : ByteArray) (w : World) (hr : RdN w A c l B d ks) (ho : Ord l) (hl : l.length ≤ 1000) :
    Calls Try.prog 15 #[.agg #[.bool leaf, .slice A l.length c, .slice B ks.length d], .string s] w (KidIs l s w) := by
  have HR := Lib.hid hr
  have HO := Lib.hid ho
  clear hr ho
  have hblk := heap_alloc_new w (NodeObj leaf A l.length c B ks.length d)
  obtain ⟨w1, hw1⟩ : ∃ w1, w1 = w.alloc (.cells #[.bool leaf, .slice A l.length c, .slice B ks.length d] 25) := ⟨_, rfl⟩
  replace hblk : w1.heap[w.heap.size]? = some (NodeObj leaf A l.length c B ks.length d) := by rw [hw1]; exact hblk
  have HB1 : Hid (Below w.heap.size w w1) := (by rw [hw1]; exact (Below.refl _ _).alloc (Nat.le_refl _) _ : Below w.heap.size w w1)
  obtain ⟨n0, n1, n2, f0, f1, f2, nl⟩ := three_of_block hblk
  clear hblk
  go_enter Try.func15, Try.ntmps15
  go_upto_region 1 with (fail)
  rw [← hw1]
  clear hw1
  go_wp2_with fail
  refine (find_any leaf A c l B d ks s _ (HR.out.below HB1.out) HO.out hl).mono ?_
  rintro e w2 ⟨r, hat, rfl, hb2⟩
  have HAT := Lib.hid hat
  have hle := hat.le
  have HB2 := Lib.hid (HB1.out.trans (hb2.mono HB1.out.size))
  clear hat hb2 n0 n1 n2 f0 f1 f2 nl
  cases hb : isAt l s r with
  | true =>
    have HIS := Lib.hid hb
    clear hb
    go_wp2_with fail
    go_ret
    exact ⟨r, HAT.out, by rw [if_pos HIS.out]; rfl, HB2.out⟩
  | false =>
    have HIS := Lib.hid hb
    clear hb
    go_wp2_with fail
    go_ret
    exact ⟨r, HAT.out, by rw [HIS.out]; rfl, HB2.out⟩
end Go.Proofs.Ytnjdmaeoebihpaa
