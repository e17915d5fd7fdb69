/-
  shaped and Right, walked.
-/
import Derived.Test.YtnjdmaeoebihpaaPgBase
import Derived.Test.YtnjdmaeoebihpaaPgLess
import Derived.BigQuiet
import Derived.Deep.QuietTactic
namespace Go.Proofs.Ytnjdmaeoebihpaa
open Go.RowKit Go.Proofs.YtnjdmaeoebihpaaW.PrintWords Go.Proofs.YtnjdmaeoebihpaaW.PrintLast Go.Proofs.YtnjdmaeoebihpaaW.PrintMore
set_option linter.unusedVariables false
set_option linter.unusedSimpArgs false

/-- The node's box. -/
def NodeObj (leaf : Bool) (A : Option Addr) (n c : Nat) (B : Option Addr) (m d : Nat) : Obj := .cells #[.bool leaf, .slice A n c, .slice B m d] 25
def ShpIs (leaf : Bool) (l : List ByteArray) (ks : List Int) (w : World) (e : Ending) (w' : World) : Prop := ∃ b : Bool, e = .returned (.bool b) ∧ (b = true ↔ Shp leaf l ks) ∧ Below w.heap.size w w'
def recB (l : List ByteArray) (j : Nat) : Bool := decide ((rec l j).size < 1) || (decide ((rec l j).size > 400) || (decide (0 < j) && !(lt (rec l (j - 1)) (rec l j))))
theorem recB_false (l : List ByteArray) (j : Nat) : recB l j = false ↔ RecOk l j := by
  simp only [recB, Bool.or_eq_false_iff, decide_eq_false_iff_not, Bool.and_eq_false_iff, Bool.not_eq_false', Nat.not_lt]
  constructor
  · rintro ⟨h1, h2, h3⟩
    exact ⟨h1, by omega, fun h0 => by rcases h3 with h | h; exact absurd h0 (by omega); exact h⟩
  · rintro ⟨h1, h2, h3⟩
    exact ⟨h1, by omega, by rcases Nat.eq_zero_or_pos j with h | h; exact .inl (by omega); exact .inr (h3 h)⟩
/-- Is the number of Kids wrong? -/
def lenBad (leaf : Bool) (n m : Nat) : Bool := if leaf then decide (0 < m) else decide (m ≠ n + 1)
theorem lenBad_false (leaf : Bool) (n m : Nat) : lenBad leaf n m = false ↔ if leaf = true then m = 0 else m = n + 1 := by
  cases leaf <;> simp [lenBad]

set_option maxHeartbeats 2000000 in
theorem shaped_any (leaf : Bool) (A : Option Addr) (c : Nat) (l : List ByteArray) (B : Option Addr) (d : Nat) (ks : List Int) (w : World) (hr : RdN w A c l B d ks) (hl : l.length ≤ 1000000) (hk : ks.length ≤ 1000000) :
    Calls Try.prog 28 #[.agg #[.bool leaf, .slice A l.length c, .slice B ks.length d]] w (ShpIs leaf l ks w) := by
  have HR := Lib.hid hr
  clear hr
  have hblk := heap_alloc_new w (NodeObj leaf A l.length c B ks.length d)
  obtain ⟨w1, hw1⟩ : ∃ w1, w1 = w.alloc (.cells #[.bool leaf, .slice A l.length c, .slice B ks.length d] 25) := ⟨_, rfl⟩
  replace hblk : w1.heap[w.heap.size]? = some (NodeObj leaf A l.length c B ks.length d) := by rw [hw1]; exact hblk
  have HB1 : Hid (Below w.heap.size w w1) := (by rw [hw1]; exact (Below.refl _ _).alloc (Nat.le_refl _) _ : Below w.heap.size w w1)
  obtain ⟨n0, n1, n2, f0, f1, f2, nl⟩ := three_of_block hblk
  have HBK := Lib.hid hblk
  clear hblk
  obtain ⟨lb, hlb⟩ : ∃ lb, lb = lenBad leaf l.length ks.length := ⟨_, rfl⟩
  have HLB := Lib.hid hlb
  clear hlb
  go_enter Try.func28, Try.ntmps28
  go_upto_region 1 with (fail)
  rw [← hw1]
  clear hw1
  go_cut [27] (fun v wc => v = .bool lb ∧ wc = w1)
  case first =>
    cases leaf with
    | true =>
      have hlb : lb = decide (0 < ks.length) := HLB.out
      subst hlb
      by_cases h0 : 0 < ks.length
      · have h0b : decide ((0 : Int) < (ks.length : Int)) = true := decide_eq_true (by omega)
        go_wp2_with fail
        go_meet
        exact ⟨by rw [decide_eq_true h0], rfl⟩
      · have h0b : decide ((0 : Int) < (ks.length : Int)) = false := decide_eq_false (by omega)
        go_wp2_with fail
        go_meet
        exact ⟨by rw [decide_eq_false h0], rfl⟩
    | false =>
      have hlb : lb = decide (ks.length ≠ l.length + 1) := HLB.out
      subst hlb
      by_cases h0 : ks.length = l.length + 1
      · have h0b : ((ks.length : Int) != (l.length : Int) + 1) = false := by simp; omega
        go_wp2_with fail
        go_meet
        exact ⟨by simp [h0], rfl⟩
      · have h0b : ((ks.length : Int) != (l.length : Int) + 1) = true := by simp; omega
        go_wp2_with fail
        go_meet
        exact ⟨by simp [h0], rfl⟩
  case rest =>
    obtain ⟨rfl, rfl⟩ := hcut
    cases lb with
    | true =>
      go_wp2_with fail
      go_ret
      refine ⟨_, rfl, ⟨(fun h => by cases h), fun h => ?_⟩, HB1.out⟩
      have h1 := (lenBad_false leaf l.length ks.length).2 h.len
      rw [← HLB.out] at h1
      cases h1
    | false =>
      have HLEN := Lib.hid ((lenBad_false leaf l.length ks.length).1 HLB.out.symm)
      go_wp2_with fail
      go_loopg [31] l.length (fun g i w' => ∃ j : Nat, j ≤ l.length ∧ g = l.length - j ∧ i = .int .i64 j ∧ Hid (∀ m, m < j → RecOk l m) ∧ w' = wc)
      case atStart => exact ⟨0, by omega, by omega, rfl, Lib.hid (fun m hm => absurd hm (Nat.not_lt_zero _)), rfl⟩
      case round =>
        obtain ⟨j, hj, hg, rfl, HM, rfl⟩ := hrel
        have hrw := (HR.out.below HB1.out)
        have HRW := Lib.hid hrw
        clear hrw
        by_cases hlt : j < l.length
        · obtain ⟨ad, rfl, hcell⟩ := Kd.at_string HRW.out.recs (j : Int) (by omega) (by omega)
          simp only [Int.toNat_natCast, rdOf_rec] at hcell
          have hlt2 : (j : Int) < (l.length : Int) := by omega
          obtain ⟨x, hx⟩ : ∃ x, x = rec l j := ⟨_, rfl⟩
          rw [← hx] at hcell
          have HX := Lib.hid hx
          clear hx
          by_cases h1 : x.size < 1
          · have h1b : decide ((x.size : Int) < 1) = true := decide_eq_true (by omega)
            go_wp2_with fail
            go_ret
            refine ⟨_, rfl, ⟨(fun h => by cases h), fun h => ?_⟩, HB1.out⟩
            have := (h.recs j hlt).lo
            rw [← HX.out] at this
            omega
          · have h1b : decide ((x.size : Int) < 1) = false := decide_eq_false (by omega)
            by_cases h2 : x.size > 400
            · have h2b : decide ((x.size : Int) > 400) = true := decide_eq_true (by omega)
              have h2c : decide ((400 : Int) < (x.size : Int)) = true := decide_eq_true (by omega)
              go_wp2_with fail
              go_ret
              refine ⟨_, rfl, ⟨(fun h => by cases h), fun h => ?_⟩, HB1.out⟩
              have := (h.recs j hlt).hi
              rw [← HX.out] at this
              omega
            · have h2b : decide ((x.size : Int) > 400) = false := decide_eq_false (by omega)
              have h2c : decide ((400 : Int) < (x.size : Int)) = false := decide_eq_false (by omega)
              by_cases h3 : 0 < j
              · have h3b : decide ((j : Int) > 0) = true := decide_eq_true (by omega)
                have h3c : decide ((0 : Int) < (j : Int)) = true := decide_eq_true (by omega)
                obtain ⟨i, hij⟩ : ∃ i, i + 1 = j := ⟨j - 1, by omega⟩
                obtain ⟨ad2, had2, hcell2⟩ := Kd.at_string HRW.out.recs (i : Int) (by omega) (by omega)
                obtain rfl : ad = ad2 := Option.some.inj had2
                simp only [Int.toNat_natCast, rdOf_rec] at hcell2
                obtain ⟨y, hy⟩ : ∃ y, y = rec l i := ⟨_, rfl⟩
                rw [← hy] at hcell2
                have HY := Lib.hid hy
                clear hy had2
                have hi1 : (j : Int) - 1 = (i : Int) := by omega
                have hi2 : IntKind.i64.wrap ((j : Int) - 1) = (i : Int) := by rw [hi1]; exact IntWalk.i64_in _ (by omega)
                have hi3 : (i : Int) < (l.length : Int) := by omega
                have hi4 : (0 : Int) ≤ (i : Int) := by omega
                have HJ1 : Hid (j - 1 = i) := (by omega : j - 1 = i)
                have HIJ := Lib.hid hij
                clear hij
                by_cases h4 : lt y x = true
                · have hA : Op.bytesLess x.toList y.toList = false := less_asymm _ _ h4
                  have hB : (x.toList == y.toList) = false := by
                    have := less_ne _ _ h4
                    rw [beq_eq_false_iff_ne] at this ⊢
                    exact fun e => this e.symm
                  have HL4 := Lib.hid h4
                  clear h4
                  go_wp2_with fail
                  go_roundg (l.length - (j + 1))
                  case measure => omega
                  case rel =>
                    refine ⟨j + 1, by omega, rfl, by go_num, Lib.hid (fun m hm => ?_), rfl⟩
                    rcases Nat.lt_succ_iff_lt_or_eq.1 hm with h | rfl
                    · exact HM.out m h
                    · exact ⟨by rw [← HX.out]; omega, by rw [← HX.out]; omega, fun _ => by rw [HJ1.out, ← HX.out, ← HY.out]; exact HL4.out⟩
                · have h4 : lt y x = false := by cases h : lt y x with | false => rfl | true => exact absurd h h4
                  have HL4 := Lib.hid h4
                  rcases less_cases _ _ h4 with hA | hB
                  · clear h4
                    go_wp2_with fail
                    go_ret
                    refine ⟨_, rfl, ⟨(fun h => by cases h), fun h => ?_⟩, HB1.out⟩
                    have h9 := (h.recs _ hlt).up (by omega)
                    rw [HJ1.out, ← HX.out, ← HY.out] at h9
                    exact absurd h9 (by rw [HL4.out]; decide)
                  · have hA : Op.bytesLess x.toList y.toList = false := by rw [hB]; exact less_irrefl _
                    replace hB : (x.toList == y.toList) = true := by rw [hB]; exact beq_self_eq_true _
                    clear h4
                    go_wp2_with fail
                    go_ret
                    refine ⟨_, rfl, ⟨(fun h => by cases h), fun h => ?_⟩, HB1.out⟩
                    have h9 := (h.recs _ hlt).up (by omega)
                    rw [HJ1.out, ← HX.out, ← HY.out] at h9
                    exact absurd h9 (by rw [HL4.out]; decide)
              · have h3b : decide ((j : Int) > 0) = false := decide_eq_false (by omega)
                have h3c : decide ((0 : Int) < (j : Int)) = false := decide_eq_false (by omega)
                go_wp2_with fail
                go_roundg (l.length - (j + 1))
                case measure => omega
                case rel =>
                  refine ⟨j + 1, by omega, rfl, by go_num, Lib.hid (fun m hm => ?_), rfl⟩
                  rcases Nat.lt_succ_iff_lt_or_eq.1 hm with h | rfl
                  · exact HM.out m h
                  · exact ⟨by rw [← HX.out]; omega, by rw [← HX.out]; omega, fun h => absurd h h3⟩
        · have hlt2 : ¬ (j : Int) < (l.length : Int) := by omega
          go_wp2_with fail
          refine (contains_any B ks d _ HRW.out.kids HRW.out.kc hk).mono ?_
          rintro e w' ⟨b, rfl, hb, rfl⟩
          have HBB := Lib.hid hb
          clear hb
          go_wp2_with fail
          go_ret
          refine ⟨_, rfl, ?_, HB1.out⟩
          have hmm : ∀ m, m < l.length → RecOk l m := fun m hm => HM.out m (by omega)
          cases b with
          | false => exact ⟨fun _ => ⟨HLEN.out, hmm, HBB.out.1 rfl⟩, fun _ => rfl⟩
          | true => exact ⟨(fun h => by cases h), fun h => absurd (HBB.out.2 h.kids) (by decide)⟩
end Go.Proofs.Ytnjdmaeoebihpaa
