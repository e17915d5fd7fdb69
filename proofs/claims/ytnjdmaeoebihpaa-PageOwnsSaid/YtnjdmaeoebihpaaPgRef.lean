/-
  Plain, and the document's Shaped and Below; Kid.
-/
import Derived.Test.YtnjdmaeoebihpaaPgFind
import Derived.BigQuiet
import Derived.Deep.QuietTactic
namespace Go.Proofs.Ytnjdmaeoebihpaa
open Go.RowKit Go.Proofs.YtnjdmaeoebihpaaW.PrintWords Go.Proofs.YtnjdmaeoebihpaaW.PrintLast Go.Proofs.YtnjdmaeoebihpaaW.PrintMore
set_option linter.unusedVariables false
set_option linter.unusedSimpArgs false

theorem below_drewN {b : Nat} {w0 w : World} (h : Below b w0 w) (n : Nat) : Below b w0 (w.drewN n) := pw_below_drewN h n
theorem plain_any (leaf : Bool) (A : Option Addr) (n c : Nat) (B : Option Addr) (m d : Nat) (w : World) :
    Calls Try.prog 12 #[.agg #[.bool leaf, .slice A n c, .slice B m d]] w fun e w' => e = .returned (.agg #[.bool leaf, .slice A n c, .slice B m d]) ∧ Below w.heap.size w w' := by
  go_enter Try.func12, Try.ntmps12
  go_wp2_with fail
  refine bodyPost_ret (v := .agg #[.bool leaf, .slice A n c, .slice B m d]) (by simp [results, Try.results12, go_sem]) rfl ⟨rfl, ?_⟩
  exact ((Below.refl _ _).alloc (Nat.le_refl _) _).alloc (by rw [heap_alloc_size]; exact Nat.le_succ _) _
/-- The node's box, the document's. -/
def RNodeObj (leaf : Bool) (A : Option Addr) (n c : Nat) (B : Option Addr) (m d : Nat) : Obj := .cells #[.bool leaf, .slice A n c, .slice B m d] 29

set_option maxRecDepth 100000 in
set_option maxHeartbeats 4000000 in
theorem rshaped_any (leaf : Bool) (A : Option Addr) (c : Nat) (l : List ByteArray) (B : Option Addr) (d : Nat) (ks : List Int) (w : World) (hr : RdN w A c l B d ks) (hl : l.length ≤ 1000000) (hk : ks.length ≤ 1000000) :
    Calls Try.prog 11 #[.agg #[.bool leaf, .slice A l.length c, .slice B ks.length d]] w (ShpIs leaf l ks w) := by
  have HR := Lib.hid hr
  clear hr
  have hblk := heap_alloc_new w (RNodeObj leaf A l.length c B ks.length d)
  obtain ⟨w1, hw1⟩ : ∃ w1, w1 = w.alloc (.cells #[.bool leaf, .slice A l.length c, .slice B ks.length d] 29) := ⟨_, rfl⟩
  replace hblk : w1.heap[w.heap.size]? = some (RNodeObj leaf A l.length c B ks.length d) := by rw [hw1]; exact hblk
  have HB1 : Hid (Below w.heap.size w w1) := (by rw [hw1]; exact (Below.refl _ _).alloc (Nat.le_refl _) _ : Below w.heap.size w w1)
  obtain ⟨n0, n1, n2, f0, f1, f2, nl⟩ := three_of_block hblk
  have HBK := Lib.hid hblk
  clear hblk
  obtain ⟨lb, hlb⟩ : ∃ lb, lb = lenBad leaf l.length ks.length := ⟨_, rfl⟩
  have HLB := Lib.hid hlb
  clear hlb
  go_enter Try.func11, Try.ntmps11
  go_upto_region 1 with (fail)
  rw [← hw1]
  clear hw1
  go_cut [27] (fun v wc => v = .bool lb ∧ wc = w1)
  case first =>
    cases leaf with
    | true =>
      have hlb : lb = decide (0 < ks.length) := HLB.out
      subst hlb
      by_cases h0 : 0 < ks.length
      · have h0b : ((ks.length : Int) != 0) = true := bne_iff_ne.2 (by omega)
        go_wp2_with fail
        go_meet
        exact ⟨by rw [decide_eq_true h0], rfl⟩
      · have h0b : ((ks.length : Int) != 0) = false := bne_eq_false_iff_eq.2 (by omega)
        go_wp2_with fail
        go_meet
        exact ⟨by rw [decide_eq_false h0], rfl⟩
    | false =>
      have hlb : lb = decide (ks.length ≠ l.length + 1) := HLB.out
      subst hlb
      by_cases h0 : ks.length = l.length + 1
      · have h0b : ((ks.length : Int) - (l.length : Int) != 1) = false := bne_eq_false_iff_eq.2 (by omega)
        have h0c : (ks.length : Int) - (l.length : Int) = 1 := by omega
        have HD : Hid (decide (ks.length ≠ l.length + 1) = false) := decide_eq_false (fun h => h h0)
        clear h0
        go_wp2_with fail
        go_meet
        exact ⟨by rw [HD.out], rfl⟩
      · have h0b : ((ks.length : Int) - (l.length : Int) != 1) = true := bne_iff_ne.2 (by omega)
        go_wp2_with fail
        go_meet
        exact ⟨by simp [h0], rfl⟩
  case rest =>
    obtain ⟨rfl, rfl⟩ := hcut
    cases lb with
    | true =>
      go_wp2_with fail
      go_ret
      refine ⟨_, rfl, ⟨(fun h => by cases h), fun h => ?_⟩, HB1.out⟩
      have h1 := (lenBad_false leaf l.length ks.length).2 h.len
      rw [← HLB.out] at h1
      cases h1
    | false =>
      have HLEN := Lib.hid ((lenBad_false leaf l.length ks.length).1 HLB.out.symm)
      go_wp2_with fail
      go_loopg [3] l.length (fun g i w' => ∃ j : Nat, j ≤ l.length ∧ g = l.length - j ∧ i = .int .i64 j ∧ Hid (∀ m, m < j → RecOk l m) ∧ Hid (∃ n, w' = wc.drewN n))
      case atStart => exact ⟨0, by omega, by omega, rfl, Lib.hid (fun m hm => absurd hm (Nat.not_lt_zero _)), Lib.hid ⟨0, rfl⟩⟩
      case round =>
        obtain ⟨j, hj, hg, rfl, HM, HW⟩ := hrel
        obtain ⟨n, rfl⟩ := HW.out
        have HBn := Lib.hid (below_drewN HB1.out n)
        have HRW := Lib.hid (HR.out.below HB1.out)
        by_cases hlt : j < l.length
        · obtain ⟨ad, rfl, hcell⟩ := Kd.at_string HRW.out.recs (j : Int) (by omega) (by omega)
          simp only [Int.toNat_natCast, rdOf_rec] at hcell
          have hlt2 : (j : Int) < (l.length : Int) := by omega
          obtain ⟨x, hx⟩ : ∃ x, x = rec l j := ⟨_, rfl⟩
          rw [← hx] at hcell
          have HX := Lib.hid hx
          clear hx
          by_cases h1 : x.size < 1
          · have hE : x.toList = [] := by rw [ByteArray.toList_eq]; exact List.eq_nil_of_length_eq_zero (by rw [data_len]; omega)
            go_wp2_with fail
            go_quiet (fail)
            go_wp2_with fail
            go_ret
            refine ⟨_, rfl, ⟨(fun h => by cases h), fun h => ?_⟩, below_drewN HBn.out _⟩
            have h9 := (h.recs j hlt).lo
            rw [← HX.out] at h9
            omega
          · have hE0 : x.toList ≠ [] := by rw [ByteArray.toList_eq]; exact fun e => by have := congrArg List.length e; rw [data_len, List.length_nil] at this; omega
            have hE : x.toList.isEmpty = false := by cases h : x.toList with | nil => exact absurd h hE0 | cons _ _ => rfl
            have hE2 : (x.toList == []) = false := beq_eq_false_iff_ne.2 hE0
            clear hE0
            by_cases h2 : x.size > 400
            · have h2b : decide ((x.size : Int) > 400) = true := decide_eq_true (by omega)
              have h2c : decide ((400 : Int) < (x.size : Int)) = true := decide_eq_true (by omega)
              go_wp2_with fail
              go_quiet (fail)
              go_wp2_with fail
              go_ret
              refine ⟨_, rfl, ⟨(fun h => by cases h), fun h => ?_⟩, below_drewN HBn.out _⟩
              have h9 := (h.recs j hlt).hi
              rw [← HX.out] at h9
              omega
            · have h2b : decide ((x.size : Int) > 400) = false := decide_eq_false (by omega)
              have h2c : decide ((400 : Int) < (x.size : Int)) = false := decide_eq_false (by omega)
              by_cases h3 : 0 < j
              · have h3b : decide ((j : Int) > 0) = true := decide_eq_true (by omega)
                have h3c : decide ((0 : Int) < (j : Int)) = true := decide_eq_true (by omega)
                obtain ⟨i, hij⟩ : ∃ i, i + 1 = j := ⟨j - 1, by omega⟩
                obtain ⟨ad2, had2, hcell2⟩ := Kd.at_string HRW.out.recs (i : Int) (by omega) (by omega)
                obtain rfl : ad = ad2 := Option.some.inj had2
                simp only [Int.toNat_natCast, rdOf_rec] at hcell2
                obtain ⟨y, hy⟩ : ∃ y, y = rec l i := ⟨_, rfl⟩
                rw [← hy] at hcell2
                have HY := Lib.hid hy
                clear hy had2
                have hi1 : (j : Int) - 1 = (i : Int) := by omega
                have hi2 : IntKind.i64.wrap ((j : Int) - 1) = (i : Int) := by rw [hi1]; exact IntWalk.i64_in _ (by omega)
                have hi3 : (i : Int) < (l.length : Int) := by omega
                have hi4 : (0 : Int) ≤ (i : Int) := by omega
                have HJ1 : Hid (j - 1 = i) := (by omega : j - 1 = i)
                have HIJ := Lib.hid hij
                clear hij
                cases h4 : lt y x with
                | true =>
                  have hA : Op.bytesLess y.toList x.toList = true := h4
                  have HL4 := Lib.hid h4
                  clear h4
                  go_wp2_with fail
                  go_quiet (fail)
                  go_wp2_with fail
                  go_roundg (l.length - (j + 1))
                  case measure => omega
                  case rel =>
                    refine ⟨j + 1, by omega, rfl, by go_num, Lib.hid (fun m hm => ?_), Lib.hid ⟨_, rfl⟩⟩
                    rcases Nat.lt_succ_iff_lt_or_eq.1 hm with h | rfl
                    · exact HM.out m h
                    · exact ⟨by rw [← HX.out]; omega, by rw [← HX.out]; omega, fun _ => by rw [HJ1.out, ← HX.out, ← HY.out]; exact HL4.out⟩
                | false =>
                  have hA : Op.bytesLess y.toList x.toList = false := h4
                  have HL4 := Lib.hid h4
                  clear h4
                  go_wp2_with fail
                  go_quiet (fail)
                  go_wp2_with fail
                  go_ret
                  refine ⟨_, rfl, ⟨(fun h => by cases h), fun h => ?_⟩, below_drewN HBn.out _⟩
                  have h9 := (h.recs _ hlt).up h3
                  rw [HJ1.out, ← HX.out, ← HY.out] at h9
                  exact absurd h9 (by rw [HL4.out]; decide)
              · have h3b : decide ((j : Int) > 0) = false := decide_eq_false (by omega)
                have h3c : decide ((0 : Int) < (j : Int)) = false := decide_eq_false (by omega)
                go_wp2_with fail
                go_quiet (fail)
                go_wp2_with fail
                go_roundg (l.length - (j + 1))
                case measure => omega
                case rel =>
                  refine ⟨j + 1, by omega, rfl, by go_num, Lib.hid (fun m hm => ?_), Lib.hid ⟨_, rfl⟩⟩
                  rcases Nat.lt_succ_iff_lt_or_eq.1 hm with h | rfl
                  · exact HM.out m h
                  · exact ⟨by rw [← HX.out]; omega, by rw [← HX.out]; omega, fun h => absurd h h3⟩
        · have hlt2 : ¬ (j : Int) < (l.length : Int) := by omega
          have HMM : Hid (∀ m, m < l.length → RecOk l m) := fun m hm => HM.out m (by omega)
          clear hg hj HM hlt HRW HBn
          go_wp2_with fail
          go_loopg [4] ks.length (fun g i w' => ∃ j : Nat, j ≤ ks.length ∧ g = ks.length - j ∧ i = .int .i64 j ∧ Hid (∀ m, m < j → kidBad (rd ks (m : Int)) = false) ∧ w' = wc.drewN n)
          case atStart => exact ⟨0, by omega, by omega, rfl, Lib.hid (fun m hm => absurd hm (Nat.not_lt_zero _)), rfl⟩
          case round =>
            obtain ⟨i, hi, hgi, rfl, HK, rfl⟩ := hrel
            have HBn := Lib.hid (below_drewN HB1.out n)
            have HRW := Lib.hid (HR.out.below HB1.out)
            by_cases hlti : i < ks.length
            · obtain ⟨ad, rfl, hcell⟩ := Kd.at_int HRW.out.kids (i : Int) (by omega) (by omega)
              simp only [Int.toNat_natCast] at hcell
              have hlti2 : (i : Int) < (ks.length : Int) := by omega
              obtain ⟨x, hx⟩ : ∃ x, x = rd ks (i : Int) := ⟨_, rfl⟩
              rw [← hx] at hcell
              have HX := Lib.hid hx
              clear hx
              have HMEM : Hid (x ∈ ks) := (by
                have : x = ks[i] := by rw [HX.out]; simp [rd, hlti]
                rw [this]
                exact List.getElem_mem hlti : x ∈ ks)
              by_cases h1 : x < 1
              · have h1b : decide (x < 1) = true := decide_eq_true h1
                go_wp2_with fail
                go_ret
                exact ⟨_, rfl, ⟨(fun h => by cases h), fun h => by have := (h.kids x HMEM.out).1; omega⟩, HBn.out⟩
              · have h1b : decide (x < 1) = false := decide_eq_false h1
                by_cases h2 : x > 4096
                · have h2b : decide (x > 4096) = true := decide_eq_true h2
                  have h2c : decide (4096 < x) = true := decide_eq_true h2
                  go_wp2_with fail
                  go_ret
                  exact ⟨_, rfl, ⟨(fun h => by cases h), fun h => by have := (h.kids x HMEM.out).2; omega⟩, HBn.out⟩
                · have h2b : decide (x > 4096) = false := decide_eq_false h2
                  have h2c : decide (4096 < x) = false := decide_eq_false h2
                  have HKB : Hid (kidBad x = false) := (kidBad_false x).2 ⟨by omega, by omega⟩
                  go_wp2_with fail
                  go_roundg (ks.length - (i + 1))
                  case measure => omega
                  case rel =>
                    refine ⟨i + 1, by omega, rfl, by go_num, Lib.hid (fun m hm => ?_), rfl⟩
                    rcases Nat.lt_succ_iff_lt_or_eq.1 hm with h | rfl
                    · exact HK.out m h
                    · rw [← HX.out]; exact HKB.out
            · have hlti2 : ¬ (i : Int) < (ks.length : Int) := by omega
              go_wp2_with fail
              go_ret
              refine ⟨_, rfl, ⟨fun _ => ⟨HLEN.out, HMM.out, fun k hk => ?_⟩, fun _ => rfl⟩, HBn.out⟩
              obtain ⟨m, hm, rfl⟩ := List.getElem_of_mem hk
              refine (kidBad_false _).1 ?_
              have := HK.out m (by omega)
              rwa [show rd ks (m : Int) = ks[m] by simp [rd, hm]] at this
end Go.Proofs.Ytnjdmaeoebihpaa
