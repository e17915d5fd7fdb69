/-
  The document's Same, of nodes that are alike; Weigh, Size.
-/
import Derived.Test.YtnjdmaeoebihpaaPgAppend
namespace Go.Proofs.Ytnjdmaeoebihpaa
open Go.RowKit Go.Proofs.YtnjdmaeoebihpaaW.PrintWords Go.Proofs.YtnjdmaeoebihpaaW.PrintLast Go.Proofs.YtnjdmaeoebihpaaW.PrintMore
set_option linter.unusedVariables false
set_option linter.unusedSimpArgs false

set_option maxRecDepth 100000 in
set_option maxHeartbeats 4000000 in
theorem rsame_any (leaf : Bool) (A : Option Addr) (c : Nat) (l : List ByteArray) (B : Option Addr) (d : Nat) (ks : List Int) (A' : Option Addr) (c' : Nat) (B' : Option Addr) (d' : Nat) (w : World) (hr : RdN w A c l B d ks) (hr' : RdN w A' c' l B' d' ks) (hl : l.length ≤ 1000000) (hk : ks.length ≤ 1000000) :
    Calls Try.prog 23 #[.agg #[.bool leaf, .slice A l.length c, .slice B ks.length d], .agg #[.bool leaf, .slice A' l.length c', .slice B' ks.length d']] w fun e w' => e = .returned (.bool true) ∧ Below w.heap.size w w' := by
  have hba := blk_alloc (heap_alloc_new w (RNodeObj leaf A l.length c B ks.length d)) (RNodeObj leaf A' l.length c' B' ks.length d')
  have hbb : ((w.alloc (RNodeObj leaf A l.length c B ks.length d)).alloc (RNodeObj leaf A' l.length c' B' ks.length d')).heap[w.heap.size + 1]? = _ := heap_alloc_at _ _ _ (by rw [heap_alloc_size])
  have hB : Below w.heap.size w ((w.alloc (RNodeObj leaf A l.length c B ks.length d)).alloc (RNodeObj leaf A' l.length c' B' ks.length d')) := ((Below.refl _ _).alloc (Nat.le_refl _) _).alloc (by rw [heap_alloc_size]; exact Nat.le_succ _) _
  obtain ⟨w1, hw1⟩ : ∃ w1, w1 = (w.alloc (.cells #[.bool leaf, .slice A l.length c, .slice B ks.length d] 29)).alloc (.cells #[.bool leaf, .slice A' l.length c', .slice B' ks.length d'] 29) := ⟨_, rfl⟩
  have hw1' : w1 = (w.alloc (RNodeObj leaf A l.length c B ks.length d)).alloc (RNodeObj leaf A' l.length c' B' ks.length d') := hw1
  rw [← hw1'] at hba hbb hB
  have HB1 := Lib.hid hB
  have HRW := Lib.hid (hr.below hB)
  have HRW' := Lib.hid (hr'.below hB)
  obtain ⟨n0, n1, n2, f0, f1, f2, nl⟩ := three_of_block hba
  obtain ⟨m0, m1, m2, g0, g1, g2, ml⟩ := three_of_block hbb
  clear hba hbb hB hr hr' hw1'
  go_enter Try.func23, Try.ntmps23
  go_upto_region 1 with (fail)
  rw [← hw1]
  clear hw1
  go_wp2_with fail
  go_loopg [5] l.length (fun g i w' => ∃ j : Nat, j ≤ l.length ∧ g = l.length - j ∧ i = .int .i64 j ∧ Hid (∃ n, w' = w1.drewN n))
  case atStart => exact ⟨0, by omega, by omega, rfl, Lib.hid ⟨0, rfl⟩⟩
  case round =>
    obtain ⟨j, hj, hg, rfl, HW⟩ := hrel
    obtain ⟨n, rfl⟩ := HW.out
    by_cases hlt : j < l.length
    · obtain ⟨ad, rfl, hcell⟩ := Kd.at_string HRW.out.recs (j : Int) (by omega) (by omega)
      obtain ⟨ad', rfl, hcell'⟩ := Kd.at_string HRW'.out.recs (j : Int) (by omega) (by omega)
      simp only [Int.toNat_natCast, rdOf_rec] at hcell hcell'
      have hlt2 : (j : Int) < (l.length : Int) := by omega
      obtain ⟨x, hx⟩ : ∃ x, x = rec l j := ⟨_, rfl⟩
      rw [← hx] at hcell hcell'
      clear hx
      go_wp2_with fail
      go_quiet (fail)
      go_wp2_with fail
      go_roundg (l.length - (j + 1))
      case measure => omega
      case rel => exact ⟨j + 1, by omega, rfl, by go_num, Lib.hid ⟨_, rfl⟩⟩
    · have hlt2 : ¬ (j : Int) < (l.length : Int) := by omega
      clear hg hj hlt
      go_wp2_with fail
      go_loopg [6] ks.length (fun g i w' => ∃ j : Nat, j ≤ ks.length ∧ g = ks.length - j ∧ i = .int .i64 j ∧ Hid (∃ n, w' = w1.drewN n))
      case atStart => exact ⟨0, by omega, by omega, rfl, HW⟩
      case round =>
        obtain ⟨i, hi, hgi, rfl, HW2⟩ := hrel
        obtain ⟨n2, rfl⟩ := HW2.out
        by_cases hlti : i < ks.length
        · obtain ⟨ad, rfl, hcell⟩ := Kd.at_int HRW.out.kids (i : Int) (by omega) (by omega)
          obtain ⟨ad', rfl, hcell'⟩ := Kd.at_int HRW'.out.kids (i : Int) (by omega) (by omega)
          simp only [Int.toNat_natCast] at hcell hcell'
          have hlti2 : (i : Int) < (ks.length : Int) := by omega
          obtain ⟨x, hx⟩ : ∃ x, x = rd ks (i : Int) := ⟨_, rfl⟩
          rw [← hx] at hcell hcell'
          clear hx
          go_wp2_with fail
          go_quiet (fail)
          go_wp2_with fail
          go_roundg (ks.length - (i + 1))
          case measure => omega
          case rel => exact ⟨i + 1, by omega, rfl, by go_num, Lib.hid ⟨_, rfl⟩⟩
        · have hlti2 : ¬ (i : Int) < (ks.length : Int) := by omega
          go_wp2_with fail
          go_ret
          exact ⟨rfl, below_drewN HB1.out _⟩

/-- What entries weigh, up to one. -/
theorem weigh_up (l : List ByteArray) (j : Nat) (hj : j < l.length) : (weighN (l.take (j + 1)) : Int) = (weighN (l.take j) : Int) + 4 + ((rec l j).size : Int) := by
  have := weigh_step l j hj
  omega
set_option maxHeartbeats 1000000 in
theorem rweigh_any {w : World} {A : Option Addr} {c : Nat} {l : List ByteArray} (h : Kd.C Kd.string w A l.length l) (hc : l.length ≤ c) (hl : l.length ≤ 1000) (hw : weighN l ≤ 100004000) :
    Calls Try.prog 33 #[.slice A l.length c] w fun e w' => e = .returned (.int .i64 (weighN l)) ∧ w = w' := by
  have HR := Lib.hid h
  clear h
  go_enter Try.func33, Try.ntmps33
  go_wp2_with fail
  go_loopg [3, 4] l.length (fun g n i w' => ∃ j : Nat, j ≤ l.length ∧ g = l.length - j ∧ i = .int .i64 j ∧ n = .int .i64 (weighN (l.take j)) ∧ w' = w)
  case atStart => exact ⟨0, by omega, by omega, rfl, rfl, rfl⟩
  case round =>
    obtain ⟨j, hj, hg, rfl, rfl, rfl⟩ := hrel
    by_cases hlt : j < l.length
    · obtain ⟨ad, rfl, hcell⟩ := Kd.at_string HR.out (j : Int) (by omega) (by omega)
      simp only [Int.toNat_natCast, rdOf_rec] at hcell
      have hlt2 : (j : Int) < (l.length : Int) := by omega
      have hup := weigh_up l j hlt
      have hle := weighN_take l (j + 1)
      obtain ⟨x, hx⟩ : ∃ x, rec l j = x := ⟨_, rfl⟩
      rw [hx] at hcell hup
      obtain ⟨W, hW⟩ : ∃ W, weighN (l.take j) = W := ⟨_, rfl⟩
      obtain ⟨W2, hW2⟩ : ∃ W, weighN (l.take (j + 1)) = W := ⟨_, rfl⟩
      rw [hW, hW2] at hup
      rw [hW2] at hle
      rw [hW]
      have HUP := Lib.hid hup
      have HW2 := Lib.hid hW2
      have hb1 : (W : Int) + 4 + (x.size : Int) ≤ 200000000 := by omega
      have hb2 : x.size ≤ 200000000 := by omega
      have hb3 : W ≤ 200000000 := by omega
      clear hx hW hW2 hup
      go_wp2_with fail
      go_roundg (l.length - (j + 1))
      case measure => omega
      case rel => exact ⟨j + 1, by omega, rfl, by go_num, by rw [HW2.out, HUP.out], rfl⟩
    · have hlt2 : ¬ (j : Int) < (l.length : Int) := by omega
      have HE : Hid (weighN (l.take j) = weighN l) := (by rw [List.take_of_length_le (by omega)] : weighN (l.take j) = weighN l)
      go_wp2_with fail
      go_ret
      exact ⟨by rw [← HE.out]; rfl, rfl⟩
end Go.Proofs.Ytnjdmaeoebihpaa
