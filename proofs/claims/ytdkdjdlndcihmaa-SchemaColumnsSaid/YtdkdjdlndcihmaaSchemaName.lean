/-
  The walks of schema.Name and of the reference's Name: each tells whether all bytes of a text are a name's, and it is 1 to 16 bytes long.
-/
import Derived.Test.YtdkdjdlndcihmaaProg
import Derived.Test.YtdkdjdlndcihmaaCommon
import Derived.LoopTactic
import Derived.BigQuiet
namespace Go.Proofs.Ytdkdjdlndcihmaa
open Go.RowKit
set_option linter.unusedVariables false
set_option linter.unusedSimpArgs false

/-- May byte c stand in a name? (first: at its begin.) -/
def nameAt (first : Bool) (c : Int) : Bool := (decide (97 ≤ c) && decide (c ≤ 122)) || (!first && (c == 95 || (decide (48 ≤ c) && decide (c ≤ 57))))
/-- Byte j of a text. -/
def bt (s : ByteArray) (j : Nat) : Int := if h : j < s.size then (s[j].toNat : Int) else 0
theorem bt_lt {s : ByteArray} {j : Nat} (h : j < s.size) : (s[j].toNat : Int) = bt s j := by rw [bt, dif_pos h]
theorem bt_range (s : ByteArray) (j : Nat) : 0 ≤ bt s j ∧ bt s j ≤ 255 := by
  unfold bt
  split
  · have := s[j].toNat_lt; omega
  · omega
/-- May the first k bytes stand in a name? -/
def goodTo (s : ByteArray) (k : Nat) : Bool := (List.range k).all fun j => nameAt (j == 0) (bt s j)
theorem goodTo_succ (s : ByteArray) (k : Nat) : goodTo s (k + 1) = (goodTo s k && nameAt (k == 0) (bt s k)) := by
  unfold goodTo
  rw [List.range_succ, List.all_append]
  simp
theorem goodTo_false {s : ByteArray} {j n : Nat} (h : nameAt (j == 0) (bt s j) = false) (hj : j < n) : goodTo s n = false := by
  unfold goodTo
  rw [List.all_eq_false]
  exact ⟨j, List.mem_range.2 hj, by simp [h]⟩
/-- Is a text a name? -/
def nameB (s : ByteArray) : Bool := goodTo s s.size && decide (0 < s.size) && decide (s.size ≤ 16)

theorem ret_bool {a b : Bool} (h : a = b) : Ending.returned (.bool a) = .returned (.bool b) := by rw [h]

set_option maxHeartbeats 2000000 in
theorem name_any (s : ByteArray) (w : World) (hs : s.size ≤ 1000) :
    Calls Try.prog 7 #[.string s] w fun e w' => e = .returned (.bool (nameB s)) ∧ w = w' := by
  have hnot := @unary_not Try.prog
  go_enter Try.func7, Try.ntmps7
  go_wp2
  go_loop [3] (fun i => ∃ k : Nat, k ≤ s.size ∧ i = .int .i64 k ∧ Hid (goodTo s k = true)) (fun i => s.size - (intOf i).toNat)
  case atStart => exact ⟨0, Nat.zero_le _, rfl, rfl⟩
  case round =>
    obtain ⟨k, hk, rfl, HG⟩ := hrel
    by_cases hlt : k < s.size
    · have hb := bt_range s k
      rw [← bt_lt hlt] at hb
      obtain ⟨hb0, hb1⟩ := hb
      by_cases h1 : (97 : Int) ≤ (s[k].toNat : Int)
      · by_cases h2 : (s[k].toNat : Int) ≤ 122
        · skip
          have hg : Hid (goodTo s (k + 1) = true) := by
            show goodTo s (k + 1) = true
            rw [goodTo_succ, HG.out, ← bt_lt hlt]; unfold nameAt; simp; omega
          go_wp2
          all_goals
            go_round
            case rel => exact ⟨k + 1, by omega, by go_num, hg⟩
            case measure => simp [intOf]; omega
        · by_cases hk0 : k = 0
          · have HK := Lib.hid (show (k == 0) = true by simpa using hk0)
            have hkI : ((k : Int) == 0) = true := by simpa using hk0
            clear hk0
            have hg : Hid (nameB s = false) := by
              show nameB s = false
              rw [nameB, goodTo_false (j := k) (by rw [← bt_lt hlt]; unfold nameAt; rw [HK.out]; simp; omega) hlt]; rfl
            go_wp2
            all_goals
              go_ret
              exact ⟨ret_bool hg.out.symm, rfl⟩
          · have HK := Lib.hid (show (k == 0) = false by simpa using hk0)
            have hkI : ((k : Int) == 0) = false := by simpa using hk0
            clear hk0
            by_cases h3 : (s[k].toNat : Int) = 95
            · have h3a : 95 ≤ (s[k].toNat : Int) := by omega
              have h3b : (s[k].toNat : Int) ≤ 95 := by omega
              have h3c : ((s[k].toNat : Int) != 95) = false := by simpa using h3
              clear h3
              have hg : Hid (goodTo s (k + 1) = true) := by
                show goodTo s (k + 1) = true
                rw [goodTo_succ, HG.out, ← bt_lt hlt]; unfold nameAt; rw [HK.out]; simp; omega
              go_wp2
              all_goals
                go_round
                case rel => exact ⟨k + 1, by omega, by go_num, hg⟩
                case measure => simp [intOf]; omega
            · have h3c : ((s[k].toNat : Int) != 95) = true := by simpa using h3
              have H3 := Lib.hid h3; clear h3
              by_cases h4 : (48 : Int) ≤ (s[k].toNat : Int)
              · by_cases h5 : (s[k].toNat : Int) ≤ 57
                · skip
                  have hg : Hid (goodTo s (k + 1) = true) := by
                    show goodTo s (k + 1) = true
                    rw [goodTo_succ, HG.out, ← bt_lt hlt]; unfold nameAt; rw [HK.out]; simp; omega
                  go_wp2
                  all_goals
                    go_round
                    case rel => exact ⟨k + 1, by omega, by go_num, hg⟩
                    case measure => simp [intOf]; omega
                · skip
                  have hg : Hid (nameB s = false) := by
                    show nameB s = false
                    rw [nameB, goodTo_false (j := k) (by rw [← bt_lt hlt]; unfold nameAt; rw [HK.out]; have := H3.out; simp; omega) hlt]; rfl
                  go_wp2
                  all_goals
                    go_ret
                    exact ⟨ret_bool hg.out.symm, rfl⟩
              · skip
                have hg : Hid (nameB s = false) := by
                  show nameB s = false
                  rw [nameB, goodTo_false (j := k) (by rw [← bt_lt hlt]; unfold nameAt; rw [HK.out]; have := H3.out; simp; omega) hlt]; rfl
                go_wp2
                all_goals
                  go_ret
                  exact ⟨ret_bool hg.out.symm, rfl⟩
      · by_cases hk0 : k = 0
        · have HK := Lib.hid (show (k == 0) = true by simpa using hk0)
          have hkI : ((k : Int) == 0) = true := by simpa using hk0
          clear hk0
          have hg : Hid (nameB s = false) := by
            show nameB s = false
            rw [nameB, goodTo_false (j := k) (by rw [← bt_lt hlt]; unfold nameAt; rw [HK.out]; simp; omega) hlt]; rfl
          go_wp2
          all_goals
            go_ret
            exact ⟨ret_bool hg.out.symm, rfl⟩
        · have HK := Lib.hid (show (k == 0) = false by simpa using hk0)
          have hkI : ((k : Int) == 0) = false := by simpa using hk0
          clear hk0
          by_cases h3 : (s[k].toNat : Int) = 95
          · have h3a : 95 ≤ (s[k].toNat : Int) := by omega
            have h3b : (s[k].toNat : Int) ≤ 95 := by omega
            have h3c : ((s[k].toNat : Int) != 95) = false := by simpa using h3
            clear h3
            have hg : Hid (goodTo s (k + 1) = true) := by
              show goodTo s (k + 1) = true
              rw [goodTo_succ, HG.out, ← bt_lt hlt]; unfold nameAt; rw [HK.out]; simp; omega
            go_wp2
            all_goals
              go_round
              case rel => exact ⟨k + 1, by omega, by go_num, hg⟩
              case measure => simp [intOf]; omega
          · have h3c : ((s[k].toNat : Int) != 95) = true := by simpa using h3
            have H3 := Lib.hid h3; clear h3
            by_cases h4 : (48 : Int) ≤ (s[k].toNat : Int)
            · by_cases h5 : (s[k].toNat : Int) ≤ 57
              · skip
                have hg : Hid (goodTo s (k + 1) = true) := by
                  show goodTo s (k + 1) = true
                  rw [goodTo_succ, HG.out, ← bt_lt hlt]; unfold nameAt; rw [HK.out]; simp; omega
                go_wp2
                all_goals
                  go_round
                  case rel => exact ⟨k + 1, by omega, by go_num, hg⟩
                  case measure => simp [intOf]; omega
              · skip
                have hg : Hid (nameB s = false) := by
                  show nameB s = false
                  rw [nameB, goodTo_false (j := k) (by rw [← bt_lt hlt]; unfold nameAt; rw [HK.out]; have := H3.out; simp; omega) hlt]; rfl
                go_wp2
                all_goals
                  go_ret
                  exact ⟨ret_bool hg.out.symm, rfl⟩
            · skip
              have hg : Hid (nameB s = false) := by
                show nameB s = false
                rw [nameB, goodTo_false (j := k) (by rw [← bt_lt hlt]; unfold nameAt; rw [HK.out]; have := H3.out; simp; omega) hlt]; rfl
              go_wp2
              all_goals
                go_ret
                exact ⟨ret_bool hg.out.symm, rfl⟩
    · obtain rfl : k = s.size := by omega
      have he : (!s.toList.isEmpty) = decide (0 < s.size) := by
        rw [ByteArray.toList_eq]
        have hl : s.data.toList.length = s.size := by simp
        cases h : s.data.toList with
        | nil =>
          have h0 : s.size = 0 := by rw [← hl, h]; rfl
          rw [h0]; rfl
        | cons a l =>
          have h0 : s.size = l.length + 1 := by rw [← hl, h]; rfl
          rw [h0]; simp
      have hfin : (!s.toList.isEmpty && decide ((s.size : Int) ≤ 16)) = nameB s := by
        rw [he, nameB, HG.out, Bool.true_and]
        rw [show decide ((s.size : Int) ≤ 16) = decide (s.size ≤ 16) by rw [decide_eq_decide]; omega]
      have HE := Lib.hid he
      have HF := Lib.hid hfin
      clear he hfin
      by_cases h0 : 0 < s.size
      · have h2 : (!s.toList.isEmpty) = true := by rw [HE.out]; simpa using h0
        have h3 : s.toList.isEmpty = false := by simpa using h2
        clear h2
        go_wp2
        go_ret
        exact ⟨ret_bool (by rw [← HF.out]; simp [h3]), rfl⟩
      · have h2 : (!s.toList.isEmpty) = false := by rw [HE.out]; simpa using h0
        have h3 : s.toList.isEmpty = true := by simpa using h2
        clear h2
        go_wp2
        go_ret
        exact ⟨ret_bool (by rw [← HF.out]; simp [h3]), rfl⟩

theorem refName_any (s : ByteArray) (w : World) (hs : s.size ≤ 1000) :
    Calls Try.prog 8 #[.string s] w fun e w' => e = .returned (.bool (nameB s)) ∧ w = w' := by
  have hnot := @unary_not Try.prog
  by_cases h0 : s.size < 1
  · have hg : Hid (nameB s = false) := by
      show nameB s = false
      have : s.size = 0 := by omega
      simp [nameB, this]
    go_enter Try.func8, Try.ntmps8
    go_wp2
    go_ret
    exact ⟨ret_bool hg.out.symm, rfl⟩
  · by_cases h1 : 16 < s.size
    · have hg : Hid (nameB s = false) := by
        show nameB s = false
        have : ¬ s.size ≤ 16 := by omega
        simp [nameB, this]
      go_enter Try.func8, Try.ntmps8
      go_wp2
      go_ret
      exact ⟨ret_bool hg.out.symm, rfl⟩
    · have hl0 : 0 < s.size := by omega
      have hb := bt_range s 0
      have hb' := bt_lt hl0
      have HB := Lib.hid hb'; clear hb'
      by_cases h2 : (97 : Int) ≤ (s[0].toNat : Int) ∧ (s[0].toNat : Int) ≤ 122
      · obtain ⟨h2, h3⟩ := h2
        have h2' : ¬ (s[0].toNat : Int) < 97 := by omega
        have h3' : ¬ (122 : Int) < (s[0].toNat : Int) := by omega
        have hg1 : Hid (goodTo s 1 = true) := by
          show goodTo s 1 = true
          rw [goodTo_succ, ← HB.out]; simp [goodTo, nameAt]; omega
        have h0' : (1 : Int) ≤ (s.size : Int) := by omega
        have h1' : (s.size : Int) ≤ 16 := by omega
        go_enter Try.func8, Try.ntmps8
        go_wp2
        go_loop [3, 4] (fun i _ => ∃ k : Nat, 1 ≤ k ∧ k ≤ s.size ∧ i = .int .i64 k ∧ Hid (goodTo s k = true)) (fun i _ => s.size - (intOf i).toNat)
        case atStart => exact ⟨1, Nat.le_refl _, by omega, rfl, hg1⟩
        case round =>
          obtain ⟨k, hk1, hk, rfl, HG⟩ := hrel
          have HK := Lib.hid (show (k == 0) = false by simp; omega)
          by_cases hlt : k < s.size
          · have hb := bt_range s k
            rw [← bt_lt hlt] at hb
            obtain ⟨hb0, hb1⟩ := hb
            by_cases h1 : (97 : Int) ≤ (s[k].toNat : Int)
            · by_cases h2 : (s[k].toNat : Int) ≤ 122
              · skip
                have hg : Hid (goodTo s (k + 1) = true) := by
                  show goodTo s (k + 1) = true
                  rw [goodTo_succ, HG.out, ← bt_lt hlt]; unfold nameAt; rw [HK.out]; simp; omega
                go_wp2
                all_goals
                  go_round
                  case rel => exact ⟨k + 1, by omega, by omega, by go_num, hg⟩
                  case measure => simp [intOf]; omega
              · skip
                by_cases h3 : (s[k].toNat : Int) = 95
                · have h3a : 95 ≤ (s[k].toNat : Int) := by omega
                  have h3b : (s[k].toNat : Int) ≤ 95 := by omega
                  have h3c : ((s[k].toNat : Int) == 95) = true := by simpa using h3
                  clear h3
                  have hg : Hid (goodTo s (k + 1) = true) := by
                    show goodTo s (k + 1) = true
                    rw [goodTo_succ, HG.out, ← bt_lt hlt]; unfold nameAt; rw [HK.out]; simp; omega
                  go_wp2
                  all_goals
                    go_round
                    case rel => exact ⟨k + 1, by omega, by omega, by go_num, hg⟩
                    case measure => simp [intOf]; omega
                · have h3c : ((s[k].toNat : Int) == 95) = false := by simpa using h3
                  have H3 := Lib.hid h3; clear h3
                  by_cases h4 : (48 : Int) ≤ (s[k].toNat : Int)
                  · by_cases h5 : (s[k].toNat : Int) ≤ 57
                    · skip
                      have hg : Hid (goodTo s (k + 1) = true) := by
                        show goodTo s (k + 1) = true
                        rw [goodTo_succ, HG.out, ← bt_lt hlt]; unfold nameAt; rw [HK.out]; simp; omega
                      go_wp2
                      all_goals
                        go_round
                        case rel => exact ⟨k + 1, by omega, by omega, by go_num, hg⟩
                        case measure => simp [intOf]; omega
                    · skip
                      have hg : Hid (nameB s = false) := by
                        show nameB s = false
                        rw [nameB, goodTo_false (j := k) (by rw [← bt_lt hlt]; unfold nameAt; rw [HK.out]; have := H3.out; simp; omega) hlt]; rfl
                      go_wp2
                      all_goals
                        go_ret
                        exact ⟨ret_bool hg.out.symm, rfl⟩
                  · skip
                    have hg : Hid (nameB s = false) := by
                      show nameB s = false
                      rw [nameB, goodTo_false (j := k) (by rw [← bt_lt hlt]; unfold nameAt; rw [HK.out]; have := H3.out; simp; omega) hlt]; rfl
                    go_wp2
                    all_goals
                      go_ret
                      exact ⟨ret_bool hg.out.symm, rfl⟩
            · skip
              by_cases h3 : (s[k].toNat : Int) = 95
              · have h3a : 95 ≤ (s[k].toNat : Int) := by omega
                have h3b : (s[k].toNat : Int) ≤ 95 := by omega
                have h3c : ((s[k].toNat : Int) == 95) = true := by simpa using h3
                clear h3
                have hg : Hid (goodTo s (k + 1) = true) := by
                  show goodTo s (k + 1) = true
                  rw [goodTo_succ, HG.out, ← bt_lt hlt]; unfold nameAt; rw [HK.out]; simp; omega
                go_wp2
                all_goals
                  go_round
                  case rel => exact ⟨k + 1, by omega, by omega, by go_num, hg⟩
                  case measure => simp [intOf]; omega
              · have h3c : ((s[k].toNat : Int) == 95) = false := by simpa using h3
                have H3 := Lib.hid h3; clear h3
                by_cases h4 : (48 : Int) ≤ (s[k].toNat : Int)
                · by_cases h5 : (s[k].toNat : Int) ≤ 57
                  · skip
                    have hg : Hid (goodTo s (k + 1) = true) := by
                      show goodTo s (k + 1) = true
                      rw [goodTo_succ, HG.out, ← bt_lt hlt]; unfold nameAt; rw [HK.out]; simp; omega
                    go_wp2
                    all_goals
                      go_round
                      case rel => exact ⟨k + 1, by omega, by omega, by go_num, hg⟩
                      case measure => simp [intOf]; omega
                  · skip
                    have hg : Hid (nameB s = false) := by
                      show nameB s = false
                      rw [nameB, goodTo_false (j := k) (by rw [← bt_lt hlt]; unfold nameAt; rw [HK.out]; have := H3.out; simp; omega) hlt]; rfl
                    go_wp2
                    all_goals
                      go_ret
                      exact ⟨ret_bool hg.out.symm, rfl⟩
                · skip
                  have hg : Hid (nameB s = false) := by
                    show nameB s = false
                    rw [nameB, goodTo_false (j := k) (by rw [← bt_lt hlt]; unfold nameAt; rw [HK.out]; have := H3.out; simp; omega) hlt]; rfl
                  go_wp2
                  all_goals
                    go_ret
                    exact ⟨ret_bool hg.out.symm, rfl⟩
          · have hg : Hid (nameB s = true) := by
              show nameB s = true
              obtain rfl : k = s.size := by omega
              rw [nameB, HG.out]; simp; omega
            go_wp2
            go_ret
            exact ⟨ret_bool hg.out.symm, rfl⟩
      · have hg : Hid (nameB s = false) := by
          show nameB s = false
          rw [nameB, goodTo_false (j := 0) (by rw [← HB.out]; unfold nameAt; simp; omega) hl0]; rfl
        have h0' : (1 : Int) ≤ (s.size : Int) := by omega
        have h1' : (s.size : Int) ≤ 16 := by omega
        by_cases h3 : (s[0].toNat : Int) < 97
        · go_enter Try.func8, Try.ntmps8
          go_wp2
          go_ret
          exact ⟨ret_bool hg.out.symm, rfl⟩
        · have h3' : (122 : Int) < (s[0].toNat : Int) := by omega
          go_enter Try.func8, Try.ntmps8
          go_wp2
          go_ret
          exact ⟨ret_bool hg.out.symm, rfl⟩
end Go.Proofs.Ytdkdjdlndcihmaa
