/-
  The law SchemaColumns: what is wrong with columns, and where a name is found, by package schema and by the reference.
-/
import Derived.Test.YtdkdjdlndcihmaaFitsLaw
namespace Go.Proofs.Ytdkdjdlndcihmaa
open Go.RowKit Go.WideShapes
set_option linter.unusedVariables false
set_option linter.unusedSimpArgs false

/-- Where a name is found; -1: nowhere. -/
def findFrom (nm : ByteArray) : List Col → Nat → Int
  | [], _ => -1
  | c :: r, k => if c.name.toList = nm.toList then k else findFrom nm r (k + 1)
def findB (cs : List Col) (nm : ByteArray) : Int := findFrom nm cs 0
/-- None of the first k has the name. -/
def noneTo (cs : List Col) (nm : ByteArray) (k : Nat) : Prop := ∀ (i : Nat) c, i < k → cs[i]? = some c → c.name.toList ≠ nm.toList
theorem noneTo_succ {cs : List Col} {nm : ByteArray} {k : Nat} (h : noneTo cs nm k) {c : Col} (hc : cs[k]? = some c) (hne : c.name.toList ≠ nm.toList) : noneTo cs nm (k + 1) := by
  intro i c' hi h1
  by_cases e : i = k
  · subst e
    rw [hc] at h1
    cases h1
    exact hne
  · exact h i c' (by omega) h1
theorem findFrom_none (nm : ByteArray) : ∀ (cs : List Col) (k : Nat), (∀ (i : Nat) c, cs[i]? = some c → c.name.toList ≠ nm.toList) → findFrom nm cs k = -1
  | [], _, _ => rfl
  | c :: r, k, h => by
    unfold findFrom
    rw [if_neg (h 0 c rfl)]
    exact findFrom_none nm r (k + 1) fun i c' h1 => h (i + 1) c' (by simpa using h1)
theorem findFrom_at (nm : ByteArray) : ∀ (cs : List Col) (k j : Nat) (c : Col), cs[j]? = some c → c.name.toList = nm.toList → (∀ (i : Nat) c, i < j → cs[i]? = some c → c.name.toList ≠ nm.toList) → findFrom nm cs k = (k + j : Nat)
  | [], _, _, _, h, _, _ => by simp at h
  | c :: r, k, 0, c', h1, h2, _ => by
    simp at h1
    subst h1
    unfold findFrom
    rw [if_pos h2]
    simp
  | c :: r, k, j + 1, c', h1, h2, h3 => by
    unfold findFrom
    rw [if_neg (h3 0 c (by omega) rfl), findFrom_at nm r (k + 1) j c' (by simpa using h1) h2 fun i c'' hi h => h3 (i + 1) c'' (by omega) (by simpa using h)]
    congr 1; omega
theorem findB_none {cs : List Col} {nm : ByteArray} (h : noneTo cs nm cs.length) : findB cs nm = -1 := findFrom_none nm cs 0 fun i c hc => h i c (by
  rcases Nat.lt_or_ge i cs.length with h | h
  · exact h
  · rw [List.getElem?_eq_none h] at hc; cases hc) hc
theorem findB_at {cs : List Col} {nm : ByteArray} {k : Nat} {c : Col} (h : noneTo cs nm k) (hc : cs[k]? = some c) (he : c.name.toList = nm.toList) : findB cs nm = k := by
  unfold findB
  rw [findFrom_at nm cs 0 k c hc he h, Nat.zero_add]

theorem eq_list {a b : List UInt8} (h : a = b) : (a == b) = true := by simp [h]
theorem ne_list {a b : List UInt8} (h : a ≠ b) : (a == b) = false := by simp [h]

/-- The closure of Find. -/
theorem find1_any (c : Col) (N : Nat) (nm : ByteArray) (w : World) (hN : w.cell? ⟨N, 0, none⟩ = some (.string nm)) (hl : N < w.heap.size) (b : Bool) (hb : (c.name.toList == nm.toList) = b) :
    Calls Try.prog 23 #[.agg #[.string c.name, .int .i64 c.typ, .bool c.nn, .bool c.uq], .pointer (some ⟨N, 0, none⟩)] w fun e w' => e = .returned (.bool b) ∧ w.alloc (.cells #[.string c.name, .int .i64 c.typ, .bool c.nn, .bool c.uq] 35) = w' := by
  have HB := Lib.hid hb; clear hb
  go_enter Try.func23, Try.ntmps23
  go_wp2
  go_ret
  exact ⟨by rw [← HB.out]; rfl, rfl⟩

theorem indexFunc_any (A : Option Addr) (cc : Nat) (cs : List Col) (N : Nat) (nm : ByteArray) (w : World) (hc : ReadsC w A cs) (hN : w.cell? ⟨N, 0, none⟩ = some (.string nm)) (hl : N < w.heap.size) (hcl : cs.length ≤ 50) :
    Calls Try.prog 22 #[.slice A cs.length cc, .func (.func 23) #[] #[.pointer (some ⟨N, 0, none⟩)]] w fun e w' => e = .returned (.int .i64 (findB cs nm)) ∧ Below w.heap.size w w' := by
  have HC := Lib.hid hc; have HN := Lib.hid hN; clear hc hN
  go_enter Try.func22, Try.ntmps22
  go_wp2_with fail
  go_loopw [8] (fun i wr => ∃ k : Nat, k ≤ cs.length ∧ i = .int .i64 k ∧ Hid (noneTo cs nm k) ∧ Hid (Below w.heap.size w wr)) (fun i _ => cs.length - (intOf i).toNat)
  case atStart => exact ⟨0, Nat.zero_le _, rfl, (fun i c hi => by omega : noneTo cs nm 0), Below.refl _ _⟩
  case round =>
    obtain ⟨k, hk, rfl, HG, HB⟩ := hrel
    have hsz := HB.out.size
    by_cases hlt : k < cs.length
    · obtain ⟨c, hc⟩ : ∃ c, cs[k]? = some c := ⟨cs[k], List.getElem?_eq_getElem hlt⟩
      obtain ⟨b', off', hA', hbl', c0, c1, c2, c3⟩ := HC.out k c hc
      subst hA'
      have d0 := (HB.out.cell (p := ⟨b', off' + k * 4, none⟩) hbl').trans c0
      have d1 := (HB.out.cell (p := ⟨b', off' + k * 4 + 1, none⟩) hbl').trans c1
      have d2 := (HB.out.cell (p := ⟨b', off' + k * 4 + 2, none⟩) hbl').trans c2
      have d3 := (HB.out.cell (p := ⟨b', off' + k * 4 + 3, none⟩) hbl').trans c3
      have l2 : b' < wr.heap.size := by omega
      clear c0 c1 c2 c3
      have HCk := Lib.hid hc; clear hc
      have F := find1_any c N nm wr ((HB.out.cell (p := ⟨N, 0, none⟩) hl).trans HN.out) (by omega)
      by_cases he : c.name.toList = nm.toList
      · have HF := Lib.hid (F true (eq_list he)); clear F
        have hfin : Hid (findB cs nm = k) := findB_at HG.out HCk.out he
        clear he
        go_wp2_with (go_at_call 23; refine HF.out.mono ?_; rintro e w' ⟨rfl, rfl⟩)
        go_ret
        exact ⟨by rw [hfin.out]; rfl, HB.out.alloc (by omega) _⟩
      · have HF := Lib.hid (F false (ne_list he)); clear F
        have hnx : Hid (noneTo cs nm (k + 1)) := noneTo_succ HG.out HCk.out he
        clear he
        go_wp2_with (go_at_call 23; refine HF.out.mono ?_; rintro e w' ⟨rfl, rfl⟩)
        go_roundw
        case rel => exact ⟨k + 1, by omega, by go_num, hnx, HB.out.alloc (by omega) _⟩
        case measure => simp [intOf]; omega
    · obtain rfl : k = cs.length := by omega
      have hfin : Hid (findB cs nm = -1) := findB_none HG.out
      go_wp2_with fail
      go_ret
      exact ⟨by rw [hfin.out]; rfl, HB.out⟩

theorem find_any (A : Option Addr) (cc : Nat) (cs : List Col) (nm : ByteArray) (w : World) (hc : ReadsC w A cs) (hcl : cs.length ≤ 50) :
    Calls Try.prog 14 #[.slice A cs.length cc, .string nm] w fun e w' => e = .returned (.int .i64 (findB cs nm)) ∧ Below w.heap.size w w' := by
  have hmf := @make_func Try.prog
  have HW := Lib.hid ((Below.refl w.heap.size w).alloc (Nat.le_refl _) (.cells #[.string nm] 9))
  have F := indexFunc_any A cc cs w.heap.size nm _ (hc.below HW.out) (one_of_block (heap_alloc_new w (.cells #[.string nm] 9))).1 (by simp) hcl
  have HF := Lib.hid F; clear F hc
  go_enter Try.func14, Try.ntmps14
  go_wp2_with (go_at_call 22; refine HF.out.mono ?_; rintro e w' ⟨rfl, hb⟩)
  go_ret
  exact ⟨rfl, HW.out.trans (Below.mono (by assumption) (by simp))⟩

theorem refFind_any (A : Option Addr) (cc : Nat) (cs : List Col) (nm : ByteArray) (w : World) (hc : ReadsC w A cs) (hcl : cs.length ≤ 50) :
    Calls Try.prog 15 #[.slice A cs.length cc, .string nm] w fun e w' => e = .returned (.int .i64 (findB cs nm)) ∧ w = w' := by
  have HC := Lib.hid hc; clear hc
  go_enter Try.func15, Try.ntmps15
  go_wp2_with fail
  go_loop [5] (fun i => ∃ k : Nat, k ≤ cs.length ∧ i = .int .i64 k ∧ Hid (noneTo cs nm k)) (fun i => cs.length - (intOf i).toNat)
  case atStart => exact ⟨0, Nat.zero_le _, rfl, (fun i c hi => by omega : noneTo cs nm 0)⟩
  case round =>
    obtain ⟨k, hk, rfl, HG⟩ := hrel
    by_cases hlt : k < cs.length
    · obtain ⟨c, hc⟩ : ∃ c, cs[k]? = some c := ⟨cs[k], List.getElem?_eq_getElem hlt⟩
      obtain ⟨b', off', hA', hbl', c0, c1, c2, c3⟩ := HC.out k c hc
      subst hA'
      have HCk := Lib.hid hc; clear hc
      by_cases he : c.name.toList = nm.toList
      · have hfin : Hid (findB cs nm = k) := findB_at HG.out HCk.out he
        have hb := eq_list he
        clear he
        go_wp2_with fail
        go_ret
        exact ⟨by rw [hfin.out]; rfl, rfl⟩
      · have hnx : Hid (noneTo cs nm (k + 1)) := noneTo_succ HG.out HCk.out he
        have hb := ne_list he
        clear he
        go_wp2_with fail
        go_round
        case rel => exact ⟨k + 1, by omega, by go_num, hnx⟩
        case measure => simp [intOf]; omega
    · obtain rfl : k = cs.length := by omega
      have hfin : Hid (findB cs nm = -1) := findB_none HG.out
      go_wp2_with fail
      go_ret
      exact ⟨by rw [hfin.out]; rfl, rfl⟩

/-- What is wrong with column i; 0: nothing. -/
def colE (cs : List Col) (i : Nat) : Int := match cs[i]? with
  | none => 0
  | some c => if (nameB c.name && (decide (1 ≤ c.typ) && decide (c.typ ≤ 3))) = true then (if findB cs c.name = i then 0 else 3) else 15
/-- The first number of a row that isn't 0. -/
def firstNZ (f : Nat → Int) : Nat → Int
  | 0 => 0
  | n + 1 => if firstNZ f n = 0 then f n else firstNZ f n
def zeroTo (f : Nat → Int) (k : Nat) : Prop := ∀ i, i < k → f i = 0
theorem zeroTo_succ {f : Nat → Int} {k : Nat} (h : zeroTo f k) (hk : f k = 0) : zeroTo f (k + 1) := by
  intro i hi
  by_cases e : i = k
  · subst e; exact hk
  · exact h i (by omega)
theorem firstNZ_zero {f : Nat → Int} : ∀ {k : Nat}, zeroTo f k → firstNZ f k = 0
  | 0, _ => rfl
  | k + 1, h => by
    unfold firstNZ
    rw [if_pos (firstNZ_zero fun i hi => h i (by omega))]
    exact h k (by omega)
theorem firstNZ_at {f : Nat → Int} {k : Nat} (h : zeroTo f k) (hk : f k ≠ 0) : ∀ {n : Nat}, k < n → firstNZ f n = f k
  | 0, hn => by omega
  | n + 1, hn => by
    unfold firstNZ
    by_cases e : k = n
    · subst e
      rw [if_pos (firstNZ_zero h)]
    · have := firstNZ_at h hk (n := n) (by omega)
      rw [if_neg (by rw [this]; exact hk), this]
def colsB (cs : List Col) : Int := if cs.length = 0 then 15 else if 6 < cs.length then 8 else firstNZ (colE cs) cs.length

theorem cols1_small (L : Nat) (A : Option Addr) (cc : Nat) (cs : List Col) (w : World) (hL : w.cell? ⟨L, 0, none⟩ = some (.slice A cs.length cc)) (hLl : L < w.heap.size) (hs : cs.length = 0 ∨ 6 < cs.length) (hcl : cs.length ≤ 50) :
    Calls Try.prog 21 #[.pointer (some ⟨L, 0, none⟩)] w (FitDoes w.heap.size w (colsB cs)) := by
  rcases hs with h0 | h6
  · have hf : Hid (colsB cs = 15) := by show colsB cs = 15; unfold colsB; rw [if_pos h0]
    have HD : Hid (decide (0 < cs.length) = false) := decide_eq_false (show ¬ 0 < cs.length by omega)
    have H0 := Lib.hid h0; clear h0
    go_enter Try.func21, Try.ntmps21
    go_wp2_with (go_at_call 18; (try rw [HD.out]); refine (must_no 15 rfl _).mono ?_; rintro e w' ⟨rfl, rfl⟩)
    refine ⟨rfl, ?_⟩
    rw [hf.out]
    exact ⟨.inr ⟨by omega, rfl⟩, Below.refl _ _⟩
  · have hf : Hid (colsB cs = 8) := by show colsB cs = 8; unfold colsB; rw [if_neg (by omega), if_pos h6]
    have HD : Hid (decide (0 < cs.length) = true) := decide_eq_true (show 0 < cs.length by omega)
    have h2 : decide ((cs.length : Int) ≤ 6) = false := by simp; omega
    go_enter Try.func21, Try.ntmps21
    go_wp2_with (first | (go_at_call 18; (try rw [HD.out]); refine (must_ok 15 _).mono ?_; rintro e w' ⟨rfl, rfl⟩) | (go_at_call 18; refine (must_no 8 rfl _).mono ?_; rintro e w' ⟨rfl, rfl⟩))
    refine ⟨rfl, ?_⟩
    rw [hf.out]
    exact ⟨.inr ⟨by omega, rfl⟩, Below.refl _ _⟩

set_option maxHeartbeats 2000000 in
theorem cols1_any (L : Nat) (A : Option Addr) (cc : Nat) (cs : List Col) (w : World) (hL : w.cell? ⟨L, 0, none⟩ = some (.slice A cs.length cc)) (hLl : L < w.heap.size) (hc : ReadsC w A cs) (h0 : 0 < cs.length) (h6 : cs.length ≤ 6)
    (hnm : ∀ (i : Nat) c, cs[i]? = some c → c.name.size ≤ 1000) :
    Calls Try.prog 21 #[.pointer (some ⟨L, 0, none⟩)] w (FitDoes w.heap.size w (colsB cs)) := by
  have hnot := @unary_not Try.prog
  have HD : Hid (decide (0 < cs.length) = true) := decide_eq_true (show 0 < cs.length by omega)
  have h2 : decide ((cs.length : Int) ≤ 6) = true := by simp; omega
  have HC := Lib.hid hc; have HNM := Lib.hid hnm; have HL := Lib.hid hL; clear hc hnm
  go_enter Try.func21, Try.ntmps21
  go_wp2_with (first | (go_at_call 18; (try rw [HD.out]); refine (must_ok 15 _).mono ?_; rintro e w' ⟨rfl, rfl⟩) | (go_at_call 18; refine (must_ok 8 _).mono ?_; rintro e w' ⟨rfl, rfl⟩))
  go_loopw [13] (fun i wr => ∃ k : Nat, k ≤ cs.length ∧ i = .int .i64 k ∧ Hid (zeroTo (colE cs) k) ∧ Hid (Below w.heap.size w wr)) (fun i _ => cs.length - (intOf i).toNat)
  case atStart => exact ⟨0, Nat.zero_le _, rfl, (fun i hi => by omega : zeroTo (colE cs) 0), Below.refl _ _⟩
  case round =>
    obtain ⟨k, hk, rfl, HG, HB⟩ := hrel
    have hsz := HB.out.size
    by_cases hlt : k < cs.length
    · obtain ⟨c, hc⟩ : ∃ c, cs[k]? = some c := ⟨cs[k], List.getElem?_eq_getElem hlt⟩
      have hns := HNM.out k c hc
      obtain ⟨b', off', hA', hbl', c0, c1, c2, c3⟩ := HC.out k c hc
      subst hA'
      have d0 := (HB.out.cell (p := ⟨b', off' + k * 4, none⟩) hbl').trans c0
      have d1 := (HB.out.cell (p := ⟨b', off' + k * 4 + 1, none⟩) hbl').trans c1
      have d2 := (HB.out.cell (p := ⟨b', off' + k * 4 + 2, none⟩) hbl').trans c2
      have d3 := (HB.out.cell (p := ⟨b', off' + k * 4 + 3, none⟩) hbl').trans c3
      have r2 := (HB.out.cell (p := ⟨L, 0, none⟩) hLl).trans HL.out
      have l2 : b' < wr.heap.size := by omega
      have l3 : L < wr.heap.size := by omega
      clear c0 c1 c2 c3
      have HCk := Lib.hid hc; clear hc
      have hbel : Below w.heap.size w (wr.alloc (.cells #[.string c.name, .int .i64 c.typ, .bool c.nn, .bool c.uq] 35)) := HB.out.alloc (by omega) _
      have HBEL := Lib.hid hbel; clear hbel
      have stop : ∀ r, colE cs k = r → r ≠ 0 → ∀ W, Below w.heap.size w W → FitDoes w.heap.size w (colsB cs) (.panicked (thrown r 0)) W := by
        intro r hr hr0 W hW
        have : colsB cs = r := by
          unfold colsB
          rw [if_neg (by omega), if_neg (by omega), firstNZ_at HG.out (by rw [hr]; exact hr0) hlt, hr]
        rw [this]
        exact ⟨.inr ⟨hr0, rfl⟩, hW⟩
      have STOP := Lib.hid stop; clear stop
      have hE0 : Hid (colE cs k = if (nameB c.name && (decide (1 ≤ c.typ) && decide (c.typ ≤ 3))) = true then (if findB cs c.name = k then 0 else 3) else 15) := by
        show colE cs k = _
        unfold colE
        rw [HCk.out]
      have hN := fun w => name_any c.name w hns
      have hF := find_any (some ⟨b', off', none⟩) cc cs c.name _ (HC.out.below HBEL.out) (by omega)
      have HF := Lib.hid hF; clear hF
      cases hnb : nameB c.name with
      | false =>
        have hE : Hid (colE cs k = 15) := by show colE cs k = 15; rw [hE0.out, hnb]; rfl
        simp only [hnb] at hN
        have HN := Lib.hid hN; clear hN hnb
        go_wp2_with (first | (go_at_call 7; refine (HN.out _).mono ?_; rintro e w' ⟨rfl, rfl⟩) | (go_at_call 18; refine (must_no 15 rfl _).mono ?_; rintro e w' ⟨rfl, rfl⟩))
        exact ⟨rfl, STOP.out 15 hE.out (by omega) _ HBEL.out⟩
      | true =>
        simp only [hnb] at hN
        have HN := Lib.hid hN; clear hN
        by_cases t1 : 1 ≤ c.typ
        · by_cases t3 : c.typ ≤ 3
          · have hE1 : Hid (colE cs k = if findB cs c.name = k then 0 else 3) := by show colE cs k = _; rw [hE0.out, hnb]; simp [t1, t3]
            clear hnb
            by_cases hf : findB cs c.name = k
            · have hE : Hid (colE cs k = 0) := by show colE cs k = 0; rw [hE1.out, if_pos hf]
              have f1 : (findB cs c.name == (k : Int)) = true := by simp [hf]
              clear hf
              go_wp2_with (first | (go_at_call 7; refine (HN.out _).mono ?_; rintro e w' ⟨rfl, rfl⟩) | (go_at_call 18; refine (must_ok _ _).mono ?_; rintro e w' ⟨rfl, rfl⟩))
              refine HF.out.mono ?_
              rintro e w2 ⟨rfl, hb2⟩
              have HB2 := Lib.hid (HBEL.out.trans (hb2.mono (by simp; omega))); clear hb2
              go_wp2_with (go_at_call 18; refine (must_ok _ _).mono ?_; rintro e w' ⟨rfl, rfl⟩)
              go_roundw
              case rel => exact ⟨k + 1, by omega, by go_num, zeroTo_succ HG.out hE.out, HB2.out⟩
              case measure => simp [intOf]; omega
            · have hE : Hid (colE cs k = 3) := by show colE cs k = 3; rw [hE1.out, if_neg hf]
              have f1 : (findB cs c.name == (k : Int)) = false := by simp [hf]
              clear hf
              go_wp2_with (first | (go_at_call 7; refine (HN.out _).mono ?_; rintro e w' ⟨rfl, rfl⟩) | (go_at_call 18; refine (must_ok _ _).mono ?_; rintro e w' ⟨rfl, rfl⟩))
              refine HF.out.mono ?_
              rintro e w2 ⟨rfl, hb2⟩
              have HB2 := Lib.hid (HBEL.out.trans (hb2.mono (by simp; omega))); clear hb2
              go_wp2_with (go_at_call 18; refine (must_no 3 rfl _).mono ?_; rintro e w' ⟨rfl, rfl⟩)
              exact ⟨rfl, STOP.out 3 hE.out (by omega) _ HB2.out⟩
          · have hE : Hid (colE cs k = 15) := by show colE cs k = 15; rw [hE0.out, hnb]; simp [t1, t3]
            have t3' : decide (c.typ ≤ 3) = false := decide_eq_false t3
            clear hnb
            go_wp2_with (first | (go_at_call 7; refine (HN.out _).mono ?_; rintro e w' ⟨rfl, rfl⟩) | (go_at_call 18; refine (must_no 15 rfl _).mono ?_; rintro e w' ⟨rfl, rfl⟩))
            exact ⟨rfl, STOP.out 15 hE.out (by omega) _ HBEL.out⟩
        · have hE : Hid (colE cs k = 15) := by show colE cs k = 15; rw [hE0.out, hnb]; simp [t1]
          have t1' : decide (1 ≤ c.typ) = false := decide_eq_false t1
          clear hnb
          go_wp2_with (first | (go_at_call 7; refine (HN.out _).mono ?_; rintro e w' ⟨rfl, rfl⟩) | (go_at_call 18; refine (must_no 15 rfl _).mono ?_; rintro e w' ⟨rfl, rfl⟩))
          exact ⟨rfl, STOP.out 15 hE.out (by omega) _ HBEL.out⟩
    · obtain rfl : k = cs.length := by omega
      have hfin : Hid (colsB cs = 0) := by
        show colsB cs = 0
        unfold colsB
        rw [if_neg (by omega), if_neg (by omega), firstNZ_zero HG.out]
      go_wp2_with fail
      go_end0
      exact ⟨.inl ⟨hfin.out, rfl⟩, HB.out⟩

theorem columns_any (A : Option Addr) (cc : Nat) (cs : List Col) (w : World) (hc : ReadsC w A cs) (hcl : cs.length ≤ 50) (hnm : ∀ (i : Nat) c, cs[i]? = some c → c.name.size ≤ 1000) :
    Calls Try.prog 12 #[.slice A cs.length cc] w fun e w' => e = .returned (.int .i64 (colsB cs)) ∧ Below w.heap.size w w' := by
  have hmf := @make_func Try.prog
  have hfl := field_code
  have W2b : Below w.heap.size w (w.alloc (.cells #[.slice A cs.length cc] 24)) := (Below.refl _ _).alloc (Nat.le_refl _) _
  have W3b := W2b.alloc (by simp) (.cells #[.int .i64 0, .int .i64 0] 39)
  have hL := one_of_block (blk_alloc (heap_alloc_new w (.cells #[.slice A cs.length cc] 24)) (.cells #[.int .i64 0, .int .i64 0] 39))
  have hF := heap_alloc_new (w.alloc (.cells #[.slice A cs.length cc] 24)) (.cells #[.int .i64 0, .int .i64 0] 39)
  have hdo : Calls Try.prog 21 #[.pointer (some ⟨w.heap.size, 0, none⟩)] ((w.alloc (.cells #[.slice A cs.length cc] 24)).alloc (.cells #[.int .i64 0, .int .i64 0] 39)) (FitDoes (w.heap.size + 2) ((w.alloc (.cells #[.slice A cs.length cc] 24)).alloc (.cells #[.int .i64 0, .int .i64 0] 39)) (colsB cs)) := by
    have hsz : ((w.alloc (.cells #[.slice A cs.length cc] 24)).alloc (.cells #[.int .i64 0, .int .i64 0] 39)).heap.size = w.heap.size + 2 := by simp
    rw [← hsz]
    by_cases h0 : cs.length = 0 ∨ 6 < cs.length
    · exact cols1_small _ A cc cs _ hL.1 hL.2.2 h0 hcl
    · exact cols1_any _ A cc cs _ hL.1 hL.2.2 (hc.below W3b) (by omega) (by omega) hnm
  have HC := Lib.hid (catch_any 21 #[.pointer (some ⟨w.heap.size, 0, none⟩)] (w.alloc (.cells #[.slice A cs.length cc] 24)) _ (fun _ _ => by simp [go_sem]) (fun e w1 h => ⟨blk_below hF h.2 (by simp), by rcases h.1 with ⟨_, h⟩ | ⟨_, h⟩; exact .inl h; exact .inr ⟨_, _, h⟩⟩) hdo)
  have HW3 := Lib.hid W3b
  clear hdo hL hF W2b W3b hc
  go_enter Try.func12, Try.ntmps12
  go_wp2_with fail
  refine HC.out.mono ?_
  rintro e w' ⟨e1, w1, ⟨hd, hb⟩, hbut, hcase⟩
  have hfin : e = .returned (.agg #[.int .i64 (colsB cs), .int .i64 0]) := by
    rcases hd with ⟨h0, rfl⟩ | ⟨h0, rfl⟩
    · rcases hcase with ⟨_, rfl⟩ | ⟨c, a, h, _⟩
      · rw [h0]
      · cases h
    · rcases hcase with ⟨h, _⟩ | ⟨c, a, h, rfl⟩
      · cases h
      · injection h with h
        injection h with h _
        injection h with h _
        injection h with _ h
        injection h with h
        simp only [Array.mk.injEq, List.cons.injEq, Value.int.injEq, true_and, and_true] at h
        obtain ⟨rfl, rfl⟩ := h
        rfl
  subst hfin
  have hsz := hb.size
  simp only [World.size_alloc] at hsz
  have hfinal : Below w.heap.size w w' := (HW3.out.trans (hb.mono (by omega))).trans (hbut.below (by simp) (by omega))
  have HFIN := Lib.hid hfinal
  clear hfinal hcase hd hb hbut
  go_wp2_with fail
  go_ret
  exact ⟨rfl, HFIN.out⟩

/-- Which of the first k columns has the name of column i is found by the inner loop: none, where the name is found at i. -/
theorem findB_self {cs : List Col} {i : Nat} {c : Col} (hc : cs[i]? = some c) : (findB cs c.name = i ↔ noneTo cs c.name i) := by
  constructor
  · intro h j d hj hd he
    -- the first such place lies at or below j
    have : ∀ m, m ≤ j → (∀ k, k < m → ∀ d', cs[k]? = some d' → d'.name.toList ≠ c.name.toList) → False := by
      intro m
      induction hm : j - m generalizing m with
      | zero =>
        intro hle hn
        have e : m = j := by omega
        subst e
        have := findB_at (fun k d' hk hd' => hn k hk d' hd') hd he
        omega
      | succ r ih =>
        intro hle hn
        by_cases hmj : m = j
        · omega
        · cases hq : cs[m]? with
          | none =>
            have h1 := List.getElem?_eq_none_iff.1 hq
            have h2 := (List.getElem?_eq_some_iff.1 hd).1
            omega
          | some d' =>
            by_cases hq' : d'.name.toList = c.name.toList
            · have := findB_at (fun k d'' hk hd'' => hn k hk d'' hd'') hq hq'
              omega
            · exact ih (m + 1) (by omega) (by omega) fun k hk d'' hd'' => by
                by_cases e : k = m
                · subst e
                  rw [hq] at hd''
                  cases hd''
                  exact hq'
                · exact hn k (by omega) d'' hd''
    exact this 0 (by omega) (fun k hk => by omega)
  · intro h
    exact findB_at h hc rfl

set_option maxHeartbeats 4000000 in
theorem refColumns_any (A : Option Addr) (cc : Nat) (cs : List Col) (w : World) (hc : ReadsC w A cs) (hcl : cs.length ≤ 50) (hnm : ∀ (i : Nat) c, cs[i]? = some c → c.name.size ≤ 1000) :
    Calls Try.prog 13 #[.slice A cs.length cc] w fun e w' => e = .returned (.int .i64 (colsB cs)) ∧ Below w.heap.size w w' := by
  have hnot := @unary_not Try.prog
  by_cases h0 : cs.length = 0
  · have hf : Hid (colsB cs = 15) := by show colsB cs = 15; unfold colsB; rw [if_pos h0]
    have h1 : ((cs.length : Int) == 0) = true := beq_iff_eq.2 (by omega)
    clear h0 hc
    go_enter Try.func13, Try.ntmps13
    go_wp2_with fail
    go_ret
    exact ⟨by rw [hf.out]; rfl, Below.refl _ _⟩
  · have h1 : ((cs.length : Int) == 0) = false := beq_eq_false_iff_ne.2 (by omega)
    by_cases h6 : 6 < cs.length
    · have hf : Hid (colsB cs = 8) := by show colsB cs = 8; unfold colsB; rw [if_neg (by omega), if_pos h6]
      clear hc
      go_enter Try.func13, Try.ntmps13
      go_wp2_with fail
      go_ret
      exact ⟨by rw [hf.out]; rfl, Below.refl _ _⟩
    · have HC := Lib.hid hc; have HNM := Lib.hid hnm; clear hc hnm
      have h6' : ¬ (6 : Int) < (cs.length : Int) := by omega
      go_enter Try.func13, Try.ntmps13
      go_wp2_with fail
      go_loopw [3] (fun i wr => ∃ k : Nat, k ≤ cs.length ∧ i = .int .i64 k ∧ Hid (zeroTo (colE cs) k) ∧ Hid (Below w.heap.size w wr)) (fun i _ => cs.length - (intOf i).toNat)
      case atStart => exact ⟨0, Nat.zero_le _, rfl, (fun i hi => by omega : zeroTo (colE cs) 0), Below.refl _ _⟩
      case round =>
        obtain ⟨k, hk, rfl, HG, HB⟩ := hrel
        have hsz := HB.out.size
        by_cases hlt : k < cs.length
        · obtain ⟨c, hc⟩ : ∃ c, cs[k]? = some c := ⟨cs[k], List.getElem?_eq_getElem hlt⟩
          have hns := HNM.out k c hc
          obtain ⟨b', off', hA', hbl', c0, c1, c2, c3⟩ := HC.out k c hc
          subst hA'
          have d0 := (HB.out.cell (p := ⟨b', off' + k * 4, none⟩) hbl').trans c0
          have d1 := (HB.out.cell (p := ⟨b', off' + k * 4 + 1, none⟩) hbl').trans c1
          clear c0 c1 c2 c3
          have HCk := Lib.hid hc; clear hc
          have stop : ∀ r, colE cs k = r → r ≠ 0 → colsB cs = r := by
            intro r hr hr0
            unfold colsB
            rw [if_neg (by omega), if_neg (by omega), firstNZ_at HG.out (by rw [hr]; exact hr0) hlt, hr]
          have STOP := Lib.hid stop; clear stop
          have hE0 : Hid (colE cs k = if (nameB c.name && (decide (1 ≤ c.typ) && decide (c.typ ≤ 3))) = true then (if findB cs c.name = k then 0 else 3) else 15) := by
            show colE cs k = _
            unfold colE
            rw [HCk.out]
          have hN := fun w => refName_any c.name w hns
          cases hnb : nameB c.name with
          | false =>
            have hE : Hid (colE cs k = 15) := by show colE cs k = 15; rw [hE0.out, hnb]; rfl
            simp only [hnb] at hN
            have HN := Lib.hid hN; clear hN hnb
            go_wp2_with (go_at_call 8; refine (HN.out _).mono ?_; rintro e w' ⟨rfl, rfl⟩)
            go_ret
            exact ⟨by rw [STOP.out 15 hE.out (by omega)]; rfl, HB.out⟩
          | true =>
            simp only [hnb] at hN
            have HN := Lib.hid hN; clear hN
            by_cases t1 : c.typ < 1
            · have hE : Hid (colE cs k = 15) := by show colE cs k = 15; rw [hE0.out, hnb]; have : ¬ 1 ≤ c.typ := by omega
                                                   simp [this]
              clear hnb
              go_wp2_with (go_at_call 8; refine (HN.out _).mono ?_; rintro e w' ⟨rfl, rfl⟩)
              go_ret
              exact ⟨by rw [STOP.out 15 hE.out (by omega)]; rfl, HB.out⟩
            · have t1' : decide (c.typ < 1) = false := decide_eq_false t1
              by_cases t3 : 3 < c.typ
              · have hE : Hid (colE cs k = 15) := by show colE cs k = 15; rw [hE0.out, hnb]; have : ¬ c.typ ≤ 3 := by omega
                                                     simp [this]
                clear hnb
                go_wp2_with (go_at_call 8; refine (HN.out _).mono ?_; rintro e w' ⟨rfl, rfl⟩)
                go_ret
                exact ⟨by rw [STOP.out 15 hE.out (by omega)]; rfl, HB.out⟩
              · have t3' : decide (3 < c.typ) = false := decide_eq_false t3
                have hE1 : Hid (colE cs k = if findB cs c.name = k then 0 else 3) := by
                  show colE cs k = _
                  rw [hE0.out, hnb]
                  have a : 1 ≤ c.typ := by omega
                  have b : c.typ ≤ 3 := by omega
                  simp [a, b]
                clear hnb
                go_wp2_with (go_at_call 8; refine (HN.out _).mono ?_; rintro e w' ⟨rfl, rfl⟩)
                obtain ⟨wo, rfl⟩ : ∃ wo : World, wo = wr := ⟨_, rfl⟩
                go_loopw [4] (fun i wr => ∃ m : Nat, m ≤ k ∧ i = .int .i64 m ∧ Hid (noneTo cs c.name m) ∧ Hid (Below w.heap.size w wr)) (fun i _ => k - (intOf i).toNat)
                case atStart => exact ⟨0, Nat.zero_le _, rfl, (fun i c hi => by omega : noneTo cs c.name 0), HB⟩
                case round =>
                  obtain ⟨m, hm, rfl, HM, HB2⟩ := hrel
                  by_cases hmk : m < k
                  · have hml : m < cs.length := by omega
                    obtain ⟨d, hd⟩ : ∃ d, cs[m]? = some d := ⟨cs[m], List.getElem?_eq_getElem hml⟩
                    obtain ⟨b2, off2, hA2, hbl2, g0, g1, g2, g3⟩ := HC.out m d hd
                    obtain ⟨b3, off3, hA3, hbl3, k0, k1, k2, k3⟩ := HC.out k c HCk.out
                    simp only [Option.some.injEq, Addr.mk.injEq, and_true] at hA2 hA3
                    obtain ⟨rfl, rfl⟩ := hA2
                    obtain ⟨rfl, rfl⟩ := hA3
                    have x0 := (HB2.out.cell (p := ⟨b', off' + m * 4, none⟩) hbl').trans g0
                    have y0 := (HB2.out.cell (p := ⟨b', off' + k * 4, none⟩) hbl').trans k0
                    clear g0 g1 g2 g3 k0 k1 k2 k3
                    have HD := Lib.hid hd; clear hd
                    by_cases he : d.name.toList = c.name.toList
                    · have hb := eq_list he
                      have hE : Hid (colE cs k = 3) := by
                        show colE cs k = 3
                        rw [hE1.out, if_neg]
                        exact fun h => (findB_self HCk.out).1 h m d hmk HD.out he
                      clear he
                      go_wp2_with fail
                      go_quiet (fail)
                      go_wp2_with fail
                      go_ret
                      exact ⟨by rw [STOP.out 3 hE.out (by omega)]; rfl, below_drewN HB2.out _⟩
                    · have hb := ne_list he
                      have hnx : Hid (noneTo cs c.name (m + 1)) := noneTo_succ HM.out HD.out he
                      clear he
                      go_wp2_with fail
                      go_quiet (fail)
                      go_wp2_with fail
                      go_roundw
                      case rel => exact ⟨m + 1, by omega, by go_num, hnx, below_drewN HB2.out _⟩
                      case measure => simp [intOf]; omega
                  · obtain rfl : m = k := by omega
                    have hE : Hid (colE cs m = 0) := by
                      show colE cs m = 0
                      rw [hE1.out, if_pos ((findB_self HCk.out).2 HM.out)]
                    go_wp2_with fail
                    exact ⟨⟨m + 1, by omega, by go_num, zeroTo_succ HG.out hE.out, HB2⟩, by simp [intOf]; omega⟩
        · obtain rfl : k = cs.length := by omega
          have hfin : Hid (colsB cs = 0) := by
            show colsB cs = 0
            unfold colsB
            rw [if_neg (by omega), if_neg (by omega), firstNZ_zero HG.out]
          go_wp2_with fail
          go_ret
          exact ⟨by rw [hfin.out]; rfl, HB.out⟩

theorem readsV_nil (w : World) : ReadsV w none [] := fun i v hv => by simp at hv

theorem schemaColumns_walk {H : Type} {enc : TypeId × Value → H} {sp0 : Nat → Bool} {hd0 : Bool} {d0 : DataW H} {p0 : List MemPlace} {b0 : Nat} (v0 : Value) (nm : ByteArray) (w : World)
    (hv0 : Value.okWide Try.prog w .any b0 24 v0) (h0 : DataW.Trod enc Try.prog w 0 sp0 hd0 24 v0 d0 p0) (_hs : nm.size ≤ 140737488351232) :
    Calls Try.prog 5 #[v0, .string nm] w fun e w' => e = .returned (.bool true) ∧ Below w.heap.size w w' := by
  obtain ⟨A, cc, cs, rfl, hc⟩ := open_cols hv0 h0
  clear hv0 h0
  have hnot := @unary_not Try.prog
  have HC := Lib.hid hc; clear hc
  go_enter Try.func5, Try.ntmps5
  go_wp2_with (go_at_call 6; refine (awake_calls _).mono ?_; rintro e w1 ⟨rfl, hb1⟩)
  have HB1 := Lib.hid hb1; clear hb1
  refine (great_any A none cc 0 cs [] w1 (HC.out.below HB1.out) (readsV_nil _)).mono ?_
  rintro e w2 ⟨g, rfl, hg, hb2⟩
  have z1 := HB1.out.size
  have HB2 := Lib.hid (HB1.out.trans (hb2.mono (by omega))); clear hb2
  have HG := Lib.hid hg; clear hg
  cases g with
  | true =>
    go_wp2_with fail
    go_ret
    exact ⟨rfl, HB2.out⟩
  | false =>
    have hl1 := (HG.out rfl).1
    have HNM := Lib.hid (HG.out rfl).2.2
    by_cases hn : 1000 < nm.size
    · have hn' : decide ((1000 : Int) < (nm.size : Int)) = true := by simp; omega
      go_wp2_with fail
      go_ret
      exact ⟨rfl, HB2.out⟩
    · have hn' : decide ((1000 : Int) < (nm.size : Int)) = false := by simp; omega
      go_wp2_with fail
      refine (columns_any A cc cs w2 (HC.out.below HB2.out) hl1 HNM.out).mono ?_
      rintro e w3 ⟨rfl, hb3⟩
      have z2 := HB2.out.size
      have HB3 := Lib.hid (HB2.out.trans (hb3.mono (by omega))); clear hb3
      go_wp2_with fail
      refine (refColumns_any A cc cs w3 (HC.out.below HB3.out) hl1 HNM.out).mono ?_
      rintro e w4 ⟨rfl, hb4⟩
      have z3 := HB3.out.size
      have HB4 := Lib.hid (HB3.out.trans (hb4.mono (by omega))); clear hb4
      go_wp2_with fail
      refine (find_any A cc cs nm w4 (HC.out.below HB4.out) hl1).mono ?_
      rintro e w5 ⟨rfl, hb5⟩
      have z4 := HB4.out.size
      have HB5 := Lib.hid (HB4.out.trans (hb5.mono (by omega))); clear hb5
      go_wp2_with fail
      refine (refFind_any A cc cs nm w5 (HC.out.below HB5.out) hl1).mono ?_
      rintro e w6 ⟨rfl, rfl⟩
      go_wp2_with fail
      go_ret
      exact ⟨by simp, HB5.out⟩
end Go.Proofs.Ytdkdjdlndcihmaa
