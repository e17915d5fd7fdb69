/-
  The walk of schema.Fit: the error of the first value of a row that doesn't fit its column.
-/
import Derived.Test.YtdkdjdlndcihmaaRight
import Derived.Test.YtdkdjdlndcihmaaCatch
import Derived.LoopTactic
import Derived.BigQuiet
import Derived.RegionTactic
import Derived.Deep.RegionWith
import Derived.Deep.QuietTactic
import Derived.StillTailTactics
import Derived.WalkSmall
namespace Go.Proofs.Ytdkdjdlndcihmaa
open Go.RowKit
set_option linter.unusedVariables false
set_option linter.unusedSimpArgs false

/-- A column; a value. -/
structure Col where
  name : ByteArray
  typ : Int
  nn : Bool
  uq : Bool
structure Val where
  kind : Int
  n : Int
  s : ByteArray

/-- A slice of columns reads as cs. -/
def ReadsC (w : World) (A : Option Addr) (cs : List Col) : Prop := ∀ (i : Nat) (c : Col), cs[i]? = some c → ∃ b off, A = some ⟨b, off, none⟩ ∧ b < w.heap.size ∧
  w.cell? ⟨b, off + i * 4, none⟩ = some (.string c.name) ∧ w.cell? ⟨b, off + i * 4 + 1, none⟩ = some (.int .i64 c.typ) ∧ w.cell? ⟨b, off + i * 4 + 2, none⟩ = some (.bool c.nn) ∧ w.cell? ⟨b, off + i * 4 + 3, none⟩ = some (.bool c.uq)
/-- A slice of values reads as vs. -/
def ReadsV (w : World) (A : Option Addr) (vs : List Val) : Prop := ∀ (i : Nat) (v : Val), vs[i]? = some v → ∃ b off, A = some ⟨b, off, none⟩ ∧ b < w.heap.size ∧
  w.cell? ⟨b, off + i * 3, none⟩ = some (.int .i64 v.kind) ∧ w.cell? ⟨b, off + i * 3 + 1, none⟩ = some (.int .i64 v.n) ∧ w.cell? ⟨b, off + i * 3 + 2, none⟩ = some (.string v.s)

theorem ReadsC.below {w w' : World} {A : Option Addr} {cs : List Col} (h : ReadsC w A cs) (hb : Below w.heap.size w w') : ReadsC w' A cs := by
  intro i c hc
  obtain ⟨b, off, hA, hl, h1, h2, h3, h4⟩ := h i c hc
  exact ⟨b, off, hA, Nat.lt_of_lt_of_le hl hb.size, (hb.cell (p := ⟨_, _, none⟩) hl).trans h1, (hb.cell (p := ⟨_, _, none⟩) hl).trans h2, (hb.cell (p := ⟨_, _, none⟩) hl).trans h3, (hb.cell (p := ⟨_, _, none⟩) hl).trans h4⟩
theorem ReadsV.below {w w' : World} {A : Option Addr} {vs : List Val} (h : ReadsV w A vs) (hb : Below w.heap.size w w') : ReadsV w' A vs := by
  intro i c hc
  obtain ⟨b, off, hA, hl, h1, h2, h3⟩ := h i c hc
  exact ⟨b, off, hA, Nat.lt_of_lt_of_le hl hb.size, (hb.cell (p := ⟨_, _, none⟩) hl).trans h1, (hb.cell (p := ⟨_, _, none⟩) hl).trans h2, (hb.cell (p := ⟨_, _, none⟩) hl).trans h3⟩

/-- What is wrong with a value in a column; 0: nothing. -/
def fitE (c : Col) (v : Val) : Int := if rightB v.kind v.n v.s = false then 15 else if v.kind = 0 then (if c.nn = true then 5 else 0) else if v.kind = c.typ then 0 else 4
/-- The first error of pairs. -/
def fitL : List Col → List Val → Int
  | c :: cs, v :: vs => if fitE c v = 0 then fitL cs vs else fitE c v
  | _, _ => 0
/-- What is wrong with a row. -/
def fitB (cs : List Col) (vs : List Val) : Int := if cs.length = vs.length then fitL cs vs else 15
/-- The first k pairs fit. -/
def fitTo (cs : List Col) (vs : List Val) (k : Nat) : Prop := ∀ (i : Nat) c v, i < k → cs[i]? = some c → vs[i]? = some v → fitE c v = 0
theorem fitTo_succ {cs : List Col} {vs : List Val} {k : Nat} (h : fitTo cs vs k) {c : Col} {v : Val} (hc : cs[k]? = some c) (hv : vs[k]? = some v) (he : fitE c v = 0) : fitTo cs vs (k + 1) := by
  intro i c' v' hi h1 h2
  by_cases e : i = k
  · subst e
    rw [hc] at h1; rw [hv] at h2
    cases h1; cases h2
    exact he
  · exact h i c' v' (by omega) h1 h2
theorem fitL_all : ∀ (cs : List Col) (vs : List Val), (∀ (i : Nat) c v, cs[i]? = some c → vs[i]? = some v → fitE c v = 0) → fitL cs vs = 0
  | [], _, _ => rfl
  | _ :: _, [], _ => rfl
  | c :: cs, v :: vs, h => by
    unfold fitL
    rw [if_pos (h 0 c v rfl rfl)]
    exact fitL_all cs vs fun i c' v' h1 h2 => h (i + 1) c' v' h1 h2
theorem fitL_at : ∀ (cs : List Col) (vs : List Val) (k : Nat) (c : Col) (v : Val), cs[k]? = some c → vs[k]? = some v → fitE c v ≠ 0 → (∀ (i : Nat) c v, i < k → cs[i]? = some c → vs[i]? = some v → fitE c v = 0) → fitL cs vs = fitE c v
  | [], _, _, _, _, h, _, _, _ => by simp at h
  | _ :: _, [], _, _, _, _, h, _, _ => by simp at h
  | c :: cs, v :: vs, 0, c', v', h1, h2, h3, _ => by
    simp at h1 h2
    subst h1 h2
    unfold fitL
    rw [if_neg h3]
  | c :: cs, v :: vs, k + 1, c', v', h1, h2, h3, h4 => by
    unfold fitL
    rw [if_pos (h4 0 c v (by omega) rfl rfl)]
    exact fitL_at cs vs k c' v' (by simpa using h1) (by simpa using h2) h3 fun i c v hi a b => h4 (i + 1) c v (by omega) (by simpa using a) (by simpa using b)

theorem must_ok (c : Int) (w : World) : Calls Try.prog 18 #[.bool true, .int .i64 c] w fun e w' => e = .returned (.tuple #[]) ∧ w = w' := by
  have hnot := @unary_not Try.prog
  go_enter Try.func18, Try.ntmps18
  go_wp2
  go_end0
  exact ⟨rfl, rfl⟩
theorem must_q (c : Int) (w : World) : Calls Try.prog 18 #[.bool true, .int .i64 c] w fun e w' => e = .returned (.tuple #[]) ∧ w' = w := (must_ok c w).mono fun _ _ h => ⟨h.1, h.2.symm⟩
theorem must_no (c : Int) (hc : (c == 0) = false) (w : World) : Calls Try.prog 18 #[.bool false, .int .i64 c] w fun e w' => e = .panicked (thrown c 0) ∧ w = w' := by
  have hnot := @unary_not Try.prog
  go_enter Try.func18, Try.ntmps18
  go_wp2_with (go_at_call 25; refine (check_no c hc _).mono ?_; rintro e w' ⟨rfl, rfl⟩)
  exact ⟨rfl, rfl, rfl⟩

/-- What the closure of Fit does: it gives up with the error, if there is one. -/
def FitDoes (B : Nat) (w : World) (r : Int) (e : Ending) (w' : World) : Prop :=
  ((r = 0 ∧ e = .returned (.tuple #[])) ∨ (r ≠ 0 ∧ e = .panicked (thrown r 0))) ∧ Below B w w'

set_option maxHeartbeats 2000000 in
theorem fit1_any (R L : Nat) (A B : Option Addr) (cc cv : Nat) (cs : List Col) (vs : List Val) (w : World)
    (hR : w.cell? ⟨R, 0, none⟩ = some (.slice B vs.length cv)) (hL : w.cell? ⟨L, 0, none⟩ = some (.slice A cs.length cc)) (hRl : R < w.heap.size) (hLl : L < w.heap.size)
    (hc : ReadsC w A cs) (hv : ReadsV w B vs) (hcl : cs.length ≤ 50) (hvl : vs.length ≤ 50) (heq : cs.length = vs.length) :
    Calls Try.prog 17 #[.pointer (some ⟨R, 0, none⟩), .pointer (some ⟨L, 0, none⟩)] w (FitDoes w.heap.size w (fitB cs vs)) := by
  have hnot := @unary_not Try.prog
  have h0 : ((vs.length : Int) == (cs.length : Int)) = true := beq_iff_eq.2 (by omega)
  have HE := Lib.hid heq; have HC := Lib.hid hc; have HV := Lib.hid hv; have HR := Lib.hid hR; have HL := Lib.hid hL
  clear heq hc hv
  go_enter Try.func17, Try.ntmps17
  go_wp2_with (go_at_call 18; refine (must_ok 15 _).mono ?_; rintro e w' ⟨rfl, rfl⟩)
  go_loopw [12] (fun i wr => ∃ k : Nat, k ≤ vs.length ∧ i = .int .i64 k ∧ Hid (fitTo cs vs k) ∧ Hid (Below w.heap.size w wr)) (fun i _ => vs.length - (intOf i).toNat)
  case atStart => exact ⟨0, Nat.zero_le _, rfl, (fun i c v hi => by omega : fitTo cs vs 0), Below.refl _ _⟩
  case round =>
    obtain ⟨k, hk, rfl, HG, HB⟩ := hrel
    have hsz := HB.out.size
    by_cases hlt : k < vs.length
    · obtain ⟨v, hv⟩ : ∃ v, vs[k]? = some v := ⟨vs[k], List.getElem?_eq_getElem hlt⟩
      obtain ⟨c, hc⟩ : ∃ c, cs[k]? = some c := ⟨cs[k]'(by have := HE.out; omega), List.getElem?_eq_getElem _⟩
      obtain ⟨b, off, hA, hbl, v0, v1, v2⟩ := HV.out k v hv
      obtain ⟨b', off', hA', hbl', c0, c1, c2, c3⟩ := HC.out k c hc
      subst hA hA'
      have e0 := (HB.out.cell (p := ⟨b, off + k * 3, none⟩) hbl).trans v0
      have e1 := (HB.out.cell (p := ⟨b, off + k * 3 + 1, none⟩) hbl).trans v1
      have e2 := (HB.out.cell (p := ⟨b, off + k * 3 + 2, none⟩) hbl).trans v2
      have d1 := (HB.out.cell (p := ⟨b', off' + k * 4 + 1, none⟩) hbl').trans c1
      have d2 := (HB.out.cell (p := ⟨b', off' + k * 4 + 2, none⟩) hbl').trans c2
      have r2 := (HB.out.cell (p := ⟨L, 0, none⟩) hLl).trans HL.out
      have l1 : b < wr.heap.size := by omega
      have l2 : b' < wr.heap.size := by omega
      have l3 : L < wr.heap.size := by omega
      have hkc : k < cs.length := by have := HE.out; omega
      clear v0 v1 v2 c0 c1 c2 c3
      have HVk := Lib.hid hv; have HCk := Lib.hid hc; clear hv hc
      have hbel : Below w.heap.size w ((wr.alloc (.cells #[.int .i64 v.kind, .int .i64 v.n, .string v.s] 37)).alloc (.cells #[.int .i64 v.kind, .int .i64 v.n, .string v.s] 37)) := (HB.out.alloc (by omega) _).alloc (by simp; omega) _
      have HBEL := Lib.hid hbel; clear hbel
      have stop : ∀ r, fitE c v = r → r ≠ 0 → ∀ W, Below w.heap.size w W → FitDoes w.heap.size w (fitB cs vs) (.panicked (thrown r 0)) W := by
        intro r hr hr0 W hW
        have : fitB cs vs = r := by
          unfold fitB
          rw [if_pos HE.out, fitL_at cs vs k c v HCk.out HVk.out (by rw [hr]; exact hr0) HG.out, hr]
        rw [this]
        exact ⟨.inr ⟨hr0, rfl⟩, hW⟩
      have STOP := Lib.hid stop; clear stop
      have hR := fun w => valRight_any v.kind v.n v.s w
      cases hr : rightB v.kind v.n v.s with
      | false =>
        simp only [hr] at hR
        have hE : Hid (fitE c v = 15) := by show fitE c v = 15; unfold fitE; rw [hr, if_pos rfl]
        have HRT := Lib.hid hR; clear hR
        have HHR := Lib.hid hr; clear hr
        go_wp2_with (first | (go_at_call 19; refine (HRT.out _).mono ?_; rintro e w' ⟨rfl, rfl⟩) | (go_at_call 18; refine (must_no 15 rfl _).mono ?_; rintro e w' ⟨rfl, rfl⟩))
        exact ⟨rfl, STOP.out 15 hE.out (by omega) _ HBEL.out⟩
      | true =>
        simp only [hr] at hR
        have HRT := Lib.hid hR; clear hR
        have HHR := Lib.hid hr; clear hr
        by_cases hk0 : v.kind = 0
        · have f1 : (v.kind == 0) = true := by simp [hk0]
          have f2 : (v.kind != 0) = false := by simp [hk0]
          cases hn : c.nn with
          | true =>
            have hE : Hid (fitE c v = 5) := by show fitE c v = 5; unfold fitE; rw [HHR.out, if_neg (by simp), if_pos hk0, if_pos hn]
            clear hk0
            rw [hn] at d2
            have HHN := Lib.hid hn; clear hn
            go_wp2_with (first | (go_at_call 19; refine (HRT.out _).mono ?_; rintro e w' ⟨rfl, rfl⟩) | (go_at_call 18; refine (must_no 5 rfl _).mono ?_; rintro e w' ⟨rfl, rfl⟩) | (go_at_call 18; refine (must_ok _ _).mono ?_; rintro e w' ⟨rfl, rfl⟩))
            exact ⟨rfl, STOP.out 5 hE.out (by omega) _ HBEL.out⟩
          | false =>
            have hE : Hid (fitE c v = 0) := by show fitE c v = 0; unfold fitE; rw [HHR.out, if_neg (by simp), if_pos hk0, if_neg (by simp [hn])]
            clear hk0
            rw [hn] at d2
            have HHN := Lib.hid hn; clear hn
            go_wp2_with (first | (go_at_call 19; refine (HRT.out _).mono ?_; rintro e w' ⟨rfl, rfl⟩) | (go_at_call 18; refine (must_ok _ _).mono ?_; rintro e w' ⟨rfl, rfl⟩))
            go_quiet ((go_at_call 18; exact Calls.quiet_of_same (must_q _ _)))
            go_wp2_with fail
            go_roundw
            case rel => exact ⟨k + 1, by omega, by go_num, fitTo_succ HG.out HCk.out HVk.out hE.out, below_drewN HBEL.out _⟩
            case measure => simp [intOf]; omega
        · have f1 : (v.kind == 0) = false := by simp [hk0]
          have f2 : (v.kind != 0) = true := by simp [hk0]
          by_cases ht : v.kind = c.typ
          · have hE : Hid (fitE c v = 0) := by show fitE c v = 0; unfold fitE; rw [HHR.out, if_neg (by simp), if_neg hk0, if_pos ht]
            have f3 : (v.kind == c.typ) = true := by simp [ht]
            clear hk0 ht
            go_wp2_with (first | (go_at_call 19; refine (HRT.out _).mono ?_; rintro e w' ⟨rfl, rfl⟩) | (go_at_call 18; refine (must_ok _ _).mono ?_; rintro e w' ⟨rfl, rfl⟩))
            go_quiet ((go_at_call 18; exact Calls.quiet_of_same (must_q _ _)))
            go_wp2_with fail
            go_roundw
            case rel => exact ⟨k + 1, by omega, by go_num, fitTo_succ HG.out HCk.out HVk.out hE.out, below_drewN HBEL.out _⟩
            case measure => simp [intOf]; omega
          · have hE : Hid (fitE c v = 4) := by show fitE c v = 4; unfold fitE; rw [HHR.out, if_neg (by simp), if_neg hk0, if_neg ht]
            have f3 : (v.kind == c.typ) = false := by simp [ht]
            clear hk0 ht
            go_wp2_with (first | (go_at_call 19; refine (HRT.out _).mono ?_; rintro e w' ⟨rfl, rfl⟩) | (go_at_call 18; refine (must_ok _ _).mono ?_; rintro e w' ⟨rfl, rfl⟩))
            refine region_tail 13 (by kernel_rfl) (by kernel_rfl) ?_
            simp only [List.take_succ_cons, List.take_zero, List.drop_succ_cons, List.drop_zero]
            repeat still_step
            refine wpStill_nil ?_
            go_wp2_with (go_at_call 18; refine (must_no 4 rfl _).mono ?_; rintro e w' ⟨rfl, rfl⟩)
            exact ⟨rfl, STOP.out 4 hE.out (by omega) _ HBEL.out.drew⟩
    · obtain rfl : k = vs.length := by omega
      have hfin : Hid (fitB cs vs = 0) := by
        show fitB cs vs = 0
        unfold fitB
        rw [if_pos HE.out]
        exact fitL_all cs vs fun i c v h1 h2 => HG.out i c v (by
          rcases Nat.lt_or_ge i vs.length with h | h
          · exact h
          · rw [List.getElem?_eq_none h] at h2; cases h2) h1 h2
      go_wp2_with fail
      go_end0
      exact ⟨.inl ⟨hfin.out, rfl⟩, HB.out⟩

theorem fit1_len (R L : Nat) (A B : Option Addr) (cc cv : Nat) (cs : List Col) (vs : List Val) (w : World)
    (hR : w.cell? ⟨R, 0, none⟩ = some (.slice B vs.length cv)) (hL : w.cell? ⟨L, 0, none⟩ = some (.slice A cs.length cc)) (hne : cs.length ≠ vs.length) :
    Calls Try.prog 17 #[.pointer (some ⟨R, 0, none⟩), .pointer (some ⟨L, 0, none⟩)] w (FitDoes w.heap.size w (fitB cs vs)) := by
  have h0 : ((vs.length : Int) == (cs.length : Int)) = false := beq_eq_false_iff_ne.2 (by omega)
  have hf : Hid (fitB cs vs = 15) := by show fitB cs vs = 15; unfold fitB; rw [if_neg hne]
  clear hne
  go_enter Try.func17, Try.ntmps17
  go_wp2_with (go_at_call 18; refine (must_no 15 rfl _).mono ?_; rintro e w' ⟨rfl, rfl⟩)
  refine ⟨rfl, ?_⟩
  rw [hf.out]
  exact ⟨.inr ⟨by omega, rfl⟩, Below.refl _ _⟩

theorem field_code (a b : Value) (w : World) : (Instr.field 39 (.agg #[a, b]) 0).run Try.prog w = .ok a w := by kernel_rfl

theorem fit_any (A B : Option Addr) (cc cv : Nat) (cs : List Col) (vs : List Val) (w : World) (hc : ReadsC w A cs) (hv : ReadsV w B vs) (hcl : cs.length ≤ 50) (hvl : vs.length ≤ 50) :
    Calls Try.prog 10 #[.slice A cs.length cc, .slice B vs.length cv] w fun e w' => e = .returned (.int .i64 (fitB cs vs)) ∧ Below w.heap.size w w' := by
  have hmf := @make_func Try.prog
  have hfl := field_code
  have W2b : Below w.heap.size w ((w.alloc (.cells #[.slice A cs.length cc] 24)).alloc (.cells #[.slice B vs.length cv] 25)) := ((Below.refl _ _).alloc (Nat.le_refl _) _).alloc (by simp) _
  have W3b := W2b.alloc (by simp; omega) (.cells #[.int .i64 0, .int .i64 0] 39)
  have hL := one_of_block (blk_alloc (blk_alloc (heap_alloc_new w (.cells #[.slice A cs.length cc] 24)) (.cells #[.slice B vs.length cv] 25)) (.cells #[.int .i64 0, .int .i64 0] 39))
  have hR := one_of_block (blk_alloc (heap_alloc_at (w.alloc (.cells #[.slice A cs.length cc] 24)) (.cells #[.slice B vs.length cv] 25) (w.heap.size + 1) (by simp)) (.cells #[.int .i64 0, .int .i64 0] 39))
  have hF := heap_alloc_new ((w.alloc (.cells #[.slice A cs.length cc] 24)).alloc (.cells #[.slice B vs.length cv] 25)) (.cells #[.int .i64 0, .int .i64 0] 39)
  have hdo : Calls Try.prog 17 #[.pointer (some ⟨w.heap.size + 1, 0, none⟩), .pointer (some ⟨w.heap.size, 0, none⟩)] (((w.alloc (.cells #[.slice A cs.length cc] 24)).alloc (.cells #[.slice B vs.length cv] 25)).alloc (.cells #[.int .i64 0, .int .i64 0] 39)) (FitDoes (w.heap.size + 3) (((w.alloc (.cells #[.slice A cs.length cc] 24)).alloc (.cells #[.slice B vs.length cv] 25)).alloc (.cells #[.int .i64 0, .int .i64 0] 39)) (fitB cs vs)) := by
    have hsz : (((w.alloc (.cells #[.slice A cs.length cc] 24)).alloc (.cells #[.slice B vs.length cv] 25)).alloc (.cells #[.int .i64 0, .int .i64 0] 39)).heap.size = w.heap.size + 3 := by simp
    rw [← hsz]
    by_cases he : cs.length = vs.length
    · exact fit1_any _ _ A B cc cv cs vs _ hR.1 hL.1 hR.2.2 hL.2.2 (hc.below W3b) (hv.below W3b) hcl hvl he
    · exact fit1_len _ _ A B cc cv cs vs _ hR.1 hL.1 he
  have HC := Lib.hid (catch_any 17 #[.pointer (some ⟨w.heap.size + 1, 0, none⟩), .pointer (some ⟨w.heap.size, 0, none⟩)] ((w.alloc (.cells #[.slice A cs.length cc] 24)).alloc (.cells #[.slice B vs.length cv] 25)) _ (fun _ _ => by simp [go_sem]) (fun e w1 h => ⟨blk_below hF h.2 (by simp), by rcases h.1 with ⟨_, h⟩ | ⟨_, h⟩; exact .inl h; exact .inr ⟨_, _, h⟩⟩) hdo)
  have HW3 := Lib.hid W3b
  clear hdo hL hR hF W2b W3b hc hv
  go_enter Try.func10, Try.ntmps10
  go_wp2_with fail
  refine HC.out.mono ?_
  rintro e w' ⟨e1, w1, ⟨hd, hb⟩, hbut, hcase⟩
  have hfin : e = .returned (.agg #[.int .i64 (fitB cs vs), .int .i64 0]) := by
    rcases hd with ⟨h0, rfl⟩ | ⟨h0, rfl⟩
    · rcases hcase with ⟨_, rfl⟩ | ⟨c, a, h, _⟩
      · rw [h0]
      · cases h
    · rcases hcase with ⟨h, _⟩ | ⟨c, a, h, rfl⟩
      · cases h
      · injection h with h
        injection h with h _
        injection h with h _
        injection h with _ h
        injection h with h
        simp only [Array.mk.injEq, List.cons.injEq, Value.int.injEq, true_and, and_true] at h
        obtain ⟨rfl, rfl⟩ := h
        rfl
  subst hfin
  have hsz := hb.size
  simp only [World.size_alloc] at hsz
  have hfinal : Below w.heap.size w w' := (HW3.out.trans (hb.mono (by omega))).trans (hbut.below (by simp; omega) (by omega))
  have HFIN := Lib.hid hfinal
  clear hfinal hcase hd hb hbut
  go_wp2_with fail
  go_ret
  exact ⟨rfl, HFIN.out⟩
end Go.Proofs.Ytdkdjdlndcihmaa
