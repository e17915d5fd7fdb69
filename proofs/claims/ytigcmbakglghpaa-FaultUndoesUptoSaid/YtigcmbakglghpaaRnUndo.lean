/-
  Undo and First, walked, over whatever is caught.
-/
import Derived.Test.YtigcmbakglghpaaRnClos
import Derived.Below
import Derived.RegionTactic
namespace Go.Proofs.Ytigcmbakglghpaa
open Go.RowKit Go.Proofs.YtigcmbakglghpaaW.PrintWords Go.Proofs.YtigcmbakglghpaaW.PrintLast Go.Proofs.YtigcmbakglghpaaW.PrintMore Go.Proofs.Ytigcmbakglghpaa.PFaultRuns
set_option linter.unusedVariables false
set_option linter.unusedSimpArgs false

set_option maxHeartbeats 2000000 in
theorem undo_any (F B : Value) (w : World) (C1 : Int → Int → World → Prop) (C2 : Int → Int → Int → Int → World → Prop)
    (h1 : Calls Try.prog 8 #[F] (w.alloc (.cells #[.int .i64 0, .int .i64 0] 25)) fun e w' => ∃ c a, e = .returned (.agg #[.int .i64 c, .int .i64 a]) ∧ C1 c a w' ∧ w'.heap[w.heap.size]? = some (.cells #[.int .i64 0, .int .i64 0] 25))
    (h2 : ∀ c a w', c ≠ 0 → C1 c a w' → w'.heap[w.heap.size]? = some (.cells #[.int .i64 0, .int .i64 0] 25) → Calls Try.prog 8 #[B] (w'.alloc (.cells #[.int .i64 c, .int .i64 a] 25)) fun e w'' => ∃ d b, e = .returned (.agg #[.int .i64 d, .int .i64 b]) ∧ C2 c a d b w'' ∧ w''.heap[w.heap.size]? = some (.cells #[.int .i64 0, .int .i64 0] 25) ∧ w''.heap[w'.heap.size]? = some (.cells #[.int .i64 c, .int .i64 a] 25)) :
    Calls Try.prog 20 #[F, B] w fun e w' =>
      (∃ c a w1, C1 c a w1 ∧ Frm TF w.heap.size w1 w' ∧ c = 0 ∧ e = .returned (.agg #[.int .i64 c, .int .i64 a])) ∨
      (∃ c a d b w2, c ≠ 0 ∧ C2 c a d b w2 ∧ Frm TF w.heap.size w2 w' ∧ e = .returned (if d = 0 then .agg #[.int .i64 c, .int .i64 a] else .agg #[.int .i64 d, .int .i64 b])) := by
  have H1 := Lib.hid h1
  have H2 := Lib.hid h2
  clear h1 h2
  go_enter Try.func20, Try.ntmps20
  go_wp2_with fail
  refine H1.out.mono ?_
  rintro e w1 ⟨c, a, rfl, hc1, hb1⟩
  have HC1 := Lib.hid hc1
  have HB1 := Lib.hid hb1
  have hx5 := heap_alloc_new w1 (.cells #[.int .i64 c, .int .i64 a] 25)
  obtain ⟨n0, n1, nf0, nf1, nl⟩ := two_of_block hx5
  obtain ⟨r0, r1, rf0, rf1, rl⟩ := two_of_block (blk_alloc hb1 (.cells #[.int .i64 c, .int .i64 a] 25))
  have HX5 := Lib.hid hx5
  have hle : w.heap.size ≤ w1.heap.size := Nat.le_of_lt (lt_of_block hb1)
  have HLE := Lib.hid hle
  clear hc1 hb1 hx5 hle
  by_cases hc : c = 0
  · subst hc
    go_wp2_with fail
    refine bodyPost_ret (v := .agg #[.int .i64 0, .int .i64 a]) (by simp [results, Try.results20, go_sem, r0, r1, rl, n0, n1, nl]) rfl ?_
    exact .inl ⟨0, a, w1, HC1.out, (Frm.ofBut ((But.setCell (But.setCell (But.refl w.heap.size (w1.alloc (.cells #[.int .i64 0, .int .i64 a] 25))) 0 _) 1 _)) (blk_alloc HB1.out _) (Nat.le_refl _) |> (Frm.alloc (Frm.refl _ _ _) HLE.out _).trans), rfl, rfl⟩
  · have hcb : (c == 0) = false := beq_eq_false_iff_ne.2 hc
    have HC2 := Lib.hid (H2.out c a w1 hc HC1.out HB1.out)
    clear n0 n1 nf0 nf1 nl r0 r1 rf0 rf1 rl
    obtain ⟨n0, n1, nf0, nf1, nl⟩ := two_of_block HX5.out
    go_wp2_with fail
    refine HC2.out.mono ?_
    rintro e w2 ⟨d, b, rfl, hc2, hb2, hx2⟩
    have HD2 := Lib.hid hc2
    have HB2 := Lib.hid hb2
    have HX2 := Lib.hid hx2
    have hx6 := heap_alloc_new w2 (.cells #[.int .i64 d, .int .i64 b] 25)
    clear n0 n1 nf0 nf1 nl
    obtain ⟨n0, n1, nf0, nf1, nl⟩ := two_of_block hx6
    obtain ⟨m0, m1, mf0, mf1, ml⟩ := two_of_block (blk_alloc hx2 (.cells #[.int .i64 d, .int .i64 b] 25))
    obtain ⟨r0, r1, rf0, rf1, rl⟩ := two_of_block (blk_alloc hb2 (.cells #[.int .i64 d, .int .i64 b] 25))
    clear hc2 hb2 hx2 hx6
    by_cases hd : d = 0
    · subst hd
      go_wp2_with fail
      refine bodyPost_ret (v := .agg #[.int .i64 c, .int .i64 a]) (by simp [results, Try.results20, go_sem, r0, r1, rl, n0, n1, nl, m0, m1, ml]) rfl ?_
      have hle2 : w.heap.size ≤ w2.heap.size := Nat.le_of_lt (lt_of_block HB2.out)
      exact .inr ⟨c, a, 0, b, w2, hc, HD2.out, (Frm.ofBut ((But.setCell (But.setCell (But.refl w.heap.size (w2.alloc (.cells #[.int .i64 0, .int .i64 b] 25))) 0 _) 1 _)) (blk_alloc HB2.out _) (Nat.le_refl _) |> (Frm.alloc (Frm.refl _ _ _) hle2 _).trans), by rw [if_pos rfl]⟩
    · have hdb : (d == 0) = false := beq_eq_false_iff_ne.2 hd
      go_wp2_with fail
      refine bodyPost_ret (v := .agg #[.int .i64 d, .int .i64 b]) (by simp [results, Try.results20, go_sem, r0, r1, rl, n0, n1, nl, m0, m1, ml]) rfl ?_
      have hle2 : w.heap.size ≤ w2.heap.size := Nat.le_of_lt (lt_of_block HB2.out)
      exact .inr ⟨c, a, d, b, w2, hc, HD2.out, (Frm.ofBut ((But.setCell (But.setCell (But.refl w.heap.size (w2.alloc (.cells #[.int .i64 d, .int .i64 b] 25))) 0 _) 1 _)) (blk_alloc HB2.out _) (Nat.le_refl _) |> (Frm.alloc (Frm.refl _ _ _) hle2 _).trans), by rw [if_neg hd]⟩
/-- First, by frames. -/
theorem first_frm {n cap base : Nat} {A : Option Addr} {clos : Nat → Value} {Inv : Nat → World → Prop} {Stp : Nat → Int → Int → World → Prop}
    (stay : ∀ j w w', Inv j w → Frm TF base w w' → Inv j w') (stayS : ∀ j c a w w', Stp j c a w → Frm TF base w w' → Stp j c a w')
    (read : ∀ j w, Inv j w → j < n → ∃ b, A = some ⟨b, 0, none⟩ ∧ w.cell? ⟨b, j, none⟩ = some (clos j))
    (call : ∀ j w, j < n → Inv j w → base ≤ w.heap.size → Calls Try.prog 8 #[clos j] w fun e w' => Frm TB base w w' ∧
      ((e = .returned (.agg #[.int .i64 0, .int .i64 0]) ∧ Inv (j + 1) w') ∨ ∃ c a, (c == 0) = false ∧ e = .returned (.agg #[.int .i64 c, .int .i64 a]) ∧ Stp j c a w'))
    (w : World) (hbase : base ≤ w.heap.size) (hn : n ≤ 1000000) (h0 : Inv 0 w) :
    Calls Try.prog 14 #[.slice A n cap] w fun e w' => Frm TB base w w' ∧
      ((e = .returned (.tuple #[.int .i64 (-1), .agg #[.int .i64 0, .int .i64 0]]) ∧ Inv n w') ∨ ∃ (j : Nat) (c a : Int), j < n ∧ (c == 0) = false ∧ e = .returned (.tuple #[.int .i64 j, .agg #[.int .i64 c, .int .i64 a]]) ∧ Stp j c a w') := by
  have HST := Lib.hid stay
  have HSS := Lib.hid stayS
  have HRD := Lib.hid read
  have HCL := Lib.hid call
  have H0 := Lib.hid h0
  have hnew := heap_alloc_new w (.cells #[.int .i64 0, .int .i64 0] 25)
  have HNEW := Lib.hid hnew
  have HFA : Hid (Frm TB base w (w.alloc (.cells #[.int .i64 0, .int .i64 0] 25))) := Frm.alloc (Frm.refl _ _ _) hbase _
  have HBASE := Lib.hid hbase
  clear stay stayS read call h0 hnew hbase
  go_enter Try.func14, Try.ntmps14
  go_wp2_with fail
  go_loopw [9] (fun i wr => ∃ j : Nat, j ≤ n ∧ i = .int .i64 j ∧ Hid (Inv j wr) ∧ Hid (Frm TB base w wr) ∧ Hid (wr.heap[w.heap.size]? = some (.cells #[.int .i64 0, .int .i64 0] 25))) (fun i _ => n - (intOf i).toNat)
  case atStart => exact ⟨0, Nat.zero_le _, rfl, HST.out _ _ _ H0.out (Frm.alloc (Frm.refl _ _ _) HBASE.out _), HFA, HNEW⟩
  case round =>
    obtain ⟨j, hj, rfl, HI, HF, HB⟩ := hrel
    clear HFA HNEW
    by_cases hlt : j < n
    · obtain ⟨b, hA, hc⟩ := HRD.out _ _ HI.out hlt
      subst hA
      have HC := Lib.hid (HCL.out _ _ hlt HI.out (Nat.le_trans HBASE.out HF.out.low.size))
      go_wp2_with fail
      refine HC.out.mono ?_
      rintro e w1 ⟨hF1, hcase⟩
      have hb1 := hF1.keep _ _ _ _ HB.out (by decide)
      have HF1 := Lib.hid (HF.out.trans hF1)
      have hbs : base ≤ w1.heap.size := Nat.le_trans HBASE.out HF1.out.low.size
      have HBS := Lib.hid hbs
      have HB1 := Lib.hid hb1
      clear hF1 hb1 hbs hc
      rcases hcase with ⟨rfl, hinv1⟩ | ⟨c, a, hc0, rfl, hst⟩
      · have HI1 := Lib.hid hinv1; clear hinv1
        go_wp2_with fail
        go_roundw
        case rel => exact ⟨j + 1, by omega, by go_num, HST.out _ _ _ HI1.out (Frm.alloc (Frm.refl _ _ _) HBS.out _), HF1.out.alloc HBASE.out _, blk_alloc HB1.out _⟩
        case measure => simp [intOf]; omega
      · have HI1 := Lib.hid hst; clear hst
        obtain ⟨q0, q1, y0, y1, l0⟩ := two_of_block HB1.out
        go_wp2_with fail
        go_region
        all_goals
          go_wp2_with fail
          refine bodyPost_ret (v := .tuple #[.int .i64 j, .agg #[.int .i64 c, .int .i64 a]]) (by simp [results, Try.results14, go_sem, q0, q1, l0]) rfl ?_
          have hbut : But w.heap.size w1 (((w1.setCell ⟨w.heap.size, 0, none⟩ (.int .i64 c)).setCell ⟨w.heap.size, 1, none⟩ (.int .i64 a)).alloc (.cells #[.int .i64 c, .int .i64 a] 25)).drew := Chg.drew (Chg.alloc (But.setCell (But.setCell (But.refl w.heap.size w1) 0 _) 1 _) _)
          exact ⟨HF1.out.past hbut (Nat.le_refl _) HBASE.out, .inr ⟨j, c, a, hlt, hc0, rfl, HSS.out _ _ _ _ _ HI1.out (Frm.ofBut hbut HB1.out HBASE.out)⟩⟩
    · obtain ⟨q0, q1, y0, y1, l0⟩ := two_of_block HB.out
      go_wp2_with fail
      refine bodyPost_ret (v := .tuple #[.int .i64 (-1), .agg #[.int .i64 0, .int .i64 0]]) (by simp [results, Try.results14, go_sem, q0, q1, l0]) rfl ?_
      obtain rfl : j = n := by omega
      have hbut : But w.heap.size wr ((wr.setCell ⟨w.heap.size, 0, none⟩ (.int .i64 0)).setCell ⟨w.heap.size, 1, none⟩ (.int .i64 0)) := But.setCell (But.setCell (But.refl w.heap.size wr) 0 _) 1 _
      exact ⟨HF.out.past hbut (Nat.le_refl _) HBASE.out, .inl ⟨rfl, HST.out _ _ _ HI.out (Frm.ofBut hbut HB.out HBASE.out)⟩⟩
end Go.Proofs.Ytigcmbakglghpaa
