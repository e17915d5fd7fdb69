/-
  Law package 11: the law UndoPlays, whatever the quota.
-/
import Derived.Test.YtkanlcfinogaeaaUnPlays
namespace Go.Proofs.Ytkanlcfinogaeaa
open Go.RowKit Go.ChangeShapes Go.WideShapes Go.ChangeAt
set_option linter.unusedVariables false
set_option linter.unusedSimpArgs false

set_option maxRecDepth 8000 in
theorem undoPlays_out (q : Int) (hq : (Lit.int .i64 q).wf = true) (hb : ¬ (0 ≤ q ∧ q ≤ 100000)) (A : Option Addr) (n cap : Nat) (w : World) :
    Calls Try.prog 3 #[.int .i64 q, .slice A n cap] w fun e w' => e = .returned (.bool true) ∧ Below w.heap.size w w' := by
  have hnot := @unary_not Try.prog
  have HQ := Lib.hid hq; clear hq
  have HNB := Lib.hid hb
  by_cases h0 : q < 0
  · have h0b : decide (q < 0) = true := decide_eq_true h0
    clear hb
    go_enter Try.func3, Try.ntmps3
    go_wp2_with fail
    refine (awake_any w).mono ?_
    rintro e w1 ⟨rfl, hb0⟩
    have HB0 := Lib.hid hb0; clear hb0
    go_wp2_with fail
    refine (new_bad q HQ.out HNB.out w1).mono ?_
    rintro e w2 ⟨rfl, rfl⟩
    go_wp2_with fail
    go_ret
    exact ⟨rfl, HB0.out⟩
  · have h0b : decide (q < 0) = false := decide_eq_false h0
    have h1 : q > 100000 := by omega
    have h1b : decide (q > 100000) = true := decide_eq_true h1
    clear hb
    go_enter Try.func3, Try.ntmps3
    go_wp2_with fail
    refine (awake_any w).mono ?_
    rintro e w1 ⟨rfl, hb0⟩
    have HB0 := Lib.hid hb0; clear hb0
    go_wp2_with fail
    refine (new_bad q HQ.out HNB.out w1).mono ?_
    rintro e w2 ⟨rfl, rfl⟩
    go_wp2_with fail
    go_ret
    exact ⟨rfl, HB0.out⟩
theorem undoPlays_walk {H : Type} {enc : TypeId × Value → H} {sp1 : Nat → Bool} {hd1 : Bool} {d1 : DataW H} {p1 : List MemPlace} {b1 : Nat} (a0 : Int) (v1 : Value) (w : World)
    (h0 : (Lit.int .i64 a0).wf = true) (hv1 : Value.okWide Try.prog w .any b1 22 v1) (h1 : DataW.Trod enc Try.prog w 0 sp1 hd1 22 v1 d1 p1) :
    Calls Try.prog 3 #[.int .i64 a0, v1] w fun e w' => e = .returned (.bool true) ∧ Below w.heap.size w w' := by
  obtain ⟨A, cap, ops, rfl, hr, -⟩ := open_script hv1 h1
  by_cases hb : 0 ≤ a0 ∧ a0 ≤ 100000
  · exact undoPlays_in a0 hb.1 hb.2 A cap ops w hr
  · exact undoPlays_out a0 h0 hb A ops.length cap w
end Go.Proofs.Ytkanlcfinogaeaa
