/-
  Package arena: New, Load, Store, Pages, and those of no arena.
-/
import Derived.Test.YtmlgockejacjeaaArWalk
namespace Go.Proofs.Ytmlgockejacjeaa
open Go.RowKit
set_option linter.unusedVariables false
set_option linter.unusedSimpArgs false

theorem new_bad (q : Int) (hq : (Lit.int .i64 q).wf = true) (hb : ¬ (0 ≤ q ∧ q ≤ 4096)) (w : World) :
    Calls Try.prog 9 #[.int .i64 q] w fun e w' => e = .returned (.tuple #[.pointer none, .int .i64 15]) ∧ Below w.heap.size w w' := by
  have HB := Lib.hid hb; clear hb
  go_enter Try.func9, Try.ntmps9
  go_wp2_with fail
  refine (limit_bad q hq HB.out w.heap.size _).mono ?_
  rintro e w1 ⟨rfl, rfl⟩
  go_wp2_with fail
  go_ret2
  exact ⟨rfl, (Below.refl _ _).alloc (Nat.le_refl _) _⟩
theorem new_any (q : Int) (h0 : 0 ≤ q) (h1 : q ≤ 4096) (w : World) :
    Calls Try.prog 9 #[.int .i64 q] w fun e w' => e = .returned (.tuple #[.pointer (some ⟨w.heap.size, 0, none⟩), .int .i64 0]) ∧ Below w.heap.size w w' ∧ ∃ own, AR w.heap.size w.heap.size ⟨[], [], q⟩ own w' ∧ ∀ k, own k → w.heap.size ≤ k := by
  go_enter Try.func9, Try.ntmps9
  go_wp2_with fail
  have hR : AR w.heap.size w.heap.size ⟨[], [], 0⟩ (AOwn w.heap.size (.slice none 0 0) (.slice none 0 0)) (w.alloc (.cells #[.slice none 0 0, .slice none 0 0, .int .i64 0] 67)) :=
    ⟨_, _, [], rfl, Nat.le_refl _, heap_alloc_new _ _, World.ownsRow_nil _ _ _ _, World.ownsRow_nil _ _ _ _, rfl, fun i b hb => (by simp at hb), fun i hi => (by simp at hi)⟩
  refine (limit_any hR q h0 h1).mono ?_
  rintro e w1 ⟨rfl, hA, hG⟩
  have HA := Lib.hid hA; clear hA
  have HG := Lib.hid hG; clear hG
  go_wp2_with fail
  go_ret2
  refine ⟨rfl, ?_, _, HA.out, fun k hk => (hR.lt k hk).1⟩
  exact Chg.below ((Chg.alloc (Chg.refl _ _) _).trans (HG.out.chg.mono fun k _ hk => (hR.lt k hk).1)) (fun i hi => by omega) (Nat.le_refl _)

theorem load_nil (n : Int) (hn : (Lit.int .i64 n).wf = true) (w : World) :
    Calls Try.prog 13 #[.pointer none, .int .i64 n] w fun e w' => e = .returned (.tuple #[.slice none 0 0, .int .i64 15]) ∧ w = w' := by
  go_enter Try.func13, Try.ntmps13
  go_wp2_with fail
  refine (is_nil n w).mono ?_
  rintro e w1 ⟨rfl, rfl⟩
  go_wp2_with fail
  go_ret2
  exact ⟨rfl, rfl⟩
theorem load_out {base a : Nat} {S : ArS} {own : Nat → Prop} {w : World} (h : AR base a S own w) (ok : S.Ok) (n : Int) (hn : (Lit.int .i64 n).wf = true) (hp : S.page n = none) :
    Calls Try.prog 13 #[.pointer (some ⟨a, 0, none⟩), .int .i64 n] w fun e w' => e = .returned (.tuple #[.slice none 0 0, .int .i64 2]) ∧ w = w' := by
  have HI := Lib.hid (is_out h ok n hn hp)
  clear h hp
  go_enter Try.func13, Try.ntmps13
  go_wp2_with fail
  refine HI.out.mono ?_
  rintro e w1 ⟨rfl, rfl⟩
  go_wp2_with fail
  go_ret2
  exact ⟨rfl, rfl⟩
theorem store_nil (n : Int) (hn : (Lit.int .i64 n).wf = true) (v : Value) (w : World) :
    Calls Try.prog 12 #[.pointer none, .int .i64 n, v] w fun e w' => e = .returned (.int .i64 15) ∧ w = w' := by
  go_enter Try.func12, Try.ntmps12
  go_wp2_with fail
  refine (is_nil n w).mono ?_
  rintro e w1 ⟨rfl, rfl⟩
  go_wp2_with fail
  go_ret
  exact ⟨rfl, rfl⟩
theorem store_out {base a : Nat} {S : ArS} {own : Nat → Prop} {w : World} (h : AR base a S own w) (ok : S.Ok) (n : Int) (hn : (Lit.int .i64 n).wf = true) (hp : S.page n = none) (v : Value) :
    Calls Try.prog 12 #[.pointer (some ⟨a, 0, none⟩), .int .i64 n, v] w fun e w' => e = .returned (.int .i64 2) ∧ w = w' := by
  have HI := Lib.hid (is_out h ok n hn hp)
  clear h hp
  go_enter Try.func12, Try.ntmps12
  go_wp2_with fail
  refine HI.out.mono ?_
  rintro e w1 ⟨rfl, rfl⟩
  go_wp2_with fail
  go_ret
  exact ⟨rfl, rfl⟩
theorem store_short {base a : Nat} {S : ArS} {own : Nat → Prop} {w : World} (h : AR base a S own w) (ok : S.Ok) (n : Int) {l : List UInt8} (hp : S.page n = some l) (A : Option Addr) (k c : Nat) (hk : k ≠ 1024) :
    Calls Try.prog 12 #[.pointer (some ⟨a, 0, none⟩), .int .i64 n, .slice A k c] w fun e w' => e = .returned (.int .i64 15) ∧ w = w' := by
  have HI := Lib.hid (is_in h ok n hp)
  clear h hp
  have hk' : (((k : Nat) : Int) == 1024) = false := beq_eq_false_iff_ne.2 (by omega)
  clear hk
  go_enter Try.func12, Try.ntmps12
  go_wp2_with fail
  refine HI.out.mono ?_
  rintro e w1 ⟨rfl, rfl⟩
  go_wp2_with fail
  go_ret
  exact ⟨rfl, rfl⟩
theorem pages_nil (w : World) :
    Calls Try.prog 23 #[.pointer none] w fun e w' => e = .returned (.slice none 0 0) ∧ w = w' := by
  go_enter Try.func23, Try.ntmps23
  go_wp2
  go_ret
  exact ⟨rfl, rfl⟩
end Go.Proofs.Ytmlgockejacjeaa
