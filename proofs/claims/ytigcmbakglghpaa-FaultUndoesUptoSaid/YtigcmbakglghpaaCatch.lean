/-
  The walks of package fault's Stop, Check and Catch: Stop gives up with a fault just if its code isn't 0; Catch tells with which fault a function gave up, or none, and leaves all else as that function left it (but for a block of its own).
-/
import Derived.Test.YtigcmbakglghpaaProg
import Derived.Test.YtigcmbakglghpaaCommon
namespace Go.Proofs.Ytigcmbakglghpaa
open Go.RowKit
set_option linter.unusedVariables false
set_option linter.unusedSimpArgs false

/-- The fault c at a place, as it is thrown. -/
abbrev thrown (c at_ : Int) : List PanicEntry := [{ v := .iface 25 (.agg #[.int .i64 c, .int .i64 at_]), recovered := false }]

/-- Stop with the code 0 returns. -/
theorem stop_ok (at_ : Int) (w : World) :
    Calls Try.prog 12 #[.int .i64 0, .int .i64 at_] w fun e w' => e = .returned (.tuple #[]) ∧ w = w' := by
  go_enter Try.func12, Try.ntmps12
  go_wp2
  go_end0
  exact ⟨rfl, rfl⟩

/-- Stop with another code gives up. -/
theorem stop_no (c at_ : Int) (hc : (c == 0) = false) (w : World) :
    Calls Try.prog 12 #[.int .i64 c, .int .i64 at_] w fun e w' => e = .panicked (thrown c at_) ∧ w = w' := by
  go_enter Try.func12, Try.ntmps12
  go_wp2
  exact ⟨rfl, rfl, rfl⟩

theorem check_ok (w : World) : Calls Try.prog 10 #[.int .i64 0] w fun e w' => e = .returned (.tuple #[]) ∧ w = w' := by
  go_enter Try.func10, Try.ntmps10
  go_wp2_with (go_at_call 12; refine (stop_ok 0 _).mono ?_; rintro e w' ⟨rfl, rfl⟩)
  go_end0
  exact ⟨rfl, rfl⟩

theorem check_no (c : Int) (hc : (c == 0) = false) (w : World) : Calls Try.prog 10 #[.int .i64 c] w fun e w' => e = .panicked (thrown c 0) ∧ w = w' := by
  go_enter Try.func10, Try.ntmps10
  go_wp2_with (go_at_call 12; refine (stop_no c 0 hc _).mono ?_; rintro e w' ⟨rfl, rfl⟩)
  exact ⟨rfl, rfl, rfl⟩

theorem ta_fault (v : Value) (w : World) : (Instr.typeAssert (.iface 25 v) 20 25 true).run Try.prog w = .ok (.tuple #[v, .bool true]) w := by kernel_rfl

/-- The deferred closure of Catch, where f gave up with a fault. -/
theorem catch1_panicking (B : Nat) (x0 x1 : Value) (c at_ : Int) (older : List PanicEntry) (w : World) (hB : B < w.heap.size) (h0 : w.cell? ⟨B, 0, none⟩ = some x0) (h1 : w.cell? ⟨B, 1, none⟩ = some x1) (hz0 : w.frozen? ⟨B, 0, none⟩ = false) (hz1 : w.frozen? ⟨B, 1, none⟩ = false) :
    CallsD Try.prog 24 #[.pointer (some ⟨B, 0, none⟩)] (.panicking ({ v := .iface 25 (.agg #[.int .i64 c, .int .i64 at_]), recovered := false } :: older)) w fun e u' w' =>
      e = .returned (.tuple #[]) ∧ u' = .panicking ({ v := .iface 25 (.agg #[.int .i64 c, .int .i64 at_]), recovered := true } :: older) ∧
        w' = ((w.setCell ⟨B, 0, none⟩ (.int .i64 c)).setCell ⟨B, 1, none⟩ (.int .i64 at_)).alloc (.cells #[.int .i64 c, .int .i64 at_] 25) := by
  have hta := ta_fault
  have hnot := @unary_not Try.prog
  refine callsD_of_wpS Try.func24 rfl fun c₀ cs hu => ?_
  simp only [Try.ntmps24, List.size_toArray, List.length_cons, List.length_nil, Nat.reduceAdd, Nat.reduceSub, Array.replicate_succ, Array.replicate_zero, List.push_toArray, List.append_toArray, List.nil_append, List.cons_append]
  apply wpS_seq
  apply wpS_region
  simp [wpOpsS, go_sem, recoverD, hu, Exit.thenS]
  refine wpS_of_wp ?_
  go_wp2
  exact ⟨rfl, _, rfl, _, results_none rfl _ _ _, rfl, rfl, rfl⟩

/-- The deferred closure of Catch, where f returned. -/
theorem catch1_idle (B : Nat) (w : World) :
    CallsD Try.prog 24 #[.pointer (some ⟨B, 0, none⟩)] .returning w fun e u' w' =>
      e = .returned (.tuple #[]) ∧ u' = .returning ∧ w = w' := by
  refine callsD_of_wpS Try.func24 rfl fun c₀ cs hu => ?_
  simp only [Try.ntmps24, List.size_toArray, List.length_cons, List.length_nil, Nat.reduceAdd, Nat.reduceSub, Array.replicate_succ, Array.replicate_zero, List.push_toArray, List.append_toArray, List.nil_append, List.cons_append]
  apply wpS_seq
  apply wpS_region
  simp [wpOpsS, go_sem, recoverD, hu, Exit.thenS]
  refine wpS_of_wp ?_
  go_wp2
  refine ⟨rfl, .returning, ?_, _, results_none rfl _ _ _, rfl, rfl, rfl⟩
  cases c₀; simp_all

/-- Catch of a function that returns, or gives up with a fault, and leaves Catch's own block as it is. -/
theorem catch_any (g : FuncId) (lb : Array Value) (w : World) (R : Ending → World → Prop)
    (hg : ∀ args w, (callFunc g args).run Try.prog w = .ok (.enter g args) w)
    (hR : ∀ e w1, R e w1 → w1.heap[w.heap.size]? = some (.cells #[.int .i64 0, .int .i64 0] 25) ∧ (e = .returned (.tuple #[]) ∨ ∃ c a, e = .panicked (thrown c a)))
    (hf : Calls Try.prog g lb (w.alloc (.cells #[.int .i64 0, .int .i64 0] 25)) R) :
    Calls Try.prog 8 #[.func (.func g) #[] lb] w fun e w' => ∃ e1 w1, R e1 w1 ∧ But w.heap.size w1 w' ∧
      ((e1 = .returned (.tuple #[]) ∧ e = .returned (.agg #[.int .i64 0, .int .i64 0])) ∨ ∃ c a, e1 = .panicked (thrown c a) ∧ e = .returned (.agg #[.int .i64 c, .int .i64 a])) := by
  have hmf := @make_func Try.prog
  go_enter_defers Try.func8, Try.ntmps8
  go_wp2
  refine hf.mono ?_
  intro e w1 hr
  obtain ⟨hb, h⟩ := hR e w1 hr
  have hlt := lt_of_block hb
  have h0 := cell_of_block hb 0
  have h1 := cell_of_block hb 1
  have z0 := free_of_block hb 0
  have z1 := free_of_block hb 1
  simp only [List.getElem?_toArray, List.getElem?_cons_zero, List.getElem?_cons_succ] at h0 h1
  have HR := Lib.hid hR; clear hR
  have Hb := Lib.hid hb; clear hb
  have Hr := Lib.hid hr; clear hr
  rcases h with rfl | ⟨c, a, rfl⟩
  · go_wp2
    refine leaves_cons (f := 24) (args := #[.pointer (some ⟨w.heap.size, 0, none⟩)]) (by simp) (by simp [go_sem]) ?_
    refine (catch1_idle w.heap.size _).mono ?_
    rintro e u' w'' ⟨rfl, rfl, rfl⟩
    simp only [Leaves, settle]
    refine ⟨.agg #[.int .i64 0, .int .i64 0], by simp [results, Try.results8, go_sem, h0, h1], _, w1, Hr.out, ?_, .inl ⟨rfl, rfl⟩⟩
    exact ((But.refl _ _).setCell 0 _).setCell 1 _
  · go_wp2
    refine leaves_cons (f := 24) (args := #[.pointer (some ⟨w.heap.size, 0, none⟩)]) (by simp) (by simp [go_sem]) ?_
    refine (catch1_panicking w.heap.size _ _ c a [] w1 hlt h0 h1 z0 z1).mono ?_
    rintro e u' w'' ⟨rfl, rfl, rfl⟩
    simp only [Leaves, settle, List.dropWhile]
    refine ⟨.agg #[.int .i64 c, .int .i64 a], by simp [results, Try.results8, go_sem, h0, h1, hlt], _, w1, Hr.out, ?_, .inr ⟨c, a, rfl, rfl⟩⟩
    exact Chg.alloc (((But.refl _ _).setCell 0 _).setCell 1 _) _

/-- Catch of a function that gives up. -/
theorem catch_stop (g : FuncId) (lb : Array Value) (w : World) (c a : Int) (Q : World → Prop)
    (hg : ∀ args w, (callFunc g args).run Try.prog w = .ok (.enter g args) w)
    (hf : Calls Try.prog g lb (w.alloc (.cells #[.int .i64 0, .int .i64 0] 25)) fun e w1 => e = .panicked (thrown c a) ∧ Q w1)
    (hQ : ∀ w1, Q w1 → w1.heap[w.heap.size]? = some (.cells #[.int .i64 0, .int .i64 0] 25)) :
    Calls Try.prog 8 #[.func (.func g) #[] lb] w fun e w' => e = .returned (.agg #[.int .i64 c, .int .i64 a]) ∧ ∃ w1, Q w1 ∧ But w.heap.size w1 w' := by
  refine (catch_any g lb w _ hg ?_ hf).mono ?_
  · rintro e w1 ⟨rfl, h⟩
    exact ⟨hQ w1 h, .inr ⟨c, a, rfl⟩⟩
  · rintro e w' ⟨e1, w1, ⟨rfl, h⟩, hb, ⟨h1, _⟩ | ⟨c', a', h1, rfl⟩⟩
    · cases h1
    · injection h1 with h1
      injection h1 with h1 _
      injection h1 with h1 _
      injection h1 with _ h1
      injection h1 with h1
      simp only [Array.mk.injEq, List.cons.injEq, Value.int.injEq, true_and, and_true] at h1
      obtain ⟨rfl, rfl⟩ := h1
      exact ⟨rfl, w1, h, hb⟩

/-- Catch of a function that returns. -/
theorem catch_back (g : FuncId) (lb : Array Value) (w : World) (Q : World → Prop)
    (hg : ∀ args w, (callFunc g args).run Try.prog w = .ok (.enter g args) w)
    (hf : Calls Try.prog g lb (w.alloc (.cells #[.int .i64 0, .int .i64 0] 25)) fun e w1 => e = .returned (.tuple #[]) ∧ Q w1)
    (hQ : ∀ w1, Q w1 → w1.heap[w.heap.size]? = some (.cells #[.int .i64 0, .int .i64 0] 25)) :
    Calls Try.prog 8 #[.func (.func g) #[] lb] w fun e w' => e = .returned (.agg #[.int .i64 0, .int .i64 0]) ∧ ∃ w1, Q w1 ∧ But w.heap.size w1 w' := by
  refine (catch_any g lb w _ hg ?_ hf).mono ?_
  · rintro e w1 ⟨rfl, h⟩
    exact ⟨hQ w1 h, .inl rfl⟩
  · rintro e w' ⟨e1, w1, ⟨rfl, h⟩, hb, ⟨_, rfl⟩ | ⟨c', a', h1, _⟩⟩
    · exact ⟨rfl, w1, h, hb⟩
    · cases h1
end Go.Proofs.Ytigcmbakglghpaa
