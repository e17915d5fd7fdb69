/-
  Package arena: New, Limit, Left, is, Free, Alloc.
-/
import Derived.Test.YtmlgockejacjeaaArena
import Derived.Laws.OwnMore
namespace Go.Proofs.Ytmlgockejacjeaa
open Go.RowKit
set_option linter.unusedVariables false
set_option linter.unusedSimpArgs false

/-- A page's bytes; none: it is not in use. -/
def ArS.page (S : ArS) (n : Int) : Option (List UInt8) := if 1 ≤ n then (S.pages[(n - 1).toNat]?).join else none
theorem page_some {S : ArS} {n : Int} {l : List UInt8} (h : S.page n = some l) : 1 ≤ n ∧ S.pages[(n - 1).toNat]? = some (some l) := by
  unfold ArS.page at h
  split at h
  · rename_i h1
    refine ⟨h1, ?_⟩
    rcases hp : S.pages[(n - 1).toNat]? with _ | _ | x <;> rw [hp] at h <;> simp at h
    subst h; rfl
  · cases h
theorem page_none {S : ArS} {n : Int} (h : S.page n = none) (h1 : 1 ≤ n) (h2 : n ≤ S.pages.length) : S.pages[(n - 1).toNat]? = some none := by
  unfold ArS.page at h
  rw [if_pos h1] at h
  rcases hp : S.pages[(n - 1).toNat]? with _ | _ | x
  · rw [List.getElem?_eq_none_iff] at hp; omega
  · rfl
  · rw [hp] at h; simp at h

theorem row_at {w : World} {base : Nat} {e : TypeId} {v : Value} {n : Nat} {xs : List Value} (h : w.ownsRow base e 1 v n xs) {j : Nat} {x : Value} (hx : xs[j]? = some x) :
    ∃ g cap, v = .slice (some ⟨g, 0, none⟩) n cap ∧ base ≤ g ∧ w.cell? ⟨g, j, none⟩ = some x ∧ w.frozen? ⟨g, j, none⟩ = false ∧ j < n ∧ g < w.heap.size := by
  have hl : xs.length = n := by rw [h.1]; omega
  have hj : j < n := by have := (List.getElem?_eq_some_iff.1 hx).1; omega
  rcases h.2 with ⟨rfl, rfl⟩ | ⟨g, cap, cur, rfl, hb, hg, _⟩
  · omega
  · exact ⟨g, cap, rfl, hb, (h.cellAt j (by omega)).trans hx, h.frozenAt j, hj, lt_of_block hg⟩

theorem ARep.in_ {base a : Nat} {S : ArS} {pv fv : Value} {pbs : List (Option Nat)} {w : World} (R : ARep base a S pv fv pbs w) {n : Int} {l : List UInt8} (h : S.page n = some l) :
    1 ≤ n ∧ n ≤ pbs.length ∧ ∃ b g cap, pbs[(n - 1).toNat]? = some (some b) ∧ pv = .slice (some ⟨g, 0, none⟩) pbs.length cap ∧ base ≤ g ∧ w.cell? ⟨g, (n - 1).toNat, none⟩ = some (.pointer (some ⟨b, 0, none⟩)) ∧ w.frozen? ⟨g, (n - 1).toNat, none⟩ = false ∧ l.length = 1024 ∧ w.heap[b]? = some (Obj.cells (bcells l) 69) ∧ g < w.heap.size := by
  obtain ⟨h1, h2⟩ := page_some h
  have h3 := (List.getElem?_eq_some_iff.1 h2).1
  have h4 := R.len
  rcases hp : pbs[(n - 1).toNat]? with _ | _ | b
  · rw [List.getElem?_eq_none_iff] at hp; omega
  · have := R.gap _ hp; rw [h2] at this; cases this
  · obtain ⟨l', e1, e2, e3⟩ := R.at_ _ _ hp
    rw [h2] at e1
    injection e1 with e1; injection e1 with e1
    subst e1
    obtain ⟨g, cap, e4, e5, e6, e7, e8, e9⟩ := row_at R.pown (j := (n - 1).toNat) (x := .pointer (some ⟨b, 0, none⟩)) (by rw [List.getElem?_map, hp]; rfl)
    exact ⟨h1, by omega, b, g, cap, rfl, e4, e5, e6, e7, e2, e3, e9⟩
theorem ARep.out_ {base a : Nat} {S : ArS} {pv fv : Value} {pbs : List (Option Nat)} {w : World} (R : ARep base a S pv fv pbs w) {n : Int} (h : S.page n = none) (h1 : 1 ≤ n) (h2 : n ≤ pbs.length) :
    ∃ g cap, pv = .slice (some ⟨g, 0, none⟩) pbs.length cap ∧ w.cell? ⟨g, (n - 1).toNat, none⟩ = some (.pointer none) ∧ g < w.heap.size := by
  have h4 := R.len
  have h3 := page_none h h1 (by omega)
  rcases hp : pbs[(n - 1).toNat]? with _ | _ | b
  · rw [List.getElem?_eq_none_iff] at hp; omega
  · obtain ⟨g, cap, e4, e5, e6, e7, e8, e9⟩ := row_at R.pown (j := (n - 1).toNat) (x := .pointer none) (by rw [List.getElem?_map, hp]; rfl)
    exact ⟨g, cap, e4, e6, e9⟩
  · obtain ⟨l', e1, e2, e3⟩ := R.at_ _ _ hp
    rw [h3] at e1; injection e1 with e1; cases e1

theorem left_any {base a : Nat} {S : ArS} {own : Nat → Prop} {w : World} (h : AR base a S own w) (ok : S.Ok) :
    Calls Try.prog 21 #[.pointer (some ⟨a, 0, none⟩)] w fun e w' => e = .returned (.int .i64 S.left) ∧ ∃ n, w' = w.drewN n := by
  obtain ⟨pv, fv, pbs, hown, R⟩ := id h
  obtain ⟨q0, q1, q2, _, _, _, hl⟩ := three_of_block R.blk
  have hu := ok.used
  have hq := ok.quota
  go_enter Try.func21, Try.ntmps21
  go_wp2_with fail
  go_quiet ((go_at_call 20; exact Calls.quiet_of (used_any (h.drewN _) ok)))
  go_wp2_with fail
  all_goals
    go_ret
    refine ⟨?_, _, rfl⟩
    unfold ArS.left
    first
      | (rw [if_pos (by omega)]; rfl)
      | (rw [if_neg (by omega)]; rfl)
theorem left_nil (w : World) : Calls Try.prog 21 #[.pointer none] w fun e w' => e = .returned (.int .i64 0) ∧ w = w' := by
  go_enter Try.func21, Try.ntmps21
  go_wp2
  go_ret
  exact ⟨rfl, rfl⟩
theorem limit_nil (q : Int) (hq : (Lit.int .i64 q).wf = true) (w : World) : Calls Try.prog 19 #[.pointer none, .int .i64 q] w fun e w' => e = .returned (.int .i64 15) ∧ w = w' := by
  go_enter Try.func19, Try.ntmps19
  go_wp2
  go_ret
  exact ⟨rfl, rfl⟩
theorem limit_bad (q : Int) (hq : (Lit.int .i64 q).wf = true) (hbad : ¬ (0 ≤ q ∧ q ≤ 4096)) (b : Nat) (w : World) : Calls Try.prog 19 #[.pointer (some ⟨b, 0, none⟩), .int .i64 q] w fun e w' => e = .returned (.int .i64 15) ∧ w = w' := by
  go_enter Try.func19, Try.ntmps19
  go_wp2_with fail
  all_goals
    first
      | (exfalso; omega)
      | (go_ret; exact ⟨rfl, rfl⟩)
theorem limit_any {base a : Nat} {S : ArS} {own : Nat → Prop} {w : World} (h : AR base a S own w) (q : Int) (h0 : 0 ≤ q) (h1 : q ≤ 4096) :
    Calls Try.prog 19 #[.pointer (some ⟨a, 0, none⟩), .int .i64 q] w fun e w' => e = .returned (.int .i64 0) ∧ AR base a { S with quota := q } own w' ∧ Grows own own w w' := by
  obtain ⟨pv, fv, pbs, rfl, R⟩ := h
  obtain ⟨q0, q1, q2, f0, f1, f2, hl⟩ := three_of_block R.blk
  go_enter Try.func19, Try.ntmps19
  go_wp2_with fail
  go_ret
  have np := owns_ne R.pown R.blk (by decide)
  have nf := owns_ne R.fown R.blk (by decide)
  refine ⟨rfl, ⟨pv, fv, pbs, rfl, R.lo, blk_set R.blk 2 _, owns_same R.pown fun k hk => Below.heap_setCell _ _ _ _ (by rintro rfl; exact np hk.symm), owns_same R.fown fun k hk => Below.heap_setCell _ _ _ _ (by rintro rfl; exact nf hk.symm), R.len, fun i b hb => ?_, R.gap⟩, ⟨Chg.setCell (Chg.refl _ _) (.inr (.inl rfl)) _ _, fun _ h => .inl h⟩⟩
  obtain ⟨l, h1, h2, h3⟩ := R.at_ i b hb
  exact ⟨l, h1, h2, blk_set_ne h3 _ _ (by rintro rfl; rw [R.blk] at h3; injection h3 with h3; injection h3 with _ h3; exact absurd h3 (by decide))⟩
theorem is_nil (n : Int) (w : World) : Calls Try.prog 28 #[.pointer none, .int .i64 n] w fun e w' => e = .returned (.int .i64 15) ∧ w = w' := by
  go_enter Try.func28, Try.ntmps28
  go_wp2
  go_ret
  exact ⟨rfl, rfl⟩
theorem is_in {base a : Nat} {S : ArS} {own : Nat → Prop} {w : World} (h : AR base a S own w) (ok : S.Ok) (n : Int) {l : List UInt8} (hp : S.page n = some l) :
    Calls Try.prog 28 #[.pointer (some ⟨a, 0, none⟩), .int .i64 n] w fun e w' => e = .returned (.int .i64 0) ∧ w = w' := by
  obtain ⟨pv, fv, pbs, rfl, R⟩ := h
  obtain ⟨h1, h2, b, g, cap, e1, rfl, _, e2, _, _, _, e3⟩ := R.in_ hp
  obtain ⟨q0, q1, q2, _, _, _, hl⟩ := three_of_block R.blk
  have hlen : pbs.length ≤ 4096 := by rw [R.len]; exact ok.most
  have HP := Lib.hid hp; clear hp
  have HR := Lib.hid R; clear R
  have HE := Lib.hid e1; clear e1
  obtain ⟨m, rfl⟩ : ∃ m : Nat, n = (m : Int) + 1 := ⟨(n - 1).toNat, by omega⟩
  have hm : ((m : Int) + 1 - 1).toNat = m := by omega
  rw [hm] at e2
  have hm' : m < pbs.length := by omega
  go_enter Try.func28, Try.ntmps28
  go_wp2_with fail
  go_ret
  exact ⟨rfl, rfl⟩
theorem is_out {base a : Nat} {S : ArS} {own : Nat → Prop} {w : World} (h : AR base a S own w) (ok : S.Ok) (n : Int) (hn : (Lit.int .i64 n).wf = true) (hp : S.page n = none) :
    Calls Try.prog 28 #[.pointer (some ⟨a, 0, none⟩), .int .i64 n] w fun e w' => e = .returned (.int .i64 2) ∧ w = w' := by
  obtain ⟨pv, fv, pbs, rfl, R⟩ := h
  obtain ⟨A, cp, hpv⟩ := own_form R.pown
  have hlen : pbs.length ≤ 4096 := by rw [R.len]; exact ok.most
  obtain ⟨q0, q1, q2, _, _, _, hl⟩ := three_of_block R.blk
  by_cases h1 : 1 ≤ n
  · by_cases h2 : n ≤ pbs.length
    · obtain ⟨g, cap, rfl, e2, e3⟩ := R.out_ hp h1 h2
      have HP := Lib.hid hp; clear hp
      have HR := Lib.hid R; clear R
      have HV := Lib.hid hpv; clear hpv
      obtain ⟨m, rfl⟩ : ∃ m : Nat, n = (m : Int) + 1 := ⟨(n - 1).toNat, by omega⟩
      have hm : ((m : Int) + 1 - 1).toNat = m := by omega
      rw [hm] at e2
      have hm' : m < pbs.length := by omega
      go_enter Try.func28, Try.ntmps28
      go_wp2_with fail
      go_ret
      exact ⟨rfl, rfl⟩
    · subst hpv
      have HP := Lib.hid hp; clear hp
      have HR := Lib.hid R; clear R
      go_enter Try.func28, Try.ntmps28
      go_wp2_with fail
      go_ret
      exact ⟨rfl, rfl⟩
  · subst hpv
    have HP := Lib.hid hp; clear hp
    have HR := Lib.hid R; clear R
    go_enter Try.func28, Try.ntmps28
    go_wp2_with fail
    go_ret
    exact ⟨rfl, rfl⟩
end Go.Proofs.Ytmlgockejacjeaa
