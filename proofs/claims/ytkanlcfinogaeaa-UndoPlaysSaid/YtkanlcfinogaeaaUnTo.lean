/-
  Package undo: To.
-/
import Derived.Test.YtkanlcfinogaeaaUnRev
namespace Go.Proofs.Ytkanlcfinogaeaa
open Go.RowKit
set_option linter.unusedVariables false
set_option linter.unusedSimpArgs false

theorem Frm.ofChg {T : TypeId → Prop} {base : Nat} {w w' : World} {e : TypeId} {size n : Nat} {v : Value} {xs : List Value} (ho : w.ownsRow base e size v n xs) (h : Chg (fun b => v.ownBlock = some b) w w') (hT : T e) (hb : base ≤ w.heap.size) : Frm T base w w' := by
  refine ⟨h.below (fun i hi hv => by have := (own_at ho hv).1; omega) hb, fun k cs t fr hk ht => (h.block k (lt_of_block hk) (fun hv => ?_)).trans hk⟩
  obtain ⟨_, cs', h1⟩ := own_at ho hv
  rw [hk] at h1
  injection h1 with h1
  injection h1 with _ h1
  exact ht (h1 ▸ hT)
theorem UR.drewN {base l : Nat} {S : ULS} {w : World} (h : UR base l S w) (n : Nat) : UR base l S (w.drewN n) := h.below (below_drewN (Below.refl _ _) n) h.le
theorem max0 (n : Int) (m : Nat) (hm : (m : Int) = if 0 > n then 0 else n) (ats : Array TypeId) (t : TypeId) (w : World) : (Builtin.max_ ats t #[.int .i64 n, .int .i64 0]).run Try.prog w = .ok (.int .i64 (m : Int)) w := by
  rw [hm]
  rfl
theorem to_nil (n : Int) (w : World) : Calls Try.prog 17 #[.pointer none, .int .i64 n] w fun e w' => e = .returned (.slice none 0 0) ∧ Below w.heap.size w w' := by
  obtain ⟨m, hm⟩ : ∃ m : Nat, (m : Int) = if 0 > n then 0 else n := ⟨n.toNat, by split <;> omega⟩
  have hmax := fun ats t w => max0 n m hm ats t w
  clear hm
  by_cases h0 : m = 0
  all_goals
    go_enter Try.func17, Try.ntmps17
    go_wp2_with fail
    go_quiet ((go_at_call 19; exact Calls.quiet_of ((len_nil _).mono fun e w' h => ⟨h.1, 0, h.2.symm⟩)))
    go_wp2_with fail
    go_ret
    exact ⟨rfl, below_drewN ((Below.refl _ _).alloc (Nat.le_refl _) _) _⟩
theorem to_more {base l : Nat} {S : ULS} {w : World} (h : UR base l S w) (hl : S.entries.length ≤ 200000) (n : Int) (hn : (S.entries.length : Int) < n) :
    Calls Try.prog 17 #[.pointer (some ⟨l, 0, none⟩), .int .i64 n] w fun e w' => e = .returned (.slice none 0 0) ∧ Below w.heap.size w w' := by
  obtain ⟨m, rfl⟩ : ∃ m : Nat, n = (m : Int) := ⟨n.toNat, by omega⟩
  have hmax := fun ats t w => max0 (m : Int) m (by split <;> omega) ats t w
  have HU := Lib.hid (h.below ((Below.refl _ _).alloc (Nat.le_refl _) (.cells #[.int .i64 (m : Int)] 3)) h.le)
  have hd : decide ((S.entries.length : Int) < (m : Int)) = true := decide_eq_true hn
  have hd2 : decide (S.entries.length < m) = true := decide_eq_true (by omega)
  clear h
  go_enter Try.func17, Try.ntmps17
  go_wp2_with fail
  go_quiet ((go_at_call 19; exact Calls.quiet_of ((len_any (HU.out.drewN _)).mono fun e w' h => ⟨h.1, 0, h.2.symm⟩)))
  go_wp2_with fail
  go_ret
  exact ⟨rfl, below_drewN ((Below.refl _ _).alloc (Nat.le_refl _) _) _⟩
end Go.Proofs.Ytkanlcfinogaeaa
