/-
  The reference's Same of two rows of values that are alike.
-/
import Derived.Test.YtkanlcfinogaeaaUnRefBack
import Derived.BigQuiet
namespace Go.Proofs.Ytkanlcfinogaeaa
open Go.RowKit
set_option linter.unusedVariables false
set_option linter.unusedSimpArgs false

theorem neq_value (a b : Int) (s : ByteArray) (w : World) : (binOp .neq 42 (.agg #[.int .i64 a, .int .i64 b, .string s]) (.agg #[.int .i64 a, .int .i64 b, .string s])).run Try.prog w = .ok (.bool false) w := by
  have h : (Op.equalIn (9998 + 2) 42 (.agg #[.int .i64 a, .int .i64 b, .string s]) (.agg #[.int .i64 a, .int .i64 b, .string s])).run Try.prog w = .ok true w := by
    rw [run_equalIn_struct w (9998 + 1) 42 _ _ (by kernel_rfl) (by kernel_rfl)]
    simp only [Program.fieldsOf, Try.underlying42, Op.eqFields]
    simp [go_sem]
  simp only [binOp]
  simp [Op.equal, Op.maxDepth, h]

theorem Src.vals {w : World} {A : Option Addr} {c : Nat} {vs : List Val} (h : Src w A vs.length c (vcells vs)) {j : Nat} {p : Val} (hp : vs[j]? = some p) : ∃ (ad : Addr) (b f : Nat) (t : _), A = some ad ∧ ad.add (j * 3) = ⟨b, f, t⟩ ∧ b < w.heap.size ∧ w.cell? ⟨b, f, t⟩ = some (.int .i64 p.kind) ∧ w.cell? ⟨b, f + 1, none⟩ = some (.int .i64 p.n) ∧ w.cell? ⟨b, f + 2, none⟩ = some (.string p.s) := by
  have hj := (List.getElem?_eq_some_iff.1 hp).1
  rcases h with ⟨_, h1, _⟩ | ⟨ad, rfl, h⟩
  · omega
  · obtain ⟨c0, c1, c2⟩ := vcells_at vs j p hp
    have h0 := h _ _ c0
    have hl := World.block_lt_of_cell? w _ h0
    rw [add_block] at hl
    have ha : ∀ k, (ad.add (j * 3)).add k = ad.add (j * 3 + k) := fun k => by
      unfold Addr.add
      by_cases h1 : j * 3 = 0
      · simp [h1]
      · by_cases h2 : k = 0
        · subst h2; simp
        · simp [h1, h2, Nat.add_assoc]
    have h1 := h _ _ c1
    have h2 := h _ _ c2
    rw [← ha] at h1 h2
    have hb := add_block ad (j * 3)
    generalize hq : ad.add (j * 3) = q at h0 h1 h2 hb
    obtain ⟨b, f, t⟩ := q
    exact ⟨ad, b, f, t, rfl, hq, by have hb' : b = ad.block := hb; omega, h0, h1, h2⟩

theorem same02_any {w : World} (A B : Option Addr) (vs : List Val) (c d : Nat) (ha : Src w A vs.length c (vcells vs)) (hb : Src w B vs.length d (vcells vs)) (hl : vs.length ≤ 1000000) :
    Calls Try.prog 26 #[.slice A vs.length c, .slice B vs.length d] w fun e w' => e = .returned (.bool true) ∧ ∃ n, w' = w.drewN n := by
  have HA := Lib.hid ha
  have HB := Lib.hid hb
  have hneq := neq_value
  clear ha hb
  go_enter Try.func26, Try.ntmps26
  go_wp2_with fail
  go_loopw [5] (fun i wr => ∃ j n : Nat, j ≤ vs.length ∧ i = .int .i64 j ∧ wr = w.drewN n) (fun i _ => vs.length - (intOf i).toNat)
  case atStart => exact ⟨0, 0, Nat.zero_le _, rfl, rfl⟩
  case round =>
    obtain ⟨j, n, hj, rfl, rfl⟩ := hrel
    by_cases hlt : j < vs.length
    · obtain ⟨p, hp⟩ : ∃ p, vs[j]? = some p := ⟨_, List.getElem?_eq_getElem hlt⟩
      obtain ⟨a1, x1, y1, z1, rfl, e1, hl1, a0, a2, a3⟩ := HA.out.vals hp
      obtain ⟨b1, x2, y2, z2, rfl, e2, hl2, b0, b2, b3⟩ := HB.out.vals hp
      clear hp
      go_wp2_with fail
      go_quiet (fail)
      go_wp2_with fail
      exact ⟨⟨j + 1, n + nq, by omega, by go_num, rfl⟩, by simp [intOf]; omega⟩
    · go_wp2_with fail
      go_ret
      exact ⟨rfl, _, rfl⟩
end Go.Proofs.Ytkanlcfinogaeaa
