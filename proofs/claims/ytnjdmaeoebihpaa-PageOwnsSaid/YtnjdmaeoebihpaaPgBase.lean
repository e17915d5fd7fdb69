/-
  The page's nodes: what 'right but for its size' says; shaped.
-/
import Derived.Test.YtnjdmaeoebihpaaPPageHalvesx
import Derived.Test.YtnjdmaeoebihpaaCommon
namespace Go.Proofs.Ytnjdmaeoebihpaa
open Go.RowKit Go.Proofs.YtnjdmaeoebihpaaW.PrintWords Go.Proofs.YtnjdmaeoebihpaaW.PrintLast Go.Proofs.YtnjdmaeoebihpaaW.PrintMore
set_option linter.unusedVariables false
set_option linter.unusedSimpArgs false

def rec (l : List ByteArray) (j : Nat) : ByteArray := l.getD j ByteArray.empty
def lt (a b : ByteArray) : Bool := Op.bytesLess a.toList b.toList
theorem rdOf_rec (l : List ByteArray) (j : Nat) : rdOf ByteArray.empty l (j : Int) = rec l j := by simp [rdOf, rec]
/-- Entry j is right. -/
structure RecOk (l : List ByteArray) (j : Nat) : Prop where
  lo : 1 ≤ (rec l j).size
  hi : (rec l j).size ≤ 400
  up : 0 < j → lt (rec l (j - 1)) (rec l j) = true
structure Shp (leaf : Bool) (l : List ByteArray) (ks : List Int) : Prop where
  len : if leaf = true then ks.length = 0 else ks.length = l.length + 1
  recs : ∀ j, j < l.length → RecOk l j
  kids : ∀ k ∈ ks, 1 ≤ k ∧ k ≤ 4096
/-- A node as it is handed on. -/
structure RdN (w : World) (A : Option Addr) (c : Nat) (l : List ByteArray) (B : Option Addr) (d : Nat) (ks : List Int) : Prop where
  recs : Kd.C Kd.string w A l.length l
  kids : Kd.C (Kd.int .i64) w B ks.length ks
  rc : l.length ≤ c
  kc : ks.length ≤ d
theorem RdN.below {w w' : World} {A : Option Addr} {c : Nat} {l : List ByteArray} {B : Option Addr} {d : Nat} {ks : List Int} (h : RdN w A c l B d ks) (hb : Below w.heap.size w w') : RdN w' A c l B d ks :=
  ⟨Kd.C_below h.recs hb, Kd.C_below h.kids hb, h.rc, h.kc⟩

def kidBad (k : Int) : Bool := decide (k < 1) || decide (k > 4096)
theorem kidBad_false (k : Int) : kidBad k = false ↔ 1 ≤ k ∧ k ≤ 4096 := by
  simp [kidBad]
theorem kidBad_any (k : Int) (w : World) : Calls Try.prog 44 #[.int .i64 k] w fun e w' => e = .returned (.bool (kidBad k)) ∧ w = w' := by
  by_cases h1 : k < 1
  · have h1b : decide (k < 1) = true := decide_eq_true h1
    go_enter Try.func44, Try.ntmps44
    go_wp2_with fail
    go_ret
    exact ⟨by rw [kidBad, h1b]; rfl, rfl⟩
  · have h1b : decide (k < 1) = false := decide_eq_false h1
    go_enter Try.func44, Try.ntmps44
    go_wp2_with fail
    go_ret
    exact ⟨by rw [kidBad, h1b]; simp, rfl⟩

def IdxIs (ks : List Int) (w : World) (e : Ending) (w' : World) : Prop := ∃ z : Int, e = .returned (.int .i64 z) ∧ (0 ≤ z ↔ ∃ j, j < ks.length ∧ kidBad (rd ks (j : Int)) = true) ∧ w = w'
set_option maxHeartbeats 1000000 in
theorem index_any (A : Option Addr) (ks : List Int) (c : Nat) (w : World) (hr : Kd.C (Kd.int .i64) w A ks.length ks) (hc : ks.length ≤ c) (hl : ks.length ≤ 1000000) :
    Calls Try.prog 52 #[.slice A ks.length c, .func (.func 44) #[] #[]] w (IdxIs ks w) := by
  have HR := Lib.hid hr
  clear hr
  go_enter Try.func52, Try.ntmps52
  go_wp2_with fail
  go_loopg [8] ks.length (fun g i w' => ∃ j : Nat, j ≤ ks.length ∧ g = ks.length - j ∧ i = .int .i64 j ∧ Hid (∀ m, m < j → kidBad (rd ks (m : Int)) = false) ∧ w' = w)
  case atStart => exact ⟨0, by omega, by omega, rfl, Lib.hid (fun m hm => absurd hm (Nat.not_lt_zero _)), rfl⟩
  case round =>
    obtain ⟨j, hj, hg, rfl, HM, rfl⟩ := hrel
    by_cases hlt : j < ks.length
    · obtain ⟨ad, rfl, hcell⟩ := Kd.at_int HR.out (j : Int) (by omega) (by omega)
      simp only [Int.toNat_natCast] at hcell
      have hlt2 : (j : Int) < (ks.length : Int) := by omega
      obtain ⟨x, hx⟩ : ∃ x, x = rd ks (j : Int) := ⟨_, rfl⟩
      rw [← hx] at hcell
      have HX := Lib.hid hx
      clear hx
      obtain ⟨b, hb⟩ : ∃ b, b = kidBad x := ⟨_, rfl⟩
      have HB := Lib.hid hb
      clear hb
      go_wp2_with fail
      refine (kidBad_any x _).mono ?_
      rintro e w' ⟨rfl, rfl⟩
      rw [← HB.out]
      cases b with
      | true =>
        go_wp2_with fail
        go_ret
        exact ⟨_, rfl, ⟨fun _ => ⟨j, hlt, by rw [← HX.out, ← HB.out]⟩, fun _ => by omega⟩, rfl⟩
      | false =>
        go_wp2_with fail
        go_roundg (ks.length - (j + 1))
        case measure => omega
        case rel =>
          refine ⟨j + 1, by omega, rfl, by go_num, Lib.hid (fun m hm => ?_), rfl⟩
          rcases Nat.lt_succ_iff_lt_or_eq.1 hm with h | rfl
          · exact HM.out m h
          · rw [← HX.out, ← HB.out]
    · go_wp2_with fail
      go_ret
      exact ⟨_, rfl, ⟨fun h => absurd h (by decide), fun ⟨m, hm, h⟩ => by rw [HM.out m (by omega)] at h; cases h⟩, rfl⟩
def KidsIs (ks : List Int) (w : World) (e : Ending) (w' : World) : Prop := ∃ b : Bool, e = .returned (.bool b) ∧ (b = false ↔ ∀ k ∈ ks, 1 ≤ k ∧ k ≤ 4096) ∧ w = w'
theorem contains_any (A : Option Addr) (ks : List Int) (c : Nat) (w : World) (hr : Kd.C (Kd.int .i64) w A ks.length ks) (hc : ks.length ≤ c) (hl : ks.length ≤ 1000000) :
    Calls Try.prog 43 #[.slice A ks.length c, .func (.func 44) #[] #[]] w (KidsIs ks w) := by
  have HR := Lib.hid hr
  clear hr
  go_enter Try.func43, Try.ntmps43
  go_wp2_with fail
  refine (index_any A ks c w HR.out hc hl).mono ?_
  rintro e w' ⟨z, rfl, hz, rfl⟩
  have HZ : Hid (0 ≤ z ↔ ¬ ∀ k ∈ ks, 1 ≤ k ∧ k ≤ 4096) := (by
    rw [hz]
    constructor
    · rintro ⟨j, hj, hb⟩ h
      have hm : rd ks (j : Int) ∈ ks := by
        have : rd ks (j : Int) = ks[j] := by simp [rd, hj]
        rw [this]
        exact List.getElem_mem hj
      rw [(kidBad_false _).2 (h _ hm)] at hb
      cases hb
    · intro h
      refine Classical.byContradiction fun hn => h fun k hk => ?_
      obtain ⟨j, hj, rfl⟩ := List.getElem_of_mem hk
      refine (kidBad_false _).1 ?_
      cases hb : kidBad ks[j] with
      | false => rfl
      | true => exact absurd ⟨j, hj, by rw [show rd ks (j : Int) = ks[j] by simp [rd, hj]]; exact hb⟩ hn
    : 0 ≤ z ↔ ¬ ∀ k ∈ ks, 1 ≤ k ∧ k ≤ 4096)
  clear hz
  by_cases h0 : 0 ≤ z
  · have hn := HZ.out.1 h0
    have HN := Lib.hid hn
    clear hn
    go_wp2_with fail
    go_ret
    exact ⟨_, rfl, ⟨fun h => by first | (simp [h0] at h; done) | (simp at h; omega), fun h => absurd h HN.out⟩, rfl⟩
  · have HN : Hid (∀ k ∈ ks, 1 ≤ k ∧ k ≤ 4096) := Classical.byContradiction fun h => h0 (HZ.out.2 h)
    go_wp2_with fail
    go_ret
    exact ⟨_, rfl, ⟨fun _ => HN.out, fun _ => by simp; omega⟩, rfl⟩
end Go.Proofs.Ytnjdmaeoebihpaa
