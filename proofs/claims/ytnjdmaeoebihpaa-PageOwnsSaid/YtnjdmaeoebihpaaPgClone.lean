/-
  Rows of texts and of numbers: owned, read, cloned.
-/
import Derived.Test.YtnjdmaeoebihpaaPgRow
import Derived.Lib.LazyBuf
namespace Go.Proofs.Ytnjdmaeoebihpaa
open Go.RowKit Go.Proofs.YtnjdmaeoebihpaaW.PrintWords Go.Proofs.YtnjdmaeoebihpaaW.PrintLast Go.Proofs.YtnjdmaeoebihpaaW.PrintMore
set_option linter.unusedVariables false
set_option linter.unusedSimpArgs false

theorem info_N : (Try.prog.info? 9).map (fun i => (i.zero, i.size, i.bytes)) = some (some (.string ⟨#[]⟩), 1, 16) := by kernel_rfl
theorem elt_N : ∃ i0, Elt 22 9 (.string ⟨#[]⟩) 1 16 i0 := by
  obtain ⟨i0, hi, hz0, hz1, hz2⟩ := info_parts info_N
  exact ⟨i0, Try.underlying22, hi, hz0, hz1, hz2, rfl, by omega, by omega⟩
theorem info_I : (Try.prog.info? 3).map (fun i => (i.zero, i.size, i.bytes)) = some (some (.int .i64 0), 1, 8) := by kernel_rfl
theorem elt_I : ∃ i0, Elt 23 3 (.int .i64 0) 1 8 i0 := by
  obtain ⟨i0, hi, hz0, hz1, hz2⟩ := info_parts info_I
  exact ⟨i0, Try.underlying23, hi, hz0, hz1, hz2, rfl, by omega, by omega⟩
def scl (l : List ByteArray) : List Value := l.map Value.string
def icl (l : List Int) : List Value := l.map (Value.int .i64)
theorem scl_len (l : List ByteArray) : (scl l).length = l.length * 1 := by simp [scl]
theorem icl_len (l : List Int) : (icl l).length = l.length * 1 := by simp [icl]
theorem scl_one (l : List ByteArray) : ∀ u ∈ scl l, u.oneCell' = true := by
  intro u hu
  obtain ⟨s, _, rfl⟩ := List.mem_map.1 hu
  rfl
theorem icl_one (l : List Int) : ∀ u ∈ icl l, u.oneCell' = true := by
  intro u hu
  obtain ⟨s, _, rfl⟩ := List.mem_map.1 hu
  rfl
/-- A row of texts of one's own. -/
def OwnS (w : World) (base : Nat) (A : Option Addr) (c : Nat) (l : List ByteArray) : Prop := w.ownsRow base 9 1 (.slice A l.length c) l.length (scl l)
def OwnI (w : World) (base : Nat) (A : Option Addr) (c : Nat) (l : List Int) : Prop := w.ownsRow base 3 1 (.slice A l.length c) l.length (icl l)
theorem src_S {w : World} {A : Option Addr} {l : List ByteArray} (h : Kd.C Kd.string w A l.length l) : (∃ ad, A = some ad) ∧ (∀ ad, A = some ad → ∀ j u, (scl l)[j]? = some u → w.cell? (ad.add j) = some u) ∨ l = [] := by
  rcases Nat.eq_zero_or_pos l.length with h0 | h0
  · exact .inr (List.eq_nil_of_length_eq_zero h0)
  · obtain ⟨ad, rfl, _⟩ := Kd.at_string h 0 (by omega) (by omega)
    refine .inl ⟨⟨ad, rfl⟩, fun ad' e j u hj => ?_⟩
    injection e with e
    subst e
    have hlt : j < l.length := by have := (List.getElem?_eq_some_iff.1 hj).1; simpa [scl] using this
    obtain ⟨ad2, e2, hc⟩ := Kd.at_string h (j : Int) (by omega) (by omega)
    injection e2 with e2
    subst e2
    rw [Int.toNat_natCast] at hc
    rw [hc, ← hj]
    simp [scl, rdOf, hlt]
theorem src_I {w : World} {A : Option Addr} {l : List Int} (h : Kd.C (Kd.int .i64) w A l.length l) : (∃ ad, A = some ad) ∧ (∀ ad, A = some ad → ∀ j u, (icl l)[j]? = some u → w.cell? (ad.add j) = some u) ∨ l = [] := by
  rcases Nat.eq_zero_or_pos l.length with h0 | h0
  · exact .inr (List.eq_nil_of_length_eq_zero h0)
  · obtain ⟨ad, rfl, _⟩ := Kd.at_int h 0 (by omega) (by omega)
    refine .inl ⟨⟨ad, rfl⟩, fun ad' e j u hj => ?_⟩
    injection e with e
    subst e
    have hlt : j < l.length := by have := (List.getElem?_eq_some_iff.1 hj).1; simpa [icl] using this
    obtain ⟨ad2, e2, hc⟩ := Kd.at_int h (j : Int) (by omega) (by omega)
    injection e2 with e2
    subst e2
    rw [Int.toNat_natCast] at hc
    rw [hc, ← hj]
    simp [icl, rd, hlt]
theorem OwnS.reads {w : World} {base : Nat} {A : Option Addr} {c : Nat} {l : List ByteArray} (h : OwnS w base A c l) : Kd.C Kd.string w A l.length l ∧ l.length ≤ c := by
  obtain ⟨A', c', e, hle, hr⟩ := own_reads_of_le (enc := Value.string) (d := ByteArray.empty) (show w.ownsRow base 9 1 (.slice A l.length c) l.length (encs Value.string l) from h)
  injection e with e1 e2 e3
  subst e1 e3
  exact ⟨Kd.C_of_reads hr, hle⟩
theorem OwnI.reads {w : World} {base : Nat} {A : Option Addr} {c : Nat} {l : List Int} (h : OwnI w base A c l) : Kd.C (Kd.int .i64) w A l.length l ∧ l.length ≤ c := by
  obtain ⟨A', c', e, hle, hr⟩ := own_reads_of_le (enc := Value.int .i64) (d := 0) (show w.ownsRow base 3 1 (.slice A l.length c) l.length (encs (Value.int .i64) l) from h)
  injection e with e1 e2 e3
  subst e1 e3
  exact ⟨Kd.C_of_reads hr, hle⟩
/-- What a clone is made of: nil, or cells. -/
def CloneIs (t : TypeId) (n : Nat) (xs : List Value) (w : World) (e : Ending) (w' : World) : Prop := ∃ A' c', e = .returned (.slice A' n c') ∧ w'.ownsRow w.heap.size t 1 (.slice A' n c') n xs ∧ Below w.heap.size w w'
theorem cloneS_any {w : World} {A : Option Addr} {n c : Nat} {xs : List Value} (hs : A = none ∧ n = 0 ∧ c = 0 ∨ ∃ ad : Addr, A = some ad ∧ ∀ j u, xs[j]? = some u → w.cell? (ad.add j) = some u) (hx : xs.length = n * 1) (h1 : ∀ u ∈ xs, u.oneCell' = true) (hn : n ≤ 1000000) :
    Calls Try.prog 39 #[.slice A n c] w (CloneIs 9 n xs w) := by
  obtain ⟨i0, EV⟩ := elt_N
  have heq := fun (a : Option Addr) (n c : Nat) (w : World) => Lib.run_eql_slice_nil (P := Try.prog) w 22 9 a n c 0 0 Try.underlying22
  have HX := Lib.hid hx; clear hx
  have H1 := Lib.hid h1; clear h1
  rcases hs with ⟨rfl, rfl, rfl⟩ | ⟨ad, rfl, hs⟩
  · have hx0 : xs = [] := List.eq_nil_of_length_eq_zero (by simpa using HX.out)
    subst hx0
    go_enter Try.func39, Try.ntmps39
    go_wp2_with fail
    go_ret
    exact ⟨_, _, rfl, World.ownsRow_nil _ _ _ _, Below.refl _ _⟩
  · have HS : Hid (Src w (some ad) n c xs) := .inr ⟨ad, rfl, hs⟩
    clear hs
    go_enter Try.func39, Try.ntmps39
    go_wp2_with (at_builtin; refine step_copy EV rfl _ _ rfl rfl (by simp) rfl HX.out HS.out H1.out hn ?_; intro A3 c3 w3 ho hb _; have HO3 := Lib.hid ho; have HB3 := Lib.hid hb; clear ho hb)
    go_ret
    exact ⟨_, _, rfl, HO3.out, HB3.out⟩
theorem cloneI_any {w : World} {A : Option Addr} {n c : Nat} {xs : List Value} (hs : A = none ∧ n = 0 ∧ c = 0 ∨ ∃ ad : Addr, A = some ad ∧ ∀ j u, xs[j]? = some u → w.cell? (ad.add j) = some u) (hx : xs.length = n * 1) (h1 : ∀ u ∈ xs, u.oneCell' = true) (hn : n ≤ 1000000) :
    Calls Try.prog 45 #[.slice A n c] w (CloneIs 3 n xs w) := by
  obtain ⟨i0, EV⟩ := elt_I
  have heq := fun (a : Option Addr) (n c : Nat) (w : World) => Lib.run_eql_slice_nil (P := Try.prog) w 23 3 a n c 0 0 Try.underlying23
  have HX := Lib.hid hx; clear hx
  have H1 := Lib.hid h1; clear h1
  rcases hs with ⟨rfl, rfl, rfl⟩ | ⟨ad, rfl, hs⟩
  · have hx0 : xs = [] := List.eq_nil_of_length_eq_zero (by simpa using HX.out)
    subst hx0
    go_enter Try.func45, Try.ntmps45
    go_wp2_with fail
    go_ret
    exact ⟨_, _, rfl, World.ownsRow_nil _ _ _ _, Below.refl _ _⟩
  · have HS : Hid (Src w (some ad) n c xs) := .inr ⟨ad, rfl, hs⟩
    clear hs
    go_enter Try.func45, Try.ntmps45
    go_wp2_with (at_builtin; refine step_copy EV rfl _ _ rfl rfl (by simp) rfl HX.out HS.out H1.out hn ?_; intro A3 c3 w3 ho hb _; have HO3 := Lib.hid ho; have HB3 := Lib.hid hb; clear ho hb)
    go_ret
    exact ⟨_, _, rfl, HO3.out, HB3.out⟩
end Go.Proofs.Ytnjdmaeoebihpaa
