/-
  A node that came in, opened to cells.
-/
import Derived.Test.YtnjdmaeoebihpaaPgBelow
import Derived.Test.YtnjdmaeoebihpaaOpen
namespace Go.Proofs.Ytnjdmaeoebihpaa
open Go.RowKit Go.ChangeShapes Go.WideShapes Go.ChangeAt Go.Proofs.YtnjdmaeoebihpaaW.PrintWords Go.Proofs.YtnjdmaeoebihpaaW.PrintLast Go.Proofs.YtnjdmaeoebihpaaW.PrintMore
set_option linter.unusedVariables false
set_option linter.unusedSimpArgs false

theorem list_of {α : Type} {n : Nat} {p : Nat → α → Prop} (h : ∀ i, i < n → ∃ x, p i x) : ∃ l : List α, l.length = n ∧ ∀ i x, l[i]? = some x → p i x := by
  induction n with
  | zero => exact ⟨[], rfl, fun i x hx => by simp at hx⟩
  | succ n ih =>
    obtain ⟨l, hl, hp⟩ := ih (fun i hi => h i (by omega))
    obtain ⟨x, hx⟩ := h n (by omega)
    refine ⟨l ++ [x], by simp [hl], fun i y hy => ?_⟩
    rw [List.getElem?_append] at hy
    split at hy
    · exact hp i y hy
    · rename_i hi
      have e : i = n := by
        rcases Nat.lt_or_ge i (n + 1) with h5 | h5
        · omega
        · rw [List.getElem?_eq_none (by simp; omega)] at hy; cases hy
      subst e
      rw [hl, Nat.sub_self] at hy
      simp at hy
      subst hy
      exact hx
section
variable {H : Type} {enc : TypeId × Value → H} {w : World} {sp : Nat → Bool} {hd : Bool}
theorem open_strings {n : Nat} {v : Value} {x : DataW H × List MemPlace} (h : DataW.trod enc Try.prog w 0 sp hd n 22 [v] = some x) : ∃ A c, ∃ l : List ByteArray, v = .slice A l.length c ∧ Kd.C Kd.string w A l.length l ∧ l.length ≤ c ∧ (A = none → l = [] ∧ c = 0) := by
  have k1 : Try.prog.cellsOf 9 = 1 := by kernel_rfl
  obtain ⟨a, len, cap, rfl⟩ : ∃ a len cap, v = .slice a len cap := by
    rcases Go.Deep.open_slice Try.underlying22 h with ⟨hcs, _⟩ | ⟨ad, l, c, m, n, D, Pl, hcs, _⟩
    · simp at hcs; exact ⟨_, _, _, hcs⟩
    · simp at hcs; exact ⟨_, _, _, hcs⟩
  rcases slice_cells Try.underlying22 (by rw [k1]; omega) h with ⟨rfl, rfl, rfl⟩ | ⟨h1, h2, ad, rfl, hi⟩
  · exact ⟨_, _, [], rfl, Kd.C_nil _ _, Nat.le_refl _, fun _ => ⟨rfl, rfl⟩⟩
  · obtain ⟨l, hl, hp⟩ := list_of (p := fun i (s : ByteArray) => ∃ b off, ad = ⟨b, off, none⟩ ∧ w.cell? ⟨b, off + i, none⟩ = some (.string s)) (fun i hlt => by
      obtain ⟨b, off, rfl, hb, cs, m, y, hcl, hcc, ht⟩ := hi i hlt
      rw [k1] at hcl hcc
      match cs, hcl with
      | [c0], _ =>
        obtain ⟨s, e2, _, _⟩ := DataW.trod_string Try.underlying9 ht
        simp at e2
        subst e2
        have hc := hcc 0 (by omega)
        rw [Nat.mul_one, Nat.add_zero] at hc
        exact ⟨s, b, off, rfl, hc⟩)
    subst hl
    have hm : (maxLen : Nat) = 9223372036854775807 := rfl
    refine ⟨_, _, l, rfl, Kd.C_of_reads (d := ByteArray.empty) ⟨rfl, by omega, fun _ => ⟨ad, rfl, fun j hj => ?_⟩⟩, h1, (fun h => by cases h)⟩
    obtain ⟨b, off, rfl, hc⟩ := hp j l[j] (List.getElem?_eq_getElem hj)
    rw [Addr.add_lit, hc]
    simp [hj]
theorem open_ints {n : Nat} {v : Value} {x : DataW H × List MemPlace} (h : DataW.trod enc Try.prog w 0 sp hd n 23 [v] = some x) : ∃ A c, ∃ l : List Int, v = .slice A l.length c ∧ Kd.C (Kd.int .i64) w A l.length l ∧ l.length ≤ c ∧ (A = none → l = [] ∧ c = 0) ∧ ∀ k ∈ l, (Lit.int .i64 k).wf = true := by
  have k1 : Try.prog.cellsOf 3 = 1 := by kernel_rfl
  obtain ⟨a, len, cap, rfl⟩ : ∃ a len cap, v = .slice a len cap := by
    rcases Go.Deep.open_slice Try.underlying23 h with ⟨hcs, _⟩ | ⟨ad, l, c, m, n, D, Pl, hcs, _⟩
    · simp at hcs; exact ⟨_, _, _, hcs⟩
    · simp at hcs; exact ⟨_, _, _, hcs⟩
  rcases slice_cells Try.underlying23 (by rw [k1]; omega) h with ⟨rfl, rfl, rfl⟩ | ⟨h1, h2, ad, rfl, hi⟩
  · exact ⟨_, _, [], rfl, Kd.C_nil _ _, Nat.le_refl _, fun _ => ⟨rfl, rfl⟩, fun k hk => by cases hk⟩
  · obtain ⟨l, hl, hp⟩ := list_of (p := fun i (s : Int) => (∃ b off, ad = ⟨b, off, none⟩ ∧ w.cell? ⟨b, off + i, none⟩ = some (.int .i64 s)) ∧ (Lit.int .i64 s).wf = true) (fun i hlt => by
      obtain ⟨b, off, rfl, hb, cs, m, y, hcl, hcc, ht⟩ := hi i hlt
      rw [k1] at hcl hcc
      match cs, hcl with
      | [c0], _ =>
        obtain ⟨s, e2, _, w2⟩ := DataW.trod_int Try.underlying3 ht
        simp at e2
        subst e2
        have hc := hcc 0 (by omega)
        rw [Nat.mul_one, Nat.add_zero] at hc
        exact ⟨s, ⟨b, off, rfl, hc⟩, w2⟩)
    subst hl
    have hm : (maxLen : Nat) = 9223372036854775807 := rfl
    refine ⟨_, _, l, rfl, Kd.C_of_reads (d := 0) ⟨rfl, by omega, fun _ => ⟨ad, rfl, fun j hj => ?_⟩⟩, h1, (fun h => by cases h), fun k hk => ?_⟩
    · obtain ⟨⟨b, off, rfl, hc⟩, _⟩ := hp j l[j] (List.getElem?_eq_getElem hj)
      rw [Addr.add_lit, hc]
      simp [hj]
    · obtain ⟨j, hj, rfl⟩ := List.getElem_of_mem hk
      exact (hp j l[j] (List.getElem?_eq_getElem hj)).2
theorem open_node {v : Value} {d : DataW H} {p : List MemPlace} {base : Nat} (hv : Value.okWide Try.prog w .any base 25 v) (h : DataW.Trod enc Try.prog w 0 sp hd 25 v d p) :
    ∃ leaf A c l B d ks, v = .agg #[.bool leaf, .slice A (List.length l) c, .slice B (List.length ks) d] ∧ RdN w A c l B d ks ∧ (∀ k ∈ ks, (Lit.int .i64 k).wf = true) ∧ (A = none → l = [] ∧ c = 0) ∧ (B = none → ks = [] ∧ d = 0) := by
  obtain ⟨cs, rfl, hs⟩ := okWide_struct Try.underlying25 hv
  have k3 : Try.prog.cellsOf 25 = 3 := by kernel_rfl
  obtain ⟨fuel, hf⟩ := h
  have hl : cs.toList.length = 3 := by simp [hs, k3]
  obtain ⟨cl, rfl⟩ : ∃ cl : List Value, cs = cl.toArray := ⟨cs.toList, rfl⟩
  rw [List.toList_toArray] at hl
  match cl, hl with
  | [c0, c1, c2], _ =>
    obtain ⟨xs, m, _, _, _, hxl, hf⟩ := DataW.trod_struct Try.underlying25 hf
    match xs, hxl with
    | [y0, y1, y2], _ =>
      have q0 : Try.prog.cellsOf 4 = 1 := by kernel_rfl
      have q1 : Try.prog.cellsOf 22 = 1 := by kernel_rfl
      have q2 : Try.prog.cellsOf 23 = 1 := by kernel_rfl
      have f0 := hf 0 _ rfl
      have f1 := hf 1 _ rfl
      have f2 := hf 2 _ rfl
      simp [Value.cells, q0, q1, q2] at f0 f1 f2
      obtain ⟨b, e0, _⟩ := DataW.trod_bool Try.underlying4 f0
      obtain ⟨A, c, l, e1, r1, l1, z1⟩ := open_strings f1
      obtain ⟨B, d, ks, e2, r2, l2, z2, w2⟩ := open_ints f2
      simp at e0
      subst e0 e1 e2
      exact ⟨b, A, c, l, B, d, ks, rfl, ⟨r1, r2, l1, l2⟩, w2, z1, z2⟩
end
end Go.Proofs.Ytnjdmaeoebihpaa
