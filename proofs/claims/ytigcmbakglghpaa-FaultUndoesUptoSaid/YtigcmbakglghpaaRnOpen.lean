/-
  Steps that came in, opened: a list of steps, and that its bulk bounds it; the book's marks, read.
-/
import Derived.Test.YtigcmbakglghpaaRnRun
import Derived.Test.YtigcmbakglghpaaOpen
import Derived.Test.YtigcmbakglghpaaRows
namespace Go.Proofs.Ytigcmbakglghpaa
open Go.RowKit Go.ChangeShapes Go.WideShapes Go.ChangeAt Go.Proofs.YtigcmbakglghpaaW.PrintWords Go.Proofs.YtigcmbakglghpaaW.PrintLast Go.Proofs.YtigcmbakglghpaaW.PrintMore Go.Proofs.Ytigcmbakglghpaa.PFaultRuns
set_option linter.unusedVariables false
set_option linter.unusedSimpArgs false

theorem Dp.mono : ∀ {M M' : Nat} {l : List S50}, Dp M l → M ≤ M' → Dp M' l
  | 0, M', l, h, _ => by
    have h0 : l = [] := h
    subst h0
    cases M' with
    | zero => rfl
    | succ M' => intro x hx; cases hx
  | M + 1, 0, l, h, hm => by omega
  | M + 1, M' + 1, l, h, hm => fun x hx => ⟨(h x hx).1.mono (by omega), (h x hx).2.mono (by omega)⟩
theorem list_of {α : Type} {n : Nat} {p : Nat → α → Prop} (h : ∀ i, i < n → ∃ x, p i x) : ∃ l : List α, l.length = n ∧ ∀ i x, l[i]? = some x → p i x := by
  induction n with
  | zero => exact ⟨[], rfl, fun i x hx => by simp at hx⟩
  | succ n ih =>
    obtain ⟨l, hl, hp⟩ := ih (fun i hi => h i (by omega))
    obtain ⟨x, hx⟩ := h n (by omega)
    refine ⟨l ++ [x], by simp [hl], fun i y hy => ?_⟩
    rw [List.getElem?_append] at hy
    split at hy
    · exact hp i y hy
    · rename_i hi
      have e : i = n := by
        rcases Nat.lt_or_ge i (n + 1) with h5 | h5
        · omega
        · rw [List.getElem?_eq_none (by simp; omega)] at hy; cases hy
      subst e
      rw [hl, Nat.sub_self] at hy
      simp at hy
      subst hy
      exact hx
theorem bulk_sum {H : Type} (f : List S50 → Nat) : ∀ (l : List S50) (ds : List (DataW H)), l.length = ds.length → (∀ (i : Nat) (x : S50) (d : DataW H), l[i]? = some x → ds[i]? = some d → 1 + f x.f3 + f x.f4 ≤ Rows.uptoBulk d) → szl f l ≤ Rows.uptoBulkAll ds
  | [], ds, _, _ => Nat.zero_le _
  | x :: t, [], h, _ => by simp at h
  | x :: t, d :: ds, h, hx => by
    have h1 := hx 0 x d rfl rfl
    have h2 := bulk_sum f t ds (by simpa using h) (fun i y e hy he => hx (i + 1) y e (by simpa using hy) (by simpa using he))
    simp only [szl, Rows.uptoBulkAll]
    omega
section
variable {H : Type} {enc : TypeId × Value → H} {w : World} {spv : Nat → Bool} {hd : Bool}
theorem open_steps : ∀ (fuel : Nat) {v : Value} {x : DataW H × List MemPlace}, DataW.trod enc Try.prog w 0 spv hd fuel 35 [v] = some x →
    ∃ (A : Option Addr) (c : Nat) (l : List S50), v = .slice A l.length c ∧ Kd.C k50 w A l.length l ∧ l.length ≤ c ∧ Dp fuel l ∧ sz fuel l ≤ Rows.uptoBulk x.1 := by
  intro fuel
  induction fuel using Nat.strongRecOn with
  | _ fuel ih =>
  intro v x h
  have k5 : Try.prog.cellsOf 50 = 5 := by kernel_rfl
  rcases DataW.trod_slice Try.underlying35 h with ⟨hcs, rfl⟩ | ⟨a, len, cap, elems, rest, n, rfl, hcs, rfl, hb, hl, hm, hel, hi, hsp, hns⟩
  · simp at hcs
    subst hcs
    refine ⟨none, 0, [], rfl, Kd.C_nil _ _, Nat.le_refl _, Dp.mono (M := 0) rfl (Nat.zero_le _), ?_⟩
    rw [sz_nil]
    exact Nat.zero_le _
  · simp at hcs
    subst hcs
    obtain ⟨l, hll, hp⟩ := list_of (p := fun i (y : S50) => (∃ c : List Value, c.length = 5 ∧ k50.K w y c ∧ ∀ j u, c[j]? = some u → w.cell? (a.add (i * 5 + j)) = some u) ∧ Dp n y.f3 ∧ Dp n y.f4 ∧ ∀ e, elems[i]? = some e → 1 + sz n y.f3 + sz n y.f4 ≤ Rows.uptoBulk e.1) (n := len) (fun i hlt => by
      have h1 := hi i hlt
      rw [List.getElem?_eq_getElem (by omega)] at h1
      rw [k5] at h1
      obtain ⟨cs', hc, ht⟩ := Option.bind_eq_some_iff.1 h1
      obtain ⟨_, hcl, hat⟩ := World.cells?_some hc
      obtain ⟨xs, k, rfl, hx, _, hxl, hf⟩ := DataW.trod_struct Try.underlying50 ht
      match cs', hcl with
      | [c0, c1, c2, c3, c4], _ =>
        match xs, hxl with
        | [y0, y1, y2, y3, y4], _ =>
          have q0 : Try.prog.cellsOf 3 = 1 := by kernel_rfl
          have q3 : Try.prog.cellsOf 35 = 1 := by kernel_rfl
          have f0 := hf 0 _ rfl
          have f1 := hf 1 _ rfl
          have f2 := hf 2 _ rfl
          have f3 := hf 3 _ rfl
          have f4 := hf 4 _ rfl
          simp [q0, q3] at f0 f1 f2 f3 f4
          obtain ⟨n0, e0, _, _⟩ := DataW.trod_int Try.underlying3 f0
          obtain ⟨n1, e1, _, _⟩ := DataW.trod_int Try.underlying3 f1
          obtain ⟨n2, e2, _, _⟩ := DataW.trod_int Try.underlying3 f2
          obtain ⟨A3, cc3, l3, e3, g3, m3, d3, b3⟩ := ih k (by omega) f3
          obtain ⟨A4, cc4, l4, e4, g4, m4, d4, b4⟩ := ih k (by omega) f4
          simp at e0 e1 e2
          subst e0 e1 e2 e3 e4
          refine ⟨⟨n0, n1, n2, l3, l4⟩, ⟨_, rfl, k50_mk w ⟨n0, n1, n2, l3, l4⟩ m3 g3 m4 g4, fun j u hj => ?_⟩, d3.mono (by omega), d4.mono (by omega), fun e he => ?_⟩
          · have hjl : j < 5 := by
              rcases Nat.lt_or_ge j 5 with h5 | h5
              · exact h5
              · rw [List.getElem?_eq_none (by simpa using h5)] at hj; cases hj
            have h6 := hat j hjl
            rw [Go.Deep.add_add] at h6
            rw [h6]
            exact hj
          · rw [List.getElem?_eq_getElem (by omega)] at he
            injection he with he
            rw [← he, hx]
            have s3 := sz_same k (k + 1) l3 d3 (d3.mono (by omega))
            have s4 := sz_same k (k + 1) l4 d4 (d4.mono (by omega))
            show 1 + sz (k + 1) l3 + sz (k + 1) l4 ≤ _
            simp only [List.map_cons, List.map_nil, Rows.uptoBulk, Rows.uptoBulkAll]
            omega)
    subst hll
    refine ⟨some a, cap, l, rfl, ⟨rfl, by have : (maxLen : Nat) = 9223372036854775807 := rfl; omega, fun _ => ⟨a, rfl, fun j p hj => (hp j p hj).1⟩⟩, hl, fun y hy => ?_, ?_⟩
    · obtain ⟨j, hj, rfl⟩ := List.getElem_of_mem hy
      have := hp j _ (List.getElem?_eq_getElem hj)
      exact ⟨this.2.1, this.2.2.1⟩
    · have h7 := bulk_sum (sz n) l (elems.map (·.1)) (by rw [List.length_map, hel]) (fun i y d hy hd => by
        rw [List.getElem?_map] at hd
        obtain ⟨e, he, rfl⟩ := Option.map_eq_some_iff.1 hd
        exact (hp i y hy).2.2.2 e he)
      show szl (sz n) l ≤ Rows.uptoBulk (.slice (elems.map (·.1)) (rest.map (·.1)))
      simp only [Rows.uptoBulk]
      omega
end
theorem mcl_at : ∀ (L : List S53) (j : Nat) (p : S53), L[j]? = some p → ∀ (i : Nat) (u : Value), [Value.int .i64 p.f0, .int .i64 p.f1, .int .i64 p.f2][i]? = some u → (mcl L)[j * 3 + i]? = some u
  | [], j, p, hj, i, u, hi => by simp at hj
  | m :: t, 0, p, hj, i, u, hi => by
    simp at hj
    subst hj
    have hi3 : i < 3 := by
      rcases Nat.lt_or_ge i 3 with h5 | h5
      · exact h5
      · rw [List.getElem?_eq_none (by simpa using h5)] at hi; cases hi
    show ([Value.int .i64 m.f0, .int .i64 m.f1, .int .i64 m.f2] ++ mcl t)[0 * 3 + i]? = _
    rw [Nat.zero_mul, Nat.zero_add, List.getElem?_append_left (by simpa using hi3)]
    exact hi
  | m :: t, j + 1, p, hj, i, u, hi => by
    show ([Value.int .i64 m.f0, .int .i64 m.f1, .int .i64 m.f2] ++ mcl t)[(j + 1) * 3 + i]? = _
    rw [List.getElem?_append_right (by simp; omega)]
    have e : (j + 1) * 3 + i - [Value.int .i64 m.f0, .int .i64 m.f1, .int .i64 m.f2].length = j * 3 + i := by simp; omega
    rw [e]
    exact mcl_at t j p (by simpa using hj) i u hi
theorem Bk.reads {w : World} {base bp : Nat} {L : List S53} (h : Bk w base bp L) (hL : L.length ≤ 1000000) : ∃ A c, w.heap[bp]? = some (.cells #[.slice A L.length c] 40) ∧ Kd.C k53 w A L.length L ∧ L.length ≤ c := by
  obtain ⟨A, c, hb, ho⟩ := h.row
  have hc : L.length ≤ c := by
    rcases ho.2 with ⟨h1, h2⟩ | ⟨g, cap, cur, h1, _, _, h2, _⟩
    · injection h1 with h3 h4 h5
      omega
    · injection h1 with h3 h4 h5
      omega
  refine ⟨A, c, hb, ⟨rfl, by omega, fun hp => ?_⟩, hc⟩
  rcases ho.2 with ⟨_, h2⟩ | ⟨g, cap, cur, h1, _⟩
  · omega
  · injection h1 with h3
    subst h3
    refine ⟨⟨g, 0, none⟩, rfl, fun j p hj => ⟨[.int .i64 p.f0, .int .i64 p.f1, .int .i64 p.f2], rfl, k53_mk w p, fun i u hi => ?_⟩⟩
    have hi3 : i < 3 := by
      rcases Nat.lt_or_ge i 3 with h5 | h5
      · exact h5
      · rw [List.getElem?_eq_none (by simpa using h5)] at hi; cases hi
    exact ho.cells (g := g) rfl (j * 3 + i) u (mcl_at L j p hj i u hi)
end Go.Proofs.Ytigcmbakglghpaa
