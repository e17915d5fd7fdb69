/-
  Law package 11: values, entries and operations that came in, opened to cells.
-/
import Derived.Test.YtkanlcfinogaeaaUnAwake
namespace Go.Proofs.Ytkanlcfinogaeaa
open Go.RowKit Go.ChangeShapes Go.WideShapes Go.ChangeAt
set_option linter.unusedVariables false
set_option linter.unusedSimpArgs false

theorem list_of {α : Type} {n : Nat} {p : Nat → α → Prop} (h : ∀ i, i < n → ∃ x, p i x) : ∃ l : List α, l.length = n ∧ ∀ i x, l[i]? = some x → p i x := by
  induction n with
  | zero => exact ⟨[], rfl, fun i x hx => by simp at hx⟩
  | succ n ih =>
    obtain ⟨l, hl, hp⟩ := ih (fun i hi => h i (by omega))
    obtain ⟨x, hx⟩ := h n (by omega)
    refine ⟨l ++ [x], by simp [hl], fun i y hy => ?_⟩
    rw [List.getElem?_append] at hy
    split at hy
    · exact hp i y hy
    · rename_i hi
      have e : i = n := by
        rcases Nat.lt_or_ge i (n + 1) with h5 | h5
        · omega
        · rw [List.getElem?_eq_none (by simp; omega)] at hy; cases hy
      subst e
      rw [hl, Nat.sub_self] at hy
      simp at hy
      subst hy
      exact hx
/-- An operation of a script. -/
structure UOp where
  k : Int
  n : Int
  name : ByteArray
  x : Img
def UOp.cells (o : UOp) : List Value := .int .i64 o.k :: .int .i64 o.n :: .string o.name :: o.x.cells

section
variable {H : Type} {enc : TypeId × Value → H} {w : World} {sp : Nat → Bool} {hd : Bool}
theorem elem_val {b o : Nat} (h : ElemAt enc Try.prog w sp hd 42 b o) : ∃ c : Val, w.cell? ⟨b, o, none⟩ = some (.int .i64 c.kind) ∧ w.cell? ⟨b, o + 1, none⟩ = some (.int .i64 c.n) ∧ w.cell? ⟨b, o + 2, none⟩ = some (.string c.s) ∧ (Lit.int .i64 c.n).wf = true := by
  obtain ⟨cs, n, x, hl, hc, ht⟩ := h
  have h4 : Try.prog.cellsOf 42 = 3 := by kernel_rfl
  rw [h4] at hl hc
  match cs, hl with
  | [c0, c1, c2], _ =>
    obtain ⟨xs, m, _, _, _, hxl, hf⟩ := DataW.trod_struct Try.underlying42 ht
    match xs, hxl with
    | [y0, y1, y2], _ =>
      have k0 : Try.prog.cellsOf 9 = 1 := by kernel_rfl
      have k1 : Try.prog.cellsOf 3 = 1 := by kernel_rfl
      have f0 := hf 0 _ rfl
      have f1 := hf 1 _ rfl
      have f2 := hf 2 _ rfl
      simp [k0, k1] at f0 f1 f2
      obtain ⟨i, e0, _, _⟩ := DataW.trod_int Try.underlying3 f0
      obtain ⟨j, e1, _, w1⟩ := DataW.trod_int Try.underlying3 f1
      obtain ⟨s, e2, _, _⟩ := DataW.trod_string Try.underlying9 f2
      simp at e0 e1 e2
      subst e0 e1 e2
      exact ⟨⟨i, j, s⟩, hc 0 (by omega), hc 1 (by omega), hc 2 (by omega), w1⟩
/-- Whole numbers that fit. -/
def ValsOk (vs : List Val) : Prop := ∀ (i : Nat) x, vs[i]? = some x → (Lit.int .i64 x.n).wf = true
theorem vcells_get : ∀ (L : List Val) (j : Nat) (u : Value), (vcells L)[j]? = some u → ∃ i p, L[i]? = some p ∧ ((j = i * 3 ∧ u = .int .i64 p.kind) ∨ (j = i * 3 + 1 ∧ u = .int .i64 p.n) ∨ (j = i * 3 + 2 ∧ u = .string p.s))
  | [], j, u, h => by simp [vcells] at h
  | q :: t, 0, u, h => by
    rw [vcells_cons] at h; simp at h
    exact ⟨0, q, rfl, .inl ⟨rfl, h.symm⟩⟩
  | q :: t, 1, u, h => by
    rw [vcells_cons] at h; simp at h
    exact ⟨0, q, rfl, .inr (.inl ⟨rfl, h.symm⟩)⟩
  | q :: t, 2, u, h => by
    rw [vcells_cons] at h; simp at h
    exact ⟨0, q, rfl, .inr (.inr ⟨rfl, h.symm⟩)⟩
  | q :: t, j + 3, u, h => by
    rw [vcells_cons] at h
    have h' : (vcells t)[j]? = some u := h
    obtain ⟨i, p, hp, hc⟩ := vcells_get t j u h'
    refine ⟨i + 1, p, by simpa using hp, ?_⟩
    rcases hc with ⟨rfl, e⟩ | ⟨rfl, e⟩ | ⟨rfl, e⟩
    · exact .inl ⟨by omega, e⟩
    · exact .inr (.inl ⟨by omega, e⟩)
    · exact .inr (.inr ⟨by omega, e⟩)
theorem open_vals {n : Nat} {v : Value} {x : DataW H × List MemPlace} (h : DataW.trod enc Try.prog w 0 sp hd n 33 [v] = some x) : ∃ A c, ∃ vs : List Val, v = .slice A vs.length c ∧ RdV w.heap.size w v vs ∧ ValsOk vs := by
  have k4 : Try.prog.cellsOf 42 = 3 := by kernel_rfl
  obtain ⟨a, len, cap, rfl⟩ : ∃ a len cap, v = .slice a len cap := by
    rcases Go.Deep.open_slice Try.underlying33 h with ⟨hcs, _⟩ | ⟨ad, l, c, m, n, D, Pl, hcs, _⟩
    · simp at hcs; exact ⟨_, _, _, hcs⟩
    · simp at hcs; exact ⟨_, _, _, hcs⟩
  rcases slice_cells Try.underlying33 (by rw [k4]; omega) h with ⟨rfl, rfl, rfl⟩ | ⟨_, _, ad, rfl, hi⟩
  · exact ⟨_, _, [], rfl, RdV.nil _ _, fun i x h => by simp at h⟩
  · obtain ⟨vs, hl, hp⟩ := list_of (p := fun i (c : Val) => ∃ b off, ad = ⟨b, off, none⟩ ∧ b < w.heap.size ∧ w.cell? ⟨b, off + i * 3, none⟩ = some (.int .i64 c.kind) ∧ w.cell? ⟨b, off + i * 3 + 1, none⟩ = some (.int .i64 c.n) ∧ w.cell? ⟨b, off + i * 3 + 2, none⟩ = some (.string c.s) ∧ (Lit.int .i64 c.n).wf = true) (fun i hlt => by
      obtain ⟨b, off, rfl, hb, he⟩ := hi i hlt
      rw [k4] at he
      obtain ⟨c, h1⟩ := elem_val he
      exact ⟨c, b, off, rfl, hb, h1⟩)
    subst hl
    refine ⟨_, _, vs, rfl, ⟨some ad, cap, rfl, ?_, ?_⟩, fun i x hx => by obtain ⟨b, off, _, _, _, _, _, h5⟩ := hp i x hx; exact h5⟩
    · refine .inr ⟨ad, rfl, fun j u hj => ?_⟩
      obtain ⟨i, p, hpi, hc⟩ := vcells_get _ j u hj
      obtain ⟨b', off', rfl, _, h1, h2, h3, _⟩ := hp i p hpi
      rw [Addr.add_lit]
      rcases hc with ⟨rfl, rfl⟩ | ⟨rfl, rfl⟩ | ⟨rfl, rfl⟩
      · exact h1
      · exact h2
      · exact h3
    · intro ad' hA hl
      obtain ⟨v0, hv0⟩ : ∃ v0, vs[0]? = some v0 := ⟨_, List.getElem?_eq_getElem hl⟩
      obtain ⟨b', off', e, hb, _⟩ := hp 0 v0 hv0
      injection hA with hA
      subst hA
      rw [e]
      exact .inl hb
theorem open_ent {n : Nat} {cs : List Value} {x : DataW H × List MemPlace} (hl : cs.length = 5) (h : DataW.trod enc Try.prog w 0 sp hd n 35 cs = some x) : ∃ x : Img, cs = x.cells ∧ x.Rd w.heap.size w ∧ ValsOk x.e.old ∧ ValsOk x.e.new := by
  match cs, hl with
  | [c0, c1, c2, c3, c4], _ =>
    obtain ⟨xs, m, _, _, _, hxl, hf⟩ := DataW.trod_struct Try.underlying35 h
    match xs, hxl with
    | [y0, y1, y2, y3, y4], _ =>
      have k0 : Try.prog.cellsOf 9 = 1 := by kernel_rfl
      have k1 : Try.prog.cellsOf 3 = 1 := by kernel_rfl
      have k2 : Try.prog.cellsOf 33 = 1 := by kernel_rfl
      have f0 := hf 0 _ rfl
      have f1 := hf 1 _ rfl
      have f2 := hf 2 _ rfl
      have f3 := hf 3 _ rfl
      have f4 := hf 4 _ rfl
      simp [k0, k1, k2] at f0 f1 f2 f3 f4
      obtain ⟨i, e0, _, _⟩ := DataW.trod_int Try.underlying3 f0
      obtain ⟨j, e1, _, _⟩ := DataW.trod_int Try.underlying3 f1
      obtain ⟨s, e2, _, _⟩ := DataW.trod_string Try.underlying9 f2
      obtain ⟨A3, d3, vo, e3, r3, o3⟩ := open_vals f3
      obtain ⟨A4, d4, vn, e4, r4, o4⟩ := open_vals f4
      simp at e0 e1 e2
      subst e0 e1 e2 e3 e4
      exact ⟨⟨⟨i, j, s, vo, vn⟩, A3, d3, A4, d4⟩, rfl, ⟨r3, r4⟩, o3, o4⟩
theorem open_uop {n : Nat} {cs : List Value} {x : DataW H × List MemPlace} (hl : cs.length = 8) (h : DataW.trod enc Try.prog w 0 sp hd n 37 cs = some x) : ∃ o : UOp, cs = o.cells ∧ (Lit.int .i64 o.n).wf = true ∧ o.x.Rd w.heap.size w ∧ ValsOk o.x.e.old ∧ ValsOk o.x.e.new := by
  match cs, hl with
  | [c0, c1, c2, c3, c4, c5, c6, c7], _ =>
    obtain ⟨xs, m, _, _, _, hxl, hf⟩ := DataW.trod_struct Try.underlying37 h
    match xs, hxl with
    | [y0, y1, y2, y3], _ =>
      have k0 : Try.prog.cellsOf 9 = 1 := by kernel_rfl
      have k1 : Try.prog.cellsOf 3 = 1 := by kernel_rfl
      have k2 : Try.prog.cellsOf 35 = 5 := by kernel_rfl
      have f0 := hf 0 _ rfl
      have f1 := hf 1 _ rfl
      have f2 := hf 2 _ rfl
      have f3 := hf 3 _ rfl
      simp [k0, k1, k2] at f0 f1 f2 f3
      obtain ⟨i, e0, _, _⟩ := DataW.trod_int Try.underlying3 f0
      obtain ⟨j, e1, _, w1⟩ := DataW.trod_int Try.underlying3 f1
      obtain ⟨s, e2, _, _⟩ := DataW.trod_string Try.underlying9 f2
      obtain ⟨x, e3, r3, o3, o4⟩ := open_ent rfl f3
      simp at e0 e1 e2
      subst e0 e1 e2
      exact ⟨⟨i, j, s, x⟩, by rw [e3]; rfl, w1, r3, o3, o4⟩
theorem open_op {v : Value} {d : DataW H} {p : List MemPlace} {base : Nat} (hv : Value.okWide Try.prog w .any base 37 v) (h : DataW.Trod enc Try.prog w 0 sp hd 37 v d p) : ∃ o : UOp, v = .agg o.cells.toArray ∧ (Lit.int .i64 o.n).wf = true ∧ o.x.Rd w.heap.size w ∧ ValsOk o.x.e.old ∧ ValsOk o.x.e.new := by
  obtain ⟨cs, rfl, hs⟩ := okWide_struct Try.underlying37 hv
  have k8 : Try.prog.cellsOf 37 = 8 := by kernel_rfl
  obtain ⟨fuel, hf⟩ := h
  obtain ⟨o, ho, hr⟩ := open_uop (by simp [hs, k8] : cs.toList.length = 8) hf
  exact ⟨o, by rw [← ho], hr⟩
end
end Go.Proofs.Ytkanlcfinogaeaa
