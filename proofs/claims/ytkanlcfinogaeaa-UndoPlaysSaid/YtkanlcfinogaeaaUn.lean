/-
  Package undo: how values, entries and a log lie in memory; the copies that it makes.
-/
import Derived.Test.YtkanlcfinogaeaaRow
import Derived.Test.YtkanlcfinogaeaaOpen
namespace Go.Proofs.Ytkanlcfinogaeaa
open Go.RowKit Go.ChangeShapes Go.WideShapes Go.ChangeAt
set_option linter.unusedVariables false
set_option linter.unusedSimpArgs false

/-- A value. -/
structure Val where
  kind : Int
  n : Int
  s : ByteArray
def Val.cells (x : Val) : List Value := [.int .i64 x.kind, .int .i64 x.n, .string x.s]
/-- An entry. -/
structure Ent where
  kind : Int
  id : Int
  table : ByteArray
  old : List Val
  new : List Val
def vcells (l : List Val) : List Value := l.flatMap Val.cells
theorem vcells_len (l : List Val) : (vcells l).length = l.length * 3 := by
  induction l with
  | nil => rfl
  | cons a t ih => simp [vcells, Val.cells] at ih ⊢; omega
theorem vcells_cons (p : Val) (t : List Val) : vcells (p :: t) = .int .i64 p.kind :: .int .i64 p.n :: .string p.s :: vcells t := rfl
theorem vcells_at : ∀ (L : List Val) (i : Nat) (p : Val), L[i]? = some p → (vcells L)[i * 3]? = some (.int .i64 p.kind) ∧ (vcells L)[i * 3 + 1]? = some (.int .i64 p.n) ∧ (vcells L)[i * 3 + 2]? = some (.string p.s)
  | [], i, p, h => by simp at h
  | q :: t, 0, p, h => by
    simp at h; subst h
    exact ⟨rfl, rfl, rfl⟩
  | q :: t, i + 1, p, h => by
    simp at h
    have ih := vcells_at t i p h
    rw [vcells_cons, show (i + 1) * 3 = i * 3 + 1 + 1 + 1 from by omega]
    exact ih
theorem vcells_one (L : List Val) : ∀ u ∈ vcells L, u.oneCell' = true := by
  intro u hu
  simp [vcells, Val.cells] at hu
  obtain ⟨a, _, h⟩ := hu
  rcases h with rfl | rfl | rfl <;> rfl
/-- Values, as a slice reads: below base, or in a block of values. -/
def RdV (base : Nat) (w : World) (v : Value) (vs : List Val) : Prop :=
  ∃ A c, v = .slice A vs.length c ∧ Src w A vs.length c (vcells vs) ∧ ∀ ad : Addr, A = some ad → 0 < vs.length → ad.block < base ∨ ∃ cs fr, w.heap[ad.block]? = some (.cells cs 42 fr)
theorem RdV.frm {T : TypeId → Prop} {base base' : Nat} {w w' : World} {v : Value} {vs : List Val} (h : RdV base w v vs) (hf : Frm T base' w w') (ht : ¬ T 42) (hb : base ≤ base') : RdV base w' v vs := by
  obtain ⟨A, c, rfl, hs, hp⟩ := h
  refine ⟨A, c, rfl, ?_, fun ad hA hl => ?_⟩
  · rcases hs with hs | ⟨ad, rfl, hc⟩
    · exact .inl hs
    · refine .inr ⟨ad, rfl, fun j u hj => ?_⟩
      have hl : 0 < vs.length := by
        have := (List.getElem?_eq_some_iff.1 hj).1
        rw [vcells_len] at this
        omega
      have hlt := World.block_lt_of_cell? w _ (hc j u hj)
      refine (World.cell?_of_block (w := w) (a := ad.add j) ?_).trans (hc j u hj)
      rw [add_block]
      rcases hp ad rfl hl with h1 | ⟨cs, fr, h1⟩
      · exact hf.low.block _ (by omega)
      · exact (hf.keep _ cs _ fr h1 ht).trans h1.symm
  · rcases hp ad hA hl with h1 | ⟨cs, fr, h1⟩
    · exact .inl h1
    · exact .inr ⟨cs, fr, hf.keep _ cs _ fr h1 ht⟩
theorem RdV.mono {base base' : Nat} {w : World} {v : Value} {vs : List Val} (h : RdV base w v vs) (hb : base ≤ base') : RdV base' w v vs := by
  obtain ⟨A, c, rfl, hs, hp⟩ := h
  exact ⟨A, c, rfl, hs, fun ad hA hl => (hp ad hA hl).elim (fun h => .inl (by omega)) .inr⟩
theorem RdV.owned {base base' : Nat} {w : World} {v : Value} {vs : List Val} (h : w.ownsRow base 42 3 v vs.length (vcells vs)) : RdV base' w v vs := by
  obtain ⟨A, c, rfl⟩ := own_form h
  refine ⟨A, c, rfl, Src.of h, fun ad hA hl => .inr ?_⟩
  subst hA
  rcases h.2 with ⟨h', _⟩ | ⟨g, cap, cur, h', _, hg, _⟩
  · cases h'
  · injection h' with h1
    injection h1 with h1
    subst h1
    exact ⟨cur, _, hg⟩
theorem RdV.nil (base : Nat) (w : World) : RdV base w (.slice none 0 0) [] := ⟨none, 0, rfl, .inl ⟨rfl, rfl, rfl⟩, fun ad h => by cases h⟩

theorem info_V : (Try.prog.info? 42).map (fun i => (i.zero, i.size, i.bytes)) = some (some (.agg #[.int .i64 0, .int .i64 0, .string ⟨#[]⟩]), 3, 32) := by kernel_rfl
theorem elt_V : ∃ i0, Elt 33 42 (.agg #[.int .i64 0, .int .i64 0, .string ⟨#[]⟩]) 3 32 i0 := by
  obtain ⟨i0, hi, hz0, hz1, hz2⟩ := info_parts info_V
  exact ⟨i0, Try.underlying33, hi, hz0, hz1, hz2, rfl, by omega, by omega⟩
theorem info_E : (Try.prog.info? 35).map (fun i => (i.zero, i.size, i.bytes)) = some (some (.agg #[.int .i64 0, .int .i64 0, .string ⟨#[]⟩, .slice none 0 0, .slice none 0 0]), 5, 80) := by kernel_rfl
theorem elt_E : ∃ i0, Elt 44 35 (.agg #[.int .i64 0, .int .i64 0, .string ⟨#[]⟩, .slice none 0 0, .slice none 0 0]) 5 80 i0 := by
  obtain ⟨i0, hi, hz0, hz1, hz2⟩ := info_parts info_E
  exact ⟨i0, Try.underlying44, hi, hz0, hz1, hz2, rfl, by omega, by omega⟩
theorem info_S : (Try.prog.info? 69).map (fun i => (i.zero, i.size, i.bytes)) = some (some (.agg #[.string ⟨#[]⟩, .int .i64 0]), 2, 24) := by kernel_rfl
theorem elt_S : ∃ i0, Elt 62 69 (.agg #[.string ⟨#[]⟩, .int .i64 0]) 2 24 i0 := by
  obtain ⟨i0, hi, hz0, hz1, hz2⟩ := info_parts info_S
  exact ⟨i0, Try.underlying62, hi, hz0, hz1, hz2, rfl, by omega, by omega⟩
theorem info_N : (Try.prog.info? 9).map (fun i => (i.zero, i.size, i.bytes)) = some (some (.string ⟨#[]⟩), 1, 16) := by kernel_rfl
theorem elt_N : ∃ i0, Elt 56 9 (.string ⟨#[]⟩) 1 16 i0 := by
  obtain ⟨i0, hi, hz0, hz1, hz2⟩ := info_parts info_N
  exact ⟨i0, Try.underlying56, hi, hz0, hz1, hz2, rfl, by omega, by omega⟩
theorem info_R : (Try.prog.info? 40).map (fun i => (i.zero, i.size, i.bytes)) = some (some (.agg #[.int .i64 0, .int .i64 0, .string ⟨#[]⟩, .slice none 0 0, .slice none 0 0]), 5, 80) := by kernel_rfl
theorem elt_R : ∃ i0, Elt 47 40 (.agg #[.int .i64 0, .int .i64 0, .string ⟨#[]⟩, .slice none 0 0, .slice none 0 0]) 5 80 i0 := by
  obtain ⟨i0, hi, hz0, hz1, hz2⟩ := info_parts info_R
  exact ⟨i0, Try.underlying47, hi, hz0, hz1, hz2, rfl, by omega, by omega⟩
theorem info_T : (Try.prog.info? 67).map (fun i => (i.zero, i.size, i.bytes)) = some (some (.agg #[.bool false, .string ⟨#[]⟩, .int .i64 0, .int .i64 0, .string ⟨#[]⟩, .slice none 0 0, .slice none 0 0]), 7, 104) := by kernel_rfl
theorem elt_T : ∃ i0, Elt 30 67 (.agg #[.bool false, .string ⟨#[]⟩, .int .i64 0, .int .i64 0, .string ⟨#[]⟩, .slice none 0 0, .slice none 0 0]) 7 104 i0 := by
  obtain ⟨i0, hi, hz0, hz1, hz2⟩ := info_parts info_T
  exact ⟨i0, Try.underlying30, hi, hz0, hz1, hz2, rfl, by omega, by omega⟩

/-! ### slices.Clone -/
/-- Of values. -/
theorem cloneV_any {w : World} {A : Option Addr} {n c : Nat} {xs : List Value} (hs : Src w A n c xs) (hx : xs.length = n * 3) (h1 : ∀ u ∈ xs, u.oneCell' = true) (hn : n ≤ 1000000) :
    Calls Try.prog 25 #[.slice A n c] w fun e w' => ∃ A' c', e = .returned (.slice A' n c') ∧ w'.ownsRow w.heap.size 42 3 (.slice A' n c') n xs ∧ Below w.heap.size w w' := by
  obtain ⟨i0, EV⟩ := elt_V
  have heq := fun (a : Option Addr) (n c : Nat) (w : World) => Lib.run_eql_slice_nil (P := Try.prog) w 33 42 a n c 0 0 Try.underlying33
  have HX := Lib.hid hx; clear hx
  have H1 := Lib.hid h1; clear h1
  rcases hs with ⟨rfl, rfl, rfl⟩ | ⟨ad, rfl, hs⟩
  · have hx0 : xs = [] := List.eq_nil_of_length_eq_zero (by simpa using HX.out)
    subst hx0
    go_enter Try.func25, Try.ntmps25
    go_wp2_with fail
    go_ret
    exact ⟨_, _, rfl, World.ownsRow_nil _ _ _ _, Below.refl _ _⟩
  · have HS : Hid (Src w (some ad) n c xs) := .inr ⟨ad, rfl, hs⟩
    clear hs
    go_enter Try.func25, Try.ntmps25
    go_wp2_with (at_builtin; refine step_copy EV rfl _ _ rfl rfl (by simp) rfl HX.out HS.out H1.out hn ?_; intro A3 c3 w3 ho hb _; have HO3 := Lib.hid ho; have HB3 := Lib.hid hb; clear ho hb)
    go_ret
    exact ⟨_, _, rfl, HO3.out, HB3.out⟩
/-- Of entries. -/
theorem cloneE_any {w : World} {A : Option Addr} {n c : Nat} {xs : List Value} (hs : Src w A n c xs) (hx : xs.length = n * 5) (h1 : ∀ u ∈ xs, u.oneCell' = true) (hn : n ≤ 1000000) :
    Calls Try.prog 27 #[.slice A n c] w fun e w' => ∃ A' c', e = .returned (.slice A' n c') ∧ w'.ownsRow w.heap.size 35 5 (.slice A' n c') n xs ∧ Below w.heap.size w w' := by
  obtain ⟨i0, EV⟩ := elt_E
  have heq := fun (a : Option Addr) (n c : Nat) (w : World) => Lib.run_eql_slice_nil (P := Try.prog) w 44 35 a n c 0 0 Try.underlying44
  have HX := Lib.hid hx; clear hx
  have H1 := Lib.hid h1; clear h1
  rcases hs with ⟨rfl, rfl, rfl⟩ | ⟨ad, rfl, hs⟩
  · have hx0 : xs = [] := List.eq_nil_of_length_eq_zero (by simpa using HX.out)
    subst hx0
    go_enter Try.func27, Try.ntmps27
    go_wp2_with fail
    go_ret
    exact ⟨_, _, rfl, World.ownsRow_nil _ _ _ _, Below.refl _ _⟩
  · have HS : Hid (Src w (some ad) n c xs) := .inr ⟨ad, rfl, hs⟩
    clear hs
    go_enter Try.func27, Try.ntmps27
    go_wp2_with (at_builtin; refine step_copy EV rfl _ _ rfl rfl (by simp) rfl HX.out HS.out H1.out hn ?_; intro A3 c3 w3 ho hb _; have HO3 := Lib.hid ho; have HB3 := Lib.hid hb; clear ho hb)
    go_ret
    exact ⟨_, _, rfl, HO3.out, HB3.out⟩
end Go.Proofs.Ytkanlcfinogaeaa
