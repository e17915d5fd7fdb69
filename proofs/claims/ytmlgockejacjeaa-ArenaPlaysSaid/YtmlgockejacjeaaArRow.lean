/-
  Rows that are copied, and pushed onto: of whatever element.
-/
import Derived.Test.YtmlgockejacjeaaArRef
namespace Go.Proofs.Ytmlgockejacjeaa
open Go.RowKit
set_option linter.unusedVariables false
set_option linter.unusedSimpArgs false

/-- An element's facts. -/
structure Elt (T e : TypeId) (z : Value) (size bytes : Nat) (i0 : TypeInfo) : Prop where
  und : Try.prog.underlying T = some (.slice e)
  info : Try.prog.info? e = some i0
  zero : i0.zero = some z
  hsize : i0.size = size
  hbytes : i0.bytes = bytes
  zs : z.cells.size = size
  pos : 0 < size
  small : bytes ≤ 1000

theorem gapp_nil {T e : TypeId} {z : Value} {size bytes : Nat} {i0 : TypeInfo} (E : Elt T e z size bytes i0) {w : World} {base n : Nat} {v : Value} {xs : List Value} (h : w.ownsRow base e size v n xs) (ty : TypeId) : (Builtin.append_ #[T, T] ty #[v, .slice none 0 0]).run Try.prog w = .ok v w := by
  have hs := E.hsize
  subst hs
  rcases h.2 with ⟨rfl, rfl⟩ | ⟨g, cap, cur, rfl, _, _, hnc, _⟩
  · simp [Builtin.append_, run_underlying E.und, sizeOf, typeInfo, E.info, Builtin.lenOf, Builtin.firstCells, loadCells, loadCellsFrom]
  · simp [Builtin.append_, run_underlying E.und, sizeOf, typeInfo, E.info, Builtin.lenOf, Builtin.firstCells, loadCells, loadCellsFrom, hnc, storeCells]

/-- 'append(T{}, row...)': a copy of one's own. -/
theorem step_copy {T e : TypeId} {z : Value} {size bytes : Nat} {i0 : TypeInfo} (E : Elt T e z size bytes i0) {w : World} {n c : Nat} {A : Option Addr} {xs : List Value} {ops : Array Oper} {rest : List Oper} {o : Oper} {x : Act} {Q : Exit → Act → World → Prop} (hgd : o.guard = none) (s t : Operand)
    (ho : o.op = .call { callee := .builtin .append, args := #[s, t], argTypes := #[T, T] }) {k : Nat} (hs : x.eval s = .slice (some ⟨k, 0, none⟩) 0 0) (hk : k = w.heap.size) (ht : x.eval t = .slice A n c)
    (hx : xs.length = n * size) (hc : (A = none ∧ n = 0 ∧ c = 0) ∨ ∃ g, A = some ⟨g, 0, none⟩ ∧ ∀ j u, xs[j]? = some u → w.cell? ⟨g, j, none⟩ = some u) (h1 : ∀ u ∈ xs, u.oneCell' = true) (hn : n ≤ 1000000)
    (hK : ∀ A' c' w2, w2.ownsRow w.heap.size e size (.slice A' n c') n xs → Below w.heap.size w w2 → wpList Try.prog ops Q rest (x.put o.dst (.slice A' n c')) w2) :
    wpList Try.prog ops Q (o :: rest) x (w.alloc (.cells #[] e)) := by
  subst hk
  have hown : (w.alloc (.cells #[] e)).ownsRow w.heap.size e size (.slice (some ⟨w.heap.size, 0, none⟩) 0 0) 0 [] := World.ownsRow_made w #[] 0 (Nat.le_refl _) (by simp [maxLen]) (by simp)
  have hb0 : Below w.heap.size w (w.alloc (.cells #[] e)) := (Below.refl _ _).alloc (Nat.le_refl _) _
  rcases hc with ⟨rfl, rfl, rfl⟩ | ⟨g, rfl, hc⟩
  · have hx0 : xs = [] := List.eq_nil_of_length_eq_zero (by simpa using hx)
    subst hx0
    refine wpList_plain hgd fun K hK' => ?_
    unfold Oper.wp execOp
    simp only [ho, resolve, invoke, builtin, Sem.run_bind, Sem.run_pure, Result.andThen_ok, List.map_toArray, List.map_cons, List.map_nil, hs, ht, gapp_nil E hown]
    exact hK' _ _ (hK _ _ _ hown hb0)
  · have hbytes : n * bytes ≤ 1000000 * 1000 := Nat.mul_le_mul hn E.small
    refine wpList_append_own _ hgd s t T ho w.heap.size e i0 z size bytes E.und E.info E.zero E.hsize E.hbytes E.zs E.pos _ 0 [] hs hown ⟨g, 0, none⟩ n c xs ht hx (fun j u hj => ?_) h1 (by simp only [maxLen]; omega) (by rw [Nat.zero_add]; omega) (by simp) ?_
    · rw [Addr.add_lit, Nat.zero_add]
      have hcell := hc j u hj
      rw [World.cell?_alloc_past _ _ _ (World.block_lt_of_cell? w _ hcell)]
      exact hcell
    · intro v' w2 ho2 hg _
      rw [Nat.zero_add, List.nil_append] at ho2
      obtain ⟨A', c', rfl⟩ := own_form ho2
      exact hK A' c' w2 ho2 (hb0.grown hg (by simp) (fun k hk => by have e : w.heap.size = k := Option.some.inj hk; omega))

/-- 'append(v, x)', x just laid, v of one's own at base. -/
theorem step_push {T e : TypeId} {z : Value} {size bytes : Nat} {i0 : TypeInfo} (E : Elt T e z size bytes i0) {w : World} {base n : Nat} {v : Value} {xs : List Value} {ops : Array Oper} {rest : List Oper} {o : Oper} {x : Act} {Q : Exit → Act → World → Prop} (hgd : o.guard = none) (s t : Operand)
    (ho : o.op = .call { callee := .builtin .append, args := #[s, t], argTypes := #[T, T] }) (hown : w.ownsRow base e size v n xs) (hs : x.eval s = v) (news : Array Value) {k : Nat} (ht : x.eval t = .slice (some ⟨k, 0, none⟩) 1 1) (hk : k = w.heap.size)
    (hl : news.size = size) (h1 : ∀ u ∈ news.toList, u.oneCell' = true) (hn : n ≤ 1000000) (hbase : base ≤ w.heap.size)
    (hK : ∀ A' c' w2, w2.ownsRow base e size (.slice A' (n + 1) c') (n + 1) (xs ++ news.toList) → Below base w w2 → wpList Try.prog ops Q rest (x.put o.dst (.slice A' (n + 1) c')) w2) :
    wpList Try.prog ops Q (o :: rest) x (w.alloc (.cells news e)) := by
  subst hk
  have hbytes : (n + 1) * bytes ≤ 1000001 * 1000 := Nat.mul_le_mul (by omega) E.small
  refine wpList_append_own _ hgd s t T ho base e i0 z size bytes E.und E.info E.zero E.hsize E.hbytes E.zs E.pos v n xs hs (hown.alloc _) ⟨w.heap.size, 0, none⟩ 1 1 news.toList ht (by simp [hl]) (fun j u hj => ?_) h1 (by simp only [maxLen]; omega) (by omega) (by simp; omega) ?_
  · rw [Addr.add_lit, Nat.zero_add, cell_of_block (heap_alloc_new _ _)]
    simpa using hj
  · intro v' w2 ho2 hg _
    obtain ⟨A', c', rfl⟩ := own_form ho2
    exact hK A' c' w2 ho2 (((Below.refl _ _).alloc hbase _).grown hg (by simp; omega) (fun k hk => (hown.lt k hk).1))

theorem info_G : (Try.prog.info? 46).map (fun i => (i.zero, i.size, i.bytes)) = some (some (.agg #[.int .i64 0, .string ⟨#[]⟩]), 2, 24) := by kernel_rfl
theorem elt_G : ∃ i0, Elt 47 46 (.agg #[.int .i64 0, .string ⟨#[]⟩]) 2 24 i0 := by
  obtain ⟨i0, hi, hz0, hz1, hz2⟩ := info_parts info_G
  exact ⟨i0, Try.underlying47, hi, hz0, hz1, hz2, rfl, by omega, by omega⟩
theorem elt_I : ∃ i0, Elt 48 3 (.int .i64 0) 1 8 i0 := by
  obtain ⟨i0, hi, hz0, hz1, hz2⟩ := info_parts info_I
  exact ⟨i0, Try.underlying48, hi, hz0, hz1, hz2, rfl, by omega, by omega⟩
end Go.Proofs.Ytmlgockejacjeaa
