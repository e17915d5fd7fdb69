/-
  Rows of whatever element: copied, pushed onto, cut; what lies in blocks of some types turns, all else stays. No program's function is named here.
-/
import Derived.Test.YtigcmbakglghpaaProg
import Derived.Test.YtigcmbakglghpaaCommon
import Derived.Maps.AppendAt
import Derived.OwnWalk
import Derived.Laws.OwnMore
import Derived.WalkSmall
import Derived.WalkSpells
import Derived.RegionTactic
import Derived.Deep.QuietTactic
import Derived.BigQuiet
import Derived.Deep.RegionLaw
import Derived.Deep.RegionHeld
import Derived.Deep.LoopGhost
namespace Go.Proofs.Ytigcmbakglghpaa
open Go.RowKit
set_option linter.unusedVariables false
set_option linter.unusedSimpArgs false

/-- An operation that yields, met by its own run. -/
theorem wpList_run {P : Program} {ops : Array Oper} {Q : Exit → Act → World → Prop} {a : Act} {w : World} {rest : List Oper} {o : Oper} (hg : o.guard = none) {v : Value} {w' : World}
    (hr : (execOp a.eval o).run P w = .ok (.value v) w') (h : wpList P ops Q rest (a.put o.dst v) w') : wpList P ops Q (o :: rest) a w :=
  wpList_plain hg fun K hK => by
    unfold Oper.wp
    rw [hr]
    exact hK _ _ h
theorem wpList_skipped {P : Program} {ops : Array Oper} {Q : Exit → Act → World → Prop} {a : Act} {w : World} {rest : List Oper} {o : Oper} (hg : o.guard = none) {w' : World}
    (hr : (execOp a.eval o).run P w = .ok .skip w') (h : wpList P ops Q rest (a.put o.dst undef) w') : wpList P ops Q (o :: rest) a w :=
  wpList_plain hg fun K hK => by
    unfold Oper.wp
    rw [hr]
    exact hK _ _ h
/-! ### Rows -/
theorem owns_below {w w' : World} {base k : Nat} {e : TypeId} {size : Nat} {v : Value} {n : Nat} {xs : List Value} (h : w.ownsRow base e size v n xs) (hb : Below k w w') (hk : w.heap.size ≤ k) : w'.ownsRow base e size v n xs :=
  owns_same h fun i hi => hb.block i (Nat.lt_of_lt_of_le (h.lt i hi).2 hk)
theorem owns_up {w : World} {base base' : Nat} {e : TypeId} {size : Nat} {v : Value} {n : Nat} {xs : List Value} (h : w.ownsRow base e size v n xs) (hle : base' ≤ base) : w.ownsRow base' e size v n xs := by
  refine ⟨h.1, ?_⟩
  rcases h.2 with hn | ⟨g, cap, cur, rfl, hb, hg⟩
  · exact .inl hn
  · exact .inr ⟨g, cap, cur, rfl, Nat.le_trans hle hb, hg⟩
/-- What a slice's cells are, or that there are none. -/
def Src (w : World) (A : Option Addr) (n c : Nat) (xs : List Value) : Prop := (A = none ∧ n = 0 ∧ c = 0) ∨ ∃ ad : Addr, A = some ad ∧ ∀ j u, xs[j]? = some u → w.cell? (ad.add j) = some u
theorem add_block (a : Addr) (j : Nat) : (a.add j).block = a.block := by
  unfold Addr.add
  split <;> rfl
theorem Src.of {w : World} {base : Nat} {e : TypeId} {size : Nat} {A : Option Addr} {n c : Nat} {xs : List Value} (h : w.ownsRow base e size (.slice A n c) n xs) : Src w A n c xs := by
  rcases h.2 with ⟨h1, h2⟩ | ⟨g, cap, cur, h1, _⟩
  · injection h1 with a b d
    exact .inl ⟨a, b, d⟩
  · injection h1 with a b d
    subst a
    exact .inr ⟨⟨g, 0, none⟩, rfl, fun j u hj => h.cells (g := g) rfl j u hj⟩
theorem Src.below {w w' : World} {A : Option Addr} {n c : Nat} {xs : List Value} (h : Src w A n c xs) {k : Nat} (hb : Below k w w') (hk : w.heap.size ≤ k) : Src w' A n c xs := by
  rcases h with h | ⟨ad, rfl, h⟩
  · exact .inl h
  · refine .inr ⟨ad, rfl, fun j u hj => ?_⟩
    have hc := h j u hj
    have hl := World.block_lt_of_cell? w _ hc
    exact (World.cell?_of_block (w := w) (a := ad.add j) (hb.block _ (Nat.lt_of_lt_of_le hl hk))).trans hc

/-- An element's facts. -/
structure Elt (T e : TypeId) (z : Value) (size bytes : Nat) (i0 : TypeInfo) : Prop where
  und : Try.prog.underlying T = some (.slice e)
  info : Try.prog.info? e = some i0
  zero : i0.zero = some z
  hsize : i0.size = size
  hbytes : i0.bytes = bytes
  zs : z.cells.size = size
  pos : 0 < size
  small : bytes ≤ 1000

theorem gapp_nil {T e : TypeId} {z : Value} {size bytes : Nat} {i0 : TypeInfo} (E : Elt T e z size bytes i0) {w : World} {base n : Nat} {v : Value} {xs : List Value} (h : w.ownsRow base e size v n xs) (ty : TypeId) : (Builtin.append_ #[T, T] ty #[v, .slice none 0 0]).run Try.prog w = .ok v w := by
  have hs := E.hsize
  subst hs
  rcases h.2 with ⟨rfl, rfl⟩ | ⟨g, cap, cur, rfl, _, _, hnc, _⟩
  · simp [Builtin.append_, run_underlying E.und, sizeOf, typeInfo, E.info, Builtin.lenOf, Builtin.firstCells, loadCells, loadCellsFrom]
  · simp [Builtin.append_, run_underlying E.und, sizeOf, typeInfo, E.info, Builtin.lenOf, Builtin.firstCells, loadCells, loadCellsFrom, hnc, storeCells]

/-- 'append(T{}, row...)': a copy of one's own. -/
theorem step_copy {T e : TypeId} {z : Value} {size bytes : Nat} {i0 : TypeInfo} (E : Elt T e z size bytes i0) {w : World} {n c : Nat} {A : Option Addr} {xs : List Value} {ops : Array Oper} {rest : List Oper} {o : Oper} {x : Act} {Q : Exit → Act → World → Prop} (hgd : o.guard = none) (s t : Operand)
    (ho : o.op = .call { callee := .builtin .append, args := #[s, t], argTypes := #[T, T] }) {k : Nat} (hs : x.eval s = .slice (some ⟨k, 0, none⟩) 0 0) (hk : k = w.heap.size) (ht : x.eval t = .slice A n c)
    (hx : xs.length = n * size) (hc : Src w A n c xs) (h1 : ∀ u ∈ xs, u.oneCell' = true) (hn : n ≤ 1000000)
    (hK : ∀ A' c' w2, w2.ownsRow w.heap.size e size (.slice A' n c') n xs → Below w.heap.size w w2 → A' ≠ none → wpList Try.prog ops Q rest (x.put o.dst (.slice A' n c')) w2) :
    wpList Try.prog ops Q (o :: rest) x (w.alloc (.cells #[] e)) := by
  subst hk
  have hown : (w.alloc (.cells #[] e)).ownsRow w.heap.size e size (.slice (some ⟨w.heap.size, 0, none⟩) 0 0) 0 [] := World.ownsRow_made w #[] 0 (Nat.le_refl _) (by simp [maxLen]) (by simp)
  have hb0 : Below w.heap.size w (w.alloc (.cells #[] e)) := (Below.refl _ _).alloc (Nat.le_refl _) _
  rcases hc with ⟨rfl, rfl, rfl⟩ | ⟨ad, rfl, hc⟩
  · have hx0 : xs = [] := List.eq_nil_of_length_eq_zero (by simpa using hx)
    subst hx0
    refine wpList_plain hgd fun K hK' => ?_
    unfold Oper.wp execOp
    simp only [ho, resolve, invoke, builtin, Sem.run_bind, Sem.run_pure, Result.andThen_ok, List.map_toArray, List.map_cons, List.map_nil, hs, ht, gapp_nil E hown]
    exact hK' _ _ (hK _ _ _ hown hb0 (by simp))
  · have hbytes : n * bytes ≤ 1000000 * 1000 := Nat.mul_le_mul hn E.small
    refine wpList_append_own _ hgd s t T ho w.heap.size e i0 z size bytes E.und E.info E.zero E.hsize E.hbytes E.zs E.pos _ 0 [] hs hown ad n c xs ht hx (fun j u hj => ?_) h1 (by simp only [maxLen]; omega) (by rw [Nat.zero_add]; omega) (by simp) ?_
    · have hcell := hc j u hj
      exact (World.cell?_of_block (w := w) (a := ad.add j) (hb0.block _ (World.block_lt_of_cell? w _ hcell))).trans hcell
    · intro v' w2 ho2 hg hnil
      rw [Nat.zero_add, List.nil_append] at ho2
      have hnn : v' ≠ .slice none 0 0 := fun e => by
        have := (hnil.1 e).1
        injection this with h; cases h
      obtain ⟨A', c', rfl⟩ := own_form ho2
      refine hK A' c' w2 ho2 (hb0.grown hg (by simp) (fun k hk => by have e : w.heap.size = k := Option.some.inj hk; omega)) ?_
      rintro rfl
      rcases ho2.2 with ⟨h, _⟩ | ⟨g', cap', cur, h, _⟩
      · exact hnn h
      · injection h with h; cases h

/-- 'append(v, x)', x just laid, v of one's own at base. -/
theorem step_push {T e : TypeId} {z : Value} {size bytes : Nat} {i0 : TypeInfo} (E : Elt T e z size bytes i0) {w : World} {base n : Nat} {v : Value} {xs : List Value} {ops : Array Oper} {rest : List Oper} {o : Oper} {x : Act} {Q : Exit → Act → World → Prop} (hgd : o.guard = none) (s t : Operand)
    (ho : o.op = .call { callee := .builtin .append, args := #[s, t], argTypes := #[T, T] }) (hown : w.ownsRow base e size v n xs) (hs : x.eval s = v) (news : Array Value) {k : Nat} (ht : x.eval t = .slice (some ⟨k, 0, none⟩) 1 1) (hk : k = w.heap.size)
    (hl : news.size = size) (h1 : ∀ u ∈ news.toList, u.oneCell' = true) (hn : n ≤ 1000000) (hbase : base ≤ w.heap.size)
    (hK : ∀ A' c' w2, w2.ownsRow base e size (.slice A' (n + 1) c') (n + 1) (xs ++ news.toList) → (w.alloc (.cells news e)).grownBy w2 v.ownBlock → wpList Try.prog ops Q rest (x.put o.dst (.slice A' (n + 1) c')) w2) :
    wpList Try.prog ops Q (o :: rest) x (w.alloc (.cells news e)) := by
  subst hk
  have hbytes : (n + 1) * bytes ≤ 1000001 * 1000 := Nat.mul_le_mul (by omega) E.small
  refine wpList_append_own _ hgd s t T ho base e i0 z size bytes E.und E.info E.zero E.hsize E.hbytes E.zs E.pos v n xs hs (hown.alloc _) ⟨w.heap.size, 0, none⟩ 1 1 news.toList ht (by simp [hl]) (fun j u hj => ?_) h1 (by simp only [maxLen]; omega) (by omega) (by simp; omega) ?_
  · rw [Addr.add_lit, Nat.zero_add, cell_of_block (heap_alloc_new _ _)]
    simpa using hj
  · intro v' w2 ho2 hg _
    obtain ⟨A', c', rfl⟩ := own_form ho2
    exact hK A' c' w2 ho2 hg
/-- The same inside a region that draws its order: x lies in block k. -/
theorem reg_push {T e : TypeId} {z : Value} {size bytes : Nat} {i0 : TypeInfo} (E : Elt T e z size bytes i0) {w : World} {base n : Nat} {v : Value} {xs : List Value} {ops : Array Oper} {o : Oper} {x : Act} {K : Act → World → Prop} {Q : Exit → Act → World → Prop} {Z : Prop} (hgd : o.guard = none) (s t : Operand)
    (ho : o.op = .call { callee := .builtin .append, args := #[s, t], argTypes := #[T, T] }) (hown : w.ownsRow base e size v n xs) (hs : x.eval s = v) (news : Array Value) {k : Nat} (ht : x.eval t = .slice (some ⟨k, 0, none⟩) 1 1) (hk : w.heap[k]? = some (.cells news e))
    (hl : news.size = size) (h1 : ∀ u ∈ news.toList, u.oneCell' = true) (hn : n ≤ 1000000) (hbase : base ≤ w.heap.size)
    (hK : ∀ A' c' w2, w2.ownsRow base e size (.slice A' (n + 1) c') (n + 1) (xs ++ news.toList) → w.grownBy w2 v.ownBlock → K (x.put o.dst (.slice A' (n + 1) c')) w2) :
    if Region.wanted o (yielded ops x.tmps) = true then Oper.wp Try.prog o x w K Q else Z := by
  have hw : Region.wanted o (yielded ops x.tmps) = true := by simp [Region.wanted, hgd]
  rw [if_pos hw]
  have hbytes : (n + 1) * bytes ≤ 1000001 * 1000 := Nat.mul_le_mul (by omega) E.small
  refine wp_append_own w s t T ho base e i0 z size bytes E.und E.info E.zero E.hsize E.hbytes E.zs E.pos v n xs hs hown ⟨k, 0, none⟩ 1 1 news.toList ht (by simp [hl]) (fun j u hj => ?_) h1 (by simp only [maxLen]; omega) (by omega) hbase ?_
  · rw [Addr.add_lit, Nat.zero_add, cell_of_block hk]
    simpa using hj
  · intro v' w2 ho2 hg _
    obtain ⟨A', c', rfl⟩ := own_form ho2
    exact hK A' c' w2 ho2 hg

/-! ### What lies in blocks of some types turns -/
/-- Behind it: what lay below base, and what lay in blocks of other types than T's, lies as it did. -/
structure Frm (T : TypeId → Prop) (base : Nat) (w w' : World) : Prop where
  low : Below base w w'
  keep : ∀ (k : Nat) (cs : Array Value) (t : TypeId) (fr : Nat × Nat), w.heap[k]? = some (.cells cs t fr) → ¬ T t → w'.heap[k]? = some (.cells cs t fr)
theorem Frm.refl (T : TypeId → Prop) (base : Nat) (w : World) : Frm T base w w := ⟨Below.refl _ _, fun _ _ _ _ h _ => h⟩
theorem Frm.trans {T : TypeId → Prop} {base : Nat} {a b c : World} (h : Frm T base a b) (k : Frm T base b c) : Frm T base a c := ⟨h.low.trans k.low, fun i cs t fr hi ht => k.keep i cs t fr (h.keep i cs t fr hi ht) ht⟩
theorem Frm.mono {T U : TypeId → Prop} {base : Nat} {w w' : World} (h : Frm T base w w') (hTU : ∀ t, T t → U t) : Frm U base w w' := ⟨h.low, fun i cs t fr hi ht => h.keep i cs t fr hi (fun hT => ht (hTU t hT))⟩
theorem Frm.down {T : TypeId → Prop} {base base' : Nat} {w w' : World} (h : Frm T base w w') (hb : base' ≤ base) : Frm T base' w w' := ⟨h.low.mono hb, h.keep⟩
theorem Frm.ofBelow {T : TypeId → Prop} {base : Nat} {w w' : World} (h : Below w.heap.size w w') (hb : base ≤ w.heap.size) : Frm T base w w' := ⟨h.mono hb, fun i cs t fr hi _ => (h.block i (lt_of_block hi)).trans hi⟩
theorem Frm.ofBelow' {T : TypeId → Prop} {base k : Nat} {w w' : World} (h : Below k w w') (hk : w.heap.size ≤ k) (hb : base ≤ k) : Frm T base w w' := ⟨h.mono hb, fun i cs t fr hi _ => (h.block i (Nat.lt_of_lt_of_le (lt_of_block hi) hk)).trans hi⟩
theorem Frm.alloc {T : TypeId → Prop} {base : Nat} {w w' : World} (h : Frm T base w w') (hb : base ≤ w.heap.size) (o : Obj) : Frm T base w (w'.alloc o) := h.trans (Frm.ofBelow ((Below.refl _ _).alloc (Nat.le_refl _) o) (Nat.le_trans hb h.low.size))
theorem Frm.drewN {T : TypeId → Prop} {base : Nat} {w w' : World} (h : Frm T base w w') (n : Nat) : Frm T base w (w'.drewN n) := ⟨below_drewN h.low n, h.keep⟩
theorem Frm.drew {T : TypeId → Prop} {base : Nat} {w w' : World} (h : Frm T base w w') : Frm T base w w'.drew := ⟨below_drewN h.low 1, h.keep⟩
theorem Frm.grown {T : TypeId → Prop} {base : Nat} {w w' : World} {row : Option Nat} (h : w.grownBy w' row) (hlt : ∀ k, row = some k → base ≤ k) (hT : ∀ k, row = some k → ∃ cs t fr, w.heap[k]? = some (.cells cs t fr) ∧ T t) (hb : base ≤ w.heap.size) : Frm T base w w' := by
  refine ⟨(Below.refl _ _).grown h hb hlt, fun i cs t fr hi ht => (h.block i (lt_of_block hi) (fun e => ?_)).trans hi⟩
  obtain ⟨cs', t', fr', h1, h2⟩ := hT i e.symm
  rw [hi] at h1
  injection h1 with h1
  injection h1 with _ h1
  exact ht (h1 ▸ h2)
/-- A cell of a block of one of those types is written. -/
theorem Frm.setCell {T : TypeId → Prop} {base : Nat} {w : World} {B : Nat} {cs : Array Value} {t : TypeId} {fr : Nat × Nat} (hB : w.heap[B]? = some (.cells cs t fr)) (hT : T t) (hlo : base ≤ B) (i : Nat) (v : Value) : Frm T base w (w.setCell ⟨B, i, none⟩ v) := by
  refine ⟨(Below.refl _ _).setCell (p := ⟨B, i, none⟩) hlo v, fun k cs' t' fr' hk ht => ?_⟩
  refine (Below.heap_setCell _ _ _ _ ?_).trans hk
  rintro rfl
  rw [hB] at hk
  injection hk with hk
  injection hk with _ hk
  exact ht (hk ▸ hT)
/-- What is owned lies in a block of its element's type. -/
theorem own_at {w : World} {base : Nat} {e : TypeId} {size : Nat} {v : Value} {n : Nat} {xs : List Value} (h : w.ownsRow base e size v n xs) {k : Nat} (hk : v.ownBlock = some k) : base ≤ k ∧ ∃ cs, w.heap[k]? = some (.cells cs e) := by
  rcases h.2 with ⟨rfl, _⟩ | ⟨g, cap, cur, rfl, hb, hg, _⟩
  · cases hk
  · cases hk
    exact ⟨hb, cur, hg⟩
theorem Frm.owns {T : TypeId → Prop} {base base' : Nat} {w w' : World} (h : Frm T base' w w') {e : TypeId} {size : Nat} {v : Value} {n : Nat} {xs : List Value} (ho : w.ownsRow base e size v n xs) (ht : ¬ T e) : w'.ownsRow base e size v n xs :=
  owns_same ho fun k hk => by
    obtain ⟨_, cs, hc⟩ := own_at ho hk
    rw [hc]
    exact h.keep k cs e _ hc ht
theorem Frm.blk {T : TypeId → Prop} {base : Nat} {w w' : World} (h : Frm T base w w') {B : Nat} {cs : Array Value} {t : TypeId} {fr : Nat × Nat} (hB : w.heap[B]? = some (.cells cs t fr)) (ht : ¬ T t) : w'.heap[B]? = some (.cells cs t fr) := h.keep B cs t fr hB ht
theorem Frm.grownOwn {T : TypeId → Prop} {base : Nat} {w w' : World} {e : TypeId} {size n : Nat} {v : Value} {xs : List Value} (ho : w.ownsRow base e size v n xs) (hg : w.grownBy w' v.ownBlock) (hT : T e) (hb : base ≤ w.heap.size) : Frm T base w w' :=
  Frm.grown hg (fun k hk => (own_at ho hk).1) (fun k hk => by obtain ⟨_, cs, hc⟩ := own_at ho hk; exact ⟨cs, e, _, hc, hT⟩) hb
end Go.Proofs.Ytigcmbakglghpaa
