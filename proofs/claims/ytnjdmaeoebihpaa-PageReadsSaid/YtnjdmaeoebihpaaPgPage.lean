/-
  The document's page.
-/
import Derived.Test.YtnjdmaeoebihpaaPgNum
namespace Go.Proofs.Ytnjdmaeoebihpaa
open Go.RowKit Go.Proofs.YtnjdmaeoebihpaaW.PrintWords Go.Proofs.YtnjdmaeoebihpaaW.PrintLast Go.Proofs.YtnjdmaeoebihpaaW.PrintMore
set_option linter.unusedVariables false
set_option linter.unusedSimpArgs false

theorem number_two (n : Nat) (hn : n ≤ 1000000) (w : World) :
    Calls Try.prog 37 #[.int .i64 n, .int .i64 2] w fun e w' => e = .returned (.slice (some ⟨w.heap.size, 0, none⟩) 2 2) ∧ Row8 w' w.heap.size w.heap.size (by2 n) ∧ Below w.heap.size w w' := by
  have h := number_any n 2 hn (by omega) w
  rw [numB_two] at h
  exact h
theorem number_four (n : Nat) (hn : n < 65536) (w : World) :
    Calls Try.prog 37 #[.int .i64 n, .int .i64 4] w fun e w' => e = .returned (.slice (some ⟨w.heap.size, 0, none⟩) 4 4) ∧ Row8 w' w.heap.size w.heap.size (by2 0 ++ by2 n) ∧ Below w.heap.size w w' := by
  have h := number_any n 4 (by omega) (by omega) w
  rw [numB_four n hn] at h
  exact h
/-- A page under way. -/
structure Pg (w1 wr : World) (base : Nat) (A : Option Addr) (n c : Nat) (out : List UInt8) : Prop where
  own : OwnB wr base A c out
  low : Below base w1 wr
  len : out.length = n
/-- .. and the tail. -/
def Tl (wr : World) (base : Nat) (A : Option Addr) (n c : Nat) (tg : Nat) (tl : List UInt8) : Prop := Row8 wr base tg tl ∧ some tg ≠ (Value.slice A n c).ownBlock
section
variable {w1 wr w2 w3 : World} {base n c m c' : Nat} {A A' : Option Addr} {out ys : List UInt8}
theorem Pg.size (h : Pg w1 wr base A n c out) (hb : base ≤ w1.heap.size) : base ≤ wr.heap.size := Nat.le_trans hb h.low.size
theorem Pg.next (h : Pg w1 wr base A n c out) (hb : base ≤ w1.heap.size) (h2 : Below wr.heap.size wr w2) : Pg w1 w2 base A n c out :=
  ⟨owns_below h.own h2 (Nat.le_refl _), h.low.trans (h2.mono (h.size hb)), h.len⟩
theorem Pg.app (h : Pg w1 w2 base A n c out) (hb : base ≤ w1.heap.size) (ho : OwnB w3 base A' c' (out ++ ys)) (hm : ys.length = m) (hg : w2.grownBy w3 (Value.slice A n c).ownBlock) : Pg w1 w3 base A' (n + m) c' (out ++ ys) := by
  refine ⟨ho, h.low.grown hg (h.size hb) (fun k hk => ?_), by rw [List.length_append, h.len, hm]⟩
  have := h.own.lt k (by rw [h.len]; exact hk)
  exact this.1
theorem Tl.app {tg : Nat} {tl : List UInt8} (h : Tl w2 base A n c tg tl) (hg : w2.grownBy w3 (Value.slice A n c).ownBlock) {n' : Nat} (hor : (Value.slice A' n' c').ownBlock = (Value.slice A n c).ownBlock ∨ (Value.slice A' n' c').ownBlock = some w2.heap.size) : Tl w3 base A' n' c' tg tl := by
  refine ⟨h.1.grown hg h.2, ?_⟩
  rcases hor with e | e
  · rw [e]; exact h.2
  · rw [e]
    obtain ⟨_, cs, fr, hh, _⟩ := h.1
    have := lt_of_block hh
    intro e2
    injection e2 with e2
    omega
theorem Tl.next {tg : Nat} {tl : List UInt8} (h : Tl wr base A n c tg tl) (h2 : Below wr.heap.size wr w2) : Tl w2 base A n c tg tl := ⟨h.1.below h2 (Nat.le_refl _), h.2⟩
end
/-! ### A text's bytes, and the tail behind them -/
theorem run_storeCells_mark (P : Program) (g o : Nat) (t : TypeId) (fz : Nat × Nat) : ∀ (vs : List Value) (i : Nat) (cur : Array Value) (w : World), w.heap[g]? = some (.cells cur t fz) → cur.size ≤ fz.1 → o + i + vs.length ≤ cur.size → (∀ v ∈ vs, v.oneCell' = true) →
    (storeCells ⟨g, o, none⟩ vs i).run P w = .ok () (w.setRow g (cur.toList.take (o + i) ++ vs ++ cur.toList.drop (o + i + vs.length)).toArray)
  | [], i, cur, w, hg, _, _, _ => by
    simp only [storeCells, List.append_nil, List.length_nil, Nat.add_zero, List.take_append_drop, Array.toArray_toList]
    rw [setRow_self w g cur t fz hg]
    rfl
  | v :: rest, i, cur, w, hg, hfz, hl, h1 => by
    have hi : o + i < cur.size := by simp at hl; omega
    have hadd : (⟨g, o, none⟩ : Addr).add i = ⟨g, o + i, none⟩ := by unfold Addr.add; split <;> simp_all
    have hcell : w.cell? ⟨g, o + i, none⟩ = some cur[o + i] := by simp [World.cell?, hg, hi]
    have hfro : w.frozen? ⟨g, o + i, none⟩ = false := by
      obtain ⟨lo, hi'⟩ := fz
      simp only [World.frozen?, hg, Bool.and_eq_false_iff, decide_eq_false_iff_not]
      left
      simp only at hfz
      omega
    have hst : (store ((⟨g, o, none⟩ : Addr).add i) v).run P w = .ok () (w.setRow g (cur.setIfInBounds (o + i) v)) := by
      rw [hadd, run_store P w _ v _ (h1 v (by simp)), hcell]
      simp [hfro, setCell_eq_setRow w g (o + i) cur t fz v hg]
    have ih := run_storeCells_mark P g o t fz rest (i + 1) (cur.setIfInBounds (o + i) v) (w.setRow g (cur.setIfInBounds (o + i) v)) (setRow_heap w g cur _ t _ hg) (by simpa using hfz) (by simp at hl ⊢; omega) (fun x hx => h1 x (by simp [hx]))
    simp only [storeCells, Sem.run_bind, hst, Result.andThen_ok, ih, setRow_setRow]
    congr 3
    have e := list_seg_step cur.toList (o + i) v rest (by simp at hl ⊢; omega)
    simpa [Array.toList_setIfInBounds, Nat.add_assoc] using e
/-- What a conversion has laid: bytes, then room, none of it frozen. -/
structure Fresh (w : World) (g : Nat) (cap : Nat) (xs : List UInt8) : Prop where
  blk : ∃ cur fz, w.heap[g]? = some (.cells cur 5 fz) ∧ cur.size ≤ fz.1 ∧ cur.size = cap ∧ cur.toList.take xs.length = bc xs
  le : xs.length ≤ cap
  small : cap ≤ maxLen
theorem run_tail {w : World} {base g cap tg c2 : Nat} {xs ys : List UInt8} (h : Fresh w g cap xs) (hb : base ≤ g) (hy : Row8 w base tg ys) (hle : xs.length + ys.length ≤ 1000000) (hbw : base ≤ w.heap.size) (ty : TypeId) :
    ∃ g' c' w2, (Builtin.append_ #[39, 39] ty #[.slice (some ⟨g, 0, none⟩) xs.length cap, .slice (some ⟨tg, 0, none⟩) ys.length c2]).run Try.prog w = .ok (.slice (some ⟨g', 0, none⟩) (xs.length + ys.length) c') w2 ∧
      Row8 w2 base g' (xs ++ ys) ∧ w.grownBy w2 (some g) ∧ (g' = g ∨ g' = w.heap.size) := by
  obtain ⟨i, hi, hz, hs, hby⟩ := info_B'
  obtain ⟨cur, fz, hg, hfz, hcs, ht⟩ := h.blk
  have hle2 := h.le
  have hsm := h.small
  have hnews : ∀ j u, (bc ys)[j]? = some u → w.cell? ((⟨tg, 0, none⟩ : Addr).add j) = some u := by
    rcases hy.src c2 with ⟨h, _⟩ | ⟨ad, h, hc⟩
    · cases h
    · injection h with h
      subst h
      exact hc
  by_cases hroom : xs.length + ys.length ≤ cap
  · have hf := run_firstCells_some (P := Try.prog) w i.size ys.length ⟨tg, 0, none⟩ ys.length c2 (bc ys) (by rw [hs, Nat.mul_one, bc_len]) hnews
    have hst := run_storeCells_mark Try.prog g xs.length 5 fz (bc ys) 0 cur w hg hfz (by rw [bc_len]; omega) (bc_one ys)
    simp only [Nat.add_zero] at hst
    refine ⟨g, cap, w.setRow g (cur.toList.take xs.length ++ bc ys ++ cur.toList.drop (xs.length + (bc ys).length)).toArray, ?_, ⟨hb, _, fz, setRow_heap w g cur _ _ _ hg, ?_⟩, ⟨rfl, rfl, rfl, by simp, fun k _ hk => setRow_other w g k _ (fun e => hk (by rw [e]))⟩, .inl rfl⟩
    · rw [hs] at hf
      simp [Builtin.append_, run_underlying und_B, sizeOf, typeInfo, hi, Builtin.lenOf, hroom, hs, hf, Addr.add_lit, hst]
    · rw [ht, bc_append, List.append_assoc, ← List.append_assoc]
      have e : (xs ++ ys).length = (bc xs ++ bc ys).length := by simp [bc]
      rw [e]
      exact List.take_left
  · have hm : (maxLen : Nat) = 9223372036854775807 := rfl
    have holds : ∀ j u, (bc xs)[j]? = some u → w.cell? ((⟨g, 0, none⟩ : Addr).add j) = some u := by
      intro j u hj
      rw [Addr.add_lit, Nat.zero_add, cell_of_block hg, ← Array.getElem?_toList]
      rw [← ht, List.getElem?_take] at hj
      split at hj
      · exact hj
      · cases hj
    have hr := run_append_grow (P := Try.prog) w 39 ty 5 i (.int .u8 0) und_B hi hz ⟨g, 0, none⟩ xs.length cap (bc xs) (by rw [hs, Nat.mul_one, bc_len]) holds ⟨tg, 0, none⟩ ys.length c2 (bc ys) (by rw [hs, Nat.mul_one, bc_len]) hnews (by omega) (by omega) (growslice_fits (by omega) (by rw [hby]; omega))
    refine ⟨_, _, _, hr, ⟨hbw, _, _, heap_alloc_new w.drew _, ?_⟩, ⟨rfl, rfl, rfl, by simp, fun k hk _ => heap_alloc_old w.drew _ hk⟩, .inr rfl⟩
    simp only [Array.toList_append, List.append_assoc]
    rw [← List.append_assoc, bc_append]
    have e : (xs ++ ys).length = (bc xs ++ bc ys).length := by simp [bc]
    rw [e]
    exact List.take_left
end Go.Proofs.Ytnjdmaeoebihpaa
