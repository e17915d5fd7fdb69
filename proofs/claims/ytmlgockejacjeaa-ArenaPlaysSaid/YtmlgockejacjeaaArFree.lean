/-
  Package arena: Free, Alloc.
-/
import Derived.Test.YtmlgockejacjeaaArOps
import Derived.Maps.AppendAt
namespace Go.Proofs.Ytmlgockejacjeaa
open Go.RowKit
set_option linter.unusedVariables false
set_option linter.unusedSimpArgs false

/-! ### What a store, an append leaves -/
theorem Chg.drewN {S : Nat → Prop} {w w' : World} (h : Chg S w w') (n : Nat) : Chg S w (w'.drewN n) := ⟨h.os, h.tape, h.output, h.size, h.block⟩
theorem owns_owns_ne {w : World} {base base' : Nat} {e e' : TypeId} {size size' : Nat} {v v' : Value} {n n' : Nat} {xs xs' : List Value} (h : w.ownsRow base e size v n xs) (h' : w.ownsRow base' e' size' v' n' xs') (hne : e ≠ e') : ∀ k, v.ownBlock = some k → v'.ownBlock ≠ some k := by
  intro k hk hk'
  rcases h.2 with ⟨rfl, _⟩ | ⟨g, cap, cur, rfl, _, hg, _⟩
  · simp [Value.ownBlock] at hk
  · simp [Value.ownBlock] at hk
    subst hk
    exact owns_ne h' hg hne hk'.symm
theorem ARep.blkOf {base a : Nat} {S : ArS} {pv fv : Value} {pbs : List (Option Nat)} {w : World} (R : ARep base a S pv fv pbs w) : ∀ k, AOwn a pv fv k → base ≤ k ∧ k < w.heap.size := AR.lt ⟨pv, fv, pbs, rfl, R⟩
theorem ARep.stay {base a : Nat} {S : ArS} {pv fv : Value} {pbs : List (Option Nat)} {w w' : World} (R : ARep base a S pv fv pbs w) (hk : ∀ k, k < w.heap.size → w'.heap[k]? = w.heap[k]?) : ARep base a S pv fv pbs w' := by
  refine ⟨R.lo, (hk a (lt_of_block R.blk)).trans R.blk, owns_same R.pown fun k h => hk k (R.pown.lt k h).2, owns_same R.fown fun k h => hk k (R.fown.lt k h).2, R.len, fun i b hb => ?_, R.gap⟩
  obtain ⟨l, h1, h2, h3⟩ := R.at_ i b hb
  exact ⟨l, h1, h2, (hk b (lt_of_block h3)).trans h3⟩
theorem ARep.alloc {base a : Nat} {S : ArS} {pv fv : Value} {pbs : List (Option Nat)} {w : World} (R : ARep base a S pv fv pbs w) (o : Obj) : ARep base a S pv fv pbs (w.alloc o) := R.stay fun k hk => Below.heap_alloc _ _ _ hk
theorem ARep.drewN {base a : Nat} {S : ArS} {pv fv : Value} {pbs : List (Option Nat)} {w : World} (R : ARep base a S pv fv pbs w) (n : Nat) : ARep base a S pv fv pbs (w.drewN n) := R.stay fun k hk => rfl
/-- No page is a block that the methods write. -/
theorem ARep.page_ne {base a : Nat} {S : ArS} {pv fv : Value} {pbs : List (Option Nat)} {w : World} (R : ARep base a S pv fv pbs w) {b : Nat} {c : Array Value} (hb : w.heap[b]? = some (Obj.cells c 69)) : ¬ AOwn a pv fv b := by
  rintro (rfl | h | h)
  · have := R.blk; rw [hb] at this; injection this with this; injection this with _ this; exact absurd this (by decide)
  · exact owns_ne R.pown hb (by decide) h.symm
  · exact owns_ne R.fown hb (by decide) h.symm

/-- A page's bytes at a block. -/
def PageAt (w : World) : Option Nat → Option (List UInt8) → Prop
  | none, none => True
  | some b, some l => l.length = 1024 ∧ w.heap[b]? = some (Obj.cells (bcells l) 69)
  | _, _ => False

theorem ARep.stored {base a : Nat} {S : ArS} {g cap : Nat} {fv : Value} {pbs : List (Option Nat)} {w : World} (R : ARep base a S (.slice (some ⟨g, 0, none⟩) pbs.length cap) fv pbs w) {m : Nat} (hm : m < pbs.length) (o : Option Nat) (p : Option (List UInt8)) (hop : PageAt w o p) :
    ARep base a { S with pages := S.pages.set m p } (.slice (some ⟨g, 0, none⟩) (pbs.set m o).length cap) fv (pbs.set m o) (w.setCell ⟨g, m, none⟩ (ptrV o)) ∧ Grows (AOwn a (.slice (some ⟨g, 0, none⟩) pbs.length cap) fv) (AOwn a (.slice (some ⟨g, 0, none⟩) (pbs.set m o).length cap) fv) w (w.setCell ⟨g, m, none⟩ (ptrV o)) := by
  have np := owns_ne R.pown R.blk (by decide)
  have hag : a ≠ g := fun e => np (by rw [e]; rfl)
  have hnf := owns_owns_ne R.pown R.fown (by decide) g rfl
  have hpage : ∀ {b : Nat} {c : Array Value}, w.heap[b]? = some (Obj.cells c 69) → (w.setCell ⟨g, m, none⟩ (ptrV o)).heap[b]? = some (Obj.cells c 69) := fun {b c} h => blk_set_ne h _ _ (fun e => R.page_ne h (.inr (.inl (by rw [e]; rfl))))
  have hlen : (pbs.set m o).length = pbs.length := List.length_set
  have hst := (R.pown.stored m (ptrV o)).1
  rw [← List.map_set] at hst
  refine ⟨⟨R.lo, blk_set_ne (by rw [hlen]; exact R.blk) _ _ hag, by rw [hlen]; exact hst, owns_same R.fown fun k hk => Below.heap_setCell _ _ _ _ (by rintro rfl; exact hnf hk), by simp [R.len], fun i b hb => ?_, fun i hb => ?_⟩, ⟨Chg.setCell (Chg.refl _ _) (.inr (.inr (.inl rfl))) _ _, fun k h => .inl h⟩⟩
  · rw [List.getElem?_set] at hb
    by_cases e : m = i
    · subst e
      rw [if_pos rfl, if_pos hm] at hb
      injection hb with hb
      subst hb
      cases p with
      | none => exact hop.elim
      | some l => exact ⟨l, by rw [List.getElem?_set_self (by rw [← R.len]; exact hm)], hop.1, hpage hop.2⟩
    · rw [if_neg e] at hb
      obtain ⟨l, h1, h2, h3⟩ := R.at_ i b hb
      exact ⟨l, by rw [List.getElem?_set_ne e]; exact h1, h2, hpage h3⟩
  · rw [List.getElem?_set] at hb
    by_cases e : m = i
    · subst e
      rw [if_pos rfl, if_pos hm] at hb
      injection hb with hb
      subst hb
      cases p with
      | none => show (S.pages.set m none)[m]? = _; rw [List.getElem?_set_self (by rw [← R.len]; exact hm)]
      | some l => exact hop.elim
    · rw [if_neg e] at hb
      show (S.pages.set m p)[i]? = _
      rw [List.getElem?_set_ne e]; exact R.gap i hb

/-- The free numbers turn. -/
theorem ARep.fset {base a : Nat} {S : ArS} {pv fv : Value} {pbs : List (Option Nat)} {w w' : World} (R : ARep base a S pv fv pbs w) {fl : List Int} {v' : Value} (hown : w'.ownsRow base 3 1 v' fl.length (fl.map (Value.int .i64))) (hg : w.grownBy w' fv.ownBlock) (hat : v'.ownBlock = fv.ownBlock ∨ v'.ownBlock = none ∨ ∃ k, v'.ownBlock = some k ∧ w.heap.size ≤ k) :
    ARep base a { S with free := fl } pv v' pbs (w'.setCell ⟨a, 1, none⟩ v') ∧ Grows (AOwn a pv fv) (AOwn a pv v') w (w'.setCell ⟨a, 1, none⟩ v') := by
  have C : Chg (AOwn a pv fv) w w' := Chg.ofGrown hg fun i h => .inr (.inr h)
  have hblk : w'.heap[a]? = some (.cells #[pv, fv, .int .i64 S.quota] 67) := blk_grown R.blk hg (owns_ne R.fown R.blk (by decide))
  have hpown := R.pown.kept hg (by
    cases hp : pv.ownBlock with
    | none => exact .inl rfl
    | some k => right; intro e; exact owns_owns_ne R.pown R.fown (by decide) k hp e.symm)
  have na := owns_ne hown hblk (by decide)
  have nap := owns_ne hpown hblk (by decide)
  refine ⟨⟨R.lo, blk_set hblk 1 _, owns_same hpown fun k hk => Below.heap_setCell _ _ _ _ (by rintro rfl; exact nap hk.symm), owns_same hown fun k hk => Below.heap_setCell _ _ _ _ (by rintro rfl; exact na hk.symm), R.len, fun i b hb => ?_, R.gap⟩, ⟨Chg.setCell C (.inr (.inl rfl)) _ _, ?_⟩⟩
  · obtain ⟨l, h1, h2, h3⟩ := R.at_ i b hb
    have hn := R.page_ne h3
    exact ⟨l, h1, h2, blk_set_ne (blk_chg h3 C hn) _ _ (fun e => hn (.inl e))⟩
  · rintro k (rfl | h | h)
    · exact .inl (.inl rfl)
    · exact .inl (.inr (.inl h))
    · rcases hat with e | e | ⟨j, e, hj⟩
      · exact .inl (.inr (.inr (e ▸ h)))
      · rw [e] at h; cases h
      · rw [e] at h; cases h; exact .inr hj
/-- The pages' pointers turn: one more. -/
theorem ARep.pset {base a : Nat} {S : ArS} {pv fv : Value} {pbs : List (Option Nat)} {w w' : World} (R : ARep base a S pv fv pbs w) {l : List UInt8} {b : Nat} (hb : PageAt w (some b) (some l)) {v' : Value} (hown : w'.ownsRow base 68 1 v' (pbs ++ [some b]).length ((pbs ++ [some b]).map ptrV)) (hg : w.grownBy w' pv.ownBlock) (hat : v'.ownBlock = pv.ownBlock ∨ v'.ownBlock = none ∨ ∃ k, v'.ownBlock = some k ∧ w.heap.size ≤ k) :
    ARep base a { S with pages := S.pages ++ [some l] } v' fv (pbs ++ [some b]) (w'.setCell ⟨a, 0, none⟩ v') ∧ Grows (AOwn a pv fv) (AOwn a v' fv) w (w'.setCell ⟨a, 0, none⟩ v') := by
  have C : Chg (AOwn a pv fv) w w' := Chg.ofGrown hg fun i h => .inr (.inl h)
  have hblk : w'.heap[a]? = some (.cells #[pv, fv, .int .i64 S.quota] 67) := blk_grown R.blk hg (owns_ne R.pown R.blk (by decide))
  have hfown := R.fown.kept hg (by
    cases hp : fv.ownBlock with
    | none => exact .inl rfl
    | some k => right; intro e; exact owns_owns_ne R.pown R.fown (by decide) k e.symm hp)
  have na := owns_ne hown hblk (by decide)
  have naf := owns_ne hfown hblk (by decide)
  have hpage : ∀ {b : Nat} {c : Array Value}, w.heap[b]? = some (Obj.cells c 69) → (w'.setCell ⟨a, 0, none⟩ v').heap[b]? = some (Obj.cells c 69) := fun {b c} h3 => blk_set_ne (blk_chg h3 C (R.page_ne h3)) _ _ (fun e => R.page_ne h3 (.inl e))
  refine ⟨⟨R.lo, blk_set hblk 0 _, owns_same hown fun k hk => Below.heap_setCell _ _ _ _ (by rintro rfl; exact na hk.symm), owns_same hfown fun k hk => Below.heap_setCell _ _ _ _ (by rintro rfl; exact naf hk.symm), by simp [R.len], fun i b' hb' => ?_, fun i hb' => ?_⟩, ⟨Chg.setCell C (.inr (.inl rfl)) _ _, ?_⟩⟩
  · show ∃ l', (S.pages ++ [some l])[i]? = _ ∧ _
    rcases Nat.lt_or_ge i pbs.length with hi | hi
    · rw [List.getElem?_append_left hi] at hb'
      obtain ⟨l', h1, h2, h3⟩ := R.at_ i b' hb'
      exact ⟨l', by rw [List.getElem?_append_left (by rw [← R.len]; exact hi)]; exact h1, h2, hpage h3⟩
    · rw [List.getElem?_append_right hi] at hb'
      have hz : i - pbs.length = 0 := by
        have := (List.getElem?_eq_some_iff.1 hb').1
        simp at this; omega
      rw [hz] at hb'
      simp at hb'
      subst hb'
      exact ⟨l, by rw [List.getElem?_append_right (by rw [← R.len]; exact hi), ← R.len, hz]; rfl, hb.1, hpage hb.2⟩
  · show (S.pages ++ [some l])[i]? = _
    rcases Nat.lt_or_ge i pbs.length with hi | hi
    · rw [List.getElem?_append_left hi] at hb'
      rw [List.getElem?_append_left (by rw [← R.len]; exact hi)]; exact R.gap i hb'
    · rw [List.getElem?_append_right hi] at hb'
      have hz : i - pbs.length = 0 := by
        have := (List.getElem?_eq_some_iff.1 hb').1
        simp at this; omega
      rw [hz] at hb'
      simp at hb'
  · rintro k (rfl | h | h)
    · exact .inl (.inl rfl)
    · rcases hat with e | e | ⟨j, e, hj⟩
      · exact .inl (.inr (.inl (e ▸ h)))
      · rw [e] at h; cases h
      · rw [e] at h; cases h; exact .inr hj
    · exact .inl (.inr (.inr h))
end Go.Proofs.Ytmlgockejacjeaa
