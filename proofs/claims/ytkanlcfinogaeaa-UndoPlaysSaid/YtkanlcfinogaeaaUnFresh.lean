/-
  A write in a row of values that is neither log's.
-/
import Derived.Test.YtkanlcfinogaeaaUnPoke
namespace Go.Proofs.Ytkanlcfinogaeaa
open Go.RowKit
set_option linter.unusedVariables false
set_option linter.unusedSimpArgs false

/-- Block f, of values, turns and no other. -/
structure Poke (f : Nat) (w w' : World) : Prop where
  low : Below f w w'
  but : ∀ b, b ≠ f → b < w.heap.size → w'.heap[b]? = w.heap[b]?
  typ : ∀ cs fr, w.heap[f]? = some (.cells cs 42 fr) → ∃ cs', w'.heap[f]? = some (.cells cs' 42 fr)
theorem Poke.refl (f : Nat) (w : World) : Poke f w w := ⟨Below.refl _ _, fun _ _ _ => rfl, fun cs _ h => ⟨cs, h⟩⟩
theorem Poke.trans {f : Nat} {a b c : World} (h : Poke f a b) (k : Poke f b c) : Poke f a c := by
  refine ⟨h.low.trans k.low, fun i hi hl => ?_, fun cs fr hc => ?_⟩
  · have h1 := h.but i hi hl
    have hlb : i < b.heap.size := by
      have h2 : a.heap[i]? = some a.heap[i] := Array.getElem?_eq_getElem hl
      rw [h2] at h1
      exact lt_of_block h1
    exact (k.but i hi hlb).trans h1
  · obtain ⟨cs', h1⟩ := h.typ cs fr hc
    exact k.typ cs' fr h1
theorem Poke.drewN {f : Nat} {w w' : World} (h : Poke f w w') (n : Nat) : Poke f w (w'.drewN n) := ⟨below_drewN h.low n, h.but, h.typ⟩
theorem Poke.set {f : Nat} {w : World} {cs : Array Value} {fr : Nat × Nat} (hf : w.heap[f]? = some (.cells cs 42 fr)) (i : Nat) (v : Value) : Poke f w (w.setCell ⟨f, i, none⟩ v) := by
  refine ⟨(Below.refl _ _).setCell (p := ⟨f, i, none⟩) (Nat.le_refl _) _, fun b hb _ => Below.heap_setCell _ _ _ _ hb, fun cs' fr' h => ?_⟩
  exact ⟨_, blk_set h i v⟩
theorem Poke.frm {f base : Nat} {w w' : World} (h : Poke f w w') {cs : Array Value} {fr : Nat × Nat} (hf : w.heap[f]? = some (.cells cs 42 fr)) (hb : base ≤ f) : Frm (fun t => t = 42) base w w' := by
  refine ⟨h.low.mono hb, fun k cs' t fr' hk ht => ?_⟩
  have hne : k ≠ f := fun e => by
    subst e
    rw [hf] at hk
    injection hk with hk
    injection hk with a b c
    exact ht b.symm
  exact (h.but k hne (lt_of_block hk)).trans hk
/-- An image's rows are not block f. -/
def Avoid (f : Nat) (x : Img) : Prop := (∀ ad : Addr, x.oa = some ad → 0 < x.e.old.length → ad.block ≠ f) ∧ ∀ ad : Addr, x.na = some ad → 0 < x.e.new.length → ad.block ≠ f
theorem RdV.poke {base f : Nat} {w w' : World} {A : Option Addr} {n c : Nat} {vs : List Val} (h : RdV base w (.slice A n c) vs) (hp : Poke f w w') (ha : ∀ ad : Addr, A = some ad → 0 < vs.length → ad.block ≠ f) : RdV base w' (.slice A n c) vs := by
  obtain ⟨A', c', e, hs, ht⟩ := h
  injection e with e1 e2 e3
  subst e1 e2 e3
  refine ⟨A, c, rfl, ?_, fun ad hA hl => ?_⟩
  · rcases hs with hs | ⟨ad, rfl, hc⟩
    · exact .inl hs
    · refine .inr ⟨ad, rfl, fun j u hj => ?_⟩
      have hl : 0 < vs.length := by
        have := (List.getElem?_eq_some_iff.1 hj).1
        rw [vcells_len] at this
        omega
      have hlt := World.block_lt_of_cell? w _ (hc j u hj)
      refine (World.cell?_of_block (w := w) (a := ad.add j) ?_).trans (hc j u hj)
      rw [add_block] at hlt ⊢
      exact hp.but _ (ha ad rfl hl) hlt
  · rcases ht ad hA hl with h1 | ⟨cs, fr, h1⟩
    · exact .inl h1
    · exact .inr ⟨cs, fr, (hp.but _ (ha ad hA hl) (lt_of_block h1)).trans h1⟩
theorem Img.Rd.poke {base f : Nat} {w w' : World} {x : Img} (h : x.Rd base w) (hp : Poke f w w') (ha : Avoid f x) : x.Rd base w' := ⟨RdV.poke h.1 hp ha.1, RdV.poke h.2 hp ha.2⟩
/-- The rows of what reads now lie below what is made later. -/
theorem Avoid.later {base f : Nat} {w : World} {x : Img} (h : x.Rd base w) (hf : w.heap.size ≤ f) : Avoid f x := by
  obtain ⟨h1, h2⟩ := h.src
  refine ⟨fun ad ha hl => ?_, fun ad ha hl => ?_⟩
  · rcases h1 with ⟨e, _, _⟩ | ⟨ad', e, hc⟩
    · rw [ha] at e; cases e
    · rw [ha] at e
      injection e with e
      subst e
      obtain ⟨p, hp⟩ : ∃ p, x.e.old[0]? = some p := ⟨_, List.getElem?_eq_getElem hl⟩
      have := World.block_lt_of_cell? w _ (hc _ _ (vcells_at _ _ _ hp).1)
      rw [add_block] at this
      omega
  · rcases h2 with ⟨e, _, _⟩ | ⟨ad', e, hc⟩
    · rw [ha] at e; cases e
    · rw [ha] at e
      injection e with e
      subst e
      obtain ⟨p, hp⟩ : ∃ p, x.e.new[0]? = some p := ⟨_, List.getElem?_eq_getElem hl⟩
      have := World.block_lt_of_cell? w _ (hc _ _ (vcells_at _ _ _ hp).1)
      rw [add_block] at this
      omega
theorem Avoid.hi {f k : Nat} {x : Img} (h : Hi k x) (hf : f < k) : Avoid f x :=
  ⟨fun ad ha _ e => by have := h.1 ad ha; omega, fun ad ha _ e => by have := h.2 ad ha; omega⟩
theorem URep.pokeV {base l f : Nat} {S : ULS} {I : List Img} {ev sv : Value} {w w' : World} (R : URep base l S I ev sv w) (hp : Poke f w w') {cs : Array Value} {fr : Nat × Nat} (hf : w.heap[f]? = some (.cells cs 42 fr)) (hb : base ≤ f) (ha : ∀ x ∈ I, Avoid f x) : URep base l S I ev sv w' := by
  have hF := hp.frm hf hb
  exact ⟨R.lo, hF.blk R.blk (by decide), hF.owns R.eown (by decide), R.ent, fun x hx => (R.rd x hx).poke hp (ha x hx), hF.owns R.sown (by decide)⟩
theorem RRep.pokeV {base r f : Nat} {S : RLS} {J : List ItI} {lv : Value} {w w' : World} (R : RRep base r S J lv w) (hp : Poke f w w') {cs : Array Value} {fr : Nat × Nat} (hf : w.heap[f]? = some (.cells cs 42 fr)) (hb : base ≤ f) (ha : ∀ y ∈ J, Avoid f y.x) : RRep base r S J lv w' := by
  have hF := hp.frm hf hb
  exact ⟨R.lo, hF.blk R.blk (by decide), hF.owns R.lown (by decide), R.abs, fun y hy => (R.rd y hy).poke hp (ha y hy)⟩
end Go.Proofs.Ytkanlcfinogaeaa
