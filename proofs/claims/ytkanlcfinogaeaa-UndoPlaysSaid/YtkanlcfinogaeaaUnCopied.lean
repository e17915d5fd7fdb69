/-
  What the law's two copies of an act's values leave.
-/
import Derived.Test.YtkanlcfinogaeaaUnFresh
namespace Go.Proofs.Ytkanlcfinogaeaa
open Go.RowKit
set_option linter.unusedVariables false
set_option linter.unusedSimpArgs false

theorem rowV (w : World) : (w.alloc (.cells #[] 42)).ownsRow w.heap.size 42 3 (.slice (some ⟨w.heap.size, 0, none⟩) 0 0) 0 [] := World.ownsRow_made w #[] 0 (Nat.le_refl _) (by simp [maxLen]) (by simp)
theorem rowV_at {w : World} {g base : Nat} (h : w.heap[g]? = some (.cells #[] 42)) (hb : base ≤ g) : w.ownsRow base 42 3 (.slice (some ⟨g, 0, none⟩) 0 0) 0 [] :=
  ⟨rfl, .inr ⟨g, 0, #[], rfl, hb, h, Nat.le_refl _, Nat.zero_le _, rfl, rfl⟩⟩
/-- A row that holds something stays where an empty one beside it grows. -/
theorem own_beside {w w4 : World} {base n c g : Nat} {A : Option Addr} {xs : List Value} (h : w.ownsRow base 42 3 (.slice A n c) n xs) (hn : 0 < n) (hg : w.heap[g]? = some (.cells #[] 42)) (hG : w.grownBy w4 (some g)) : w4.ownsRow base 42 3 (.slice A n c) n xs := by
  refine owns_same h fun k hk => ?_
  have hlt := (h.lt k hk).2
  refine hG.block k hlt (fun e => ?_)
  injection e with e
  subst e
  rcases h.2 with ⟨h1, h2⟩ | ⟨g', cap, cur, h1, hb, hgg, hnc, hcm, hsz, _⟩
  · omega
  · injection h1 with a b d
    subst a
    have hk' : g' = k := by injection hk
    subst hk'
    rw [hg] at hgg
    injection hgg with hgg
    injection hgg with a
    rw [← a] at hsz
    simp at hsz
    omega
theorem RdV.empty {base b : Nat} {w w3 : World} {A : Option Addr} {c : Nat} {vs : List Val} (h : w3.ownsRow b 42 3 (.slice A vs.length c) vs.length (vcells vs)) (h0 : vs.length = 0) : RdV base w (.slice A vs.length c) vs := by
  have hv : vs = [] := List.eq_nil_of_length_eq_zero h0
  subst hv
  refine ⟨A, c, rfl, ?_, fun ad _ hl => absurd hl (Nat.lt_irrefl _)⟩
  rcases h.2 with ⟨h1, h2⟩ | ⟨g', cap, cur, h1, _⟩
  · injection h1 with a b d
    exact .inl ⟨a, rfl, d⟩
  · injection h1 with a b d
    exact .inr ⟨_, a, fun j u hj => by simp [vcells] at hj⟩
structure Copied (wx wc : World) (x : Img) (A1 : Option Addr) (c1 : Nat) (A2 : Option Addr) (c2 : Nat) : Prop where
  low : Below wx.heap.size wx wc
  blk : wc.heap[wx.heap.size]? = some (.cells (Img.cells ⟨x.e, A1, c1, A2, c2⟩).toArray 35)
  rd : ∀ base, (⟨x.e, A1, c1, A2, c2⟩ : Img).Rd base wc
  own : 0 < x.e.old.length → wc.ownsRow (wx.heap.size + 1) 42 3 (.slice A1 x.e.old.length c1) x.e.old.length (vcells x.e.old)
theorem Copied.of {wx wa w3 w4 : World} {x : Img} {A1 A2 : Option Addr} {c1 c2 : Nat} (hwa : wa.heap.size = wx.heap.size + 1) (hxa : Below wx.heap.size wx wa) (hN : wa.heap[wx.heap.size]? = some (.cells x.cells.toArray 35))
    (hb4 : Below wa.heap.size wa w4) (hp1 : w3.ownsRow wa.heap.size 42 3 (.slice A1 x.e.old.length c1) x.e.old.length (vcells x.e.old)) (hk : 0 < x.e.old.length → w4.ownsRow wa.heap.size 42 3 (.slice A1 x.e.old.length c1) x.e.old.length (vcells x.e.old)) (hp2 : w4.ownsRow wa.heap.size 42 3 (.slice A2 x.e.new.length c2) x.e.new.length (vcells x.e.new)) :
    Copied wx ((w4.setCell ⟨wx.heap.size, 3, none⟩ (.slice A1 x.e.old.length c1)).setCell ⟨wx.heap.size, 4, none⟩ (.slice A2 x.e.new.length c2)) x A1 c1 A2 c2 := by
  have hN4 : w4.heap[wx.heap.size]? = some (.cells x.cells.toArray 35) := (hb4.block _ (by omega)).trans hN
  have hF : Frm (fun t => t = 35) 0 w4 ((w4.setCell ⟨wx.heap.size, 3, none⟩ (.slice A1 x.e.old.length c1)).setCell ⟨wx.heap.size, 4, none⟩ (.slice A2 x.e.new.length c2)) := (Frm.setCell (T := fun t => t = 35) hN4 rfl (Nat.zero_le _) _ _).trans (Frm.setCell (T := fun t => t = 35) (blk_set hN4 3 _) rfl (Nat.zero_le _) _ _)
  refine ⟨?_, blk_set (blk_set hN4 3 _) 4 _, fun base => ⟨?_, ?_⟩, fun hn => ?_⟩
  · exact (((hxa.trans (hb4.mono (by omega))).setCell (p := ⟨wx.heap.size, 3, none⟩) (Nat.le_refl _) _)).setCell (p := ⟨wx.heap.size, 4, none⟩) (Nat.le_refl _) _
  · rcases Nat.eq_zero_or_pos x.e.old.length with h0 | hn
    · exact RdV.empty hp1 h0
    · exact RdV.owned (hF.owns (hk hn) (by decide))
  · exact RdV.owned (hF.owns hp2 (by decide))
  · rw [← hwa]
    exact hF.owns (hk hn) (by decide)
end Go.Proofs.Ytkanlcfinogaeaa
