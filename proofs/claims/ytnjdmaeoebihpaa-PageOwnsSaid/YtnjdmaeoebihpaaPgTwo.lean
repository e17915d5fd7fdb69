/-
  Numbers laid on a page: two, four.
-/
import Derived.Test.YtnjdmaeoebihpaaPgRight
import Derived.Deep.RegionHeld
import Derived.Deep.RegionLaw
import Derived.StillTailTactics
namespace Go.Proofs.Ytnjdmaeoebihpaa
open Go.RowKit Go.Proofs.YtnjdmaeoebihpaaW.PrintWords Go.Proofs.YtnjdmaeoebihpaaW.PrintLast Go.Proofs.YtnjdmaeoebihpaaW.PrintMore
set_option linter.unusedVariables false
set_option linter.unusedSimpArgs false

/-- A page under way: o at ob, its bytes at bb. -/
structure Out (w : World) (ob bb : Nat) (cs : Array Value) (at_ : Nat) : Prop where
  hob : w.heap[ob]? = some (.cells #[.slice (some ⟨bb, 0, none⟩) 1024 1024, .int .i64 at_] 62)
  hbb : w.heap[bb]? = some (.cells cs 5)
  size : cs.size = 1024
  ne : bb ≠ ob
def put2 (cs : Array Value) (at_ : Nat) (n : Nat) : Array Value := (cs.setIfInBounds at_ (.int .u8 ((n : Int) / 256))).setIfInBounds (at_ + 1) (.int .u8 ((n : Int) % 256))
theorem put2_size (cs : Array Value) (at_ n : Nat) : (put2 cs at_ n).size = cs.size := by simp [put2]
theorem far1 {w : World} {ob bb i j : Nat} {u : Value} {v : Option Value} (hne : bb ≠ ob) (h : w.cell? ⟨ob, i, none⟩ = v) : (w.setCell ⟨bb, j, none⟩ u).drew.cell? ⟨ob, i, none⟩ = v := (World.cell?_setCell_far w ⟨bb, j, none⟩ ⟨ob, i, none⟩ u hne).trans h
theorem far2 {w : World} {ob bb i j k : Nat} {u t : Value} {v : Option Value} (hne : bb ≠ ob) (h : w.cell? ⟨ob, i, none⟩ = v) : ((w.setCell ⟨bb, j, none⟩ u).setCell ⟨bb, k, none⟩ t).drew.cell? ⟨ob, i, none⟩ = v := far1 hne (far1 hne h)
def TwoIs (N ob bb : Nat) (cs : Array Value) (at_ n : Nat) (w : World) (e : Ending) (w' : World) : Prop := e = .returned (.tuple #[]) ∧ Out w' ob bb (put2 cs at_ n) (at_ + 2) ∧ Below N w w'

set_option maxRecDepth 100000 in
set_option maxHeartbeats 2000000 in
theorem two_any {w : World} {N ob bb : Nat} {cs : Array Value} {at_ : Nat} (h : Out w ob bb cs at_) (hN : N ≤ bb) (hN2 : N ≤ ob) (hat : at_ + 2 ≤ 1024) (n : Nat) (hn : n < 65536) :
    Calls Try.prog 31 #[.pointer (some ⟨ob, 0, none⟩), .int .i64 n] w (TwoIs N ob bb cs at_ n w) := by
  have H := Lib.hid h
  obtain ⟨o0, o1, fo0, fo1, ol⟩ := two_of_block h.hob
  have hlt : at_ < cs.size := by have := h.size; omega
  have hlt2 : at_ + 1 < cs.size := by have := h.size; omega
  obtain ⟨u1, hu1⟩ : ∃ u, cs[at_]? = some u := ⟨_, Array.getElem?_eq_getElem hlt⟩
  obtain ⟨u2, hu2⟩ : ∃ u, cs[at_ + 1]? = some u := ⟨_, Array.getElem?_eq_getElem hlt2⟩
  have c1 : w.drew.cell? ⟨bb, at_, none⟩ = some u1 := (cell_of_block h.hbb at_).trans hu1
  have c2 : w.drew.cell? ⟨bb, at_ + 1, none⟩ = some u2 := (cell_of_block h.hbb (at_ + 1)).trans hu2
  have d1 : w.drew.frozen? ⟨bb, at_, none⟩ = false := free_of_block h.hbb at_
  have d2 : w.drew.frozen? ⟨bb, at_ + 1, none⟩ = false := free_of_block h.hbb (at_ + 1)
  have c2' : (w.setCell ⟨bb, at_, none⟩ (.int .u8 ((n : Int) / 256))).drew.cell? ⟨bb, at_ + 1, none⟩ = some u2 := (World.cell?_setCell_other w ⟨bb, at_, none⟩ ⟨bb, at_ + 1, none⟩ _ (fun e => by injection e with _ e _; omega)).trans c2
  have d2' : (w.setCell ⟨bb, at_, none⟩ (.int .u8 ((n : Int) / 256))).drew.frozen? ⟨bb, at_ + 1, none⟩ = false := free_of_block (blk_set h.hbb at_ _) (at_ + 1)
  have hS0 : w.drew.cell? ⟨ob, 0, none⟩ = some (.slice (some ⟨bb, 0, none⟩) 1024 1024) ∧ w.drew.cell? ⟨ob, 1, none⟩ = some (.int .i64 at_) := ⟨o0, o1⟩
  clear hu1 hu2 h hlt hlt2
  go_enter Try.func31, Try.ntmps31
  go_wp2_with fail
  go_region_held (fun w' => w'.cell? ⟨ob, 0, none⟩ = some (.slice (some ⟨bb, 0, none⟩) 1024 1024) ∧ w'.cell? ⟨ob, 1, none⟩ = some (.int .i64 at_))
    (first | exact hS0 | exact ⟨far1 H.out.ne o0, far1 H.out.ne o1⟩ | exact ⟨far2 H.out.ne o0, far2 H.out.ne o1⟩)
    (fail)
  have hX0 : Out ((w.setCell ⟨bb, at_, none⟩ (.int .u8 ((n : Int) / 256))).setCell ⟨bb, at_ + 1, none⟩ (.int .u8 ((n : Int) % 256))).drew ob bb (put2 cs at_ n) at_ := ⟨blk_set_ne (blk_set_ne H.out.hob _ _ H.out.ne.symm) _ _ H.out.ne.symm, blk_set (blk_set H.out.hbb _ _) _ _, by rw [put2_size]; exact H.out.size, H.out.ne⟩
  have hY0 : Below N w ((w.setCell ⟨bb, at_, none⟩ (.int .u8 ((n : Int) / 256))).setCell ⟨bb, at_ + 1, none⟩ (.int .u8 ((n : Int) % 256))).drew := below_drewN (((Below.refl N w).setCell (p := ⟨bb, at_, none⟩) hN _).setCell (p := ⟨bb, at_ + 1, none⟩) hN _) 1
  have hX := Lib.hid hX0
  have hY := Lib.hid hY0
  clear hX0 hY0
  obtain ⟨w2, hw2⟩ : ∃ w2, w2 = ((w.setCell ⟨bb, at_, none⟩ (.int .u8 ((n : Int) / 256))).setCell ⟨bb, at_ + 1, none⟩ (.int .u8 ((n : Int) % 256))).drew := ⟨_, rfl⟩
  rw [← hw2] at hX hY ⊢
  clear hw2 o0 o1 fo0 fo1 ol c1 c2 d1 d2 c2' d2' hS0
  obtain ⟨o0, o1, fo0, fo1, ol⟩ := two_of_block hX.out.hob
  go_wp2_with fail
  go_end0
  refine ⟨rfl, ⟨?_, ?_, hX.out.size, hX.out.ne⟩, hY.out.setCell (p := ⟨ob, 1, none⟩) hN2 _⟩
  · have h := blk_set hX.out.hob 1 (.int .i64 ((at_ : Int) + 2))
    exact h
  · exact blk_set_ne hX.out.hbb _ _ hX.out.ne
def put4 (cs : Array Value) (at_ : Nat) (k : Nat) : Array Value := put2 (put2 cs at_ 0) (at_ + 2) k
theorem put4_size (cs : Array Value) (at_ n : Nat) : (put4 cs at_ n).size = cs.size := by simp [put4, put2_size]
theorem four_any {w : World} {N ob bb : Nat} {cs : Array Value} {at_ : Nat} (h : Out w ob bb cs at_) (hN : N ≤ bb) (hN2 : N ≤ ob) (hat : at_ + 4 ≤ 1024) (n : Nat) (hn : n < 65536) :
    Calls Try.prog 32 #[.pointer (some ⟨ob, 0, none⟩), .int .i64 n] w fun e w' => e = .returned (.tuple #[]) ∧ Out w' ob bb (put4 cs at_ n) (at_ + 4) ∧ Below N w w' := by
  have H := Lib.hid h
  have hz : ((n : Int) / 65536) = ((0 : Nat) : Int) := by omega
  clear h
  go_enter Try.func32, Try.ntmps32
  go_wp2_with fail
  refine (two_any H.out hN hN2 (by omega) 0 (by omega)).mono ?_
  rintro e w1 ⟨rfl, h1, b1⟩
  have H1 := Lib.hid h1
  have B1 := Lib.hid b1
  clear h1 b1 hz
  go_wp2_with fail
  refine (two_any H1.out hN hN2 (by omega) n hn).mono ?_
  rintro e w2 ⟨rfl, h2, b2⟩
  have H2 := Lib.hid h2
  have B2 := Lib.hid b2
  clear h2 b2
  go_wp2_with fail
  go_end0
  exact ⟨rfl, H2.out, B1.out.trans B2.out⟩
end Go.Proofs.Ytnjdmaeoebihpaa
