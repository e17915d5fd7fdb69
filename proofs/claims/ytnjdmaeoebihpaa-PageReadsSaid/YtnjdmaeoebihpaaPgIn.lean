/-
  Numbers read off a page: two, four.
-/
import Derived.Test.YtnjdmaeoebihpaaPgAppend
import Derived.Test.YtnjdmaeoebihpaaCatch
import Derived.Laws.BitsLemmas
import Derived.Laws.IdiomStrings
namespace Go.Proofs.Ytnjdmaeoebihpaa
open Go.RowKit Go.Proofs.YtnjdmaeoebihpaaW.PrintWords Go.Proofs.YtnjdmaeoebihpaaW.PrintLast Go.Proofs.YtnjdmaeoebihpaaW.PrintMore
set_option linter.unusedVariables false
set_option linter.unusedSimpArgs false

def byteAt (bs : List UInt8) (j : Nat) : Nat := (bs.getD j 0).toNat
theorem byteAt_lt (bs : List UInt8) (j : Nat) : byteAt bs j < 256 := UInt8.toNat_lt _
/-- What is read, and how far. -/
structure In (w : World) (ib bb cap : Nat) (bs : List UInt8) (at_ : Nat) : Prop where
  hib : w.heap[ib]? = some (.cells #[.slice (some ⟨bb, 0, none⟩) 1024 cap, .int .i64 at_] 80)
  hbb : ∃ fr, w.heap[bb]? = some (.cells (bc bs).toArray 5 fr)
  len : bs.length = 1024
  ne : bb ≠ ib
theorem byte_cell {w : World} {bb : Nat} {bs : List UInt8} {t : TypeId} (h : ∃ fr, w.heap[bb]? = some (.cells (bc bs).toArray t fr)) (j : Nat) (hj : j < bs.length) : w.cell? ⟨bb, j, none⟩ = some (.int .u8 (byteAt bs j : Nat)) := by
  obtain ⟨fr, h⟩ := h
  rw [cell_of_block h]
  simp [bc, byteAt, hj]

def TwoOk (N ib bb cap : Nat) (bs : List UInt8) (at_ : Nat) (w : World) (e : Ending) (w' : World) : Prop := e = .returned (.int .i64 (byteAt bs at_ * 256 + byteAt bs (at_ + 1) : Nat)) ∧ In w' ib bb cap bs (at_ + 2) ∧ Frm (fun t => t = 80) N w w'
set_option maxRecDepth 100000 in
set_option maxHeartbeats 2000000 in
theorem intwo_ok {w : World} {N ib bb cap : Nat} {bs : List UInt8} {at_ : Nat} (h : In w ib bb cap bs at_) (hN : N ≤ ib) (hat : at_ + 2 ≤ 1024) :
    Calls Try.prog 47 #[.pointer (some ⟨ib, 0, none⟩)] w (TwoOk N ib bb cap bs at_ w) := by
  obtain ⟨i0, i1, fi0, fi1, il⟩ := two_of_block h.hib
  have H := Lib.hid h
  have hlt1 : decide ((1024 : Int) - (at_ : Int) < 2) = false := decide_eq_false (by omega)
  clear h
  go_enter Try.func47, Try.ntmps47
  go_wp2_with fail
  go_quiet (fail)
  go_wp2_with fail
  obtain ⟨a2, ha2⟩ : ∃ a2, a2 = at_ + 2 := ⟨_, rfl⟩
  obtain ⟨a1, ha1⟩ : ∃ a1, a1 = at_ + 1 := ⟨_, rfl⟩
  have e2 : (at_ : Int) + 2 = (a2 : Int) := by omega
  rw [e2]
  have hI : In ((w.drewN nq).setCell ⟨ib, 1, none⟩ (.int .i64 a2)) ib bb cap bs a2 :=
    ⟨blk_set (w := w.drewN nq) H.out.hib 1 _, by obtain ⟨fr, h⟩ := H.out.hbb; exact ⟨fr, blk_set_ne (w := w.drewN nq) h _ _ H.out.ne⟩, H.out.len, H.out.ne⟩
  have hB : Frm (fun t => t = 80) N w ((w.drewN nq).setCell ⟨ib, 1, none⟩ (.int .i64 a2)) := ((Frm.refl _ N w).drewN nq).trans (Frm.setCell (T := fun t => t = 80) (w := w.drewN nq) H.out.hib rfl hN 1 _)
  obtain ⟨w2, hw2⟩ : ∃ w2, w2 = (w.drewN nq).setCell ⟨ib, 1, none⟩ (.int .i64 a2) := ⟨_, rfl⟩
  rw [← hw2] at hI hB ⊢
  clear hw2 i0 i1 fi0 fi1 il hlt1 e2
  have HI := Lib.hid hI
  have HB := Lib.hid hB
  have hln := hI.len
  obtain ⟨i0, i1, fi0, fi1, il⟩ := two_of_block hI.hib
  have c0 := byte_cell hI.hbb at_ (by omega)
  have c1 := byte_cell hI.hbb a1 (by omega)
  have l0 := byteAt_lt bs at_
  have l1 := byteAt_lt bs a1
  have HA1 := Lib.hid ha1
  have HA2 := Lib.hid ha2
  obtain ⟨b0, hb0⟩ : ∃ b0, byteAt bs at_ = b0 := ⟨_, rfl⟩
  obtain ⟨b1, hb1⟩ : ∃ b1, byteAt bs a1 = b1 := ⟨_, rfl⟩
  rw [hb0] at c0 l0
  rw [hb1] at c1 l1
  have x1 : (a2 : Int) - 2 = (at_ : Int) := by omega
  have x2 : (a2 : Int) - 1 = (a1 : Int) := by omega
  have x3 : IntKind.i64.wrap (at_ : Int) = (at_ : Int) := IntWalk.i64_in _ (by omega)
  have x4 : IntKind.i64.wrap (a1 : Int) = (a1 : Int) := IntWalk.i64_in _ (by omega)
  have x5 : (at_ : Int) < 1024 := by omega
  have x6 : (a1 : Int) < 1024 := by omega
  have x7 : bits .or .i64 ((b0 : Int) * 256) (b1 : Int) = (b0 : Int) * 256 + (b1 : Int) := bits_join .i64 63 (by decide) (fun n h0 h1 => IntWalk.i64_in _ (by omega)) 8 _ _ (by omega) (by omega) (by omega) (by omega) (by omega) (by omega)
  have x8 : IntKind.i64.wrap ((b0 : Int) * 256) = (b0 : Int) * 256 := IntWalk.i64_in _ (by omega)
  have HV : Hid (.returned (.int .i64 ((b0 : Int) * 256 + (b1 : Int))) = Ending.returned (.int .i64 (byteAt bs at_ * 256 + byteAt bs (at_ + 1) : Nat))) := (by rw [← ha1, hb0, hb1]; congr 2 : Ending.returned (.int .i64 ((b0 : Int) * 256 + (b1 : Int))) = Ending.returned (.int .i64 (byteAt bs at_ * 256 + byteAt bs (at_ + 1) : Nat)))
  clear hI hB hb0 hb1 ha1 ha2 hln
  go_quiet (fail)
  go_wp2_with fail
  go_ret
  refine ⟨HV.out, ?_, HB.out.drewN nq⟩
  rw [← HA2.out]
  exact ⟨HI.out.hib, HI.out.hbb, HI.out.len, HI.out.ne⟩
def Stops (N : Nat) (w : World) (e : Ending) (w' : World) : Prop := e = .panicked (thrown 16 0) ∧ Below N w w'
set_option maxRecDepth 100000 in
theorem intwo_no {w : World} {N ib bb cap : Nat} {bs : List UInt8} {at_ : Nat} (h : In w ib bb cap bs at_) (hat : ¬ at_ + 2 ≤ 1024) (h2 : at_ ≤ 1000000) :
    Calls Try.prog 47 #[.pointer (some ⟨ib, 0, none⟩)] w (Stops N w) := by
  obtain ⟨i0, i1, fi0, fi1, il⟩ := two_of_block h.hib
  have hlt1 : decide ((1024 : Int) - (at_ : Int) < 2) = true := decide_eq_true (by omega)
  clear h
  go_enter Try.func47, Try.ntmps47
  go_wp2_with fail
  go_quiet (fail)
  go_wp2_with fail
  refine (check_no 16 rfl _).mono ?_
  rintro e w' ⟨rfl, rfl⟩
  go_wp2_with fail
  exact ⟨rfl, rfl, below_drewN (Below.refl _ _) nq⟩
def FourOk (N ib bb cap : Nat) (bs : List UInt8) (at_ : Nat) (w : World) (e : Ending) (w' : World) : Prop := e = .returned (.int .i64 ((byteAt bs at_ * 256 + byteAt bs (at_ + 1)) * 65536 + (byteAt bs (at_ + 2) * 256 + byteAt bs (at_ + 3)) : Nat)) ∧ In w' ib bb cap bs (at_ + 4) ∧ Frm (fun t => t = 80) N w w'
theorem two_lt (bs : List UInt8) (j : Nat) : byteAt bs j * 256 + byteAt bs (j + 1) < 65536 := by
  have h1 := byteAt_lt bs j
  have h2 := byteAt_lt bs (j + 1)
  omega
set_option maxRecDepth 100000 in
theorem infour_ok {w : World} {N ib bb cap : Nat} {bs : List UInt8} {at_ : Nat} (h : In w ib bb cap bs at_) (hN : N ≤ ib) (hat : at_ + 4 ≤ 1024) :
    Calls Try.prog 48 #[.pointer (some ⟨ib, 0, none⟩)] w (FourOk N ib bb cap bs at_ w) := by
  have H := Lib.hid h
  clear h
  go_enter Try.func48, Try.ntmps48
  go_wp2_with fail
  refine (intwo_ok (N := N) H.out hN (by omega)).mono ?_
  rintro e w1 ⟨rfl, h1, b1⟩
  have H1 := Lib.hid h1
  have B1 := Lib.hid b1
  have l1 := two_lt bs at_
  have l2 := two_lt bs (at_ + 2)
  obtain ⟨x, hx⟩ : ∃ x, byteAt bs at_ * 256 + byteAt bs (at_ + 1) = x := ⟨_, rfl⟩
  rw [hx] at l1 ⊢
  have HX := Lib.hid hx
  clear h1 b1 hx
  go_wp2_with fail
  refine (intwo_ok (N := N) H1.out hN (by omega)).mono ?_
  rintro e w2 ⟨rfl, h2, b2⟩
  have H2 := Lib.hid h2
  have B2 := Lib.hid b2
  obtain ⟨y, hy⟩ : ∃ y, byteAt bs (at_ + 2) * 256 + byteAt bs (at_ + 2 + 1) = y := ⟨_, rfl⟩
  rw [hy] at l2 ⊢
  have HY := Lib.hid hy
  clear h2 b2 hy
  have x7 : bits .or .i64 ((x : Int) * 65536) (y : Int) = (x : Int) * 65536 + (y : Int) := bits_join .i64 63 (by decide) (fun n h0 h1 => IntWalk.i64_in _ (by omega)) 16 _ _ (by omega) (by omega) (by omega) (by omega) (by omega) (by omega)
  go_wp2_with fail
  go_ret
  refine ⟨?_, H2.out, B1.out.trans B2.out⟩
  have e : byteAt bs (at_ + 2) * 256 + byteAt bs (at_ + 3) = y := HY.out
  rw [HX.out, e]
  rfl
set_option maxRecDepth 100000 in
theorem infour_no {w : World} {N ib bb cap : Nat} {bs : List UInt8} {at_ : Nat} (h : In w ib bb cap bs at_) (hN : N ≤ ib) (hat : ¬ at_ + 4 ≤ 1024) (h2 : at_ ≤ 1000000) :
    Calls Try.prog 48 #[.pointer (some ⟨ib, 0, none⟩)] w (Stops N w) := by
  have H := Lib.hid h
  clear h
  by_cases h1 : at_ + 2 ≤ 1024
  · go_enter Try.func48, Try.ntmps48
    go_wp2_with fail
    refine (intwo_ok (N := N) H.out hN h1).mono ?_
    rintro e w1 ⟨rfl, h1, b1⟩
    have H1 := Lib.hid h1
    have B1 := Lib.hid b1
    have l1 := two_lt bs at_
    obtain ⟨x, hx⟩ : ∃ x, byteAt bs at_ * 256 + byteAt bs (at_ + 1) = x := ⟨_, rfl⟩
    rw [hx] at l1 ⊢
    clear h1 b1 hx
    go_wp2_with fail
    refine (intwo_no (N := N) H1.out (by omega) (by omega)).mono ?_
    rintro e w2 ⟨rfl, b2⟩
    have B2 := Lib.hid b2
    clear b2
    go_wp2_with fail
    exact ⟨rfl, rfl, B1.out.low.trans B2.out⟩
  · go_enter Try.func48, Try.ntmps48
    go_wp2_with fail
    refine (intwo_no (N := N) H.out h1 h2).mono ?_
    rintro e w1 ⟨rfl, b1⟩
    have B1 := Lib.hid b1
    clear b1
    go_wp2_with fail
    exact ⟨rfl, rfl, B1.out⟩
end Go.Proofs.Ytnjdmaeoebihpaa
