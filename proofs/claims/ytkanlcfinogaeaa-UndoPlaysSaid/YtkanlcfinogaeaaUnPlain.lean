/-
  The law's plain: a row of the program's entries as a row of the reference's.
-/
import Derived.Test.YtkanlcfinogaeaaUnSame11
namespace Go.Proofs.Ytkanlcfinogaeaa
open Go.RowKit
set_option linter.unusedVariables false
set_option linter.unusedSimpArgs false

theorem heap_alloc_size (w : World) (o : Obj) : (w.alloc o).heap.size = w.heap.size + 1 := Array.size_push _
theorem plain_any {w : World} (A : Option Addr) (J : List Img) (c : Nat) (ha : ReadsE w A J) (hl : J.length ≤ 1000000) :
    Calls Try.prog 16 #[.slice A J.length c] w fun e w' => ∃ B d, e = .returned (.slice B J.length d) ∧ w'.ownsRow w.heap.size 40 5 (.slice B J.length d) J.length (icells J) ∧ Below w.heap.size w w' := by
  obtain ⟨i0, ER⟩ := elt_R
  have HA := Lib.hid ha
  clear ha
  go_enter Try.func16, Try.ntmps16
  go_wp2_with fail
  go_loopg [3, 8] J.length (fun g out i wr => ∃ (j : Nat) (B : Option Addr) (d : Nat), i = .int .i64 j ∧ out = .slice B j d ∧ j ≤ J.length ∧ g = J.length - j ∧ Hid (wr.ownsRow w.heap.size 40 5 (.slice B j d) j (icells (J.take j))) ∧ Hid (Below w.heap.size w wr))
  case atStart => exact ⟨0, _, _, rfl, rfl, Nat.zero_le _, rfl, World.ownsRow_nil _ _ _ _, Below.refl _ _⟩
  case round =>
    obtain ⟨j, B, d, rfl, rfl, hj, hg, HO, HB⟩ := hrel
    by_cases hlt : j < J.length
    · obtain ⟨x, hx⟩ : ∃ x, J[j]? = some x := ⟨_, List.getElem?_eq_getElem hlt⟩
      obtain ⟨⟨a1, rfl, hl1, u0, u1, u2, u3, u4⟩, s1, s2⟩ := HA.out.below HB.out (Nat.le_refl _) j x hx
      have HX : Hid (icells (J.take (j + 1)) = icells (J.take j) ++ x.cells) := by
        rw [List.take_add_one, hx]
        show icells (J.take j ++ [x]) = _
        rw [icells_append]
        simp [icells]
      have hsz := HB.out.size
      have HN1 := Lib.hid (img_one' x)
      have hb2 : Below w.heap.size w (wr.alloc (.cells x.cells.toArray 35)) := HB.out.alloc hsz _
      have HB2 := Lib.hid hb2
      have hown := owns_below (w' := wr.alloc (.cells x.cells.toArray 35)) HO.out ((Below.refl wr.heap.size _).alloc (Nat.le_refl _) _) (Nat.le_refl _)
      have HOWN := Lib.hid hown
      clear s1 s2 hx hb2 hown
      go_wp2_with (at_builtin; go_loud (refine step_push ER (k := wr.heap.size + 1) (w := (wr.alloc (.cells x.cells.toArray 35))) rfl _ _ rfl HOWN.out rfl #[.int .i64 x.e.kind, .int .i64 x.e.id, .string x.e.table, .slice x.oa x.e.old.length x.oc, .slice x.na x.e.new.length x.nc] rfl (heap_alloc_size _ _).symm rfl HN1.out (by omega) HB2.out.size ?_; intro A5 c5 w5 ho hg; have HO5 := Lib.hid ho; have HG5 := Lib.hid hg; clear ho hg))
      go_roundg (J.length - (j + 1))
      case measure => omega
      case rel =>
        refine ⟨j + 1, A5, c5, by go_num, rfl, by omega, rfl, Lib.hid ?_, Lib.hid ((HB2.out.alloc HB2.out.size _).grown HG5.out (by simp; omega) (fun q hq => (HOWN.out.lt q hq).1))⟩
        rw [HX.out]
        have := HO5.out
        simpa [Img.cells] using this
    · go_wp2_with fail
      go_ret
      obtain rfl : j = J.length := by omega
      have h1 := HO.out
      rw [List.take_length] at h1
      exact ⟨B, d, rfl, h1, HB.out⟩
end Go.Proofs.Ytkanlcfinogaeaa
