/-
  The document's example of layer 5.
-/
import Derived.Test.YtnjdmaeoebihpaaPgGood
import Derived.Laws.IdiomStrings
namespace Go.Proofs.Ytnjdmaeoebihpaa
open Go.RowKit Go.Proofs.YtnjdmaeoebihpaaW.PrintWords Go.Proofs.YtnjdmaeoebihpaaW.PrintLast Go.Proofs.YtnjdmaeoebihpaaW.PrintMore
set_option linter.unusedVariables false
set_option linter.unusedSimpArgs false

/-- A page's bytes from a place on, as a text. -/
theorem conv_from {w : World} {g off c : Nat} {cs : List UInt8} {t : TypeId} {fr : Nat × Nat} (h : w.heap[g]? = some (.cells (bc cs).toArray t fr)) (l : List UInt8) {n : Nat} (hn : l.length = n) (hl : ∀ j (hj : j < l.length), cs[off + j]? = some l[j]) :
    (convert 39 9 (.slice (some ⟨g, off, none⟩) n c)).run Try.prog w = .ok (.string ⟨l.toArray⟩) w := by
  subst hn
  refine run_convert_bytes_back (P := Try.prog) w _ _ 5 ⟨g, off, none⟩ c l Try.underlying39 Try.underlying5 Try.underlying9 (fun j hj => ?_)
  rw [Addr.add_lit, cell_of_block h]
  simp [bc, hl j hj]
def exL : List ByteArray := [⟨#[97]⟩, ⟨#[98]⟩]
theorem ex_bd : Bd exL [] := ⟨by decide, by decide, fun s hs => by
  simp only [exL, List.mem_cons, List.not_mem_nil, or_false] at hs
  rcases hs with rfl | rfl <;> decide⟩
theorem ex_shp : Shp true exL [] := ⟨by simp, fun j hj => by
  have hj' : j < 2 := hj
  rcases Nat.lt_succ_iff_lt_or_eq.1 hj' with h | rfl
  · obtain rfl : j = 0 := by omega
    exact ⟨by decide, by decide, fun h => absurd h (by decide)⟩
  · exact ⟨by decide, by decide, fun _ => by kernel_rfl⟩, fun k hk => by cases hk⟩
theorem ex_0 : (pageB true exL [])[1022]? = some 98 := by kernel_rfl
theorem ex_1 : (pageB true exL [])[1023]? = some 97 := by kernel_rfl
theorem ex_size : sizeN exL [] = 13 := by decide

set_option maxRecDepth 100000 in
set_option maxHeartbeats 1000000 in
theorem awake_any (w : World) : Calls Try.prog 9 #[] w fun e w' => e = .returned (.bool true) ∧ Below w.heap.size w w' := by
  go_enter Try.func9, Try.ntmps9
  go_upto_region 2 with (fail)
  have hrd : RdN ((w.alloc (.cells #[.string ⟨#[97]⟩, .string ⟨#[98]⟩] 9)).alloc (.cells #[.bool true, .slice (some ⟨w.heap.size, 0, none⟩) 2 2, .slice none 0 0] 25)) (some ⟨w.heap.size, 0, none⟩) 2 exL none 0 [] := by
    have hb := blk_alloc (heap_alloc_new w (.cells #[.string ⟨#[97]⟩, .string ⟨#[98]⟩] 9)) (.cells #[.bool true, .slice (some ⟨w.heap.size, 0, none⟩) 2 2, .slice none 0 0] 25)
    refine ⟨Kd.C_of_reads (d := ByteArray.empty) ⟨rfl, by decide, fun _ => ⟨⟨w.heap.size, 0, none⟩, rfl, fun j hj => ?_⟩⟩, Kd.C_nil _ _, Nat.le_refl _, Nat.le_refl _⟩
    have hj' : j < 2 := hj
    rw [Addr.add_lit, cell_of_block hb]
    rcases Nat.lt_succ_iff_lt_or_eq.1 hj' with h | rfl
    · obtain rfl : j = 0 := by omega
      rfl
    · rfl
  have HRD := Lib.hid hrd
  have HB2 : Hid (Below w.heap.size w ((w.alloc (.cells #[.string ⟨#[97]⟩, .string ⟨#[98]⟩] 9)).alloc (.cells #[.bool true, .slice (some ⟨w.heap.size, 0, none⟩) 2 2, .slice none 0 0] 25))) := ((Below.refl _ _).alloc (Nat.le_refl _) _).alloc (by rw [heap_alloc_size]; exact Nat.le_succ _) _
  have hblk : ((w.alloc (.cells #[.string ⟨#[97]⟩, .string ⟨#[98]⟩] 9)).alloc (.cells #[.bool true, .slice (some ⟨w.heap.size, 0, none⟩) 2 2, .slice none 0 0] 25)).heap[w.heap.size + 1]? = some (.cells #[.bool true, .slice (some ⟨w.heap.size, 0, none⟩) 2 2, .slice none 0 0] 25) := heap_alloc_at _ _ _ (by rw [heap_alloc_size])
  clear hrd
  obtain ⟨w2, hw2⟩ : ∃ w2, w2 = ((w.alloc (.cells #[.string ⟨#[97]⟩, .string ⟨#[98]⟩] 9)).alloc (.cells #[.bool true, .slice (some ⟨w.heap.size, 0, none⟩) 2 2, .slice none 0 0] 25)) := ⟨_, rfl⟩
  rw [← hw2] at hblk HRD HB2 ⊢
  clear hw2
  have HBK := Lib.hid hblk
  obtain ⟨n0, n1, n2, f0, f1, f2, nl⟩ := three_of_block hblk
  clear hblk
  go_wp2_with fail
  refine (encode_good true _ 2 exL none 0 [] _ HRD.out ex_bd ex_shp (by rw [ex_size]; decide)).mono ?_
  rintro e w3 ⟨bb, rfl, hlo, hpg, hb3⟩
  have HB3 : Hid (Below w.heap.size w w3) := HB2.out.trans (hb3.mono HB2.out.size)
  have HRD3 := Lib.hid (HRD.out.below hb3)
  have hblk := (hb3.block _ nl).trans HBK.out
  have hc0 : w3.cell? ⟨bb, 1022, none⟩ = some (.int .u8 98) := (cell_of_block hpg 1022).trans (by kernel_rfl)
  have hc1 : w3.cell? ⟨bb, 1023, none⟩ = some (.int .u8 97) := (cell_of_block hpg 1023).trans (by kernel_rfl)
  have HPG := Lib.hid hpg
  clear hpg hb3 hlo n0 n1 n2 f0 f1 f2 nl
  have hcl : Hid (bb < w3.heap.size) := World.block_lt_of_cell? w3 _ hc0
  obtain ⟨n0, n1, n2, f0, f1, f2, nl⟩ := three_of_block hblk
  clear hblk
  go_wp2_with fail
  refine (size_any true _ 2 exL none 0 [] _ HRD3.out ex_bd).mono ?_
  rintro e w4 ⟨rfl, hb4⟩
  rw [ex_size]
  have hc2 : w4.cell? ⟨bb, 1022, none⟩ = some (.int .u8 98) := (World.cell?_of_block (w := w3) (a := ⟨bb, 1022, none⟩) (hb4.block bb hcl.out)).trans hc0
  have hc3 : w4.cell? ⟨bb, 1023, none⟩ = some (.int .u8 97) := (World.cell?_of_block (w := w3) (a := ⟨bb, 1023, none⟩) (hb4.block bb hcl.out)).trans hc1
  have HB4 := Lib.hid (HB3.out.trans (hb4.mono HB3.out.size))
  have hcv := conv_from (c := 2) ((hb4.block bb hcl.out).trans HPG.out) (off := 1022) [98, 97] (n := 2) rfl (fun j hj => by
    have hj' : j < 2 := hj
    rcases Nat.lt_succ_iff_lt_or_eq.1 hj' with h | rfl
    · obtain rfl : j = 0 := by omega
      exact ex_0
    · exact ex_1)
  clear hc2 hc3
  clear hb4 hc0 hc1 n0 n1 n2 f0 f1 f2 nl
  go_wp2_with fail
  go_ret
  exact ⟨rfl, HB4.out⟩
end Go.Proofs.Ytnjdmaeoebihpaa
