/-
  The walk of package fault's First: the functions are called one behind the other, each caught, until one gives up.
-/
import Derived.Test.YtigcmbakglghpaaCatch
import Derived.Below
import Derived.RegionTactic
namespace Go.Proofs.Ytigcmbakglghpaa
open Go.RowKit
set_option linter.unusedVariables false
set_option linter.unusedSimpArgs false

/-- What First is told of its functions: Inv: the first j have returned; Stp: number j has given up. Each holds over a footprint, and stays where that stays. -/
structure FirstOf (n : Nat) (A : Option Addr) (clos : Nat → Value) (Inv : Nat → (Nat → Prop) → World → Prop) (Stp : Nat → Int → Int → (Nat → Prop) → World → Prop) : Prop where
  stay : ∀ {j own w w'}, Inv j own w → w.heap.size ≤ w'.heap.size → (∀ k, own k → w'.heap[k]? = w.heap[k]?) → w'.os = w.os → w'.tape = w.tape → w'.output = w.output → Inv j own w'
  stayS : ∀ {j c a own w w'}, Stp j c a own w → w.heap.size ≤ w'.heap.size → (∀ k, own k → w'.heap[k]? = w.heap[k]?) → w'.os = w.os → w'.tape = w.tape → w'.output = w.output → Stp j c a own w'
  lt : ∀ {j own w}, Inv j own w → ∀ k, own k → k < w.heap.size
  ltS : ∀ {j c a own w}, Stp j c a own w → ∀ k, own k → k < w.heap.size
  read : ∀ {j own w}, Inv j own w → j < n → ∃ b, A = some ⟨b, 0, none⟩ ∧ w.cell? ⟨b, j, none⟩ = some (clos j)
  call : ∀ {j own w}, j < n → Inv j own w → Calls Try.prog 8 #[clos j] w fun e w' => ∃ own', Grows own own' w w' ∧
    ((e = .returned (.agg #[.int .i64 0, .int .i64 0]) ∧ Inv (j + 1) own' w') ∨ ∃ c a, (c == 0) = false ∧ e = .returned (.agg #[.int .i64 c, .int .i64 a]) ∧ Stp j c a own' w')

theorem FirstOf.alloc {n A clos Inv Stp} (F : FirstOf n A clos Inv Stp) {j own w} (h : Inv j own w) (o : Obj) : Inv j own (w.alloc o) :=
  F.stay h (by simp) (fun k hk => Below.heap_alloc _ _ _ (F.lt h k hk)) rfl rfl rfl
theorem FirstOf.allocS {n A clos Inv Stp} (F : FirstOf n A clos Inv Stp) {j c a own w} (h : Stp j c a own w) (o : Obj) : Stp j c a own (w.alloc o) :=
  F.stayS h (by simp) (fun k hk => Below.heap_alloc _ _ _ (F.ltS h k hk)) rfl rfl rfl

def FirstEnd (n : Nat) (Inv : Nat → (Nat → Prop) → World → Prop) (Stp : Nat → Int → Int → (Nat → Prop) → World → Prop) (own : Nat → Prop) (w : World) (e : Ending) (w' : World) : Prop :=
  ∃ own', Grows own own' w w' ∧ ((e = .returned (.tuple #[.int .i64 (-1), .agg #[.int .i64 0, .int .i64 0]]) ∧ Inv n own' w') ∨
    ∃ (j : Nat) (c a : Int), j < n ∧ (c == 0) = false ∧ e = .returned (.tuple #[.int .i64 j, .agg #[.int .i64 c, .int .i64 a]]) ∧ Stp j c a own' w')

/-- What holds at the head of First's loop. -/
def FirstRel (Inv : Nat → (Nat → Prop) → World → Prop) (own : Nat → Prop) (w : World) (j : Nat) (wr : World) : Prop :=
  ∃ own', Grows own own' w wr ∧ Inv j own' wr ∧ wr.heap[w.heap.size]? = some (.cells #[.int .i64 0, .int .i64 0] 25) ∧ ¬ own' w.heap.size

theorem first_any {n cap : Nat} {A : Option Addr} {clos : Nat → Value} {Inv Stp} (F : FirstOf n A clos Inv Stp) (own : Nat → Prop) (w : World) (hn : n ≤ 1000000) (h0 : Inv 0 own w) :
    Calls Try.prog 14 #[.slice A n cap] w (FirstEnd n Inv Stp own w) := by
  have Hown : ∀ k, own k → k < w.heap.size := F.lt h0
  have H0 := Lib.hid h0; clear h0
  have HO := Lib.hid Hown; clear Hown
  go_enter Try.func14, Try.ntmps14
  go_wp2_with fail
  go_loopw [9] (fun i wr => ∃ j : Nat, j ≤ n ∧ i = .int .i64 j ∧ FirstRel Inv own w j wr) (fun i _ => n - (intOf i).toNat)
  case atStart =>
    refine ⟨0, Nat.zero_le _, rfl, own, Grows.before (Chg.alloc (Chg.refl _ _) _) (Grows.refl _ _), F.alloc H0.out _, heap_alloc_new _ _, fun h => ?_⟩
    have := HO.out _ h; omega
  case round =>
    obtain ⟨j, hj, rfl, own', hg, hinv, hblk, hnown⟩ := hrel
    have HG := Lib.hid hg; clear hg
    have HI := Lib.hid hinv; clear hinv
    have HN := Lib.hid hnown; clear hnown
    by_cases hlt : j < n
    · obtain ⟨b, hA, hc⟩ := F.read HI.out hlt
      subst hA
      have HB := Lib.hid hblk; clear hblk
      have C := @FirstOf.call n (some ⟨b, 0, none⟩) clos Inv Stp F j own' wr hlt HI.out
      have HC := Lib.hid C; clear C
      go_wp2_with fail
      refine HC.out.mono ?_
      rintro e w1 ⟨own1, hg1, hcase⟩
      have hblk1 := blk_grows HB.out hg1 HN.out
      have hsz := hg1.chg.size
      have hlt0 := lt_of_block HB.out
      have HB1 := Lib.hid hblk1; clear hblk1
      have HG1 := Lib.hid hg1; clear hg1
      rcases hcase with ⟨rfl, hinv1⟩ | ⟨c, a, hc0, rfl, hst⟩
      · have HI1 := Lib.hid hinv1; clear hinv1
        go_wp2_with fail
        go_roundw
        case rel =>
          refine ⟨j + 1, by omega, by go_num, own1, (HG.out.trans HG1.out).after (Chg.alloc (Chg.refl _ _) _), F.alloc HI1.out _, blk_alloc HB1.out _, fun h => ?_⟩
          rcases HG1.out.news _ h with h2 | h2
          · exact HN.out h2
          · omega
        case measure => simp [intOf]; omega
      · have HI1 := Lib.hid hst; clear hst
        obtain ⟨q0, q1, y0, y1, l0⟩ := two_of_block HB1.out
        go_wp2_with fail
        go_region
        all_goals
          go_wp2_with fail
          refine bodyPost_ret (v := .tuple #[.int .i64 j, .agg #[.int .i64 c, .int .i64 a]]) (by simp [results, Try.results14, go_sem, q0, q1, l0]) rfl ?_
          refine ⟨own1, (HG.out.trans HG1.out).after ?_, .inr ⟨j, c, a, hlt, hc0, rfl, ?_⟩⟩
          · exact Chg.drew (Chg.alloc (Chg.setCell (Chg.setCell (Chg.refl _ _) (.inr (Nat.le_refl _)) 0 _) (.inr (Nat.le_refl _)) 1 _) _)
          · refine F.stayS (F.allocS (F.stayS HI1.out (w' := (w1.setCell ⟨w.heap.size, 0, none⟩ (.int .i64 c)).setCell ⟨w.heap.size, 1, none⟩ (.int .i64 a)) (by simp) (fun k hk => ?_) rfl rfl rfl) _) (by simp) (fun k _ => rfl) rfl rfl rfl
            have hne : k ≠ w.heap.size := fun e => by
              subst e
              rcases HG1.out.news _ hk with h2 | h2
              · exact HN.out h2
              · omega
            exact (Below.heap_setCell _ _ _ _ hne).trans (Below.heap_setCell _ _ _ _ hne)
    · obtain ⟨q0, q1, y0, y1, l0⟩ := two_of_block hblk
      have HB := Lib.hid hblk; clear hblk
      go_wp2_with fail
      refine bodyPost_ret (v := .tuple #[.int .i64 (-1), .agg #[.int .i64 0, .int .i64 0]]) (by simp [results, Try.results14, go_sem, q0, q1, l0]) rfl ?_
      obtain rfl : j = n := by omega
      refine ⟨own', HG.out.after ?_, .inl ⟨rfl, ?_⟩⟩
      · exact Chg.setCell (Chg.setCell (Chg.refl _ _) (.inr (Nat.le_refl _)) 0 _) (.inr (Nat.le_refl _)) 1 _
      · refine F.stay HI.out (by simp) (fun k hk => ?_) rfl rfl rfl
        have hne : k ≠ w.heap.size := fun e => HN.out (e ▸ hk)
        exact (Below.heap_setCell _ _ _ _ hne).trans (Below.heap_setCell _ _ _ _ hne)
end Go.Proofs.Ytigcmbakglghpaa
