/-
  The arena and the reference's arena side by side; and scripts of operations that came in.
-/
import Derived.Test.YtmlgockejacjeaaArTie
import Derived.Test.YtmlgockejacjeaaArSnap
import Derived.Test.YtmlgockejacjeaaOpen
namespace Go.Proofs.Ytmlgockejacjeaa
open Go.RowKit Go.ChangeShapes Go.WideShapes Go.ChangeAt
set_option linter.unusedVariables false
set_option linter.unusedSimpArgs false

theorem RR.page_ne {base r : Nat} {S : RfS} {own : Nat → Prop} {w : World} (h : RR base r S own w) : ∀ (b : Nat) (c : Array Value), w.heap[b]? = some (Obj.cells c 69) → ¬ own b := by
  obtain ⟨lv, fv, rfl, R⟩ := h
  rintro b c hb (rfl | hk | hk)
  · have := R.blk; rw [hb] at this; injection this with this; injection this with _ this; exact absurd this (by decide)
  · exact owns_ne R.lown hb (by decide) hk.symm
  · exact owns_ne R.fown hb (by decide) hk.symm
/-- Both arenas, at a and at r; what lay below has not turned. -/
structure Two (w0 : World) (a r : Nat) (S : ArS) (R : RfS) (w : World) : Prop where
  ex : ∃ oa orf, AR w0.heap.size a S oa w ∧ RR w0.heap.size r R orf w ∧ ∀ k, orf k → ¬ oa k
  low : Below w0.heap.size w0 w
theorem Two.news {w0 : World} {a r : Nat} {S : ArS} {R : RfS} {w w' : World} (h : Two w0 a r S R w) (hb : Below w.heap.size w w') : Two w0 a r S R w' := by
  obtain ⟨oa, orf, hA, hR, hd⟩ := h.ex
  exact ⟨⟨oa, orf, hA.ofBelow hb, hR.ofBelow hb, hd⟩, h.low.trans (hb.mono h.low.size)⟩
theorem Two.drewN {w0 : World} {a r : Nat} {S : ArS} {R : RfS} {w : World} (h : Two w0 a r S R w) (n : Nat) : Two w0 a r S R (w.drewN n) := h.news (below_drewN (Below.refl _ _) n)
theorem Two.alloc {w0 : World} {a r : Nat} {S : ArS} {R : RfS} {w : World} (h : Two w0 a r S R w) (o : Obj) : Two w0 a r S R (w.alloc o) := h.news ((Below.refl _ _).alloc (Nat.le_refl _) o)
theorem Two.stepA {w0 : World} {a r : Nat} {S S' : ArS} {R : RfS} {w w' : World} {oa oa' orf : Nat → Prop} (h : Two w0 a r S R w) (hA : AR w0.heap.size a S oa w) (hR : RR w0.heap.size r R orf w) (hd : ∀ k, orf k → ¬ oa k) (hA' : AR w0.heap.size a S' oa' w') (hg : Grows oa oa' w w') : Two w0 a r S' R w' := by
  refine ⟨⟨oa', orf, hA', hR.stay fun k hk => hg.chg.block k (hR.lt k hk).2 (hd k hk), fun k hk ho => ?_⟩, h.low.trans (hg.chg.below (fun i hi ho => by have := (hA.lt i ho).1; omega) h.low.size)⟩
  rcases hg.news k ho with h1 | h1
  · exact hd k hk h1
  · have := (hR.lt k hk).2; omega
theorem Two.stepR {w0 : World} {a r : Nat} {S : ArS} {R R' : RfS} {w w' : World} {oa orf orf' : Nat → Prop} (h : Two w0 a r S R w) (hA : AR w0.heap.size a S oa w) (hR : RR w0.heap.size r R orf w) (hd : ∀ k, orf k → ¬ oa k) (hR' : RR w0.heap.size r R' orf' w') (hg : Grows orf orf' w w') : Two w0 a r S R' w' := by
  refine ⟨⟨oa, orf', hA.stay (fun k hk => hg.chg.block k (hA.lt k hk).2 (fun ho => hd k ho hk)) (fun k c hc => hg.chg.block k (lt_of_block hc) (hR.page_ne k c hc)), hR', fun k hk ho => ?_⟩, h.low.trans (hg.chg.below (fun i hi ho => by have := (hR.lt i ho).1; omega) h.low.size)⟩
  rcases hg.news k hk with h1 | h1
  · exact hd k h1 ho
  · have := (hA.lt k ho).2; omega

/-- Operations of a script, laid as variables, stay. -/
def KeepO (w w' : World) : Prop := ∀ (B : Nat) (cs : Array Value), w.heap[B]? = some (Obj.cells cs 40) → w'.heap[B]? = some (Obj.cells cs 40)
theorem KeepO.ofBelow {w w' : World} (hb : Below w.heap.size w w') : KeepO w w' := fun B cs h => (hb.block B (lt_of_block h)).trans h
theorem KeepO.grows {base a : Nat} {S : ArS} {oa oa' : Nat → Prop} {w w' : World} (hA : AR base a S oa w) (hg : Grows oa oa' w w') : KeepO w w' := by
  intro B cs h
  refine blk_grows h hg ?_
  obtain ⟨pv, fv, pbs, rfl, R⟩ := hA
  rintro (rfl | hk | hk)
  · have := R.blk; rw [h] at this; injection this with this; injection this with _ this; exact absurd this (by decide)
  · exact owns_ne R.pown h (by decide) hk.symm
  · exact owns_ne R.fown h (by decide) hk.symm
/-- How many there are. -/
theorem Tie.lens {R : RfS} {S : ArS} (T : Tie R S) (ok : S.Ok) : R.L.length ≤ 4096 ∧ R.free.length ≤ 4096 ∧ R.next = ((S.pages.length : Nat) : Int) + 1 ∧ S.pages.length ≤ 4096 ∧ 0 ≤ R.quota ∧ R.quota ≤ 4096 := by
  have h1 := ok.used
  have h2 := T.len
  have h3 := ok.le
  have h4 := ok.most
  have h5 := ok.quota
  have h6 := T.free
  have h7 := T.quota
  refine ⟨by omega, by rw [h6]; omega, T.next, h4, by omega, by omega⟩

section
variable {w0 : World} {a r : Nat} {S : ArS} {R : RfS} {w : World}
theorem Two.at_ (h : Two w0 a r S R w) (hl : R.L.length ≤ 4096) (n : Int) :
    Calls Try.prog 15 #[.pointer (some ⟨r, 0, none⟩), .int .i64 n] w fun e w' => e = .returned (.int .i64 (R.atI n)) ∧ w = w' := by
  obtain ⟨oa, orf, hA, hR, hd⟩ := h.ex
  exact rat_any hR n (by omega)
theorem Two.opAlloc (h : Two w0 a r S R w) (ok : S.Ok) :
    Calls Try.prog 10 #[.pointer (some ⟨a, 0, none⟩)] w fun e w' => e = .returned (.tuple #[.int .i64 S.alloc.1, .int .i64 S.allocE]) ∧ Two w0 a r S.alloc.2 R w' := by
  obtain ⟨oa, orf, hA, hR, hd⟩ := h.ex
  refine (op_alloc hA ok).mono ?_
  rintro e w' ⟨rfl, oa', hA', hg⟩
  exact ⟨rfl, h.stepA hA hR hd hA' hg⟩
theorem Two.opFree (h : Two w0 a r S R w) (ok : S.Ok) (n : Int) (hn : (Lit.int .i64 n).wf = true) :
    Calls Try.prog 17 #[.pointer (some ⟨a, 0, none⟩), .int .i64 n] w fun e w' => e = .returned (.int .i64 (S.bad n)) ∧ Two w0 a r (S.freeS n) R w' ∧ KeepO w w' := by
  obtain ⟨oa, orf, hA, hR, hd⟩ := h.ex
  refine (op_free hA ok n hn).mono ?_
  rintro e w' ⟨rfl, oa', hA', hg⟩
  exact ⟨rfl, h.stepA hA hR hd hA' hg, KeepO.grows hA hg⟩
/-- What Store answers, by how many bytes there are. -/
def ArS.storeE (S : ArS) (n : Int) (k : Nat) : Int := if (S.page n).isSome then (if k = 1024 then 0 else 15) else 2
def ArS.storeS (S : ArS) (n : Int) (k : Nat) (b : UInt8) : ArS := if (S.page n).isSome ∧ k = 1024 then S.put n (full b) else S
theorem Two.opStore (h : Two w0 a r S R w) (ok : S.Ok) (n : Int) (hn : (Lit.int .i64 n).wf = true) (g k c : Nat) (b : UInt8) (hb : w.heap[g]? = some (.cells (bcells (List.replicate k b)) 5)) :
    Calls Try.prog 12 #[.pointer (some ⟨a, 0, none⟩), .int .i64 n, .slice (some ⟨g, 0, none⟩) k c] w fun e w' => e = .returned (.int .i64 (S.storeE n k)) ∧ Two w0 a r (S.storeS n k b) R w' ∧ KeepO w w' := by
  obtain ⟨oa, orf, hA, hR, hd⟩ := h.ex
  unfold ArS.storeE ArS.storeS
  rcases hp : S.page n with _ | l
  · refine (store_out hA ok n hn hp _).mono ?_
    rintro e w' ⟨rfl, rfl⟩
    exact ⟨rfl, h, fun _ _ h => h⟩
  · by_cases hk : k = 1024
    · subst hk
      refine (store_in hA ok n hp g c (full b) (full_len b) _ hb).mono ?_
      rintro e w' ⟨rfl, oa', hA', hg⟩
      exact ⟨by simp, by rw [if_pos ⟨rfl, rfl⟩]; exact h.stepA hA hR hd hA' hg, KeepO.grows hA hg⟩
    · refine (store_short hA ok n hp (some ⟨g, 0, none⟩) k c hk).mono ?_
      rintro e w' ⟨rfl, rfl⟩
      exact ⟨by simp [hk], by rw [if_neg (fun h => hk h.2)]; exact h, fun _ _ h => h⟩
theorem Two.opLoad (h : Two w0 a r S R w) (ok : S.Ok) (n : Int) {l : List UInt8} (hp : S.page n = some l) :
    Calls Try.prog 13 #[.pointer (some ⟨a, 0, none⟩), .int .i64 n] w fun e w' => ∃ g c, e = .returned (.tuple #[.slice (some ⟨g, 0, none⟩) 1024 c, .int .i64 0]) ∧ Two w0 a r S R w' ∧ Bytes w' g l ∧ l.length = 1024 := by
  obtain ⟨oa, orf, hA, hR, hd⟩ := h.ex
  refine (load_in hA ok n hp).mono ?_
  rintro e w' ⟨g, c, rfl, ho, hb, hl⟩
  exact ⟨g, c, rfl, h.news hb, Bytes.owned ho hl, hl⟩
theorem Two.opLoad0 (h : Two w0 a r S R w) (ok : S.Ok) (n : Int) (hn : (Lit.int .i64 n).wf = true) (hp : S.page n = none) :
    Calls Try.prog 13 #[.pointer (some ⟨a, 0, none⟩), .int .i64 n] w fun e w' => e = .returned (.tuple #[.slice none 0 0, .int .i64 2]) ∧ Two w0 a r S R w' := by
  obtain ⟨oa, orf, hA, hR, hd⟩ := h.ex
  refine (load_out hA ok n hn hp).mono ?_
  rintro e w' ⟨rfl, h'⟩
  exact ⟨rfl, by subst h'; exact h⟩
/-- What Limit answers, and leaves. -/
def ArS.limitE (q : Int) : Int := if 0 ≤ q ∧ q ≤ 4096 then 0 else 15
def ArS.limitS (S : ArS) (q : Int) : ArS := if 0 ≤ q ∧ q ≤ 4096 then { S with quota := q } else S
theorem Two.opLimit (h : Two w0 a r S R w) (q : Int) (hq : (Lit.int .i64 q).wf = true) :
    Calls Try.prog 19 #[.pointer (some ⟨a, 0, none⟩), .int .i64 q] w fun e w' => e = .returned (.int .i64 (ArS.limitE q)) ∧ Two w0 a r (S.limitS q) R w' ∧ KeepO w w' := by
  obtain ⟨oa, orf, hA, hR, hd⟩ := h.ex
  unfold ArS.limitE ArS.limitS
  by_cases hb : 0 ≤ q ∧ q ≤ 4096
  · rw [if_pos hb, if_pos hb]
    refine (limit_any hA q hb.1 hb.2).mono ?_
    rintro e w' ⟨rfl, hA', hg⟩
    exact ⟨rfl, h.stepA hA hR hd hA' hg, KeepO.grows hA hg⟩
  · rw [if_neg hb, if_neg hb]
    refine (limit_bad q hq hb a w).mono ?_
    rintro e w' ⟨rfl, h'⟩
    exact ⟨rfl, by subst h'; exact h, by subst h'; exact fun _ _ h => h⟩
theorem Two.opUsed (h : Two w0 a r S R w) (ok : S.Ok) :
    Calls Try.prog 20 #[.pointer (some ⟨a, 0, none⟩)] w fun e w' => e = .returned (.int .i64 S.used) ∧ ∃ n, w' = w.drewN n := by
  obtain ⟨oa, orf, hA, hR, hd⟩ := h.ex
  exact used_any hA ok
theorem Two.opLeft (h : Two w0 a r S R w) (ok : S.Ok) :
    Calls Try.prog 21 #[.pointer (some ⟨a, 0, none⟩)] w fun e w' => e = .returned (.int .i64 S.left) ∧ ∃ n, w' = w.drewN n := by
  obtain ⟨oa, orf, hA, hR, hd⟩ := h.ex
  exact left_any hA ok
theorem Two.opPages (h : Two w0 a r S R w) (ok : S.Ok) :
    Calls Try.prog 23 #[.pointer (some ⟨a, 0, none⟩)] w fun e w' => ∃ A c, e = .returned (.slice A (S.upto S.pages.length).length c) ∧ ReadsI w' A (S.upto S.pages.length) ∧ Below w.heap.size w w' := by
  obtain ⟨oa, orf, hA, hR, hd⟩ := h.ex
  refine (pages_any hA ok).mono ?_
  rintro e w' ⟨v, rfl, ho, hb⟩
  obtain ⟨A, c, rfl⟩ := own_form ho
  exact ⟨A, c, rfl, ReadsI.of ho, hb⟩
/-- The reference's pages: the same ones. -/
theorem Two.refPages (h : Two w0 a r S R w) (ok : S.Ok) (T : Tie R S) :
    Calls Try.prog 24 #[.pointer (some ⟨r, 0, none⟩)] w fun e w' => ∃ A c, e = .returned (.slice A (S.upto S.pages.length).length c) ∧ ReadsI w' A (S.upto S.pages.length) ∧ Below w.heap.size w w' := by
  obtain ⟨oa, orf, hA, hR, hd⟩ := h.ex
  obtain ⟨h1, h2, h3, h4, h5, h6⟩ := T.lens ok
  refine (rpages_any hR (by omega) S.pages.length h3 (by omega)).mono ?_
  rintro e w' ⟨v, rfl, ho, hb⟩
  rw [T.upto] at ho
  obtain ⟨A, c, rfl⟩ := own_form ho
  exact ⟨A, c, rfl, ReadsI.of ho, hb⟩
theorem ReadsI.below {w w' : World} {A : Option Addr} {l : List Int} (h : ReadsI w A l) {k : Nat} (hb : Below k w w') (hk : w.heap.size ≤ k) : ReadsI w' A l := by
  intro i x hx
  obtain ⟨b, rfl, hl, hc⟩ := h i x hx
  have h1 := hb.block b (by omega)
  have h2 := hb.size
  exact ⟨b, rfl, by omega, (World.cell?_of_block (w := w) (a := ⟨b, i, none⟩) h1).trans hc⟩

/-- What the reference's Alloc answers. -/
theorem Two.refAlloc (h : Two w0 a r S.alloc.2 R w) (ok : S.Ok) (T : Tie R S) :
    Calls Try.prog 16 #[.pointer (some ⟨r, 0, none⟩)] w fun e w' => e = .returned (.tuple #[.int .i64 S.alloc.1, .int .i64 S.allocE]) ∧ ∃ R', Two w0 a r S.alloc.2 R' w' ∧ Tie R' S.alloc.2 := by
  obtain ⟨oa, orf, hA, hR, hd⟩ := h.ex
  obtain ⟨h1, h2, h3, h4, h5, h6⟩ := T.lens ok
  have h7 := T.len
  have h8 := T.quota
  by_cases hl : S.left = 0
  · have e1 : S.alloc = (0, S) := by unfold ArS.alloc; rw [if_pos hl]
    have e2 : S.allocE = 9 := by unfold ArS.allocE; rw [if_pos hl]
    have hq : R.quota ≤ R.L.length := by
      unfold ArS.left at hl
      split at hl <;> omega
    rw [e1, e2]
    rw [e1] at h
    refine (ralloc_full hR (by omega) hq).mono ?_
    rintro e w' ⟨rfl, n, rfl⟩
    exact ⟨rfl, R, h.drewN n, T⟩
  · have e2 : S.allocE = 0 := by unfold ArS.allocE; rw [if_neg hl]
    have hq : (R.L.length : Int) < R.quota := by
      unfold ArS.left at hl
      split at hl
      · exact absurd rfl hl
      · omega
    obtain ⟨ok2, g1, g2, g3, g4, g5, g6⟩ := alloc_plain ok hl
    rw [e2]
    rcases hf : S.free.getLast? with _ | n
    · rw [List.getLast?_eq_none_iff] at hf
      have e3 : S.alloc = ((S.pages.length : Int) + 1, { S with pages := S.pages ++ [some zpage] }) := by unfold ArS.alloc; rw [if_neg hl, hf]; rfl
      have hrf : R.free = [] := by rw [T.free, hf]
      refine (ralloc_new hR (by omega) hq hrf (by omega)).mono ?_
      rintro e w' ⟨rfl, orf', hR', hg⟩
      refine ⟨by rw [e3, h3], _, h.stepR hA hR hd hR' hg, ?_⟩
      have hp : ∀ m, S.alloc.2.page m = if m = R.next then some zpage else S.page m := by
        intro m
        rw [e3, h3]
        exact page_more S zpage S.free S.quota m
      refine Tie.push T ?_ hp ?_ ?_ g1 g2
      · rw [h3]
        unfold ArS.page
        rw [if_pos (by omega), show ((S.pages.length : Int) + 1 - 1).toNat = S.pages.length from by omega]
        simp
      · rw [e3]; exact T.free
      · rw [e3, h3]; simp
    · obtain ⟨fr, hfr⟩ := List.getLast?_eq_some_iff.1 hf
      have hd2 : S.free.dropLast = fr := by rw [hfr]; simp
      have e3 : S.alloc = (n, { S with pages := S.pages.set (n - 1).toNat (some zpage), free := fr }) := by unfold ArS.alloc; rw [if_neg hl, hf, hd2]
      obtain ⟨b1, b2, b3⟩ := ok.free n (by rw [hfr]; simp)
      have hrf : R.free = fr ++ [n] := by rw [T.free, hfr]
      refine (ralloc_again hR (by omega) hq fr n hrf (by omega)).mono ?_
      rintro e w' ⟨rfl, orf', hR', hg⟩
      refine ⟨by rw [e3], _, h.stepR hA hR hd hR' hg, ?_⟩
      have hp : ∀ m, S.alloc.2.page m = if m = n then some zpage else S.page m := by
        intro m
        rw [e3]
        exact page_turn S n b1 (List.getElem?_eq_some_iff.1 b3).1 (some zpage) fr S.quota m
      refine Tie.push T ?_ hp ?_ ?_ g1 g2
      · unfold ArS.page
        rw [if_pos b1, b3]
        rfl
      · rw [e3]
      · rw [e3, h3]; simp
theorem Two.refDrop (n : Int) (h : Two w0 a r (S.freeS n) R w) (ok : S.Ok) (T : Tie R S) :
    Calls Try.prog 18 #[.pointer (some ⟨r, 0, none⟩), .int .i64 n] w fun e w' => e = .returned (.int .i64 (S.bad n)) ∧ ∃ R', Two w0 a r (S.freeS n) R' w' ∧ Tie R' (S.freeS n) := by
  obtain ⟨oa, orf, hA, hR, hd⟩ := h.ex
  obtain ⟨h1, h2, h3, h4, h5, h6⟩ := T.lens ok
  rcases hp : S.page n with _ | b
  · have e1 : S.bad n = 2 := by unfold ArS.bad; rw [hp]; rfl
    have e2 : S.freeS n = S := by unfold ArS.freeS; rw [hp]; rfl
    rw [e1, e2]
    rw [e2] at h
    refine (rdrop_out hR n (by omega) (T.at_none hp)).mono ?_
    rintro e w' ⟨rfl, rfl⟩
    exact ⟨rfl, R, h, T⟩
  · have e1 : S.bad n = 0 := by unfold ArS.bad; rw [hp]; rfl
    have e2 : S.freeS n = S.drop n := by unfold ArS.freeS; rw [hp]; rfl
    obtain ⟨i, hi, hL⟩ := T.at_some hp
    rw [e1]
    refine (rdrop_any hR n i (by omega) (by omega) hi (List.getElem?_eq_some_iff.1 hL).1).mono ?_
    rintro e w' ⟨rfl, orf', hR', hg⟩
    exact ⟨rfl, _, h.stepR hA hR hd hR' hg, by rw [e2]; exact T.pull hp hL⟩
end

/-- What the last region of a round wants. -/
abbrev SS (w0 : World) (a r : Nat) (S : ArS) (R : RfS) (A : Option Addr) (c : Nat) (w : World) : Prop := Hid (Two w0 a r S R w) ∧ w.cell? ⟨r, 0, none⟩ = some (.slice A R.L.length c) ∧ w.cell? ⟨r, 3, none⟩ = some (.int .i64 R.quota)
section
variable {w0 : World} {a r : Nat} {S : ArS} {R : RfS} {A : Option Addr} {c : Nat} {w : World}
theorem Two.row (h : Two w0 a r S R w) : ∃ A c, SS w0 a r S R A c w := by
  obtain ⟨oa, orf, hA, hR, hd⟩ := id h.ex
  obtain ⟨lv, fv, rfl, R⟩ := hR
  obtain ⟨q0, q1, q2, q3, _, _, _, _, hl⟩ := four_of_block R.blk
  obtain ⟨A, cp, rfl⟩ := own_form R.lown
  exact ⟨A, cp, h, q0, q3⟩
theorem SS.below (h : SS w0 a r S R A c w) {w' : World} (hb : Below w.heap.size w w') : SS w0 a r S R A c w' := by
  have hl : r < w.heap.size := World.block_lt_of_cell? w ⟨r, 0, none⟩ h.2.1
  have hc := fun j => World.cell?_of_block (w := w) (a := ⟨r, j, none⟩) (hb.block r hl)
  exact ⟨h.1.out.news hb, (hc 0).trans h.2.1, (hc 3).trans h.2.2⟩
theorem SS.drew (h : SS w0 a r S R A c w) : SS w0 a r S R A c w.drew := h.below (below_drewN (Below.refl _ _) 1)
theorem SS.used (h : SS w0 a r S R A c w) (ok : S.Ok) (T : Tie R S) :
    Calls Try.prog 20 #[.pointer (some ⟨a, 0, none⟩)] w fun e w' => e = .returned (.int .i64 (R.L.length : Int)) ∧ SS w0 a r S R A c w' := by
  refine (h.1.out.opUsed ok).mono ?_
  rintro e w' ⟨rfl, n, rfl⟩
  exact ⟨by rw [T.len], h.below (below_drewN (Below.refl _ _) n)⟩
theorem SS.left (h : SS w0 a r S R A c w) (ok : S.Ok) {x : Int} (hx : S.left = x) :
    Calls Try.prog 21 #[.pointer (some ⟨a, 0, none⟩)] w fun e w' => e = .returned (.int .i64 x) ∧ SS w0 a r S R A c w' := by
  subst hx
  refine (h.1.out.opLeft ok).mono ?_
  rintro e w' ⟨rfl, n, rfl⟩
  exact ⟨rfl, h.below (below_drewN (Below.refl _ _) n)⟩
theorem SS.pages (h : SS w0 a r S R A c w) (ok : S.Ok) :
    Calls Try.prog 23 #[.pointer (some ⟨a, 0, none⟩)] w fun e w' => ∃ B d, e = .returned (.slice B (S.upto S.pages.length).length d) ∧ SS w0 a r S R A c w' ∧ ReadsI w' B (S.upto S.pages.length) := by
  refine (h.1.out.opPages ok).mono ?_
  rintro e w' ⟨B, d, rfl, hr, hb⟩
  exact ⟨B, d, rfl, h.below hb, hr⟩
theorem SS.refPages (h : SS w0 a r S R A c w) (ok : S.Ok) (T : Tie R S) {C : Option Addr} {l : List Int} (hC : ReadsI w C l) :
    Calls Try.prog 24 #[.pointer (some ⟨r, 0, none⟩)] w fun e w' => ∃ B d, e = .returned (.slice B (S.upto S.pages.length).length d) ∧ SS w0 a r S R A c w' ∧ ReadsI w' B (S.upto S.pages.length) ∧ ReadsI w' C l := by
  refine (h.1.out.refPages ok T).mono ?_
  rintro e w' ⟨B, d, rfl, hr, hb⟩
  exact ⟨B, d, rfl, h.below hb, hr, hC.below hb (Nat.le_refl _)⟩
theorem SS.same (h : SS w0 a r S R A c w) (ok : S.Ok) {B C : Option Addr} {d e : Nat} (hB : ReadsI w B (S.upto S.pages.length)) (hC : ReadsI w C (S.upto S.pages.length)) :
    Calls Try.prog 22 #[.slice B (S.upto S.pages.length).length d, .slice C (S.upto S.pages.length).length e] w fun e w' => e = .returned (.bool true) ∧ SS w0 a r S R A c w' := by
  have h1 := upto_len S S.pages.length
  have h2 := ok.most
  refine (same_any B C _ d e hB hC (by omega)).mono ?_
  rintro e w' ⟨rfl, n, rfl⟩
  exact ⟨rfl, h.below (below_drewN (Below.refl _ _) n)⟩
end
/-! ### The reference's own writes -/
theorem pcells_set : ∀ (L : List (Int × ByteArray)) (i : Nat) (n : Int) (s0 s : ByteArray), L[i]? = some (n, s0) → pcells (L.set i (n, s)) = (pcells L).set (i * 2 + 1) (.string s)
  | [], i, n, s0, s, h => by simp at h
  | q :: t, 0, n, s0, s, h => by
    simp at h; subst h
    rfl
  | q :: t, i + 1, n, s0, s, h => by
    simp at h
    have ih := pcells_set t i n s0 s h
    rw [List.set_cons_succ, pcells_cons, pcells_cons, ih, show (i + 1) * 2 + 1 = i * 2 + 1 + 1 + 1 from by omega]
    rfl
theorem RRep.lput {base r g c : Nat} {S : RfS} {fv : Value} {w : World} (R : RRep base r S (.slice (some ⟨g, 0, none⟩) S.L.length c) fv w) {i : Nat} {n : Int} {s0 : ByteArray} (s : ByteArray) (hi : S.L[i]? = some (n, s0)) :
    RRep base r { S with L := S.L.set i (n, s) } (.slice (some ⟨g, 0, none⟩) S.L.length c) fv (w.setCell ⟨g, i * 2 + 1, none⟩ (.string s)) ∧ Grows (ROwn r (.slice (some ⟨g, 0, none⟩) S.L.length c) fv) (ROwn r (.slice (some ⟨g, 0, none⟩) S.L.length c) fv) w (w.setCell ⟨g, i * 2 + 1, none⟩ (.string s)) := by
  obtain ⟨h1, h2⟩ := World.ownsRow.stored R.lown (i * 2 + 1) (.string s)
  have hgr : g ≠ r := R.ne.1 g rfl
  have hfg : ∀ k, fv.ownBlock = some k → k ≠ g := by
    intro k hk e
    subst e
    rcases R.lown.2 with ⟨h', _⟩ | ⟨g', cap', cur, h', _, hg, _⟩
    · cases h'
    · cases h'
      exact owns_ne R.fown hg (by decide) hk.symm
  refine ⟨⟨R.lo, (Below.heap_setCell _ _ _ _ (Ne.symm hgr)).trans R.blk, ?_, owns_same R.fown fun k hk => Below.heap_setCell _ _ _ _ (hfg k hk)⟩, ⟨Chg.setCell (Chg.refl _ _) (.inr (.inr (.inl rfl))) _ _, fun k h => .inl h⟩⟩
  show World.ownsRow _ _ _ _ _ (S.L.set i (n, s)).length (pcells (S.L.set i (n, s)))
  rw [List.length_set, pcells_set S.L i n s0 s hi]
  exact h1
theorem RRep.qset {base r : Nat} {S : RfS} {lv fv : Value} {w : World} (R : RRep base r S lv fv w) (n : Int) : RRep base r { S with quota := n } lv fv (w.setCell ⟨r, 3, none⟩ (.int .i64 n)) ∧ Grows (ROwn r lv fv) (ROwn r lv fv) w (w.setCell ⟨r, 3, none⟩ (.int .i64 n)) :=
  ⟨⟨R.lo, blk_set R.blk 3 _, owns_same R.lown fun k h => Below.heap_setCell _ _ _ _ (R.ne.1 k h), owns_same R.fown fun k h => Below.heap_setCell _ _ _ _ (R.ne.2 k h)⟩, ⟨Chg.setCell (Chg.refl _ _) (.inr (.inl rfl)) _ _, fun k h => .inl h⟩⟩
section
variable {w0 : World} {a r : Nat} {S : ArS} {R : RfS} {w : World}
theorem Two.qset (h : Two w0 a r S R w) (n : Int) : Two w0 a r S { R with quota := n } (w.setCell ⟨r, 3, none⟩ (.int .i64 n)) := by
  obtain ⟨oa, orf, hA, hR, hd⟩ := id h.ex
  obtain ⟨lv, fv, rfl, hr⟩ := id hR
  obtain ⟨h1, h2⟩ := hr.qset n
  exact h.stepR hA hR hd ⟨_, _, rfl, h1⟩ h2
theorem Two.free3 (h : Two w0 a r S R w) : w.frozen? ⟨r, 3, none⟩ = false ∧ r < w.heap.size := by
  obtain ⟨oa, orf, hA, hR, hd⟩ := id h.ex
  obtain ⟨lv, fv, rfl, hr⟩ := id hR
  exact ⟨free_of_block hr.blk 3, lt_of_block hr.blk⟩
theorem SS.put {g c : Nat} (h : SS w0 a r S R (some ⟨g, 0, none⟩) c w) {i : Nat} {n : Int} {s0 : ByteArray} (s : ByteArray) (hi : R.L[i]? = some (n, s0)) : Two w0 a r S { R with L := R.L.set i (n, s) } (w.setCell ⟨g, i * 2 + 1, none⟩ (.string s)) := by
  obtain ⟨oa, orf, hA, hR, hd⟩ := id h.1.out.ex
  obtain ⟨lv, fv, rfl, hr⟩ := id hR
  have e : lv = .slice (some ⟨g, 0, none⟩) R.L.length c := by
    have h1 := cell_of_block hr.blk 0
    rw [h.2.1] at h1
    exact (Option.some.inj h1).symm
  subst e
  obtain ⟨h1, h2⟩ := hr.lput s hi
  exact h.1.out.stepR hA hR hd ⟨_, _, rfl, h1⟩ h2
theorem SS.cell {A : Option Addr} {c : Nat} (h : SS w0 a r S R A c w) {i : Nat} {n : Int} {s0 : ByteArray} (hi : R.L[i]? = some (n, s0)) :
    ∃ g, A = some ⟨g, 0, none⟩ ∧ w.cell? ⟨g, i * 2 + 1, none⟩ = some (.string s0) ∧ w.frozen? ⟨g, i * 2 + 1, none⟩ = false ∧ g < w.heap.size ∧ g ≠ r ∧ ∀ (k : Nat) (cs : Array Value), w.heap[k]? = some (Obj.cells cs 40) → g ≠ k := by
  obtain ⟨oa, orf, hA, hR, hd⟩ := id h.1.out.ex
  obtain ⟨lv, fv, rfl, hr⟩ := id hR
  have hil := (List.getElem?_eq_some_iff.1 hi).1
  have e : lv = .slice A R.L.length c := by
    have h1 := cell_of_block hr.blk 0
    rw [h.2.1] at h1
    exact (Option.some.inj h1).symm
  subst e
  rcases hr.lown.2 with ⟨h', h''⟩ | ⟨g, cap, cur, h', hb, hg, _⟩
  · omega
  · injection h' with h1 h2 h3
    subst h1
    exact ⟨g, rfl, by rw [World.ownsRow.cellAt hr.lown (i * 2 + 1) (by omega)]; exact (pcells_at _ _ _ hi).2, free_of_block hg _, lt_of_block hg, hr.ne.1 g rfl, fun k cs hk e => by
      subst e
      rw [hg] at hk; injection hk with hk; injection hk with _ hk; exact absurd hk (by decide)⟩
/-- What stays behind a store into the pages' row. -/
theorem SS.stored {g c : Nat} (h : SS w0 a r S R (some ⟨g, 0, none⟩) c w) {B j : Nat} {v : Value} (hB : w.cell? ⟨B, 3, none⟩ = some v) (hr : g ≠ r) (hgB : g ≠ B) (u : Value) :
    (w.setCell ⟨g, j, none⟩ u).cell? ⟨r, 0, none⟩ = some (.slice (some ⟨g, 0, none⟩) R.L.length c) ∧ (w.setCell ⟨g, j, none⟩ u).cell? ⟨B, 3, none⟩ = some v :=
  ⟨(World.cell?_setCell_other w _ _ u (fun e => hr (by injection e))).trans h.2.1, (World.cell?_setCell_other w _ _ u (fun e => hgB (by injection e))).trans hB⟩
end
theorem Tie.limit {R : RfS} {S : ArS} (T : Tie R S) (q : Int) : Tie { R with quota := q } { S with quota := q } := ⟨T.free, T.next, rfl, T.len, T.nodup, T.mem⟩
theorem ArS.Ok.limit {S : ArS} (ok : S.Ok) {q : Int} (h0 : 0 ≤ q) (h1 : q ≤ 4096) : ArS.Ok { S with quota := q } := ⟨ok.free, ok.nodup, ok.count, ok.most, h0, h1⟩

theorem left_low {R : RfS} {S : ArS} (T : Tie R S) (h : R.quota - (R.L.length : Int) < 0) : S.left = 0 := by
  have h1 := T.len
  have h2 := T.quota
  unfold ArS.left
  rw [if_pos (by omega)]
theorem left_high {R : RfS} {S : ArS} (T : Tie R S) (h : ¬ R.quota - (R.L.length : Int) < 0) : S.left = R.quota - (R.L.length : Int) := by
  have h1 := T.len
  have h2 := T.quota
  unfold ArS.left
  rw [if_neg (by omega)]
  omega

theorem list_of {α : Type} {n : Nat} {p : Nat → α → Prop} (h : ∀ i, i < n → ∃ x, p i x) : ∃ l : List α, l.length = n ∧ ∀ i x, l[i]? = some x → p i x := by
  induction n with
  | zero => exact ⟨[], rfl, fun i x hx => by simp at hx⟩
  | succ n ih =>
    obtain ⟨l, hl, hp⟩ := ih (fun i hi => h i (by omega))
    obtain ⟨x, hx⟩ := h n (by omega)
    refine ⟨l ++ [x], by simp [hl], fun i y hy => ?_⟩
    rw [List.getElem?_append] at hy
    split at hy
    · exact hp i y hy
    · rename_i hi
      have e : i = n := by
        rcases Nat.lt_or_ge i (n + 1) with h5 | h5
        · omega
        · rw [List.getElem?_eq_none (by simp; omega)] at hy; cases hy
      subst e
      rw [hl, Nat.sub_self] at hy
      simp at hy
      subst hy
      exact hx
/-- An operation of a script. -/
structure Opr where
  k : Int
  n : Int
  l : Int
  b : UInt8
/-- An operation, laid as a variable. -/
def Opr.cells (o : Opr) : Array Value := #[.int .i64 o.k, .int .i64 o.n, .int .i64 o.l, .int .u8 (o.b.toNat : Int)]
abbrev SO (w0 : World) (a r : Nat) (S : ArS) (R : RfS) (B : Nat) (o : Opr) (w : World) : Prop := Hid (Two w0 a r S R w) ∧ Hid (w.heap[B]? = some (.cells o.cells 40)) ∧ w.cell? ⟨B, 1, none⟩ = some (.int .i64 o.n) ∧ w.cell? ⟨B, 2, none⟩ = some (.int .i64 o.l) ∧ w.cell? ⟨B, 3, none⟩ = some (.int .u8 (o.b.toNat : Int))
theorem SO.mk' {w0 : World} {a r : Nat} {S : ArS} {R : RfS} {B : Nat} {o : Opr} {w : World} (h : Two w0 a r S R w) (hb : w.heap[B]? = some (.cells o.cells 40)) : SO w0 a r S R B o w := ⟨h, hb, cell_of_block hb 1, cell_of_block hb 2, cell_of_block hb 3⟩
theorem SO.bytes {w0 : World} {a r : Nat} {S : ArS} {R : RfS} {B : Nat} {o : Opr} {w : World} (h : SO w0 a r S R B o w) (k : Nat) (hk : o.l = (k : Int)) (hk2 : k ≤ 3000) :
    Calls Try.prog 11 #[.int .u8 (o.b.toNat : Int), .int .i64 o.l] w fun e w' => e = .returned (.slice (some ⟨w.heap.size, 0, none⟩) k k) ∧ SO w0 a r S R B o w' ∧ w'.heap[w.heap.size]? = some (.cells (bcells (List.replicate k o.b)) 5) := by
  rw [hk]
  refine (bytes_any o.b k (by omega) w).mono ?_
  rintro e w' ⟨rfl, hb, hblk⟩
  exact ⟨rfl, SO.mk' (h.1.out.news hb) (KeepO.ofBelow hb _ _ h.2.1.out), hblk⟩
theorem SO.bytesK {w0 : World} {a r : Nat} {S : ArS} {R : RfS} {B : Nat} {o : Opr} {w : World} (h : SO w0 a r S R B o w) :
    Calls Try.prog 11 #[.int .u8 (o.b.toNat : Int), .int .i64 1024] w fun e w' => e = .returned (.slice (some ⟨w.heap.size, 0, none⟩) 1024 1024) ∧ SO w0 a r S R B o w' ∧ Below w.heap.size w w' ∧ w'.heap[w.heap.size]? = some (.cells (bcells (full o.b)) 5) := by
  refine (bytes_any o.b 1024 (by omega) w).mono ?_
  rintro e w' ⟨rfl, hb, hblk⟩
  exact ⟨rfl, SO.mk' (h.1.out.news hb) (KeepO.ofBelow hb _ _ h.2.1.out), hb, hblk⟩
theorem SO.store {w0 : World} {a r : Nat} {S : ArS} {R : RfS} {B : Nat} {o : Opr} {w : World} (h : SO w0 a r S R B o w) (ok : S.Ok) (hn : (Lit.int .i64 o.n).wf = true) {g k c : Nat} (hb : w.heap[g]? = some (.cells (bcells (List.replicate k o.b)) 5)) :
    Calls Try.prog 12 #[.pointer (some ⟨a, 0, none⟩), .int .i64 o.n, .slice (some ⟨g, 0, none⟩) k c] w fun e w' => e = .returned (.int .i64 (S.storeE o.n k)) ∧ SO w0 a r (S.storeS o.n k o.b) R B o w' := by
  refine (h.1.out.opStore ok o.n hn g k c o.b hb).mono ?_
  rintro e w' ⟨rfl, h', hk⟩
  exact ⟨rfl, SO.mk' h' (hk _ _ h.2.1.out)⟩
theorem SO.store' {w0 : World} {a r : Nat} {S : ArS} {R : RfS} {B : Nat} {o : Opr} {w : World} (h : SO w0 a r S R B o w) (ok : S.Ok) (hn : (Lit.int .i64 o.n).wf = true) {g k c : Nat} (hb : w.heap[g]? = some (.cells (bcells (List.replicate k o.b)) 5)) {x : Int} {S' : ArS} (hx : S.storeE o.n k = x) (hS : S.storeS o.n k o.b = S') :
    Calls Try.prog 12 #[.pointer (some ⟨a, 0, none⟩), .int .i64 o.n, .slice (some ⟨g, 0, none⟩) k c] w fun e w' => e = .returned (.int .i64 x) ∧ SO w0 a r S' R B o w' := by
  subst hx hS
  exact SO.store h ok hn hb
theorem SO.drew {w0 : World} {a r : Nat} {S : ArS} {R : RfS} {B : Nat} {o : Opr} {w : World} (h : SO w0 a r S R B o w) : SO w0 a r S R B o w.drew := ⟨h.1.out.drewN 1, h.2.1, h.2.2.1, h.2.2.2.1, h.2.2.2.2⟩
theorem store_none {S : ArS} {n : Int} (h : S.page n = none) (k : Nat) (b : UInt8) : S.storeE n k = 2 ∧ S.storeS n k b = S := by
  unfold ArS.storeE ArS.storeS
  rw [h]
  exact ⟨rfl, rfl⟩
theorem store_len {S : ArS} {n : Int} {l : List UInt8} (h : S.page n = some l) {k : Nat} (hk : k ≠ 1024) (b : UInt8) : S.storeE n k = 15 ∧ S.storeS n k b = S := by
  unfold ArS.storeE ArS.storeS
  rw [h]
  exact ⟨by simp [hk], by rw [if_neg (fun h => hk h.2)]⟩
theorem store_put {S : ArS} {n : Int} {l : List UInt8} (h : S.page n = some l) (b : UInt8) : S.storeE n 1024 = 0 ∧ S.storeS n 1024 b = S.put n (full b) := by
  unfold ArS.storeE ArS.storeS
  rw [h]
  exact ⟨rfl, rfl⟩
theorem Tie.atI_none {R : RfS} {S : ArS} (T : Tie R S) {n : Int} (h : S.page n = none) : R.atI n = -1 := by unfold RfS.atI; rw [T.at_none h]
theorem Tie.atI_some {R : RfS} {S : ArS} (T : Tie R S) {n : Int} {b : List UInt8} (h : S.page n = some b) : ∃ i : Nat, R.atI n = (i : Int) ∧ R.L[i]? = some (n, ⟨b.toArray⟩) := by
  obtain ⟨i, h1, h2⟩ := T.at_some h
  exact ⟨i, by unfold RfS.atI; rw [h1], h2⟩
/-- How a script reads. -/
def ReadsO (w : World) (A : Option Addr) (ops : List Opr) : Prop := ∀ (i : Nat) (o : Opr), ops[i]? = some o → ∃ b off, A = some ⟨b, off, none⟩ ∧ b < w.heap.size ∧ (Lit.int .i64 o.k).wf = true ∧ (Lit.int .i64 o.n).wf = true ∧ (Lit.int .i64 o.l).wf = true ∧ w.cell? ⟨b, off + i * 4, none⟩ = some (.int .i64 o.k) ∧ w.cell? ⟨b, off + i * 4 + 1, none⟩ = some (.int .i64 o.n) ∧ w.cell? ⟨b, off + i * 4 + 2, none⟩ = some (.int .i64 o.l) ∧ w.cell? ⟨b, off + i * 4 + 3, none⟩ = some (.int .u8 (o.b.toNat : Int))
theorem ReadsO.below {w w' : World} {A : Option Addr} {l : List Opr} (h : ReadsO w A l) {k : Nat} (hb : Below k w w') (hk : w.heap.size ≤ k) : ReadsO w' A l := by
  intro i o ho
  obtain ⟨b, off, rfl, hl, k0, k1, k2, c0, c1, c2, c3⟩ := h i o ho
  have h1 := hb.block b (by omega)
  have h2 := hb.size
  have hc := fun j => World.cell?_of_block (w := w) (a := ⟨b, j, none⟩) h1
  exact ⟨b, off, rfl, by omega, k0, k1, k2, (hc _).trans c0, (hc _).trans c1, (hc _).trans c2, (hc _).trans c3⟩
section
variable {H : Type} {enc : TypeId × Value → H} {w : World} {sp : Nat → Bool} {hd : Bool}
theorem elem_opr {b o : Nat} (h : ElemAt enc Try.prog w sp hd 40 b o) : ∃ c : Opr, (Lit.int .i64 c.k).wf = true ∧ (Lit.int .i64 c.n).wf = true ∧ (Lit.int .i64 c.l).wf = true ∧ w.cell? ⟨b, o, none⟩ = some (.int .i64 c.k) ∧ w.cell? ⟨b, o + 1, none⟩ = some (.int .i64 c.n) ∧ w.cell? ⟨b, o + 2, none⟩ = some (.int .i64 c.l) ∧ w.cell? ⟨b, o + 3, none⟩ = some (.int .u8 (c.b.toNat : Int)) := by
  obtain ⟨cs, n, x, hl, hc, ht⟩ := h
  have h4 : Try.prog.cellsOf 40 = 4 := by kernel_rfl
  rw [h4] at hl hc
  match cs, hl with
  | [c0, c1, c2, c3], _ =>
    obtain ⟨xs, m, _, _, _, hxl, hf⟩ := DataW.trod_struct Try.underlying40 ht
    match xs, hxl with
    | [y0, y1, y2, y3], _ =>
      have k1 : Try.prog.cellsOf 3 = 1 := by kernel_rfl
      have k2 : Try.prog.cellsOf 5 = 1 := by kernel_rfl
      have f0 := hf 0 _ rfl
      have f1 := hf 1 _ rfl
      have f2 := hf 2 _ rfl
      have f3 := hf 3 _ rfl
      simp [k1, k2] at f0 f1 f2 f3
      obtain ⟨i0, e0, _, m0⟩ := DataW.trod_int Try.underlying3 f0
      obtain ⟨i1, e1, _, m1⟩ := DataW.trod_int Try.underlying3 f1
      obtain ⟨i2, e2, _, m2⟩ := DataW.trod_int Try.underlying3 f2
      obtain ⟨i3, e3, _, m3⟩ := DataW.trod_int Try.underlying5 f3
      simp at e0 e1 e2 e3
      subst e0 e1 e2 e3
      obtain ⟨by3, rfl⟩ := byte_of m3
      exact ⟨⟨i0, i1, i2, by3⟩, m0, m1, m2, hc 0 (by omega), hc 1 (by omega), hc 2 (by omega), hc 3 (by omega)⟩
theorem open_oprs {v : Value} {d : DataW H} {p : List MemPlace} {base : Nat} (hv : Value.okWide Try.prog w .any base 35 v) (h : DataW.Trod enc Try.prog w 0 sp hd 35 v d p) :
    ∃ A cap, ∃ vs : List Opr, v = .slice A vs.length cap ∧ ReadsO w A vs := by
  obtain ⟨a, len, cap, rfl⟩ := okWide_slice Try.underlying35 hv
  obtain ⟨fuel, hf⟩ := h
  have k4 : Try.prog.cellsOf 40 = 4 := by kernel_rfl
  rcases slice_cells Try.underlying35 (by rw [k4]; omega) hf with ⟨rfl, rfl, rfl⟩ | ⟨_, _, ad, rfl, hi⟩
  · exact ⟨_, _, [], rfl, fun i c hc => by simp at hc⟩
  · obtain ⟨cs, hl, hp⟩ := list_of (p := fun i (o : Opr) => ∃ b off, some ad = some ⟨b, off, none⟩ ∧ b < w.heap.size ∧ (Lit.int .i64 o.k).wf = true ∧ (Lit.int .i64 o.n).wf = true ∧ (Lit.int .i64 o.l).wf = true ∧ w.cell? ⟨b, off + i * 4, none⟩ = some (.int .i64 o.k) ∧ w.cell? ⟨b, off + i * 4 + 1, none⟩ = some (.int .i64 o.n) ∧ w.cell? ⟨b, off + i * 4 + 2, none⟩ = some (.int .i64 o.l) ∧ w.cell? ⟨b, off + i * 4 + 3, none⟩ = some (.int .u8 (o.b.toNat : Int))) (fun i hlt => by
      obtain ⟨b, off, rfl, hb, he⟩ := hi i hlt
      rw [k4] at he
      obtain ⟨c, h1⟩ := elem_opr he
      exact ⟨c, b, off, rfl, hb, h1⟩)
    subst hl
    exact ⟨_, _, cs, rfl, hp⟩
end
end Go.Proofs.Ytmlgockejacjeaa
