/-
  Law package 04: the law ArenaSnaps.
-/
import Derived.Test.YtmlgockejacjeaaArSnap
namespace Go.Proofs.Ytmlgockejacjeaa
open Go.RowKit Go.ChangeShapes Go.WideShapes Go.ChangeAt
set_option linter.unusedVariables false
set_option linter.unusedSimpArgs false

theorem alloc_quota (S : ArS) : S.alloc.2.quota = S.quota := by
  unfold ArS.alloc
  split
  · rfl
  · split <;> rfl
theorem stepD_quota (S : ArS) (c : UInt8) : (stepD S c).2.quota = S.quota := by
  unfold stepD ArS.freeS ArS.putS
  split
  · dsimp only; split <;> rfl
  · split
    · dsimp only; split <;> rfl
    · split
      · rfl
      · exact alloc_quota S
theorem doesD_quota (f : Nat → UInt8) (S : ArS) : ∀ j, (doesD f S j).2.quota = S.quota
  | 0 => rfl
  | j + 1 => (stepD_quota _ _).trans (doesD_quota f S j)

/-- What stands beside arena a. -/
structure SR (w1 : World) (base a b sb : Nat) (S1 : ArS) (pv fv : Value) (pbs : List (Option Nat)) (S : ArS) (own : Nat → Prop) (wr : World) : Prop where
  ar : AR base a S own wr
  low : Below base w1 wr
  bb : ∃ ownb, AR base b ⟨[], [], 50⟩ ownb wr ∧ ∀ k, ownb k → ¬ own k
  sn : SnapOf base S1 pv fv pbs wr
  s1 : ∀ k, pv.ownBlock = some k → ¬ own k
  s2 : ∀ k, fv.ownBlock = some k → ¬ own k
  sblk : wr.heap[sb]? = some (.cells #[.pointer (some ⟨a, 0, none⟩), pv, fv] 62)
  s3 : ¬ own sb
theorem own_stay {base a : Nat} {S : ArS} {own own' : Nat → Prop} {w w' : World} {P : Nat → Prop} (hP : ∀ k, P k → k < w.heap.size) (hd : ∀ k, P k → ¬ own k) (hg : Grows own own' w w') : ∀ k, P k → ¬ own' k := fun k hk ho => by
  rcases hg.news k ho with h | h
  · exact hd k hk h
  · have := hP k hk; omega
theorem AR.beside {base base' a b : Nat} {S Sb : ArS} {own own' ownb : Nat → Prop} {w w' : World} (hb : AR base' b Sb ownb w) (ha : AR base a S own w) (hd : ∀ k, ownb k → ¬ own k) (hg : Grows own own' w w') : AR base' b Sb ownb w' ∧ ∀ k, ownb k → ¬ own' k :=
  ⟨hb.stay (fun k hk => hg.chg.block k (hb.lt k hk).2 (hd k hk)) (fun k c hc => hg.chg.block k (lt_of_block hc) (ha.page_ne k c hc)), own_stay (base := base) (a := a) (S := S) (fun k hk => (hb.lt k hk).2) hd hg⟩
theorem SR.step {w1 : World} {base a b sb : Nat} {S1 S S' : ArS} {pv fv : Value} {pbs : List (Option Nat)} {own own' : Nat → Prop} {wr w' : World} (h : SR w1 base a b sb S1 pv fv pbs S own wr) (hbase : base ≤ w1.heap.size) (hA : AR base a S' own' w') (hg : Grows own own' wr w') : SR w1 base a b sb S1 pv fv pbs S' own' w' := by
  obtain ⟨ownb, hb, hd⟩ := h.bb
  obtain ⟨hb', hd'⟩ := hb.beside h.ar hd hg
  obtain ⟨e1, e2, e3⟩ := h.sn.step hg h.s1 h.s2 h.ar.page_ne
  refine ⟨hA, h.low.trans (hg.chg.below (fun i hi ho => by have := (h.ar.lt i ho).1; omega) (Nat.le_trans hbase h.low.size)), ⟨ownb, hb', hd'⟩, e1, e2, e3, blk_grows h.sblk hg h.s3, fun ho => ?_⟩
  rcases hg.news sb ho with h4 | h4
  · exact h.s3 h4
  · have := lt_of_block h.sblk; omega
/-- A row of numbers beside the arena. -/
structure RowAt (base : Nat) (l : List Int) (v : Value) (own : Nat → Prop) (w : World) : Prop where
  row : w.ownsRow base 3 1 v l.length (l.map (Value.int .i64))
  off : ∀ k, v.ownBlock = some k → ¬ own k
theorem RowAt.step {base : Nat} {l : List Int} {v : Value} {own own' : Nat → Prop} {w w' : World} (h : RowAt base l v own w) (hg : Grows own own' w w') : RowAt base l v own' w' := by
  refine ⟨owns_same h.row fun k hk => hg.chg.block k (h.row.lt k hk).2 (h.off k hk), fun k hk ho => ?_⟩
  rcases hg.news k ho with h4 | h4
  · exact h.off k hk h4
  · have := (h.row.lt k hk).2; omega

theorem SnapOf.up {base base' : Nat} {S : ArS} {pv fv : Value} {pbs : List (Option Nat)} {w : World} (h : SnapOf base S pv fv pbs w) (hle : base' ≤ base) : SnapOf base' S pv fv pbs w := ⟨owns_up h.pown hle, owns_up h.fown hle, h.len, h.at_, h.gap⟩
/-- Restore, seen from its caller. -/
theorem SR.restore {w1 : World} {base a b sb : Nat} {S1 S : ArS} {pv fv : Value} {pbs : List (Option Nat)} {own : Nat → Prop} {wr : World} (h : SR w1 base a b sb S1 pv fv pbs S own wr) (hbase : base ≤ w1.heap.size) (ok : S1.Ok) (hq : S.quota = S1.quota) :
    Calls Try.prog 27 #[.pointer (some ⟨a, 0, none⟩), .agg #[.pointer (some ⟨a, 0, none⟩), pv, fv]] wr fun e w' => e = .returned (.int .i64 0) ∧ ∃ own', SR w1 base a b sb S1 pv fv pbs S1 own' w' ∧ Grows own own' wr w' := by
  refine (restore_any h.ar h.sn ok).mono ?_
  rintro e w' ⟨rfl, own', hA, hg⟩
  have hS : ({ S1 with quota := S.quota } : ArS) = S1 := by rw [hq]
  rw [hS] at hA
  exact ⟨rfl, own', h.step hbase hA hg, hg⟩
theorem SR.news {w1 : World} {base a b sb : Nat} {S1 S : ArS} {pv fv : Value} {pbs : List (Option Nat)} {own : Nat → Prop} {wr w' : World} (h : SR w1 base a b sb S1 pv fv pbs S own wr) (hbase : base ≤ w1.heap.size) (hb : Below wr.heap.size wr w') : SR w1 base a b sb S1 pv fv pbs S own w' := h.step hbase (h.ar.ofBelow hb) (Grows.ofBelow hb)
/-- The other arena's Restore of this arena's picture. -/
theorem SR.other {w1 : World} {base a b sb : Nat} {S1 S : ArS} {A B : Option Addr} {n m c d : Nat} {pbs : List (Option Nat)} {own : Nat → Prop} {wr : World} (h : SR w1 base a b sb S1 (.slice A n c) (.slice B m d) pbs S own wr) (hba : b ≠ a) :
    Calls Try.prog 27 #[.pointer (some ⟨b, 0, none⟩), .agg #[.pointer (some ⟨a, 0, none⟩), .slice A n c, .slice B m d]] wr fun e w' => e = .returned (.int .i64 15) ∧ Below wr.heap.size wr w' := by
  obtain ⟨ownb, hb, _⟩ := h.bb
  obtain ⟨p1, f1, q1, _, R1⟩ := hb
  obtain ⟨p2, f2, q2, _, R2⟩ := h.ar
  exact restore_wrong wr b a (Ne.symm hba) R1.blk R2.blk A B n m c d
theorem SR.usedB {w1 : World} {base a b sb : Nat} {S1 S : ArS} {pv fv : Value} {pbs : List (Option Nat)} {own : Nat → Prop} {wr : World} (h : SR w1 base a b sb S1 pv fv pbs S own wr) :
    Calls Try.prog 20 #[.pointer (some ⟨b, 0, none⟩)] wr fun e w' => e = .returned (.int .i64 0) ∧ ∃ n, w' = wr.drewN n := by
  obtain ⟨ownb, hb, _⟩ := h.bb
  exact used_any hb (okS _ _ _ (by simp) (by simp) (by simp) (by simp) (by omega))
/-- does, seen from its caller. -/
theorem SR.does {w w1 : World} {base a b sb : Nat} {S1 S : ArS} {pv fv : Value} {pbs : List (Option Nat)} {own : Nat → Prop} {wr : World} (h : SR w1 base a b sb S1 pv fv pbs S own wr) (hbase : base = w1.heap.size) (ok : S.Ok) (A : Option Addr) (len cap : Nat) (f : Nat → UInt8) (hr : ReadsB w A len f) (hb0 : Below w.heap.size w w1) :
    Calls Try.prog 25 #[.pointer (some ⟨a, 0, none⟩), .slice A len cap] wr fun e w' => ∃ A' c' own', e = .returned (.slice A' (doesL f S len).length c') ∧ SR w1 base a b sb S1 pv fv pbs (doesD f S (min len 100)).2 own' w' ∧ Grows own own' wr w' ∧ RowAt base (doesL f S len) (.slice A' (doesL f S len).length c') own' w' := by
  subst hbase
  refine (does_any h.ar ok A len cap f (fun w' hb => (hr.below hb0 (Nat.le_refl _)).below (h.low.trans hb) (Nat.le_refl _)) h.low.size).mono ?_
  rintro e w' ⟨A', c', own', rfl, hD⟩
  exact ⟨A', c', own', rfl, h.step (Nat.le_refl _) hD.ar hD.gr, hD.gr, ⟨owns_up hD.out h.low.size, hD.off⟩⟩
theorem doesL_len (f : Nat → UInt8) {S : ArS} (ok : S.Ok) (len : Nat) : (doesL f S len).length ≤ 1000000 := by
  have h1 := doesD_len f S (min len 100)
  have h2 := upto_len (doesD f S (min len 100)).2 (doesD f S (min len 100)).2.pages.length
  have h3 := (doesD_ok f ok (min len 100)).most
  unfold doesL
  rw [List.length_append]
  omega

set_option maxRecDepth 8000 in
set_option maxHeartbeats 2000000 in
theorem arenaSnaps_any (A1 A2 A3 : Option Addr) (n1 n2 n3 c1 c2 c3 : Nat) (f1 f2 f3 : Nat → UInt8) (w : World) (hr1 : ReadsB w A1 n1 f1) (hr2 : ReadsB w A2 n2 f2) (hr3 : ReadsB w A3 n3 f3) :
    Calls Try.prog 7 #[.slice A1 n1 c1, .slice A2 n2 c2, .slice A3 n3 c3] w fun e w' => e = .returned (.bool true) ∧ Below w.heap.size w w' := by
  have hnot := @unary_not Try.prog
  have R1 := Lib.hid hr1
  have R2 := Lib.hid hr2
  have R3 := Lib.hid hr3
  clear hr1 hr2 hr3
  go_enter Try.func7, Try.ntmps7
  go_wp2_with fail
  refine (awake_any w).mono ?_
  rintro e w1 ⟨rfl, hb0⟩
  have HB0 := Lib.hid hb0; clear hb0
  go_wp2_with fail
  refine (new_any 50 (by omega) (by omega) w1).mono ?_
  rintro e w2 ⟨rfl, hb, owna, hA, hge⟩
  have HA2 := Lib.hid hA
  have HB2 := Lib.hid hb
  clear hb hA hge
  go_wp2_with fail
  refine (new_any 50 (by omega) (by omega) w2).mono ?_
  rintro e w3 ⟨rfl, hb, ownb, hA, hge⟩
  have HA3 := Lib.hid (HA2.out.ofBelow hb)
  have HB3 : Hid (Below w1.heap.size w1 w3) := HB2.out.trans (hb.mono HB2.out.size)
  have HBb : Hid (AR w1.heap.size w2.heap.size ⟨[], [], 50⟩ ownb w3) := (by
    obtain ⟨pv, fv, pbs, e, R⟩ := hA
    exact ⟨pv, fv, pbs, e, ⟨Nat.le_trans HB2.out.size (Nat.le_refl _), R.blk, owns_up R.pown HB2.out.size, owns_up R.fown HB2.out.size, R.len, R.at_, R.gap⟩⟩ : AR w1.heap.size w2.heap.size ⟨[], [], 50⟩ ownb w3)
  have HDb : Hid (∀ k, ownb k → ¬ owna k) := (fun k hk ho => by have := hge k hk; have := (HA2.out.lt k ho).2; omega : ∀ k, ownb k → ¬ owna k)
  have hba : w2.heap.size ≠ w1.heap.size := by have := (HA2.out.lt w1.heap.size (by obtain ⟨pv, fv, pbs, rfl, R⟩ := HA2.out; exact .inl rfl)).2; omega
  have hsz23 := hb.size
  clear hb hA hge
  go_wp2_with fail
  have hok0 : ArS.Ok ⟨[], [], 50⟩ := okS _ _ _ (by simp) (by simp) (by simp) (by simp) (by omega)
  have HOK0 := Lib.hid hok0; clear hok0
  refine (does_any HA3.out HOK0.out A1 n1 c1 f1 (fun w' hb => R1.out.below (HB0.out.trans ((HB3.out.trans hb).mono HB0.out.size)) (Nat.le_refl _)) HB3.out.size).mono ?_
  rintro e w4 ⟨B1, d1, own4, rfl, hD⟩
  have HA4 := Lib.hid hD.ar
  have HG4 := Lib.hid hD.gr
  obtain ⟨hb4, hd4⟩ := HBb.out.beside HA3.out HDb.out hD.gr
  have HBb4 := Lib.hid hb4
  have HDb4 := Lib.hid hd4
  have HL4 : Hid (Below w1.heap.size w1 w4) := HB3.out.trans (hD.gr.chg.below (fun i hi ho => by have := (HA3.out.lt i ho).1; omega) HB3.out.size)
  have HOK4 := Lib.hid (doesD_ok f1 HOK0.out (min n1 100))
  have HQ4 : Hid ((doesD f1 ⟨[], [], 50⟩ (min n1 100)).2.quota = 50) := doesD_quota f1 _ _
  clear hD hb4 hd4
  generalize (doesD f1 ⟨[], [], 50⟩ (min n1 100)).2 = S1 at *
  generalize (doesL f1 ⟨[], [], 50⟩ n1).length = len1 at *
  go_wp2_with fail
  refine (snap_any HA4.out HOK4.out).mono ?_
  rintro e w5 ⟨pv, fv, pbs, rfl, hb, hs⟩
  obtain ⟨A5, c5, rfl⟩ := own_form hs.pown
  obtain ⟨B5, d5, rfl⟩ := own_form hs.fown
  have hlo : ∀ k, own4 k → k < w4.heap.size := fun k hk => (HA4.out.lt k hk).2
  have hSR : SR w1 w1.heap.size w1.heap.size w2.heap.size w5.heap.size S1 (.slice A5 pbs.length c5) (.slice B5 S1.free.length d5) pbs S1 own4 (w5.alloc (.cells #[.pointer (some ⟨w1.heap.size, 0, none⟩), .slice A5 pbs.length c5, .slice B5 S1.free.length d5] 62)) := by
    have hb' : Below w4.heap.size w4 (w5.alloc (.cells #[.pointer (some ⟨w1.heap.size, 0, none⟩), .slice A5 pbs.length c5, .slice B5 S1.free.length d5] 62)) := hb.alloc hb.size _
    have hsn := (hs.up HL4.out.size).step (own := own4) (own' := own4) (Grows.ofBelow ((Below.refl _ _).alloc (Nat.le_refl _) (.cells #[.pointer (some ⟨w1.heap.size, 0, none⟩), .slice A5 pbs.length c5, .slice B5 S1.free.length d5] 62))) (fun k hk ho => by have := hlo k ho; have := (hs.pown.lt k hk).1; omega) (fun k hk ho => by have := hlo k ho; have := (hs.fown.lt k hk).1; omega) ((HA4.out.ofBelow hb).page_ne)
    exact ⟨HA4.out.ofBelow hb', HL4.out.trans (hb'.mono HL4.out.size), ⟨ownb, HBb4.out.ofBelow hb', HDb4.out⟩, hsn.1, hsn.2.1, hsn.2.2, heap_alloc_new _ _, fun ho => by have := hlo _ ho; have := hb.size; omega⟩
  have K6 := Lib.hid hSR
  clear hs hb hSR hlo
  go_wp2_with fail
  refine (K6.out.does rfl HOK4.out A3 n3 c3 f3 R3.out HB0.out).mono ?_
  rintro e w7 ⟨A7, d7, own7, rfl, hsr, -, hrow⟩
  have K7 := Lib.hid hsr
  have W7 := Lib.hid hrow
  have HOK7 := Lib.hid (doesD_ok f3 HOK4.out (min n3 100))
  have HQ7 : Hid ((doesD f3 S1 (min n3 100)).2.quota = S1.quota) := doesD_quota f3 _ _
  have HLL := Lib.hid (doesL_len f3 HOK4.out n3)
  clear hsr hrow
  generalize (doesD f3 S1 (min n3 100)).2 = S7 at *
  obtain ⟨L, hL⟩ : ∃ L, L = doesL f3 S1 n3 := ⟨_, rfl⟩
  rw [← hL] at W7 HLL ⊢
  have HL := Lib.hid hL
  clear hL
  go_wp2_with fail
  go_loopw [13] (fun i wr => ∃ j : Nat, j ≤ 2 ∧ i = .int .i64 j ∧ ∃ own S, Hid S.Ok ∧ Hid (S.quota = S1.quota) ∧ Hid (SR w1 w1.heap.size w1.heap.size w2.heap.size w5.heap.size S1 (.slice A5 pbs.length c5) (.slice B5 S1.free.length d5) pbs S own wr) ∧ Hid (RowAt w1.heap.size L (.slice A7 L.length d7) own wr)) (fun i _ => 2 - (intOf i).toNat)
  case atStart => exact ⟨0, by omega, rfl, own7, S7, HOK7, HQ7, K7, W7⟩
  case round =>
    obtain ⟨j, hj, rfl, own, S, HO, HQ, K, W⟩ := hrel
    obtain ⟨z0, z1, z2, y0, y1, y2, lz⟩ := three_of_block K.out.sblk
    by_cases hlt : j < 2
    · go_wp2_with fail
      refine (K.out.restore (Nat.le_refl _) HOK4.out HQ.out).mono ?_
      rintro e w8 ⟨rfl, own8, hsr, hg⟩
      have K8 := Lib.hid hsr
      have W8 := Lib.hid (W.out.step hg)
      clear hsr hg
      go_wp2_with fail
      refine (K8.out.does rfl HOK4.out A2 n2 c2 f2 R2.out HB0.out).mono ?_
      rintro e w9 ⟨A9, d9, own9, rfl, hsr, hg, -⟩
      have K9 := Lib.hid hsr
      have W9 := Lib.hid (W8.out.step hg)
      have HQ9 : Hid ((doesD f2 S1 (min n2 100)).2.quota = S1.quota) := doesD_quota f2 _ _
      clear hsr hg z0 z1 z2 y0 y1 y2 lz
      obtain ⟨z0, z1, z2, y0, y1, y2, lz⟩ := three_of_block K9.out.sblk
      go_wp2_with fail
      refine (K9.out.restore (Nat.le_refl _) HOK4.out HQ9.out).mono ?_
      rintro e w10 ⟨rfl, own10, hsr, hg⟩
      have K10 := Lib.hid hsr
      have W10 := Lib.hid (W9.out.step hg)
      clear hsr hg
      go_wp2_with fail
      refine (K10.out.does rfl HOK4.out A3 n3 c3 f3 R3.out HB0.out).mono ?_
      rintro e w11 ⟨A11, d11, own11, rfl, hsr, hg, hrow⟩
      have K11 := Lib.hid hsr
      have W11 := Lib.hid (W10.out.step hg)
      rw [← HL.out] at hrow
      have X11 := Lib.hid hrow
      have HOK11 := Lib.hid (doesD_ok f3 HOK4.out (min n3 100))
      have HQ11 : Hid ((doesD f3 S1 (min n3 100)).2.quota = S1.quota) := doesD_quota f3 _ _
      rw [← HL.out]
      clear hsr hg hrow
      go_wp2_with fail
      refine (same_any A11 A7 L d11 d7 (ReadsI.of X11.out.row) (ReadsI.of W11.out.row) HLL.out).mono ?_
      rintro e w12 ⟨rfl, n12, rfl⟩
      go_wp2_with fail
      exact ⟨⟨j + 1, by omega, by go_num, own11, _, HOK11, HQ11, Lib.hid (K11.out.news (Nat.le_refl _) (below_drewN (Below.refl _ _) n12)), Lib.hid (W11.out.step (Grows.drewN own11 w11 n12))⟩, by simp [intOf]; omega⟩
    · have hneq := neq_none
      go_wp2_with fail
      refine (K.out.other hba).mono ?_
      rintro e w8 ⟨rfl, hb⟩
      have K8 := Lib.hid (K.out.news (Nat.le_refl _) hb)
      clear hb z0 z1 z2 y0 y1 y2 lz
      go_wp2_with fail
      refine K8.out.usedB.mono ?_
      rintro e w9 ⟨rfl, n9, rfl⟩
      have K9 := Lib.hid (K8.out.news (Nat.le_refl _) (below_drewN (Below.refl _ _) n9))
      go_wp2_with fail
      refine (restore_none _ _ _ _ _ _ _ _).mono ?_
      rintro e w10 ⟨rfl, hb⟩
      have K10 := Lib.hid (K9.out.news (Nat.le_refl _) hb)
      obtain ⟨z0, z1, z2, y0, y1, y2, lz⟩ := three_of_block K10.out.sblk
      clear hb
      go_wp2_with fail
      refine (restore_nil _ _ _ _ _ _ _ _).mono ?_
      rintro e w11 ⟨rfl, hb⟩
      have K11 := Lib.hid (K10.out.news (Nat.le_refl _) hb)
      clear hb z0 z1 z2 y0 y1 y2 lz
      go_wp2_with fail
      refine (snap_nil _).mono ?_
      rintro e w12 ⟨rfl, hb⟩
      have K12 := Lib.hid (K11.out.news (Nat.le_refl _) hb)
      clear hb
      go_wp2_with fail
      refine (restore_none _ _ _ _ _ _ _ _).mono ?_
      rintro e w13 ⟨rfl, hb⟩
      have K13 := Lib.hid (K12.out.news (Nat.le_refl _) hb)
      clear hb
      go_wp2_with fail
      go_ret
      exact ⟨rfl, HB0.out.trans (K13.out.low.mono HB0.out.size)⟩

theorem arenaSnaps_walk {H : Type} {enc : TypeId × Value → H} {sp0 sp1 sp2 : Nat → Bool} {hd0 hd1 hd2 : Bool} {d0 d1 d2 : DataW H} {p0 p1 p2 : List MemPlace} {b0 b1 b2 : Nat} (v0 v1 v2 : Value) (w : World)
    (hv0 : Value.okWide Try.prog w .any b0 29 v0) (h0 : DataW.Trod enc Try.prog w 0 sp0 hd0 29 v0 d0 p0)
    (hv1 : Value.okWide Try.prog w .any b1 29 v1) (h1 : DataW.Trod enc Try.prog w 0 sp1 hd1 29 v1 d1 p1)
    (hv2 : Value.okWide Try.prog w .any b2 29 v2) (h2 : DataW.Trod enc Try.prog w 0 sp2 hd2 29 v2 d2 p2) :
    Calls Try.prog 7 #[v0, v1, v2] w fun e w' => e = .returned (.bool true) ∧ Below w.heap.size w w' := by
  obtain ⟨A0, l0, c0, f0, rfl, r0, _⟩ := open_bytes v0 w hv0 h0
  obtain ⟨A1, l1, c1, f1, rfl, r1, _⟩ := open_bytes v1 w hv1 h1
  obtain ⟨A2, l2, c2, f2, rfl, r2, _⟩ := open_bytes v2 w hv2 h2
  exact arenaSnaps_any A0 A1 A2 l0 l1 l2 c0 c1 c2 f0 f1 f2 w r0 r1 r2
end Go.Proofs.Ytmlgockejacjeaa
