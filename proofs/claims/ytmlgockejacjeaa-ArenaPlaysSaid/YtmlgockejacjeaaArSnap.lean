/-
  Package arena: clone, Snap, Restore.
-/
import Derived.Test.YtmlgockejacjeaaArDoes
import Derived.Deep.RegionHeld
import Derived.LaidEql
namespace Go.Proofs.Ytmlgockejacjeaa
open Go.RowKit
set_option linter.unusedVariables false
set_option linter.unusedSimpArgs false

theorem cloneP_own {base : Nat} {v : Value} {n : Nat} {xs : List Value} {w : World} (h : w.ownsRow base 68 1 v n xs) (h1 : ∀ u ∈ xs, u.oneCell' = true) (hn : n ≤ 1000000) :
    Calls Try.prog 32 #[v] w fun e w' => ∃ v', e = .returned v' ∧ w'.ownsRow w.heap.size 68 1 v' n xs ∧ Below w.heap.size w w' := by
  have hl : xs.length = n := by rw [h.1]; omega
  rcases h.2 with ⟨rfl, rfl⟩ | ⟨g, cap, cur, rfl, _, hg, _⟩
  · have hx : xs = [] := List.eq_nil_of_length_eq_zero hl
    subst hx
    refine (cloneP_nil w).mono ?_
    rintro e w' ⟨rfl, rfl⟩
    exact ⟨_, rfl, World.ownsRow_nil _ _ _ _, Below.refl _ _⟩
  · subst hl
    refine (cloneP_any g 0 cap xs w (fun j u hj => by have := h.cells (g := g) rfl j u hj; rwa [Addr.add_lit] at this) h1 hn (.inr (lt_of_block hg))).mono ?_
    rintro e w' ⟨v, rfl, ho, hb, _⟩
    exact ⟨_, rfl, ho, hb⟩
theorem cloneI_own {base : Nat} {v : Value} {n : Nat} {xs : List Value} {w : World} (h : w.ownsRow base 3 1 v n xs) (h1 : ∀ u ∈ xs, u.oneCell' = true) (hn : n ≤ 1000000) :
    Calls Try.prog 33 #[v] w fun e w' => ∃ v', e = .returned v' ∧ w'.ownsRow w.heap.size 3 1 v' n xs ∧ Below w.heap.size w w' := by
  have hl : xs.length = n := by rw [h.1]; omega
  rcases h.2 with ⟨rfl, rfl⟩ | ⟨g, cap, cur, rfl, _, hg, _⟩
  · have hx : xs = [] := List.eq_nil_of_length_eq_zero hl
    subst hx
    refine (cloneI_nil w).mono ?_
    rintro e w' ⟨rfl, rfl⟩
    exact ⟨_, rfl, World.ownsRow_nil _ _ _ _, Below.refl _ _⟩
  · subst hl
    refine (cloneI_any g 0 cap xs w (fun j u hj => by have := h.cells (g := g) rfl j u hj; rwa [Addr.add_lit] at this) h1 hn (.inr (lt_of_block hg))).mono ?_
    rintro e w' ⟨v, rfl, ho, hb, _⟩
    exact ⟨_, rfl, ho, hb⟩
theorem owns_below {w w' : World} {base k : Nat} {e : TypeId} {size : Nat} {v : Value} {n : Nat} {xs : List Value} (h : w.ownsRow base e size v n xs) (hb : Below k w w') (hk : w.heap.size ≤ k) : w'.ownsRow base e size v n xs :=
  owns_same h fun i hi => hb.block i (by have := (h.lt i hi).2; omega)
theorem owns_up {w : World} {base base' : Nat} {e : TypeId} {size : Nat} {v : Value} {n : Nat} {xs : List Value} (h : w.ownsRow base e size v n xs) (hle : base' ≤ base) : w.ownsRow base' e size v n xs := by
  refine ⟨h.1, ?_⟩
  rcases h.2 with hn | ⟨g, cap, cur, rfl, hb, hg⟩
  · exact .inl hn
  · exact .inr ⟨g, cap, cur, rfl, by omega, hg⟩

/-- What stands while clone's region runs. -/
theorem keepC {k : Nat} {W0 w' : World} {x y : Value} {t : TypeId} (hblk : W0.heap[k]? = some (.cells #[x, y] t)) (hb : Hid (Below (k + 1) W0 w')) : Hid (Below (k + 1) W0 w') ∧ w'.cell? ⟨k, 0, none⟩ = some x ∧ w'.cell? ⟨k, 1, none⟩ = some y := by
  have h := blk_below hblk hb.out (Nat.lt_succ_self k)
  exact ⟨hb, cell_of_block h 0, cell_of_block h 1⟩

theorem clone_any {base : Nat} {pv fv : Value} {np nf : Nat} {xp xf : List Value} {w : World} (hp : w.ownsRow base 68 1 pv np xp) (hf : w.ownsRow base 3 1 fv nf xf) (h1 : ∀ u ∈ xp, u.oneCell' = true) (h2 : ∀ u ∈ xf, u.oneCell' = true) (n1 : np ≤ 1000000) (n2 : nf ≤ 1000000) :
    Calls Try.prog 31 #[.agg #[pv, fv]] w fun e w' => ∃ pv' fv', e = .returned (.agg #[pv', fv']) ∧ w'.ownsRow w.heap.size 68 1 pv' np xp ∧ w'.ownsRow w.heap.size 3 1 fv' nf xf ∧ Below w.heap.size w w' := by
  obtain ⟨A, cp, rfl⟩ := own_form hp
  obtain ⟨B, cf, rfl⟩ := own_form hf
  have HP := Lib.hid hp
  have HF := Lib.hid hf
  have H1 := Lib.hid h1
  have H2 := Lib.hid h2
  clear hp hf h1 h2
  go_enter Try.func31, Try.ntmps31
  go_wp2_with fail
  obtain ⟨W0, hW0⟩ : ∃ W0, W0 = (w.alloc (.cells #[.slice A np cp, .slice B nf cf] 60)).alloc (.cells #[.slice none 0 0, .slice none 0 0] 60) := ⟨_, rfl⟩
  have hs0 : W0.heap.size = w.heap.size + 2 := by rw [hW0]; simp
  have hB1 : Hid (W0.heap[w.heap.size]? = some (.cells #[.slice A np cp, .slice B nf cf] 60)) := (by rw [hW0]; exact blk_alloc (heap_alloc_new _ _) _ : W0.heap[w.heap.size]? = some (.cells #[.slice A np cp, .slice B nf cf] 60))
  have hB2 : Hid (W0.heap[w.heap.size + 1]? = some (.cells #[.slice none 0 0, .slice none 0 0] 60)) := (by rw [hW0]; exact heap_alloc_at _ _ _ (by simp) : W0.heap[w.heap.size + 1]? = some (.cells #[.slice none 0 0, .slice none 0 0] 60))
  have HP0 : Hid (W0.ownsRow base 68 1 (.slice A np cp) np xp) := (by rw [hW0]; exact (HP.out.alloc _).alloc _ : W0.ownsRow base 68 1 (.slice A np cp) np xp)
  have HF0 : Hid (W0.ownsRow base 3 1 (.slice B nf cf) nf xf) := (by rw [hW0]; exact (HF.out.alloc _).alloc _ : W0.ownsRow base 3 1 (.slice B nf cf) nf xf)
  have HBW : Hid (Below w.heap.size w W0) := (by rw [hW0]; exact ((Below.refl _ _).alloc (Nat.le_refl _) _).alloc (by simp) _ : Below w.heap.size w W0)
  rw [← hW0]
  clear hW0
  have hI : Hid (Below (w.heap.size + 1) W0.drew W0.drew) := Below.refl _ _
  go_region_held (fun w' => Hid (Below (w.heap.size + 1) W0.drew w') ∧ w'.cell? ⟨w.heap.size, 0, none⟩ = some (.slice A np cp) ∧ w'.cell? ⟨w.heap.size, 1, none⟩ = some (.slice B nf cf))
    (first
      | assumption
      | exact keepC (W0 := W0.drew) hB1.out hI
      | exact keepC (W0 := W0.drew) hB1.out HK2
      | exact keepC (W0 := W0.drew) hB1.out HK1
      | exact keepC (W0 := W0.drew) hB1.out (Lib.hid ((HK2.out.setCell (p := ⟨w.heap.size + 1, 0, none⟩) (Nat.le_refl _) _).setCell (p := ⟨w.heap.size + 1, 1, none⟩) (Nat.le_refl _) _)))
    (first
      | (go_at_call 32; refine (cloneP_own (w := W0.drew) HP0.out H1.out n1).mono ?_; rintro e w1 ⟨pv', rfl, ho, hb⟩; obtain ⟨A1, c1, rfl⟩ := own_form ho; have HO1 := Lib.hid ho; have HK1 : Hid (Below (w.heap.size + 1) W0.drew w1) := hb.mono (by show _ ≤ W0.heap.size; omega); have HB1 := Lib.hid hb; clear ho hb)
      | (go_at_call 33; refine (cloneI_own (w := w1) (owns_below (w := W0.drew) HF0.out HB1.out (Nat.le_refl _)) H2.out n2).mono ?_; rintro e w2 ⟨fv', rfl, ho, hb⟩; obtain ⟨A2, c2, rfl⟩ := own_form ho; have HO2 := Lib.hid ho; have HK2 : Hid (Below (w.heap.size + 1) W0.drew w2) := HK1.out.trans (hb.mono (by have := HB1.out.size; have e : W0.drew.heap.size = W0.heap.size := rfl; omega)); have HB2 := Lib.hid hb; obtain ⟨z0, z1, y0, y1, lz⟩ := two_of_block (blk_below (blk_below (w := W0.drew) hB2.out HB1.out (by show _ < W0.heap.size; omega)) hb (by have := HB1.out.size; have e : W0.drew.heap.size = W0.heap.size := rfl; omega)); clear ho hb))
  all_goals
    go_wp2_with fail
    refine bodyPost_ret (v := .agg #[.slice A1 np c1, .slice A2 nf c2]) (by simp [results, Try.results31, go_sem, z0, z1, lz]) rfl ?_
    have hs1 := HB1.out.size
    have e0 : W0.drew.heap.size = W0.heap.size := rfl
    have p2 : ∀ (k : Nat), W0.heap.size ≤ k → ((w2.setCell ⟨w.heap.size + 1, 0, none⟩ (.slice A1 np c1)).setCell ⟨w.heap.size + 1, 1, none⟩ (.slice A2 nf c2)).heap[k]? = w2.heap[k]? := fun k hk => (Below.heap_setCell _ _ _ _ (by show k ≠ w.heap.size + 1; omega)).trans (Below.heap_setCell _ _ _ _ (by show k ≠ w.heap.size + 1; omega))
    refine ⟨_, _, rfl, ?_, ?_, ?_⟩
    · exact owns_up (owns_same (owns_below HO1.out HB2.out (Nat.le_refl _)) fun k hk => p2 k (HO1.out.lt k hk).1) (by omega)
    · exact owns_up (owns_same HO2.out fun k hk => p2 k (by have := (HO2.out.lt k hk).1; omega)) (by omega)
    · exact HBW.out.trans (((below_drewN (Below.refl _ _) 1).trans (HK2.out.mono (by omega))).trans (((Below.refl _ _).setCell (p := ⟨w.heap.size + 1, 0, none⟩) (Nat.le_succ _) _).setCell (p := ⟨w.heap.size + 1, 1, none⟩) (Nat.le_succ _) _))

/-- A picture's state: the rows are its own. -/
structure SnapOf (base : Nat) (S : ArS) (pv fv : Value) (pbs : List (Option Nat)) (w : World) : Prop where
  pown : w.ownsRow base 68 1 pv pbs.length (pbs.map ptrV)
  fown : w.ownsRow base 3 1 fv S.free.length (S.free.map (Value.int .i64))
  len : pbs.length = S.pages.length
  at_ : ∀ (i : Nat) (b : Nat), pbs[i]? = some (some b) → ∃ l : List UInt8, S.pages[i]? = some (some l) ∧ l.length = 1024 ∧ w.heap[b]? = some (Obj.cells (bcells l) 69)
  gap : ∀ i : Nat, pbs[i]? = some none → S.pages[i]? = some none
theorem SnapOf.step {base : Nat} {S : ArS} {pv fv : Value} {pbs : List (Option Nat)} {own own' : Nat → Prop} {w w' : World} (h : SnapOf base S pv fv pbs w) (hg : Grows own own' w w') (h1 : ∀ k, pv.ownBlock = some k → ¬ own k) (h2 : ∀ k, fv.ownBlock = some k → ¬ own k) (h3 : ∀ (b : Nat) (c : Array Value), w.heap[b]? = some (Obj.cells c 69) → ¬ own b) :
    SnapOf base S pv fv pbs w' ∧ (∀ k, pv.ownBlock = some k → ¬ own' k) ∧ (∀ k, fv.ownBlock = some k → ¬ own' k) := by
  refine ⟨⟨owns_same h.pown fun k hk => hg.chg.block k (h.pown.lt k hk).2 (h1 k hk), owns_same h.fown fun k hk => hg.chg.block k (h.fown.lt k hk).2 (h2 k hk), h.len, fun i b hb => ?_, h.gap⟩, fun k hk ho => ?_, fun k hk ho => ?_⟩
  · obtain ⟨l, e1, e2, e3⟩ := h.at_ i b hb
    exact ⟨l, e1, e2, blk_grows e3 hg (h3 b _ e3)⟩
  · rcases hg.news k ho with h4 | h4
    · exact h1 k hk h4
    · have := (h.pown.lt k hk).2; omega
  · rcases hg.news k ho with h4 | h4
    · exact h2 k hk h4
    · have := (h.fown.lt k hk).2; omega
theorem AR.page_ne {base a : Nat} {S : ArS} {own : Nat → Prop} {w : World} (h : AR base a S own w) : ∀ (b : Nat) (c : Array Value), w.heap[b]? = some (Obj.cells c 69) → ¬ own b := by
  obtain ⟨pv, fv, pbs, rfl, R⟩ := h
  exact fun b c hb => R.page_ne hb
theorem ptrs_one (pbs : List (Option Nat)) : ∀ u ∈ pbs.map ptrV, u.oneCell' = true := by
  intro u hu
  simp at hu
  obtain ⟨p, _, rfl⟩ := hu
  cases p <;> rfl
theorem ints_one (l : List Int) : ∀ u ∈ l.map (Value.int .i64), u.oneCell' = true := by
  intro u hu
  simp at hu
  obtain ⟨p, _, rfl⟩ := hu
  rfl

theorem snap_any {base a : Nat} {S : ArS} {own : Nat → Prop} {w : World} (h : AR base a S own w) (ok : S.Ok) :
    Calls Try.prog 26 #[.pointer (some ⟨a, 0, none⟩)] w fun e w' => ∃ pv fv pbs, e = .returned (.agg #[.pointer (some ⟨a, 0, none⟩), pv, fv]) ∧ Below w.heap.size w w' ∧ SnapOf w.heap.size S pv fv pbs w' := by
  obtain ⟨pv, fv, pbs, rfl, R⟩ := h
  obtain ⟨q0, q1, q2, f0, f1, f2, hl⟩ := three_of_block R.blk
  have hlen : pbs.length ≤ 4096 := by rw [R.len]; exact ok.most
  have hfl : S.free.length ≤ 4096 := by have := ok.le; have := ok.most; omega
  obtain ⟨A, cp, rfl⟩ := own_form R.pown
  obtain ⟨B, cf, rfl⟩ := own_form R.fown
  have HR := Lib.hid R; clear R
  go_enter Try.func26, Try.ntmps26
  go_wp2_with fail
  have HR2 : Hid (ARep base a S (.slice A pbs.length cp) (.slice B S.free.length cf) pbs (w.alloc (.cells #[.pointer none, .slice none 0 0, .slice none 0 0] 62))) := HR.out.alloc _
  refine (clone_any HR2.out.pown HR2.out.fown (ptrs_one _) (ints_one _) (by omega) (by omega)).mono ?_
  rintro e w1 ⟨pv', fv', rfl, ho1, ho2, hb⟩
  obtain ⟨A1, c1, rfl⟩ := own_form ho1
  obtain ⟨A2, c2, rfl⟩ := own_form ho2
  have HO1 := Lib.hid ho1
  have HO2 := Lib.hid ho2
  have HB := Lib.hid hb
  obtain ⟨z0, z1, z2, y0, y1, y2, lz⟩ := three_of_block (blk_below (heap_alloc_new w (.cells #[.pointer none, .slice none 0 0, .slice none 0 0] 62)) hb (by simp))
  clear ho1 ho2 hb
  go_wp2_with fail
  refine bodyPost_ret (v := .agg #[.pointer (some ⟨a, 0, none⟩), .slice A1 pbs.length c1, .slice A2 S.free.length c2]) (by simp [results, Try.results26, go_sem, z0, z1, z2, lz]) rfl ?_
  obtain ⟨w2, hw2⟩ : ∃ w2, w2 = ((w1.setCell ⟨w.heap.size, 0, none⟩ (.pointer (some ⟨a, 0, none⟩))).setCell ⟨w.heap.size, 1, none⟩ (.slice A1 pbs.length c1)).setCell ⟨w.heap.size, 2, none⟩ (.slice A2 S.free.length c2) := ⟨_, rfl⟩
  rw [← hw2]
  have hp : ∀ k, k ≠ w.heap.size → w2.heap[k]? = w1.heap[k]? := fun k hk => by
    rw [hw2]
    exact ((Below.heap_setCell _ _ _ _ hk).trans (Below.heap_setCell _ _ _ _ hk)).trans (Below.heap_setCell _ _ _ _ hk)
  have hsz : (w.alloc (.cells #[.pointer none, .slice none 0 0, .slice none 0 0] 62)).heap.size = w.heap.size + 1 := by simp
  refine ⟨_, _, pbs, rfl, ?_, ⟨?_, ?_, HR.out.len, fun i b hb => ?_, HR.out.gap⟩⟩
  · rw [hw2]
    exact (((((Below.refl _ _).alloc (Nat.le_refl _) _).trans (HB.out.mono (by omega))).setCell (p := ⟨w.heap.size, 0, none⟩) (Nat.le_refl _) _).setCell (p := ⟨w.heap.size, 1, none⟩) (Nat.le_refl _) _).setCell (p := ⟨w.heap.size, 2, none⟩) (Nat.le_refl _) _
  · exact owns_up (owns_same HO1.out fun k hk => hp k (by have := (HO1.out.lt k hk).1; omega)) (by omega)
  · exact owns_up (owns_same HO2.out fun k hk => hp k (by have := (HO2.out.lt k hk).1; omega)) (by omega)
  · obtain ⟨l, e1, e2, e3⟩ := HR2.out.at_ i b hb
    obtain ⟨_, _, _, e4⟩ := HR.out.at_ i b hb
    exact ⟨l, e1, e2, (hp b (by have := lt_of_block e4; omega)).trans (blk_below e3 HB.out (lt_of_block e3))⟩

theorem arena_size : (Try.prog.info? 67).map (·.size) = some 3 := by kernel_rfl
theorem eqIn_same (d : Nat) (a : Addr) (w : World) : (Op.equalIn (d + 1) 23 (.pointer (some a)) (.pointer (some a))).run Try.prog w = .ok true w := by
  have hs := arena_size
  cases hq : Try.prog.info? 67 with
  | none => rw [hq] at hs; cases hs
  | some i =>
    rw [hq] at hs
    simp at hs
    simp [Op.equalIn, run_underlying Try.underlying23, sizeOf, typeInfo, hq, hs, run_sameAddr_same]
theorem eqIn_other (d : Nat) {a b : Addr} {w : World} {ca cb : Array Value} {ta tb : TypeId} (hne : a ≠ b) (ha : w.heap[a.block]? = some (.cells ca ta (0, 0))) (hb : w.heap[b.block]? = some (.cells cb tb (0, 0))) : (Op.equalIn (d + 1) 23 (.pointer (some a)) (.pointer (some b))).run Try.prog w = .ok false w := by
  have hs := arena_size
  cases hq : Try.prog.info? 67 with
  | none => rw [hq] at hs; cases hs
  | some i =>
    rw [hq] at hs
    simp at hs
    simp [Op.equalIn, run_underlying Try.underlying23, sizeOf, typeInfo, hq, hs, run_sameAddr_other w hne ha hb]
theorem eqIn_none (d : Nat) (b : Addr) (w : World) : (Op.equalIn (d + 1) 23 (.pointer none) (.pointer (some b))).run Try.prog w = .ok false w := by
  simp [Op.equalIn, run_underlying Try.underlying23]
theorem neq_same (a : Addr) (w : World) : (binOp .neq 23 (.pointer (some a)) (.pointer (some a))).run Try.prog w = .ok (.bool false) w := by
  have h : (Op.equal 23 (.pointer (some a)) (.pointer (some a))).run Try.prog w = .ok true w := eqIn_same 9999 a w
  simp only [binOp]
  simp [h]
theorem neq_other {a b : Addr} {w : World} {ca cb : Array Value} {ta tb : TypeId} (hne : a ≠ b) (ha : w.heap[a.block]? = some (.cells ca ta (0, 0))) (hb : w.heap[b.block]? = some (.cells cb tb (0, 0))) : (binOp .neq 23 (.pointer (some a)) (.pointer (some b))).run Try.prog w = .ok (.bool true) w := by
  have h : (Op.equal 23 (.pointer (some a)) (.pointer (some b))).run Try.prog w = .ok false w := eqIn_other 9999 hne ha hb
  simp only [binOp]
  simp [h]
theorem neq_none (b : Addr) (w : World) : (binOp .neq 23 (.pointer none) (.pointer (some b))).run Try.prog w = .ok (.bool true) w := by
  have h : (Op.equal 23 (.pointer none) (.pointer (some b))).run Try.prog w = .ok false w := eqIn_none 9999 b w
  simp only [binOp]
  simp [h]

theorem restore_any {base base' a : Nat} {S S0 : ArS} {own : Nat → Prop} {w : World} {pv fv : Value} {pbs : List (Option Nat)} (h : AR base a S0 own w) (hs : SnapOf base' S pv fv pbs w) (ok : S.Ok) :
    Calls Try.prog 27 #[.pointer (some ⟨a, 0, none⟩), .agg #[.pointer (some ⟨a, 0, none⟩), pv, fv]] w fun e w' => e = .returned (.int .i64 0) ∧ ∃ own', AR base a { S with quota := S0.quota } own' w' ∧ Grows own own' w w' := by
  obtain ⟨pv0, fv0, pbs0, rfl, R⟩ := h
  obtain ⟨q0, q1, q2, f0, f1, f2, hl⟩ := three_of_block R.blk
  have hlen : pbs.length ≤ 4096 := by rw [hs.len]; exact ok.most
  have hfl : S.free.length ≤ 4096 := by have := ok.le; have := ok.most; omega
  obtain ⟨A, cp, rfl⟩ := own_form hs.pown
  obtain ⟨B, cf, rfl⟩ := own_form hs.fown
  have HR := Lib.hid R; clear R
  have HS := Lib.hid hs; clear hs
  have hneq := neq_same
  go_enter Try.func27, Try.ntmps27
  go_wp2_with fail
  have HSa := Lib.hid (HS.out.pown.alloc (.cells #[.pointer (some ⟨a, 0, none⟩), .slice A pbs.length cp, .slice B S.free.length cf] 62))
  have HSb := Lib.hid (HS.out.fown.alloc (.cells #[.pointer (some ⟨a, 0, none⟩), .slice A pbs.length cp, .slice B S.free.length cf] 62))
  refine (clone_any HSa.out HSb.out (ptrs_one _) (ints_one _) (by omega) (by omega)).mono ?_
  rintro e w1 ⟨pv', fv', rfl, ho1, ho2, hb⟩
  obtain ⟨A1, c1, rfl⟩ := own_form ho1
  obtain ⟨A2, c2, rfl⟩ := own_form ho2
  have HO1 := Lib.hid ho1
  have HO2 := Lib.hid ho2
  have HB := Lib.hid hb
  have hsz : (w.alloc (.cells #[.pointer (some ⟨a, 0, none⟩), .slice A pbs.length cp, .slice B S.free.length cf] 62)).heap.size = w.heap.size + 1 := by simp
  have HR1 : Hid (ARep base a S0 pv0 fv0 pbs0 w1) := HR.out.stay fun k hk => (hb.block k (by omega)).trans (Below.heap_alloc _ _ _ hk)
  obtain ⟨z0, z1, z2, y0, y1, y2, lz⟩ := three_of_block HR1.out.blk
  clear ho1 ho2 hb
  go_wp2_with fail
  go_ret
  have hne : ∀ k, w.heap.size + 1 ≤ k → k ≠ a := fun k hk => by omega
  refine ⟨rfl, _, ⟨.slice A1 pbs.length c1, .slice A2 S.free.length c2, pbs, rfl, HR.out.lo, ?_, ?_, ?_, HS.out.len, fun i b hb => ?_, HS.out.gap⟩, ?_⟩
  · exact blk_set (blk_set HR1.out.blk 0 _) 1 _
  · exact owns_up (owns_same HO1.out fun k hk => (Below.heap_setCell _ _ _ _ (hne k (by have := (HO1.out.lt k hk).1; omega))).trans (Below.heap_setCell _ _ _ _ (hne k (by have := (HO1.out.lt k hk).1; omega)))) (by have := HR.out.lo; omega)
  · exact owns_up (owns_same HO2.out fun k hk => (Below.heap_setCell _ _ _ _ (hne k (by have := (HO2.out.lt k hk).1; omega))).trans (Below.heap_setCell _ _ _ _ (hne k (by have := (HO2.out.lt k hk).1; omega)))) (by have := HR.out.lo; omega)
  · obtain ⟨l, e1, e2, e3⟩ := HS.out.at_ i b hb
    have hba : b ≠ a := fun e => HR.out.page_ne e3 (.inl e)
    have e4 : w1.heap[b]? = _ := ((HB.out.block b (by have := lt_of_block e3; omega)).trans (Below.heap_alloc _ _ _ (lt_of_block e3))).trans e3
    exact ⟨l, e1, e2, blk_set_ne (blk_set_ne e4 0 _ hba) 1 _ hba⟩
  · have hb1 : Below w.heap.size w w1 := ((Below.refl _ _).alloc (Nat.le_refl _) _).trans (HB.out.mono (by omega))
    refine ⟨Chg.setCell (Chg.setCell (Chg.ofBelow hb1 (fun i h1 h2 => by omega)) (.inr (.inl rfl)) 0 _) (.inr (.inl rfl)) 1 _, ?_⟩
    rintro k (rfl | hk | hk)
    · exact .inl (.inl rfl)
    · exact .inr (by have := (HO1.out.lt k hk).1; omega)
    · exact .inr (by have := (HO2.out.lt k hk).1; omega)
theorem restore_nil (w : World) (p : Option Addr) (A B : Option Addr) (n m c d : Nat) :
    Calls Try.prog 27 #[.pointer none, .agg #[.pointer p, .slice A n c, .slice B m d]] w fun e w' => e = .returned (.int .i64 15) ∧ Below w.heap.size w w' := by
  go_enter Try.func27, Try.ntmps27
  go_wp2_with fail
  go_ret
  exact ⟨rfl, (Below.refl _ _).alloc (Nat.le_refl _) _⟩
theorem restore_none (w : World) (a : Nat) (A B : Option Addr) (n m c d : Nat) :
    Calls Try.prog 27 #[.pointer (some ⟨a, 0, none⟩), .agg #[.pointer none, .slice A n c, .slice B m d]] w fun e w' => e = .returned (.int .i64 15) ∧ Below w.heap.size w w' := by
  have hneq := neq_none
  go_enter Try.func27, Try.ntmps27
  go_wp2_with fail
  go_ret
  exact ⟨rfl, (Below.refl _ _).alloc (Nat.le_refl _) _⟩
theorem restore_wrong (w : World) (a b : Nat) {ca cb : Array Value} {ta tb : TypeId} (hne : b ≠ a) (ha : w.heap[a]? = some (.cells ca ta (0, 0))) (hb : w.heap[b]? = some (.cells cb tb (0, 0))) (A B : Option Addr) (n m c d : Nat) :
    Calls Try.prog 27 #[.pointer (some ⟨a, 0, none⟩), .agg #[.pointer (some ⟨b, 0, none⟩), .slice A n c, .slice B m d]] w fun e w' => e = .returned (.int .i64 15) ∧ Below w.heap.size w w' := by
  have hneq := neq_other (w := w.alloc (.cells #[.pointer (some ⟨b, 0, none⟩), .slice A n c, .slice B m d] 62)) (a := ⟨b, 0, none⟩) (b := ⟨a, 0, none⟩) (by intro e; injection e with e; exact hne e) (blk_alloc hb _) (blk_alloc ha _)
  clear ha hb
  go_enter Try.func27, Try.ntmps27
  go_wp2_with fail
  go_ret
  exact ⟨rfl, (Below.refl _ _).alloc (Nat.le_refl _) _⟩
theorem snap_nil (w : World) :
    Calls Try.prog 26 #[.pointer none] w fun e w' => e = .returned (.agg #[.pointer none, .slice none 0 0, .slice none 0 0]) ∧ Below w.heap.size w w' := by
  go_enter Try.func26, Try.ntmps26
  go_wp2_with fail
  refine bodyPost_ret (v := .agg #[.pointer none, .slice none 0 0, .slice none 0 0]) (by simp [results, Try.results26, go_sem]) rfl ?_
  refine ⟨rfl, ?_⟩
  first
    | exact (Below.refl _ _).alloc (Nat.le_refl _) _
    | exact ((((Below.refl _ _).alloc (Nat.le_refl _) _).setCell (p := ⟨w.heap.size, 0, none⟩) (Nat.le_refl _) _).setCell (p := ⟨w.heap.size, 1, none⟩) (Nat.le_refl _) _).setCell (p := ⟨w.heap.size, 2, none⟩) (Nat.le_refl _) _

/-- How a row of numbers reads. -/
def ReadsI (w : World) (A : Option Addr) (l : List Int) : Prop := ∀ i x, l[i]? = some x → ∃ b, A = some ⟨b, 0, none⟩ ∧ b < w.heap.size ∧ w.cell? ⟨b, i, none⟩ = some (.int .i64 x)
theorem ReadsI.of {w : World} {base : Nat} {A : Option Addr} {n c : Nat} {l : List Int} (h : w.ownsRow base 3 1 (.slice A n c) n (l.map (Value.int .i64))) : ReadsI w A l := by
  intro i x hx
  obtain ⟨g, cap, e1, e2, e3, e4, e5, e6⟩ := row_at h (j := i) (x := .int .i64 x) (by rw [List.getElem?_map, hx]; rfl)
  injection e1 with e1
  exact ⟨g, e1, e6, e3⟩
/-- Two rows of the same numbers are alike. -/
theorem same_any {w : World} (A B : Option Addr) (l : List Int) (c d : Nat) (ha : ReadsI w A l) (hb : ReadsI w B l) (hl : l.length ≤ 1000000) :
    Calls Try.prog 22 #[.slice A l.length c, .slice B l.length d] w fun e w' => e = .returned (.bool true) ∧ ∃ n, w' = w.drewN n := by
  have HA := Lib.hid ha
  have HB := Lib.hid hb
  clear ha hb
  go_enter Try.func22, Try.ntmps22
  go_wp2_with fail
  go_loopw [5] (fun i wr => ∃ j n : Nat, j ≤ l.length ∧ i = .int .i64 j ∧ wr = w.drewN n) (fun i _ => l.length - (intOf i).toNat)
  case atStart => exact ⟨0, 0, Nat.zero_le _, rfl, rfl⟩
  case round =>
    obtain ⟨j, n, hj, rfl, rfl⟩ := hrel
    by_cases hlt : j < l.length
    · obtain ⟨b1, rfl, hl1, hc1⟩ := HA.out j _ (List.getElem?_eq_getElem hlt)
      obtain ⟨b2, rfl, hl2, hc2⟩ := HB.out j _ (List.getElem?_eq_getElem hlt)
      generalize l[j] = x at hc1 hc2
      go_wp2_with fail
      go_quiet (fail)
      go_wp2_with fail
      exact ⟨⟨j + 1, n + nq, by omega, by go_num, rfl⟩, by simp [intOf]; omega⟩
    · go_wp2_with fail
      go_ret
      exact ⟨rfl, _, rfl⟩
end Go.Proofs.Ytmlgockejacjeaa
