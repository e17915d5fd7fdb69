/-
  Package arena: the walks of Free, Alloc.
-/
import Derived.Test.YtmlgockejacjeaaArFree
namespace Go.Proofs.Ytmlgockejacjeaa
open Go.RowKit
set_option linter.unusedVariables false
set_option linter.unusedSimpArgs false

/-- A page given back. -/
def ArS.drop (S : ArS) (n : Int) : ArS := { S with pages := S.pages.set (n - 1).toNat none, free := S.free ++ [n] }

theorem free_in {base a : Nat} {S : ArS} {own : Nat → Prop} {w : World} (h : AR base a S own w) (ok : S.Ok) (n : Int) {l : List UInt8} (hp : S.page n = some l) :
    Calls Try.prog 17 #[.pointer (some ⟨a, 0, none⟩), .int .i64 n] w fun e w' => e = .returned (.int .i64 0) ∧ ∃ own', AR base a (S.drop n) own' w' ∧ Grows own own' w w' := by
  have HI := Lib.hid (is_in h ok n hp)
  obtain ⟨pv, fv, pbs, rfl, R⟩ := h
  obtain ⟨h1, h2, b, g, cap, e1, rfl, hgb, e2, fz, _, _, e3⟩ := R.in_ hp
  obtain ⟨q0, q1, q2, f0, f1, f2, hl⟩ := three_of_block R.blk
  have hlen : pbs.length ≤ 4096 := by rw [R.len]; exact ok.most
  have hfl := ok.le
  have hpl := R.len
  have hpl' : S.free.length ≤ pbs.length := by omega
  clear hpl hfl
  clear e1 hp
  obtain ⟨m, rfl⟩ : ∃ m : Nat, n = (m : Int) + 1 := ⟨(n - 1).toNat, by omega⟩
  have hm : ((m : Int) + 1 - 1).toNat = m := by omega
  rw [hm] at e2 fz
  have hm' : m < pbs.length := by omega
  obtain ⟨R1, G1⟩ := R.stored hm' none none trivial
  simp only [ptrV] at R1 G1
  obtain ⟨p0, p1, p2, g0, g1, g2, hl'⟩ := three_of_block R1.blk
  obtain ⟨i0, hi, hz0, hz1, hz2⟩ := info_parts info_I
  have hlo := R1.blkOf a (.inl rfl)
  have HOWN := Lib.hid (R1.fown.alloc (.cells #[.int .i64 ((m : Int) + 1)] 3))
  have c1 := cell_one_new (w.setCell ⟨g, m, none⟩ (.pointer none)) (.int .i64 ((m : Int) + 1)) 3
  rw [show (w.setCell ⟨g, m, none⟩ (.pointer none)).heap.size = w.heap.size from by simp] at c1
  have C1 := Lib.hid c1
  have c2 : ∀ u ∈ [Value.int .i64 ((m : Int) + 1)], u.oneCell' = true := by simp [Value.oneCell']
  have C2 := Lib.hid c2
  have C3 : Hid (S.free.length + 1 ≤ maxLen) := (by simp only [maxLen]; omega : S.free.length + 1 ≤ maxLen)
  have C4 : Hid ((S.free.length + 1) * 8 ≤ 140737488355328) := (by omega : (S.free.length + 1) * 8 ≤ 140737488355328)
  have C5 : Hid (base ≤ ((w.setCell ⟨g, m, none⟩ (.pointer none)).alloc (.cells #[.int .i64 ((m : Int) + 1)] 3)).heap.size) := (by simp; simp at hlo; omega : base ≤ ((w.setCell ⟨g, m, none⟩ (.pointer none)).alloc (.cells #[.int .i64 ((m : Int) + 1)] 3)).heap.size)
  have HR := Lib.hid R; clear R
  have HR1 := Lib.hid R1; clear R1
  have HG1 := Lib.hid G1; clear G1
  clear c1 c2
  go_enter Try.func17, Try.ntmps17
  go_wp2_with fail
  refine HI.out.mono ?_
  rintro e w1 ⟨rfl, rfl⟩
  go_wp2_with (at_builtin; refine wpList_append_own_at _ rfl _ _ 48 rfl base 3 i0 (.int .i64 0) 1 8 Try.underlying48 hi hz0 hz1 hz2 rfl (by decide) _ _ _ rfl HOWN.out ⟨w.heap.size, 0, none⟩ 1 1 [.int .i64 ((m : Int) + 1)] rfl rfl C1.out C2.out C3.out C4.out C5.out ?_; intro v' w2 hown' hgrow hnil hat; obtain ⟨A', c', rfl⟩ := own_form hown'; have HG : Hid (World.grownBy _ w2 fv.ownBlock) := hgrow; have HAT : Hid (_ ∨ _) := hat; obtain ⟨x0, x1, x2, y0, y1, y2, lx⟩ := three_of_block (blk_grown (blk_alloc HR1.out.blk (.cells #[.int .i64 ((m : Int) + 1)] 3)) HG.out (owns_ne HOWN.out (blk_alloc HR1.out.blk _) (by decide))); have HO := Lib.hid hown'; clear hown' hgrow hnil hat)
  go_ret
  have G0 : World.grownBy (w.setCell ⟨g, m, none⟩ (.pointer none)) w2 fv.ownBlock := (World.grownBy_alloc _ _ _).trans HG.out
  have hO : w2.ownsRow base 3 1 (.slice A' (S.free.length + 1) c') (S.free ++ [(m : Int) + 1]).length ((S.free ++ [(m : Int) + 1]).map (Value.int .i64)) := by simpa using HO.out
  obtain ⟨R2, G2⟩ := HR1.out.fset hO G0 (by
    rcases HAT.out with e | e
    · exact .inl e
    · exact .inr (.inr ⟨_, e, by simp⟩))
  have hS : S.drop ((m : Int) + 1) = { S with pages := S.pages.set m none, free := S.free ++ [(m : Int) + 1] } := by unfold ArS.drop; rw [hm]
  rw [hS]
  exact ⟨rfl, _, ⟨_, _, _, rfl, R2⟩, HG1.out.trans G2⟩
theorem free_out {base a : Nat} {S : ArS} {own : Nat → Prop} {w : World} (h : AR base a S own w) (ok : S.Ok) (n : Int) (hn : (Lit.int .i64 n).wf = true) (hp : S.page n = none) :
    Calls Try.prog 17 #[.pointer (some ⟨a, 0, none⟩), .int .i64 n] w fun e w' => e = .returned (.int .i64 2) ∧ w = w' := by
  have HI := Lib.hid (is_out h ok n hn hp)
  clear h hp
  go_enter Try.func17, Try.ntmps17
  go_wp2_with fail
  refine HI.out.mono ?_
  rintro e w1 ⟨rfl, rfl⟩
  go_wp2_with fail
  go_ret
  exact ⟨rfl, rfl⟩
theorem free_nil (n : Int) (hn : (Lit.int .i64 n).wf = true) (w : World) :
    Calls Try.prog 17 #[.pointer none, .int .i64 n] w fun e w' => e = .returned (.int .i64 15) ∧ w = w' := by
  go_enter Try.func17, Try.ntmps17
  go_wp2_with fail
  refine (is_nil n w).mono ?_
  rintro e w1 ⟨rfl, rfl⟩
  go_wp2_with fail
  go_ret
  exact ⟨rfl, rfl⟩
theorem alloc_nil (w : World) : Calls Try.prog 10 #[.pointer none] w fun e w' => e = .returned (.tuple #[.int .i64 0, .int .i64 15]) ∧ w = w' := by
  go_enter Try.func10, Try.ntmps10
  go_wp2
  go_ret2
  exact ⟨rfl, rfl⟩
theorem alloc_full {base a : Nat} {S : ArS} {own : Nat → Prop} {w : World} (h : AR base a S own w) (ok : S.Ok) (hl0 : S.left = 0) :
    Calls Try.prog 10 #[.pointer (some ⟨a, 0, none⟩)] w fun e w' => e = .returned (.tuple #[.int .i64 0, .int .i64 9]) ∧ ∃ n, w' = w.drewN n := by
  have HL := Lib.hid (left_any h ok)
  rw [hl0] at HL
  clear h hl0
  go_enter Try.func10, Try.ntmps10
  go_wp2_with fail
  refine HL.out.mono ?_
  rintro e w1 ⟨rfl, nd, rfl⟩
  go_wp2_with fail
  go_ret2
  exact ⟨rfl, _, rfl⟩
theorem alloc_new {base a : Nat} {S : ArS} {own : Nat → Prop} {w : World} (h : AR base a S own w) (ok : S.Ok) (hl1 : S.left ≠ 0) (hf : S.free = []) :
    Calls Try.prog 10 #[.pointer (some ⟨a, 0, none⟩)] w fun e w' => e = .returned (.tuple #[.int .i64 ((S.pages.length : Int) + 1), .int .i64 0]) ∧ ∃ own', AR base a { S with pages := S.pages ++ [some zpage] } own' w' ∧ Grows own own' w w' := by
  have HL := Lib.hid (left_any h ok)
  obtain ⟨pv, fv, pbs, rfl, R⟩ := h
  obtain ⟨q0, q1, q2, f0, f1, f2, hl⟩ := three_of_block R.blk
  have hlen : pbs.length ≤ 4096 := by rw [R.len]; exact ok.most
  obtain ⟨B, cf, rfl⟩ := own_form R.fown
  have hl0 : (S.left == 0) = false := beq_eq_false_iff_ne.2 hl1
  have hf0 : S.free.length = 0 := by rw [hf]; rfl
  rw [hf0] at q1
  have hpl : Hid (pbs.length = S.pages.length) := R.len
  have hlo := R.blkOf a (.inl rfl)
  have HR := Lib.hid R; clear R
  have HF := Lib.hid hf; clear hf hf0 hl1
  obtain ⟨i0, hi, hz0, hz1, hz2⟩ := info_parts info_P
  have C2 : Hid (∀ u ∈ [Value.pointer (some ⟨w.heap.size, 0, none⟩)], u.oneCell' = true) := (by simp [Value.oneCell'] : ∀ u ∈ [Value.pointer (some ⟨w.heap.size, 0, none⟩)], u.oneCell' = true)
  have C3 : Hid (pbs.length + 1 ≤ maxLen) := (by simp only [maxLen]; omega : pbs.length + 1 ≤ maxLen)
  have C4 : Hid ((pbs.length + 1) * 8 ≤ 140737488355328) := (by omega : (pbs.length + 1) * 8 ≤ 140737488355328)
  go_enter Try.func10, Try.ntmps10
  go_wp2_with fail
  refine HL.out.mono ?_
  rintro e w1 ⟨rfl, nd, rfl⟩
  have HR1 : Hid (ARep base a S pv (.slice B S.free.length cf) pbs ((w.drewN nd).alloc (.cells Zp 69))) := ARep.alloc (ARep.drewN HR.out nd) _
  have HOWN := Lib.hid (HR1.out.pown.alloc (.cells #[.pointer (some ⟨w.heap.size, 0, none⟩)] 68))
  have c1 := cell_one_new ((w.drewN nd).alloc (.cells Zp 69)) (.pointer (some ⟨w.heap.size, 0, none⟩)) 68
  rw [show ((w.drewN nd).alloc (.cells Zp 69)).heap.size = w.heap.size + 1 from by simp] at c1
  have C1 := Lib.hid c1; clear c1
  go_wp2_with (first
    | (refine wpList_run rfl (exec_build_page _ _ rfl _) ?_)
    | (refine wpList_run rfl (exec_box_page _ _ _ Zp rfl rfl _) ?_)
    | (at_builtin; refine wpList_append_own_at _ rfl _ _ 58 rfl base 68 i0 (.pointer none) 1 8 Try.underlying58 hi hz0 hz1 hz2 rfl (by decide) _ _ _ rfl HOWN.out ⟨w.heap.size + 1, 0, none⟩ 1 1 [.pointer (some ⟨w.heap.size, 0, none⟩)] rfl rfl C1.out C2.out C3.out C4.out (by simp; omega) ?_; intro v' w2 hown' hgrow hnil hat; obtain ⟨A', c', rfl⟩ := own_form hown'; have HG : Hid (World.grownBy _ w2 pv.ownBlock) := hgrow; have HAT : Hid (_ ∨ _) := hat; obtain ⟨x0, x1, x2, y0, y1, y2, lx⟩ := three_of_block (blk_grown (blk_alloc HR1.out.blk _) HG.out (owns_ne HOWN.out (blk_alloc HR1.out.blk _) (by decide))); have HO := Lib.hid hown'; clear hown' hgrow hnil hat))
  go_ret2
  have hO : w2.ownsRow base 68 1 (.slice A' (pbs.length + 1) c') (pbs ++ [some w.heap.size]).length ((pbs ++ [some w.heap.size]).map ptrV) := by simpa [ptrV] using HO.out
  have hpg : PageAt ((w.drewN nd).alloc (.cells Zp 69)) (some w.heap.size) (some zpage) := ⟨zpage_len, by rw [← Zp_eq]; exact heap_alloc_at _ _ _ rfl⟩
  obtain ⟨R2, G2⟩ := HR1.out.pset hpg hO ((World.grownBy_alloc _ _ _).trans HG.out) (by
    rcases HAT.out with e | e
    · exact .inl e
    · exact .inr (.inr ⟨_, e, by simp⟩))
  refine ⟨?_, _, ⟨_, _, _, rfl, R2⟩, Grows.before (Chg.alloc (Chg.drewN (Chg.refl _ _) _) _) G2⟩
  rw [← hpl.out]
  rfl
theorem alloc_again {base a : Nat} {S : ArS} {own : Nat → Prop} {w : World} (h : AR base a S own w) (ok : S.Ok) (hl1 : S.left ≠ 0) (fr : List Int) (n : Int) (hf : S.free = fr ++ [n]) :
    Calls Try.prog 10 #[.pointer (some ⟨a, 0, none⟩)] w fun e w' => e = .returned (.tuple #[.int .i64 n, .int .i64 0]) ∧ ∃ own', AR base a { S with pages := S.pages.set (n - 1).toNat (some zpage), free := fr } own' w' ∧ Grows own own' w w' := by
  have HL := Lib.hid (left_any h ok)
  obtain ⟨pv, fv, pbs, rfl, R⟩ := h
  obtain ⟨q0, q1, q2, f0, f1, f2, hl⟩ := three_of_block R.blk
  have hlen : pbs.length ≤ 4096 := by rw [R.len]; exact ok.most
  have hflen : S.free.length ≤ 4096 := by have := ok.le; have := ok.most; omega
  have hl0 : (S.left == 0) = false := beq_eq_false_iff_ne.2 hl1
  have hk : S.free.length = fr.length + 1 := by rw [hf]; simp
  have hf0 : 0 < S.free.length := by omega
  have hf1 : (((S.free.length : Nat) : Int) == 0) = false := beq_eq_false_iff_ne.2 (by omega)
  have hn : S.free[S.free.length - 1]? = some n := by
    have : S.free.length - 1 = fr.length := by omega
    rw [this, hf]; simp
  obtain ⟨hn1, hn2, hn3⟩ := ok.free n (List.mem_of_getElem? hn)
  obtain ⟨gf, cf, rfl, hgf, e1, e2, e3, e4⟩ := row_at R.fown (j := S.free.length - 1) (x := .int .i64 n) (by rw [List.getElem?_map, hn]; rfl)
  have hn4 : S.page n = none := by unfold ArS.page; rw [if_pos hn1, hn3]; rfl
  obtain ⟨g, cap, rfl, e5, e6⟩ := R.out_ hn4 hn1 (by rw [R.len]; exact hn2)
  have hfc : S.free.length ≤ cf := by
    rcases R.fown.2 with ⟨h', _⟩ | ⟨g', cap', cur, h', _, _, hc, _⟩
    · cases h'
    · cases h'; exact hc
  have hw : IntKind.wrap .i64 (((S.free.length : Nat) : Int) - 1) = ((S.free.length - 1 : Nat) : Int) := by
    have h0 : (((S.free.length : Nat) : Int) - 1) = ((S.free.length - 1 : Nat) : Int) := by omega
    rw [h0]
    rw [IntKind.wrap_i64]; omega
  have hfc1 : (0 : Int) ≤ ((S.free.length - 1 : Nat) : Int) ∧ ((S.free.length - 1 : Nat) : Int) ≤ cf := by omega
  have hpop : w.ownsRow base 3 1 (.slice (some ⟨gf, 0, none⟩) (S.free.length - 1) cf) fr.length (fr.map (Value.int .i64)) := by
    have h0 : S.free.length - 1 = fr.length := by omega
    have h1 := R.fown
    rw [hk, hf, List.map_append] at h1
    rw [h0]
    exact ownsRow_pop (by simp) h1
  obtain ⟨m, rfl⟩ : ∃ m : Nat, n = (m : Int) + 1 := ⟨(n - 1).toNat, by omega⟩
  have hm : ((m : Int) + 1 - 1).toNat = m := by omega
  rw [hm] at e5 hn3
  have hpl := R.len
  have hm' : m < pbs.length := by omega
  have HP := Lib.hid hpl; clear hpl
  have HPOP := Lib.hid hpop; clear hpop
  have HR := Lib.hid R; clear R
  have HF := Lib.hid hf; clear hf hl1
  have HK := Lib.hid hk; clear hk
  have HN := Lib.hid hn; clear hn
  have HN3 := Lib.hid hn3; clear hn3 hn4
  go_enter Try.func10, Try.ntmps10
  go_wp2_with fail
  refine HL.out.mono ?_
  rintro e w1 ⟨rfl, nd, rfl⟩
  go_wp2_with fail
  go_quiet (fail)
  go_wp2_with fail
  refine region_tail 17 (by kernel_rfl) (by kernel_rfl) ?_
  simp only [List.take_succ_cons, List.take_zero, List.drop_succ_cons, List.drop_zero]
  repeat still_step
  refine wpStill_nil ?_
  obtain ⟨R1, G1⟩ := (HR.out.drewN (nd + nq + 1)).fset (w' := w.drewN (nd + nq + 1)) (fl := fr) HPOP.out ⟨rfl, rfl, rfl, Nat.le_refl _, fun _ _ _ => rfl⟩ (.inl rfl)
  obtain ⟨q0', q1', q2', f0', f1', f2', hl'⟩ := three_of_block R1.blk
  have R2 := R1.alloc (.cells Zp 69)
  obtain ⟨q0'', q1'', q2'', f0'', f1'', f2'', hl''⟩ := three_of_block R2.blk
  have hp2 : pbs[m]? = some none := by
    rcases hp : pbs[m]? with _ | _ | b
    · rw [List.getElem?_eq_none_iff] at hp; omega
    · rfl
    · obtain ⟨l', e1, e2, e3⟩ := HR.out.at_ _ _ hp
      rw [HN3.out] at e1; injection e1 with e1; cases e1
  obtain ⟨g', cap', e7, _, e8, e9, _, e10⟩ := row_at R2.pown (j := m) (x := .pointer none) (by rw [List.getElem?_map, hp2]; rfl)
  cases e7
  obtain ⟨R3, G3⟩ := R2.stored hm' (some w.heap.size) (some zpage) ⟨zpage_len, by rw [← Zp_eq]; exact heap_alloc_at _ _ _ (by simp)⟩
  have HP2 := Lib.hid hp2; clear hp2
  have HR1 := Lib.hid R1; clear R1
  have HR2 := Lib.hid R2; clear R2
  have HR3 := Lib.hid R3; clear R3
  have HG1 := Lib.hid G1; clear G1
  have HG3 := Lib.hid G3; clear G3
  go_wp2_with (first
    | (refine wpList_run rfl (exec_build_page _ _ rfl _) ?_)
    | (refine wpList_run rfl (exec_box_page _ _ _ Zp rfl rfl _) ?_))
  go_ret2
  rw [← World.setCell_alloc_past _ _ _ _ (by simp; exact e6)]
  exact ⟨rfl, _, ⟨_, _, _, rfl, HR3.out⟩, Grows.before (Chg.drewN (Chg.refl _ _) _) (HG1.out.trans (Grows.before (Chg.alloc (Chg.refl _ _) _) HG3.out))⟩
end Go.Proofs.Ytmlgockejacjeaa
