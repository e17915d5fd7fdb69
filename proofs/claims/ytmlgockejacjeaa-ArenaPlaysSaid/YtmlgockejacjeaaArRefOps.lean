/-
  The reference's arena: Alloc, Drop.
-/
import Derived.Test.YtmlgockejacjeaaArRow
namespace Go.Proofs.Ytmlgockejacjeaa
open Go.RowKit
set_option linter.unusedVariables false
set_option linter.unusedSimpArgs false

theorem src_of {w : World} {base : Nat} {e : TypeId} {size : Nat} {A : Option Addr} {n c : Nat} {xs : List Value} (h : w.ownsRow base e size (.slice A n c) n xs) :
    (A = none ∧ n = 0 ∧ c = 0) ∨ ∃ g, A = some ⟨g, 0, none⟩ ∧ ∀ j u, xs[j]? = some u → w.cell? ⟨g, j, none⟩ = some u := by
  rcases h.2 with ⟨h1, h2⟩ | ⟨g, cap, cur, h1, _⟩
  · injection h1 with a b d
    exact .inl ⟨a, b, d⟩
  · injection h1 with a b d
    subst a
    refine .inr ⟨g, rfl, fun j u hj => ?_⟩
    have := h.cells (g := g) rfl j u hj
    rwa [Addr.add_lit, Nat.zero_add] at this
theorem RRep.ne {base r : Nat} {S : RfS} {lv fv : Value} {w : World} (R : RRep base r S lv fv w) : (∀ k, lv.ownBlock = some k → k ≠ r) ∧ (∀ k, fv.ownBlock = some k → k ≠ r) :=
  ⟨fun k hk e => owns_ne R.lown R.blk (by decide) (by rw [← e]; exact hk.symm), fun k hk e => owns_ne R.fown R.blk (by decide) (by rw [← e]; exact hk.symm)⟩
theorem RRep.stay {base r : Nat} {S : RfS} {lv fv : Value} {w w' : World} (R : RRep base r S lv fv w) (hk : ∀ k, k < w.heap.size → w'.heap[k]? = w.heap[k]?) : RRep base r S lv fv w' :=
  ⟨R.lo, (hk r (lt_of_block R.blk)).trans R.blk, owns_same R.lown fun k h => hk k (R.lown.lt k h).2, owns_same R.fown fun k h => hk k (R.fown.lt k h).2⟩
theorem RRep.nset {base r : Nat} {S : RfS} {lv fv : Value} {w : World} (R : RRep base r S lv fv w) (n : Int) : RRep base r { S with next := n } lv fv (w.setCell ⟨r, 2, none⟩ (.int .i64 n)) ∧ Grows (ROwn r lv fv) (ROwn r lv fv) w (w.setCell ⟨r, 2, none⟩ (.int .i64 n)) :=
  ⟨⟨R.lo, blk_set R.blk 2 _, owns_same R.lown fun k h => Below.heap_setCell _ _ _ _ (R.ne.1 k h), owns_same R.fown fun k h => Below.heap_setCell _ _ _ _ (R.ne.2 k h)⟩, ⟨Chg.setCell (Chg.refl _ _) (.inr (.inl rfl)) _ _, fun k h => .inl h⟩⟩
theorem RRep.lset {base r : Nat} {S : RfS} {lv fv lv' : Value} {w w' : World} (R : RRep base r S lv fv w) {L' : List (Int × ByteArray)} (hb : Below w.heap.size w w') (ho : w'.ownsRow w.heap.size 46 2 lv' L'.length (pcells L')) :
    RRep base r { S with L := L' } lv' fv (w'.setCell ⟨r, 0, none⟩ lv') ∧ Grows (ROwn r lv fv) (ROwn r lv' fv) w (w'.setCell ⟨r, 0, none⟩ lv') := by
  have hr := lt_of_block R.blk
  have hle := R.lo
  have hblk : w'.heap[r]? = _ := (hb.block r hr).trans R.blk
  have hne : ∀ k, lv'.ownBlock = some k → k ≠ r := fun k hk => by have := (ho.lt k hk).1; omega
  refine ⟨⟨R.lo, blk_set hblk 0 _, owns_up (owns_same ho fun k hk => Below.heap_setCell _ _ _ _ (hne k hk)) (by omega), owns_same (owns_below R.fown hb (Nat.le_refl _)) fun k hk => Below.heap_setCell _ _ _ _ (R.ne.2 k hk)⟩, ⟨Chg.setCell (Chg.ofBelow hb (fun i h1 h2 => by omega)) (.inr (.inl rfl)) _ _, ?_⟩⟩
  rintro k (rfl | hk | hk)
  · exact .inl (.inl rfl)
  · exact .inr (ho.lt k hk).1
  · exact .inl (.inr (.inr hk))
theorem RRep.fset {base r : Nat} {S : RfS} {lv fv fv' : Value} {w w' : World} (R : RRep base r S lv fv w) {F' : List Int} (hb : Below w.heap.size w w') (ho : w'.ownsRow w.heap.size 3 1 fv' F'.length (F'.map (Value.int .i64))) :
    RRep base r { S with free := F' } lv fv' (w'.setCell ⟨r, 1, none⟩ fv') ∧ Grows (ROwn r lv fv) (ROwn r lv fv') w (w'.setCell ⟨r, 1, none⟩ fv') := by
  have hr := lt_of_block R.blk
  have hle := R.lo
  have hblk : w'.heap[r]? = _ := (hb.block r hr).trans R.blk
  have hne : ∀ k, fv'.ownBlock = some k → k ≠ r := fun k hk => by have := (ho.lt k hk).1; omega
  refine ⟨⟨R.lo, blk_set hblk 1 _, owns_same (owns_below R.lown hb (Nat.le_refl _)) fun k hk => Below.heap_setCell _ _ _ _ (R.ne.1 k hk), owns_up (owns_same ho fun k hk => Below.heap_setCell _ _ _ _ (hne k hk)) (by omega)⟩, ⟨Chg.setCell (Chg.ofBelow hb (fun i h1 h2 => by omega)) (.inr (.inl rfl)) _ _, ?_⟩⟩
  rintro k (rfl | hk | hk)
  · exact .inl (.inl rfl)
  · exact .inl (.inr (.inl hk))
  · exact .inr (ho.lt k hk).1

theorem ralloc_full {base r : Nat} {S : RfS} {own : Nat → Prop} {w : World} (h : RR base r S own w) (hlen : S.L.length ≤ 100000) (hq : S.quota ≤ S.L.length) :
    Calls Try.prog 16 #[.pointer (some ⟨r, 0, none⟩)] w fun e w' => e = .returned (.tuple #[.int .i64 0, .int .i64 9]) ∧ ∃ n, w' = w.drewN n := by
  obtain ⟨lv, fv, rfl, R⟩ := h
  obtain ⟨q0, q1, q2, q3, _, _, _, _, hl⟩ := four_of_block R.blk
  obtain ⟨A, cp, rfl⟩ := own_form R.lown
  clear R
  go_enter Try.func16, Try.ntmps16
  go_wp2_with fail
  go_quiet (fail)
  go_wp2_with fail
  go_ret2
  exact ⟨rfl, _, rfl⟩
theorem ralloc_new {base r : Nat} {S : RfS} {own : Nat → Prop} {w : World} (h : RR base r S own w) (hlen : S.L.length ≤ 100000) (hq : (S.L.length : Int) < S.quota) (hf : S.free = []) (hn : 0 ≤ S.next ∧ S.next ≤ 100000) :
    Calls Try.prog 16 #[.pointer (some ⟨r, 0, none⟩)] w fun e w' => e = .returned (.tuple #[.int .i64 S.next, .int .i64 0]) ∧ ∃ own', RR base r { S with L := S.L ++ [(S.next, ⟨zpage.toArray⟩)], next := S.next + 1 } own' w' ∧ Grows own own' w w' := by
  obtain ⟨i0, EG⟩ := elt_G
  obtain ⟨lv, fv, rfl, R⟩ := h
  obtain ⟨q0, q1, q2, q3, y0, y1, y2, y3, hl⟩ := four_of_block R.blk
  obtain ⟨A, cp, rfl⟩ := own_form R.lown
  obtain ⟨B, cf, rfl⟩ := own_form R.fown
  have hf0 : S.free.length = 0 := by rw [hf]; rfl
  rw [hf0] at q1
  have HR := Lib.hid R; clear R
  have HF := Lib.hid hf; clear hf hf0
  go_enter Try.func16, Try.ntmps16
  go_wp2_with fail
  go_quiet (fail)
  obtain ⟨R1, G1⟩ := (HR.out.stay (w' := w.drewN nq) fun k hk => rfl).nset (S.next + 1)
  have HR1 := Lib.hid R1
  have HG1 := Lib.hid G1
  have hsrc := src_of R1.lown
  have HSRC := Lib.hid hsrc
  clear R1 G1 hsrc
  go_wp2_with (at_builtin; refine step_copy EG rfl _ _ rfl rfl (by simp) rfl (pcells_len S.L) HSRC.out (pcells_one S.L) (by omega) ?_; intro A3 c3 w3 ho hb; have HO3 := Lib.hid ho; have HB3 := Lib.hid hb; clear ho hb)
  refine (zeros_any w3).mono ?_
  rintro e w4 ⟨rfl, hb⟩
  have HB4 := Lib.hid (HB3.out.trans (hb.mono HB3.out.size))
  have HO4 := Lib.hid (owns_below HO3.out hb (Nat.le_refl _))
  have hs4 := HB4.out.size
  clear hb
  have HN2 : Hid (#[Value.int .i64 S.next, Value.string ⟨zpage.toArray⟩].size = 2) := (rfl : #[Value.int .i64 S.next, Value.string ⟨zpage.toArray⟩].size = 2)
  have HN1 : Hid (∀ u ∈ #[Value.int .i64 S.next, Value.string ⟨zpage.toArray⟩].toList, u.oneCell' = true) := (by
    intro u hu
    simp at hu
    rcases hu with rfl | rfl <;> rfl : ∀ u ∈ #[Value.int .i64 S.next, Value.string ⟨zpage.toArray⟩].toList, u.oneCell' = true)
  go_wp2_with (at_builtin; refine step_push EG rfl _ _ rfl HO4.out rfl #[.int .i64 S.next, .string ⟨zpage.toArray⟩] rfl rfl HN2.out HN1.out (by omega) hs4 ?_; intro A5 c5 w5 ho hb; have HO5 := Lib.hid ho; have HB5 := Lib.hid (HB4.out.trans hb); obtain ⟨x0, x1, x2, x3, u0, u1, u2, u3, lx⟩ := four_of_block ((HB5.out.block r (lt_of_block HR1.out.blk)).trans HR1.out.blk); clear ho hb)
  go_ret2
  obtain ⟨R2, G2⟩ := HR1.out.lset (L' := S.L ++ [(S.next, ⟨zpage.toArray⟩)]) (lv' := .slice A5 (S.L.length + 1) c5) HB5.out (by
    have := HO5.out
    rw [pcells_append, List.length_append]
    exact this)
  exact ⟨rfl, _, ⟨_, _, rfl, R2⟩, Grows.before (Chg.drewN (Chg.refl _ _) nq) (HG1.out.trans G2)⟩
theorem ralloc_again {base r : Nat} {S : RfS} {own : Nat → Prop} {w : World} (h : RR base r S own w) (hlen : S.L.length ≤ 100000) (hq : (S.L.length : Int) < S.quota) (fr : List Int) (n : Int) (hf : S.free = fr ++ [n]) (hfl : S.free.length ≤ 100000) :
    Calls Try.prog 16 #[.pointer (some ⟨r, 0, none⟩)] w fun e w' => e = .returned (.tuple #[.int .i64 n, .int .i64 0]) ∧ ∃ own', RR base r { S with L := S.L ++ [(n, ⟨zpage.toArray⟩)], free := fr } own' w' ∧ Grows own own' w w' := by
  obtain ⟨i0, EG⟩ := elt_G
  obtain ⟨i1, EI⟩ := elt_I
  obtain ⟨lv, fv, rfl, R⟩ := h
  obtain ⟨q0, q1, q2, q3, y0, y1, y2, y3, hl⟩ := four_of_block R.blk
  obtain ⟨A, cp, rfl⟩ := own_form R.lown
  have hk : S.free.length = fr.length + 1 := by rw [hf]; simp
  have hn : S.free[fr.length]? = some n := by rw [hf]; simp
  obtain ⟨gf, cf, rfl, hgf, e1, e2, e3, e4⟩ := row_at R.fown (j := fr.length) (x := .int .i64 n) (by rw [List.getElem?_map, hn]; rfl)
  have hfc : fr.length + 1 ≤ cf := by
    rcases R.fown.2 with ⟨h', _⟩ | ⟨g', cap', cur, h', _, _, hc, _⟩
    · cases h'
    · cases h'; omega
  have hfr : w.ownsRow base 3 1 (.slice (some ⟨gf, 0, none⟩) fr.length cf) fr.length (fr.map (Value.int .i64)) := by
    have h1 := R.fown
    rw [hk, hf, List.map_append] at h1
    exact ownsRow_pop (by simp) h1
  rw [hk] at q1
  have HFR := Lib.hid hfr
  have HR := Lib.hid R
  have HF := Lib.hid hf
  clear hf hfr R hn
  have hk0 : (((fr.length : Nat) : Int) + 1 == 0) = false := beq_eq_false_iff_ne.2 (by omega)
  have hw : IntKind.wrap .i64 (((fr.length : Nat) : Int)) = ((fr.length : Nat) : Int) := by rw [IntKind.wrap_i64]; omega
  have hfc1 : (0 : Int) ≤ ((fr.length : Nat) : Int) ∧ ((fr.length : Nat) : Int) ≤ cf := by omega
  go_enter Try.func16, Try.ntmps16
  go_wp2_with fail
  go_quiet (fail)
  have HFD : Hid ((w.drewN nq).ownsRow base 3 1 (.slice (some ⟨gf, 0, none⟩) fr.length cf) fr.length (fr.map (Value.int .i64))) := HFR.out
  have qa : ((w.drewN nq).alloc (.cells #[] 3)).cell? ⟨r, 1, none⟩ = some (.slice (some ⟨gf, 0, none⟩) (fr.length + 1) cf) := by
    have h0 := cell_of_block (blk_alloc (w := w.drewN nq) HR.out.blk (.cells #[] 3)) 1
    rw [hk] at h0
    exact h0
  have HRD : Hid (RRep base r S (.slice A S.L.length cp) (.slice (some ⟨gf, 0, none⟩) S.free.length cf) (w.drewN nq)) := HR.out.stay fun k hk => rfl
  have HN2 : Hid (#[Value.int .i64 n, Value.string ⟨zpage.toArray⟩].size = 2) := (rfl : #[Value.int .i64 n, Value.string ⟨zpage.toArray⟩].size = 2)
  have HN1 : Hid (∀ u ∈ #[Value.int .i64 n, Value.string ⟨zpage.toArray⟩].toList, u.oneCell' = true) := (by
    intro u hu
    simp at hu
    rcases hu with rfl | rfl <;> rfl : ∀ u ∈ #[Value.int .i64 n, Value.string ⟨zpage.toArray⟩].toList, u.oneCell' = true)
  go_wp2_with (first
    | (at_builtin; refine step_copy EI rfl _ _ rfl rfl (by simp) rfl HFD.out.1 (src_of HFD.out) (ints_one _) (by omega) ?_; intro A3 c3 w3 ho hb; obtain ⟨x0, x1, x2, x3, u0, u1, u2, u3, lx⟩ := four_of_block ((hb.block r hl).trans HRD.out.blk); have hfs := HRD.out.fset (F' := fr) (fv' := .slice A3 fr.length c3) hb ho; have HR1 := Lib.hid hfs.1; have HG1 := Lib.hid hfs.2; have HSRC := Lib.hid (src_of hfs.1.lown); clear ho hb hfs)
    | (at_builtin; refine step_copy EG rfl _ _ rfl rfl (by simp) rfl (pcells_len S.L) HSRC.out (pcells_one S.L) (by omega) ?_; intro A4 c4 w4 ho hb; have HO3 := Lib.hid ho; have HB3 := Lib.hid hb; clear ho hb))
  refine (zeros_any w4).mono ?_
  rintro e w5 ⟨rfl, hb⟩
  have HB4 := Lib.hid (HB3.out.trans (hb.mono HB3.out.size))
  have HO4 := Lib.hid (owns_below HO3.out hb (Nat.le_refl _))
  have hs4 := HB4.out.size
  clear hb
  go_wp2_with (at_builtin; refine step_push EG rfl _ _ rfl HO4.out rfl #[.int .i64 n, .string ⟨zpage.toArray⟩] rfl rfl HN2.out HN1.out (by omega) hs4 ?_; intro A5 c5 w6 ho hb; have HO5 := Lib.hid ho; have HB5 := Lib.hid (HB4.out.trans hb); obtain ⟨x0, x1, x2, x3, u0, u1, u2, u3, lx⟩ := four_of_block ((HB5.out.block r (lt_of_block HR1.out.blk)).trans HR1.out.blk); clear ho hb)
  go_ret2
  obtain ⟨R2, G2⟩ := HR1.out.lset (L' := S.L ++ [(n, ⟨zpage.toArray⟩)]) (lv' := .slice A5 (S.L.length + 1) c5) HB5.out (by
    have := HO5.out
    rw [pcells_append, List.length_append]
    exact this)
  have hk' : S.free.length = fr.length + 1 := hk
  exact ⟨rfl, _, ⟨_, _, rfl, R2⟩, Grows.before (Chg.drewN (Chg.refl _ _) nq) (HG1.out.trans G2)⟩
theorem rdrop_out {base r : Nat} {S : RfS} {own : Nat → Prop} {w : World} (h : RR base r S own w) (n : Int) (hlen : S.L.length ≤ 100000) (hn : S.at_ n = none) :
    Calls Try.prog 18 #[.pointer (some ⟨r, 0, none⟩), .int .i64 n] w fun e w' => e = .returned (.int .i64 2) ∧ w = w' := by
  have hcall := Lib.hid (rat_any h n hlen)
  have e1 : S.atI n = -1 := by unfold RfS.atI; rw [hn]
  rw [e1] at hcall
  clear h hn e1
  go_enter Try.func18, Try.ntmps18
  go_wp2_with fail
  refine hcall.out.mono ?_
  rintro e w2 ⟨rfl, rfl⟩
  go_wp2_with fail
  go_ret
  exact ⟨rfl, rfl⟩
end Go.Proofs.Ytmlgockejacjeaa
