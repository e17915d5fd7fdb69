/-
  The book: what is written down; a note.
-/
import Derived.Test.YtigcmbakglghpaaRow
import Derived.Test.YtigcmbakglghpaaFault
import Derived.Test.YtigcmbakglghpaaPFaultRunsx
import Derived.Deep.DeepCutAuto
import Derived.Deep.RegionHeld
namespace Go.Proofs.Ytigcmbakglghpaa
open Go.RowKit Go.Proofs.YtigcmbakglghpaaW.PrintWords Go.Proofs.YtigcmbakglghpaaW.PrintLast Go.Proofs.YtigcmbakglghpaaW.PrintMore Go.Proofs.Ytigcmbakglghpaa.PFaultRuns
set_option linter.unusedVariables false
set_option linter.unusedSimpArgs false

section
variable {P : Program} {ops : Array Oper} {Q : Exit → Act → World → Prop} {md : Region.Mode} {S : World → Prop}
/-- An operation that yields its value wherever S holds is taken first; the operation told by its parts. -/
theorem takeH {i : Nat} {dst : Option Tmp} {op : Op} {ty : TypeId} {pos : String} {aft : Array _} {g : Option (Nat × Bool)} {v : Value} {fuel : Nat} {listed : Array Bool} {a : Act} {w : World} (hi : ops[i]? = some ⟨dst, op, ty, pos, aft, g⟩)
    (hs : Region.noSelect ops = true) (hf : Region.free md ops listed i = true) (hr : (Region.ready md ops listed).contains i = true)
    (hQ : ∀ c a w, Q (.panic c) (a.put dst v) w → Q (.panic c) a w) (hw : Region.wanted ⟨dst, op, ty, pos, aft, g⟩ (yielded ops a.tmps) = true) (hy : ∀ w, S w → (execOp a.eval ⟨dst, op, ty, pos, aft, g⟩).run P w = .ok (.value v) w) (hS : S w)
    (h : wpAnyH P md ops Q S fuel (listed.setIfInBounds i true) (a.put dst v) w) : wpAnyH P md ops Q S (fuel + 1) listed a w :=
  wpAnyH_take hi hs hf hr hQ (.inl ⟨hw, hy⟩) hS h
end
theorem info_parts {t : TypeId} {z : Value} {size bytes : Nat} (h : (Try.prog.info? t).map (fun i => (i.zero, i.size, i.bytes)) = some (some z, size, bytes)) : ∃ i0, Try.prog.info? t = some i0 ∧ i0.zero = some z ∧ i0.size = size ∧ i0.bytes = bytes := by
  cases hi : Try.prog.info? t with
  | none => rw [hi] at h; cases h
  | some i0 =>
    rw [hi] at h
    simp only [Option.map_some, Option.some.injEq, Prod.mk.injEq] at h
    exact ⟨i0, rfl, h.1, h.2.1, h.2.2⟩
theorem elt_M : ∃ i0, Elt 38 53 (.agg #[.int .i64 0, .int .i64 0, .int .i64 0]) 3 24 i0 := by
  obtain ⟨i0, hi, hz0, hz1, hz2⟩ := info_parts info53
  exact ⟨i0, Try.underlying38, hi, hz0, hz1, hz2, rfl, by omega, by omega⟩
/-- The cells of marks. -/
def mcl (l : List S53) : List Value := l.flatMap fun m => [.int .i64 m.f0, .int .i64 m.f1, .int .i64 m.f2]
theorem mcl_add (l : List S53) (m : S53) : mcl (l ++ [m]) = mcl l ++ [.int .i64 m.f0, .int .i64 m.f1, .int .i64 m.f2] := by simp [mcl]
/-- What may turn while a program of steps is played: the book and its marks. -/
def TB (t : TypeId) : Prop := t = 40 ∨ t = 53
instance (t : TypeId) : Decidable (TB t) := by unfold TB; exact inferInstance
/-- The book holds these marks, in a row of its own. -/
structure Bk (w : World) (base bp : Nat) (L : List S53) : Prop where
  row : ∃ A c, w.heap[bp]? = some (.cells #[.slice A L.length c] 40) ∧ w.ownsRow base 53 3 (.slice A L.length c) L.length (mcl L)
  lo : base ≤ bp
theorem Bk.size {w : World} {base bp : Nat} {L : List S53} (h : Bk w base bp L) : base ≤ w.heap.size ∧ bp < w.heap.size := by
  obtain ⟨A, c, hb, _⟩ := h.row
  have := lt_of_block hb
  have := h.lo
  omega
/-- What turns is of other types: the book stays. -/
theorem Bk.frm {w w' : World} {base base' bp : Nat} {L : List S53} (h : Bk w base bp L) {T : TypeId → Prop} (hF : Frm T base' w w') (h1 : ¬ T 40) (h2 : ¬ T 53) : Bk w' base bp L := by
  obtain ⟨A, c, hb, ho⟩ := h.row
  exact ⟨⟨A, c, hF.keep _ _ _ _ hb h1, hF.owns ho h2⟩, h.lo⟩
set_option maxRecDepth 100000 in
set_option maxHeartbeats 2000000 in
theorem note_any (k c a : Int) (base bp : Nat) (L : List S53) (w : World) (h : Bk w base bp L) (hL : L.length ≤ 900000) :
    Calls Try.prog 27 #[.pointer (some ⟨bp, 0, none⟩), .int .i64 k, .agg #[.int .i64 c, .int .i64 a]] w fun e w' => e = .returned (.tuple #[]) ∧ Bk w' base bp (L ++ [⟨k, c, a⟩]) ∧ Frm TB base w w' := by
  obtain ⟨i0, EM⟩ := elt_M
  obtain ⟨A, cc, hb, ho⟩ := h.row
  have hlo := h.lo
  have hbase := h.size.1
  have HB := Lib.hid hb
  have HO := Lib.hid ho
  have hblk := heap_alloc_new w (.cells #[.int .i64 c, .int .i64 a] 25)
  have hF0 : Frm TB base w (w.alloc (.cells #[.int .i64 c, .int .i64 a] 25)) := Frm.alloc (Frm.refl _ _ _) hbase _
  obtain ⟨w1, hw1⟩ : ∃ w1, w1 = w.alloc (.cells #[.int .i64 c, .int .i64 a] 25) := ⟨_, rfl⟩
  rw [← hw1] at hblk hF0
  have HB1 : Hid (w1.heap[bp]? = some (.cells #[.slice A L.length cc] 40)) := (by rw [hw1]; exact blk_alloc HB.out _ : w1.heap[bp]? = some (.cells #[.slice A L.length cc] 40))
  have HO1 : Hid (w1.ownsRow base 53 3 (.slice A L.length cc) L.length (mcl L)) := (by rw [hw1]; exact HO.out.alloc _ : w1.ownsRow base 53 3 (.slice A L.length cc) L.length (mcl L))
  clear hb ho h
  go_enter Try.func27, Try.ntmps27
  go_upto_region 1 with (fail)
  rw [← hw1]
  clear hw1
  obtain ⟨xb, hxb⟩ : ∃ xb, xb = w.heap.size := ⟨_, rfl⟩
  rw [← hxb] at hblk ⊢
  clear hxb
  have HS : Hid (∀ w' : World, Frm TB base w1 w' → w'.cell? ⟨xb, 0, none⟩ = some (.int .i64 c) ∧ w'.cell? ⟨xb, 1, none⟩ = some (.int .i64 a)) := fun w' hF => by
    have h2 := hF.keep _ _ _ _ hblk (by decide)
    exact ⟨(cell_of_block h2 0).trans rfl, (cell_of_block h2 1).trans rfl⟩
  have HBK : Hid (Bk w1 base bp L) := ⟨⟨A, cc, HB1.out, HO1.out⟩, hlo⟩
  have HF1 := Lib.hid hF0
  clear hblk hF0 HB1 HO1 HB HO hlo hbase
  refine wp_region_held_drew (S := fun w' => w'.cell? ⟨xb, 0, none⟩ = some (.int .i64 c) ∧ w'.cell? ⟨xb, 1, none⟩ = some (.int .i64 a)) (by kernel_rfl) (HS.out _ (Frm.refl _ _ _).drew) (fun hHeld => ?_)
  obtain ⟨A, cc, hb, ho⟩ := HBK.out.row
  have hlo := HBK.out.lo
  have hbase := HBK.out.size.1
  obtain ⟨z0, hz0⟩ : ∃ z0, z0 = w1.drew := ⟨_, rfl⟩
  have HB2 : Hid (z0.heap[bp]? = some (.cells #[.slice A (L).length cc] 40)) := (by rw [hz0]; exact hb : z0.heap[bp]? = some (.cells #[.slice A (L).length cc] 40))
  have HO2 : Hid (z0.ownsRow base 53 3 (.slice A (L).length cc) (L).length (mcl (L))) := (by rw [hz0]; exact ho : z0.ownsRow base 53 3 (.slice A (L).length cc) (L).length (mcl (L)))
  have HF2 : Hid (Frm TB base w1 z0) := (by rw [hz0]; exact (Frm.refl _ _ _).drew : Frm TB base w1 z0)
  rw [← hz0] at hHeld ⊢
  obtain ⟨p0, pf0, pl⟩ := one_of_block HB2.out
  clear hz0 hb ho
  refine takeH (i := 0) (v := (.pointer (some ⟨bp, 0, none⟩))) rfl (by kernel_rfl) (by kernel_rfl) (by kernel_rfl) (fun _ _ _ h => h) (by rfl) (by intro w hSw; (try dsimp only at hSw); go_simp) (by assumption) ?_
  (try simp only [Act.put, List.setIfInBounds_toArray, List.set_cons_zero, List.set_cons_succ])
  refine takeH (i := 1) (v := (.pointer (some ⟨bp, 0, none⟩))) rfl (by kernel_rfl) (by kernel_rfl) (by kernel_rfl) (fun _ _ _ h => h) (by rfl) (by intro w hSw; (try dsimp only at hSw); go_simp) (by assumption) ?_
  (try simp only [Act.put, List.setIfInBounds_toArray, List.set_cons_zero, List.set_cons_succ])
  refine takeH (i := 2) (v := (.pointer (some ⟨bp, 0, none⟩))) rfl (by kernel_rfl) (by kernel_rfl) (by kernel_rfl) (fun _ _ _ h => h) (by rfl) (by intro w hSw; (try dsimp only at hSw); go_simp) (by assumption) ?_
  (try simp only [Act.put, List.setIfInBounds_toArray, List.set_cons_zero, List.set_cons_succ])
  refine takeH (i := 3) (v := (.pointer (some ⟨bp, 0, none⟩))) rfl (by kernel_rfl) (by kernel_rfl) (by kernel_rfl) (fun _ _ _ h => h) (by rfl) (by intro w hSw; (try dsimp only at hSw); go_simp) (by assumption) ?_
  (try simp only [Act.put, List.setIfInBounds_toArray, List.set_cons_zero, List.set_cons_succ])
  refine takeH (i := 5) (v := (.int .i64 k)) rfl (by kernel_rfl) (by kernel_rfl) (by kernel_rfl) (fun _ _ _ h => h) (by rfl) (by intro w hSw; (try dsimp only at hSw); go_simp) (by assumption) ?_
  (try simp only [Act.put, List.setIfInBounds_toArray, List.set_cons_zero, List.set_cons_succ])
  refine takeH (i := 6) (v := (.pointer (some ⟨xb, 0, none⟩))) rfl (by kernel_rfl) (by kernel_rfl) (by kernel_rfl) (fun _ _ _ h => h) (by rfl) (by intro w hSw; (try dsimp only at hSw); go_simp) (by assumption) ?_
  (try simp only [Act.put, List.setIfInBounds_toArray, List.set_cons_zero, List.set_cons_succ])
  refine takeH (i := 7) (v := (.int .i64 c)) rfl (by kernel_rfl) (by kernel_rfl) (by kernel_rfl) (fun _ _ _ h => h) (by rfl) (by intro w hSw; (try dsimp only at hSw); go_simp) (by assumption) ?_
  (try simp only [Act.put, List.setIfInBounds_toArray, List.set_cons_zero, List.set_cons_succ])
  refine takeH (i := 8) (v := (.pointer (some ⟨xb, 1, none⟩))) rfl (by kernel_rfl) (by kernel_rfl) (by kernel_rfl) (fun _ _ _ h => h) (by rfl) (by intro w hSw; (try dsimp only at hSw); go_simp) (by assumption) ?_
  (try simp only [Act.put, List.setIfInBounds_toArray, List.set_cons_zero, List.set_cons_succ])
  refine takeH (i := 9) (v := (.int .i64 a)) rfl (by kernel_rfl) (by kernel_rfl) (by kernel_rfl) (fun _ _ _ h => h) (by rfl) (by intro w hSw; (try dsimp only at hSw); go_simp) (by assumption) ?_
  (try simp only [Act.put, List.setIfInBounds_toArray, List.set_cons_zero, List.set_cons_succ])
  refine takeH (i := 10) (v := (.agg #[.int .i64 k, .int .i64 c, .int .i64 a])) rfl (by kernel_rfl) (by kernel_rfl) (by kernel_rfl) (fun _ _ _ h => h) (by rfl) (by intro w hSw; (try dsimp only at hSw); go_simp) (by assumption) ?_
  (try simp only [Act.put, List.setIfInBounds_toArray, List.set_cons_zero, List.set_cons_succ])
  refine wpAnyH_ready (rs := [4, 11]) (by kernel_rfl) (by simp) ?_
  refine AllReadyH.cons rfl (fun KK hKK => ?_) (AllReadyH.cons rfl (fun KK hKK => ?_) AllReadyH.nil)
  · skip
    go_simp
    refine hKK.out _ _ hHeld (fun hHeld => ?_)
    clear hKK KK
    (try simp only [Act.put, List.setIfInBounds_toArray, List.set_cons_zero, List.set_cons_succ])
    refine wpAnyH_ready (rs := [11]) (by kernel_rfl) (by simp) ?_
    refine AllReadyH.cons rfl (fun KK hKK => ?_) AllReadyH.nil
    go_simp
    have hA := heap_alloc_new z0 (.cells #[.int .i64 k, .int .i64 c, .int .i64 a] 53)
    have hF3 : Frm TB base w1 (z0.alloc (.cells #[.int .i64 k, .int .i64 c, .int .i64 a] 53)) := HF2.out.alloc hbase _
    refine hKK.out _ (z0.alloc (.cells #[.int .i64 k, .int .i64 c, .int .i64 a] 53)) (HS.out _ hF3) (fun hHeld => ?_)
    clear hKK KK
    (try simp only [Act.put, List.setIfInBounds_toArray, List.set_cons_zero, List.set_cons_succ])
    obtain ⟨z1, hz1⟩ : ∃ z1, z1 = z0.alloc (.cells #[.int .i64 k, .int .i64 c, .int .i64 a] 53) := ⟨_, rfl⟩
    have HB3 : Hid (z1.heap[bp]? = some (.cells #[.slice A (L).length cc] 40)) := (by rw [hz1]; exact blk_alloc HB2.out _ : z1.heap[bp]? = some (.cells #[.slice A (L).length cc] 40))
    have HO3 : Hid (z1.ownsRow base 53 3 (.slice A (L).length cc) (L).length (mcl (L))) := (by rw [hz1]; exact HO2.out.alloc _ : z1.ownsRow base 53 3 (.slice A (L).length cc) (L).length (mcl (L)))
    rw [← hz1] at hA hF3 hHeld ⊢
    have HF3 := Lib.hid hF3
    obtain ⟨g, hg⟩ : ∃ g, g = z0.heap.size := ⟨_, rfl⟩
    rw [← hg] at hA ⊢
    clear hz1 hg hF3 HB2 HO2 HF2 p0 pf0 pl
    obtain ⟨p0, pf0, pl⟩ := one_of_block HB3.out
    have hb1 : base ≤ z1.heap.size := Nat.le_trans hbase HF3.out.low.size
    refine wpAnyH_ready (rs := [12]) (by kernel_rfl) (by simp) ?_
    refine AllReadyH.cons rfl (fun KK hKK => ?_) AllReadyH.nil
    refine reg_push EM (w := z1) (o := ⟨some 18, _, _, _, _, _⟩) rfl _ _ rfl HO3.out rfl #[.int .i64 k, .int .i64 c, .int .i64 a] rfl hA rfl (by intro u hu; simp at hu; rcases hu with rfl | rfl | rfl <;> rfl) (by omega) hb1 ?_
    intro A9 c9 z2 ho2 hgr
    have hFg := Frm.grownOwn (T := fun t => t = 53) HO3.out hgr rfl hb1
    have hB4 := hFg.keep _ _ _ _ HB3.out (by decide)
    have hF4 : Frm TB base w1 z2 := HF3.out.trans (hFg.mono fun t ht => .inr ht)
    refine hKK.out _ z2 (HS.out z2 hF4) (fun hHeld => ?_)
    clear hKK KK
    (try simp only [Act.put, List.setIfInBounds_toArray, List.set_cons_zero, List.set_cons_succ])
    have HB4 := Lib.hid hB4
    have HO4 := Lib.hid ho2
    have HF4 := Lib.hid hF4
    clear p0 pf0 pl
    obtain ⟨p0, pf0, pl⟩ := one_of_block hB4
    clear hB4 ho2 hgr hFg hA HB3 HO3 HF3 hF4
    refine takeH (i := 13) (v := (.pointer (some ⟨bp, 0, none⟩))) rfl (by kernel_rfl) (by kernel_rfl) (by kernel_rfl) (fun _ _ _ h => h) (by rfl) (by intro w hSw; (try dsimp only at hSw); go_simp) (by assumption) ?_
    (try simp only [Act.put, List.setIfInBounds_toArray, List.set_cons_zero, List.set_cons_succ])
    refine takeH (i := 14) (v := (.pointer (some ⟨bp, 0, none⟩))) rfl (by kernel_rfl) (by kernel_rfl) (by kernel_rfl) (fun _ _ _ h => h) (by rfl) (by intro w hSw; (try dsimp only at hSw); go_simp) (by assumption) ?_
    (try simp only [Act.put, List.setIfInBounds_toArray, List.set_cons_zero, List.set_cons_succ])
    have hFs := Frm.setCell (T := TB) HB4.out (.inl rfl) hlo 0 (.slice A9 ((L).length + 1) c9)
    have hFm := Frm.setCell (T := fun t => t = 40) HB4.out rfl hlo 0 (.slice A9 ((L).length + 1) c9)
    have hF5 := HF4.out.trans hFs
    have hlen : ((L) ++ [(⟨k, c, a⟩ : S53)]).length = (L).length + 1 := by simp
    have hfin : Bk (z2.setCell ⟨bp, 0, none⟩ (.slice A9 ((L).length + 1) c9)) base bp ((L) ++ [⟨k, c, a⟩]) := ⟨⟨A9, c9, by rw [hlen]; exact blk_set HB4.out 0 _, by rw [hlen, mcl_add]; exact hFm.owns HO4.out (by decide)⟩, hlo⟩
    refine wpAnyH_ready (rs := [15]) (by kernel_rfl) (by simp) ?_
    refine AllReadyH.cons rfl (fun KK hKK => ?_) AllReadyH.nil
    go_simp
    refine hKK.out _ (z2.setCell ⟨bp, 0, none⟩ (.slice A9 ((L).length + 1) c9)) (HS.out _ hF5) (fun hHeld => ?_)
    clear hKK KK
    refine wpAnyH_done (by kernel_rfl) ?_ _
    obtain ⟨z3, hz3⟩ : ∃ z3, z3 = z2.setCell ⟨bp, 0, none⟩ (.slice A9 ((L).length + 1) c9) := ⟨_, rfl⟩
    rw [← hz3] at hF5 hfin ⊢
    have HBZ := Lib.hid hfin
    have HFZ := Lib.hid hF5
    clear hz3 hfin hF5 hFs hFm hHeld p0 pf0 pl HB4 HO4 HF4
    go_wp2_with fail
    go_end0
    exact ⟨rfl, HBZ.out, HF1.out.trans HFZ.out⟩
  · skip
    go_simp
    have hA := heap_alloc_new z0 (.cells #[.int .i64 k, .int .i64 c, .int .i64 a] 53)
    have hF3 : Frm TB base w1 (z0.alloc (.cells #[.int .i64 k, .int .i64 c, .int .i64 a] 53)) := HF2.out.alloc hbase _
    refine hKK.out _ (z0.alloc (.cells #[.int .i64 k, .int .i64 c, .int .i64 a] 53)) (HS.out _ hF3) (fun hHeld => ?_)
    clear hKK KK
    (try simp only [Act.put, List.setIfInBounds_toArray, List.set_cons_zero, List.set_cons_succ])
    obtain ⟨z1, hz1⟩ : ∃ z1, z1 = z0.alloc (.cells #[.int .i64 k, .int .i64 c, .int .i64 a] 53) := ⟨_, rfl⟩
    have HB3 : Hid (z1.heap[bp]? = some (.cells #[.slice A (L).length cc] 40)) := (by rw [hz1]; exact blk_alloc HB2.out _ : z1.heap[bp]? = some (.cells #[.slice A (L).length cc] 40))
    have HO3 : Hid (z1.ownsRow base 53 3 (.slice A (L).length cc) (L).length (mcl (L))) := (by rw [hz1]; exact HO2.out.alloc _ : z1.ownsRow base 53 3 (.slice A (L).length cc) (L).length (mcl (L)))
    rw [← hz1] at hA hF3 hHeld ⊢
    have HF3 := Lib.hid hF3
    obtain ⟨g, hg⟩ : ∃ g, g = z0.heap.size := ⟨_, rfl⟩
    rw [← hg] at hA ⊢
    clear hz1 hg hF3 HB2 HO2 HF2 p0 pf0 pl
    obtain ⟨p0, pf0, pl⟩ := one_of_block HB3.out
    refine wpAnyH_ready (rs := [4]) (by kernel_rfl) (by simp) ?_
    refine AllReadyH.cons rfl (fun KK hKK => ?_) AllReadyH.nil
    go_simp
    refine hKK.out _ _ hHeld (fun hHeld => ?_)
    clear hKK KK
    (try simp only [Act.put, List.setIfInBounds_toArray, List.set_cons_zero, List.set_cons_succ])
    have hb1 : base ≤ z1.heap.size := Nat.le_trans hbase HF3.out.low.size
    refine wpAnyH_ready (rs := [12]) (by kernel_rfl) (by simp) ?_
    refine AllReadyH.cons rfl (fun KK hKK => ?_) AllReadyH.nil
    refine reg_push EM (w := z1) (o := ⟨some 18, _, _, _, _, _⟩) rfl _ _ rfl HO3.out rfl #[.int .i64 k, .int .i64 c, .int .i64 a] rfl hA rfl (by intro u hu; simp at hu; rcases hu with rfl | rfl | rfl <;> rfl) (by omega) hb1 ?_
    intro A9 c9 z2 ho2 hgr
    have hFg := Frm.grownOwn (T := fun t => t = 53) HO3.out hgr rfl hb1
    have hB4 := hFg.keep _ _ _ _ HB3.out (by decide)
    have hF4 : Frm TB base w1 z2 := HF3.out.trans (hFg.mono fun t ht => .inr ht)
    refine hKK.out _ z2 (HS.out z2 hF4) (fun hHeld => ?_)
    clear hKK KK
    (try simp only [Act.put, List.setIfInBounds_toArray, List.set_cons_zero, List.set_cons_succ])
    have HB4 := Lib.hid hB4
    have HO4 := Lib.hid ho2
    have HF4 := Lib.hid hF4
    clear p0 pf0 pl
    obtain ⟨p0, pf0, pl⟩ := one_of_block hB4
    clear hB4 ho2 hgr hFg hA HB3 HO3 HF3 hF4
    refine takeH (i := 13) (v := (.pointer (some ⟨bp, 0, none⟩))) rfl (by kernel_rfl) (by kernel_rfl) (by kernel_rfl) (fun _ _ _ h => h) (by rfl) (by intro w hSw; (try dsimp only at hSw); go_simp) (by assumption) ?_
    (try simp only [Act.put, List.setIfInBounds_toArray, List.set_cons_zero, List.set_cons_succ])
    refine takeH (i := 14) (v := (.pointer (some ⟨bp, 0, none⟩))) rfl (by kernel_rfl) (by kernel_rfl) (by kernel_rfl) (fun _ _ _ h => h) (by rfl) (by intro w hSw; (try dsimp only at hSw); go_simp) (by assumption) ?_
    (try simp only [Act.put, List.setIfInBounds_toArray, List.set_cons_zero, List.set_cons_succ])
    have hFs := Frm.setCell (T := TB) HB4.out (.inl rfl) hlo 0 (.slice A9 ((L).length + 1) c9)
    have hFm := Frm.setCell (T := fun t => t = 40) HB4.out rfl hlo 0 (.slice A9 ((L).length + 1) c9)
    have hF5 := HF4.out.trans hFs
    have hlen : ((L) ++ [(⟨k, c, a⟩ : S53)]).length = (L).length + 1 := by simp
    have hfin : Bk (z2.setCell ⟨bp, 0, none⟩ (.slice A9 ((L).length + 1) c9)) base bp ((L) ++ [⟨k, c, a⟩]) := ⟨⟨A9, c9, by rw [hlen]; exact blk_set HB4.out 0 _, by rw [hlen, mcl_add]; exact hFm.owns HO4.out (by decide)⟩, hlo⟩
    refine wpAnyH_ready (rs := [15]) (by kernel_rfl) (by simp) ?_
    refine AllReadyH.cons rfl (fun KK hKK => ?_) AllReadyH.nil
    go_simp
    refine hKK.out _ (z2.setCell ⟨bp, 0, none⟩ (.slice A9 ((L).length + 1) c9)) (HS.out _ hF5) (fun hHeld => ?_)
    clear hKK KK
    refine wpAnyH_done (by kernel_rfl) ?_ _
    obtain ⟨z3, hz3⟩ : ∃ z3, z3 = z2.setCell ⟨bp, 0, none⟩ (.slice A9 ((L).length + 1) c9) := ⟨_, rfl⟩
    rw [← hz3] at hF5 hfin ⊢
    have HBZ := Lib.hid hfin
    have HFZ := Lib.hid hF5
    clear hz3 hfin hF5 hFs hFm hHeld p0 pf0 pl HB4 HO4 HF4
    go_wp2_with fail
    go_end0
    exact ⟨rfl, HBZ.out, HF1.out.trans HFZ.out⟩
end Go.Proofs.Ytigcmbakglghpaa
