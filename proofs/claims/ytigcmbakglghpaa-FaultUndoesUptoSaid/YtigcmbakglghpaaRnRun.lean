/-
  A program of steps, played: run, walked.
-/
import Derived.Test.YtigcmbakglghpaaRnSteps
namespace Go.Proofs.Ytigcmbakglghpaa
open Go.RowKit Go.Proofs.YtigcmbakglghpaaW.PrintWords Go.Proofs.YtigcmbakglghpaaW.PrintLast Go.Proofs.YtigcmbakglghpaaW.PrintMore Go.Proofs.Ytigcmbakglghpaa.PFaultRuns
set_option linter.unusedVariables false
set_option linter.unusedSimpArgs false

theorem infoF : (Try.prog.info? 1).map (fun i => (i.zero, i.size, i.bytes)) = some (some .nilFunc, 1, 8) := by kernel_rfl
theorem elt_F : ∃ i0, Elt 31 1 .nilFunc 1 8 i0 := by
  obtain ⟨i0, hi, hz0, hz1, hz2⟩ := info_parts infoF
  exact ⟨i0, Try.underlying31, hi, hz0, hz1, hz2, rfl, by omega, by omega⟩
/-- The closures that have been laid. -/
structure FL (w2 wq : World) (pb ps : Nat) (pis : List Nat) (fs : Value) : Prop where
  own : wq.ownsRow w2.heap.size 1 1 fs pis.length (pis.map (clo4 pb ps))
  pi : ∀ (q p : Nat), pis[q]? = some p → wq.heap[p]? = some (.cells #[.int .i64 q] 3)
  low : Below w2.heap.size w2 wq
theorem FL.next {w2 wq w' : World} {pb ps : Nat} {pis : List Nat} {fs v' : Value} (h : FL w2 wq pb ps pis fs) (ho : w'.ownsRow w2.heap.size 1 1 v' (pis.length + 1) (pis.map (clo4 pb ps) ++ [clo4 pb ps wq.heap.size])) (hg : ((wq.alloc (.cells #[.int .i64 (pis.length : Int)] 3)).alloc (.cells #[clo4 pb ps wq.heap.size] 1)).grownBy w' fs.ownBlock) : FL w2 w' pb ps (pis ++ [wq.heap.size]) v' := by
  have hsz := h.low.size
  have ho2 := (h.own.alloc (.cells #[.int .i64 (pis.length : Int)] 3)).alloc (.cells #[clo4 pb ps wq.heap.size] 1)
  have hF := Frm.grownOwn (T := fun t => t = 1) ho2 hg rfl (by simp; omega)
  have hlow : Below w2.heap.size w2 ((wq.alloc (.cells #[.int .i64 (pis.length : Int)] 3)).alloc (.cells #[clo4 pb ps wq.heap.size] 1)) := (h.low.alloc hsz _).alloc (by simp; omega) _
  refine ⟨by simpa using ho, fun q p hq => ?_, hlow.trans hF.low⟩
  rw [List.getElem?_append] at hq
  split at hq
  · exact hF.keep _ _ _ _ (blk_alloc (blk_alloc (h.pi q p hq) _) _) (by decide)
  · rename_i hj
    have e : q = pis.length := by
      rcases Nat.lt_or_ge q (pis.length + 1) with h5 | h5
      · omega
      · rw [List.getElem?_eq_none (by simp; omega)] at hq; cases hq
    subst e
    rw [Nat.sub_self] at hq
    obtain rfl : wq.heap.size = p := by simpa using hq
    exact hF.keep _ _ _ _ (blk_alloc (heap_alloc_new _ _) _) (by decide)
theorem FL.sees {w0 w2 wq : World} {base bp pb ps : Nat} {k n a : Int} {A3 : Option Addr} {n3 c3 : Nat} {A4 : Option Addr} {n4 c4 : Nat} {pis : List Nat} {Af : Option Addr} {cf : Nat} (h : FL w2 wq pb ps pis (.slice Af pis.length cf)) (he : Env w2 bp pb ps k n a A3 n3 c3 A4 n4 c4) (hp : pis.length = n3) (hw : Below base w0 w2) (hb : base ≤ w2.heap.size) : Sees w0 wq base bp pb ps k n a A3 n3 c3 A4 n4 c4 pis Af := by
  have hF : Frm (fun _ => False) base w2 wq := Frm.ofBelow h.low hb
  refine ⟨he.frm hF id id, h.pi, hw.trans hF.low, ?_⟩
  rcases h.own.2 with ⟨_, h0⟩ | ⟨g, cap, cur, hv, _, hg, _, _, _, ht⟩
  · exact .inl (by omega)
  · injection hv with hv1 hv2 hv3
    refine .inr ⟨g, cur, hv1, hg, fun q hq => ?_⟩
    have h1 : (cur.toList.take (pis.length * 1))[q]? = (pis.map (clo4 pb ps))[q]? := by rw [ht]
    rw [List.getElem?_take, if_pos (by omega)] at h1
    rw [← Array.getElem?_toList, h1, List.getElem?_map, List.getElem?_eq_getElem (by omega), Option.map_some, List.getD_eq_getElem?_getD, List.getElem?_eq_getElem (by omega)]
    rfl
/-- The head of run's loop. -/
structure RI (N : Nat) (l : List S50) (base bp pb : Nat) (L : List S53) (w wr : World) (D : List S53) (j : Nat) : Prop where
  bk : Bk wr base bp (L ++ D)
  eq : all (sp N) l = (D ++ (all (sp N) (l.drop j)).1, (all (sp N) (l.drop j)).2)
  fr : Frm TB base w wr
  b : wr.heap[pb]? = some (.cells #[.pointer (some ⟨bp, 0, none⟩)] 37)
  sm : D.length + 2 * szl (sz N) (l.drop j) ≤ 2 * szl (sz N) l
theorem drop_at {l : List S50} {j : Nat} {x : S50} (h : l[j]? = some x) : l.drop j = x :: l.drop (j + 1) := by
  rw [List.getElem?_eq_some_iff] at h
  obtain ⟨hj, rfl⟩ := h
  exact (List.getElem_cons_drop hj).symm
theorem RI.next {N : Nat} {l : List S50} {base bp pb : Nat} {L : List S53} {w wr w' : World} {D : List S53} {j : Nat} {x : S50} (h : RI N l base bp pb L w wr D j) (hx : l[j]? = some x) (h0 : (one (sp N) x).2.1 = 0) (hb : Bk w' base bp (L ++ D ++ (one (sp N) x).1)) (hF : Frm TB base wr w') : RI N l base bp pb L w w' (D ++ (one (sp N) x).1) (j + 1) := by
  have hd := drop_at hx
  have he := h.eq
  have hs := h.sm
  have ho := one_len (sp N) (sz N) (sz_cons N) (sp_len N) x
  rw [hd] at he hs
  refine ⟨by rw [← List.append_assoc]; exact hb, ?_, h.fr.trans hF, hF.keep _ _ _ _ h.b (by decide), ?_⟩
  · rw [he]
    simp only [all]
    rw [if_pos h0, List.append_assoc]
  · simp only [szl] at hs
    rw [List.length_append]
    omega
/-- A stop. -/
theorem RI.stop {N : Nat} {l : List S50} {base bp pb : Nat} {L : List S53} {w wr : World} {D : List S53} {j : Nat} {x : S50} (h : RI N l base bp pb L w wr D j) (hx : l[j]? = some x) (h1 : x.f0 = 1) (h0 : x.f1 ≠ 0) : Post (N + 1) l base bp L w (.panicked (thrown x.f1 x.f2)) wr := by
  have e : one (sp N) x = ([], x.f1, x.f2) := by unfold one; rw [if_pos h1, if_neg h0]
  have he := h.eq
  rw [drop_at hx] at he
  simp only [all] at he
  rw [e, if_neg h0, List.append_nil] at he
  have hs : sp (N + 1) l = (D, x.f1, x.f2) := he
  unfold Post
  rw [hs]
  exact ⟨h.bk, h.fr, .inr ⟨h0, rfl⟩⟩
theorem RI.done {N : Nat} {l : List S50} {base bp pb : Nat} {L : List S53} {w wr : World} {D : List S53} {j : Nat} (h : RI N l base bp pb L w wr D j) (hj : l.length ≤ j) : Post (N + 1) l base bp L w (.returned (.tuple #[])) wr := by
  have he := h.eq
  rw [List.drop_eq_nil_of_le hj] at he
  simp only [all, List.append_nil] at he
  have hs : sp (N + 1) l = (D, 0, 0) := he
  unfold Post
  rw [hs]
  exact ⟨h.bk, h.fr, .inl ⟨rfl, rfl⟩⟩
theorem RI.room {N : Nat} {l : List S50} {base bp pb : Nat} {L : List S53} {w wr : World} {D : List S53} {j : Nat} {x : S50} (h : RI N l base bp pb L w wr D j) (hx : l[j]? = some x) (hL : L.length + 2 * szl (sz N) l ≤ 100000) : (L ++ D).length + 2 * (1 + sz N x.f3 + sz N x.f4) ≤ 100000 := by
  have hs := h.sm
  rw [drop_at hx] at hs
  simp only [szl] at hs
  rw [List.length_append]
  omega
/-- The step that is read. -/
theorem step_cells {w0 w : World} {A : Option Addr} {l : List S50} (hC : Kd.C k50 w0 A l.length l) (hw : Below w0.heap.size w0 w) {j : Nat} {x : S50} (hx : l[j]? = some x) :
    ∃ ad A3 c3 A4 c4, A = some ad ∧ w.cell? (ad.add (j * 5)) = some (.int .i64 x.f0) ∧ w.cell? ⟨(ad.add (j * 5)).block, (ad.add (j * 5)).off + 1, none⟩ = some (.int .i64 x.f1) ∧ w.cell? ⟨(ad.add (j * 5)).block, (ad.add (j * 5)).off + 2, none⟩ = some (.int .i64 x.f2) ∧ w.cell? ⟨(ad.add (j * 5)).block, (ad.add (j * 5)).off + 3, none⟩ = some (.slice A3 x.f3.length c3) ∧ w.cell? ⟨(ad.add (j * 5)).block, (ad.add (j * 5)).off + 4, none⟩ = some (.slice A4 x.f4.length c4) ∧
      x.f3.length ≤ c3 ∧ Kd.C k50 w0 A3 x.f3.length x.f3 ∧ x.f4.length ≤ c4 ∧ Kd.C k50 w0 A4 x.f4.length x.f4 := by
  rw [List.getElem?_eq_some_iff] at hx
  obtain ⟨hj, rfl⟩ := hx
  obtain ⟨ad, A3, c3, A4, c4, hA, h0, h1, h2, h3, h4, l3, g3, l4, g4⟩ := at_T50 hC (j : Int) (by omega) (by omega)
  have e : rd_T50 l (j : Int) = l[j] := by simp [rd_T50, hj]
  rw [e] at h0 h1 h2 h3 h4 l3 g3 l4 g4
  rw [Int.toNat_natCast] at h0 h1 h2 h3 h4
  have up : ∀ (p : Addr) (v : Value), w0.cell? p = some v → w.cell? p = some v := fun p v h => (World.cell?_of_block (w := w0) (a := p) (hw.block _ (World.block_lt_of_cell? w0 _ h))).trans h
  exact ⟨ad, A3, c3, A4, c4, hA, up _ _ h0, up _ _ h1, up _ _ h2, up _ _ h3, up _ _ h4, l3, g3, l4, g4⟩

set_option maxRecDepth 100000 in
set_option maxHeartbeats 8000000 in
theorem run_step (N : Nat) (w0 : World) (base bp : Nat) (hbs : base = w0.heap.size) (A : Option Addr) (c : Nat) (l : List S50) (hC : Kd.C k50 w0 A l.length l) (hc : l.length ≤ c) (hd : Dp (N + 1) l) (hrun : l ≠ [] → RunOk N w0 base bp) (L : List S53) (w : World) (hw : Below base w0 w) (hB : Bk w base bp L) (hL : L.length + 2 * szl (sz N) l ≤ 100000) :
    Calls Try.prog 17 #[.pointer (some ⟨bp, 0, none⟩), .slice A l.length c] w (Post (N + 1) l base bp L w) := by
  obtain ⟨i0, EM⟩ := elt_M
  have hmf := @make_func Try.prog
  have hln : l.length ≤ 100000 := by
    have := len_sz (N + 1) l hd
    have h2 : sz (N + 1) l = szl (sz N) l := rfl
    omega
  have HC := Lib.hid hC
  have HD := Lib.hid hd
  have HRUN := Lib.hid hrun
  have HW := Lib.hid hw
  have HL := Lib.hid hL
  have hbase := hB.size.1
  have HBS := Lib.hid hbs
  have HBASE := Lib.hid hbase
  have hblk := heap_alloc_new w (.cells #[.pointer (some ⟨bp, 0, none⟩)] 37)
  have hF0 : Frm TB base w (w.alloc (.cells #[.pointer (some ⟨bp, 0, none⟩)] 37)) := Frm.alloc (Frm.refl _ _ _) hbase _
  obtain ⟨w1, hw1⟩ : ∃ w1, w1 = w.alloc (.cells #[.pointer (some ⟨bp, 0, none⟩)] 37) := ⟨_, rfl⟩
  obtain ⟨pb, hpb⟩ : ∃ pb, pb = w.heap.size := ⟨_, rfl⟩
  rw [← hw1] at hblk hF0
  rw [← hpb] at hblk
  have HRI : Hid (RI N l base bp pb L w w1 [] 0) := (by
    refine ⟨?_, by simp, hF0, hblk, by simp⟩
    rw [List.append_nil, hw1]
    exact hB.frm (T := fun _ => False) (base' := base) (Frm.alloc (Frm.refl _ _ _) hbase _) id id : RI N l base bp pb L w w1 [] 0)
  clear hC hd hrun hw hB hL hblk hF0 hbs hbase
  go_enter Try.func17, Try.ntmps17
  go_upto_region 1 with (fail)
  rw [← hw1]
  rw [← hpb]
  clear hw1 hpb
  go_wp2_with fail
  go_loopg [12] l.length (fun gh i wr => ∃ (j : Nat) (D : List S53), j ≤ l.length ∧ gh = l.length - j ∧ i = .int .i64 j ∧ Hid (RI N l base bp pb L w wr D j))
  case atStart => exact ⟨0, [], by omega, by omega, rfl, HRI⟩
  case round =>
    obtain ⟨j, D, hj, hgj, rfl, HI⟩ := hrel
    clear HRI
    by_cases hlt : j < l.length
    case neg =>
      have hlt2 : ¬ (j : Int) < (l.length : Int) := by omega
      go_wp2_with fail
      go_end0
      exact HI.out.done (by omega)
    have hlt2 : (j : Int) < (l.length : Int) := by omega
    have HRN : Hid (RunOk N w0 base bp) := (HRUN.out (fun e => by rw [e] at hlt; simp at hlt) : RunOk N w0 base bp)
    obtain ⟨x, hx⟩ : ∃ x, l[j]? = some x := ⟨l[j], List.getElem?_eq_getElem hlt⟩
    have HX := Lib.hid hx
    have hxm : x ∈ l := List.mem_of_getElem? hx
    have HDX := Lib.hid (HD.out x hxm)
    have HRM := Lib.hid (HI.out.room hx HL.out)
    have hwr : Below base w0 wr := HW.out.trans HI.out.fr.low
    have HWR := Lib.hid hwr
    obtain ⟨ad, A3, c3, A4, c4, rfl, x0, x1, x2, x3, x4, l3, g3, l4, g4⟩ := step_cells HC.out (HBS.out ▸ hwr) hx
    have HL3 := Lib.hid l3
    have HG3 := Lib.hid g3
    have HL4 := Lib.hid l4
    have HG4 := Lib.hid g4
    clear hx hxm hwr l3 g3 l4 g4
    have hl3 : x.f3.length ≤ 100000 := by
      have := len_sz N x.f3 HDX.out.1
      have := HRM.out
      omega
    obtain ⟨k1, hk1⟩ : ∃ k, x.f0 = k := ⟨_, rfl⟩
    obtain ⟨k2, hk2⟩ : ∃ k, x.f1 = k := ⟨_, rfl⟩
    obtain ⟨k3, hk3⟩ : ∃ k, x.f2 = k := ⟨_, rfl⟩
    rw [hk1] at x0
    rw [hk2] at x1
    rw [hk3] at x2
    have HK1 := Lib.hid hk1
    have HK2 := Lib.hid hk2
    have HK3 := Lib.hid hk3
    clear hk1 hk2 hk3
    go_upto_region 4 with (fail)
    have hbr : base ≤ wr.heap.size := Nat.le_trans HBASE.out HI.out.fr.low.size
    have hs2 := heap_alloc_new wr (.cells #[.int .i64 k1, .int .i64 k2, .int .i64 k3, .slice A3 x.f3.length c3, .slice A4 x.f4.length c4] 50)
    have hF2 : Frm TB base wr (wr.alloc (.cells #[.int .i64 k1, .int .i64 k2, .int .i64 k3, .slice A3 x.f3.length c3, .slice A4 x.f4.length c4] 50)) := Frm.alloc (Frm.refl _ _ _) hbr _
    have hb2 := blk_alloc HI.out.b (.cells #[.int .i64 k1, .int .i64 k2, .int .i64 k3, .slice A3 x.f3.length c3, .slice A4 x.f4.length c4] 50)
    have hbk2 : Bk (wr.alloc (.cells #[.int .i64 k1, .int .i64 k2, .int .i64 k3, .slice A3 x.f3.length c3, .slice A4 x.f4.length c4] 50)) base bp (L ++ D) := HI.out.bk.frm (T := fun _ => False) (base' := base) (Frm.alloc (Frm.refl _ _ _) hbr _) id id
    obtain ⟨w2, hw2⟩ : ∃ w2, w2 = wr.alloc (.cells #[.int .i64 k1, .int .i64 k2, .int .i64 k3, .slice A3 x.f3.length c3, .slice A4 x.f4.length c4] 50) := ⟨_, rfl⟩
    obtain ⟨ps, hps⟩ : ∃ ps, ps = wr.heap.size := ⟨_, rfl⟩
    rw [← hw2] at hs2 hF2 hb2 hbk2 ⊢
    rw [← hps] at hs2 ⊢
    have HEV : Hid (Env w2 bp pb ps k1 k2 k3 A3 x.f3.length c3 A4 x.f4.length c4) := ⟨hb2, hs2⟩
    have HF2 := Lib.hid hF2
    obtain ⟨LD, hLDe⟩ : ∃ LD, LD = L ++ D := ⟨_, rfl⟩
    rw [← hLDe] at hbk2
    have HRM : Hid (LD.length + 2 * (1 + sz N x.f3 + sz N x.f4) ≤ 100000) := (by rw [hLDe]; exact HRM.out : LD.length + 2 * (1 + sz N x.f3 + sz N x.f4) ≤ 100000)
    have HLD := Lib.hid hLDe
    have HBK2 := Lib.hid hbk2
    clear hLDe
    have HW2 : Hid (Below base w0 w2) := HWR.out.trans hF2.low
    have HB2S : Hid (base ≤ w2.heap.size) := Nat.le_trans hbr hF2.low.size
    clear hw2 hps hs2 hF2 hb2 hbk2 x0 x1 x2 x3 x4 hbr
    have s0 := (cell_of_block HEV.out.s 0).trans rfl
    have s1 := (cell_of_block HEV.out.s 1).trans rfl
    have s2 := (cell_of_block HEV.out.s 2).trans rfl
    have s3 := (cell_of_block HEV.out.s 3).trans rfl
    have p0 := (cell_of_block HEV.out.b 0).trans rfl
    by_cases c1 : k1 = 1
    · subst c1
      by_cases c2 : k2 = 0
      · subst c2
        have HE : Hid (one (sp N) x = ([], 0, 0)) := (by unfold one; rw [if_pos HK1.out, if_pos HK2.out] : one (sp N) x = ([], 0, 0))
        go_wp2_with (go_at_call 12; refine (stop_ok k3 _).mono ?_; rintro e w' ⟨rfl, rfl⟩)
        go_roundg (l.length - (j + 1))
        case measure => omega
        case rel => exact ⟨j + 1, _, by omega, rfl, by go_num, Lib.hid (HI.out.next HX.out (by rw [HE.out]) (by rw [HE.out, List.append_nil, ← HLD.out]; exact HBK2.out) HF2.out)⟩
      · have c2b : (k2 == 0) = false := beq_eq_false_iff_ne.2 c2
        have HE : Hid (RI N l base bp pb L w w2 D j) := (⟨HLD.out ▸ HBK2.out, HI.out.eq, HI.out.fr.trans HF2.out, HEV.out.b, HI.out.sm⟩ : RI N l base bp pb L w w2 D j)
        have HST := Lib.hid (HE.out.stop HX.out HK1.out (by rw [HK2.out]; exact c2))
        rw [HK2.out, HK3.out] at HST
        go_wp2_with (go_at_call 12; refine (stop_no k2 k3 c2b _).mono ?_; rintro e w' ⟨rfl, rfl⟩)
        exact ⟨rfl, HST.out⟩
    have c1b : (k1 == 1) = false := beq_eq_false_iff_ne.2 c1
    by_cases c2 : k1 = 2
    · subst c2
      have HE : Hid (one (sp N) x = ((sp N x.f3).1 ++ [⟨2, (sp N x.f3).2.1, (sp N x.f3).2.2⟩], 0, 0)) := (by unfold one; rw [if_neg (by rw [HK1.out]; decide), if_pos HK1.out] : one (sp N) x = ((sp N x.f3).1 ++ [⟨2, (sp N x.f3).2.1, (sp N x.f3).2.2⟩], 0, 0))
      have HS : Hid (∀ w' : World, Frm TB base w2 w' → w'.cell? ⟨pb, 0, none⟩ = some (.pointer (some ⟨bp, 0, none⟩))) := fun w' hF => (cell_of_block (hF.keep _ _ _ _ HEV.out.b (by decide)) 0).trans rfl
      go_wp2_with fail
      refine wp_region_held_drew (S := fun w' => w'.cell? ⟨pb, 0, none⟩ = some (.pointer (some ⟨bp, 0, none⟩))) (by kernel_rfl) (HS.out _ (Frm.refl _ _ _).drew) (fun hHeld => ?_)
      refine takeH (i := 0) (v := (.pointer (some ⟨bp, 0, none⟩))) rfl (by kernel_rfl) (by kernel_rfl) (by kernel_rfl) (fun _ _ _ h => h) (by rfl) (by intro w hSw; (try dsimp only at hSw); go_simp) (by assumption) ?_
      (try simp only [Act.put, List.setIfInBounds_toArray, List.set_cons_zero, List.set_cons_succ])
      refine takeH (i := 1) (v := (.func (.func 28) #[] #[.pointer (some ⟨pb, 0, none⟩), .pointer (some ⟨ps, 0, none⟩)])) rfl (by kernel_rfl) (by kernel_rfl) (by kernel_rfl) (fun _ _ _ h => h) (by rfl) (by intro w hSw; (try dsimp only at hSw); go_simp) (by assumption) ?_
      (try simp only [Act.put, List.setIfInBounds_toArray, List.set_cons_zero, List.set_cons_succ])
      have HFD : Hid (Frm TB base w2 w2.drew) := (Frm.refl _ _ _).drew
      have HCA := Lib.hid (catch_post (L := LD) 28 #[.pointer (some ⟨pb, 0, none⟩), .pointer (some ⟨ps, 0, none⟩)] w2.drew (fun _ _ => by simp [go_sem]) HB2S.out (clos1 HRN.out (HEV.out.frm (T := fun _ => False) (Frm.alloc (Frm.drew (Frm.refl _ _ w2)) HB2S.out _) id id) HG3.out HL3.out HDX.out.1 (HW2.out.trans (Frm.alloc (T := fun _ => False) (Frm.drew (Frm.refl _ _ w2)) HB2S.out _).low) (HBK2.out.frm (T := fun _ => False) (Frm.alloc (Frm.drew (Frm.refl _ _ w2)) HB2S.out _) id id) (by have := HRM.out; omega)))
      clear s0 s1 s2 s3 p0
      refine wpAnyH_ready (rs := [2]) (by kernel_rfl) (by simp) ?_
      refine AllReadyH.cons rfl (fun KK hKK => ?_) AllReadyH.nil
      go_simp
      go_wp2_with (go_at_call 8; refine HCA.out.mono ?_; rintro e y1 ⟨rfl, hb, hf⟩; have HY1 := Lib.hid hb; have HZ1 := Lib.hid (HFD.out.trans hf); clear hb hf)
      refine hKK.out _ _ (HS.out _ HZ1.out) (fun hHeld => ?_)
      clear hKK KK
      have hlen1 : (LD ++ (sp N x.f3).1).length ≤ 900000 := by have h1 := HRM.out; have h2 := sp_len N x.f3; rw [List.length_append]; omega
      refine wpAnyH_ready (rs := [3]) (by kernel_rfl) (by simp) ?_
      refine AllReadyH.cons rfl (fun KK hKK => ?_) AllReadyH.nil
      go_simp
      go_wp2_with (go_at_call 27; refine (note_any 2 (sp N x.f3).2.1 (sp N x.f3).2.2 base bp _ _ HY1.out hlen1).mono ?_; rintro e y2 ⟨rfl, hb, hf⟩; have HY2 := Lib.hid hb; have HZ2 := Lib.hid (HZ1.out.trans hf); clear hb hf)
      refine hKK.out _ _ (HS.out _ HZ2.out) (fun hHeld => ?_)
      clear hKK KK
      refine wpAnyH_done (by kernel_rfl) ?_ _
      clear hHeld
      go_wp2_with fail
      go_roundg (l.length - (j + 1))
      case measure => omega
      case rel => exact ⟨j + 1, _, by omega, rfl, by go_num, Lib.hid (HI.out.next HX.out (by rw [HE.out]) (by rw [HE.out, ← HLD.out, ← List.append_assoc]; exact HY2.out) (HF2.out.trans HZ2.out))⟩
    have c2b : (k1 == 2) = false := beq_eq_false_iff_ne.2 c2
    by_cases c3e : k1 = 3
    · subst c3e
      have HS : Hid (∀ w' : World, Frm TB base w2 w' → w'.cell? ⟨pb, 0, none⟩ = some (.pointer (some ⟨bp, 0, none⟩))) := fun w' hF => (cell_of_block (hF.keep _ _ _ _ HEV.out.b (by decide)) 0).trans rfl
      go_wp2_with fail
      refine wp_region_held_drew (S := fun w' => w'.cell? ⟨pb, 0, none⟩ = some (.pointer (some ⟨bp, 0, none⟩))) (by kernel_rfl) (HS.out _ (Frm.refl _ _ _).drew) (fun hHeld => ?_)
      refine takeH (i := 0) (v := (.pointer (some ⟨bp, 0, none⟩))) rfl (by kernel_rfl) (by kernel_rfl) (by kernel_rfl) (fun _ _ _ h => h) (by rfl) (by intro w hSw; (try dsimp only at hSw); go_simp) (by assumption) ?_
      (try simp only [Act.put, List.setIfInBounds_toArray, List.set_cons_zero, List.set_cons_succ])
      refine takeH (i := 1) (v := (.func (.func 29) #[] #[.pointer (some ⟨pb, 0, none⟩), .pointer (some ⟨ps, 0, none⟩)])) rfl (by kernel_rfl) (by kernel_rfl) (by kernel_rfl) (fun _ _ _ h => h) (by rfl) (by intro w hSw; (try dsimp only at hSw); go_simp) (by assumption) ?_
      (try simp only [Act.put, List.setIfInBounds_toArray, List.set_cons_zero, List.set_cons_succ])
      refine takeH (i := 2) (v := (.func (.func 30) #[] #[.pointer (some ⟨pb, 0, none⟩), .pointer (some ⟨ps, 0, none⟩)])) rfl (by kernel_rfl) (by kernel_rfl) (by kernel_rfl) (fun _ _ _ h => h) (by rfl) (by intro w hSw; (try dsimp only at hSw); go_simp) (by assumption) ?_
      (try simp only [Act.put, List.setIfInBounds_toArray, List.set_cons_zero, List.set_cons_succ])
      have HFD : Hid (Frm TB base w2 w2.drew) := (Frm.refl _ _ _).drew
      have HCA := Lib.hid (undo_steps (L := LD) HRN.out (HEV.out.frm (Frm.drew (Frm.refl (fun _ => False) base w2)) id id) HG3.out HL3.out HDX.out.1 HG4.out HL4.out HDX.out.2 (HW2.out.trans (Frm.drew (Frm.refl (fun _ => False) base w2)).low) (HBK2.out.frm (Frm.drew (Frm.refl (fun _ => False) base w2)) id id) (by have := HRM.out; omega))
      clear s0 s1 s2 s3 p0
      refine wpAnyH_ready (rs := [3]) (by kernel_rfl) (by simp) ?_
      refine AllReadyH.cons rfl (fun KK hKK => ?_) AllReadyH.nil
      go_simp
      go_wp2_with (go_at_call 20; refine HCA.out.mono ?_; rintro e y1 ⟨rfl, hb, hf⟩; have HY1 := Lib.hid hb; have HZ1 := Lib.hid (HFD.out.trans hf); clear hb hf)
      refine hKK.out _ _ (HS.out _ HZ1.out) (fun hHeld => ?_)
      clear hKK KK
      have hlen1 : (LD ++ (und N x.f3 x.f4).1).length ≤ 900000 := by have h1 := HRM.out; have h2 := und_len N x.f3 x.f4; rw [List.length_append]; omega
      refine wpAnyH_ready (rs := [4]) (by kernel_rfl) (by simp) ?_
      refine AllReadyH.cons rfl (fun KK hKK => ?_) AllReadyH.nil
      go_simp
      go_wp2_with (go_at_call 27; refine (note_any 3 (und N x.f3 x.f4).2.1 (und N x.f3 x.f4).2.2 base bp _ _ HY1.out hlen1).mono ?_; rintro e y2 ⟨rfl, hb, hf⟩; have HY2 := Lib.hid hb; have HZ2 := Lib.hid (HZ1.out.trans hf); clear hb hf)
      refine hKK.out _ _ (HS.out _ HZ2.out) (fun hHeld => ?_)
      clear hKK KK
      refine wpAnyH_done (by kernel_rfl) ?_ _
      have HE := Lib.hid (one3 N x HK1.out)
      clear hHeld
      go_wp2_with fail
      go_roundg (l.length - (j + 1))
      case measure => omega
      case rel => exact ⟨j + 1, _, by omega, rfl, by go_num, Lib.hid (HI.out.next HX.out (by rw [HE.out]) (by rw [HE.out, ← HLD.out, ← List.append_assoc]; exact HY2.out) (HF2.out.trans HZ2.out))⟩
    have c3b : (k1 == 3) = false := beq_eq_false_iff_ne.2 c3e
    by_cases c4e : k1 = 4
    · subst c4e
      have HE : Hid (one (sp N) x = ((each (sp N) x.f3 0).1 ++ [⟨4, (each (sp N) x.f3 0).2.2.1, (each (sp N) x.f3 0).2.2.2⟩, ⟨5, (each (sp N) x.f3 0).2.1, 0⟩], 0, 0)) := (by unfold one; rw [if_neg (by rw [HK1.out]; decide), if_neg (by rw [HK1.out]; decide), if_neg (by rw [HK1.out]; decide), if_pos HK1.out] : one (sp N) x = ((each (sp N) x.f3 0).1 ++ [⟨4, (each (sp N) x.f3 0).2.2.1, (each (sp N) x.f3 0).2.2.2⟩, ⟨5, (each (sp N) x.f3 0).2.1, 0⟩], 0, 0))
      obtain ⟨iF, EF⟩ := elt_F
      have HFL : Hid (FL w2 w2 pb ps [] (.slice none 0 0)) := (⟨World.ownsRow_nil _ _ _ _, fun q p h => by simp at h, Below.refl _ _⟩ : FL w2 w2 pb ps [] (.slice none 0 0))
      go_wp2_with fail
      go_loopg [6, 55] x.f3.length (fun gh fs i wq => ∃ pis : List Nat, pis.length ≤ x.f3.length ∧ gh = x.f3.length - pis.length ∧ i = .int .i64 pis.length ∧ Hid (FL w2 wq pb ps pis fs))
      case atStart => exact ⟨[], by simp, by simp, rfl, HFL⟩
      case round =>
        obtain ⟨pis, hpl, hgp, rfl, HQ⟩ := hrel
        obtain ⟨wq, hwq⟩ : ∃ wq, wq = wr := ⟨_, rfl⟩
        subst hwq
        clear HFL s0 s1 s2 s3
        by_cases hpt : pis.length < x.f3.length
        · have hpt2 : (pis.length : Int) < (x.f3.length : Int) := by omega
          have hqb : w2.heap.size ≤ (wq.alloc (.cells #[.int .i64 (pis.length : Int)] 3)).heap.size := by have := HQ.out.low.size; simp; omega
          obtain ⟨A7, c7, rfl⟩ := own_form HQ.out.own
          have HOA := Lib.hid (HQ.out.own.alloc (.cells #[.int .i64 (pis.length : Int)] 3))
          go_wp2_with (at_builtin; refine step_push EF (w := wq.alloc (.cells #[.int .i64 (pis.length : Int)] 3)) rfl _ _ rfl HOA.out rfl #[(.func (.func 31) #[] #[.pointer (some ⟨pb, 0, none⟩), .pointer (some ⟨ps, 0, none⟩), .pointer (some ⟨wq.heap.size, 0, none⟩)])] rfl (by simp) rfl (by intro u hu; obtain rfl : u = (.func (.func 31) #[] #[.pointer (some ⟨pb, 0, none⟩), .pointer (some ⟨ps, 0, none⟩), .pointer (some ⟨wq.heap.size, 0, none⟩)]) := (by simpa using hu); rfl) (by omega) hqb ?_; intro A9 c9 wz ho hg; have HN := Lib.hid (HQ.out.next ho hg); clear ho hg)
          go_roundg (x.f3.length - (pis.length + 1))
          case measure => omega
          case rel => exact ⟨pis ++ [wq.heap.size], by simp; omega, by simp, by simp, HN⟩
        have hpt2 : ¬ (pis.length : Int) < (x.f3.length : Int) := by omega
        have hpe : pis.length = x.f3.length := by omega
        obtain ⟨Af, cf, rfl⟩ := own_form HQ.out.own
        have HSE := Lib.hid (HQ.out.sees HEV.out hpe HW2.out HB2S.out)
        have HFQ : Hid (Frm (fun _ => False) base w2 wq) := Frm.ofBelow HQ.out.low HB2S.out
        have HFI := Lib.hid (first_steps (L := LD) (cap := cf) HRN.out HSE.out HG3.out HL3.out HDX.out.1 (HBK2.out.frm HFQ.out id id) (by have := HRM.out; omega) hpe (by omega))
        rw [hpe]
        clear hpt hgp hpl HQ
        go_wp2_with fail
        refine HFI.out.mono ?_
        rintro e w4 ⟨rfl, hb4, hf4⟩
        obtain ⟨ek, hek⟩ : ∃ e, (each (sp N) x.f3 0).2.1 = e := ⟨_, rfl⟩
        obtain ⟨ec, hec⟩ : ∃ e, (each (sp N) x.f3 0).2.2.1 = e := ⟨_, rfl⟩
        obtain ⟨ea, hea⟩ : ∃ e, (each (sp N) x.f3 0).2.2.2 = e := ⟨_, rfl⟩
        obtain ⟨EE, hEE⟩ : ∃ e, (each (sp N) x.f3 0).1 = e := ⟨_, rfl⟩
        have hEl := each_len (sp N) (sz N) (sz_cons N) (fun y => sp_len N [y]) x.f3 0
        have HE2 : Hid (one (sp N) x = (EE ++ [⟨4, ec, ea⟩, ⟨5, ek, 0⟩], 0, 0)) := (by rw [HE.out, hek, hec, hea, hEE] : one (sp N) x = (EE ++ [⟨4, ec, ea⟩, ⟨5, ek, 0⟩], 0, 0))
        rw [hEE] at hb4 hEl
        rw [hek, hec, hea]
        have hF4 : Frm TB base w2 w4 := (HFQ.out.mono fun t ht => ht.elim).trans hf4
        have hb4s : base ≤ w4.heap.size := Nat.le_trans HB2S.out hF4.low.size
        have HLE : Hid ((LD ++ EE).length ≤ 800000) := (by have := HRM.out; rw [List.length_append]; omega : (LD ++ EE).length ≤ 800000)
        have hx9 := heap_alloc_new w4 (.cells #[.int .i64 ec, .int .i64 ea] 25)
        have hF5 : Frm TB base w2 (w4.alloc (.cells #[.int .i64 ec, .int .i64 ea] 25)) := hF4.alloc HB2S.out _
        have hbk5 : Bk (w4.alloc (.cells #[.int .i64 ec, .int .i64 ea] 25)) base bp (LD ++ EE) := hb4.frm (T := fun _ => False) (base' := base) (Frm.alloc (Frm.refl _ _ _) hb4s _) id id
        have hp5 := hF5.keep _ _ _ _ HEV.out.b (by decide)
        have p0 := (cell_of_block hp5 0).trans rfl
        obtain ⟨n0, n1, nf0, nf1, nl⟩ := two_of_block hx9
        have HF5 := Lib.hid hF5
        have HBK5 := Lib.hid hbk5
        clear hek hec hea hEE hb4 hf4 hF4 hb4s hx9 hF5 hbk5 hp5 HFI HSE hEl
        go_wp2_with fail
        refine (note_any 4 ec ea base bp _ _ HBK5.out (Nat.le_trans HLE.out (by omega))).mono ?_
        rintro e w6 ⟨rfl, hb6, hf6⟩
        obtain ⟨LF, hLF⟩ : ∃ LF, LF = LD ++ EE ++ [(⟨4, ec, ea⟩ : S53)] := ⟨_, rfl⟩
        rw [← hLF] at hb6
        have hLFl : LF.length ≤ 900000 := by have := HLE.out; rw [hLF]; simp only [List.length_append, List.length_cons, List.length_nil] at this ⊢; omega
        have HLF := Lib.hid hLF
        have HBK6 := Lib.hid hb6
        have HF6 := Lib.hid (HF5.out.trans hf6)
        have HS : Hid (∀ w' : World, Frm TB base w6 w' → w'.cell? ⟨pb, 0, none⟩ = some (.pointer (some ⟨bp, 0, none⟩))) := fun w' hF => (cell_of_block ((HF6.out.trans hF).keep _ _ _ _ HEV.out.b (by decide)) 0).trans rfl
        clear hLF hb6 hf6 p0 n0 n1 nf0 nf1 nl
        go_wp2_with fail
        refine wp_region_held_drew (S := fun w' => w'.cell? ⟨pb, 0, none⟩ = some (.pointer (some ⟨bp, 0, none⟩))) (by kernel_rfl) (HS.out _ (Frm.refl _ _ _).drew) (fun hHeld => ?_)
        obtain ⟨A, cc, hb, ho⟩ := HBK6.out.row
        have hlo := HBK6.out.lo
        have hbase := HBK6.out.size.1
        obtain ⟨z0, hz0⟩ : ∃ z0, z0 = w6.drew := ⟨_, rfl⟩
        have HB2 : Hid (z0.heap[bp]? = some (.cells #[.slice A (LF).length cc] 40)) := (by rw [hz0]; exact hb : z0.heap[bp]? = some (.cells #[.slice A (LF).length cc] 40))
        have HO2 : Hid (z0.ownsRow base 53 3 (.slice A (LF).length cc) (LF).length (mcl (LF))) := (by rw [hz0]; exact ho : z0.ownsRow base 53 3 (.slice A (LF).length cc) (LF).length (mcl (LF)))
        have HF2 : Hid (Frm TB base w6 z0) := (by rw [hz0]; exact (Frm.refl _ _ _).drew : Frm TB base w6 z0)
        rw [← hz0] at hHeld ⊢
        obtain ⟨p0, pf0, pl⟩ := one_of_block HB2.out
        clear hz0 hb ho
        refine takeH (i := 0) (v := (.pointer (some ⟨bp, 0, none⟩))) rfl (by kernel_rfl) (by kernel_rfl) (by kernel_rfl) (fun _ _ _ h => h) (by rfl) (by intro w hSw; (try dsimp only at hSw); go_simp) (by assumption) ?_
        (try simp only [Act.put, List.setIfInBounds_toArray, List.set_cons_zero, List.set_cons_succ])
        refine takeH (i := 1) (v := (.pointer (some ⟨bp, 0, none⟩))) rfl (by kernel_rfl) (by kernel_rfl) (by kernel_rfl) (fun _ _ _ h => h) (by rfl) (by intro w hSw; (try dsimp only at hSw); go_simp) (by assumption) ?_
        (try simp only [Act.put, List.setIfInBounds_toArray, List.set_cons_zero, List.set_cons_succ])
        refine takeH (i := 2) (v := (.pointer (some ⟨bp, 0, none⟩))) rfl (by kernel_rfl) (by kernel_rfl) (by kernel_rfl) (fun _ _ _ h => h) (by rfl) (by intro w hSw; (try dsimp only at hSw); go_simp) (by assumption) ?_
        (try simp only [Act.put, List.setIfInBounds_toArray, List.set_cons_zero, List.set_cons_succ])
        refine takeH (i := 3) (v := (.pointer (some ⟨bp, 0, none⟩))) rfl (by kernel_rfl) (by kernel_rfl) (by kernel_rfl) (fun _ _ _ h => h) (by rfl) (by intro w hSw; (try dsimp only at hSw); go_simp) (by assumption) ?_
        (try simp only [Act.put, List.setIfInBounds_toArray, List.set_cons_zero, List.set_cons_succ])
        refine takeH (i := 5) (v := (.int .i64 ek)) rfl (by kernel_rfl) (by kernel_rfl) (by kernel_rfl) (fun _ _ _ h => h) (by rfl) (by intro w hSw; (try dsimp only at hSw); go_simp) (by assumption) ?_
        (try simp only [Act.put, List.setIfInBounds_toArray, List.set_cons_zero, List.set_cons_succ])
        refine takeH (i := 6) (v := (.agg #[.int .i64 5, .int .i64 ek, .int .i64 0])) rfl (by kernel_rfl) (by kernel_rfl) (by kernel_rfl) (fun _ _ _ h => h) (by rfl) (by intro w hSw; (try dsimp only at hSw); go_simp) (by assumption) ?_
        (try simp only [Act.put, List.setIfInBounds_toArray, List.set_cons_zero, List.set_cons_succ])
        refine wpAnyH_ready (rs := [4, 7]) (by kernel_rfl) (by simp) ?_
        refine AllReadyH.cons rfl (fun KK hKK => ?_) (AllReadyH.cons rfl (fun KK hKK => ?_) AllReadyH.nil)
        · skip
          go_simp
          refine hKK.out _ _ hHeld (fun hHeld => ?_)
          clear hKK KK
          (try simp only [Act.put, List.setIfInBounds_toArray, List.set_cons_zero, List.set_cons_succ])
          refine wpAnyH_ready (rs := [7]) (by kernel_rfl) (by simp) ?_
          refine AllReadyH.cons rfl (fun KK hKK => ?_) AllReadyH.nil
          go_simp
          have hA := heap_alloc_new z0 (.cells #[.int .i64 5, .int .i64 ek, .int .i64 0] 53)
          have hF3 : Frm TB base w6 (z0.alloc (.cells #[.int .i64 5, .int .i64 ek, .int .i64 0] 53)) := HF2.out.alloc hbase _
          refine hKK.out _ (z0.alloc (.cells #[.int .i64 5, .int .i64 ek, .int .i64 0] 53)) (HS.out _ hF3) (fun hHeld => ?_)
          clear hKK KK
          (try simp only [Act.put, List.setIfInBounds_toArray, List.set_cons_zero, List.set_cons_succ])
          obtain ⟨z1, hz1⟩ : ∃ z1, z1 = z0.alloc (.cells #[.int .i64 5, .int .i64 ek, .int .i64 0] 53) := ⟨_, rfl⟩
          have HB3 : Hid (z1.heap[bp]? = some (.cells #[.slice A (LF).length cc] 40)) := (by rw [hz1]; exact blk_alloc HB2.out _ : z1.heap[bp]? = some (.cells #[.slice A (LF).length cc] 40))
          have HO3 : Hid (z1.ownsRow base 53 3 (.slice A (LF).length cc) (LF).length (mcl (LF))) := (by rw [hz1]; exact HO2.out.alloc _ : z1.ownsRow base 53 3 (.slice A (LF).length cc) (LF).length (mcl (LF)))
          rw [← hz1] at hA hF3 hHeld ⊢
          have HF3 := Lib.hid hF3
          obtain ⟨g, hg⟩ : ∃ g, g = z0.heap.size := ⟨_, rfl⟩
          rw [← hg] at hA ⊢
          clear hz1 hg hF3 HB2 HO2 HF2 p0 pf0 pl
          obtain ⟨p0, pf0, pl⟩ := one_of_block HB3.out
          have hb1 : base ≤ z1.heap.size := Nat.le_trans hbase HF3.out.low.size
          refine wpAnyH_ready (rs := [8]) (by kernel_rfl) (by simp) ?_
          refine AllReadyH.cons rfl (fun KK hKK => ?_) AllReadyH.nil
          refine reg_push EM (w := z1) (o := ⟨some 79, _, _, _, _, _⟩) rfl _ _ rfl HO3.out rfl #[.int .i64 5, .int .i64 ek, .int .i64 0] rfl hA rfl (by intro u hu; simp at hu; rcases hu with rfl | rfl | rfl <;> rfl) (by omega) hb1 ?_
          intro A9 c9 z2 ho2 hgr
          have hFg := Frm.grownOwn (T := fun t => t = 53) HO3.out hgr rfl hb1
          have hB4 := hFg.keep _ _ _ _ HB3.out (by decide)
          have hF4 : Frm TB base w6 z2 := HF3.out.trans (hFg.mono fun t ht => .inr ht)
          refine hKK.out _ z2 (HS.out z2 hF4) (fun hHeld => ?_)
          clear hKK KK
          (try simp only [Act.put, List.setIfInBounds_toArray, List.set_cons_zero, List.set_cons_succ])
          have HB4 := Lib.hid hB4
          have HO4 := Lib.hid ho2
          have HF4 := Lib.hid hF4
          clear p0 pf0 pl
          obtain ⟨p0, pf0, pl⟩ := one_of_block hB4
          clear hB4 ho2 hgr hFg hA HB3 HO3 HF3 hF4
          refine takeH (i := 9) (v := (.pointer (some ⟨bp, 0, none⟩))) rfl (by kernel_rfl) (by kernel_rfl) (by kernel_rfl) (fun _ _ _ h => h) (by rfl) (by intro w hSw; (try dsimp only at hSw); go_simp) (by assumption) ?_
          (try simp only [Act.put, List.setIfInBounds_toArray, List.set_cons_zero, List.set_cons_succ])
          refine takeH (i := 10) (v := (.pointer (some ⟨bp, 0, none⟩))) rfl (by kernel_rfl) (by kernel_rfl) (by kernel_rfl) (fun _ _ _ h => h) (by rfl) (by intro w hSw; (try dsimp only at hSw); go_simp) (by assumption) ?_
          (try simp only [Act.put, List.setIfInBounds_toArray, List.set_cons_zero, List.set_cons_succ])
          have hFs := Frm.setCell (T := TB) HB4.out (.inl rfl) hlo 0 (.slice A9 ((LF).length + 1) c9)
          have hFm := Frm.setCell (T := fun t => t = 40) HB4.out rfl hlo 0 (.slice A9 ((LF).length + 1) c9)
          have hF5 := HF4.out.trans hFs
          have hlen : ((LF) ++ [(⟨5, ek, 0⟩ : S53)]).length = (LF).length + 1 := by simp
          have hfin : Bk (z2.setCell ⟨bp, 0, none⟩ (.slice A9 ((LF).length + 1) c9)) base bp ((LF) ++ [⟨5, ek, 0⟩]) := ⟨⟨A9, c9, by rw [hlen]; exact blk_set HB4.out 0 _, by rw [hlen, mcl_add]; exact hFm.owns HO4.out (by decide)⟩, hlo⟩
          refine wpAnyH_ready (rs := [11]) (by kernel_rfl) (by simp) ?_
          refine AllReadyH.cons rfl (fun KK hKK => ?_) AllReadyH.nil
          go_simp
          refine hKK.out _ (z2.setCell ⟨bp, 0, none⟩ (.slice A9 ((LF).length + 1) c9)) (HS.out _ hF5) (fun hHeld => ?_)
          clear hKK KK
          refine wpAnyH_done (by kernel_rfl) ?_ _
          obtain ⟨z3, hz3⟩ : ∃ z3, z3 = z2.setCell ⟨bp, 0, none⟩ (.slice A9 ((LF).length + 1) c9) := ⟨_, rfl⟩
          rw [← hz3] at hF5 hfin ⊢
          have HBZ := Lib.hid hfin
          have HFZ := Lib.hid hF5
          clear hz3 hfin hF5 hFs hFm hHeld p0 pf0 pl HB4 HO4 HF4
          go_wp2_with fail
          go_roundg (l.length - (j + 1))
          case measure => omega
          case rel =>
            have hfin : Bk z3 base bp (L ++ D ++ (one (sp N) x).1) := by
              have h1 := HBZ.out
              rw [HLF.out] at h1
              rw [HE2.out, ← HLD.out]
              simpa [List.append_assoc] using h1
            exact ⟨j + 1, _, by omega, rfl, by go_num, Lib.hid (HI.out.next HX.out (by rw [HE2.out]) hfin ((HF2.out.trans HF6.out).trans HFZ.out))⟩
        · skip
          go_simp
          have hA := heap_alloc_new z0 (.cells #[.int .i64 5, .int .i64 ek, .int .i64 0] 53)
          have hF3 : Frm TB base w6 (z0.alloc (.cells #[.int .i64 5, .int .i64 ek, .int .i64 0] 53)) := HF2.out.alloc hbase _
          refine hKK.out _ (z0.alloc (.cells #[.int .i64 5, .int .i64 ek, .int .i64 0] 53)) (HS.out _ hF3) (fun hHeld => ?_)
          clear hKK KK
          (try simp only [Act.put, List.setIfInBounds_toArray, List.set_cons_zero, List.set_cons_succ])
          obtain ⟨z1, hz1⟩ : ∃ z1, z1 = z0.alloc (.cells #[.int .i64 5, .int .i64 ek, .int .i64 0] 53) := ⟨_, rfl⟩
          have HB3 : Hid (z1.heap[bp]? = some (.cells #[.slice A (LF).length cc] 40)) := (by rw [hz1]; exact blk_alloc HB2.out _ : z1.heap[bp]? = some (.cells #[.slice A (LF).length cc] 40))
          have HO3 : Hid (z1.ownsRow base 53 3 (.slice A (LF).length cc) (LF).length (mcl (LF))) := (by rw [hz1]; exact HO2.out.alloc _ : z1.ownsRow base 53 3 (.slice A (LF).length cc) (LF).length (mcl (LF)))
          rw [← hz1] at hA hF3 hHeld ⊢
          have HF3 := Lib.hid hF3
          obtain ⟨g, hg⟩ : ∃ g, g = z0.heap.size := ⟨_, rfl⟩
          rw [← hg] at hA ⊢
          clear hz1 hg hF3 HB2 HO2 HF2 p0 pf0 pl
          obtain ⟨p0, pf0, pl⟩ := one_of_block HB3.out
          refine wpAnyH_ready (rs := [4]) (by kernel_rfl) (by simp) ?_
          refine AllReadyH.cons rfl (fun KK hKK => ?_) AllReadyH.nil
          go_simp
          refine hKK.out _ _ hHeld (fun hHeld => ?_)
          clear hKK KK
          (try simp only [Act.put, List.setIfInBounds_toArray, List.set_cons_zero, List.set_cons_succ])
          have hb1 : base ≤ z1.heap.size := Nat.le_trans hbase HF3.out.low.size
          refine wpAnyH_ready (rs := [8]) (by kernel_rfl) (by simp) ?_
          refine AllReadyH.cons rfl (fun KK hKK => ?_) AllReadyH.nil
          refine reg_push EM (w := z1) (o := ⟨some 79, _, _, _, _, _⟩) rfl _ _ rfl HO3.out rfl #[.int .i64 5, .int .i64 ek, .int .i64 0] rfl hA rfl (by intro u hu; simp at hu; rcases hu with rfl | rfl | rfl <;> rfl) (by omega) hb1 ?_
          intro A9 c9 z2 ho2 hgr
          have hFg := Frm.grownOwn (T := fun t => t = 53) HO3.out hgr rfl hb1
          have hB4 := hFg.keep _ _ _ _ HB3.out (by decide)
          have hF4 : Frm TB base w6 z2 := HF3.out.trans (hFg.mono fun t ht => .inr ht)
          refine hKK.out _ z2 (HS.out z2 hF4) (fun hHeld => ?_)
          clear hKK KK
          (try simp only [Act.put, List.setIfInBounds_toArray, List.set_cons_zero, List.set_cons_succ])
          have HB4 := Lib.hid hB4
          have HO4 := Lib.hid ho2
          have HF4 := Lib.hid hF4
          clear p0 pf0 pl
          obtain ⟨p0, pf0, pl⟩ := one_of_block hB4
          clear hB4 ho2 hgr hFg hA HB3 HO3 HF3 hF4
          refine takeH (i := 9) (v := (.pointer (some ⟨bp, 0, none⟩))) rfl (by kernel_rfl) (by kernel_rfl) (by kernel_rfl) (fun _ _ _ h => h) (by rfl) (by intro w hSw; (try dsimp only at hSw); go_simp) (by assumption) ?_
          (try simp only [Act.put, List.setIfInBounds_toArray, List.set_cons_zero, List.set_cons_succ])
          refine takeH (i := 10) (v := (.pointer (some ⟨bp, 0, none⟩))) rfl (by kernel_rfl) (by kernel_rfl) (by kernel_rfl) (fun _ _ _ h => h) (by rfl) (by intro w hSw; (try dsimp only at hSw); go_simp) (by assumption) ?_
          (try simp only [Act.put, List.setIfInBounds_toArray, List.set_cons_zero, List.set_cons_succ])
          have hFs := Frm.setCell (T := TB) HB4.out (.inl rfl) hlo 0 (.slice A9 ((LF).length + 1) c9)
          have hFm := Frm.setCell (T := fun t => t = 40) HB4.out rfl hlo 0 (.slice A9 ((LF).length + 1) c9)
          have hF5 := HF4.out.trans hFs
          have hlen : ((LF) ++ [(⟨5, ek, 0⟩ : S53)]).length = (LF).length + 1 := by simp
          have hfin : Bk (z2.setCell ⟨bp, 0, none⟩ (.slice A9 ((LF).length + 1) c9)) base bp ((LF) ++ [⟨5, ek, 0⟩]) := ⟨⟨A9, c9, by rw [hlen]; exact blk_set HB4.out 0 _, by rw [hlen, mcl_add]; exact hFm.owns HO4.out (by decide)⟩, hlo⟩
          refine wpAnyH_ready (rs := [11]) (by kernel_rfl) (by simp) ?_
          refine AllReadyH.cons rfl (fun KK hKK => ?_) AllReadyH.nil
          go_simp
          refine hKK.out _ (z2.setCell ⟨bp, 0, none⟩ (.slice A9 ((LF).length + 1) c9)) (HS.out _ hF5) (fun hHeld => ?_)
          clear hKK KK
          refine wpAnyH_done (by kernel_rfl) ?_ _
          obtain ⟨z3, hz3⟩ : ∃ z3, z3 = z2.setCell ⟨bp, 0, none⟩ (.slice A9 ((LF).length + 1) c9) := ⟨_, rfl⟩
          rw [← hz3] at hF5 hfin ⊢
          have HBZ := Lib.hid hfin
          have HFZ := Lib.hid hF5
          clear hz3 hfin hF5 hFs hFm hHeld p0 pf0 pl HB4 HO4 HF4
          go_wp2_with fail
          go_roundg (l.length - (j + 1))
          case measure => omega
          case rel =>
            have hfin : Bk z3 base bp (L ++ D ++ (one (sp N) x).1) := by
              have h1 := HBZ.out
              rw [HLF.out] at h1
              rw [HE2.out, ← HLD.out]
              simpa [List.append_assoc] using h1
            exact ⟨j + 1, _, by omega, rfl, by go_num, Lib.hid (HI.out.next HX.out (by rw [HE2.out]) hfin ((HF2.out.trans HF6.out).trans HFZ.out))⟩
    have c4b : (k1 == 4) = false := beq_eq_false_iff_ne.2 c4e
    have HE : Hid (one (sp N) x = ([⟨0, k2, 0⟩], 0, 0)) := (by unfold one; rw [HK1.out, HK2.out, if_neg c1, if_neg c2, if_neg c3e, if_neg c4e] : one (sp N) x = ([⟨0, k2, 0⟩], 0, 0))
    have HS : Hid (∀ w' : World, Frm TB base w2 w' → w'.cell? ⟨pb, 0, none⟩ = some (.pointer (some ⟨bp, 0, none⟩)) ∧ w'.cell? ⟨ps, 1, none⟩ = some (.int .i64 k2)) := fun w' hF => ⟨(cell_of_block (hF.keep _ _ _ _ HEV.out.b (by decide)) 0).trans rfl, (cell_of_block (hF.keep _ _ _ _ HEV.out.s (by decide)) 1).trans rfl⟩
    have hLD : LD.length ≤ 900000 := by have := HRM.out; omega
    go_wp2_with fail
    clear s0 s1 s2 s3 p0
    refine wp_region_held_drew (S := fun w' => w'.cell? ⟨pb, 0, none⟩ = some (.pointer (some ⟨bp, 0, none⟩)) ∧ w'.cell? ⟨ps, 1, none⟩ = some (.int .i64 k2)) (by kernel_rfl) (HS.out _ (Frm.refl _ _ _).drew) (fun hHeld => ?_)
    obtain ⟨A, cc, hb, ho⟩ := HBK2.out.row
    have hlo := HBK2.out.lo
    have hbase := HBK2.out.size.1
    obtain ⟨z0, hz0⟩ : ∃ z0, z0 = w2.drew := ⟨_, rfl⟩
    have HB2 : Hid (z0.heap[bp]? = some (.cells #[.slice A (LD).length cc] 40)) := (by rw [hz0]; exact hb : z0.heap[bp]? = some (.cells #[.slice A (LD).length cc] 40))
    have HO2 : Hid (z0.ownsRow base 53 3 (.slice A (LD).length cc) (LD).length (mcl (LD))) := (by rw [hz0]; exact ho : z0.ownsRow base 53 3 (.slice A (LD).length cc) (LD).length (mcl (LD)))
    have HF2 : Hid (Frm TB base w2 z0) := (by rw [hz0]; exact (Frm.refl _ _ _).drew : Frm TB base w2 z0)
    rw [← hz0] at hHeld ⊢
    obtain ⟨p0, pf0, pl⟩ := one_of_block HB2.out
    clear hz0 hb ho
    refine takeH (i := 0) (v := (.pointer (some ⟨bp, 0, none⟩))) rfl (by kernel_rfl) (by kernel_rfl) (by kernel_rfl) (fun _ _ _ h => h) (by rfl) (by intro w hSw; (try dsimp only at hSw); go_simp) (by assumption) ?_
    (try simp only [Act.put, List.setIfInBounds_toArray, List.set_cons_zero, List.set_cons_succ])
    refine takeH (i := 1) (v := (.pointer (some ⟨bp, 0, none⟩))) rfl (by kernel_rfl) (by kernel_rfl) (by kernel_rfl) (fun _ _ _ h => h) (by rfl) (by intro w hSw; (try dsimp only at hSw); go_simp) (by assumption) ?_
    (try simp only [Act.put, List.setIfInBounds_toArray, List.set_cons_zero, List.set_cons_succ])
    refine takeH (i := 2) (v := (.pointer (some ⟨bp, 0, none⟩))) rfl (by kernel_rfl) (by kernel_rfl) (by kernel_rfl) (fun _ _ _ h => h) (by rfl) (by intro w hSw; (try dsimp only at hSw); go_simp) (by assumption) ?_
    (try simp only [Act.put, List.setIfInBounds_toArray, List.set_cons_zero, List.set_cons_succ])
    refine takeH (i := 3) (v := (.pointer (some ⟨bp, 0, none⟩))) rfl (by kernel_rfl) (by kernel_rfl) (by kernel_rfl) (fun _ _ _ h => h) (by rfl) (by intro w hSw; (try dsimp only at hSw); go_simp) (by assumption) ?_
    (try simp only [Act.put, List.setIfInBounds_toArray, List.set_cons_zero, List.set_cons_succ])
    refine takeH (i := 5) (v := (.pointer (some ⟨ps, 1, none⟩))) rfl (by kernel_rfl) (by kernel_rfl) (by kernel_rfl) (fun _ _ _ h => h) (by rfl) (by intro w hSw; (try dsimp only at hSw); go_simp) (by assumption) ?_
    (try simp only [Act.put, List.setIfInBounds_toArray, List.set_cons_zero, List.set_cons_succ])
    refine takeH (i := 6) (v := (.int .i64 k2)) rfl (by kernel_rfl) (by kernel_rfl) (by kernel_rfl) (fun _ _ _ h => h) (by rfl) (by intro w hSw; (try dsimp only at hSw); go_simp) (by assumption) ?_
    (try simp only [Act.put, List.setIfInBounds_toArray, List.set_cons_zero, List.set_cons_succ])
    refine takeH (i := 7) (v := (.agg #[.int .i64 0, .int .i64 k2, .int .i64 0])) rfl (by kernel_rfl) (by kernel_rfl) (by kernel_rfl) (fun _ _ _ h => h) (by rfl) (by intro w hSw; (try dsimp only at hSw); go_simp) (by assumption) ?_
    (try simp only [Act.put, List.setIfInBounds_toArray, List.set_cons_zero, List.set_cons_succ])
    refine wpAnyH_ready (rs := [4, 8]) (by kernel_rfl) (by simp) ?_
    refine AllReadyH.cons rfl (fun KK hKK => ?_) (AllReadyH.cons rfl (fun KK hKK => ?_) AllReadyH.nil)
    · skip
      go_simp
      refine hKK.out _ _ hHeld (fun hHeld => ?_)
      clear hKK KK
      (try simp only [Act.put, List.setIfInBounds_toArray, List.set_cons_zero, List.set_cons_succ])
      refine wpAnyH_ready (rs := [8]) (by kernel_rfl) (by simp) ?_
      refine AllReadyH.cons rfl (fun KK hKK => ?_) AllReadyH.nil
      go_simp
      have hA := heap_alloc_new z0 (.cells #[.int .i64 0, .int .i64 k2, .int .i64 0] 53)
      have hF3 : Frm TB base w2 (z0.alloc (.cells #[.int .i64 0, .int .i64 k2, .int .i64 0] 53)) := HF2.out.alloc hbase _
      refine hKK.out _ (z0.alloc (.cells #[.int .i64 0, .int .i64 k2, .int .i64 0] 53)) (HS.out _ hF3) (fun hHeld => ?_)
      clear hKK KK
      (try simp only [Act.put, List.setIfInBounds_toArray, List.set_cons_zero, List.set_cons_succ])
      obtain ⟨z1, hz1⟩ : ∃ z1, z1 = z0.alloc (.cells #[.int .i64 0, .int .i64 k2, .int .i64 0] 53) := ⟨_, rfl⟩
      have HB3 : Hid (z1.heap[bp]? = some (.cells #[.slice A (LD).length cc] 40)) := (by rw [hz1]; exact blk_alloc HB2.out _ : z1.heap[bp]? = some (.cells #[.slice A (LD).length cc] 40))
      have HO3 : Hid (z1.ownsRow base 53 3 (.slice A (LD).length cc) (LD).length (mcl (LD))) := (by rw [hz1]; exact HO2.out.alloc _ : z1.ownsRow base 53 3 (.slice A (LD).length cc) (LD).length (mcl (LD)))
      rw [← hz1] at hA hF3 hHeld ⊢
      have HF3 := Lib.hid hF3
      obtain ⟨g, hg⟩ : ∃ g, g = z0.heap.size := ⟨_, rfl⟩
      rw [← hg] at hA ⊢
      clear hz1 hg hF3 HB2 HO2 HF2 p0 pf0 pl
      obtain ⟨p0, pf0, pl⟩ := one_of_block HB3.out
      have hb1 : base ≤ z1.heap.size := Nat.le_trans hbase HF3.out.low.size
      refine wpAnyH_ready (rs := [9]) (by kernel_rfl) (by simp) ?_
      refine AllReadyH.cons rfl (fun KK hKK => ?_) AllReadyH.nil
      refine reg_push EM (w := z1) (o := ⟨some 27, _, _, _, _, _⟩) rfl _ _ rfl HO3.out rfl #[.int .i64 0, .int .i64 k2, .int .i64 0] rfl hA rfl (by intro u hu; simp at hu; rcases hu with rfl | rfl | rfl <;> rfl) (by omega) hb1 ?_
      intro A9 c9 z2 ho2 hgr
      have hFg := Frm.grownOwn (T := fun t => t = 53) HO3.out hgr rfl hb1
      have hB4 := hFg.keep _ _ _ _ HB3.out (by decide)
      have hF4 : Frm TB base w2 z2 := HF3.out.trans (hFg.mono fun t ht => .inr ht)
      refine hKK.out _ z2 (HS.out z2 hF4) (fun hHeld => ?_)
      clear hKK KK
      (try simp only [Act.put, List.setIfInBounds_toArray, List.set_cons_zero, List.set_cons_succ])
      have HB4 := Lib.hid hB4
      have HO4 := Lib.hid ho2
      have HF4 := Lib.hid hF4
      clear p0 pf0 pl
      obtain ⟨p0, pf0, pl⟩ := one_of_block hB4
      clear hB4 ho2 hgr hFg hA HB3 HO3 HF3 hF4
      refine takeH (i := 10) (v := (.pointer (some ⟨bp, 0, none⟩))) rfl (by kernel_rfl) (by kernel_rfl) (by kernel_rfl) (fun _ _ _ h => h) (by rfl) (by intro w hSw; (try dsimp only at hSw); go_simp) (by assumption) ?_
      (try simp only [Act.put, List.setIfInBounds_toArray, List.set_cons_zero, List.set_cons_succ])
      refine takeH (i := 11) (v := (.pointer (some ⟨bp, 0, none⟩))) rfl (by kernel_rfl) (by kernel_rfl) (by kernel_rfl) (fun _ _ _ h => h) (by rfl) (by intro w hSw; (try dsimp only at hSw); go_simp) (by assumption) ?_
      (try simp only [Act.put, List.setIfInBounds_toArray, List.set_cons_zero, List.set_cons_succ])
      have hFs := Frm.setCell (T := TB) HB4.out (.inl rfl) hlo 0 (.slice A9 ((LD).length + 1) c9)
      have hFm := Frm.setCell (T := fun t => t = 40) HB4.out rfl hlo 0 (.slice A9 ((LD).length + 1) c9)
      have hF5 := HF4.out.trans hFs
      have hlen : ((LD) ++ [(⟨0, k2, 0⟩ : S53)]).length = (LD).length + 1 := by simp
      have hfin : Bk (z2.setCell ⟨bp, 0, none⟩ (.slice A9 ((LD).length + 1) c9)) base bp ((LD) ++ [⟨0, k2, 0⟩]) := ⟨⟨A9, c9, by rw [hlen]; exact blk_set HB4.out 0 _, by rw [hlen, mcl_add]; exact hFm.owns HO4.out (by decide)⟩, hlo⟩
      refine wpAnyH_ready (rs := [12]) (by kernel_rfl) (by simp) ?_
      refine AllReadyH.cons rfl (fun KK hKK => ?_) AllReadyH.nil
      go_simp
      refine hKK.out _ (z2.setCell ⟨bp, 0, none⟩ (.slice A9 ((LD).length + 1) c9)) (HS.out _ hF5) (fun hHeld => ?_)
      clear hKK KK
      refine wpAnyH_done (by kernel_rfl) ?_ _
      obtain ⟨z3, hz3⟩ : ∃ z3, z3 = z2.setCell ⟨bp, 0, none⟩ (.slice A9 ((LD).length + 1) c9) := ⟨_, rfl⟩
      rw [← hz3] at hF5 hfin ⊢
      have HBZ := Lib.hid hfin
      have HFZ := Lib.hid hF5
      clear hz3 hfin hF5 hFs hFm hHeld p0 pf0 pl HB4 HO4 HF4
      go_wp2_with fail
      go_roundg (l.length - (j + 1))
      case measure => omega
      case rel => exact ⟨j + 1, _, by omega, rfl, by go_num, Lib.hid (HI.out.next HX.out (by rw [HE.out]) (by rw [HE.out, ← HLD.out]; exact HBZ.out) (HF2.out.trans HFZ.out))⟩
    · skip
      go_simp
      have hA := heap_alloc_new z0 (.cells #[.int .i64 0, .int .i64 k2, .int .i64 0] 53)
      have hF3 : Frm TB base w2 (z0.alloc (.cells #[.int .i64 0, .int .i64 k2, .int .i64 0] 53)) := HF2.out.alloc hbase _
      refine hKK.out _ (z0.alloc (.cells #[.int .i64 0, .int .i64 k2, .int .i64 0] 53)) (HS.out _ hF3) (fun hHeld => ?_)
      clear hKK KK
      (try simp only [Act.put, List.setIfInBounds_toArray, List.set_cons_zero, List.set_cons_succ])
      obtain ⟨z1, hz1⟩ : ∃ z1, z1 = z0.alloc (.cells #[.int .i64 0, .int .i64 k2, .int .i64 0] 53) := ⟨_, rfl⟩
      have HB3 : Hid (z1.heap[bp]? = some (.cells #[.slice A (LD).length cc] 40)) := (by rw [hz1]; exact blk_alloc HB2.out _ : z1.heap[bp]? = some (.cells #[.slice A (LD).length cc] 40))
      have HO3 : Hid (z1.ownsRow base 53 3 (.slice A (LD).length cc) (LD).length (mcl (LD))) := (by rw [hz1]; exact HO2.out.alloc _ : z1.ownsRow base 53 3 (.slice A (LD).length cc) (LD).length (mcl (LD)))
      rw [← hz1] at hA hF3 hHeld ⊢
      have HF3 := Lib.hid hF3
      obtain ⟨g, hg⟩ : ∃ g, g = z0.heap.size := ⟨_, rfl⟩
      rw [← hg] at hA ⊢
      clear hz1 hg hF3 HB2 HO2 HF2 p0 pf0 pl
      obtain ⟨p0, pf0, pl⟩ := one_of_block HB3.out
      refine wpAnyH_ready (rs := [4]) (by kernel_rfl) (by simp) ?_
      refine AllReadyH.cons rfl (fun KK hKK => ?_) AllReadyH.nil
      go_simp
      refine hKK.out _ _ hHeld (fun hHeld => ?_)
      clear hKK KK
      (try simp only [Act.put, List.setIfInBounds_toArray, List.set_cons_zero, List.set_cons_succ])
      have hb1 : base ≤ z1.heap.size := Nat.le_trans hbase HF3.out.low.size
      refine wpAnyH_ready (rs := [9]) (by kernel_rfl) (by simp) ?_
      refine AllReadyH.cons rfl (fun KK hKK => ?_) AllReadyH.nil
      refine reg_push EM (w := z1) (o := ⟨some 27, _, _, _, _, _⟩) rfl _ _ rfl HO3.out rfl #[.int .i64 0, .int .i64 k2, .int .i64 0] rfl hA rfl (by intro u hu; simp at hu; rcases hu with rfl | rfl | rfl <;> rfl) (by omega) hb1 ?_
      intro A9 c9 z2 ho2 hgr
      have hFg := Frm.grownOwn (T := fun t => t = 53) HO3.out hgr rfl hb1
      have hB4 := hFg.keep _ _ _ _ HB3.out (by decide)
      have hF4 : Frm TB base w2 z2 := HF3.out.trans (hFg.mono fun t ht => .inr ht)
      refine hKK.out _ z2 (HS.out z2 hF4) (fun hHeld => ?_)
      clear hKK KK
      (try simp only [Act.put, List.setIfInBounds_toArray, List.set_cons_zero, List.set_cons_succ])
      have HB4 := Lib.hid hB4
      have HO4 := Lib.hid ho2
      have HF4 := Lib.hid hF4
      clear p0 pf0 pl
      obtain ⟨p0, pf0, pl⟩ := one_of_block hB4
      clear hB4 ho2 hgr hFg hA HB3 HO3 HF3 hF4
      refine takeH (i := 10) (v := (.pointer (some ⟨bp, 0, none⟩))) rfl (by kernel_rfl) (by kernel_rfl) (by kernel_rfl) (fun _ _ _ h => h) (by rfl) (by intro w hSw; (try dsimp only at hSw); go_simp) (by assumption) ?_
      (try simp only [Act.put, List.setIfInBounds_toArray, List.set_cons_zero, List.set_cons_succ])
      refine takeH (i := 11) (v := (.pointer (some ⟨bp, 0, none⟩))) rfl (by kernel_rfl) (by kernel_rfl) (by kernel_rfl) (fun _ _ _ h => h) (by rfl) (by intro w hSw; (try dsimp only at hSw); go_simp) (by assumption) ?_
      (try simp only [Act.put, List.setIfInBounds_toArray, List.set_cons_zero, List.set_cons_succ])
      have hFs := Frm.setCell (T := TB) HB4.out (.inl rfl) hlo 0 (.slice A9 ((LD).length + 1) c9)
      have hFm := Frm.setCell (T := fun t => t = 40) HB4.out rfl hlo 0 (.slice A9 ((LD).length + 1) c9)
      have hF5 := HF4.out.trans hFs
      have hlen : ((LD) ++ [(⟨0, k2, 0⟩ : S53)]).length = (LD).length + 1 := by simp
      have hfin : Bk (z2.setCell ⟨bp, 0, none⟩ (.slice A9 ((LD).length + 1) c9)) base bp ((LD) ++ [⟨0, k2, 0⟩]) := ⟨⟨A9, c9, by rw [hlen]; exact blk_set HB4.out 0 _, by rw [hlen, mcl_add]; exact hFm.owns HO4.out (by decide)⟩, hlo⟩
      refine wpAnyH_ready (rs := [12]) (by kernel_rfl) (by simp) ?_
      refine AllReadyH.cons rfl (fun KK hKK => ?_) AllReadyH.nil
      go_simp
      refine hKK.out _ (z2.setCell ⟨bp, 0, none⟩ (.slice A9 ((LD).length + 1) c9)) (HS.out _ hF5) (fun hHeld => ?_)
      clear hKK KK
      refine wpAnyH_done (by kernel_rfl) ?_ _
      obtain ⟨z3, hz3⟩ : ∃ z3, z3 = z2.setCell ⟨bp, 0, none⟩ (.slice A9 ((LD).length + 1) c9) := ⟨_, rfl⟩
      rw [← hz3] at hF5 hfin ⊢
      have HBZ := Lib.hid hfin
      have HFZ := Lib.hid hF5
      clear hz3 hfin hF5 hFs hFm hHeld p0 pf0 pl HB4 HO4 HF4
      go_wp2_with fail
      go_roundg (l.length - (j + 1))
      case measure => omega
      case rel => exact ⟨j + 1, _, by omega, rfl, by go_num, Lib.hid (HI.out.next HX.out (by rw [HE.out]) (by rw [HE.out, ← HLD.out]; exact HBZ.out) (HF2.out.trans HFZ.out))⟩
theorem run_ok (w0 : World) (base bp : Nat) (hbs : base = w0.heap.size) : ∀ N, RunOk N w0 base bp
  | 0 => fun A c l hC hc hd L w hw hB hL => by
    have h0 : l = [] := hd
    subst h0
    exact run_step 0 w0 base bp hbs A c [] hC hc (fun x hx => by cases hx) (fun h => absurd rfl h) L w hw hB (by simp only [szl]; omega)
  | N + 1 => fun A c l hC hc hd L w hw hB hL => run_step N w0 base bp hbs A c l hC hc hd (fun _ => run_ok w0 base bp hbs N) L w hw hB hL
end Go.Proofs.Ytigcmbakglghpaa
