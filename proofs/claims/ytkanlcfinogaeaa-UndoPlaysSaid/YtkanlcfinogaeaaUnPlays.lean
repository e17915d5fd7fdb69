/-
  Law package 11: the law UndoPlays, walked.
-/
import Derived.Test.YtkanlcfinogaeaaUnAdded
import Derived.Deep.RegionHeld
import Derived.Deep.CutBlock
import Derived.Deep.DeepCutAuto
import Derived.Deep.LoopGhost
namespace Go.Proofs.Ytkanlcfinogaeaa
open Go.RowKit Go.ChangeShapes Go.WideShapes Go.ChangeAt
set_option linter.unusedVariables false
set_option linter.unusedSimpArgs false

set_option maxRecDepth 8000 in
set_option maxHeartbeats 16000000 in
theorem undoPlays_in (q : Int) (h0 : 0 ≤ q) (h1 : q ≤ 100000) (A : Option Addr) (cap : Nat) (ops : List UOp) (w : World) (hr : ReadsU w A ops) :
    Calls Try.prog 3 #[.int .i64 q, .slice A ops.length cap] w fun e w' => e = .returned (.bool true) ∧ Below w.heap.size w w' := by
  have hnot := @unary_not Try.prog
  have HR := Lib.hid hr; clear hr
  go_enter Try.func3, Try.ntmps3
  go_wp2_with fail
  refine (awake_any w).mono ?_
  rintro e w1 ⟨rfl, hb0⟩
  have HB0 := Lib.hid hb0; clear hb0
  go_wp2_with fail
  refine (new_any q h0 h1 w1).mono ?_
  rintro e w2 ⟨rfl, hb2, hu⟩
  have HU2 := Lib.hid hu
  have HB1 := Lib.hid hb2
  have HB2 : Hid (Below w.heap.size w w2) := HB0.out.trans (hb2.mono HB0.out.size)
  clear hu hb2
  go_wp2_with fail
  refine (great_any A cap ops w w2 HR.out HB2.out).mono ?_
  rintro e w3 ⟨g1, rfl, hg1, hb3⟩
  have HB3 : Hid (Below w.heap.size w w3) := HB2.out.trans (hb3.mono HB2.out.size)
  have HG1 := Lib.hid hg1
  have HU3 := Lib.hid (HU2.out.below hb3 HU2.out.le)
  have HS3 : Hid (w1.heap.size ≤ w3.heap.size) := Nat.le_trans HB1.out.size hb3.size
  clear hb3 hg1
  cases g1 with
  | true =>
    go_wp2_with fail
    go_ret
    exact ⟨rfl, HB3.out⟩
  | false =>
    obtain ⟨s1, m1⟩ := HG1.out rfl
    have M1 := Lib.hid m1
    clear m1 HG1
    have hduo : Duo w w1.heap.size w1.heap.size w3.heap.size ⟨[], [], q⟩ ⟨[], q⟩ (w3.alloc (.cells #[.int .i64 q, .slice none 0 0] 32)) := by
      have hba : Below w3.heap.size w3 (w3.alloc (.cells #[.int .i64 q, .slice none 0 0] 32)) := (Below.refl _ _).alloc (Nat.le_refl _) _
      exact ⟨HU3.out.below hba HU3.out.le, ⟨[], _, HS3.out, heap_alloc_new _ _, World.ownsRow_nil _ _ _ _, rfl, fun y hy => by cases hy⟩, HB3.out.trans (hba.mono HB3.out.size), HB0.out.size⟩
    have HD := Lib.hid hduo
    clear hduo
    go_wp2_with fail
    go_loopg [49] ops.length (fun g i wr => ∃ j : Nat, j ≤ ops.length ∧ g = ops.length - j ∧ i = .int .i64 j ∧ ∃ S R, Hid (Duo w w1.heap.size w1.heap.size w3.heap.size S R wr) ∧ Hid (Held S R j))
    case atStart => exact ⟨0, by omega, by omega, rfl, _, _, HD, Held.start q⟩
    case round =>
      clear HD HU3 HB3 HU2 HB2
      obtain ⟨j, hj, hg, rfl, S, R, K, HT⟩ := hrel
      obtain ⟨ln1, ln2, ln3⟩ := HT.out.lens (by omega)
      by_cases hlt : j < ops.length
      · obtain ⟨o, ho⟩ : ∃ o, ops[j]? = some o := ⟨_, List.getElem?_eq_getElem hlt⟩
        obtain ⟨b, off, rfl, hbl, c0, c1, c2, c3, c4, c5, c6, c7⟩ := HR.out.cells ho K.out.low
        obtain ⟨-, hon, hrd, hv1, hv2⟩ := HR.out j _ ho
        have hsm := M1.out j _ ho
        obtain ⟨ok, on, nm, x⟩ := o
        have HRD := Lib.hid hrd
        have HV := Lib.hid hv1
        have HON := Lib.hid hon
        have HSM := Lib.hid hsm
        clear ho hon hrd hv1 hv2 hsm
        dsimp only at *
        go_upto_block 2 with (fail)
        have hblk := heap_alloc_new wr (.cells (UOp.cells ⟨ok, on, nm, x⟩).toArray 37)
        have hkx := K.out.below ((Below.refl wr.heap.size wr).alloc (Nat.le_refl _) (.cells (UOp.cells ⟨ok, on, nm, x⟩).toArray 37))
        obtain ⟨wx, hwx⟩ : ∃ wx, wx = wr.alloc (.cells #[.int .i64 ok, .int .i64 on, .string nm, .int .i64 x.e.kind, .int .i64 x.e.id, .string x.e.table, .slice x.oa x.e.old.length x.oc, .slice x.na x.e.new.length x.nc] 37) := ⟨_, rfl⟩
        replace hblk : wx.heap[wr.heap.size]? = some (.cells (UOp.cells ⟨ok, on, nm, x⟩).toArray 37) := by rw [hwx]; exact hblk
        replace hkx : Duo w w1.heap.size w1.heap.size w3.heap.size S R wx := by rw [hwx]; exact hkx
        rw [← hwx]
        have hBw : w1.heap.size ≤ wr.heap.size := K.out.le
        obtain ⟨B, hB⟩ : ∃ B, B = wr.heap.size := ⟨_, rfl⟩
        rw [← hB] at hblk hBw ⊢
        clear hwx hB c0 c1 c2 c3 c4 c5 c6 c7
        obtain ⟨x0, x1, x2, x3, x4, x5, x6, x7, xl⟩ := eight_of_block hblk
        have KX := Lib.hid hkx
        have HBK := Lib.hid hblk
        clear hkx hblk hbl
        go_cut [10] (fun f wc => f = .bool true ∧ ∃ S R, Hid (Duo w w1.heap.size w1.heap.size w3.heap.size S R wc) ∧ Hid (Held S R (j + 1)))
        case rest =>
          as_aux_lemma =>
            clear KX HBK HT K x0 x1 x2 x3 x4 x5 x6 x7 xl ln1 ln2 ln3 HRD HV HSM HON
            obtain ⟨rfl, S, R, K, HT⟩ := hcut
            obtain ⟨ln1, ln2, ln3⟩ := HT.out.lens (by omega)
            have hl1 := len_is K.out.ur HT.out.tie.len
            have HL1 := Lib.hid hl1
            clear hl1
            go_wp2_with fail
            refine HL1.out.mono ?_
            rintro e w' ⟨rfl, rfl⟩
            go_wp2_with fail
            refine (rlen_any K.out.rr ln1).mono ?_
            rintro e w' ⟨rfl, rfl⟩
            go_wp2_with fail
            refine (saves_any K.out.ur ln3).mono ?_
            rintro e wa ⟨Aa, ca, rfl, hoa, hba⟩
            have Ka := Lib.hid (K.out.below hba)
            have hoa2 := HT.out.names ▸ hoa
            rw [HT.out.names]
            have HOa := Lib.hid hoa2
            clear hoa hoa2 hba
            go_wp2_with fail
            refine (rsaves_any Ka.out.rr ln1).mono ?_
            rintro e wb ⟨Ab, cb, rfl, hob, hbb⟩
            have Kb := Lib.hid (Ka.out.below hbb)
            have HA6 := Lib.hid ((ReadsN.of HOa.out rfl).below hbb (Nat.le_refl _))
            have HB6 := Lib.hid (ReadsN.of hob rfl)
            have hnl : (rnames R.items).length ≤ 1000000 := by have := rnames_len R.items R.items.length; rw [List.take_length] at this; omega
            clear hob hbb
            go_wp2_with fail
            refine (same06_any Aa Ab (rnames R.items) ca cb HA6.out HB6.out hnl).mono ?_
            rintro e wd ⟨rfl, nd, rfl⟩
            have Kd := Lib.hid (Kb.out.drewN nd)
            go_wp2_with fail
            go_roundg (ops.length - (j + 1))
            case measure => omega
            case rel => exact ⟨j + 1, by omega, rfl, by go_num, S, R, Kd, HT⟩
        case first =>
          by_cases k0 : ok = 0
          · subst k0
            dsimp only at x0 x1 x2 x3 x4 x5 x6 x7
            have so : x.e.old.length ≤ 20 := HSM.out.old
            have sn : x.e.new.length ≤ 20 := HSM.out.new
            go_upto_region 18 with (fail)
            have hN := heap_alloc_new wx (.cells x.cells.toArray 35)
            have hxa : Below wx.heap.size wx (wx.alloc (.cells x.cells.toArray 35)) := (Below.refl _ _).alloc (Nat.le_refl _) _
            have hsz := heap_alloc_size wx (.cells x.cells.toArray 35)
            obtain ⟨wa, hwa⟩ : ∃ wa, wa = wx.alloc (.cells #[.int .i64 x.e.kind, .int .i64 x.e.id, .string x.e.table, .slice x.oa x.e.old.length x.oc, .slice x.na x.e.new.length x.nc] 35) := ⟨_, rfl⟩
            replace hN : wa.heap[wx.heap.size]? = some (.cells x.cells.toArray 35) := by rw [hwa]; exact hN
            replace hxa : Below wx.heap.size wx wa := by rw [hwa]; exact hxa
            replace hsz : wa.heap.size = wx.heap.size + 1 := by rw [hwa]; exact hsz
            rw [← hwa]
            clear hwa
            have hxr : x.Rd w.heap.size wa := HRD.out.frm (T := TN) (Frm.ofBelow (KX.out.low.trans (hxa.mono KX.out.low.size)) (Nat.le_refl _)) (fun h => h) (Nat.le_refl _)
            have HN := Lib.hid hN
            have HXA := Lib.hid hxa
            have HSZ := Lib.hid hsz
            have HSo := Lib.hid hxr.src.1
            have HSn := Lib.hid hxr.src.2
            clear hN hxa hsz hxr x0 x1 x2 x3 x4 x5 x6 x7
            go_cut [62] (fun v62 wc => ∃ A1 c1 A2 c2, Hid (Copied wx wc x A1 c1 A2 c2))
            case first =>
              as_aux_lemma =>
                obtain ⟨i0, EV⟩ := elt_V
                obtain ⟨b0, b1, b2, b3, b4, -, -, nl⟩ := five_of_block HN.out
                have HOa : Hid (World.ownsRow (wa.alloc (.cells #[] 42)).drew wa.heap.size 42 3 (.slice (some ⟨wa.heap.size, 0, none⟩) 0 0) 0 []) := rowV wa
                have HXa : Hid (Below wa.heap.size wa (wa.alloc (.cells #[] 42)).drew) := below_drewN ((Below.refl _ _).alloc (Nat.le_refl _) _) 1
                have HSa : Hid (Src (wa.alloc (.cells #[] 42)).drew x.oa x.e.old.length x.oc (vcells x.e.old)) := HSo.out.below HXa.out (Nat.le_refl _)
                have HXb : Hid (Below wa.heap.size wa ((wa.alloc (.cells #[] 42)).alloc (.cells #[] 42)).drew) := below_drewN (((Below.refl _ _).alloc (Nat.le_refl _) _).alloc (by simp) _) 1
                have HXc := HXb
                have HSb : Hid (Src ((wa.alloc (.cells #[] 42)).alloc (.cells #[] 42)).drew x.oa x.e.old.length x.oc (vcells x.e.old)) := HSo.out.below HXb.out (Nat.le_refl _)
                have HSc := HSb
                have hq1 : (World.heap ((wa.alloc (.cells #[] 42)).alloc (.cells #[] 42)).drew)[wa.heap.size]? = some (.cells #[] 42) := blk_alloc (heap_alloc_new wa (.cells #[] 42)) (.cells #[] 42)
                have hq2 : (World.heap ((wa.alloc (.cells #[] 42)).alloc (.cells #[] 42)).drew)[wa.heap.size + 1]? = some (.cells #[] 42) := by
                  have h := heap_alloc_new (wa.alloc (.cells #[] 42)) (.cells #[] 42)
                  rw [heap_alloc_size] at h
                  exact h
                have HQ1 := Lib.hid hq1
                have HQ2 := Lib.hid hq2
                have HOb : Hid (World.ownsRow ((wa.alloc (.cells #[] 42)).alloc (.cells #[] 42)).drew wa.heap.size 42 3 (.slice (some ⟨wa.heap.size, 0, none⟩) 0 0) 0 []) := rowV_at hq1 (Nat.le_refl _)
                have HOc : Hid (World.ownsRow ((wa.alloc (.cells #[] 42)).alloc (.cells #[] 42)).drew wa.heap.size 42 3 (.slice (some ⟨wa.heap.size + 1, 0, none⟩) 0 0) 0 []) := rowV_at hq2 (Nat.le_succ _)
                clear hq1 hq2
                go_region_law
                  (first
                    | (refine reg_copy EV (w := (wa.alloc (.cells #[] 42)).drew) rfl _ _ rfl HOa.out rfl rfl (vcells_len _) HSa.out (vcells_one _) ⟨by omega, by omega⟩ HXa.out.size ?_; intro A3 c3 w3 ho hg; simp only [Nat.zero_add, List.nil_append] at ho; have HPa := Lib.hid ho; have HGa := Lib.hid hg; have HBa : Hid (Below wa.heap.size wa w3) := HXa.out.grown hg HXa.out.size (fun k hk => (HOa.out.lt k hk).1); clear ho hg; obtain ⟨e0, e1, e2, e3, e4, -, -, -⟩ := five_of_block ((HBa.out.block _ nl).trans HN.out); have HTa := Lib.hid (HSn.out.below HBa.out (Nat.le_refl _)); obtain ⟨d0, d1, d2, d3, d4, -, -, -⟩ := five_of_block (blk_alloc ((HBa.out.block _ nl).trans HN.out) (.cells #[] 42)))
                    | (refine reg_copy EV (w := ((wa.alloc (.cells #[] 42)).alloc (.cells #[] 42)).drew) rfl _ _ rfl HOb.out rfl rfl (vcells_len _) HSb.out (vcells_one _) ⟨by omega, by omega⟩ HXb.out.size ?_; intro A3 c3 w3 ho hg; simp only [Nat.zero_add, List.nil_append] at ho; have HPb := Lib.hid ho; have HGb := Lib.hid hg; have HBb : Hid (Below wa.heap.size wa w3) := HXb.out.grown hg HXb.out.size (fun k hk => (HOb.out.lt k hk).1); clear ho hg; obtain ⟨e0, e1, e2, e3, e4, -, -, -⟩ := five_of_block ((HBb.out.block _ nl).trans HN.out); have HTb := Lib.hid (HSn.out.below HBb.out (Nat.le_refl _)); have HF2 := Lib.hid (blk_grown HQ2.out HGb.out (fun e => Nat.ne_of_gt (Nat.lt_succ_self _) (Option.some.inj e))))
                    | (refine reg_copy EV (w := ((wa.alloc (.cells #[] 42)).alloc (.cells #[] 42)).drew) rfl _ _ rfl HOc.out rfl rfl (vcells_len _) HSc.out (vcells_one _) ⟨by omega, by omega⟩ HXc.out.size ?_; intro A3 c3 w3 ho hg; simp only [Nat.zero_add, List.nil_append] at ho; have HPc := Lib.hid ho; have HGc := Lib.hid hg; have HBc : Hid (Below wa.heap.size wa w3) := HXc.out.grown hg HXc.out.size (fun k hk => (HOc.out.lt k hk).1); clear ho hg; obtain ⟨e0, e1, e2, e3, e4, -, -, -⟩ := five_of_block ((HBc.out.block _ nl).trans HN.out); have HTc := Lib.hid (HSn.out.below HBc.out (Nat.le_refl _)); have HF1 := Lib.hid (blk_grown HQ1.out HGc.out (fun e => Nat.ne_of_lt (Nat.lt_succ_self _) (Option.some.inj e))))
                    | (refine reg_copy EV (w := w3.alloc (.cells #[] 42)) rfl _ _ rfl (rowV w3) rfl rfl (vcells_len _) (HTa.out.below (w' := w3.alloc (.cells #[] 42)) ((Below.refl w3.heap.size _).alloc (Nat.le_refl _) _) (Nat.le_refl _)) (vcells_one _) ⟨by omega, by omega⟩ (Nat.le_of_lt (by rw [heap_alloc_size]; exact Nat.lt_succ_self _)) ?_; intro A4 c4 w4 ho hg; simp only [Nat.zero_add, List.nil_append] at ho; have HP2 : Hid (w4.ownsRow wa.heap.size 42 3 (.slice A4 x.e.new.length c4) x.e.new.length (vcells x.e.new)) := owns_up ho HBa.out.size; have HK2 : Hid (0 < x.e.old.length → w4.ownsRow wa.heap.size 42 3 (.slice A3 x.e.old.length c3) x.e.old.length (vcells x.e.old)) := (fun hn => own_beside (HPa.out.alloc _) hn (heap_alloc_new w3 _) hg : 0 < x.e.old.length → w4.ownsRow wa.heap.size 42 3 (.slice A3 x.e.old.length c3) x.e.old.length (vcells x.e.old)); have HB2 : Hid (Below wa.heap.size wa w4) := (HBa.out.alloc HBa.out.size (.cells #[] 42)).grown hg (HBa.out.alloc HBa.out.size (.cells #[] 42)).size (fun k hk => Nat.le_trans HBa.out.size ((rowV w3).lt k hk).1); have HP1 := Lib.hid HPa.out; clear ho hg; obtain ⟨g0, g1, g2, g3, g4, g5, g6, -⟩ := five_of_block ((HB2.out.block _ nl).trans HN.out))
                    | (refine reg_copy EV (w := w3) rfl _ _ rfl (rowV_at (base := wa.heap.size) HF2.out (Nat.le_succ _)) rfl rfl (vcells_len _) HTb.out (vcells_one _) ⟨by omega, by omega⟩ HBb.out.size ?_; intro A4 c4 w4 ho hg; simp only [Nat.zero_add, List.nil_append] at ho; have HP2 : Hid (w4.ownsRow wa.heap.size 42 3 (.slice A4 x.e.new.length c4) x.e.new.length (vcells x.e.new)) := owns_up ho (Nat.le_refl _); have HK2 : Hid (0 < x.e.old.length → w4.ownsRow wa.heap.size 42 3 (.slice A3 x.e.old.length c3) x.e.old.length (vcells x.e.old)) := (fun hn => own_beside HPb.out hn HF2.out hg : 0 < x.e.old.length → w4.ownsRow wa.heap.size 42 3 (.slice A3 x.e.old.length c3) x.e.old.length (vcells x.e.old)); have HB2 : Hid (Below wa.heap.size wa w4) := HBb.out.grown hg HBb.out.size (fun k hk => ((rowV_at (base := wa.heap.size) HF2.out (Nat.le_succ _)).lt k hk).1); have HP1 := Lib.hid HPb.out; clear ho hg; obtain ⟨g0, g1, g2, g3, g4, g5, g6, -⟩ := five_of_block ((HB2.out.block _ nl).trans HN.out))
                    | (refine reg_copy EV (w := w3) rfl _ _ rfl (rowV_at (base := wa.heap.size) HF1.out (Nat.le_refl _)) rfl rfl (vcells_len _) HTc.out (vcells_one _) ⟨by omega, by omega⟩ HBc.out.size ?_; intro A4 c4 w4 ho hg; simp only [Nat.zero_add, List.nil_append] at ho; have HP2 : Hid (w4.ownsRow wa.heap.size 42 3 (.slice A4 x.e.new.length c4) x.e.new.length (vcells x.e.new)) := owns_up ho (Nat.le_refl _); have HK2 : Hid (0 < x.e.old.length → w4.ownsRow wa.heap.size 42 3 (.slice A3 x.e.old.length c3) x.e.old.length (vcells x.e.old)) := (fun hn => own_beside HPc.out hn HF1.out hg : 0 < x.e.old.length → w4.ownsRow wa.heap.size 42 3 (.slice A3 x.e.old.length c3) x.e.old.length (vcells x.e.old)); have HB2 : Hid (Below wa.heap.size wa w4) := HBc.out.grown hg HBc.out.size (fun k hk => ((rowV_at (base := wa.heap.size) HF1.out (Nat.le_refl _)).lt k hk).1); have HP1 := Lib.hid HPc.out; clear ho hg; obtain ⟨g0, g1, g2, g3, g4, g5, g6, -⟩ := five_of_block ((HB2.out.block _ nl).trans HN.out)))
                all_goals
                  go_wp2_with fail
                  go_meet
                  exact ⟨_, _, _, _, Lib.hid (Copied.of HSZ.out HXA.out HN.out HB2.out HP1.out HK2.out HP2.out)⟩
            case rest =>
              as_aux_lemma =>
                obtain ⟨A1, c1, A2, c2, HC⟩ := hcut
                have HZ : ∃ z, Hid (addZ S = z) := ⟨_, Lib.hid rfl⟩
                obtain ⟨z, HZ⟩ := HZ
                have hN := HC.out.blk
                have hBc : wc.heap[B]? = some (.cells (UOp.cells ⟨0, on, nm, x⟩).toArray 37) := (HC.out.low.block B xl).trans HBK.out
                have HWX : Hid (w1.heap.size ≤ wx.heap.size) := KX.out.le
                obtain ⟨bb, hbb⟩ : ∃ bb, wc.heap.size = bb := ⟨_, rfl⟩
                have HBB := Lib.hid hbb
                clear hbb
                have HWC : Hid (wx.heap.size < wc.heap.size) := lt_of_block hN
                have HBD : Hid (Below wx.heap.size wx wc.drew) := below_drewN HC.out.low 1
                obtain ⟨n0, n1, n2, n3, n4, -, -, nl⟩ := five_of_block (w := wc.drew) (B := wx.heap.size) hN
                obtain ⟨b0, b1, b2, b3, b4, b5, b6, b7, bl⟩ := eight_of_block (w := wc.drew) hBc
                dsimp only at n0 n1 n2 n3 n4 b0 b1 b2 b3 b4 b5 b6 b7
                have hS0 := And.intro n0 (And.intro n1 (And.intro n2 (And.intro n3 (And.intro n4 (And.intro b3 (And.intro b4 (And.intro b5 (And.intro b6 b7))))))))
                have HN0 := Lib.hid hN
                have HB0 := Lib.hid hBc
                clear hN hBc nl bl b0 b1 b2
                go_upto_region 19 with (fail)
                go_cut [10] (fun f wy => f = .bool true ∧ Hid (Poked w w1.heap.size w1.heap.size w3.heap.size wx.heap.size bb (addS S x.e) (addR R x.e) ⟨x.e, A1, c1, A2, c2⟩ wy))
                case first =>
                  as_aux_lemma =>
                    go_region_held (fun w' => w'.cell? ⟨wx.heap.size, 0, none⟩ = some (.int .i64 x.e.kind) ∧ w'.cell? ⟨wx.heap.size, 1, none⟩ = some (.int .i64 x.e.id) ∧ w'.cell? ⟨wx.heap.size, 2, none⟩ = some (.string x.e.table) ∧ w'.cell? ⟨wx.heap.size, 3, none⟩ = some (.slice A1 x.e.old.length c1) ∧ w'.cell? ⟨wx.heap.size, 4, none⟩ = some (.slice A2 x.e.new.length c2) ∧ w'.cell? ⟨B, 3, none⟩ = some (.int .i64 x.e.kind) ∧ w'.cell? ⟨B, 4, none⟩ = some (.int .i64 x.e.id) ∧ w'.cell? ⟨B, 5, none⟩ = some (.string x.e.table) ∧ w'.cell? ⟨B, 6, none⟩ = some (.slice x.oa x.e.old.length x.oc) ∧ w'.cell? ⟨B, 7, none⟩ = some (.slice x.na x.e.new.length x.nc))
                      (first | exact hS0 | exact hS1 | exact hS2 | assumption)
                      (first
                        | (go_at_call 9; refine (KX.out.addTo HBD.out (b := wc.heap.size) (Nat.le_refl _) ln2 ⟨x.e, A1, c1, A2, c2⟩ (HC.out.rdD _) (Nat.le_trans so (by omega)) (Nat.le_trans sn (by omega)) z HZ.out).mono ?_; rintro e y1 ⟨rfl, hA1, hf1, hk1⟩; have HA1 := Lib.hid hA1; have HF1 := Lib.hid (((Frm.refl TP w1.heap.size wc).drew).trans hf1.tu); have hN1 : y1.heap[wx.heap.size]? = _ := (hk1 _ (Nat.le_refl _) HWC.out).trans HN0.out; have hB1 : y1.heap[B]? = _ := hf1.blk HB0.out (by unfold TU; decide); obtain ⟨n0', n1', n2', n3', n4', -, -, -⟩ := five_of_block hN1; obtain ⟨-, -, -, b3', b4', b5', b6', b7', -⟩ := eight_of_block hB1; dsimp only at n0' n1' n2' n3' n4' b3' b4' b5' b6' b7'; have hS1 := And.intro n0' (And.intro n1' (And.intro n2' (And.intro n3' (And.intro n4' (And.intro b3' (And.intro b4' (And.intro b5' (And.intro b6' b7')))))))); clear n0' n1' n2' n3' n4' b3' b4' b5' b6' b7' hA1 hk1 hf1)
                        | (go_at_call 10; refine (HA1.out.radd ln1 x HRD.out KX.out.low.size HT.out.tie z HZ.out).mono ?_; rintro e y2 ⟨rfl, hA2, hf2⟩; have HA2 := Lib.hid hA2; have HF2 := Lib.hid (HF1.out.trans hf2.tr); have hN2 : y2.heap[wx.heap.size]? = _ := hf2.blk hN1 (by unfold TR; decide); have HN2 := Lib.hid hN2; have hB2 : y2.heap[B]? = _ := hf2.blk hB1 (by unfold TR; decide); obtain ⟨n0'', n1'', n2'', n3'', n4'', -, -, -⟩ := five_of_block hN2; obtain ⟨-, -, -, b3'', b4'', b5'', b6'', b7'', -⟩ := eight_of_block hB2; dsimp only at n0'' n1'' n2'' n3'' n4'' b3'' b4'' b5'' b6'' b7''; have hS2 := And.intro n0'' (And.intro n1'' (And.intro n2'' (And.intro n3'' (And.intro n4'' (And.intro b3'' (And.intro b4'' (And.intro b5'' (And.intro b6'' b7'')))))))); clear n0'' n1'' n2'' n3'' n4'' b3'' b4'' b5'' b6'' b7'' hA2 hf2))
                    all_goals
                      go_wp2_with fail
                      go_meet
                      exact ⟨rfl, Lib.hid (HBB.out ▸ Poked.of HC.out HWX.out HN2.out HF2.out HA2.out)⟩
                case rest =>
                  as_aux_lemma =>
                    obtain ⟨rfl, HP⟩ := hcut
                    clear HN0 HB0 HBD hS0 n0 n1 n2 n3 n4 b3 b4 b5 b6 b7 HC KX HBK
                    obtain ⟨-, -, -, m3, -, -, -, -⟩ := five_of_block HP.out.blk
                    dsimp only at m3
                    go_wp2_with fail
                    go_loopg [80] x.e.old.length (fun g i wl => ∃ j : Nat, j ≤ x.e.old.length ∧ g = x.e.old.length - j ∧ i = .int .i64 j ∧ Hid (Poked w w1.heap.size w1.heap.size w3.heap.size wx.heap.size bb (addS S x.e) (addR R x.e) ⟨x.e, A1, c1, A2, c2⟩ wl))
                    case atStart => exact ⟨0, by omega, by omega, rfl, HP⟩
                    case round =>
                      clear HP m3
                      obtain ⟨i, hi, hgi, rfl, HP⟩ := hrel
                      by_cases hlt2 : i < x.e.old.length
                      · obtain ⟨f, z2, hA1, hc1, hz1⟩ := HP.out.cell hlt2
                        obtain rfl : A1 = some ⟨f, 0, none⟩ := hA1
                        obtain ⟨-, -, -, m3, -, -, -, -⟩ := five_of_block HP.out.blk
                        dsimp only at m3
                        go_wp2_with fail
                        go_roundg (x.e.old.length - (i + 1))
                        case measure => omega
                        case rel => exact ⟨i + 1, by omega, rfl, by go_num, Lib.hid (HP.out.step rfl (Nat.lt_of_le_of_lt (Nat.zero_le _) hlt2) _ _)⟩
                      · go_wp2_with fail
                        go_meet
                        exact ⟨rfl, _, _, Lib.hid HP.out.add.duo, Lib.hid (HT.out.added x.e ⟨Nat.le_trans so (by omega), Nat.le_trans sn (by omega)⟩)⟩
          have k0b : (ok == 0) = false := beq_eq_false_iff_ne.2 k0
          by_cases k1 : ok = 1
          · as_aux_lemma =>
              subst k1
              clear k0 k0b
              go_wp2_with fail
              refine (KX.out.save ln3 nm).mono ?_
              rintro e w5 ⟨rfl, hk, hf⟩
              have K5 := Lib.hid hk
              obtain ⟨y0, y1, y2, y3, y4, y5, y6, y7, yl⟩ := eight_of_block (hf.blk HBK.out (by unfold TP TU TR; decide))
              clear hk hf
              go_wp2_with fail
              refine (K5.out.rsave ln1 nm).mono ?_
              rintro e w6 ⟨rfl, hk, hf⟩
              have K6 := Lib.hid hk
              clear hk hf K5 y0 y1 y2 y3 y4 y5 y6 y7 yl
              go_wp2_with fail
              go_meet
              exact ⟨rfl, _, _, K6, HT.out.save nm _⟩
          have k1b : (ok == 1) = false := beq_eq_false_iff_ne.2 k1
          by_cases k2 : ok = 2
          · subst k2
            clear k0 k0b k1 k1b
            rcases last_save R.items nm with hno | ⟨p, ys, hp, hps, hpn, hno⟩
            · as_aux_lemma =>
                have HNO := Lib.hid hno
                clear hno
                go_wp2_with fail
                refine (KX.out.backNone ln3 nm (HT.out.tie.unfound HNO.out)).mono ?_
                rintro e w5 ⟨rfl, hk, hf⟩
                have K5 := Lib.hid hk
                obtain ⟨y0, y1, y2, y3, y4, y5, y6, y7, yl⟩ := eight_of_block (hf.blk HBK.out (by unfold TP TU TR; decide))
                clear hk hf
                go_wp2_with fail
                refine (K5.out.rbackNone ln1 nm HNO.out).mono ?_
                rintro e w6 ⟨rfl, rfl⟩
                clear y0 y1 y2 y3 y4 y5 y6 y7 yl
                go_wp2_with fail
                refine (K5.out.plain (J := []) (KeepE.nil _ _ _) (by simp)).mono ?_
                rintro e w7 ⟨B7, d7, rfl, hk7, -, hd7⟩
                have K7 := Lib.hid hd7
                have HE7 := Lib.hid hk7
                clear hk7 hd7
                go_wp2_with fail
                refine (rsame_any (w := w7) B7 none [] [] d7 0 HE7.out.reads (KeepE.nil 0 40 w7).reads rfl (fun x hx => by cases hx) (by simp)).mono ?_
                rintro e w8 ⟨rfl, n8, rfl⟩
                go_wp2_with fail
                go_meet
                exact ⟨rfl, S, R, Lib.hid (K7.out.drewN n8), HT.out.up⟩
            · as_aux_lemma =>
                obtain ⟨f1, f2, f3, f4⟩ := HT.out.tie.found hp hps hno
                have F1 := Lib.hid f1
                have F2 := Lib.hid f2
                have F3 := Lib.hid f3
                have F4 := Lib.hid f4
                have P1 := Lib.hid hp
                have P2 := Lib.hid hps
                have P3 := Lib.hid hpn
                have P4 := Lib.hid hno
                clear f1 f2 f3 f4 hp hps hpn hno
                go_wp2_with fail
                refine (KX.out.back HT.out.tie.ok ln2 ln3 nm _ _ _ F1.out P3.out F2.out).mono ?_
                rintro e w5 ⟨A5, c5, J5, rfl, hJ5, hk5, hk, hf⟩
                have K5 := Lib.hid hk
                have HJ5 := Lib.hid hJ5
                have HE5 := Lib.hid hk5
                obtain ⟨y0, y1, y2, y3, y4, y5, y6, y7, yl⟩ := eight_of_block (hf.blk HBK.out (by unfold TP TU TR; decide))
                clear hk hf hJ5 hk5
                go_wp2_with fail
                refine (K5.out.rback ln1 nm p ys P1.out P2.out P3.out P4.out).mono ?_
                rintro e w6 ⟨A6, c6, J6, rfl, hJ6, hk6, hk, hf⟩
                have K6 := Lib.hid hk
                have HJ6 := Lib.hid hJ6
                have HE6 := Lib.hid hk6
                have HE5b := Lib.hid (HE5.out.frm hf (by unfold TR; decide) (by unfold TR; decide))
                clear hk hf hJ6 hk6 y0 y1 y2 y3 y4 y5 y6 y7 yl
                have hjl : J5.length ≤ 200000 := by have h := congrArg List.length HJ5.out; simp at h; omega
                have HEQ : Hid (J5.map Img.e = J6.map Img.e) := (by rw [HJ5.out, HJ6.out, HT.out.tie.out, F3.out] : J5.map Img.e = J6.map Img.e)
                have HSH : Hid (∀ x ∈ J5, ShortE x.e) := HT.out.shorts HJ5.out
                go_wp2_with fail
                refine (K6.out.plain HE5b.out (by omega)).mono ?_
                rintro e w7 ⟨B7, d7, rfl, hk7, hb7, hd7⟩
                have K7 := Lib.hid hd7
                have HE7 := Lib.hid hk7
                have HE8 := Lib.hid (HE6.out.below hb7 K6.out.le)
                clear hk7 hd7 hb7
                go_wp2_with fail
                refine (rsame_any B7 A6 J5 J6 d7 c6 HE7.out.reads HE8.out.reads HEQ.out HSH.out (by omega)).mono ?_
                rintro e w8 ⟨rfl, n8, rfl⟩
                have K8 := Lib.hid (K7.out.drewN n8)
                go_wp2_with fail
                have T8 : Hid (Held { S with entries := S.entries.take (cntE (R.items.take p)), saves := S.saves.take ((savesFrom 0 (R.items.take p)).length + 1) } { R with items := R.items.take (p + 1) } (j + 1)) := (by
                  have h := HT.out.cut (p + 1)
                  rw [F3.out, F4.out] at h
                  exact h : Held { S with entries := S.entries.take (cntE (R.items.take p)), saves := S.saves.take ((savesFrom 0 (R.items.take p)).length + 1) } { R with items := R.items.take (p + 1) } (j + 1))
                go_meet
                exact ⟨rfl, _, _, K8, T8⟩
          have k2b : (ok == 2) = false := beq_eq_false_iff_ne.2 k2
          by_cases k3 : ok = 3
          · subst k3
            clear k0 k0b k1 k1b k2 k2b
            by_cases hmore : (S.entries.length : Int) < on
            · as_aux_lemma =>
                have HMORE := Lib.hid hmore
                have HMORE2 : Hid ((cntE R.items : Int) < on) := (by rw [← HT.out.tie.len]; exact hmore : (cntE R.items : Int) < on)
                have hK0 := KX.out.drewN 1
                have hB0 : wx.drew.heap[B]? = some (.cells (UOp.cells ⟨3, on, nm, x⟩).toArray 37) := HBK.out
                have hx0 : wx.drew.cell? ⟨B, 1, none⟩ = some (.int .i64 on) := cell_of_block hB0 1
                clear hmore
                go_wp2_with fail
                go_region_held (fun w' => w'.cell? ⟨B, 1, none⟩ = some (.int .i64 on))
                  (first | exact hx0 | assumption)
                  (first
                    | (go_at_call 17; refine (hK0.progMore ln2 on HMORE.out).mono ?_; rintro e y1 ⟨rfl, hK1, hb1⟩; have hB1 : y1.heap[B]? = some (.cells (UOp.cells ⟨3, on, nm, x⟩).toArray 37) := (hb1.block B xl).trans hB0; have hx1 : y1.cell? ⟨B, 1, none⟩ = some (.int .i64 on) := cell_of_block hB1 1)
                    | (go_at_call 16; refine (hK1.plain (J := []) (KeepE.nil _ _ _) (by simp)).mono ?_; rintro e y2 ⟨B2, d2, rfl, hE2, hb2, hK2⟩; have hB2 : y2.heap[B]? = some (.cells (UOp.cells ⟨3, on, nm, x⟩).toArray 37) := (hb2.block B (lt_of_block hB1)).trans hB1; have hx2 : y2.cell? ⟨B, 1, none⟩ = some (.int .i64 on) := cell_of_block hB2 1)
                    | (go_at_call 18; refine (hK2.toMore ln1 on HMORE2.out).mono ?_; rintro e y3 ⟨rfl, rfl⟩)
                    | (go_at_call 15; refine (rsame_any (w := y2) B2 none [] [] d2 0 hE2.reads (KeepE.nil 0 40 y2).reads rfl (fun x hx => by cases hx) (by simp)).mono ?_; rintro e y4 ⟨rfl, n4, rfl⟩; have hK4 := hK2.drewN n4))
                all_goals
                  go_wp2_with fail
                  go_meet
                  exact ⟨rfl, S, R, hK4, HT.out.up⟩
            · as_aux_lemma =>
                obtain ⟨i, hP⟩ := Place.get (R := R) (z := on) (by rw [← HT.out.tie.len]; omega)
                have HP := Lib.hid hP
                have hK0 := KX.out.drewN 1
                have hB0 : wx.drew.heap[B]? = some (.cells (UOp.cells ⟨3, on, nm, x⟩).toArray 37) := HBK.out
                have hx0 : wx.drew.cell? ⟨B, 1, none⟩ = some (.int .i64 on) := cell_of_block hB0 1
                clear hP hmore
                go_wp2_with fail
                go_region_held (fun w' => w'.cell? ⟨B, 1, none⟩ = some (.int .i64 on))
                  (first | exact hx0 | assumption)
                  (first
                    | (go_at_call 17; refine (hK0.progTo HT.out (by omega) HP.out).mono ?_; rintro e y1 ⟨A1, c1, J1, rfl, hJ1, hE1, hK1, hf1⟩; have HJ1 := Lib.hid hJ1; have HL1 := Lib.hid (HT.out.shortOut hJ1); have hB1 : y1.heap[B]? = some (.cells (UOp.cells ⟨3, on, nm, x⟩).toArray 37) := hf1.blk hB0 (by unfold TP TU TR; decide); have hx1 : y1.cell? ⟨B, 1, none⟩ = some (.int .i64 on) := cell_of_block hB1 1; clear hJ1)
                    | (go_at_call 16; refine (hK1.plain hE1 (Nat.le_trans HL1.out.2 (by omega))).mono ?_; rintro e y2 ⟨B2, d2, rfl, hE2, hb2, hK2⟩; have hB2 : y2.heap[B]? = some (.cells (UOp.cells ⟨3, on, nm, x⟩).toArray 37) := (hb2.block B (lt_of_block hB1)).trans hB1; have hx2 : y2.cell? ⟨B, 1, none⟩ = some (.int .i64 on) := cell_of_block hB2 1)
                    | (go_at_call 18; refine (hK2.refTo ln1 HP.out).mono ?_; rintro e y3 ⟨A3, c3, J3, rfl, hJ3, hE3, hK3, hf3⟩; have HJ3 := Lib.hid hJ3; have hE2b := hE2.frm hf3 (by unfold TR; decide) (by unfold TR; decide); have hB3 : y3.heap[B]? = some (.cells (UOp.cells ⟨3, on, nm, x⟩).toArray 37) := hf3.blk hB2 (by unfold TR; decide); have hx3 : y3.cell? ⟨B, 1, none⟩ = some (.int .i64 on) := cell_of_block hB3 1; clear hJ3)
                    | (go_at_call 15; refine (rsame_any B2 A3 J1 J3 d2 c3 hE2b.reads hE3.reads (HJ1.out.trans HJ3.out.symm) HL1.out.1 (Nat.le_trans HL1.out.2 (by omega))).mono ?_; rintro e y4 ⟨rfl, n4, rfl⟩; have hK4 := hK3.drewN n4))
                all_goals
                  go_wp2_with fail
                  go_meet
                  exact ⟨rfl, _, _, hK4, HT.out.cutBoth i⟩
          have k3b : (ok == 3) = false := beq_eq_false_iff_ne.2 k3
          as_aux_lemma =>
            go_wp2_with fail
            go_meet
            exact ⟨rfl, S, R, KX, HT.out.up⟩
      · as_aux_lemma =>
          obtain ⟨i, hP⟩ := Place.get (R := R) (z := 0) (by omega)
          have HP := Lib.hid hP
          have HZ : Hid ((cutS S R i).entries.length = 0) := (by
            have h1 := HP.out.num
            have h2 : cntE (R.items.take i) = 0 := by simpa using h1
            show (S.entries.take (cntE (R.items.take i))).length = 0
            rw [h2]
            rfl : (cutS S R i).entries.length = 0)
          clear hP
          go_wp2_with fail
          refine (K.out.progTo HT.out (by omega) HP.out).mono ?_
          rintro e y1 ⟨A1, c1, J1, rfl, hJ1, hE1, hK1, hf1⟩
          have HL1 := Lib.hid (HT.out.shortOut hJ1)
          have HJ1 := Lib.hid hJ1
          have HE1 := Lib.hid hE1
          have K1 := Lib.hid hK1
          clear hJ1 hE1 hK1 hf1
          go_wp2_with fail
          refine (K1.out.plain HE1.out (Nat.le_trans HL1.out.2 (by omega))).mono ?_
          rintro e y2 ⟨B2, d2, rfl, hE2, hb2, hK2⟩
          have HE2 := Lib.hid hE2
          have K2 := Lib.hid hK2
          clear hE2 hb2 hK2
          go_wp2_with fail
          refine (K2.out.refTo ln1 HP.out).mono ?_
          rintro e y3 ⟨A3, c3, J3, rfl, hJ3, hE3, hK3, hf3⟩
          have HJ3 := Lib.hid hJ3
          have HE2b := Lib.hid (HE2.out.frm hf3 (by unfold TR; decide) (by unfold TR; decide))
          have HE3 := Lib.hid hE3
          have K3 := Lib.hid hK3
          clear hJ3 hE3 hK3 hf3
          go_wp2_with fail
          refine (rsame_any B2 A3 J1 J3 d2 c3 HE2b.out.reads HE3.out.reads (HJ1.out.trans HJ3.out.symm) HL1.out.1 (Nat.le_trans HL1.out.2 (by omega))).mono ?_
          rintro e y4 ⟨rfl, n4, rfl⟩
          have K4 := Lib.hid (K3.out.drewN n4)
          go_wp2_with fail
          refine (len_is K4.out.ur HZ.out).mono ?_
          rintro e w' ⟨rfl, rfl⟩
          go_wp2_with fail
          go_ret
          exact ⟨rfl, K4.out.low⟩
end Go.Proofs.Ytkanlcfinogaeaa
