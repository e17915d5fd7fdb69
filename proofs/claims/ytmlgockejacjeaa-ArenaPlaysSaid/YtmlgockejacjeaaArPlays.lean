/-
  Law package 04: the law ArenaPlays.
-/
import Derived.Test.YtmlgockejacjeaaArTwo
import Derived.Deep.RegionHeld
import Derived.Deep.CutBlock
import Derived.Deep.DeepCutAuto
import Derived.Deep.LoopGhost
namespace Go.Proofs.Ytmlgockejacjeaa
open Go.RowKit Go.ChangeShapes Go.WideShapes Go.ChangeAt
set_option linter.unusedVariables false
set_option linter.unusedSimpArgs false

theorem RR.up {base base' r : Nat} {S : RfS} {own : Nat → Prop} {w : World} (h : RR base r S own w) (hle : base' ≤ base) : RR base' r S own w := by
  obtain ⟨lv, fv, rfl, R⟩ := h
  exact ⟨lv, fv, rfl, by have := R.lo; omega, R.blk, owns_up R.lown hle, owns_up R.fown hle⟩
theorem Two.start {w0 w1 w2 : World} {q : Int} {oa orf : Nat → Prop} (hb1 : Below w0.heap.size w0 w1) (hA : AR w0.heap.size w0.heap.size ⟨[], [], q⟩ oa w1) (hb2 : Below w1.heap.size w1 w2) (hR : RR w1.heap.size w1.heap.size ⟨[], [], 1, q⟩ orf w2) (hge : ∀ k, orf k → w1.heap.size ≤ k) : Two w0 w0.heap.size w1.heap.size ⟨[], [], q⟩ ⟨[], [], 1, q⟩ w2 :=
  ⟨⟨oa, orf, hA.ofBelow hb2, hR.up hb1.size, fun k hk ho => by have := hge k hk; have := (hA.lt k ho).2; omega⟩, hb1.trans (hb2.mono hb1.size)⟩
theorem max_left {R : RfS} {S : ArS} (T : Tie R S) (ats : Array TypeId) (t : TypeId) (w : World) : (Builtin.max_ ats t #[.int .i64 (R.quota - (R.L.length : Int)), .int .i64 0]).run Try.prog w = .ok (.int .i64 S.left) w := by
  have e : (if (0 : Int) > R.quota - (R.L.length : Int) then (0 : Int) else R.quota - (R.L.length : Int)) = S.left := by
    by_cases h : R.quota - (R.L.length : Int) < 0
    · rw [if_pos h, left_low T h]
    · rw [if_neg h, left_high T h]
  rw [← e]
  rfl
theorem Tie.start (q : Int) : Tie ⟨[], [], 1, q⟩ ⟨[], [], q⟩ := by
  refine ⟨rfl, rfl, rfl, rfl, List.nodup_nil, fun n s => ?_⟩
  simp [ArS.page]

set_option maxRecDepth 8000 in
set_option maxHeartbeats 16000000 in
theorem arenaPlays_in (q : Int) (h0 : 0 ≤ q) (h1 : q ≤ 4096) (A : Option Addr) (cap : Nat) (ops : List Opr) (w : World) (hr : ReadsO w A ops) :
    Calls Try.prog 4 #[.int .i64 q, .slice A ops.length cap] w fun e w' => e = .returned (.bool true) ∧ Below w.heap.size w w' := by
  have hnot := @unary_not Try.prog
  have HR := Lib.hid hr; clear hr
  go_enter Try.func4, Try.ntmps4
  go_wp2_with fail
  refine (awake_any w).mono ?_
  rintro e w1 ⟨rfl, hb0⟩
  have HB0 := Lib.hid hb0; clear hb0
  go_wp2_with fail
  refine (new_any q h0 h1 w1).mono ?_
  rintro e w2 ⟨rfl, hb2, oa, hA, -⟩
  have HA := Lib.hid hA; have HB2 := Lib.hid hb2
  clear hA hb2
  go_wp2_with fail
  refine (rnew_any q h0 h1 w2).mono ?_
  rintro e w3 ⟨rfl, hb3, orf, hR, hge⟩
  have K3 := Lib.hid (Two.start HB2.out HA.out hb3 hR hge)
  have HOK : Hid (ArS.Ok ⟨[], [], q⟩) := okS _ _ _ (by simp) (by simp) (by simp) (by simp) (by omega)
  clear hb3 hR hge HA HB2
  go_wp2_with fail
  go_loopg [9] 200 (fun g i wr => ∃ j : Nat, j ≤ 200 ∧ g = 200 - j ∧ i = .int .i64 j ∧ ∃ S R, Hid (ArS.Ok S) ∧ Hid (Tie R S) ∧ Hid (Two w1 w1.heap.size w2.heap.size S R wr))
  case atStart => exact ⟨0, by omega, by omega, rfl, _, _, HOK, Tie.start q, K3⟩
  case round =>
    clear HOK K3
    obtain ⟨j, hj, hg, rfl, S, R, HO, HT, K⟩ := hrel
    by_cases hlt : j < ops.length ∧ j < 200
    · obtain ⟨hl1, hl2⟩ := hlt
      obtain ⟨o, ho⟩ : ∃ o, ops[j]? = some o := ⟨_, List.getElem?_eq_getElem hl1⟩
      obtain ⟨b, off, rfl, hbl, m0, m1, m2, c0, c1, c2, c3⟩ := ((HR.out.below HB0.out (Nat.le_refl _)).below K.out.low (Nat.le_refl _)) j o ho
      obtain ⟨ok, on, ol, ob⟩ := o
      have M0 := Lib.hid m0; have M1 := Lib.hid m1; have M2 := Lib.hid m2
      clear ho m0 m1 m2
      dsimp only at *
      go_wp2_with fail
      have hblk := heap_alloc_new wr (.cells (Opr.cells ⟨ok, on, ol, ob⟩) 40)
      have hkx := K.out.alloc (.cells (Opr.cells ⟨ok, on, ol, ob⟩) 40)
      obtain ⟨wx, hwx⟩ : ∃ wx, wx = wr.alloc (.cells #[.int .i64 ok, .int .i64 on, .int .i64 ol, .int .u8 (ob.toNat : Int)] 40) := ⟨_, rfl⟩
      replace hblk : wx.heap[wr.heap.size]? = some (.cells (Opr.cells ⟨ok, on, ol, ob⟩) 40) := by rw [hwx]; exact hblk
      replace hkx : Two w1 w1.heap.size w2.heap.size S R wx := by rw [hwx]; exact hkx
      rw [← hwx]
      obtain ⟨B, hB⟩ : ∃ B, B = wr.heap.size := ⟨_, rfl⟩
      rw [← hB] at hblk ⊢
      clear hwx hB c0 c1 c2 c3
      obtain ⟨x0, x1, x2, x3, -, -, -, -, xl⟩ := four_of_block hblk
      have KX := Lib.hid hkx
      have HBK := Lib.hid hblk
      clear hkx hblk hbl
      obtain ⟨t1, -, -, -, t5, t6⟩ := HT.out.lens HO.out
      refine (KX.out.at_ t1 on).mono ?_
      rintro e w4 ⟨rfl, rfl⟩
      go_upto_block 2 with (fail)
      go_cut [11, 12] (fun f x12 wc => f = .bool true ∧ ∃ S R, Hid (ArS.Ok S) ∧ Hid (Tie R S) ∧ Hid (Two w1 w1.heap.size w2.heap.size S R wc))
      case rest =>
        as_aux_lemma =>
          clear KX HBK HO HT K x0 x1 x2 x3 xl t1 t5 t6
          obtain ⟨rfl, S, R, HO, HT, K⟩ := hcut
          obtain ⟨A9, c9, hSS⟩ := K.out.row
          have hS0 := hSS.drew
          obtain ⟨t1, -, -, -, t5, t6⟩ := HT.out.lens HO.out
          have hw1 : IntKind.wrap .i64 (R.quota - (R.L.length : Int)) = R.quota - (R.L.length : Int) := by rw [IntKind.wrap_i64]; omega
          have hmax : ∀ (ats : Array TypeId) (t : TypeId) (w : World), (Builtin.max_ ats t #[.int .i64 (R.quota - (R.L.length : Int)), .int .i64 0]).run Try.prog w = .ok (.int .i64 S.left) w := max_left HT.out
          clear hSS
          go_wp2_with fail
          go_region_held (fun w' => SS w1 w1.heap.size w2.heap.size S R A9 c9 w')
            (first | exact hS0 | assumption)
            (first
              | (go_at_call 20; refine (SS.used hS0 HO.out HT.out).mono ?_; rintro e y1 ⟨rfl, hS1⟩)
              | (go_at_call 21; refine (SS.left hS1 HO.out rfl).mono ?_; rintro e y2 ⟨rfl, hS2⟩)
              | (go_at_call 23; refine (SS.pages hS2 HO.out).mono ?_; rintro e y3 ⟨B3, d3, rfl, hS3, hr3⟩; have HR3 := Lib.hid hr3; clear hr3)
              | (go_at_call 24; refine (SS.refPages hS3 HO.out HT.out HR3.out).mono ?_; rintro e y4 ⟨B4, d4, rfl, hS4, hr4, hr5⟩; have HR4 := Lib.hid hr4; have HR5 := Lib.hid hr5; clear hr4 hr5)
              | (go_at_call 22; refine (SS.same hS4 HO.out HR5.out HR4.out).mono ?_; rintro e y5 ⟨rfl, hS5⟩))
          all_goals
            go_wp2_with fail
            go_roundg (200 - (j + 1))
            case measure => omega
            case rel => exact ⟨j + 1, by omega, rfl, by go_num, S, R, HO, HT, hS5.1⟩
      case first =>
        by_cases k0 : ok = 0
        · as_aux_lemma =>
            subst k0
            go_wp2_with fail
            refine (KX.out.opAlloc HO.out).mono ?_
            rintro e w5 ⟨rfl, h2⟩
            have K5 := Lib.hid h2
            clear h2
            go_wp2_with fail
            refine (K5.out.refAlloc HO.out HT.out).mono ?_
            rintro e w6 ⟨rfl, R6, h2, ht⟩
            have K6 := Lib.hid h2
            have T6 := Lib.hid ht
            have O6 := Lib.hid HO.out.allocS
            clear h2 ht K5
            generalize S.alloc.2 = S6 at *
            go_wp2_with fail
            go_meet
            exact ⟨rfl, S6, R6, O6, T6, K6⟩
        have k0b : (ok == 0) = false := beq_eq_false_iff_ne.2 k0
        by_cases k1 : ok = 1
        · as_aux_lemma =>
            subst k1
            clear k0 k0b
            go_wp2_with fail
            refine (KX.out.opFree HO.out on M1.out).mono ?_
            rintro e w5 ⟨rfl, h2, hk⟩
            have K5 := Lib.hid h2
            obtain ⟨y0, y1, y2, y3, -, -, -, -, yl⟩ := four_of_block (hk _ _ HBK.out)
            clear h2 hk
            go_wp2_with fail
            refine (Two.refDrop on K5.out HO.out HT.out).mono ?_
            rintro e w6 ⟨rfl, R6, h2, ht⟩
            have K6 := Lib.hid h2
            have T6 := Lib.hid ht
            have O6 := Lib.hid (HO.out.freeS on)
            clear h2 ht K5 y0 y1 y2 y3 yl
            generalize S.freeS on = S6 at *
            go_wp2_with fail
            go_meet
            exact ⟨rfl, S6, R6, O6, T6, K6⟩
        have k1b : (ok == 1) = false := beq_eq_false_iff_ne.2 k1
        by_cases k2 : ok = 2
        · subst k2
          clear k0 k0b k1 k1b
          by_cases hol : 0 ≤ ol ∧ ol ≤ 3000
          · obtain ⟨hol1, hol2⟩ := hol
            obtain ⟨k, hk⟩ : ∃ k : Nat, ol = (k : Int) := ⟨ol.toNat, by omega⟩
            have hk2 : k ≤ 3000 := by omega
            have HK := Lib.hid hk
            rcases hp : S.page on with _ | l
            · as_aux_lemma =>
                clear hk
                have e1 := HT.out.atI_none hp
                have HP := Lib.hid hp
                clear hp
                have hQ0 : SO w1 w1.heap.size w2.heap.size S R B ⟨2, on, ol, ob⟩ wx.drew := (SO.mk' KX.out HBK.out).drew
                have e34 := Lib.hid (store_none HP.out k ob)
                go_wp2_with fail
                go_region_held (fun w' => w'.cell? ⟨B, 1, none⟩ = some (.int .i64 on) ∧ w'.cell? ⟨B, 2, none⟩ = some (.int .i64 ol) ∧ w'.cell? ⟨B, 3, none⟩ = some (.int .u8 (ob.toNat : Int)))
                  (first | exact hQ0.2.2 | assumption)
                  (first
                    | (go_at_call 11; refine (SO.bytes hQ0 k HK.out hk2).mono ?_; rintro e y1 ⟨rfl, hQ1, hb1⟩; have HB1 := Lib.hid hb1; have hQ2 := hQ1.2.2; clear hb1)
                    | (go_at_call 12; refine (SO.store' hQ1 HO.out M1.out HB1.out e34.out.1 e34.out.2).mono ?_; rintro e y2 ⟨rfl, hQ3⟩; have hQ4 := hQ3.2.2))
                all_goals
                  go_wp2_with fail
                  have K6 : Hid (Two w1 w1.heap.size w2.heap.size S R y2) := hQ3.1
                  go_meet
                  exact ⟨rfl, S, R, HO, HT, K6⟩
            by_cases hk3 : k = 1024
            · as_aux_lemma =>
                subst hk3
                obtain rfl : ol = 1024 := by omega
                clear hk
                obtain ⟨i, e1, hRi⟩ := HT.out.atI_some hp
                have hil := (List.getElem?_eq_some_iff.1 hRi).1
                have HRI := Lib.hid hRi
                have HP := Lib.hid hp
                clear hRi hp
                have hQ0 : SO w1 w1.heap.size w2.heap.size S R B ⟨2, on, 1024, ob⟩ wx.drew := (SO.mk' KX.out HBK.out).drew
                have e34 := Lib.hid (store_put HP.out ob)
                go_wp2_with fail
                go_region_held (fun w' => w'.cell? ⟨B, 1, none⟩ = some (.int .i64 on) ∧ w'.cell? ⟨B, 2, none⟩ = some (.int .i64 1024) ∧ w'.cell? ⟨B, 3, none⟩ = some (.int .u8 (ob.toNat : Int)))
                  (first | exact hQ0.2.2 | assumption)
                  (first
                    | (go_at_call 11; refine (SO.bytes hQ0 1024 rfl (by omega)).mono ?_; rintro e y1 ⟨rfl, hQ1, hb1⟩; have HB1 := Lib.hid hb1; have hQ2 := hQ1.2.2; clear hb1)
                    | (go_at_call 12; refine (SO.store' hQ1 HO.out M1.out HB1.out e34.out.1 e34.out.2).mono ?_; rintro e y2 ⟨rfl, hQ3⟩; have hQ4 := hQ3.2.2))
                go_wp2_with fail
                obtain ⟨A9, c9, hSS⟩ := hQ3.1.out.row
                obtain ⟨g, rfl, hg1, hg2, hg3, hg4, hg5⟩ := hSS.cell HRI.out
                have hg6 := hg5 B _ hQ3.2.1.out
                have hS0 := hSS.drew
                have hP0 := hQ3.drew
                clear hg5 hSS
                go_wp2_with fail
                go_region_held (fun w' => w'.cell? ⟨w2.heap.size, 0, none⟩ = some (.slice (some ⟨g, 0, none⟩) R.L.length c9) ∧ w'.cell? ⟨B, 3, none⟩ = some (.int .u8 (ob.toNat : Int)))
                  (first | exact ⟨hS0.2.1, hP0.2.2.2.2⟩ | assumption | exact HQ6.out _)
                  ((go_at_call 11; refine (SO.bytesK hP0).mono ?_; rintro e y3 ⟨rfl, hP1, hb3, hblk3⟩; have v2 := (Bytes.of (l := full ob) hblk3).conv (full_len ob) 1024; (try dsimp only [World.drew] at v2); have hSY := hS0.below hb3; have hQ5 : y3.cell? ⟨w2.heap.size, 0, none⟩ = some (.slice (some ⟨g, 0, none⟩) R.L.length c9) ∧ y3.cell? ⟨B, 3, none⟩ = some (.int .u8 (ob.toNat : Int)) := ⟨hSY.2.1, hP1.2.2.2.2⟩; have hcy := (World.cell?_of_block (w := y2) (a := ⟨g, i * 2 + 1, none⟩) (hb3.block g hg3)).trans hg1; have hfy := (World.frozen?_of_block (w := y2) (a := ⟨g, i * 2 + 1, none⟩) (hb3.block g hg3)).trans hg2; have HQ6 := Lib.hid (fun u => SS.stored (j := i * 2 + 1) hSY hP1.2.2.2.2 hg4 hg6 u); clear hb3 hblk3))
                all_goals
                  go_wp2_with fail
                  go_meet
                  exact ⟨rfl, S.put on (full ob), { R with L := R.L.set i (on, ⟨(full ob).toArray⟩) }, HO.out.put HP.out _, HT.out.put HP.out HRI.out (full ob), hSY.put _ HRI.out⟩
            · as_aux_lemma =>
                have hk4 : (ol == 1024) = false := beq_eq_false_iff_ne.2 (by omega)
                clear hk
                obtain ⟨i, e1, hRi⟩ := HT.out.atI_some hp
                have hil := (List.getElem?_eq_some_iff.1 hRi).1
                have HRI := Lib.hid hRi
                have HP := Lib.hid hp
                clear hRi hp
                have hQ0 : SO w1 w1.heap.size w2.heap.size S R B ⟨2, on, ol, ob⟩ wx.drew := (SO.mk' KX.out HBK.out).drew
                have e34 := Lib.hid (store_len HP.out hk3 ob)
                go_wp2_with fail
                go_region_held (fun w' => w'.cell? ⟨B, 1, none⟩ = some (.int .i64 on) ∧ w'.cell? ⟨B, 2, none⟩ = some (.int .i64 ol) ∧ w'.cell? ⟨B, 3, none⟩ = some (.int .u8 (ob.toNat : Int)))
                  (first | exact hQ0.2.2 | assumption)
                  (first
                    | (go_at_call 11; refine (SO.bytes hQ0 k HK.out hk2).mono ?_; rintro e y1 ⟨rfl, hQ1, hb1⟩; have HB1 := Lib.hid hb1; have hQ2 := hQ1.2.2; clear hb1)
                    | (go_at_call 12; refine (SO.store' hQ1 HO.out M1.out HB1.out e34.out.1 e34.out.2).mono ?_; rintro e y2 ⟨rfl, hQ3⟩; have hQ4 := hQ3.2.2))
                all_goals
                  go_wp2_with fail
                  have K6 : Hid (Two w1 w1.heap.size w2.heap.size S R y2) := hQ3.1
                  go_meet
                  exact ⟨rfl, S, R, HO, HT, K6⟩
          · as_aux_lemma =>
              go_wp2_with fail
              all_goals
                first
                  | (exfalso; omega)
                  | (go_roundg (200 - (j + 1)); (case measure => omega); (case rel => exact ⟨j + 1, by omega, rfl, by go_num, S, R, HO, HT, KX⟩))
        have k2b : (ok == 2) = false := beq_eq_false_iff_ne.2 k2
        by_cases k3 : ok = 3
        · subst k3
          clear k0 k0b k1 k1b k2 k2b
          rcases hp : S.page on with _ | l
          · as_aux_lemma =>
              have e1 := HT.out.atI_none hp
              have HP := Lib.hid hp
              clear hp
              go_wp2_with fail
              refine (KX.out.opLoad0 HO.out on M1.out HP.out).mono ?_
              rintro e w5 ⟨rfl, h2⟩
              have K5 := Lib.hid h2
              clear h2
              go_wp2_with fail
              go_quiet (fail)
              go_wp2_with fail
              go_meet
              exact ⟨rfl, S, R, HO, HT, Lib.hid (K5.out.drewN _)⟩
          · as_aux_lemma =>
              obtain ⟨i, e1, hRi⟩ := HT.out.atI_some hp
              have hil := (List.getElem?_eq_some_iff.1 hRi).1
              have HRI := Lib.hid hRi
              have HP := Lib.hid hp
              clear hRi hp
              go_wp2_with fail
              refine (KX.out.opLoad HO.out on HP.out).mono ?_
              rintro e w5 ⟨g1, c1, rfl, h2, hby, hl⟩
              obtain ⟨A9, c9, hSS⟩ := h2.row
              obtain ⟨g, rfl, hg1, hg2, hg3, -, -⟩ := hSS.cell HRI.out
              have hr0 := hSS.2.1
              have K5 := Lib.hid h2
              have hcv : ∀ n, (convert 29 9 (.slice (some ⟨g1, 0, none⟩) 1024 c1)).run Try.prog (w5.drewN n) = .ok (.string ⟨l.toArray⟩) (w5.drewN n) := fun n => Bytes.conv (w := w5.drewN n) hby hl c1
              have hd0 : decide ((i : Int) < 0) = false := decide_eq_false (by omega)
              have hd1 : decide ((0 : Int) ≤ (i : Int)) = true := decide_eq_true (by omega)
              clear h2 hby hSS
              go_wp2_with fail
              go_quiet (fail)
              all_goals
                go_wp2_with fail
                go_meet
                exact ⟨rfl, S, R, HO, HT, Lib.hid (K5.out.drewN _)⟩
        have k3b : (ok == 3) = false := beq_eq_false_iff_ne.2 k3
        by_cases k4 : ok = 4
        · subst k4
          clear k0 k0b k1 k1b k2 k2b k3 k3b
          as_aux_lemma =>
            by_cases hb : 0 ≤ on ∧ on ≤ 4096
            · obtain ⟨hb1, hb2⟩ := hb
              have hcall := KX.out.opLimit on M1.out
              have e1 : ArS.limitE on = 0 := if_pos ⟨hb1, hb2⟩
              have e2 : S.limitS on = { S with quota := on } := if_pos ⟨hb1, hb2⟩
              rw [e1, e2] at hcall
              clear e1 e2
              have HC := Lib.hid hcall
              clear hcall
              go_wp2_with fail
              refine HC.out.mono ?_
              rintro e w5 ⟨rfl, h2, hk⟩
              obtain ⟨y0, y1, y2, y3, -, -, -, -, yl⟩ := four_of_block (hk _ _ HBK.out)
              obtain ⟨A9, c9, hSS⟩ := h2.row
              have hq3 := hSS.2.2
              obtain ⟨hq4, hq5⟩ := h2.free3
              have K5 := Lib.hid (h2.qset on)
              clear h2 hk hSS
              go_wp2_with fail
              go_meet
              exact ⟨rfl, { S with quota := on }, { R with quota := on }, HO.out.limit hb1 hb2, HT.out.limit on, K5⟩
            · have hcall := KX.out.opLimit on M1.out
              have e1 : ArS.limitE on = 15 := if_neg hb
              have e2 : S.limitS on = S := if_neg hb
              rw [e1, e2] at hcall
              clear e1 e2
              have HC := Lib.hid hcall
              clear hcall
              go_wp2_with fail
              refine HC.out.mono ?_
              rintro e w5 ⟨rfl, h2, hk⟩
              obtain ⟨y0, y1, y2, y3, -, -, -, -, yl⟩ := four_of_block (hk _ _ HBK.out)
              have K5 := Lib.hid h2
              clear h2 hk
              go_wp2_with fail
              all_goals
                first
                  | (exfalso; omega)
                  | (go_meet; exact ⟨rfl, S, R, HO, HT, K5⟩)
        have k4b : (ok == 4) = false := beq_eq_false_iff_ne.2 k4
        as_aux_lemma =>
          go_wp2_with fail
          go_meet
          exact ⟨rfl, S, R, HO, HT, KX⟩
    · go_wp2_with fail
      all_goals
        go_ret
        exact ⟨rfl, HB0.out.trans (K.out.low.mono HB0.out.size)⟩
set_option maxRecDepth 8000 in
theorem arenaPlays_out (q : Int) (hq : (Lit.int .i64 q).wf = true) (hb : ¬ (0 ≤ q ∧ q ≤ 4096)) (A : Option Addr) (n cap : Nat) (w : World) :
    Calls Try.prog 4 #[.int .i64 q, .slice A n cap] w fun e w' => e = .returned (.bool true) ∧ Below w.heap.size w w' := by
  have hnot := @unary_not Try.prog
  have HNB := Lib.hid hb; clear hb
  have HQ := Lib.hid hq; clear hq
  go_enter Try.func4, Try.ntmps4
  go_wp2_with fail
  refine (awake_any w).mono ?_
  rintro e w1 ⟨rfl, hb0⟩
  have HB0 := Lib.hid hb0; clear hb0
  go_wp2_with fail
  refine (new_bad q HQ.out HNB.out w1).mono ?_
  rintro e w2 ⟨rfl, hb2⟩
  have HB2 := Lib.hid hb2; clear hb2
  go_wp2_with fail
  refine (rnew_bad q HQ.out HNB.out w2).mono ?_
  rintro e w3 ⟨rfl, rfl⟩
  go_wp2_with fail
  go_ret
  exact ⟨rfl, HB0.out.trans (HB2.out.mono HB0.out.size)⟩
theorem arenaPlays_walk {H : Type} {enc : TypeId × Value → H} {sp1 : Nat → Bool} {hd1 : Bool} {d1 : DataW H} {p1 : List MemPlace} {b1 : Nat} (a0 : Int) (v1 : Value) (w : World)
    (h0 : (Lit.int .i64 a0).wf = true) (hv1 : Value.okWide Try.prog w .any b1 35 v1) (h1 : DataW.Trod enc Try.prog w 0 sp1 hd1 35 v1 d1 p1) :
    Calls Try.prog 4 #[.int .i64 a0, v1] w fun e w' => e = .returned (.bool true) ∧ Below w.heap.size w w' := by
  obtain ⟨A, cap, ops, rfl, hr⟩ := open_oprs hv1 h1
  by_cases hb : 0 ≤ a0 ∧ a0 ≤ 4096
  · exact arenaPlays_in a0 hb.1 hb.2 A cap ops w hr
  · exact arenaPlays_out a0 h0 hb A ops.length cap w
end Go.Proofs.Ytmlgockejacjeaa
