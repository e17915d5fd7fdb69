/-
  Law package 11: the law UndoAgain, walked.
-/
import Derived.Test.YtkanlcfinogaeaaUnAgain
namespace Go.Proofs.Ytkanlcfinogaeaa
open Go.RowKit Go.ChangeShapes Go.WideShapes Go.ChangeAt
set_option linter.unusedVariables false
set_option linter.unusedSimpArgs false

/-- Where savepoints in order pass a place. -/
theorem split_at (L : List (ByteArray × Int)) (hr : ∀ (i j : Nat) p q, i ≤ j → L[i]? = some p → L[j]? = some q → p.2 ≤ q.2) (m : Int) : ∃ k, k ≤ L.length ∧ (∀ (i : Nat) p, i < k → L[i]? = some p → p.2 ≤ m) ∧ ∀ (i : Nat) p, k ≤ i → L[i]? = some p → m < p.2 := by
  have key : ∀ n, n ≤ L.length → (∃ k, k < n ∧ (∀ (i : Nat) p, i < k → L[i]? = some p → p.2 ≤ m) ∧ ∀ p, L[k]? = some p → m < p.2) ∨ ∀ (i : Nat) p, i < n → L[i]? = some p → p.2 ≤ m := by
    intro n
    induction n with
    | zero => intro _; exact .inr (fun i p hi => by omega)
    | succ n ih =>
      intro hn
      rcases ih (by omega) with ⟨k, h1, h2, h3⟩ | h
      · exact .inl ⟨k, by omega, h2, h3⟩
      · obtain ⟨p, hp⟩ : ∃ p, L[n]? = some p := ⟨_, List.getElem?_eq_getElem (by omega)⟩
        by_cases hm : m < p.2
        · exact .inl ⟨n, by omega, h, fun q hq => by rw [hp] at hq; cases hq; exact hm⟩
        · refine .inr fun i q hi hq => ?_
          rcases Nat.lt_succ_iff_lt_or_eq.1 hi with h4 | rfl
          · exact h i q h4 hq
          · rw [hp] at hq; cases hq; omega
  rcases key L.length (Nat.le_refl _) with ⟨k, h1, h2, h3⟩ | h
  · refine ⟨k, by omega, h2, fun i p hi hp => ?_⟩
    obtain ⟨q, hq⟩ : ∃ q, L[k]? = some q := ⟨_, List.getElem?_eq_getElem h1⟩
    have := h3 q hq
    have := hr k i q p hi hq hp
    omega
  · exact ⟨L.length, Nat.le_refl _, h, fun i p hi hp => by have := (List.getElem?_eq_some_iff.1 hp).1; omega⟩
theorem len_is {base l : Nat} {S : ULS} {w : World} (h : UR base l S w) {m : Nat} (hm : S.entries.length = m) :
    Calls Try.prog 19 #[.pointer (some ⟨l, 0, none⟩)] w fun e w' => e = .returned (.int .i64 (m : Int)) ∧ w = w' := by
  subst hm
  exact len_any h
/-- Back to where a savepoint was made, whatever has been added since. -/
theorem back_again {base l : Nat} {F S1 : ULS} {name : ByteArray} {w : World} (h : UR base l S1 w) (ok : S1.Ok) (hl : S1.entries.length ≤ 200000) (hsl : S1.saves.length ≤ 100000) {E : List Ent} {L : List (ByteArray × Int)}
    (hE : S1.entries = F.entries ++ E) (hL : S1.saves = (F.saves ++ [(name, (F.entries.length : Int))]) ++ L) (hno : ∀ p ∈ L, (p.1.toList == name.toList) = false) (hq : S1.quota = F.quota) :
    Calls Try.prog 13 #[.pointer (some ⟨l, 0, none⟩), .string name] w fun e w' => ∃ A c, e = .returned (.tuple #[.slice A E.length c, .int .i64 0]) ∧ UR base l { F with saves := F.saves ++ [(name, (F.entries.length : Int))] } w' ∧ Frm TU base w w' := by
  have hi : S1.saves[F.saves.length]? = some (name, ((F.entries.length : Nat) : Int)) := by
    rw [hL, List.append_assoc, List.getElem?_append_right (Nat.le_refl _), Nat.sub_self]
    rfl
  refine (back_some h ok hl hsl name F.saves.length F.entries.length name hi (by simp) (fun j p hj hp => ?_)).mono ?_
  · rw [hL, List.getElem?_append_right (by simp; omega)] at hp
    exact hno p (List.mem_of_getElem? hp)
  · rintro e w' ⟨A, c, J, rfl, hJ, _, _, hu, hf⟩
    have hJl : J.length = E.length := by
      have := congrArg List.length hJ
      rw [hE] at this
      simpa using this
    have e1 : S1.entries.take F.entries.length = F.entries := by rw [hE]; simp
    have e2 : S1.saves.take (F.saves.length + 1) = F.saves ++ [(name, (F.entries.length : Int))] := by
      rw [hL, List.take_append_of_le_length (by simp), List.take_of_length_le (by simp)]
    have e3 : ({ S1 with entries := S1.entries.take F.entries.length, saves := S1.saves.take (F.saves.length + 1) } : ULS) = { F with saves := F.saves ++ [(name, (F.entries.length : Int))] } := by rw [e1, e2, hq]
    rw [e3] at hu
    exact ⟨A, c, by rw [hJl], hu, hf.mono fun t => TB.up⟩

set_option maxRecDepth 8000 in
set_option maxHeartbeats 4000000 in
theorem undoAgain_any (A1 A2 : Option Addr) (k1 k2 : Nat) (ops1 ops2 : List UOp) (name : ByteArray) (w : World) (hr1 : ReadsU w A1 ops1) (hr2 : ReadsU w A2 ops2) (hm1 : ops1.length ≤ maxLen) (hm2 : ops2.length ≤ maxLen) (hns : name.size ≤ maxLen) :
    Calls Try.prog 5 #[.slice A1 ops1.length k1, .slice A2 ops2.length k2, .string name] w fun e w' => e = .returned (.bool true) ∧ Below w.heap.size w w' := by
  have hnot := @unary_not Try.prog
  have hmf := @make_func Try.prog
  have HR1 := Lib.hid hr1
  have HR2 := Lib.hid hr2
  have HM1 := Lib.hid hm1
  have HM2 := Lib.hid hm2
  simp only [maxLen] at hns
  have hb0 : Below w.heap.size w (w.alloc (.cells #[.string name] 9)) := (Below.refl _ _).alloc (Nat.le_refl _) _
  have hk0 : (w.alloc (.cells #[.string name] 9)).heap[w.heap.size]? = some (.cells #[.string name] 9) := heap_alloc_new _ _
  have HB0 := Lib.hid hb0
  have HK0 := Lib.hid hk0
  clear hb0 hk0 hr1 hr2 hm1 hm2
  go_enter Try.func5, Try.ntmps5
  go_wp2_with fail
  refine (awake_any _).mono ?_
  rintro e w1 ⟨rfl, hb1⟩
  have HB1 : Hid (Below w.heap.size w w1) := HB0.out.trans (hb1.mono HB0.out.size)
  have HK1 : Hid (w1.heap[w.heap.size]? = some (.cells #[.string name] 9)) := (hb1.block _ (lt_of_block HK0.out)).trans HK0.out
  clear hb1
  go_wp2_with fail
  refine (great_any A1 k1 ops1 w w1 HR1.out HB1.out).mono ?_
  rintro e w2 ⟨g1, rfl, hg1, hb2⟩
  have HB2 : Hid (Below w.heap.size w w2) := HB1.out.trans (hb2.mono HB1.out.size)
  have HK2 : Hid (w2.heap[w.heap.size]? = some (.cells #[.string name] 9)) := (hb2.block _ (lt_of_block HK1.out)).trans HK1.out
  have HG1 := Lib.hid hg1
  clear hb2 hg1
  cases g1 with
  | true =>
    go_wp2_with fail
    go_ret
    exact ⟨rfl, HB2.out⟩
  | false =>
    obtain ⟨s1, m1⟩ := HG1.out rfl
    have M1 := Lib.hid m1
    clear m1 HG1
    go_wp2_with fail
    refine (great_any A2 k2 ops2 w w2 HR2.out HB2.out).mono ?_
    rintro e w3 ⟨g2, rfl, hg2, hb3⟩
    have HB3 : Hid (Below w.heap.size w w3) := HB2.out.trans (hb3.mono HB2.out.size)
    have HK3 : Hid (w3.heap[w.heap.size]? = some (.cells #[.string name] 9)) := (hb3.block _ (lt_of_block HK2.out)).trans HK2.out
    have HG2 := Lib.hid hg2
    clear hb3 hg2
    cases g2 with
    | true =>
      go_wp2_with fail
      go_ret
      exact ⟨rfl, HB3.out⟩
    | false =>
      obtain ⟨s2, m2⟩ := HG2.out rfl
      have M2 := Lib.hid m2
      clear m2 HG2
      obtain ⟨c0, -, cl⟩ := one_of_block HK3.out
      by_cases hbig : 200 < name.size
      · have hbb : decide ((200 : Int) < (name.size : Int)) = true := decide_eq_true (by omega)
        go_wp2_with fail
        go_ret
        exact ⟨rfl, HB3.out⟩
      · have hbb : decide ((200 : Int) < (name.size : Int)) = false := decide_eq_false (by omega)
        go_wp2_with fail
        refine (new_any 100000 (by omega) (by omega) w3).mono ?_
        rintro e w4 ⟨rfl, hb4, hu4⟩
        have HU4 := Lib.hid hu4
        have HB4 := Lib.hid hb4
        clear hu4 hb4
        have hb5 : Below w4.heap.size w4 (w4.alloc (.cells #[.pointer (some ⟨w3.heap.size, 0, none⟩)] 24)) := (Below.refl _ _).alloc (Nat.le_refl _) _
        have HU5 := Lib.hid (HU4.out.below hb5 HU4.out.le)
        have HF5 : Hid (Below w.heap.size w (w4.alloc (.cells #[.pointer (some ⟨w3.heap.size, 0, none⟩)] 24))) := (HB3.out.trans (HB4.out.mono HB3.out.size)).trans (hb5.mono (Nat.le_trans HB3.out.size HB4.out.size))
        have HK5 : Hid ((w4.alloc (.cells #[.pointer (some ⟨w3.heap.size, 0, none⟩)] 24)).heap[w.heap.size]? = some (.cells #[.string name] 9)) := blk_alloc ((HB4.out.block _ cl).trans HK3.out) _
        have HQ5 : Hid ((w4.alloc (.cells #[.pointer (some ⟨w3.heap.size, 0, none⟩)] 24)).heap[w4.heap.size]? = some (.cells #[.pointer (some ⟨w3.heap.size, 0, none⟩)] 24)) := heap_alloc_new _ _
        have hsz := HB3.out.size
        have HOK0 : Hid (ULS.Ok ⟨[], [], 100000⟩) := ⟨fun i j p q _ hp => by simp at hp, fun i p hp => by simp at hp⟩
        clear hb5
        go_wp2_with fail
        refine (adds_any A1 k1 ops1 HR1.out s1 M1.out (Frm.ofBelow HF5.out (Nat.le_refl _)) hsz w.heap.size w4.heap.size name HK5.out HQ5.out HU5.out HOK0.out (by simp) (by simp) rfl).mono ?_
        rintro e w6 ⟨rfl, F, hA⟩
        obtain ⟨E1, hE1, hE2⟩ := hA.ents
        obtain ⟨L1, hL1, hL2, -⟩ := hA.savs
        have hfe : F.entries.length ≤ 120 := by rw [hE1]; simp; omega
        have hfs : F.saves.length ≤ 120 := by rw [hL1]; simp; omega
        have HQF : Hid (F.quota = 100000) := hA.quota
        have HU6 := Lib.hid hA.ur
        have HO6 := Lib.hid hA.ok
        have HF6 : Hid (Frm TU w.heap.size w w6) := (Frm.ofBelow HF5.out (Nat.le_refl _)).trans (hA.frm.down hsz)
        have HK6 : Hid (w6.heap[w.heap.size]? = some (.cells #[.string name] 9)) := hA.frm.blk HK5.out (by unfold TU; decide)
        have HQ6 : Hid (w6.heap[w4.heap.size]? = some (.cells #[.pointer (some ⟨w3.heap.size, 0, none⟩)] 24)) := hA.frm.blk HQ5.out (by unfold TU; decide)
        clear hA hE1 hE2 hL1 hL2
        obtain ⟨c6, -, -⟩ := one_of_block HK6.out
        obtain ⟨d6, -, -⟩ := one_of_block HQ6.out
        go_wp2_with fail
        refine (save_any HU6.out (by omega) name).mono ?_
        rintro e w7 ⟨rfl, hu, hf⟩
        obtain ⟨S0, hS0⟩ : ∃ S0 : ULS, S0 = { F with saves := F.saves ++ [(name, (F.entries.length : Int))] } := ⟨_, rfl⟩
        have HS0 := Lib.hid hS0
        rw [← hS0] at hu
        have HO7 : Hid S0.Ok := (by rw [hS0]; exact HO6.out.save name : S0.Ok)
        have HQS : Hid (S0.quota = 100000) := (by rw [hS0]; exact HQF.out : S0.quota = 100000)
        have h0e : S0.entries.length ≤ 120 := by rw [hS0]; exact hfe
        have h0s : S0.saves.length ≤ 121 := by rw [hS0]; simp; omega
        have HU7 := Lib.hid hu
        have HF7 : Hid (Frm TU w.heap.size w w7) := HF6.out.trans (hf.down hsz)
        have HK7 : Hid (w7.heap[w.heap.size]? = some (.cells #[.string name] 9)) := hf.blk HK6.out (by unfold TU; decide)
        have HQ7 : Hid (w7.heap[w4.heap.size]? = some (.cells #[.pointer (some ⟨w3.heap.size, 0, none⟩)] 24)) := hf.blk HQ6.out (by unfold TU; decide)
        have HL7 : Hid (S0.entries.length = F.entries.length) := (by rw [hS0] : S0.entries.length = F.entries.length)
        clear hu hf hS0
        obtain ⟨d7, -, d7l⟩ := one_of_block HQ7.out
        clear c6 d6 c0 cl
        have HU7d : Hid (UR w3.heap.size w3.heap.size S0 w7.drew) := HU7.out.drewN 1
        have hS7 : w7.drew.cell? ⟨w4.heap.size, 0, none⟩ = some (.pointer (some ⟨w3.heap.size, 0, none⟩)) := d7
        go_wp2_with fail
        go_region_held (fun w' => w'.cell? ⟨w4.heap.size, 0, none⟩ = some (.pointer (some ⟨w3.heap.size, 0, none⟩)))
          (first | exact hS7 | assumption)
          (first
            | (go_at_call 19; refine (len_is HU7d.out HL7.out).mono ?_; rintro e w' ⟨rfl, rfl⟩)
            | (go_at_call 22; refine (saves_any HU7d.out (by omega)).mono ?_; rintro e w8 ⟨A8, c8, rfl, ho8, hb8⟩; have HO8 := Lib.hid ho8; have HB8 : Hid (Below w7.heap.size w7 w8) := (below_drewN (Below.refl w7.heap.size w7) 1).trans hb8; have hS8 : w8.cell? ⟨w4.heap.size, 0, none⟩ = some (.pointer (some ⟨w3.heap.size, 0, none⟩)) := (World.cell?_of_block (w := w7) (a := ⟨w4.heap.size, 0, none⟩) (HB8.out.block _ d7l)).trans d7; clear ho8 hb8))
        all_goals
          have HF8 : Hid (Frm TU w.heap.size w w8) := HF7.out.trans (Frm.ofBelow HB8.out HF7.out.low.size)
          have hle7 := HU7.out.le
          have HU8 : Hid (UR w3.heap.size w3.heap.size S0 w8) := HU7.out.below HB8.out hle7
          have HK8 : Hid (w8.heap[w.heap.size]? = some (.cells #[.string name] 9)) := (HB8.out.block _ (lt_of_block HK7.out)).trans HK7.out
          have HQ8 : Hid (w8.heap[w4.heap.size]? = some (.cells #[.pointer (some ⟨w3.heap.size, 0, none⟩)] 24)) := (HB8.out.block _ d7l).trans HQ7.out
          obtain ⟨nn, hnn⟩ : ∃ nn, nn = names S0.saves := ⟨_, rfl⟩
          have HNN := Lib.hid hnn
          rw [← hnn] at HO8 ⊢
          have HO8' : Hid (w8.ownsRow 0 9 1 (.slice A8 nn.length c8) nn.length (ncells nn)) := owns_up HO8.out (Nat.zero_le _)
          have hnl : nn.length ≤ 121 := by rw [hnn]; unfold names; simpa using h0s
          clear hnn d7 d7l hS7 hS8 HU7d HO8
          go_wp2_with fail
          go_loopg [12] 3 (fun g i wr => ∃ j : Nat, j ≤ 3 ∧ g = 3 - j ∧ i = .int .i64 j ∧ Hid (UR w3.heap.size w3.heap.size S0 wr) ∧ Hid (Frm TU w.heap.size w wr) ∧ Hid (wr.heap[w.heap.size]? = some (.cells #[.string name] 9)) ∧ Hid (wr.heap[w4.heap.size]? = some (.cells #[.pointer (some ⟨w3.heap.size, 0, none⟩)] 24)) ∧ Hid (wr.ownsRow 0 9 1 (.slice A8 nn.length c8) nn.length (ncells nn)))
          case atStart => exact ⟨0, by omega, rfl, rfl, HU8, HF8, HK8, HQ8, HO8'⟩
          case round =>
            clear HU8 HF8 HK8 HQ8 HO8' HU7 HF7 HK7 HQ7 HB8
            obtain ⟨j, hj, hg, rfl, HU, HF, HK, HQ, HO⟩ := hrel
            obtain ⟨d0, -, -⟩ := one_of_block HQ.out
            obtain ⟨e0, -, -⟩ := one_of_block HK.out
            by_cases hlt : j < 3
            · go_wp2_with fail
              refine (adds_any A2 k2 ops2 HR2.out s2 M2.out HF.out hsz w.heap.size w4.heap.size name HK.out HQ.out HU.out HO7.out (by omega) (by omega) HQS.out).mono ?_
              rintro e wa ⟨rfl, S1, hA⟩
              obtain ⟨E, hE, hEl⟩ := hA.ents
              obtain ⟨L, hL, hLl, hLn⟩ := hA.savs
              have hel : S1.entries.length = F.entries.length + E.length := by rw [hE, List.length_append, HL7.out]
              have hsl : S1.saves.length ≤ 400 := by rw [hL, List.length_append]; omega
              have HEL := Lib.hid hel
              have HUa := Lib.hid hA.ur
              have HOa := Lib.hid hA.ok
              have HFa : Hid (Frm TU w.heap.size w wa) := HF.out.trans (hA.frm.down hsz)
              have HKa : Hid (wa.heap[w.heap.size]? = some (.cells #[.string name] 9)) := hA.frm.blk HK.out (by unfold TU; decide)
              have HQa : Hid (wa.heap[w4.heap.size]? = some (.cells #[.pointer (some ⟨w3.heap.size, 0, none⟩)] 24)) := hA.frm.blk HQ.out (by unfold TU; decide)
              have HOr : Hid (wa.ownsRow 0 9 1 (.slice A8 nn.length c8) nn.length (ncells nn)) := hA.frm.owns HO.out (by unfold TU; decide)
              have HE' : Hid (S1.entries = F.entries ++ E) := (by rw [hE, HS0.out] : S1.entries = F.entries ++ E)
              have HL' : Hid (S1.saves = (F.saves ++ [(name, (F.entries.length : Int))]) ++ L) := (by rw [hL, HS0.out] : S1.saves = (F.saves ++ [(name, (F.entries.length : Int))]) ++ L)
              have HQ' : Hid (S1.quota = F.quota) := (by rw [hA.quota, HQS.out, HQF.out] : S1.quota = F.quota)
              have HLN := Lib.hid hLn
              clear hA hE hL hLn hel d0 e0 HU HF HK HQ HO
              obtain ⟨d1, -, -⟩ := one_of_block HQa.out
              obtain ⟨e1, -, -⟩ := one_of_block HKa.out
              have hsub : ((F.entries.length : Int) + (E.length : Int) - (F.entries.length : Int)) = (E.length : Int) := by omega
              go_wp2_with fail
              refine (len_is HUa.out HEL.out).mono ?_
              rintro e w' ⟨rfl, rfl⟩
              go_wp2_with fail
              refine (back_again HUa.out HOa.out (by rw [HEL.out]; omega) (by omega) HE'.out HL'.out HLN.out HQ'.out).mono ?_
              rintro e wb ⟨Ab, cb, rfl, hub, hfb⟩
              rw [← HS0.out] at hub
              have HUb := Lib.hid hub
              have HFb : Hid (Frm TU w.heap.size w wb) := HFa.out.trans (hfb.down hsz)
              have HKb : Hid (wb.heap[w.heap.size]? = some (.cells #[.string name] 9)) := hfb.blk HKa.out (by unfold TU; decide)
              have HQb : Hid (wb.heap[w4.heap.size]? = some (.cells #[.pointer (some ⟨w3.heap.size, 0, none⟩)] 24)) := hfb.blk HQa.out (by unfold TU; decide)
              have HOb : Hid (wb.ownsRow 0 9 1 (.slice A8 nn.length c8) nn.length (ncells nn)) := hfb.owns HOr.out (by unfold TU; decide)
              clear hub hfb d1 e1 HUa HFa HKa HQa HOr
              obtain ⟨d1, -, dl1⟩ := one_of_block HQb.out
              go_wp2_with fail
              refine (len_is HUb.out HL7.out).mono ?_
              rintro e w' ⟨rfl, rfl⟩
              go_wp2_with fail
              refine (saves_any HUb.out (by omega)).mono ?_
              rintro e wc ⟨Ac, cc, rfl, hoc, hbc⟩
              rw [← HNN.out] at hoc ⊢
              have HRA := Lib.hid (ReadsN.of hoc rfl)
              have HRB := Lib.hid ((ReadsN.of HOb.out rfl).below hbc (Nat.le_refl _))
              have hleb := HUb.out.le
              have HUc : Hid (UR w3.heap.size w3.heap.size S0 wc) := HUb.out.below hbc hleb
              have HFc : Hid (Frm TU w.heap.size w wc) := HFb.out.trans (Frm.ofBelow hbc HFb.out.low.size)
              have HKc : Hid (wc.heap[w.heap.size]? = some (.cells #[.string name] 9)) := (hbc.block _ (lt_of_block HKb.out)).trans HKb.out
              have HQc : Hid (wc.heap[w4.heap.size]? = some (.cells #[.pointer (some ⟨w3.heap.size, 0, none⟩)] 24)) := (hbc.block _ dl1).trans HQb.out
              have HOc : Hid (wc.ownsRow 0 9 1 (.slice A8 nn.length c8) nn.length (ncells nn)) := owns_below HOb.out hbc (Nat.le_refl _)
              clear hoc hbc d1 HUb HFb HKb HQb HOb
              go_wp2_with fail
              refine (same06_any Ac A8 nn cc c8 HRA.out HRB.out (by omega)).mono ?_
              rintro e wd ⟨rfl, nd, rfl⟩
              have HUd := Lib.hid (HUc.out.drewN nd)
              have HFd : Hid (Frm TU w.heap.size w (wc.drewN nd)) := HFc.out.drewN nd
              go_wp2_with fail
              go_roundg (3 - (j + 1))
              case measure => omega
              case rel => exact ⟨j + 1, by omega, rfl, by go_num, HUd, HFd, HKc, HQc, HOc⟩
            · obtain ⟨k0, hk0, hs1, hs2⟩ := split_at S0.saves HO7.out.rise 0
              have HS1 := Lib.hid hs1
              have HS2 := Lib.hid hs2
              clear hs1 hs2
              go_wp2_with fail
              refine (to_any HU.out (by omega) (by omega) 0 0 (by decide) (Nat.zero_le _) k0 HS1.out HS2.out hk0).mono ?_
              rintro e we ⟨Ae, ce, J, rfl, hJ, ho, -, hu, hf⟩
              have hJl : J.length = F.entries.length := by
                have := congrArg List.length hJ
                rw [← HL7.out]
                simpa using this
              have HFe := Lib.hid (HF.out.low.trans (hf.low.mono hsz))
              rw [hJl]
              clear hJ ho hu hf hJl
              go_wp2_with fail
              go_ret
              exact ⟨rfl, HFe.out⟩
theorem undoAgain_walk {H : Type} {enc : TypeId × Value → H} {sp0 sp1 : Nat → Bool} {hd0 hd1 : Bool} {d0 d1 : DataW H} {p0 p1 : List MemPlace} {b0 b1 : Nat} (v0 v1 : Value) (name : ByteArray) (w : World)
    (hv0 : Value.okWide Try.prog w .any b0 22 v0) (h0 : DataW.Trod enc Try.prog w 0 sp0 hd0 22 v0 d0 p0)
    (hv1 : Value.okWide Try.prog w .any b1 22 v1) (h1 : DataW.Trod enc Try.prog w 0 sp1 hd1 22 v1 d1 p1)
    (hn : name.size ≤ 140737488351232) :
    Calls Try.prog 5 #[v0, v1, .string name] w fun e w' => e = .returned (.bool true) ∧ Below w.heap.size w w' := by
  obtain ⟨A1, c1, o1, rfl, r1, l1⟩ := open_script hv0 h0
  obtain ⟨A2, c2, o2, rfl, r2, l2⟩ := open_script hv1 h1
  exact undoAgain_any A1 A2 c1 c2 o1 o2 name w r1 r2 l1 l2 (by simp only [maxLen]; omega)
end Go.Proofs.Ytkanlcfinogaeaa
