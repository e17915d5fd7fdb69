/-
  The law FaultUndoes, walked.
-/
import Derived.Test.YtigcmbakglghpaaRnLaw
namespace Go.Proofs.Ytigcmbakglghpaa
open Go.RowKit Go.Proofs.YtigcmbakglghpaaW.PrintWords Go.Proofs.YtigcmbakglghpaaW.PrintLast Go.Proofs.YtigcmbakglghpaaW.PrintMore Go.Proofs.Ytigcmbakglghpaa.PFaultRuns
set_option linter.unusedVariables false
set_option linter.unusedSimpArgs false

def TI (t : TypeId) : Prop := t = 3
instance (t : TypeId) : Decidable (TI t) := by unfold TI; exact inferInstance
def TIF (t : TypeId) : Prop := t = 3 ∨ t = 25
instance (t : TypeId) : Decidable (TIF t) := by unfold TIF; exact inferInstance
/-- What is to be called back: it counts, and looks how much was written. -/
theorem back_call (kb pb ka bp : Nat) (A : Option Addr) (n c : Nat) (w : World) (h1 : w.heap[kb]? = some (.cells #[.int .i64 0] 3)) (h2 : w.heap[ka]? = some (.cells #[.int .i64 (-1)] 3)) (h3 : w.heap[pb]? = some (.cells #[.pointer (some ⟨bp, 0, none⟩)] 37)) (h4 : w.heap[bp]? = some (.cells #[.slice A n c] 40)) :
    Calls Try.prog 22 #[.pointer (some ⟨kb, 0, none⟩), .pointer (some ⟨pb, 0, none⟩), .pointer (some ⟨ka, 0, none⟩)] w fun e w' => e = .returned (.tuple #[]) ∧ (w.setCell ⟨kb, 0, none⟩ (.int .i64 1)).setCell ⟨ka, 0, none⟩ (.int .i64 n) = w' := by
  have hF := Frm.setCell (T := TI) (base := 0) h1 rfl (Nat.zero_le _) 0 (.int .i64 1)
  have hne : ka ≠ kb := fun e => by rw [e, h1] at h2; simp at h2
  obtain ⟨a0, af0, al⟩ := one_of_block h1
  have k3 := hF.keep _ _ _ _ h3 (by decide)
  have k4 := hF.keep _ _ _ _ h4 (by decide)
  have k2 := blk_set_ne h2 0 (.int .i64 1) hne
  obtain ⟨b0, bf0, bl⟩ := one_of_block k2
  obtain ⟨c0, cf0, cl⟩ := one_of_block k3
  obtain ⟨d0, df0, dl⟩ := one_of_block k4
  clear h1 h2 h3 h4 hF k2 k3 k4
  go_enter Try.func22, Try.ntmps22
  go_wp2_with fail
  go_end0
  exact ⟨rfl, rfl⟩
set_option maxRecDepth 100000 in
set_option maxHeartbeats 4000000 in
theorem undoes_any (A : Option Addr) (c : Nat) (l : List S50) (w : World) (hC : Kd.C k50 w A l.length l) (hc : l.length ≤ c) (M : Nat) (hd : Dp M l) (hs : sz M l ≤ 2000000) :
    Calls Try.prog 6 #[.slice A l.length c] w fun e w' => e = .returned (.bool true) ∧ Below w.heap.size w w' := by
  have hnot := @unary_not Try.prog
  have hmf := @make_func Try.prog
  have heq := eq_fault
  obtain ⟨gb, gk, hg, hgf⟩ := great_ev M l hd hs
  have HC := Lib.hid hC
  have HGK := Lib.hid hg
  have HGF := Lib.hid hgf
  clear hC hd hs hg hgf
  have hblk := heap_alloc_new w (.cells #[.slice A l.length c] 35)
  obtain ⟨w1, hw1⟩ : ∃ w1, w1 = w.alloc (.cells #[.slice A l.length c] 35) := ⟨_, rfl⟩
  rw [← hw1] at hblk
  have HB1 : Hid (Below w.heap.size w w1) := (by rw [hw1]; exact (Below.refl _ _).alloc (Nat.le_refl _) _ : Below w.heap.size w w1)
  obtain ⟨bl, hbl⟩ : ∃ bl, bl = w.heap.size := ⟨_, rfl⟩
  rw [← hbl] at hblk
  have HK1 := Lib.hid hblk
  clear hblk
  go_enter Try.func6, Try.ntmps6
  go_upto_region 1 with (fail)
  rw [← hw1, ← hbl]
  clear hw1
  have HBL := Lib.hid hbl
  clear hbl
  go_wp2_with fail
  refine (awake_calls _).mono ?_
  rintro e w2 ⟨rfl, hb2⟩
  have HB2 := Lib.hid (HB1.out.trans (hb2.mono HB1.out.size))
  have HK2 := Lib.hid ((hb2.block _ (lt_of_block HK1.out)).trans HK1.out)
  clear hb2 HB1 HK1
  obtain ⟨n0, nf0, nl⟩ := one_of_block HK2.out
  go_wp2_with fail
  refine (tripwirelaw01_great.calls gk A c l gb _ (Kd.C_below HC.out HB2.out) hc HGK.out).mono ?_
  rintro e w3 ⟨rfl, hb3⟩
  have HB3 := Lib.hid (HB2.out.trans (hb3.mono HB2.out.size))
  have HK3 := Lib.hid ((hb3.block _ nl).trans HK2.out)
  clear hb3 HB2 HK2 n0 nf0 nl
  cases gb with
  | true =>
    go_wp2_with fail
    go_ret
    exact ⟨rfl, HB3.out⟩
  | false =>
  have HD := Lib.hid (HGF.out rfl).1
  have HS := Lib.hid (HGF.out rfl).2
  go_upto_region 6 with (fail)
  have hbk := heap_alloc_new w3 (.cells #[.slice none 0 0] 40)
  have hF4 : ∀ T : TypeId → Prop, Frm T w.heap.size w3 (w3.alloc (.cells #[.slice none 0 0] 40)) := fun T => Frm.alloc (Frm.refl _ _ _) HB3.out.size _
  obtain ⟨w4, hw4⟩ : ∃ w4, w4 = w3.alloc (.cells #[.slice none 0 0] 40) := ⟨_, rfl⟩
  obtain ⟨bp, hbp⟩ : ∃ bp, bp = w3.heap.size := ⟨_, rfl⟩
  have hlo : w.heap.size ≤ bp := by rw [hbp]; exact HB3.out.size
  rw [← hw4] at hbk hF4 ⊢
  rw [← hbp] at hbk ⊢
  have hb4 : w.heap.size ≤ w4.heap.size := Nat.le_trans HB3.out.size (hF4 TB).low.size
  have hpb := heap_alloc_new w4 (.cells #[.pointer (some ⟨bp, 0, none⟩)] 37)
  have hF5 : ∀ T : TypeId → Prop, Frm T w.heap.size w3 (w4.alloc (.cells #[.pointer (some ⟨bp, 0, none⟩)] 37)) := fun T => (hF4 T).alloc HB3.out.size _
  have hbk5 := blk_alloc hbk (.cells #[.pointer (some ⟨bp, 0, none⟩)] 37)
  obtain ⟨w5, hw5⟩ : ∃ w5, w5 = w4.alloc (.cells #[.pointer (some ⟨bp, 0, none⟩)] 37) := ⟨_, rfl⟩
  obtain ⟨pb, hpbn⟩ : ∃ pb, pb = bp + 1 := ⟨_, rfl⟩
  have e4 : w4.heap.size = bp + 1 := by rw [hw4, hbp]; simp
  rw [← hw5] at hpb hF5 hbk5 ⊢
  rw [e4] at hpb
  rw [← hpbn] at hpb ⊢
  have HBK : Hid (Bk w5 w.heap.size bp []) := (⟨⟨none, 0, hbk5, World.ownsRow_nil _ _ _ _⟩, hlo⟩ : Bk w5 w.heap.size bp [])
  have HPB := Lib.hid hpb
  have HK5 := Lib.hid ((hF5 TB).keep _ _ _ _ HK3.out (by decide))
  have HB5 := Lib.hid (HB3.out.trans (hF5 TB).low)
  clear hw4 hw5 hbp hpbn e4 hbk hF4 hb4 hpb hF5 hbk5 HB3 HK3 HGF
  obtain ⟨w6, hw6⟩ : ∃ w6, w6 = (w5.alloc (.cells #[.int .i64 0] 3)).alloc (.cells #[.int .i64 (-1)] 3) := ⟨_, rfl⟩
  have hkb : w6.heap[w5.heap.size]? = some (.cells #[.int .i64 0] 3) := by rw [hw6]; exact blk_alloc (heap_alloc_new _ _) _
  have hka : w6.heap[w5.heap.size + 1]? = some (.cells #[.int .i64 (-1)] 3) := by rw [hw6]; exact heap_alloc_at _ _ _ (by simp)
  have hF6 : ∀ T : TypeId → Prop, Frm T w.heap.size w5 w6 := fun T => by rw [hw6]; exact (Frm.alloc (Frm.refl _ _ _) HB5.out.size _).alloc HB5.out.size _
  go_upto_region 8 with (fail)
  rw [← hw6]
  obtain ⟨kb, hkbn⟩ : ∃ kb, kb = w5.heap.size := ⟨_, rfl⟩
  rw [← hkbn] at hkb hka ⊢
  obtain ⟨ka, hkan⟩ : ∃ ka, ka = kb + 1 := ⟨_, rfl⟩
  have hne : ka ≠ kb := by omega
  have HLO : Hid (w.heap.size ≤ kb ∧ w.heap.size ≤ ka) := (by have := HB5.out.size; omega : w.heap.size ≤ kb ∧ w.heap.size ≤ ka)
  rw [← hkan] at hka ⊢
  have HKB := Lib.hid hkb
  have HKA := Lib.hid hka
  have HNE := Lib.hid hne
  have HPB6 := Lib.hid ((hF6 TB).keep _ _ _ _ HPB.out (by decide))
  have HK6 := Lib.hid ((hF6 TB).keep _ _ _ _ HK5.out (by decide))
  have HBK6 : Hid (Bk w6 w.heap.size bp []) := HBK.out.frm (hF6 (fun _ => False)) id id
  have HB6 := Lib.hid (HB5.out.trans (hF6 TB).low)
  clear hkb hka hF6 hw6 hkbn hkan hne HPB HK5 HBK HB5 hlo
  obtain ⟨cc, hcc⟩ : ∃ x, (sp 30 l).2.1 = x := ⟨_, rfl⟩
  obtain ⟨aa, haa⟩ : ∃ x, (sp 30 l).2.2 = x := ⟨_, rfl⟩
  obtain ⟨mm, hmm⟩ : ∃ x, (sp 30 l).1 = x := ⟨_, rfl⟩
  have HCC := Lib.hid hcc
  have HAA := Lib.hid haa
  have HMM := Lib.hid hmm
  have hmle : mm.length ≤ 1000 := by have h1 := HS.out; have h2 := sp_len 30 l; rw [hmm] at h2; omega
  clear hcc haa hmm
  have HUN := Lib.hid (undo_any (.func (.func 21) #[] #[.pointer (some ⟨pb, 0, none⟩), .pointer (some ⟨bl, 0, none⟩)]) (.func (.func 22) #[] #[.pointer (some ⟨kb, 0, none⟩), .pointer (some ⟨pb, 0, none⟩), .pointer (some ⟨ka, 0, none⟩)]) w6
    (fun c a w' => cc = c ∧ aa = a ∧ Bk w' w.heap.size bp mm ∧ Frm TB w.heap.size w6 w')
    (fun c a d b w'' => cc = c ∧ aa = a ∧ 0 = d ∧ ∃ w1, Bk w1 w.heap.size bp mm ∧ Frm TB w.heap.size w6 w1 ∧ Frm TIF w.heap.size w1 w'' ∧ w''.heap[kb]? = some (.cells #[.int .i64 1] 3) ∧ w''.heap[ka]? = some (.cells #[.int .i64 mm.length] 3))
    (by
      have hFa : ∀ T : TypeId → Prop, Frm T w.heap.size w6 (w6.alloc (.cells #[.int .i64 0, .int .i64 0] 25)) := fun T => Frm.alloc (Frm.refl _ _ _) HB6.out.size _
      have hb2 := Nat.le_trans HB6.out.size (hFa TB).low.size
      have hFg : Frm (fun _ => False) w.heap.size w6 ((w6.alloc (.cells #[.int .i64 0, .int .i64 0] 25)).alloc (.cells #[.int .i64 0, .int .i64 0] 25)) := (hFa _).alloc HB6.out.size _
      refine (catch_post 21 _ _ (fun _ _ => by simp [go_sem]) hb2 (top2 (run_ok w w.heap.size bp rfl 30) (hFg.keep _ _ _ _ HPB6.out id) (hFg.keep _ _ _ _ HK6.out id) HC.out hc HD.out (HB6.out.trans hFg.low) (HBK6.out.frm hFg id id) (by have := HS.out; simp; omega))).mono ?_
      rintro e w' ⟨he, hb1, hf1⟩
      rw [List.nil_append, HMM.out] at hb1
      exact ⟨_, _, he, ⟨HCC.out.symm, HAA.out.symm, hb1, (hFa TB).trans hf1⟩, hf1.keep _ _ _ _ (heap_alloc_new _ _) (by decide)⟩)
    (by
      rintro c a w' hc0 ⟨rfl, rfl, hb1, hf1⟩ hblk
      have hbw : w.heap.size ≤ w'.heap.size := Nat.le_trans HB6.out.size hf1.low.size
      obtain ⟨A7, c7, hbk7, ho7⟩ := hb1.row
      have k1 := blk_alloc (blk_alloc (hf1.keep _ _ _ _ HKB.out (by decide)) (.cells #[.int .i64 cc, .int .i64 aa] 25)) (.cells #[.int .i64 0, .int .i64 0] 25)
      have k2 := blk_alloc (blk_alloc (hf1.keep _ _ _ _ HKA.out (by decide)) (.cells #[.int .i64 cc, .int .i64 aa] 25)) (.cells #[.int .i64 0, .int .i64 0] 25)
      have k3 := blk_alloc (blk_alloc (hf1.keep _ _ _ _ HPB6.out (by decide)) (.cells #[.int .i64 cc, .int .i64 aa] 25)) (.cells #[.int .i64 0, .int .i64 0] 25)
      have k4 := blk_alloc (blk_alloc hbk7 (.cells #[.int .i64 cc, .int .i64 aa] 25)) (.cells #[.int .i64 0, .int .i64 0] 25)
      have l1 := lt_of_block (hf1.keep _ _ _ _ HKB.out (by decide))
      have l2 := lt_of_block (hf1.keep _ _ _ _ HKA.out (by decide))
      have lb : w.heap.size ≤ kb ∧ w.heap.size ≤ ka := HLO.out
      have hFs1 := Frm.setCell (T := TIF) (base := w.heap.size) k1 (.inl rfl) lb.1 0 (.int .i64 1)
      have k2b := blk_set_ne k2 0 (.int .i64 1) HNE.out
      have hFs2 := Frm.setCell (T := TIF) (base := w.heap.size) k2b (.inl rfl) lb.2 0 (.int .i64 mm.length)
      have hI1 := Frm.setCell (T := TI) (base := w.heap.size) k1 rfl lb.1 0 (.int .i64 1)
      have hI2 := Frm.setCell (T := TI) (base := w.heap.size) k2b rfl lb.2 0 (.int .i64 mm.length)
      have hI := hI1.trans hI2
      have hz := hI.keep _ _ _ _ (heap_alloc_new (w'.alloc (.cells #[.int .i64 cc, .int .i64 aa] 25)) (.cells #[.int .i64 0, .int .i64 0] 25)) (by decide)
      have hbc := back_call kb pb ka bp A7 mm.length c7 _ k1 k2 k3 k4
      refine (catch_back 22 _ (w'.alloc (.cells #[.int .i64 cc, .int .i64 aa] 25)) _ (fun _ _ => by simp [go_sem]) hbc (fun w1 h => by rw [← h]; exact hz)).mono ?_
      rintro e w'' ⟨rfl, w1, rfl, hbut⟩
      have hTF := Frm.ofBut hbut hz (Nat.le_trans hbw (by simp))
      have hw' : Frm TIF w.heap.size w' ((w'.alloc (.cells #[.int .i64 cc, .int .i64 aa] 25)).alloc (.cells #[.int .i64 0, .int .i64 0] 25)) := (Frm.alloc (Frm.refl _ _ _) hbw _).alloc hbw _
      have hall : Frm TIF w.heap.size w' w'' := ((hw'.trans hFs1).trans hFs2).trans (hTF.mono fun t ht => .inr ht)
      have e1 := hTF.keep _ _ _ _ (blk_set_ne (blk_set k1 0 (.int .i64 1)) 0 (.int .i64 mm.length) (Ne.symm HNE.out)) (by decide)
      have e2 := hTF.keep _ _ _ _ (blk_set k2b 0 (.int .i64 mm.length)) (by decide)
      have j1 := hI.keep _ _ _ _ (blk_alloc (blk_alloc hblk (.cells #[.int .i64 cc, .int .i64 aa] 25)) (.cells #[.int .i64 0, .int .i64 0] 25)) (by decide)
      have j2 := hI.keep _ _ _ _ (blk_alloc (heap_alloc_new w' (.cells #[.int .i64 cc, .int .i64 aa] 25)) (.cells #[.int .i64 0, .int .i64 0] 25)) (by decide)
      have lj := lt_of_block hblk
      refine ⟨0, 0, rfl, ⟨rfl, rfl, rfl, w', hb1, hf1, hall, e1, e2⟩, ?_, ?_⟩
      · exact (hbut.block _ (lt_of_block j1) (by simp; omega)).trans j1
      · exact (hbut.block _ (lt_of_block j2) (by simp)).trans j2))
  go_wp2_with fail
  refine HUN.out.mono ?_
  clear HUN
  rintro e w7 (⟨c', a', w1, ⟨rfl, rfl, hb1, hf1⟩, hF, hc0, rfl⟩ | ⟨c', a', d, b, w2, hc0, ⟨rfl, rfl, rfl, w1, hb1, hf1, hfi, hkb2, hka2⟩, hF, rfl⟩)
  · subst hc0
    have ha0 : aa = 0 := by rw [← HAA.out]; exact sp_at 30 l HCC.out
    subst ha0
    have hbk7 := hb1.frm hF (by decide) (by decide)
    have hpb7 := hF.keep _ _ _ _ (hf1.keep _ _ _ _ HPB6.out (by decide)) (by decide)
    have hbl7 := hF.keep _ _ _ _ (hf1.keep _ _ _ _ HK6.out (by decide)) (by decide)
    have hkb7 := hF.keep _ _ _ _ (hf1.keep _ _ _ _ HKB.out (by decide)) (by decide)
    have hka7 := hF.keep _ _ _ _ (hf1.keep _ _ _ _ HKA.out (by decide)) (by decide)
    have hlow : Below w.heap.size w6 w7 := hf1.low.trans (hF.low.mono HB6.out.size)
    clear hb1 hf1 hF
    have hBw : Below w.heap.size w w7 := HB6.out.trans hlow
    have hx6 := heap_alloc_new w7 (.cells #[.int .i64 0, .int .i64 0] 25)
    have hF8 : ∀ T : TypeId → Prop, Frm T w.heap.size w7 (w7.alloc (.cells #[.int .i64 0, .int .i64 0] 25)) := fun T => Frm.alloc (Frm.refl _ _ _) hBw.size _
    go_upto_region 9 with (fail)
    obtain ⟨w8, hw8⟩ : ∃ w8, w8 = w7.alloc (.cells #[.int .i64 0, .int .i64 0] 25) := ⟨_, rfl⟩
    obtain ⟨b6, hb6⟩ : ∃ b6, b6 = w7.heap.size := ⟨_, rfl⟩
    rw [← hw8] at hx6 hF8 ⊢
    rw [← hb6] at hx6 ⊢
    have HX8 := Lib.hid hx6
    have HP8 := Lib.hid ((hF8 TB).keep _ _ _ _ hpb7 (by decide))
    have HL8 := Lib.hid ((hF8 TB).keep _ _ _ _ hbl7 (by decide))
    have HKB8 := Lib.hid ((hF8 TB).keep _ _ _ _ hkb7 (by decide))
    have HKA8 := Lib.hid ((hF8 TB).keep _ _ _ _ hka7 (by decide))
    have HBK8 : Hid (Bk w8 w.heap.size bp mm) := hbk7.frm (hF8 (fun _ => False)) id id
    have HB8 := Lib.hid (hBw.trans (hF8 TB).low)
    clear hx6 hF8 hw8 hb6 hpb7 hbl7 hkb7 hka7 hbk7 hBw hlow
    have HRC := Lib.hid (run_call 30 l HD.out (by have := HS.out; omega) A c w8 (Kd.C_below HC.out HB8.out) hc)
    rw [HCC.out, HAA.out, HMM.out] at HRC
    obtain ⟨n0, nf0, nl⟩ := one_of_block HL8.out
    go_wp2_with fail
    refine HRC.out.mono ?_
    rintro e w9 ⟨A', c', rfl, hC9, hc9, hb9⟩
    have HB9 := Lib.hid (HB8.out.trans (hb9.mono HB8.out.size))
    have x6 := (hb9.block _ (lt_of_block HX8.out)).trans HX8.out
    have x3 := (hb9.block _ (lt_of_block HP8.out)).trans HP8.out
    have x4 := (hb9.block _ (lt_of_block HKB8.out)).trans HKB8.out
    have x5 := (hb9.block _ (lt_of_block HKA8.out)).trans HKA8.out
    have HBK9 : Hid (Bk w9 w.heap.size bp mm) := HBK8.out.frm (T := fun _ => False) (base' := w.heap.size) (Frm.ofBelow hb9 HB8.out.size) id id
    obtain ⟨A9, c9, hbk9, -, -⟩ := HBK9.out.reads (by omega)
    clear hC9 hc9 hb9 n0 nf0 nl HX8 HP8 HL8 HKB8 HKA8 HBK8 HB8 HRC
    obtain ⟨p0, pf0, pl⟩ := one_of_block x3
    obtain ⟨q0, qf0, ql⟩ := one_of_block hbk9
    obtain ⟨r0, r1, rf0, rf1, rl⟩ := two_of_block x6
    obtain ⟨s0, sf0, sl⟩ := one_of_block x4
    obtain ⟨t0, tf0, tl⟩ := one_of_block x5
    clear x3 x4 x5 x6 hbk9
    go_wp2_with fail
    go_ret
    exact ⟨by simp, HB9.out⟩
  · rw [if_pos rfl]
    have hccb : (cc == 0) = false := beq_eq_false_iff_ne.2 hc0
    have hbk7 := (hb1.frm hfi (by decide) (by decide)).frm hF (by decide) (by decide)
    have hpb7 := hF.keep _ _ _ _ (hfi.keep _ _ _ _ (hf1.keep _ _ _ _ HPB6.out (by decide)) (by decide)) (by decide)
    have hbl7 := hF.keep _ _ _ _ (hfi.keep _ _ _ _ (hf1.keep _ _ _ _ HK6.out (by decide)) (by decide)) (by decide)
    have hkb7 := hF.keep _ _ _ _ hkb2 (by decide)
    have hka7 := hF.keep _ _ _ _ hka2 (by decide)
    have hlow : Below w.heap.size w6 w7 := (hf1.low.trans hfi.low).trans (hF.low.mono HB6.out.size)
    clear hb1 hf1 hfi hkb2 hka2 hF
    have hBw : Below w.heap.size w w7 := HB6.out.trans hlow
    have hx6 := heap_alloc_new w7 (.cells #[.int .i64 cc, .int .i64 aa] 25)
    have hF8 : ∀ T : TypeId → Prop, Frm T w.heap.size w7 (w7.alloc (.cells #[.int .i64 cc, .int .i64 aa] 25)) := fun T => Frm.alloc (Frm.refl _ _ _) hBw.size _
    go_upto_region 9 with (fail)
    obtain ⟨w8, hw8⟩ : ∃ w8, w8 = w7.alloc (.cells #[.int .i64 cc, .int .i64 aa] 25) := ⟨_, rfl⟩
    obtain ⟨b6, hb6⟩ : ∃ b6, b6 = w7.heap.size := ⟨_, rfl⟩
    rw [← hw8] at hx6 hF8 ⊢
    rw [← hb6] at hx6 ⊢
    have HX8 := Lib.hid hx6
    have HP8 := Lib.hid ((hF8 TB).keep _ _ _ _ hpb7 (by decide))
    have HL8 := Lib.hid ((hF8 TB).keep _ _ _ _ hbl7 (by decide))
    have HKB8 := Lib.hid ((hF8 TB).keep _ _ _ _ hkb7 (by decide))
    have HKA8 := Lib.hid ((hF8 TB).keep _ _ _ _ hka7 (by decide))
    have HBK8 : Hid (Bk w8 w.heap.size bp mm) := hbk7.frm (hF8 (fun _ => False)) id id
    have HB8 := Lib.hid (hBw.trans (hF8 TB).low)
    clear hx6 hF8 hw8 hb6 hpb7 hbl7 hkb7 hka7 hbk7 hBw hlow
    have HRC := Lib.hid (run_call 30 l HD.out (by have := HS.out; omega) A c w8 (Kd.C_below HC.out HB8.out) hc)
    rw [HCC.out, HAA.out, HMM.out] at HRC
    obtain ⟨n0, nf0, nl⟩ := one_of_block HL8.out
    go_wp2_with fail
    refine HRC.out.mono ?_
    rintro e w9 ⟨A', c', rfl, hC9, hc9, hb9⟩
    have HB9 := Lib.hid (HB8.out.trans (hb9.mono HB8.out.size))
    have x6 := (hb9.block _ (lt_of_block HX8.out)).trans HX8.out
    have x3 := (hb9.block _ (lt_of_block HP8.out)).trans HP8.out
    have x4 := (hb9.block _ (lt_of_block HKB8.out)).trans HKB8.out
    have x5 := (hb9.block _ (lt_of_block HKA8.out)).trans HKA8.out
    have HBK9 : Hid (Bk w9 w.heap.size bp mm) := HBK8.out.frm (T := fun _ => False) (base' := w.heap.size) (Frm.ofBelow hb9 HB8.out.size) id id
    obtain ⟨A9, c9, hbk9, -, -⟩ := HBK9.out.reads (by omega)
    clear hC9 hc9 hb9 n0 nf0 nl HX8 HP8 HL8 HKB8 HKA8 HBK8 HB8 HRC
    obtain ⟨p0, pf0, pl⟩ := one_of_block x3
    obtain ⟨q0, qf0, ql⟩ := one_of_block hbk9
    obtain ⟨r0, r1, rf0, rf1, rl⟩ := two_of_block x6
    obtain ⟨s0, sf0, sl⟩ := one_of_block x4
    obtain ⟨t0, tf0, tl⟩ := one_of_block x5
    clear x3 x4 x5 x6 hbk9
    go_wp2_with fail
    go_quiet (fail)
    go_wp2_with fail
    go_ret
    exact ⟨by simp, below_drewN HB9.out _⟩
theorem faultUndoes_walk {H : Type} {enc : TypeId × Value → H} {spv : Nat → Bool} {hd0 : Bool} {d0 : DataW H} {p0 : List MemPlace} {b0 : Nat} (v0 : Value) (w : World)
    (hv0 : Value.okWide Try.prog w .any b0 35 v0) (h0 : DataW.Trod enc Try.prog w 0 spv hd0 35 v0 d0 p0) (hb : Rows.uptoBulk d0 ≤ 1048576) :
    Calls Try.prog 6 #[v0] w fun e w' => e = .returned (.bool true) ∧ Below w.heap.size w w' := by
  obtain ⟨A, c, l, M, rfl, h1, h2, h3, h4⟩ := open_arg v0 w hv0 h0 hb
  exact undoes_any A c l w h1 h2 M h3 h4
end Go.Proofs.Ytigcmbakglghpaa
