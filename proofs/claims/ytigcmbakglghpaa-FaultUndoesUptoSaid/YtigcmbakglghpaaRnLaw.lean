/-
  The law FaultRuns, walked.
-/
import Derived.Test.YtigcmbakglghpaaRnOpen
import Derived.Test.YtigcmbakglghpaaRunP
namespace Go.Proofs.Ytigcmbakglghpaa
open Go.RowKit Go.Proofs.YtigcmbakglghpaaW.PrintWords Go.Proofs.YtigcmbakglghpaaW.PrintLast Go.Proofs.YtigcmbakglghpaaW.PrintMore Go.Proofs.Ytigcmbakglghpaa.PFaultRuns
set_option linter.unusedVariables false
set_option linter.unusedSimpArgs false

section
variable {N : Nat} {w0 : World} {base bp pb bl : Nat} {A : Option Addr} {l : List S50} {c : Nat} {L : List S53} {w : World}
theorem top1 (hrun : RunOk N w0 base bp) (hb : w.heap[pb]? = some (.cells #[.pointer (some ⟨bp, 0, none⟩)] 37)) (hs : w.heap[bl]? = some (.cells #[.slice A l.length c] 35)) (h3 : Kd.C k50 w0 A l.length l) (hc : l.length ≤ c) (hd : Dp N l) (hw : Below base w0 w) (hB : Bk w base bp L) (hL : L.length + 2 * sz N l ≤ 100000) :
    Calls Try.prog 16 #[.pointer (some ⟨pb, 0, none⟩), .pointer (some ⟨bl, 0, none⟩)] w (Post N l base bp L w) := by
  have p0 := (cell_of_block hb 0).trans rfl
  have q3 := (cell_of_block hs 0).trans rfl
  have HC := Lib.hid (hrun A c l h3 hc hd L w hw hB hL)
  clear hrun hb hs h3 hc hd hw hB hL
  go_enter Try.func16, Try.ntmps16
  go_wp2_with fail
  refine HC.out.mono ?_
  rintro e w' ⟨hB, hF, ⟨hc, rfl⟩ | ⟨hc, rfl⟩⟩
  · have H := Lib.hid (And.intro hB (And.intro hF hc))
    clear hB hF hc
    go_wp2_with fail
    go_end0
    exact ⟨H.out.1, H.out.2.1, .inl ⟨H.out.2.2, rfl⟩⟩
  · have H := Lib.hid (And.intro hB (And.intro hF hc))
    clear hB hF hc
    go_wp2_with fail
    exact ⟨rfl, H.out.1, H.out.2.1, .inr ⟨H.out.2.2, rfl⟩⟩
theorem top2 (hrun : RunOk N w0 base bp) (hb : w.heap[pb]? = some (.cells #[.pointer (some ⟨bp, 0, none⟩)] 37)) (hs : w.heap[bl]? = some (.cells #[.slice A l.length c] 35)) (h3 : Kd.C k50 w0 A l.length l) (hc : l.length ≤ c) (hd : Dp N l) (hw : Below base w0 w) (hB : Bk w base bp L) (hL : L.length + 2 * sz N l ≤ 100000) :
    Calls Try.prog 21 #[.pointer (some ⟨pb, 0, none⟩), .pointer (some ⟨bl, 0, none⟩)] w (Post N l base bp L w) := by
  have p0 := (cell_of_block hb 0).trans rfl
  have q3 := (cell_of_block hs 0).trans rfl
  have HC := Lib.hid (hrun A c l h3 hc hd L w hw hB hL)
  clear hrun hb hs h3 hc hd hw hB hL
  go_enter Try.func21, Try.ntmps21
  go_wp2_with fail
  refine HC.out.mono ?_
  rintro e w' ⟨hB, hF, ⟨hc, rfl⟩ | ⟨hc, rfl⟩⟩
  · have H := Lib.hid (And.intro hB (And.intro hF hc))
    clear hB hF hc
    go_wp2_with fail
    go_end0
    exact ⟨H.out.1, H.out.2.1, .inl ⟨H.out.2.2, rfl⟩⟩
  · have H := Lib.hid (And.intro hB (And.intro hF hc))
    clear hB hF hc
    go_wp2_with fail
    exact ⟨rfl, H.out.1, H.out.2.1, .inr ⟨H.out.2.2, rfl⟩⟩
end
theorem run_call (N : Nat) (l : List S50) (hd : Dp N l) (hs : 2 * sz N l ≤ 1000000) (A : Option Addr) (c : Nat) (w : World) (hC : Kd.C k50 w A l.length l) (hc : l.length ≤ c) :
    Calls Try.prog 18 #[.slice A l.length c] w fun e w' => ∃ A' c', e = .returned (.tuple #[.slice A' (sp N l).1.length c', .int .i64 (sp N l).2.1, .int .i64 (sp N l).2.2]) ∧ Kd.C k53 w' A' (sp N l).1.length (sp N l).1 ∧ (sp N l).1.length ≤ c' ∧ Below w.heap.size w w' := by
  obtain ⟨k, hk⟩ := run_ev N l hd hs
  refine (refRun.calls k A c l (sp N l).1 (sp N l).2.1 (sp N l).2.2 w hC hc (hk k (Nat.le_refl _))).mono ?_
  rintro e w' ⟨v, rfl, hR, hb⟩
  obtain ⟨A', c', rfl, h1, h2⟩ := Kd.R_reads hR
  exact ⟨A', c', rfl, h2, h1, hb⟩
set_option maxRecDepth 100000 in
set_option maxHeartbeats 4000000 in
theorem runs_any (A : Option Addr) (c : Nat) (l : List S50) (w : World) (hC : Kd.C k50 w A l.length l) (hc : l.length ≤ c) (M : Nat) (hd : Dp M l) (hs : sz M l ≤ 2000000) :
    Calls Try.prog 5 #[.slice A l.length c] w fun e w' => e = .returned (.bool true) ∧ Below w.heap.size w w' := by
  have hnot := @unary_not Try.prog
  have hmf := @make_func Try.prog
  have heq := eq_fault
  obtain ⟨gb, gk, hg, hgf⟩ := great_ev M l hd hs
  have HC := Lib.hid hC
  have HGK := Lib.hid hg
  have HGF := Lib.hid hgf
  clear hC hd hs hg hgf
  have hblk := heap_alloc_new w (.cells #[.slice A l.length c] 35)
  obtain ⟨w1, hw1⟩ : ∃ w1, w1 = w.alloc (.cells #[.slice A l.length c] 35) := ⟨_, rfl⟩
  rw [← hw1] at hblk
  have HB1 : Hid (Below w.heap.size w w1) := (by rw [hw1]; exact (Below.refl _ _).alloc (Nat.le_refl _) _ : Below w.heap.size w w1)
  obtain ⟨bl, hbl⟩ : ∃ bl, bl = w.heap.size := ⟨_, rfl⟩
  rw [← hbl] at hblk
  have HK1 := Lib.hid hblk
  clear hblk
  go_enter Try.func5, Try.ntmps5
  go_upto_region 1 with (fail)
  rw [← hw1, ← hbl]
  clear hw1
  have HBL := Lib.hid hbl
  clear hbl
  go_wp2_with fail
  refine (awake_calls _).mono ?_
  rintro e w2 ⟨rfl, hb2⟩
  have HB2 := Lib.hid (HB1.out.trans (hb2.mono HB1.out.size))
  have HK2 := Lib.hid ((hb2.block _ (lt_of_block HK1.out)).trans HK1.out)
  clear hb2 HB1 HK1
  obtain ⟨n0, nf0, nl⟩ := one_of_block HK2.out
  go_wp2_with fail
  refine (tripwirelaw01_great.calls gk A c l gb _ (Kd.C_below HC.out HB2.out) hc HGK.out).mono ?_
  rintro e w3 ⟨rfl, hb3⟩
  have HB3 := Lib.hid (HB2.out.trans (hb3.mono HB2.out.size))
  have HK3 := Lib.hid ((hb3.block _ nl).trans HK2.out)
  clear hb3 HB2 HK2 n0 nf0 nl
  cases gb with
  | true =>
    go_wp2_with fail
    go_ret
    exact ⟨rfl, HB3.out⟩
  | false =>
  have HD := Lib.hid (HGF.out rfl).1
  have HS := Lib.hid (HGF.out rfl).2
  go_upto_region 6 with (fail)
  have hbk := heap_alloc_new w3 (.cells #[.slice none 0 0] 40)
  have hF4 : ∀ T : TypeId → Prop, Frm T w.heap.size w3 (w3.alloc (.cells #[.slice none 0 0] 40)) := fun T => Frm.alloc (Frm.refl _ _ _) HB3.out.size _
  obtain ⟨w4, hw4⟩ : ∃ w4, w4 = w3.alloc (.cells #[.slice none 0 0] 40) := ⟨_, rfl⟩
  obtain ⟨bp, hbp⟩ : ∃ bp, bp = w3.heap.size := ⟨_, rfl⟩
  have hlo : w.heap.size ≤ bp := by rw [hbp]; exact HB3.out.size
  rw [← hw4] at hbk hF4 ⊢
  rw [← hbp] at hbk ⊢
  have hb4 : w.heap.size ≤ w4.heap.size := Nat.le_trans HB3.out.size (hF4 TB).low.size
  have hpb := heap_alloc_new w4 (.cells #[.pointer (some ⟨bp, 0, none⟩)] 37)
  have hF5 : ∀ T : TypeId → Prop, Frm T w.heap.size w3 (w4.alloc (.cells #[.pointer (some ⟨bp, 0, none⟩)] 37)) := fun T => (hF4 T).alloc HB3.out.size _
  have hbk5 := blk_alloc hbk (.cells #[.pointer (some ⟨bp, 0, none⟩)] 37)
  obtain ⟨w5, hw5⟩ : ∃ w5, w5 = w4.alloc (.cells #[.pointer (some ⟨bp, 0, none⟩)] 37) := ⟨_, rfl⟩
  obtain ⟨pb, hpbn⟩ : ∃ pb, pb = bp + 1 := ⟨_, rfl⟩
  have e4 : w4.heap.size = bp + 1 := by rw [hw4, hbp]; simp
  rw [← hw5] at hpb hF5 hbk5 ⊢
  rw [e4] at hpb
  rw [← hpbn] at hpb ⊢
  have HBK : Hid (Bk w5 w.heap.size bp []) := (⟨⟨none, 0, hbk5, World.ownsRow_nil _ _ _ _⟩, hlo⟩ : Bk w5 w.heap.size bp [])
  have HPB := Lib.hid hpb
  have HK5 := Lib.hid ((hF5 TB).keep _ _ _ _ HK3.out (by decide))
  have HB5 := Lib.hid (HB3.out.trans (hF5 TB).low)
  have hb5 : w.heap.size ≤ w5.heap.size := HB5.out.size
  have hFz : Frm (fun _ => False) w.heap.size w5 (w5.alloc (.cells #[.int .i64 0, .int .i64 0] 25)) := Frm.alloc (Frm.refl _ _ _) hb5 _
  have HCA := Lib.hid (catch_post (L := []) 16 #[.pointer (some ⟨pb, 0, none⟩), .pointer (some ⟨bl, 0, none⟩)] w5 (fun _ _ => by simp [go_sem]) hb5 (top1 (run_ok w w.heap.size bp rfl 30) (hFz.keep _ _ _ _ HPB.out id) (hFz.keep _ _ _ _ HK5.out id) HC.out hc HD.out (HB5.out.trans hFz.low) (HBK.out.frm hFz id id) (by have := HS.out; simp; omega)))
  clear hw4 hw5 hbp hpbn e4 hbk hF4 hb4 hpb hF5 hbk5 hFz hb5 HB3 HK3 HGF hlo
  go_wp2_with fail
  refine HCA.out.mono ?_
  rintro e w6 ⟨rfl, hb6, hf6⟩
  rw [List.nil_append] at hb6
  obtain ⟨cc, hcc⟩ : ∃ x, (sp 30 l).2.1 = x := ⟨_, rfl⟩
  obtain ⟨aa, haa⟩ : ∃ x, (sp 30 l).2.2 = x := ⟨_, rfl⟩
  obtain ⟨mm, hmm⟩ : ∃ x, (sp 30 l).1 = x := ⟨_, rfl⟩
  have hml := sp_len 30 l
  rw [hmm] at hb6 hml
  rw [hcc, haa]
  have HCC := Lib.hid hcc
  have HAA := Lib.hid haa
  have HMM := Lib.hid hmm
  have hmle : mm.length ≤ 1000 := by have := HS.out; omega
  have hx4 := heap_alloc_new w6 (.cells #[.int .i64 cc, .int .i64 aa] 25)
  have hb6s : w.heap.size ≤ w6.heap.size := Nat.le_trans HB5.out.size hf6.low.size
  have hF7 : Frm TB w.heap.size w5 (w6.alloc (.cells #[.int .i64 cc, .int .i64 aa] 25)) := hf6.alloc HB5.out.size _
  have hbk7 : Bk (w6.alloc (.cells #[.int .i64 cc, .int .i64 aa] 25)) w.heap.size bp mm := hb6.frm (T := fun _ => False) (base' := w.heap.size) (Frm.alloc (Frm.refl _ _ _) hb6s _) id id
  go_upto_region 7 with (fail)
  obtain ⟨w7, hw7⟩ : ∃ w7, w7 = w6.alloc (.cells #[.int .i64 cc, .int .i64 aa] 25) := ⟨_, rfl⟩
  obtain ⟨b4, hb4⟩ : ∃ b4, b4 = w6.heap.size := ⟨_, rfl⟩
  rw [← hw7] at hx4 hF7 hbk7 ⊢
  rw [← hb4] at hx4 ⊢
  have HX7 := Lib.hid hx4
  have HBK7 := Lib.hid hbk7
  have HPB7 := Lib.hid (hF7.keep _ _ _ _ HPB.out (by decide))
  have HK7 := Lib.hid (hF7.keep _ _ _ _ HK5.out (by decide))
  have HB7 := Lib.hid (HB5.out.trans hF7.low)
  clear hcc haa hmm hx4 hb6s hF7 hbk7 hw7 hb4 hb6 hf6 hml HCA HBK HPB HK5 HB5
  have HRC := Lib.hid (run_call 30 l HD.out (by have := HS.out; omega) A c w7 (Kd.C_below HC.out HB7.out) hc)
  rw [HCC.out, HAA.out, HMM.out] at HRC
  obtain ⟨n0, nf0, nl⟩ := one_of_block HK7.out
  go_wp2_with fail
  refine HRC.out.mono ?_
  rintro e w8 ⟨A', c', rfl, hC8, hc8, hb8⟩
  have HC8 := Lib.hid hC8
  have HB8 := Lib.hid (HB7.out.trans (hb8.mono HB7.out.size))
  have HX8 := Lib.hid ((hb8.block _ (lt_of_block HX7.out)).trans HX7.out)
  have HPB8 := Lib.hid ((hb8.block _ (lt_of_block HPB7.out)).trans HPB7.out)
  have HBK8 : Hid (Bk w8 w.heap.size bp mm) := HBK7.out.frm (T := fun _ => False) (base' := w.heap.size) (Frm.ofBelow hb8 HB7.out.size) id id
  obtain ⟨A9, c9, hbk9, hC9, hc9⟩ := HBK8.out.reads (by omega)
  clear hC8 hb8 n0 nf0 nl HX7 HPB7 HBK7 HK7 HB7 HRC
  obtain ⟨ks, hks⟩ := same_ev mm (by omega)
  have HSM := Lib.hid (tripwireref01_Same.calls ks A9 c9 mm A' c' mm true w8 hC9 hc9 HC8.out hc8 hks)
  obtain ⟨p0, pf0, pl⟩ := one_of_block HPB8.out
  obtain ⟨q0, qf0, ql⟩ := one_of_block hbk9
  obtain ⟨r0, r1, rf0, rf1, rl⟩ := two_of_block HX8.out
  clear hC9 hks hbk9
  go_wp2_with fail
  refine HSM.out.mono ?_
  rintro e w9 ⟨rfl, hdr⟩
  obtain ⟨n9, rfl⟩ := hdr.out
  clear p0 pf0 pl q0 qf0 ql r0 r1 rf0 rf1 rl hdr
  obtain ⟨r0, r1, rf0, rf1, rl⟩ := two_of_block (w := w8.drewN n9) HX8.out
  go_wp2_with fail
  go_ret
  exact ⟨by simp, below_drewN HB8.out n9⟩
theorem open_arg {H : Type} {enc : TypeId × Value → H} {spv : Nat → Bool} {hd0 : Bool} {d0 : DataW H} {p0 : List MemPlace} {b0 : Nat} (v0 : Value) (w : World)
    (hv0 : Value.okWide Try.prog w .any b0 35 v0) (h0 : DataW.Trod enc Try.prog w 0 spv hd0 35 v0 d0 p0) (hb : Rows.uptoBulk d0 ≤ 1048576) :
    ∃ (A : Option Addr) (c : Nat) (l : List S50) (M : Nat), v0 = .slice A l.length c ∧ Kd.C k50 w A l.length l ∧ l.length ≤ c ∧ Dp M l ∧ sz M l ≤ 2000000 := by
  obtain ⟨a, len, cap, rfl⟩ := WideShapes.okWide_slice Try.underlying35 hv0
  obtain ⟨fuel, hf⟩ := h0
  obtain ⟨A, c, l, e, h1, h2, h3, h4⟩ := open_steps fuel (v := .slice a len cap) hf
  have h5 : sz fuel l ≤ Rows.uptoBulk d0 := h4
  exact ⟨A, c, l, fuel, e, h1, h2, h3, by omega⟩
theorem faultRuns_walk {H : Type} {enc : TypeId × Value → H} {spv : Nat → Bool} {hd0 : Bool} {d0 : DataW H} {p0 : List MemPlace} {b0 : Nat} (v0 : Value) (w : World)
    (hv0 : Value.okWide Try.prog w .any b0 35 v0) (h0 : DataW.Trod enc Try.prog w 0 spv hd0 35 v0 d0 p0) (hb : Rows.uptoBulk d0 ≤ 1048576) :
    Calls Try.prog 5 #[v0] w fun e w' => e = .returned (.bool true) ∧ Below w.heap.size w w' := by
  obtain ⟨A, c, l, M, rfl, h1, h2, h3, h4⟩ := open_arg v0 w hv0 h0 hb
  exact runs_any A c l w h1 h2 M h3 h4
end Go.Proofs.Ytigcmbakglghpaa
