/-
  Law package 04: the law ArenaQuota.
-/
import Derived.Test.YtmlgockejacjeaaArPlain
import Derived.Test.YtmlgockejacjeaaArOwns
import Derived.Deep.RegionHeld
namespace Go.Proofs.Ytmlgockejacjeaa
open Go.RowKit Go.ChangeShapes Go.WideShapes Go.ChangeAt
set_option linter.unusedVariables false
set_option linter.unusedSimpArgs false

theorem At.used {base a : Nat} {S : ArS} {w0 w : World} (h : At base a S w0 w) (ok : S.Ok) :
    Calls Try.prog 20 #[.pointer (some ⟨a, 0, none⟩)] w fun e w' => e = .returned (.int .i64 S.used) ∧ ∃ n, w' = w.drewN n := by
  obtain ⟨own, hA⟩ := h.ar
  exact used_any hA ok
theorem At.left {base a : Nat} {S : ArS} {w0 w : World} (h : At base a S w0 w) (ok : S.Ok) :
    Calls Try.prog 21 #[.pointer (some ⟨a, 0, none⟩)] w fun e w' => e = .returned (.int .i64 S.left) ∧ ∃ n, w' = w.drewN n := by
  obtain ⟨own, hA⟩ := h.ar
  exact left_any hA ok
theorem At.pages {base a : Nat} {S : ArS} {w0 w : World} (h : At base a S w0 w) (ok : S.Ok) :
    Calls Try.prog 23 #[.pointer (some ⟨a, 0, none⟩)] w fun e w' => ∃ A c, e = .returned (.slice A (S.upto S.pages.length).length c) ∧ At base a S w0 w' ∧ w'.ownsRow w.heap.size 3 1 (.slice A (S.upto S.pages.length).length c) (S.upto S.pages.length).length ((S.upto S.pages.length).map (Value.int .i64)) ∧ Below w.heap.size w w' := by
  obtain ⟨own, hA⟩ := h.ar
  refine (pages_any hA ok).mono ?_
  rintro e w' ⟨v, rfl, ho, hb⟩
  obtain ⟨A, c, rfl⟩ := own_form ho
  exact ⟨A, c, rfl, h.news hb, ho, hb⟩
/-- What Alloc answers, and leaves. -/
def ArS.alloc (S : ArS) : Int × ArS := if S.left = 0 then (0, S) else match S.free.getLast? with
  | none => ((S.pages.length : Int) + 1, { S with pages := S.pages ++ [some zpage] })
  | some n => (n, { S with pages := S.pages.set (n - 1).toNat (some zpage), free := S.free.dropLast })
theorem At.alloc0 {base a : Nat} {S : ArS} {w0 w : World} (h : At base a S w0 w) (ok : S.Ok) (hl : S.left ≠ 0) :
    Calls Try.prog 10 #[.pointer (some ⟨a, 0, none⟩)] w fun e w' => e = .returned (.tuple #[.int .i64 S.alloc.1, .int .i64 0]) ∧ At base a S.alloc.2 w0 w' := by
  unfold ArS.alloc
  rw [if_neg hl]
  rcases hf : S.free.getLast? with _ | n
  · rw [List.getLast?_eq_none_iff] at hf
    exact h.new ok hl hf
  · obtain ⟨fr, hfr⟩ := List.getLast?_eq_some_iff.1 hf
    have hd : S.free.dropLast = fr := by rw [hfr]; simp
    rw [hd]
    exact h.again ok hl fr n hfr
theorem alloc_plain {S : ArS} (ok : S.Ok) (hl : S.left ≠ 0) : S.alloc.2.Ok ∧ S.alloc.2.quota = S.quota ∧ S.alloc.2.used = S.used + 1 ∧ S.used < S.quota ∧ 1 ≤ S.alloc.1 ∧ S.alloc.1 ≤ 4096 ∧ S.alloc.2.page S.alloc.1 = some zpage := by
  have hu : S.used < S.quota := by
    have hl' := hl
    unfold ArS.left at hl'
    split at hl'
    · exact absurd rfl hl'
    · omega
  have hm := ok.most
  have hq := ok.quota
  unfold ArS.alloc
  rw [if_neg hl]
  rcases hf : S.free.getLast? with _ | n
  · rw [List.getLast?_eq_none_iff] at hf
    have ho := ok.new hl hf zpage
    dsimp only
    have h4 : S.pages.length < 4096 := by unfold ArS.used at hu; rw [hf] at hu; simp at hu; omega
    refine ⟨ho, rfl, by simp [ArS.used]; omega, hu, by omega, by omega, ?_⟩
    unfold ArS.page
    rw [if_pos (by omega), show ((S.pages.length : Int) + 1 - 1).toNat = S.pages.length from by omega]
    simp
  · obtain ⟨fr, hfr⟩ := List.getLast?_eq_some_iff.1 hf
    have hd : S.free.dropLast = fr := by rw [hfr]; simp
    obtain ⟨b1, b2, b3⟩ := ok.free n (by rw [hfr]; simp)
    dsimp only
    rw [hd]
    refine ⟨ok.again hfr zpage, rfl, ?_, hu, b1, by omega, ?_⟩
    · unfold ArS.used; rw [hfr]; simp; omega
    · unfold ArS.page
      rw [if_pos b1]
      show ((S.pages.set (n - 1).toNat (some zpage))[(n - 1).toNat]?).join = _
      rw [List.getElem?_set_self (List.getElem?_eq_some_iff.1 b3).1]
      rfl
theorem left_zero {S : ArS} (hu : S.used ≤ S.quota) (hl : S.left = 0) : S.used = S.quota := by
  unfold ArS.left at hl
  split at hl <;> omega
theorem drop_used (S : ArS) (n : Int) : (S.drop n).used = S.used - 1 := by unfold ArS.used ArS.drop; simp; omega
theorem put_used (S : ArS) (n : Int) (l : List UInt8) : (S.put n l).used = S.used := by unfold ArS.used ArS.put; simp
/-- Free, whatever the number. -/
theorem At.freeAny {base a : Nat} {S : ArS} {w0 w : World} (h : At base a S w0 w) (ok : S.Ok) (n : Int) (hn : (Lit.int .i64 n).wf = true) :
    Calls Try.prog 17 #[.pointer (some ⟨a, 0, none⟩), .int .i64 n] w fun e w' => ∃ r S', e = .returned (.int .i64 r) ∧ At base a S' w0 w' ∧ S'.Ok ∧ S'.quota = S.quota ∧ S'.used ≤ S.used := by
  obtain ⟨own, hA⟩ := h.ar
  rcases hp : S.page n with _ | l
  · refine (free_out hA ok n hn hp).mono ?_
    rintro e w' ⟨rfl, rfl⟩
    exact ⟨_, S, rfl, h, ok, rfl, Int.le_refl _⟩
  · refine (h.free ok n hp).mono ?_
    rintro e w' ⟨rfl, h'⟩
    exact ⟨_, _, rfl, h', ok.drop hp, rfl, by rw [drop_used]; omega⟩

theorem bytes7 (w : World) : Calls Try.prog 11 #[.int .u8 7, .int .i64 1024] w fun e w' => e = .returned (.slice (some ⟨w.heap.size, 0, none⟩) 1024 1024) ∧ Below w.heap.size w w' ∧ w'.heap[w.heap.size]? = some (.cells (bcells (full 7)) 5) := bytes_any 7 1024 (by omega) w
theorem At.store' {base a : Nat} {S : ArS} {w0 w : World} (h : At base a S w0 w) (ok : S.Ok) (n : Int) {l : List UInt8} (hp : S.page n = some l) (b c : Nat) (l' : List UInt8) (hl' : l'.length = 1024) (hb : w.heap[b]? = some (.cells (bcells l') 5)) :
    Calls Try.prog 12 #[.pointer (some ⟨a, 0, none⟩), .int .i64 n, .slice (some ⟨b, 0, none⟩) 1024 c] w fun e w' => e = .returned (.int .i64 0) ∧ At base a (S.put n l') w0 w' ∧ ∀ g l, Bytes w g l → Bytes w' g l := by
  obtain ⟨own, hA⟩ := h.ar
  refine (store_in hA ok n hp b c l' hl' _ hb).mono ?_
  rintro e w' ⟨rfl, own', h', hg⟩
  refine ⟨rfl, h.grows hA h' hg, ?_⟩
  rintro g l ⟨cs, h1, h2⟩
  refine ⟨cs, blk_grows h1 hg ?_, h2⟩
  obtain ⟨pv, fv, pbs, rfl, R⟩ := hA
  rintro (rfl | hk | hk)
  · have := R.blk; rw [h1] at this; injection this with this; injection this with _ this; exact absurd this (by decide)
  · exact owns_ne R.pown h1 (by decide) hk.symm
  · exact owns_ne R.fown h1 (by decide) hk.symm
/-- What the region's conversion wants. -/
abbrev ConvZ (g c : Nat) (w : World) : Prop := Hid (Bytes w g zpage) ∧ (convert 29 9 (.slice (some ⟨g, 0, none⟩) 1024 c)).run Try.prog w = .ok (.string ⟨zpage.toArray⟩) w
theorem convZ_mk {g c : Nat} {w : World} (h : Hid (Bytes w g zpage)) : ConvZ g c w := ⟨h, h.out.conv zpage_len c⟩
theorem Bytes.alloc {w : World} {g : Nat} {l : List UInt8} (h : Bytes w g l) (o : Obj) : Bytes (w.alloc o) g l := by
  obtain ⟨cs, h1, h2⟩ := h
  exact ⟨cs, blk_alloc h1 o, h2⟩
theorem At.alloc {base a : Nat} {S : ArS} {w0 w : World} (h : At base a S w0 w) (o : Obj) : At base a S w0 (w.alloc o) := h.news ((Below.refl _ _).alloc (Nat.le_refl _) o)

theorem wf_small (n : Int) (h0 : -100000 ≤ n) (h1 : n ≤ 100000) : (Lit.int .i64 n).wf = true := by
  simp [Lit.wf, IntKind.min, IntKind.max, IntKind.signed, IntKind.bits]; omega

set_option maxRecDepth 8000 in
set_option maxHeartbeats 2000000 in
theorem arenaQuota_any (q : Nat) (hq : q < 256) (A : Option Addr) (len cap : Nat) (f : Nat → UInt8) (w : World) (hr : ReadsB w A len f) :
    Calls Try.prog 5 #[.int .u8 (q : Int), .slice A len cap] w fun e w' => e = .returned (.bool true) ∧ Below w.heap.size w w' := by
  have hnot := @unary_not Try.prog
  have HR := Lib.hid hr; clear hr
  go_enter Try.func5, Try.ntmps5
  go_wp2_with fail
  refine (awake_any w).mono ?_
  rintro e w1 ⟨rfl, hb0⟩
  have HB0 := Lib.hid hb0; clear hb0
  go_wp2_with fail
  refine (new_any (q : Int) (by omega) (by omega) w1).mono ?_
  rintro e w2 ⟨rfl, hb, own, hA, -⟩
  have K1 : Hid (At w1.heap.size w1.heap.size ⟨[], [], (q : Int)⟩ w1 w2) := At.mk' hb (Nat.le_refl _) hA
  clear hb hA
  go_wp2_with fail
  go_loopw [7] (fun i wr => ∃ j : Nat, j ≤ 200 ∧ i = .int .i64 j ∧ ∃ S : ArS, Hid S.Ok ∧ Hid (S.quota = (q : Int)) ∧ S.used ≤ (q : Int) ∧ Hid (At w1.heap.size w1.heap.size S w1 wr)) (fun i _ => 200 - (intOf i).toNat)
  case atStart => exact ⟨0, by omega, rfl, ⟨[], [], (q : Int)⟩, okS _ _ _ (by simp) (by simp) (by simp) (by simp) (by omega), rfl, by simp [ArS.used], K1.out⟩
  case round =>
    obtain ⟨j, hj, rfl, S, HO, HQ, hu, HA⟩ := hrel
    by_cases hlt : j < len ∧ j < 200
    · obtain ⟨hl1, hl2⟩ := hlt
      have hrb := (HR.out.below HB0.out (Nat.le_refl _)).below HA.out.below (Nat.le_refl _)
      obtain ⟨b, off, rfl, hbl, hc⟩ := hrb j hl1
      have hf : (f j).toNat < 256 := (f j).toNat_lt
      by_cases hm : (f j).toNat % 3 = 0
      · go_wp2_with fail
        refine (HA.out.freeAny HO.out _ (wf_small _ (by omega) (by omega))).mono ?_
        rintro e w3 ⟨r, S', rfl, hat, hok, hq', hu'⟩
        have HAT := Lib.hid hat; have HOK := Lib.hid hok; have HQ' := Lib.hid hq'
        clear hat hok hq'
        go_wp2_with fail
        go_roundw
        case rel => exact ⟨j + 1, by omega, by go_num, S', HOK, Lib.hid (HQ'.out.trans HQ.out), by omega, HAT⟩
        case measure => simp [intOf]; omega
      · by_cases hz : S.left = 0
        · have hfull := Lib.hid (HA.out.full HO.out hz)
          have hue : Hid (S.used = (q : Int)) := ((left_zero (by rw [HQ.out]; exact hu) hz).trans HQ.out : S.used = (q : Int))
          clear hz
          go_wp2_with fail
          refine hfull.out.mono ?_
          rintro e w3 ⟨rfl, hat⟩
          have HAT := Lib.hid hat
          clear hat
          go_wp2_with fail
          refine (HAT.out.used HO.out).mono ?_
          rintro e w4 ⟨rfl, n4, rfl⟩
          have hue' := hue.out
          go_wp2_with fail
          refine ((HAT.out.drewN n4).used HO.out).mono ?_
          rintro e w5 ⟨rfl, n5, rfl⟩
          go_wp2_with fail
          go_roundw
          case rel => exact ⟨j + 1, by omega, by go_num, S, HO, HQ, by omega, Lib.hid (HAT.out.drewN _)⟩
          case measure => simp [intOf]; omega
        · obtain ⟨ok2, e1, e2, e3, e4, e5, e6⟩ := alloc_plain HO.out hz
          have hcall := Lib.hid (HA.out.alloc0 HO.out hz)
          have HQ2 : Hid (S.alloc.2.quota = (q : Int)) := e1.trans HQ.out
          have hu2 : S.alloc.2.used ≤ (q : Int) := by have := HQ.out; omega
          have hu3 := ok2.used
          have HO2 := Lib.hid ok2
          have HP2 := Lib.hid e6
          clear e1 e2 e3 e6 ok2 hz
          generalize S.alloc.2 = S2 at *
          generalize S.alloc.1 = n at *
          have hn0 : (n == 0) = false := beq_eq_false_iff_ne.2 (by omega)
          go_wp2_with fail
          refine hcall.out.mono ?_
          rintro e w3 ⟨rfl, hat⟩
          have HAT := Lib.hid hat
          clear hat
          go_wp2_with fail
          refine (HAT.out.used HO2.out).mono ?_
          rintro e w4 ⟨rfl, n4, rfl⟩
          go_wp2_with fail
          refine ((HAT.out.drewN n4).load HO2.out n HP2.out).mono ?_
          rintro e w5 ⟨g, c, rfl, hat, hby, -, -, -⟩
          have HAT5 := Lib.hid hat
          have HBY := Lib.hid hby
          clear hat hby
          have hmk := mk1024
          go_wp2_with fail
          have hX : Hid (Bytes w5.drew g zpage) := HBY.out
          have hX2 : Hid (Bytes ((w5.alloc (.cells Zp 5)).drew) g zpage) := Bytes.alloc HBY.out _
          have hZ : (convert 29 9 (.slice (some ⟨w5.heap.size, 0, none⟩) 1024 1024)).run Try.prog (w5.alloc (.cells Zp 5)).drew = .ok (.string ⟨zpage.toArray⟩) (w5.alloc (.cells Zp 5)).drew :=
            (Bytes.of (by rw [← Zp_eq]; exact heap_alloc_at _ _ _ rfl)).conv zpage_len 1024
          have hE : Hid ((w5.alloc (.cells Zp 5)).drew.heap.size = w5.heap.size + 1) := by
            show (w5.heap.push _).size = _
            simp
          have KA : Hid (At w1.heap.size w1.heap.size S2 w1 (w5.alloc (.cells Zp 5)).drew) := At.drewN (At.alloc HAT5.out _) 1
          go_region_held (fun w' => ConvZ g c w')
            (first
              | exact convZ_mk hX
              | assumption
              | exact convZ_mk hX2
              | exact convZ_mk ‹Hid (Bytes _ g zpage)›)
            (first
              | (go_at_call 11; refine (bytes7 _).mono ?_; rintro e w6 ⟨rfl, hb, hblk⟩; rw [hE.out] at hblk; have KB := Lib.hid (KA.out.news hb); have HBLK := Lib.hid hblk; have HX3 := Lib.hid (hX2.out.stays hb (Nat.le_refl _)); clear hb hblk)
              | (go_at_call 12; refine (KB.out.store' HO2.out n HP2.out (w5.heap.size + 1) 1024 (full 7) (full_len 7) HBLK.out).mono ?_; rintro e w7 ⟨rfl, hat, hbb⟩; have KC := Lib.hid hat; have HX4 := Lib.hid (hbb _ _ HX3.out); clear hat hbb))
          all_goals
            go_wp2_with fail
            exact ⟨⟨j + 1, by omega, by go_num, S2.put n (full 7), HO2.out.put HP2.out _, HQ2, by rw [put_used]; exact hu2, KC⟩, by simp [intOf]; omega⟩
    · have hls : (S.used + S.left == (q : Int)) = true := beq_iff_eq.2 (by have := HQ.out; unfold ArS.left; split <;> omega)
      have hl0 : 0 ≤ S.left ∧ S.left ≤ 4096 := by have := HQ.out; have := HO.out.used; unfold ArS.left; split <;> omega
      have hu0 := HO.out.used
      have hup : (((S.upto S.pages.length).length : Int) == S.used) = true := beq_iff_eq.2 (upto_used HO.out)
      go_wp2_with fail
      all_goals
        refine (HA.out.used HO.out).mono ?_
        rintro e w3 ⟨rfl, n3, rfl⟩
        go_wp2_with fail
        refine ((HA.out.drewN n3).left HO.out).mono ?_
        rintro e w4 ⟨rfl, n4, rfl⟩
        go_wp2_with fail
        refine ((HA.out.drewN _).pages HO.out).mono ?_
        rintro e w5 ⟨A5, c5, rfl, hat, -, -⟩
        have HAT := Lib.hid hat
        clear hat
        go_wp2_with fail
        refine (HAT.out.used HO.out).mono ?_
        rintro e w6 ⟨rfl, n6, rfl⟩
        go_wp2_with fail
        go_ret
        exact ⟨rfl, HB0.out.trans ((HAT.out.drewN n6).below.mono HB0.out.size)⟩

theorem arenaQuota_walk {H : Type} {enc : TypeId × Value → H} {sp1 : Nat → Bool} {hd1 : Bool} {d1 : DataW H} {p1 : List MemPlace} {b1 : Nat} (a0 : Int) (v1 : Value) (w : World)
    (h0 : (Lit.int .u8 a0).wf = true) (hv1 : Value.okWide Try.prog w .any b1 29 v1) (h1 : DataW.Trod enc Try.prog w 0 sp1 hd1 29 v1 d1 p1) :
    Calls Try.prog 5 #[.int .u8 a0, v1] w fun e w' => e = .returned (.bool true) ∧ Below w.heap.size w w' := by
  obtain ⟨q, rfl⟩ := byte_of h0
  obtain ⟨A, len, cap, f, rfl, hr, _⟩ := open_bytes v1 w hv1 h1
  exact arenaQuota_any q.toNat q.toNat_lt A len cap f w hr
end Go.Proofs.Ytmlgockejacjeaa
