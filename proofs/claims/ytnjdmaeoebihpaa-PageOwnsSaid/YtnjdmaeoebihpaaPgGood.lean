/-
  Encode of a right node that fits.
-/
import Derived.Test.YtnjdmaeoebihpaaPgEncode
import Derived.Deep.LoopGhost
import Derived.Laws.CopyOwn
import Derived.Deep.DeepCutAuto
namespace Go.Proofs.Ytnjdmaeoebihpaa
open Go.RowKit Go.Proofs.YtnjdmaeoebihpaaW.PrintWords Go.Proofs.YtnjdmaeoebihpaaW.PrintLast Go.Proofs.YtnjdmaeoebihpaaW.PrintMore
set_option linter.unusedVariables false
set_option linter.unusedSimpArgs false

def PageIs (leaf : Bool) (l : List ByteArray) (ks : List Int) (w : World) (e : Ending) (w' : World) : Prop :=
  ∃ bb : Nat, e = .returned (.tuple #[.slice (some ⟨bb, 0, none⟩) 1024 1024, .int .i64 0]) ∧ w.heap.size ≤ bb ∧ w'.heap[bb]? = some (.cells (bc (pageB leaf l ks)).toArray 5) ∧ Below w.heap.size w w'
theorem heap_alloc_size (w : World) (o : Obj) : (w.alloc o).heap.size = w.heap.size + 1 := by
  show (w.heap.push o).size = _
  simp
theorem Out.set0 {w : World} {N ob bb : Nat} {cs : Array Value} {at_ : Nat} (h : Out w ob bb cs at_) (hN : N ≤ bb) (v : Value) : Out (w.setCell ⟨bb, 0, none⟩ v) ob bb (cs.setIfInBounds 0 v) at_ ∧ Below N w (w.setCell ⟨bb, 0, none⟩ v) :=
  ⟨⟨blk_set_ne h.hob _ _ h.ne.symm, blk_set h.hbb _ _, by rw [Array.size_setIfInBounds]; exact h.size, h.ne⟩, (Below.refl _ _).setCell (p := ⟨bb, 0, none⟩) hN _⟩
theorem Out.copied {w : World} {N ob bb : Nat} {H : List UInt8} {z : Nat} {T : List UInt8} {at_ : Nat} {s : ByteArray} {off : Nat} (h : Out w ob bb (lay H (z + s.size) T) at_) (hN : N ≤ bb) (ho : H.length + z = off) :
    Out (w.setRow bb ((lay H (z + s.size) T).toList.take off ++ (Lib.byteCells s.data.toList ++ (lay H (z + s.size) T).toList.drop (off + s.size))).toArray) ob bb (lay H z (s.data.toList ++ T)) at_ ∧ Below N w (w.setRow bb ((lay H (z + s.size) T).toList.take off ++ (Lib.byteCells s.data.toList ++ (lay H (z + s.size) T).toList.drop (off + s.size))).toArray) := by
  subst ho
  rw [← List.append_assoc, putS_lay]
  have hs := h.size
  rw [lay_size] at hs
  refine ⟨⟨(setRow_other _ _ _ _ h.ne.symm).trans h.hob, setRow_heap _ _ _ _ _ _ h.hbb, ?_, h.ne⟩, below_setRow (Below.refl _ _) hN _⟩
  rw [lay_size, List.length_append, data_len]
  omega
def hd (leaf : Bool) : UInt8 := if leaf = true then 1 else 2

set_option maxRecDepth 100000 in
set_option maxHeartbeats 4000000 in
theorem encode_good (leaf : Bool) (A : Option Addr) (c : Nat) (l : List ByteArray) (B : Option Addr) (d : Nat) (ks : List Int) (w : World) (hr : RdN w A c l B d ks) (hb : Bd l ks) (hs : Shp leaf l ks) (hz : sizeN l ks ≤ 1024) :
    Calls Try.prog 19 #[.agg #[.bool leaf, .slice A l.length c, .slice B ks.length d]] w (PageIs leaf l ks w) := by
  have HR := Lib.hid hr
  have HS := Lib.hid hs
  have HZ := Lib.hid hz
  have hbl := hb.len
  have hbk := hb.kids
  have HBD := Lib.hid hb
  clear hr hs hz hb
  have hblk := heap_alloc_new w (NodeObj leaf A l.length c B ks.length d)
  obtain ⟨w1, hw1⟩ : ∃ w1, w1 = w.alloc (.cells #[.bool leaf, .slice A l.length c, .slice B ks.length d] 25) := ⟨_, rfl⟩
  replace hblk : w1.heap[w.heap.size]? = some (NodeObj leaf A l.length c B ks.length d) := by rw [hw1]; exact hblk
  have HB1 : Hid (Below w.heap.size w w1) := (by rw [hw1]; exact (Below.refl _ _).alloc (Nat.le_refl _) _ : Below w.heap.size w w1)
  obtain ⟨n0, n1, n2, f0, f1, f2, nl⟩ := three_of_block hblk
  have HBK := Lib.hid hblk
  clear hblk
  go_enter Try.func19, Try.ntmps19
  go_upto_region 1 with (fail)
  rw [← hw1]
  clear hw1
  go_wp2_with fail
  refine (shaped_any leaf A c l B d ks _ (HR.out.below HB1.out) (Nat.le_trans hbl (by omega)) (Nat.le_trans hbk (by omega))).mono ?_
  rintro e w2 ⟨b, rfl, hsh, hb2⟩
  have HB2 : Hid (Below w.heap.size w w2) := HB1.out.trans (hb2.mono HB1.out.size)
  have HBK2 := Lib.hid ((hb2.block _ nl).trans HBK.out)
  cases b with
  | false => exact absurd (hsh.2 HS.out) (by decide)
  | true =>
  clear hsh hb2 n0 n1 n2 f0 f1 f2 nl HBK
  obtain ⟨n0, n1, n2, f0, f1, f2, nl⟩ := three_of_block HBK2.out
  go_wp2_with fail
  refine (right_any leaf A c l B d ks _ (HR.out.below HB2.out) HBD.out).mono ?_
  rintro e w3 ⟨b, rfl, hsh, hb3⟩
  have HB3 : Hid (Below w.heap.size w w3) := HB2.out.trans (hb3.mono HB2.out.size)
  have HBK3 := Lib.hid ((hb3.block _ nl).trans HBK2.out)
  cases b with
  | false => exact absurd (hsh.2 ⟨HS.out, HZ.out⟩) (by decide)
  | true =>
  clear hsh hb3 n0 n1 n2 f0 f1 f2 nl HBK2
  go_upto_region 6 with (refine wpList_run rfl (exec_make _ _ _ _ rfl rfl rfl _) ?_)
  have hNb : Hid (w.heap.size + 1 ≤ w3.heap.size) := lt_of_block HBK3.out
  have hO : Out ((w3.alloc (.cells (lay [] pgTop []) 5)).alloc (.cells #[.slice (some ⟨w3.heap.size, 0, none⟩) 1024 1024, .int .i64 1] 62)) (w3.heap.size + 1) w3.heap.size (lay [] pgTop []) 1 :=
    ⟨heap_alloc_at _ _ _ (by rw [heap_alloc_size]), blk_alloc (heap_alloc_new _ _) _, by rw [lay_size]; rfl, Nat.ne_of_lt (Nat.lt_succ_self _)⟩
  have hB4 : Below (w.heap.size + 1) w3 ((w3.alloc (.cells (lay [] pgTop []) 5)).alloc (.cells #[.slice (some ⟨w3.heap.size, 0, none⟩) 1024 1024, .int .i64 1] 62)) :=
    ((Below.refl _ _).alloc hNb.out _).alloc (by rw [heap_alloc_size]; exact Nat.le_succ_of_le hNb.out) _
  obtain ⟨w4, hw4⟩ : ∃ w4, w4 = ((w3.alloc (.cells (lay [] pgTop []) 5)).alloc (.cells #[.slice (some ⟨w3.heap.size, 0, none⟩) 1024 1024, .int .i64 1] 62)) := ⟨_, rfl⟩
  rw [← hw4] at hO hB4 ⊢
  clear hw4
  obtain ⟨bb, hbb⟩ : ∃ bb, bb = w3.heap.size := ⟨_, rfl⟩
  have HNB : Hid (w.heap.size + 1 ≤ bb) := (by rw [hbb]; exact hNb.out : w.heap.size + 1 ≤ bb)
  rw [← hbb] at hO ⊢
  clear hbb hNb
  obtain ⟨ob, hob⟩ : ∃ ob, ob = bb + 1 := ⟨_, rfl⟩
  have HNO : Hid (w.heap.size + 1 ≤ ob) := (by rw [hob]; exact Nat.le_succ_of_le HNB.out : w.heap.size + 1 ≤ ob)
  rw [← hob] at hO ⊢
  clear hob
  have HO4 := Lib.hid hO
  have HB4 := Lib.hid hB4
  clear hO hB4
  obtain ⟨o0, o1, fo0, fo1, ol⟩ := two_of_block HO4.out.hob
  have c0 : w4.cell? ⟨bb, 0, none⟩ = some (.int .u8 0) := (cell_of_block HO4.out.hbb 0).trans rfl
  have fc0 : w4.frozen? ⟨bb, 0, none⟩ = false := free_of_block HO4.out.hbb 0
  go_upto_region 7 with (fail)
  obtain ⟨HO5, HB5⟩ := HO4.out.set0 HNB.out (.int .u8 2)
  replace HO5 := Lib.hid HO5
  replace HB5 := Lib.hid (HB4.out.trans HB5)
  obtain ⟨w5, hw5⟩ : ∃ w5, w5 = w4.setCell ⟨bb, 0, none⟩ (.int .u8 2) := ⟨_, rfl⟩
  rw [← hw5] at HO5 HB5 ⊢
  clear hw5 c0 fc0 o0 o1 fo0 fo1 ol HO4 HB4
  have HBK5 := Lib.hid (blk_below HBK3.out HB5.out (Nat.lt_succ_self _))
  obtain ⟨n0, n1, n2, f0, f1, f2, nl⟩ := three_of_block HBK5.out
  go_upto_if 27 with (fail)
  go_cut [] (fun w6 => Hid (Out w6 ob bb (lay [hd leaf] 1023 []) 1) ∧ Hid (Below (w.heap.size + 1) w3 w6))
  case first =>
    obtain ⟨o0, o1, fo0, fo1, ol⟩ := two_of_block HO5.out.hob
    cases leaf with
    | true =>
      have c0 : w5.cell? ⟨bb, 0, none⟩ = some (.int .u8 2) := (cell_of_block HO5.out.hbb 0).trans rfl
      have fc0 : w5.frozen? ⟨bb, 0, none⟩ = false := free_of_block HO5.out.hbb 0
      go_wp2_with fail
      go_meet
      obtain ⟨HO6, HB6⟩ := HO5.out.set0 HNB.out (.int .u8 1)
      exact ⟨HO6, HB5.out.trans HB6⟩
    | false =>
      go_wp2_with fail
      go_meet
      exact ⟨HO5, HB5⟩
  case rest =>
    obtain ⟨HO6, HB6⟩ := hcut
    clear n0 n1 n2 f0 f1 f2 nl HO5 HB5 HBK5
    have HBK6 := Lib.hid (blk_below HBK3.out HB6.out (Nat.lt_succ_self _))
    obtain ⟨n0, n1, n2, f0, f1, f2, nl⟩ := three_of_block HBK6.out
    go_wp2_with fail
    refine (two_lay (H := [hd leaf]) (z := 1021) (T := []) HO6.out HNB.out HNO.out l.length (by omega)).mono ?_
    rintro e w7 ⟨rfl, ho7, hb7⟩
    have HO7 := Lib.hid ho7
    have HB7 : Hid (Below (w.heap.size + 1) w3 w7) := HB6.out.trans hb7
    clear ho7 hb7 n0 n1 n2 f0 f1 f2 nl HBK6 HO6 HB6
    have HBK7 := Lib.hid (blk_below HBK3.out HB7.out (Nat.lt_succ_self _))
    obtain ⟨n0, n1, n2, f0, f1, f2, nl⟩ := three_of_block HBK7.out
    go_wp2_with fail
    go_loopg [41] ks.length (fun g i wr => ∃ j : Nat, j ≤ ks.length ∧ g = ks.length - j ∧ i = .int .i64 j ∧ Hid (Out wr ob bb (lay (headB leaf l ++ kidsTo ks j) (1021 - 4 * j) []) (headB leaf l ++ kidsTo ks j).length) ∧ Hid (Below (w.heap.size + 1) w3 wr))
    case atStart => exact ⟨0, by omega, by omega, rfl, HO7, HB7⟩
    case round =>
      clear HO7 HB7 n0 n1 n2 f0 f1 f2 nl HBK7
      obtain ⟨j, hj, hg, rfl, HO, HB⟩ := hrel
      have HBK := Lib.hid (blk_below HBK3.out HB.out (Nat.lt_succ_self _))
      have HRW := Lib.hid (HR.out.below (HB3.out.trans (HB.out.mono (Nat.le_succ _))))
      by_cases hlt : j < ks.length
      · obtain ⟨ad, rfl, hcell⟩ := Kd.at_int HRW.out.kids (j : Int) (by omega) (by omega)
        simp only [Int.toNat_natCast] at hcell
        have hlt2 : (j : Int) < (ks.length : Int) := by omega
        have HK : Hid (rd ks (j : Int) = ((kid ks j : Nat) : Int) ∧ kid ks j ≤ 4096) := (by
          have h1 : rd ks (j : Int) = ks[j] := by simp [rd, hlt]
          have h2 : kid ks j = (ks[j]).toNat := by simp [kid, hlt]
          have h3 := HS.out.kids ks[j] (List.getElem_mem hlt)
          rw [h1, h2]
          omega : rd ks (j : Int) = ((kid ks j : Nat) : Int) ∧ kid ks j ≤ 4096)
        rw [HK.out.1] at hcell
        have HFIT : Hid (4 * ks.length ≤ 1021) := (by have := HZ.out; unfold sizeN at this; omega : 4 * ks.length ≤ 1021)
        have hz4 : 1021 - 4 * j = (1021 - 4 * (j + 1)) + 4 := by have := HFIT.out; omega
        have HO' := HO.out
        rw [hz4] at HO'
        replace HO' := Lib.hid HO'
        clear hz4
        obtain ⟨kv, hkv⟩ : ∃ kv, kid ks j = kv := ⟨_, rfl⟩
        rw [hkv] at hcell
        have HKV := Lib.hid hkv
        clear hkv
        go_wp2_with fail
        refine (four_lay HO'.out HNB.out HNO.out kv (by have := HK.out.2; rw [HKV.out] at this; omega)).mono ?_
        rintro e w8 ⟨rfl, ho8, hb8⟩
        rw [List.append_assoc, ← HKV.out] at ho8
        have HO8 := Lib.hid ho8
        have HB8 : Hid (Below (w.heap.size + 1) w3 w8) := HB.out.trans hb8
        clear ho8 hb8
        go_wp2_with fail
        go_roundg (ks.length - (j + 1))
        case measure => omega
        case rel => exact ⟨j + 1, by omega, rfl, by go_num, HO8, HB8⟩
      · have hlt2 : ¬ (j : Int) < (ks.length : Int) := by omega
        obtain ⟨n0, n1, n2, f0, f1, f2, nl⟩ := three_of_block HBK.out
        have hjk : j = ks.length := by omega
        have HJK := Lib.hid hjk
        clear hjk
        have HO0 : Hid (Out wr ob bb (lay ((headB leaf l ++ kidsTo ks ks.length) ++ slotsTo l 0) (1021 - 4 * ks.length - 4 * 0 - (tailTo l 0).length) (tailTo l 0)) ((headB leaf l ++ kidsTo ks ks.length) ++ slotsTo l 0).length) := (by
          have := HO.out
          rw [HJK.out] at this
          rw [show slotsTo l 0 = [] from rfl, List.append_nil, show tailTo l 0 = [] from rfl]
          exact this : Out wr ob bb (lay ((headB leaf l ++ kidsTo ks ks.length) ++ slotsTo l 0) (1021 - 4 * ks.length - 4 * 0 - (tailTo l 0).length) (tailTo l 0)) ((headB leaf l ++ kidsTo ks ks.length) ++ slotsTo l 0).length)
        go_wp2_with fail
        go_loopg [7, 52] l.length (fun g en i wr => ∃ j : Nat, j ≤ l.length ∧ g = l.length - j ∧ i = .int .i64 j ∧ en = .int .i64 ((1024 - (tailTo l j).length : Nat) : Int) ∧ Hid (Out wr ob bb (lay ((headB leaf l ++ kidsTo ks ks.length) ++ slotsTo l j) (1021 - 4 * ks.length - 4 * j - (tailTo l j).length) (tailTo l j)) ((headB leaf l ++ kidsTo ks ks.length) ++ slotsTo l j).length) ∧ Hid (Below (w.heap.size + 1) w3 wr))
        case atStart => exact ⟨0, by omega, by omega, rfl, rfl, HO0, HB⟩
        case round =>
          clear HO HO0 HB n0 n1 n2 f0 f1 f2 nl HBK HRW hlt2 hlt HJK hj hg
          obtain ⟨j, hj, hg, rfl, rfl, HO, HB⟩ := hrel
          have HRW := Lib.hid (HR.out.below (HB3.out.trans (HB.out.mono (Nat.le_succ _))))
          obtain ⟨o0, o1, fo0, fo1, ol⟩ := two_of_block HO.out.hob
          by_cases hlt : j < l.length
          · obtain ⟨ad, rfl, hcell⟩ := Kd.at_string HRW.out.recs (j : Int) (by omega) (by omega)
            simp only [Int.toNat_natCast, rdOf_rec] at hcell
            have hlt2 : (j : Int) < (l.length : Int) := by omega
            have htw := tailTo_weigh l j hj
            have htw2 : (tailTo l (j + 1)).length = (rec l j).size + (tailTo l j).length := by rw [tailTo, List.length_append, data_len]
            rw [drop_rec l j hlt] at htw
            simp only [weighN] at htw
            have hzz := HZ.out
            unfold sizeN at hzz
            have hlo := (HS.out.recs j hlt).lo
            have hhi := (HS.out.recs j hlt).hi
            obtain ⟨H, hH⟩ : ∃ H, H = (headB leaf l ++ kidsTo ks ks.length) ++ slotsTo l j := ⟨_, rfl⟩
            have hHl : H.length = 3 + 4 * ks.length + 4 * j := by
              rw [hH, List.length_append, List.length_append, kidsTo_len, slotsTo_len]
              rfl
            obtain ⟨zz, hzv⟩ : ∃ zz, zz = 1021 - 4 * ks.length - 4 * (j + 1) - (tailTo l (j + 1)).length := ⟨_, rfl⟩
            obtain ⟨e2, he2⟩ : ∃ e2, e2 = 1024 - (tailTo l (j + 1)).length := ⟨_, rfl⟩
            have hz1 : 1021 - 4 * ks.length - 4 * j - (tailTo l j).length = (zz + 4) + (rec l j).size := by omega
            have HE : Hid (H.length + (zz + 4) = e2) := (by omega : H.length + (zz + 4) = e2)
            have hO := HO.out
            rw [← hH, hz1] at hO
            obtain ⟨en, hen⟩ : ∃ en, en = 1024 - (tailTo l j).length := ⟨_, rfl⟩
            have he3 : (en : Int) - ((rec l j).size : Int) = (e2 : Int) := by omega
            have he4 : e2 < 1024 := by omega
            have he5 : (rec l j).size ≤ 1024 - e2 := by omega
            have he6 : en ≤ 1024 := by omega
            rw [← hen]
            have HT1 : Hid (tailTo l (j + 1) = (rec l j).data.toList ++ tailTo l j) := rfl
            have HSL : Hid ((headB leaf l ++ kidsTo ks ks.length) ++ slotsTo l (j + 1) = H ++ by2 e2 ++ by2 (rec l j).size) := (by
              rw [hH, he2]
              simp only [slotsTo, List.append_assoc] : (headB leaf l ++ kidsTo ks ks.length) ++ slotsTo l (j + 1) = H ++ by2 e2 ++ by2 (rec l j).size)
            have HZV := Lib.hid hzv
            have HE2 : Hid (Value.int .i64 (e2 : Int) = .int .i64 ((1024 - (tailTo l (j + 1)).length : Nat) : Int)) := (by rw [he2] : Value.int .i64 (e2 : Int) = .int .i64 ((1024 - (tailTo l (j + 1)).length : Nat) : Int))
            have HO' := Lib.hid hO
            obtain ⟨x, hx⟩ : ∃ x, rec l j = x := ⟨_, rfl⟩
            rw [hx] at hcell he3 he5 hlo hhi HO' HT1 HSL
            obtain ⟨H9, B9⟩ := HO'.out.copied HNB.out HE.out
            replace H9 := Lib.hid H9
            replace B9 := Lib.hid (HB.out.trans B9)
            clear hen hH hzz htw htw2 hz1 hzv he2 hx hHl HO hO
            have hne : ¬ (1024 = e2) := by omega
            go_wp2_with (refine wpList_run rfl (exec_copyS _ _ _ _ rfl bb e2 (1024 - e2) (1024 - e2) rfl x rfl _ _ HO'.out.hbb he5 (by rw [HO'.out.size]; omega)) ?_)
            refine (two_lay (z := zz + 2) H9.out HNB.out HNO.out e2 (by omega)).mono ?_
            rintro e w8 ⟨rfl, ho8, hb8⟩
            have HO8 := Lib.hid ho8
            have HB8 := Lib.hid (B9.out.trans hb8)
            clear ho8 hb8 H9 B9 o0 o1 fo0 fo1 ol
            go_wp2_with fail
            refine (two_lay (z := zz) HO8.out HNB.out HNO.out x.size (by omega)).mono ?_
            rintro e w9 ⟨rfl, ho9, hb9⟩
            rw [← HSL.out, ← HT1.out, HZV.out] at ho9
            have HO9 := Lib.hid ho9
            have HB9 := Lib.hid (HB8.out.trans hb9)
            clear ho9 hb9 HO8 HB8
            go_wp2_with fail
            go_roundg (l.length - (j + 1))
            case measure => omega
            case rel => exact ⟨j + 1, by omega, rfl, by go_num, HE2.out, HO9, HB9⟩
          · have hlt2 : ¬ (j : Int) < (l.length : Int) := by omega
            have HJ : Hid (j = l.length) := (by omega : j = l.length)
            go_wp2_with fail
            go_ret2
            refine ⟨bb, rfl, Nat.le_of_succ_le HNB.out, ?_, HB3.out.trans (HB.out.mono (Nat.le_succ _))⟩
            have h := HO.out.hbb
            have htw := tailTo_weigh l l.length (Nat.le_refl _)
            rw [List.drop_length] at htw
            simp only [weighN] at htw
            have hzz := HZ.out
            unfold sizeN at hzz
            have e : 1021 - 4 * ks.length - 4 * l.length - (tailTo l l.length).length = 1024 - sizeN l ks := by unfold sizeN; omega
            rw [HJ.out, e] at h
            exact h
end Go.Proofs.Ytnjdmaeoebihpaa
