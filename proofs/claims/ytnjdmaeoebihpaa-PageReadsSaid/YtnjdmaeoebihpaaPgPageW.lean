/-
  The document's page, walked.
-/
import Derived.Test.YtnjdmaeoebihpaaPgPage
namespace Go.Proofs.Ytnjdmaeoebihpaa
open Go.RowKit Go.Proofs.YtnjdmaeoebihpaaW.PrintWords Go.Proofs.YtnjdmaeoebihpaaW.PrintLast Go.Proofs.YtnjdmaeoebihpaaW.PrintMore
set_option linter.unusedVariables false
set_option linter.unusedSimpArgs false

/-- A text's bytes laid, then the tail behind them. -/
theorem step_tail {w : World} {base g cap tg c2 n m : Nat} {xs ys : List UInt8} {ops : Array Oper} {rest : List Oper} {o : Oper} {x : Act} {Q : Exit → Act → World → Prop} (hgd : o.guard = none) (s t : Operand)
    (ho : o.op = .call { callee := .builtin .append, args := #[s, t], argTypes := #[39, 39] }) (hs : x.eval s = .slice (some ⟨g, 0, none⟩) n cap) (ht : x.eval t = .slice (some ⟨tg, 0, none⟩) m c2) (hn : xs.length = n) (hm : ys.length = m)
    (h : Fresh w g cap xs) (hb : base ≤ g) (hy : Row8 w base tg ys) (hle : n + m ≤ 1000000) (hbw : base ≤ w.heap.size)
    (hK : ∀ g' c' w2, Row8 w2 base g' (xs ++ ys) → w.grownBy w2 (some g) → (g' = g ∨ g' = w.heap.size) → wpList Try.prog ops Q rest (x.put o.dst (.slice (some ⟨g', 0, none⟩) (n + m) c')) w2) :
    wpList Try.prog ops Q (o :: rest) x w := by
  subst hn hm
  refine wpList_plain hgd fun K hK' => ?_
  obtain ⟨g', c', w2, hr, h1, h2, h3⟩ := run_tail (c2 := c2) h hb hy hle hbw o.type
  unfold Oper.wp execOp
  simp only [ho, resolve, invoke, builtin, Sem.run_bind, Sem.run_pure, Result.andThen_ok, List.map_toArray, List.map_cons, List.map_nil, hs, ht, hr]
  exact hK' _ _ (hK g' c' w2 h1 h2 h3)
theorem conv_fresh (w : World) (s : ByteArray) (hs : s.size ≤ 1000000) : ∃ cap w2, (convert 9 39 (.string s)).run Try.prog w = .ok (.slice (some ⟨w.heap.size, 0, none⟩) s.size cap) w2 ∧ Fresh w2 w.heap.size cap s.data.toList ∧ Below w.heap.size w w2 ∧ w2.heap.size = w.heap.size + 1 := by
  have hm : (maxLen : Nat) = 9223372036854775807 := rfl
  have hge := grownCap_ge w s.size 0 5
  refine ⟨_, _, Lib.run_convert_string_bytes w 9 39 5 s Try.underlying9 und_B Try.underlying5, ⟨⟨_, _, Lib.bytesWorld_at_new w _ s, Nat.le_refl _, ?_, ?_⟩, ?_, grownCap_le_maxLen w s.size 0 _ (by omega)⟩, ?_, Lib.bytesWorld_size w _ s⟩
  · simp only [Lib.bytesCells, Array.size_append, Array.size_map, Array.size_replicate]
    have : s.data.size = s.size := rfl
    omega
  · have e : (s.data.map fun b => Value.int .u8 b.toNat).toList = bc s.data.toList := by simp [bc]
    simp only [Lib.bytesCells, Array.toList_append, e]
    have e2 : s.data.toList.length = (bc s.data.toList).length := by simp [bc]
    rw [e2]
    exact List.take_left
  · rw [data_len]
    exact hge
  · exact ⟨rfl, rfl, rfl, by rw [Lib.bytesWorld_size]; omega, fun k hk => Lib.bytesWorld_at_old w _ s k hk⟩
theorem own_one (w : World) (b : UInt8) (base : Nat) {g : Nat} (h : w.heap[g]? = some (.cells #[.int .u8 (b.toNat : Int)] 5)) (hb : base ≤ g) : OwnB w base (some ⟨g, 0, none⟩) 1 [b] :=
  ⟨rfl, .inr ⟨g, 1, _, rfl, hb, h, Nat.le_refl _, by decide, rfl, rfl⟩⟩
def PageRet (leaf : Bool) (l : List ByteArray) (ks : List Int) (w : World) (e : Ending) (w' : World) : Prop :=
  ∃ g c', e = .returned (.slice (some ⟨g, 0, none⟩) 1024 c') ∧ Row8 w' w.heap.size g (pageB leaf l ks) ∧ Below w.heap.size w w'
/-- What is laid ahead of the tail. -/
def frontB (leaf : Bool) (l : List ByteArray) (ks : List Int) : List UInt8 := headB leaf l ++ kidsTo ks ks.length ++ slotsTo l l.length
theorem front_len (leaf : Bool) (l : List ByteArray) (ks : List Int) : (frontB leaf l ks).length = 3 + 4 * ks.length + 4 * l.length := by
  simp only [frontB, List.length_append, headB, List.length_cons, by2_len, kidsTo_len, slotsTo_len]
theorem front_fit {leaf : Bool} {l : List ByteArray} {ks : List Int} (h : sizeN l ks ≤ 1024) : (frontB leaf l ks).length + (tailTo l l.length).length + (1024 - sizeN l ks) = 1024 := by
  have h1 := tailTo_weigh l l.length (Nat.le_refl _)
  simp only [List.drop_length, weighN] at h1
  rw [front_len]
  unfold sizeN at h ⊢
  omega
theorem rep_succ (j : Nat) (X : List UInt8) : (X ++ List.replicate j 0) ++ [0] = X ++ List.replicate (j + 1) 0 := by
  rw [List.append_assoc, List.replicate_succ']
theorem cell_low {w w' : World} {a : Addr} {v : Value} (h : w.cell? a = some v) (hb : Below w.heap.size w w') : w'.cell? a = some v := (hb.cell (World.block_lt_of_cell? w a h)).trans h
theorem Pg.tl0 {w1 wr w2 : World} {base n c : Nat} {A : Option Addr} {out : List UInt8} (h : Pg w1 wr base A n c out) (hb : base ≤ w1.heap.size) (h2 : w2.heap[wr.heap.size]? = some (.cells #[] 5)) : Tl w2 base A n c wr.heap.size [] := by
  refine ⟨⟨h.size hb, _, _, h2, rfl⟩, fun e => ?_⟩
  have := (h.own.lt wr.heap.size (by rw [h.len]; exact e.symm)).2
  omega
theorem Pg.tl9 {w1 w7 w9 : World} {base n c g9 : Nat} {A : Option Addr} {out tl : List UInt8} (h : Pg w1 w7 base A n c out) (hg : w7.heap.size ≤ g9) (hr : Row8 w9 base g9 tl) : Tl w9 base A n c g9 tl := by
  refine ⟨hr, fun e => ?_⟩
  have := (h.own.lt g9 (by rw [h.len]; exact e.symm)).2
  omega
theorem Row8.down {w : World} {base base' g : Nat} {bs : List UInt8} (h : Row8 w base g bs) (hb : base' ≤ base) : Row8 w base' g bs := ⟨Nat.le_trans hb h.1, h.2⟩
theorem row_zero (w : World) {base : Nat} (hb : base ≤ w.heap.size) : Row8 (w.alloc (.cells #[.int .u8 0] 5)) base w.heap.size [0] := Row8.whole (bs := [0]) (heap_alloc_new w (.cells #[.int .u8 0] 5)) hb
theorem row_three {w : World} {g : Nat} {cs : Array Value} {t : TypeId} {a b c : Value} (h : w.heap[g]? = some (.cells #[a, b, c] t)) : g < w.heap.size := lt_of_block h

set_option maxRecDepth 100000 in
set_option maxHeartbeats 8000000 in
theorem page_any (leaf : Bool) (A : Option Addr) (c : Nat) (l : List ByteArray) (B : Option Addr) (d : Nat) (ks : List Int) (w : World) (hr : RdN w A c l B d ks) (hs : Shp leaf l ks) (hz : sizeN l ks ≤ 1024) :
    Calls Try.prog 22 #[.agg #[.bool leaf, .slice A l.length c, .slice B ks.length d]] w (PageRet leaf l ks w) := by
  have HR := Lib.hid hr
  have HS := Lib.hid hs
  have HZ := Lib.hid hz
  have hll : l.length ≤ 1024 ∧ ks.length ≤ 1024 := by
    have h1 := tailTo_weigh l l.length (Nat.le_refl _)
    simp only [List.drop_length, weighN] at h1
    unfold sizeN at hz
    omega
  have HLL := Lib.hid hll
  have hbl := hll.1
  have hbk := hll.2
  clear hr hs hz hll
  have hblk := heap_alloc_new w (RNodeObj leaf A l.length c B ks.length d)
  obtain ⟨w1, hw1⟩ : ∃ w1, w1 = w.alloc (.cells #[.bool leaf, .slice A l.length c, .slice B ks.length d] 29) := ⟨_, rfl⟩
  replace hblk : w1.heap[w.heap.size]? = some (RNodeObj leaf A l.length c B ks.length d) := by rw [hw1]; exact hblk
  have HB1 : Hid (Below w.heap.size w w1) := (by rw [hw1]; exact (Below.refl _ _).alloc (Nat.le_refl _) _ : Below w.heap.size w w1)
  have HS1 : Hid (w1.heap.size = w.heap.size + 1) := (by rw [hw1]; exact heap_alloc_size _ _ : w1.heap.size = w.heap.size + 1)
  have HBK1 := Lib.hid hblk
  clear hblk
  go_enter Try.func22, Try.ntmps22
  go_upto_region 1 with (fail)
  rw [← hw1]
  clear hw1
  go_upto_region 2 with (fail)
  have h2 := heap_alloc_new w1 (.cells #[.int .u8 2] 5)
  have hb2 : Below w1.heap.size w1 (w1.alloc (.cells #[.int .u8 2] 5)) := (Below.refl _ _).alloc (Nat.le_refl _) _
  obtain ⟨w2, hw2⟩ : ∃ w2, w2 = w1.alloc (.cells #[.int .u8 2] 5) := ⟨_, rfl⟩
  rw [← hw2] at h2 hb2 ⊢
  clear hw2
  obtain ⟨g, hg⟩ : ∃ g, g = w1.heap.size := ⟨_, rfl⟩
  rw [← hg] at h2 ⊢
  have HG : Hid (g = w1.heap.size) := hg
  have HX2 := Lib.hid h2
  have HB2 := Lib.hid hb2
  clear h2 hb2 hg
  have HBK2 := Lib.hid ((HB2.out.block _ (lt_of_block HBK1.out)).trans HBK1.out)
  obtain ⟨n0, n1, n2, f0, f1, f2, nl⟩ := three_of_block HBK2.out
  have c0 : w2.cell? ⟨g, 0, none⟩ = some (.int .u8 2) := (cell_of_block HX2.out 0).trans rfl
  have fc0 : w2.frozen? ⟨g, 0, none⟩ = false := free_of_block HX2.out 0
  go_upto_if 10 with (fail)
  go_cut [] (fun wc => Hid (wc.heap[g]? = some (.cells #[.int .u8 ((hd leaf).toNat : Int)] 5)) ∧ Hid (Below w1.heap.size w1 wc))
  case first =>
    cases leaf with
    | true =>
      go_wp2_with fail
      go_meet
      exact ⟨blk_set HX2.out 0 _, HB2.out.setCell (p := ⟨g, 0, none⟩) (by rw [HG.out]; exact Nat.le_refl _) _⟩
    | false =>
      go_wp2_with fail
      go_meet
      exact ⟨HX2, HB2⟩
  case rest =>
    obtain ⟨HX3, HB3⟩ := hcut
    clear c0 fc0 n0 n1 n2 f0 f1 f2 nl HX2 HB2 HBK2
    have HP3 : Hid (Pg w1 wc w1.heap.size (some ⟨g, 0, none⟩) 1 1 [hd leaf]) := ⟨own_one _ _ _ HX3.out (by rw [HG.out]; exact Nat.le_refl _), HB3.out, rfl⟩
    clear HX3 HB3
    have HBK3 := Lib.hid ((HP3.out.low.block _ (lt_of_block HBK1.out)).trans HBK1.out)
    obtain ⟨n0, n1, n2, f0, f1, f2, nl⟩ := three_of_block HBK3.out
    go_wp2_with fail
    refine (number_two l.length (by omega) _).mono ?_
    rintro e w4 ⟨rfl, hr4, hb4⟩
    have HP4 := Lib.hid (HP3.out.next (Nat.le_refl _) hb4)
    have HR4 := Lib.hid hr4
    clear hr4 hb4 HP3 HBK3 n0 n1 n2 f0 f1 f2 nl
    go_wp2_with (at_builtin; refine step_app rfl _ _ rfl HP4.out.own rfl rfl rfl (by2_len l.length) (HR4.out.src 2) (by omega) (HP4.out.size (Nat.le_refl _)) ?_; intro A5 c5 w5 ho hg5 hor; have HP5 := Lib.hid (HP4.out.app (m := 2) (Nat.le_refl _) ho (by2_len _) hg5); clear ho hg5 hor)
    clear HP4 HR4
    have HP6 : Hid (Pg w1 w5 w1.heap.size A5 3 c5 (headB leaf l ++ kidsTo ks 0)) := (by
      rw [show kidsTo ks 0 = [] from rfl, List.append_nil]
      exact HP5.out : Pg w1 w5 w1.heap.size A5 3 c5 (headB leaf l ++ kidsTo ks 0))
    clear HP5
    go_loopg [3, 4] ks.length (fun q v i wr => ∃ j n A c, j ≤ ks.length ∧ q = ks.length - j ∧ v = .slice A n c ∧ n ≤ 10000 ∧ i = .int .i64 j ∧ Hid (Pg w1 wr w1.heap.size A n c (headB leaf l ++ kidsTo ks j)))
    case atStart => exact ⟨0, 3, A5, c5, by omega, by omega, rfl, by omega, rfl, HP6⟩
    case round =>
      clear HP6
      obtain ⟨j, n, A6, c6, hj, hq, rfl, hn, rfl, HP⟩ := hrel
      have HBK := Lib.hid ((HP.out.low.block _ (lt_of_block HBK1.out)).trans HBK1.out)
      have HRW := Lib.hid (HR.out.below (HB1.out.trans (HP.out.low.mono (by rw [HS1.out]; omega))))
      obtain ⟨n0, n1, n2, f0, f1, f2, nl⟩ := three_of_block HBK.out
      by_cases hlt : j < ks.length
      · obtain ⟨ad, rfl, hcell⟩ := Kd.at_int HRW.out.kids (j : Int) (by omega) (by omega)
        simp only [Int.toNat_natCast] at hcell
        have hlt2 : (j : Int) < (ks.length : Int) := by omega
        have HK : Hid (rd ks (j : Int) = ((kid ks j : Nat) : Int) ∧ kid ks j ≤ 4096) := (by
          have h1 : rd ks (j : Int) = ks[j] := by simp [rd, hlt]
          have h2 : kid ks j = (ks[j]).toNat := by simp [kid, hlt]
          have h3 := HS.out.kids ks[j] (List.getElem_mem hlt)
          rw [h1, h2]
          omega : rd ks (j : Int) = ((kid ks j : Nat) : Int) ∧ kid ks j ≤ 4096)
        rw [HK.out.1] at hcell
        obtain ⟨kv, hkv⟩ : ∃ kv, kid ks j = kv := ⟨_, rfl⟩
        rw [hkv] at hcell
        have HKV := Lib.hid hkv
        clear hkv
        go_wp2_with fail
        refine (number_four kv (by have := HK.out.2; rw [HKV.out] at this; omega) _).mono ?_
        rintro e w8 ⟨rfl, hr8, hb8⟩
        have HP8 := Lib.hid (HP.out.next (Nat.le_refl _) hb8)
        have HR8 := Lib.hid hr8
        clear hr8 hb8 HP HBK HRW hcell n0 n1 n2 f0 f1 f2 nl
        go_wp2_with (at_builtin; refine step_app rfl _ _ rfl HP8.out.own rfl HP8.out.len rfl rfl (HR8.out.src 4) (by omega) (HP8.out.size (Nat.le_refl _)) ?_; intro A9 c9 w9 ho hg9 hor; have HP9 := Lib.hid (HP8.out.app (m := 4) (Nat.le_refl _) ho rfl hg9); clear ho hg9 hor)
        clear HP8 HR8
        have HP10 : Hid (Pg w1 w9 w1.heap.size A9 (n + 4) c9 (headB leaf l ++ kidsTo ks (j + 1))) := (by
          have h := HP9.out
          rw [List.append_assoc, ← HKV.out] at h
          exact h : Pg w1 w9 w1.heap.size A9 (n + 4) c9 (headB leaf l ++ kidsTo ks (j + 1)))
        clear HP9
        have hn10 : n + 4 ≤ 10000 := by
          have h := HP10.out.len
          rw [List.length_append, kidsTo_len, headB, List.length_cons, by2_len] at h
          omega
        go_roundg (ks.length - (j + 1))
        case measure => omega
        case rel => exact ⟨j + 1, n + 4, A9, c9, by omega, rfl, rfl, hn10, by go_num, HP10⟩
      · have hlt2 : ¬ (j : Int) < (ks.length : Int) := by omega
        have HJK : Hid (j = ks.length) := (by omega : j = ks.length)
        go_wp2_with fail
        have hb10 : Below wr.heap.size wr (wr.alloc (.cells #[] 5)) := (Below.refl _ _).alloc (Nat.le_refl _) _
        have HT10 := Lib.hid (HP.out.tl0 (Nat.le_refl _) (heap_alloc_new wr (.cells #[] 5)))
        have HP10 : Hid (Pg w1 (wr.alloc (.cells #[] 5)) w1.heap.size A6 n c6 (headB leaf l ++ kidsTo ks ks.length ++ slotsTo l 0)) := (by
          have h := HP.out.next (Nat.le_refl _) hb10
          rw [HJK.out] at h
          rw [show slotsTo l 0 = [] from rfl, List.append_nil]
          exact h : Pg w1 (wr.alloc (.cells #[] 5)) w1.heap.size A6 n c6 (headB leaf l ++ kidsTo ks ks.length ++ slotsTo l 0))
        obtain ⟨tg0, htg0⟩ : ∃ tg, tg = wr.heap.size := ⟨_, rfl⟩
        rw [← htg0] at HT10 ⊢
        obtain ⟨w10, hw10⟩ : ∃ w10, w10 = wr.alloc (.cells #[] 5) := ⟨_, rfl⟩
        rw [← hw10] at HT10 HP10 ⊢
        clear hw10 htg0 hb10 HP HBK HRW n0 n1 n2 f0 f1 f2 nl hlt hlt2 HJK hj hq
        go_loopg [3, 5, 6, 7] l.length (fun q v en tv i wr => ∃ j n A c tg c2 m e, j ≤ l.length ∧ q = l.length - j ∧ v = .slice A n c ∧ n ≤ 10000 ∧ en = .int .i64 ((e : Nat) : Int) ∧ tv = .slice (some ⟨tg, 0, none⟩) m c2 ∧ m ≤ 1024 ∧ e + m = 1024 ∧ i = .int .i64 j ∧ Hid ((tailTo l j).length = m) ∧ Hid (Pg w1 wr w1.heap.size A n c (headB leaf l ++ kidsTo ks ks.length ++ slotsTo l j)) ∧ Hid (Tl wr w1.heap.size A n c tg (tailTo l j)))
        case atStart => exact ⟨0, n, A6, c6, tg0, 0, 0, 1024, by omega, by omega, rfl, hn, rfl, rfl, by omega, by omega, rfl, rfl, HP10, HT10⟩
        case round =>
          clear HT10 HP10 hn
          obtain ⟨j, n, A6, c6, tg, c2, m, e, hj, hq, rfl, hn, rfl, rfl, hm, hem, rfl, HM, HP, HT⟩ := hrel
          have HLW := Lib.hid (HB1.out.trans (HP.out.low.mono (by rw [HS1.out]; omega)))
          have HBK := Lib.hid ((HP.out.low.block _ (lt_of_block HBK1.out)).trans HBK1.out)
          obtain ⟨n0, n1, n2, f0, f1, f2, nl⟩ := three_of_block HBK.out
          by_cases hlt : j < l.length
          · obtain ⟨ad, rfl, hcell0⟩ := Kd.at_string HR.out.recs (j : Int) (by omega) (by omega)
            simp only [Int.toNat_natCast, rdOf_rec] at hcell0
            have hlt2 : (j : Int) < (l.length : Int) := by omega
            have htw := tailTo_weigh l (j + 1) (by omega)
            have htw2 : (tailTo l (j + 1)).length = (rec l j).size + m := by rw [tailTo, List.length_append, data_len, HM.out]
            have hzz := HZ.out
            unfold sizeN at hzz
            have HT1 : Hid (tailTo l (j + 1) = (rec l j).data.toList ++ tailTo l j) := rfl
            obtain ⟨e2, he2⟩ : ∃ e2, e2 = 1024 - (tailTo l (j + 1)).length := ⟨_, rfl⟩
            have HSL : Hid (headB leaf l ++ kidsTo ks ks.length ++ slotsTo l (j + 1) = headB leaf l ++ kidsTo ks ks.length ++ slotsTo l j ++ by2 e2 ++ by2 (rec l j).size) := (by
              rw [he2]
              simp only [slotsTo, List.append_assoc] : headB leaf l ++ kidsTo ks ks.length ++ slotsTo l (j + 1) = headB leaf l ++ kidsTo ks ks.length ++ slotsTo l j ++ by2 e2 ++ by2 (rec l j).size)
            have he3 : (e : Int) - ((rec l j).size : Int) = (e2 : Int) := by omega
            have he4 : e2 ≤ 1024 := by omega
            have he5 : e ≤ 1024 := by omega
            have hxs : (rec l j).size ≤ 1024 := by omega
            have hm2 : (rec l j).size + m ≤ 1024 := by omega
            have he6 : e2 + ((rec l j).size + m) = 1024 := by omega
            have HM2 := Lib.hid htw2
            obtain ⟨x, hx⟩ : ∃ x, rec l j = x := ⟨_, rfl⟩
            rw [hx] at hcell0 HT1 HSL he3 hxs hm2 HM2 he6
            have HC0 := Lib.hid hcell0
            have hcell := cell_low hcell0 HLW.out
            clear htw htw2 hzz he2 hx hcell0
            go_wp2_with fail
            refine (number_two e2 (by omega) _).mono ?_
            rintro e' w4 ⟨rfl, hr4, hb4⟩
            have HP4 := Lib.hid (HP.out.next (Nat.le_refl _) hb4)
            have HT4 := Lib.hid (HT.out.next hb4)
            have HR4 := Lib.hid hr4
            clear hr4 hb4 HP HT HBK HLW hcell n0 n1 n2 f0 f1 f2 nl
            go_upto_region 16 with (at_builtin; refine step_app rfl _ _ rfl HP4.out.own rfl HP4.out.len rfl (by2_len e2) (HR4.out.src 2) (by omega) (HP4.out.size (Nat.le_refl _)) ?_; intro A5 c5 w5 ho hg5 hor; have HP5 := Lib.hid (HP4.out.app (m := 2) (Nat.le_refl _) ho (by2_len _) hg5); have HT5 := Lib.hid (HT4.out.app hg5 hor); clear ho hg5 hor)
            clear HP4 HR4 HT4
            have HLW := Lib.hid (HB1.out.trans (HP5.out.low.mono (by rw [HS1.out]; omega)))
            have HBK := Lib.hid ((HP5.out.low.block _ (lt_of_block HBK1.out)).trans HBK1.out)
            obtain ⟨n0, n1, n2, f0, f1, f2, nl⟩ := three_of_block HBK.out
            have hcell := cell_low HC0.out HLW.out
            go_wp2_with fail
            refine (number_two x.size (by omega) _).mono ?_
            rintro e' w6 ⟨rfl, hr6, hb6⟩
            have HP6 := Lib.hid (HP5.out.next (Nat.le_refl _) hb6)
            have HT6 := Lib.hid (HT5.out.next hb6)
            have HR6 := Lib.hid hr6
            clear hr6 hb6 HP5 HT5 HBK HLW hcell n0 n1 n2 f0 f1 f2 nl
            go_upto_region 17 with (at_builtin; refine step_app rfl _ _ rfl HP6.out.own rfl HP6.out.len rfl (by2_len x.size) (HR6.out.src 2) (by omega) (HP6.out.size (Nat.le_refl _)) ?_; intro A7 c7 w7 ho hg7 hor; have HP7 := Lib.hid (HP6.out.app (m := 2) (Nat.le_refl _) ho (by2_len _) hg7); have HT7 := Lib.hid (HT6.out.app hg7 hor); clear ho hg7 hor)
            clear HP6 HR6 HT6
            have HP8 : Hid (Pg w1 w7 w1.heap.size A7 (n + 2 + 2) c7 (headB leaf l ++ kidsTo ks ks.length ++ slotsTo l (j + 1))) := (by
              have h := HP7.out
              rw [← HSL.out] at h
              exact h : Pg w1 w7 w1.heap.size A7 (n + 2 + 2) c7 (headB leaf l ++ kidsTo ks ks.length ++ slotsTo l (j + 1)))
            clear HP7
            have HLW := Lib.hid (HB1.out.trans (HP8.out.low.mono (by rw [HS1.out]; omega)))
            have HBK := Lib.hid ((HP8.out.low.block _ (lt_of_block HBK1.out)).trans HBK1.out)
            obtain ⟨n0, n1, n2, f0, f1, f2, nl⟩ := three_of_block HBK.out
            have hcell := cell_low HC0.out HLW.out
            obtain ⟨cap, w8, hconv, hfr, hb8, hs8⟩ := conv_fresh w7 x (by omega)
            have HF8 := Lib.hid hfr
            have HB8 := Lib.hid hb8
            obtain ⟨fg, hfg⟩ : ∃ fg, fg = w7.heap.size := ⟨_, rfl⟩
            rw [← hfg] at hconv HF8
            have HFG := Lib.hid hfg
            have HS8 := Lib.hid hs8
            clear hfr hb8 hfg hs8
            go_wp2_with (at_builtin; refine step_tail rfl _ _ rfl rfl rfl (data_len x) HM.out HF8.out (by rw [HFG.out]; exact HP8.out.size (Nat.le_refl _)) (HT7.out.1.below HB8.out (Nat.le_refl _)) (by omega) (Nat.le_trans (HP8.out.size (Nat.le_refl _)) HB8.out.size) ?_; intro g9 c9 w9 hr9 hg9 hor9)
            have HB9 : Hid (Below w7.heap.size w7 w9) := HB8.out.grown hg9 HB8.out.size (fun k hk => by injection hk with hk; rw [← hk, HFG.out]; exact Nat.le_refl _)
            have HP9 := Lib.hid (HP8.out.next (Nat.le_refl _) HB9.out)
            have HT9 := Lib.hid (HP8.out.tl9 (g9 := g9) (hor9.elim (fun h => by rw [h, HFG.out]; exact Nat.le_refl _) (fun h => by rw [h]; exact HB8.out.size)) hr9)
            rw [← HT1.out] at HT9
            clear hr9 hg9 hor9 hconv HP8 HT7 HF8 HB8 HB9
            have hn9 : n + 2 + 2 ≤ 10000 := by
              have h := HP9.out.len
              rw [List.length_append, List.length_append, kidsTo_len, slotsTo_len, headB, List.length_cons, by2_len] at h
              omega
            go_roundg (l.length - (j + 1))
            case measure => omega
            case rel => exact ⟨j + 1, n + 2 + 2, A7, c7, g9, c9, x.size + m, e2, by omega, rfl, rfl, hn9, rfl, rfl, by omega, by omega, by go_num, HM2, HP9, HT9⟩
          · have hlt2 : ¬ (j : Int) < (l.length : Int) := by omega
            have hjl : j = l.length := by omega
            subst hjl
            have hfit := front_fit (leaf := leaf) HZ.out
            rw [HM.out] at hfit
            have HF : Hid ((frontB leaf l ks).length = n) := HP.out.len
            rw [HF.out] at hfit
            have HP0 : Hid (Pg w1 wr w1.heap.size A6 n c6 (frontB leaf l ks ++ List.replicate 0 0)) := (by
              rw [List.replicate_zero, List.append_nil]
              exact HP.out : Pg w1 wr w1.heap.size A6 n c6 (frontB leaf l ks ++ List.replicate 0 0))
            obtain ⟨PZ, hPZ⟩ : ∃ PZ, PZ = 1024 - sizeN l ks := ⟨_, rfl⟩
            rw [← hPZ] at hfit
            have HPZ := Lib.hid hPZ
            clear hPZ HP hlt hlt2
            go_wp2_with fail
            go_loopg [3] PZ (fun q v wr => ∃ p A c n2, p ≤ PZ ∧ q = PZ - p ∧ Hid (n2 = n + p) ∧ v = .slice A n2 c ∧ Hid (Pg w1 wr w1.heap.size A n2 c (frontB leaf l ks ++ List.replicate p 0)) ∧ Hid (Tl wr w1.heap.size A n2 c tg (tailTo l l.length)))
            case atStart => exact ⟨0, A6, c6, n, by omega, by omega, rfl, rfl, HP0, HT⟩
            case round =>
              clear HT HP0 HBK HLW n0 n1 n2 f0 f1 f2 nl
              obtain ⟨p, A8, c8, n2, hp, hq2, HN2, rfl, HP, HT⟩ := hrel
              have hn3 : n2 + m ≤ 1024 := by have := HN2.out; omega
              by_cases hlt : p < PZ
              · have hlt2 : (n2 : Int) < 1024 - (m : Int) := by have := HN2.out; omega
                have hz2 := row_zero wr (HP.out.size (Nat.le_refl _))
                have hb2 : Below wr.heap.size wr (wr.alloc (.cells #[.int .u8 0] 5)) := (Below.refl _ _).alloc (Nat.le_refl _) _
                have HPa := Lib.hid (HP.out.next (Nat.le_refl _) hb2)
                have HTa := Lib.hid (HT.out.next hb2)
                have HRa := Lib.hid hz2
                clear hz2 hb2
                go_wp2_with (at_builtin; refine step_app rfl _ _ rfl HPa.out.own rfl HPa.out.len rfl rfl (HRa.out.src 1) (by omega) (HPa.out.size (Nat.le_refl _)) ?_; intro A9 c9 w9 ho hg9 hor; have HP9 := Lib.hid (HPa.out.app (m := 1) (Nat.le_refl _) ho rfl hg9); have HT9 := Lib.hid (HTa.out.app hg9 hor); clear ho hg9 hor)
                rw [rep_succ] at HP9
                go_roundg (PZ - (p + 1))
                case measure => omega
                case rel => exact ⟨p + 1, A9, c9, n2 + 1, by omega, rfl, (by have := HN2.out; omega : n2 + 1 = n + (p + 1)), rfl, HP9, HT9⟩
              · have hlt2 : ¬ (n2 : Int) < 1024 - (m : Int) := by have := HN2.out; omega
                have hpz : p = PZ := by omega
                have HE : Hid (frontB leaf l ks ++ List.replicate p 0 ++ tailTo l l.length = pageB leaf l ks) := (by
                  rw [hpz, HPZ.out, List.append_assoc]
                  rfl : frontB leaf l ks ++ List.replicate p 0 ++ tailTo l l.length = pageB leaf l ks)
                have HNM : Hid (n2 + m = 1024) := (by have := HN2.out; omega : n2 + m = 1024)
                clear hpz
                have HSR : Hid (Src wr (some ⟨tg, 0, none⟩) m c2 (bc (tailTo l l.length))) := (by
                  have h := HT.out.1.src c2
                  rw [HM.out] at h
                  exact h : Src wr (some ⟨tg, 0, none⟩) m c2 (bc (tailTo l l.length)))
                go_wp2_with (at_builtin; refine step_app rfl _ _ rfl HP.out.own rfl HP.out.len rfl HM.out HSR.out (by omega) (HP.out.size (Nat.le_refl _)) ?_; intro A9 c9 w9 ho hg9 hor; have HP9 := Lib.hid (HP.out.app (m := m) (Nat.le_refl _) ho HM.out hg9); clear ho hg9 hor)
                rw [HNM.out, HE.out] at HP9
                (try rw [HNM.out])
                go_ret
                obtain ⟨g9, rfl, hr9⟩ := HP9.out.own.row (fun h => by
                  have := HP9.out.len
                  rw [h] at this
                  cases this)
                exact ⟨g9, c9, rfl, hr9.down (by rw [HS1.out]; omega), HB1.out.trans (HP9.out.low.mono (by rw [HS1.out]; omega))⟩
end Go.Proofs.Ytnjdmaeoebihpaa
