/-
  The document's Cut; the law PageSplits, walked.
-/
import Derived.Test.YtnjdmaeoebihpaaPgJn
import Derived.Test.YtnjdmaeoebihpaaPgCut
import Derived.Deep.DeepCutAuto
import Derived.Deep.RegionHeld
namespace Go.Proofs.Ytnjdmaeoebihpaa
open Go.RowKit Go.Proofs.YtnjdmaeoebihpaaW.PrintWords Go.Proofs.YtnjdmaeoebihpaaW.PrintLast Go.Proofs.YtnjdmaeoebihpaaW.PrintMore
set_option linter.unusedVariables false
set_option linter.unusedSimpArgs false

set_option maxRecDepth 100000 in
set_option maxHeartbeats 2000000 in
theorem rside_leaf (A : Option Addr) (c : Nat) (l : List ByteArray) (B : Option Addr) (d : Nat) (ks : List Int) (w : World) (hr : RdN w A c l B d ks) (hb : Bd l ks) (k : Nat) (hk : 0 < k) (hk2 : k < l.length) :
    Calls Try.prog 38 #[.agg #[.bool true, .slice A l.length c, .slice B ks.length d], .int .i64 k] w fun e w' => e = .returned (.int .i64 (sideN l 0 0 k)) ∧ Below w.heap.size w w' := by
  obtain ⟨ad, rfl, -⟩ := Kd.at_string hr.recs 0 (by omega) (by omega)
  have hrc := hr.rc
  have HR := Lib.hid hr
  have HBD := Lib.hid hb
  have hln := hb.len
  clear hr hb
  have hblk := heap_alloc_new w (RNodeObj true (some ad) l.length c B ks.length d)
  obtain ⟨w1, hw1⟩ : ∃ w1, w1 = w.alloc (.cells #[.bool true, .slice (some ad) l.length c, .slice B ks.length d] 29) := ⟨_, rfl⟩
  replace hblk : w1.heap[w.heap.size]? = some (RNodeObj true (some ad) l.length c B ks.length d) := by rw [hw1]; exact hblk
  have HB1 : Hid (Below w.heap.size w w1) := (by rw [hw1]; exact (Below.refl _ _).alloc (Nat.le_refl _) _ : Below w.heap.size w w1)
  obtain ⟨n0, n1, n2, f0, f1, f2, nl⟩ := three_of_block hblk
  have HBK := Lib.hid hblk
  clear hblk
  have hck : c ≠ k := by omega
  have i1 : (k : Int) ≤ (c : Int) := by omega
  have i2 : (k : Int) ≤ (l.length : Int) := by omega
  go_enter Try.func38, Try.ntmps38
  go_upto_region 1 with (fail)
  rw [← hw1]
  clear hw1
  go_quiet (fail)
  have HB2 := Lib.hid (below_drewN HB1.out nq)
  have hn0 : (w1.drewN nq).cell? ⟨w.heap.size, 0, none⟩ = some (.bool true) := n0
  obtain ⟨w2, hw2⟩ : ∃ w2, w2 = w1.drewN nq := ⟨_, rfl⟩
  rw [← hw2] at HB2 hn0 ⊢
  clear hw2 n0 n1 n2 f0 f1 f2 nl HBK HB1
  have HRW := Lib.hid (HR.out.below HB2.out)
  have e1 : (l.take k).length = k := by rw [List.length_take]; omega
  have e2 : (l.drop k).length = l.length - k := List.length_drop
  have hwl := HBD.out.weigh
  have hw1 : weighN (l.take k) ≤ weighN l := weighN_take l k
  have hw2 : weighN (l.take k) + weighN (l.drop k) = weighN l := by
    have h := weighN_append (l.take k) (l.drop k)
    rw [List.take_append_drop] at h
    omega
  have hc1 := rweigh_any (c := c) (rd_take HRW.out.recs k (by omega) (by omega)) (by omega) (by omega) (by omega)
  have hc2 := rweigh_any (c := c - k) (rd_drop HRW.out.recs k (by omega) (by omega)) (by omega) (by omega) (by omega)
  rw [e1] at hc1
  rw [e2] at hc2
  have HC1 := Lib.hid hc1
  have HC2 := Lib.hid hc2
  have HV : Hid (sideN l 0 0 k = max (weighN (l.take k)) (weighN (l.drop k))) := (by simp only [sideN, Nat.mul_zero, Nat.add_zero] : sideN l 0 0 k = max (weighN (l.take k)) (weighN (l.drop k)))
  obtain ⟨X, hX⟩ : ∃ X, weighN (l.take k) = X := ⟨_, rfl⟩
  obtain ⟨Y, hY⟩ : ∃ Y, weighN (l.drop k) = Y := ⟨_, rfl⟩
  rw [hX] at HC1 HV hw1 hw2
  rw [hY] at HC2 HV hw2
  have hx9 : X ≤ 200000000 := by omega
  have hy9 : Y ≤ 200000000 := by omega
  have b1 : ((k : Int) == 0) = false := beq_eq_false_iff_ne.2 (by omega)
  have b2 : (((l.length - k : Nat) : Int) == 0) = false := beq_eq_false_iff_ne.2 (by omega)
  clear hc1 hc2 e1 e2 hX hY hw1 hw2 hwl
  go_wp2_with fail
  refine HC1.out.mono ?_
  rintro e w3 ⟨rfl, rfl⟩
  go_wp2_with fail
  refine HC2.out.mono ?_
  rintro e w3 ⟨rfl, rfl⟩
  by_cases hxy : X < Y
  · have hxy2 : (X : Int) < (Y : Int) := by omega
    have hxy3 : max X Y = Y := by omega
    go_wp2_with fail
    go_ret
    exact ⟨by rw [HV.out, hxy3]; rfl, HB2.out⟩
  · have hxy2 : ¬ (X : Int) < (Y : Int) := by omega
    have hxy3 : max X Y = X := by omega
    go_wp2_with fail
    go_ret
    exact ⟨by rw [HV.out, hxy3]; rfl, HB2.out⟩
set_option maxRecDepth 100000 in
set_option maxHeartbeats 2000000 in
theorem rside_inner (A : Option Addr) (c : Nat) (l : List ByteArray) (B : Option Addr) (d : Nat) (ks : List Int) (w : World) (hr : RdN w A c l B d ks) (hb : Bd l ks) (k : Nat) (hk : 0 < k) (hk2 : k + 1 < l.length) :
    Calls Try.prog 38 #[.agg #[.bool false, .slice A l.length c, .slice B ks.length d], .int .i64 k] w fun e w' => e = .returned (.int .i64 (sideN l 1 4 k)) ∧ Below w.heap.size w w' := by
  obtain ⟨ad, rfl, -⟩ := Kd.at_string hr.recs 0 (by omega) (by omega)
  have hrc := hr.rc
  have HR := Lib.hid hr
  have HBD := Lib.hid hb
  have hln := hb.len
  clear hr hb
  have hblk := heap_alloc_new w (RNodeObj false (some ad) l.length c B ks.length d)
  obtain ⟨w1, hw1⟩ : ∃ w1, w1 = w.alloc (.cells #[.bool false, .slice (some ad) l.length c, .slice B ks.length d] 29) := ⟨_, rfl⟩
  replace hblk : w1.heap[w.heap.size]? = some (RNodeObj false (some ad) l.length c B ks.length d) := by rw [hw1]; exact hblk
  have HB1 : Hid (Below w.heap.size w w1) := (by rw [hw1]; exact (Below.refl _ _).alloc (Nat.le_refl _) _ : Below w.heap.size w w1)
  obtain ⟨n0, n1, n2, f0, f1, f2, nl⟩ := three_of_block hblk
  have HBK := Lib.hid hblk
  clear hblk
  have hck : c ≠ k := by omega
  have i1 : (k : Int) ≤ (c : Int) := by omega
  have i2 : (k : Int) ≤ (l.length : Int) := by omega
  have i3 : (k : Int) + 1 ≤ (c : Int) := by omega
  have i4 : (k : Int) + 1 ≤ (l.length : Int) := by omega
  have hck1 : c ≠ k + 1 := by omega
  go_enter Try.func38, Try.ntmps38
  go_upto_region 1 with (fail)
  rw [← hw1]
  clear hw1
  go_quiet (fail)
  have HB2 := Lib.hid (below_drewN HB1.out nq)
  have hn1 : (w1.drewN nq).cell? ⟨w.heap.size, 1, none⟩ = some (.slice (some ad) l.length c) := n1
  have hn0 : (w1.drewN nq).cell? ⟨w.heap.size, 0, none⟩ = some (.bool false) := n0
  obtain ⟨w2, hw2⟩ : ∃ w2, w2 = w1.drewN nq := ⟨_, rfl⟩
  rw [← hw2] at HB2 hn0 hn1 ⊢
  clear hw2 n0 n1 n2 f0 f1 f2 nl HBK HB1
  have HRW := Lib.hid (HR.out.below HB2.out)
  have e1 : (l.take k).length = k := by rw [List.length_take]; omega
  have e2 : (l.drop (k + 1)).length = l.length - (k + 1) := List.length_drop
  have hwl := HBD.out.weigh
  have hw1 : weighN (l.take k) ≤ weighN l := weighN_take l k
  have hw2 : weighN (l.drop (k + 1)) ≤ weighN l := by
    have h := weighN_append (l.take (k + 1)) (l.drop (k + 1))
    rw [List.take_append_drop] at h
    omega
  have hc1 := rweigh_any (c := c) (rd_take HRW.out.recs k (by omega) (by omega)) (by omega) (by omega) (by omega)
  have hc2 := rweigh_any (c := c - (k + 1)) (rd_drop HRW.out.recs (k + 1) (by omega) (by omega)) (by omega) (by omega) (by omega)
  rw [e1] at hc1
  rw [e2] at hc2
  have HC1 := Lib.hid hc1
  have HC2 := Lib.hid hc2
  have HV : Hid (sideN l 1 4 k = max (weighN (l.take k) + 4 * k) (weighN (l.drop (k + 1)) + 4 * (l.length - (k + 1)))) := (by
    unfold sideN
    rw [Nat.mul_comm k 4, Nat.mul_comm (l.length - k - 1) 4, Nat.sub_sub] : sideN l 1 4 k = max (weighN (l.take k) + 4 * k) (weighN (l.drop (k + 1)) + 4 * (l.length - (k + 1))))
  obtain ⟨X, hX⟩ : ∃ X, weighN (l.take k) = X := ⟨_, rfl⟩
  obtain ⟨Y, hY⟩ : ∃ Y, weighN (l.drop (k + 1)) = Y := ⟨_, rfl⟩
  rw [hX] at HC1 HV hw1
  rw [hY] at HC2 HV hw2
  have hx9 : X ≤ 200000000 := by omega
  have hy9 : Y ≤ 200000000 := by omega
  have b1 : ((k : Int) == 0) = false := beq_eq_false_iff_ne.2 (by omega)
  have b2 : (((l.length - (k + 1) : Nat) : Int) == 0) = false := beq_eq_false_iff_ne.2 (by omega)
  clear hc1 hc2 e1 e2 hX hY hw1 hw2 hwl
  obtain ⟨R, hR⟩ : ∃ R, l.length - (k + 1) = R := ⟨_, rfl⟩
  have hR2 : R ≤ 1000 := by omega
  rw [hR] at HC2 HV b2
  have HRR := Lib.hid hR
  go_wp2_with fail
  refine HC1.out.mono ?_
  rintro e w3 ⟨rfl, rfl⟩
  go_wp2_with fail
  refine HC2.out.mono ?_
  rintro e w3 ⟨rfl, rfl⟩
  by_cases hxy : X + 4 * k < Y + 4 * R
  · have hxy2 : (X : Int) + 4 * (k : Int) < (Y : Int) + 4 * (R : Int) := by omega
    have hxy3 : max (X + 4 * k) (Y + 4 * R) = Y + 4 * R := by omega
    go_wp2_with fail
    go_ret
    exact ⟨by rw [HV.out, hxy3]; rfl, HB2.out⟩
  · have hxy2 : ¬ (X : Int) + 4 * (k : Int) < (Y : Int) + 4 * (R : Int) := by omega
    have hxy3 : max (X + 4 * k) (Y + 4 * R) = X + 4 * k := by omega
    go_wp2_with fail
    go_ret
    exact ⟨by rw [HV.out, hxy3]; rfl, HB2.out⟩
set_option maxRecDepth 100000 in
set_option maxHeartbeats 2000000 in
theorem rside_end (A : Option Addr) (c : Nat) (l : List ByteArray) (B : Option Addr) (d : Nat) (ks : List Int) (w : World) (hr : RdN w A c l B d ks) (hb : Bd l ks) (k : Nat) (hk : 0 < k) (hk2 : k + 1 = l.length) :
    Calls Try.prog 38 #[.agg #[.bool false, .slice A l.length c, .slice B ks.length d], .int .i64 k] w fun e w' => e = .returned (.int .i64 (-1)) ∧ Below w.heap.size w w' := by
  obtain ⟨ad, rfl, -⟩ := Kd.at_string hr.recs 0 (by omega) (by omega)
  have hrc := hr.rc
  have HR := Lib.hid hr
  have HBD := Lib.hid hb
  have hln := hb.len
  clear hr hb
  have hblk := heap_alloc_new w (RNodeObj false (some ad) l.length c B ks.length d)
  obtain ⟨w1, hw1⟩ : ∃ w1, w1 = w.alloc (.cells #[.bool false, .slice (some ad) l.length c, .slice B ks.length d] 29) := ⟨_, rfl⟩
  replace hblk : w1.heap[w.heap.size]? = some (RNodeObj false (some ad) l.length c B ks.length d) := by rw [hw1]; exact hblk
  have HB1 : Hid (Below w.heap.size w w1) := (by rw [hw1]; exact (Below.refl _ _).alloc (Nat.le_refl _) _ : Below w.heap.size w w1)
  obtain ⟨n0, n1, n2, f0, f1, f2, nl⟩ := three_of_block hblk
  have HBK := Lib.hid hblk
  clear hblk
  have hck : c ≠ k := by omega
  have i1 : (k : Int) ≤ (c : Int) := by omega
  have i2 : (k : Int) ≤ (l.length : Int) := by omega
  have i3 : (k : Int) + 1 ≤ (c : Int) := by omega
  have i4 : (k : Int) + 1 ≤ (l.length : Int) := by omega
  go_enter Try.func38, Try.ntmps38
  go_upto_region 1 with (fail)
  rw [← hw1]
  clear hw1
  go_quiet (fail)
  have HB2 := Lib.hid (below_drewN HB1.out nq)
  have hn1 : (w1.drewN nq).cell? ⟨w.heap.size, 1, none⟩ = some (.slice (some ad) l.length c) := n1
  have hn0 : (w1.drewN nq).cell? ⟨w.heap.size, 0, none⟩ = some (.bool false) := n0
  obtain ⟨w2, hw2⟩ : ∃ w2, w2 = w1.drewN nq := ⟨_, rfl⟩
  rw [← hw2] at HB2 hn0 hn1 ⊢
  clear hw2 n0 n1 n2 f0 f1 f2 nl HBK HB1
  have HRW := Lib.hid (HR.out.below HB2.out)
  have e1 : (l.take k).length = k := by rw [List.length_take]; omega
  have e2 : l.length - (k + 1) = 0 := by omega
  have hwl := HBD.out.weigh
  have hw1 : weighN (l.take k) ≤ weighN l := weighN_take l k
  have hc1 := rweigh_any (c := c) (rd_take HRW.out.recs k (by omega) (by omega)) (by omega) (by omega) (by omega)
  have HC2 : Hid (∀ (Q : Option Addr) (c2 : Nat), Calls Try.prog 33 #[.slice Q 0 c2] w2 fun e w' => e = .returned (.int .i64 0) ∧ w2 = w') := fun Q c2 =>
    rweigh_any (l := []) (Kd.C_of_reads (d := ByteArray.empty) ⟨rfl, by simp, fun h => absurd h (by simp)⟩) (Nat.zero_le _) (by simp) (by simp [weighN])
  rw [e1] at hc1
  have HC1 := Lib.hid hc1
  obtain ⟨X, hX⟩ : ∃ X, weighN (l.take k) = X := ⟨_, rfl⟩
  rw [hX] at HC1 hw1
  have hx9 : X ≤ 200000000 := by omega
  have b1 : ((k : Int) == 0) = false := beq_eq_false_iff_ne.2 (by omega)
  have HE2 := Lib.hid e2
  clear hc1 e1 hX hw1 hwl
  have HKL : Hid (k + 1 = l.length) := hk2
  by_cases hcc : c = k + 1
  · obtain rfl : c = l.length := by omega
    clear hcc
    go_wp2_with fail
    refine HC1.out.mono ?_
    rintro e w3 ⟨rfl, rfl⟩
    go_wp2_with fail
    refine (HC2.out _ _).mono ?_
    rintro e w3 ⟨rfl, rfl⟩
    go_wp2_with fail
    go_ret
    exact ⟨rfl, HB2.out⟩
  · clear hk2
    go_wp2_with fail
    refine HC1.out.mono ?_
    rintro e w3 ⟨rfl, rfl⟩
    go_wp2_with fail
    refine (HC2.out _ _).mono ?_
    rintro e w3 ⟨rfl, rfl⟩
    go_wp2_with fail
    go_ret
    exact ⟨rfl, HB2.out⟩

section
variable {P : Program} {ops : Array Oper} {Q : Exit → Act → World → Prop} {md : Region.Mode} {S : World → Prop}
/-- An operation that yields its value wherever S holds is taken first; the operation told by its parts. -/
theorem takeH {i : Nat} {dst : Option Tmp} {op : Op} {ty : TypeId} {pos : String} {aft : Array _} {g : Option (Nat × Bool)} {v : Value} {fuel : Nat} {listed : Array Bool} {a : Act} {w : World} (hi : ops[i]? = some ⟨dst, op, ty, pos, aft, g⟩)
    (hs : Region.noSelect ops = true) (hf : Region.free md ops listed i = true) (hr : (Region.ready md ops listed).contains i = true)
    (hQ : ∀ c a w, Q (.panic c) (a.put dst v) w → Q (.panic c) a w) (hw : Region.wanted ⟨dst, op, ty, pos, aft, g⟩ (yielded ops a.tmps) = true) (hy : ∀ w, S w → (execOp a.eval ⟨dst, op, ty, pos, aft, g⟩).run P w = .ok (.value v) w) (hS : S w)
    (h : wpAnyH P md ops Q S fuel (listed.setIfInBounds i true) (a.put dst v) w) : wpAnyH P md ops Q S (fuel + 1) listed a w :=
  wpAnyH_take hi hs hf hr hQ (.inl ⟨hw, hy⟩) hS h
/-- One that is passed over. -/
theorem skipH {i : Nat} {dst : Option Tmp} {op : Op} {ty : TypeId} {pos : String} {aft : Array _} {g : Option (Nat × Bool)} {fuel : Nat} {listed : Array Bool} {a : Act} {w : World} (hi : ops[i]? = some ⟨dst, op, ty, pos, aft, g⟩)
    (hs : Region.noSelect ops = true) (hf : Region.free md ops listed i = true) (hr : (Region.ready md ops listed).contains i = true)
    (hQ : ∀ c a w, Q (.panic c) (a.put dst undef) w → Q (.panic c) a w) (hw : Region.wanted ⟨dst, op, ty, pos, aft, g⟩ (yielded ops a.tmps) = false) (hS : S w)
    (h : wpAnyH P md ops Q S fuel (listed.setIfInBounds i true) (a.put dst undef) w) : wpAnyH P md ops Q S (fuel + 1) listed a w :=
  wpAnyH_take hi hs hf hr hQ (.inr ⟨hw, rfl⟩) hS h
end
/-- The best place among 1, .., j - 1 of those that leave something on both sides. -/
def bestTo (leaf : Bool) (l : List ByteArray) (j : Nat) : Nat := cutTo (sideN l (skOf leaf) (eaOf leaf)) (min j (l.length - skOf leaf))
theorem bestTo_end (leaf : Bool) (l : List ByteArray) : bestTo leaf l l.length = cutK leaf l := by
  unfold bestTo cutK
  rw [Nat.min_eq_right (Nat.sub_le _ _)]
theorem bestTo_one (leaf : Bool) (l : List ByteArray) (h : 1 + skOf leaf < l.length) : bestTo leaf l 1 = 0 := by
  unfold bestTo
  rw [Nat.min_eq_left (by omega)]
  simp [cutTo]
theorem bestTo_lt (leaf : Bool) (l : List ByteArray) (j : Nat) (hj : 0 < j) (h : 1 + skOf leaf < l.length) : bestTo leaf l j < j ∧ bestTo leaf l j + skOf leaf < l.length := by
  have h1 := cutTo_lt (sideN l (skOf leaf) (eaOf leaf)) (min j (l.length - skOf leaf)) (by omega)
  unfold bestTo
  omega
theorem bestTo_last (leaf : Bool) (l : List ByteArray) (j : Nat) (h : ¬ j + skOf leaf < l.length) (hj : j < l.length) : bestTo leaf l (j + 1) = bestTo leaf l j := by
  unfold bestTo
  rw [Nat.min_eq_right (by omega), Nat.min_eq_right (by omega)]
theorem bestTo_take (leaf : Bool) (l : List ByteArray) (j : Nat) (h : j + skOf leaf < l.length) (hj : 0 < j) (hb : bestTo leaf l j = 0 ∨ sideN l (skOf leaf) (eaOf leaf) j < sideN l (skOf leaf) (eaOf leaf) (bestTo leaf l j)) : bestTo leaf l (j + 1) = j := by
  unfold bestTo at hb ⊢
  rw [Nat.min_eq_left (by omega)] at hb ⊢
  simp only [cutTo]
  rw [if_neg (by omega), if_pos hb]
theorem bestTo_keep (leaf : Bool) (l : List ByteArray) (j : Nat) (h : j + skOf leaf < l.length) (hj : 0 < j) (h0 : bestTo leaf l j ≠ 0) (hb : ¬ sideN l (skOf leaf) (eaOf leaf) j < sideN l (skOf leaf) (eaOf leaf) (bestTo leaf l j)) : bestTo leaf l (j + 1) = bestTo leaf l j := by
  unfold bestTo at h0 hb ⊢
  rw [Nat.min_eq_left (show j ≤ l.length - skOf leaf by omega)] at h0 hb ⊢
  rw [Nat.min_eq_left (by omega)]
  simp only [cutTo]
  rw [if_neg (by omega), if_neg (by omega)]
theorem rside_any (leaf : Bool) (A : Option Addr) (c : Nat) (l : List ByteArray) (B : Option Addr) (d : Nat) (ks : List Int) (w : World) (hr : RdN w A c l B d ks) (hb : Bd l ks) (k : Nat) (hk : 0 < k) (hk2 : k + skOf leaf < l.length) :
    Calls Try.prog 38 #[.agg #[.bool leaf, .slice A l.length c, .slice B ks.length d], .int .i64 k] w fun e w' => e = .returned (.int .i64 (sideN l (skOf leaf) (eaOf leaf) k)) ∧ Below w.heap.size w w' := by
  cases leaf with
  | true => exact rside_leaf A c l B d ks w hr hb k hk hk2
  | false => exact rside_inner A c l B d ks w hr hb k hk hk2
abbrev RC3 (w : World) (b : Nat) (lf : Bool) (A : Option Addr) (n c : Nat) (B : Option Addr) (m d : Nat) : Prop := C3 w b lf A n c B m d
theorem rc3 {w : World} {b : Nat} {leaf : Bool} {A : Option Addr} {n c : Nat} {B : Option Addr} {m d : Nat} (h : w.heap[b]? = some (RNodeObj leaf A n c B m d)) : C3 w b leaf A n c B m d := ⟨(cell_of_block h 0).trans rfl, (cell_of_block h 1).trans rfl, (cell_of_block h 2).trans rfl⟩

set_option maxRecDepth 100000 in
set_option maxHeartbeats 4000000 in
theorem rcut_any (leaf : Bool) (A : Option Addr) (c : Nat) (l : List ByteArray) (B : Option Addr) (d : Nat) (ks : List Int) (w : World) (hr : RdN w A c l B d ks) (hb : Bd l ks) (hlen : 1 + skOf leaf < l.length) :
    Calls Try.prog 25 #[.agg #[.bool leaf, .slice A l.length c, .slice B ks.length d]] w fun e w' => e = .returned (.int .i64 (cutK leaf l)) ∧ Below w.heap.size w w' := by
  have hln := hb.len
  have HR := Lib.hid hr
  have HBD := Lib.hid hb
  have HLEN := Lib.hid hlen
  have hl1 : 1 < l.length := by omega
  clear hr hb hlen
  have hblk := heap_alloc_new w (RNodeObj leaf A l.length c B ks.length d)
  obtain ⟨w1, hw1⟩ : ∃ w1, w1 = w.alloc (.cells #[.bool leaf, .slice A l.length c, .slice B ks.length d] 29) := ⟨_, rfl⟩
  replace hblk : w1.heap[w.heap.size]? = some (RNodeObj leaf A l.length c B ks.length d) := by rw [hw1]; exact hblk
  have HB1 : Hid (Below w.heap.size w w1) := (by rw [hw1]; exact (Below.refl _ _).alloc (Nat.le_refl _) _ : Below w.heap.size w w1)
  have HK1 := Lib.hid hblk
  clear hblk
  go_enter Try.func25, Try.ntmps25
  go_upto_region 1 with (fail)
  rw [← hw1]
  clear hw1
  go_wp2_with fail
  go_loopg [3, 4] l.length (fun g b i w' => ∃ j K : Nat, 1 ≤ j ∧ j ≤ l.length ∧ g = l.length - (j - 1) ∧ i = .int .i64 j ∧ b = .int .i64 K ∧ Hid (K = bestTo leaf l j) ∧ Hid (Below w.heap.size w w') ∧ Hid (w'.heap[w.heap.size]? = some (RNodeObj leaf A l.length c B ks.length d)))
  case atStart => exact ⟨1, 0, by omega, by omega, rfl, rfl, rfl, Lib.hid (bestTo_one leaf l HLEN.out).symm, HB1, HK1⟩
  case round =>
    obtain ⟨j, K, hj1, hj, hg, rfl, rfl, HK, HB, HBK⟩ := hrel
    clear HB1 HK1
    obtain ⟨n0, n1, n2, f0, f1, f2, nl⟩ := three_of_block HBK.out
    by_cases hlt : j < l.length
    · have hlt2 : (j : Int) < (l.length : Int) := by omega
      have HD : Hid (Below wr.heap.size wr wr.drew) := (⟨rfl, rfl, rfl, Nat.le_refl _, fun _ _ => rfl⟩ : Below wr.heap.size wr wr.drew)
      have HBD1 : Hid (Below w.heap.size w wr.drew) := HB.out.trans (HD.out.mono HB.out.size)
      have HR1 := Lib.hid (HR.out.below HBD1.out)
      have HKd : Hid (wr.drew.heap[w.heap.size]? = some (RNodeObj leaf A l.length c B ks.length d)) := HBK.out
      have hKj : K < j := by rw [HK.out]; exact (bestTo_lt leaf l j (by omega) HLEN.out).1
      have HKs : Hid (K + skOf leaf < l.length) := (by rw [HK.out]; exact (bestTo_lt leaf l j (by omega) HLEN.out).2 : K + skOf leaf < l.length)
      by_cases hin : j + skOf leaf < l.length
      case neg =>
        have HIN := Lib.hid hin
        clear hin
        obtain rfl : leaf = false := by
          cases leaf with
          | false => rfl
          | true => exact absurd (show j + 0 < l.length by omega) HIN.out
        have hcl := rside_end A c l B d ks wr.drew HR1.out HBD.out j (by omega) (by have := HIN.out; simp only [skOf] at this; simp at this; omega)
        have HCL := Lib.hid hcl
        clear hcl
        have hS0 := rc3 HKd.out
        go_wp2_with fail
        refine wp_region_held_drew (S := fun w' => C3 w' w.heap.size false A l.length c B ks.length d) (by kernel_rfl) hS0 (fun hHeld => ?_)
        refine takeH (i := 0) (v := (.agg #[.bool false, .slice A l.length c, .slice B ks.length d])) rfl (by kernel_rfl) (by kernel_rfl) (by kernel_rfl) (fun _ _ _ h => h) (by rfl) (by intro w hSw; (try dsimp only at hSw); go_simp) (by assumption) ?_
        (try simp only [Act.put, List.setIfInBounds_toArray, List.set_cons_zero, List.set_cons_succ])
        refine takeH (i := 1) (v := (.int .i64 j)) rfl (by kernel_rfl) (by kernel_rfl) (by kernel_rfl) (fun _ _ _ h => h) (by rfl) (by intro w hSw; (try dsimp only at hSw); go_simp) (by assumption) ?_
        (try simp only [Act.put, List.setIfInBounds_toArray, List.set_cons_zero, List.set_cons_succ])
        refine wpAnyH_ready (rs := [2]) (by kernel_rfl) (by simp) ?_
        refine AllReadyH.cons rfl (fun KK hKK => ?_) AllReadyH.nil
        go_simp
        go_wp2_with (go_at_call 38; refine HCL.out.mono ?_; rintro e y1 ⟨rfl, hb⟩; have HY := Lib.hid hb; have hSy := rc3 ((hb.block _ (lt_of_block HKd.out)).trans HKd.out); clear hb)
        refine hKK.out _ _ hSy (fun hHeld => ?_)
        clear hKK KK
        refine takeH (i := 3) (v := (.bool false)) rfl (by kernel_rfl) (by kernel_rfl) (by kernel_rfl) (fun _ _ _ h => h) (by rfl) (by intro w hSw; (try dsimp only at hSw); go_simp) (by assumption) ?_
        (try simp only [Act.put, List.setIfInBounds_toArray, List.set_cons_zero, List.set_cons_succ])
        refine takeH (i := 4) (v := (.bool false)) rfl (by kernel_rfl) (by kernel_rfl) (by kernel_rfl) (fun _ _ _ h => h) (by rfl) (by intro w hSw; (try dsimp only at hSw); go_simp) (by assumption) ?_
        (try simp only [Act.put, List.setIfInBounds_toArray, List.set_cons_zero, List.set_cons_succ])
        refine skipH (i := 5) rfl (by kernel_rfl) (by kernel_rfl) (by kernel_rfl) (fun _ _ _ h => h) (by rfl) (by assumption) ?_
        (try simp only [Act.put, List.setIfInBounds_toArray, List.set_cons_zero, List.set_cons_succ])
        refine skipH (i := 6) rfl (by kernel_rfl) (by kernel_rfl) (by kernel_rfl) (fun _ _ _ h => h) (by rfl) (by assumption) ?_
        (try simp only [Act.put, List.setIfInBounds_toArray, List.set_cons_zero, List.set_cons_succ])
        refine skipH (i := 7) rfl (by kernel_rfl) (by kernel_rfl) (by kernel_rfl) (fun _ _ _ h => h) (by rfl) (by assumption) ?_
        (try simp only [Act.put, List.setIfInBounds_toArray, List.set_cons_zero, List.set_cons_succ])
        refine skipH (i := 8) rfl (by kernel_rfl) (by kernel_rfl) (by kernel_rfl) (fun _ _ _ h => h) (by rfl) (by assumption) ?_
        (try simp only [Act.put, List.setIfInBounds_toArray, List.set_cons_zero, List.set_cons_succ])
        refine skipH (i := 9) rfl (by kernel_rfl) (by kernel_rfl) (by kernel_rfl) (fun _ _ _ h => h) (by rfl) (by assumption) ?_
        (try simp only [Act.put, List.setIfInBounds_toArray, List.set_cons_zero, List.set_cons_succ])
        refine skipH (i := 10) rfl (by kernel_rfl) (by kernel_rfl) (by kernel_rfl) (fun _ _ _ h => h) (by rfl) (by assumption) ?_
        (try simp only [Act.put, List.setIfInBounds_toArray, List.set_cons_zero, List.set_cons_succ])
        refine skipH (i := 11) rfl (by kernel_rfl) (by kernel_rfl) (by kernel_rfl) (fun _ _ _ h => h) (by rfl) (by assumption) ?_
        (try simp only [Act.put, List.setIfInBounds_toArray, List.set_cons_zero, List.set_cons_succ])
        refine skipH (i := 12) rfl (by kernel_rfl) (by kernel_rfl) (by kernel_rfl) (fun _ _ _ h => h) (by rfl) (by assumption) ?_
        (try simp only [Act.put, List.setIfInBounds_toArray, List.set_cons_zero, List.set_cons_succ])
        refine skipH (i := 13) rfl (by kernel_rfl) (by kernel_rfl) (by kernel_rfl) (fun _ _ _ h => h) (by rfl) (by assumption) ?_
        (try simp only [Act.put, List.setIfInBounds_toArray, List.set_cons_zero, List.set_cons_succ])
        refine skipH (i := 14) rfl (by kernel_rfl) (by kernel_rfl) (by kernel_rfl) (fun _ _ _ h => h) (by rfl) (by assumption) ?_
        (try simp only [Act.put, List.setIfInBounds_toArray, List.set_cons_zero, List.set_cons_succ])
        refine skipH (i := 15) rfl (by kernel_rfl) (by kernel_rfl) (by kernel_rfl) (fun _ _ _ h => h) (by rfl) (by assumption) ?_
        (try simp only [Act.put, List.setIfInBounds_toArray, List.set_cons_zero, List.set_cons_succ])
        refine takeH (i := 16) (v := (.bool false)) rfl (by kernel_rfl) (by kernel_rfl) (by kernel_rfl) (fun _ _ _ h => h) (by rfl) (by intro w hSw; (try dsimp only at hSw); go_simp) (by assumption) ?_
        (try simp only [Act.put, List.setIfInBounds_toArray, List.set_cons_zero, List.set_cons_succ])
        refine wpAnyH_done (by kernel_rfl) ?_ _
        go_wp2_with fail
        go_roundg (l.length - j)
        case measure => omega
        case rel => exact ⟨j + 1, K, by omega, by omega, by omega, by go_num, rfl, Lib.hid (HK.out.trans (bestTo_last false l j HIN.out hlt).symm), Lib.hid (HBD1.out.trans (HY.out.mono HBD1.out.size)), Lib.hid ((HY.out.block _ (lt_of_block HKd.out)).trans HKd.out)⟩
      have HIN := Lib.hid hin
      clear hin
      have hcl := rside_any leaf A c l B d ks wr.drew HR1.out HBD.out j (by omega) HIN.out
      obtain ⟨S1, hS1⟩ : ∃ S, sideN l (skOf leaf) (eaOf leaf) j = S := ⟨_, rfl⟩
      rw [hS1] at hcl
      have HS1 := Lib.hid hS1
      have HCL := Lib.hid hcl
      clear hcl hS1
      have hs1 : (0 : Int) ≤ (S1 : Int) := Int.natCast_nonneg _
      by_cases hk0 : K = 0
      · have HK0 := Lib.hid hk0
        have h0b : ((K : Int) == 0) = true := by rw [hk0]; rfl
        have hK0 : (K : Int) = 0 := by omega
        clear hk0
        have hS0 := rc3 HKd.out
        go_wp2_with fail
        refine wp_region_held_drew (S := fun w' => C3 w' w.heap.size leaf A l.length c B ks.length d) (by kernel_rfl) hS0 (fun hHeld => ?_)
        refine takeH (i := 0) (v := (.agg #[.bool leaf, .slice A l.length c, .slice B ks.length d])) rfl (by kernel_rfl) (by kernel_rfl) (by kernel_rfl) (fun _ _ _ h => h) (by rfl) (by intro w hSw; (try dsimp only at hSw); go_simp) (by assumption) ?_
        (try simp only [Act.put, List.setIfInBounds_toArray, List.set_cons_zero, List.set_cons_succ])
        refine takeH (i := 1) (v := (.int .i64 j)) rfl (by kernel_rfl) (by kernel_rfl) (by kernel_rfl) (fun _ _ _ h => h) (by rfl) (by intro w hSw; (try dsimp only at hSw); go_simp) (by assumption) ?_
        (try simp only [Act.put, List.setIfInBounds_toArray, List.set_cons_zero, List.set_cons_succ])
        refine wpAnyH_ready (rs := [2]) (by kernel_rfl) (by simp) ?_
        refine AllReadyH.cons rfl (fun KK hKK => ?_) AllReadyH.nil
        go_simp
        go_wp2_with (go_at_call 38; refine HCL.out.mono ?_; rintro e y1 ⟨rfl, hb⟩; have HY := Lib.hid hb; have hSy := rc3 ((hb.block _ (lt_of_block HKd.out)).trans HKd.out); clear hb)
        refine hKK.out _ _ hSy (fun hHeld => ?_)
        clear hKK KK
        refine takeH (i := 3) (v := (.bool true)) rfl (by kernel_rfl) (by kernel_rfl) (by kernel_rfl) (fun _ _ _ h => h) (by rfl) (by intro w hSw; (try dsimp only at hSw); go_simp) (by assumption) ?_
        (try simp only [Act.put, List.setIfInBounds_toArray, List.set_cons_zero, List.set_cons_succ])
        refine takeH (i := 4) (v := (.bool true)) rfl (by kernel_rfl) (by kernel_rfl) (by kernel_rfl) (fun _ _ _ h => h) (by rfl) (by intro w hSw; (try dsimp only at hSw); go_simp) (by assumption) ?_
        (try simp only [Act.put, List.setIfInBounds_toArray, List.set_cons_zero, List.set_cons_succ])
        refine takeH (i := 5) (v := (.int .i64 K)) rfl (by kernel_rfl) (by kernel_rfl) (by kernel_rfl) (fun _ _ _ h => h) (by rfl) (by intro w hSw; (try dsimp only at hSw); go_simp) (by assumption) ?_
        (try simp only [Act.put, List.setIfInBounds_toArray, List.set_cons_zero, List.set_cons_succ])
        refine takeH (i := 6) (v := (.bool true)) rfl (by kernel_rfl) (by kernel_rfl) (by kernel_rfl) (fun _ _ _ h => h) (by rfl) (by intro w hSw; (try dsimp only at hSw); go_simp) (by assumption) ?_
        (try simp only [Act.put, List.setIfInBounds_toArray, List.set_cons_zero, List.set_cons_succ])
        refine takeH (i := 7) (v := (.bool true)) rfl (by kernel_rfl) (by kernel_rfl) (by kernel_rfl) (fun _ _ _ h => h) (by rfl) (by intro w hSw; (try dsimp only at hSw); go_simp) (by assumption) ?_
        (try simp only [Act.put, List.setIfInBounds_toArray, List.set_cons_zero, List.set_cons_succ])
        refine skipH (i := 8) rfl (by kernel_rfl) (by kernel_rfl) (by kernel_rfl) (fun _ _ _ h => h) (by rfl) (by assumption) ?_
        (try simp only [Act.put, List.setIfInBounds_toArray, List.set_cons_zero, List.set_cons_succ])
        refine skipH (i := 9) rfl (by kernel_rfl) (by kernel_rfl) (by kernel_rfl) (fun _ _ _ h => h) (by rfl) (by assumption) ?_
        (try simp only [Act.put, List.setIfInBounds_toArray, List.set_cons_zero, List.set_cons_succ])
        refine skipH (i := 10) rfl (by kernel_rfl) (by kernel_rfl) (by kernel_rfl) (fun _ _ _ h => h) (by rfl) (by assumption) ?_
        (try simp only [Act.put, List.setIfInBounds_toArray, List.set_cons_zero, List.set_cons_succ])
        refine skipH (i := 11) rfl (by kernel_rfl) (by kernel_rfl) (by kernel_rfl) (fun _ _ _ h => h) (by rfl) (by assumption) ?_
        (try simp only [Act.put, List.setIfInBounds_toArray, List.set_cons_zero, List.set_cons_succ])
        refine skipH (i := 12) rfl (by kernel_rfl) (by kernel_rfl) (by kernel_rfl) (fun _ _ _ h => h) (by rfl) (by assumption) ?_
        (try simp only [Act.put, List.setIfInBounds_toArray, List.set_cons_zero, List.set_cons_succ])
        refine skipH (i := 13) rfl (by kernel_rfl) (by kernel_rfl) (by kernel_rfl) (fun _ _ _ h => h) (by rfl) (by assumption) ?_
        (try simp only [Act.put, List.setIfInBounds_toArray, List.set_cons_zero, List.set_cons_succ])
        refine skipH (i := 14) rfl (by kernel_rfl) (by kernel_rfl) (by kernel_rfl) (fun _ _ _ h => h) (by rfl) (by assumption) ?_
        (try simp only [Act.put, List.setIfInBounds_toArray, List.set_cons_zero, List.set_cons_succ])
        refine takeH (i := 15) (v := (.bool true)) rfl (by kernel_rfl) (by kernel_rfl) (by kernel_rfl) (fun _ _ _ h => h) (by rfl) (by intro w hSw; (try dsimp only at hSw); go_simp) (by assumption) ?_
        (try simp only [Act.put, List.setIfInBounds_toArray, List.set_cons_zero, List.set_cons_succ])
        refine takeH (i := 16) (v := (.bool true)) rfl (by kernel_rfl) (by kernel_rfl) (by kernel_rfl) (fun _ _ _ h => h) (by rfl) (by intro w hSw; (try dsimp only at hSw); go_simp) (by assumption) ?_
        (try simp only [Act.put, List.setIfInBounds_toArray, List.set_cons_zero, List.set_cons_succ])
        refine wpAnyH_done (by kernel_rfl) ?_ _
        go_wp2_with fail
        go_roundg (l.length - j)
        case measure => omega
        case rel => exact ⟨j + 1, j, by omega, by omega, by omega, by go_num, rfl, Lib.hid (bestTo_take leaf l j HIN.out (by omega) (.inl (HK.out.symm.trans HK0.out))).symm, Lib.hid (HBD1.out.trans (HY.out.mono HBD1.out.size)), Lib.hid ((HY.out.block _ (lt_of_block HKd.out)).trans HKd.out)⟩
      · have HK0 := Lib.hid hk0
        have h0b : ((K : Int) == 0) = false := beq_eq_false_iff_ne.2 (by omega)
        have hK0 : (K : Int) ≠ 0 := by omega
        have hKp : 0 < K := by omega
        clear hk0
        obtain ⟨S2, hS2⟩ : ∃ S, sideN l (skOf leaf) (eaOf leaf) K = S := ⟨_, rfl⟩
        have HS2 := Lib.hid hS2
        have hS0 := rc3 HKd.out
        clear hS2
        have hcmp : decide ((S1 : Int) < (S2 : Int)) = decide (S1 < S2) := by
          by_cases h : S1 < S2
          · rw [decide_eq_true h, decide_eq_true (by omega)]
          · rw [decide_eq_false h, decide_eq_false (by omega)]
        obtain ⟨bb, hbb⟩ : ∃ bb, decide (S1 < S2) = bb := ⟨_, rfl⟩
        rw [hbb] at hcmp
        have HBB := Lib.hid hbb
        go_wp2_with fail
        refine wp_region_held_drew (S := fun w' => C3 w' w.heap.size leaf A l.length c B ks.length d) (by kernel_rfl) hS0 (fun hHeld => ?_)
        refine takeH (i := 0) (v := (.agg #[.bool leaf, .slice A l.length c, .slice B ks.length d])) rfl (by kernel_rfl) (by kernel_rfl) (by kernel_rfl) (fun _ _ _ h => h) (by rfl) (by intro w hSw; (try dsimp only at hSw); go_simp) (by assumption) ?_
        (try simp only [Act.put, List.setIfInBounds_toArray, List.set_cons_zero, List.set_cons_succ])
        refine takeH (i := 1) (v := (.int .i64 j)) rfl (by kernel_rfl) (by kernel_rfl) (by kernel_rfl) (fun _ _ _ h => h) (by rfl) (by intro w hSw; (try dsimp only at hSw); go_simp) (by assumption) ?_
        (try simp only [Act.put, List.setIfInBounds_toArray, List.set_cons_zero, List.set_cons_succ])
        refine wpAnyH_ready (rs := [2]) (by kernel_rfl) (by simp) ?_
        refine AllReadyH.cons rfl (fun KK hKK => ?_) AllReadyH.nil
        go_simp
        go_wp2_with (go_at_call 38; (refine HCL.out.mono ?_); rintro e y1 ⟨rfl, hb⟩; have HY1 := Lib.hid hb; have hb2 := (hb.block _ (lt_of_block HKd.out)).trans HKd.out; have HKy1 := Lib.hid hb2; have hS1 := rc3 hb2; have HRy1 := Lib.hid (HR1.out.below hb); have hcl2 := rside_any leaf A c l B d ks y1 HRy1.out HBD.out j (by omega) HIN.out; rw [HS1.out] at hcl2; have HCL2 := Lib.hid hcl2; clear hb hb2 hcl2)
        refine hKK.out _ _ hS1 (fun hHeld => ?_)
        clear hKK KK
        refine takeH (i := 3) (v := (.bool true)) rfl (by kernel_rfl) (by kernel_rfl) (by kernel_rfl) (fun _ _ _ h => h) (by rfl) (by intro w hSw; (try dsimp only at hSw); go_simp) (by assumption) ?_
        (try simp only [Act.put, List.setIfInBounds_toArray, List.set_cons_zero, List.set_cons_succ])
        refine takeH (i := 4) (v := (.bool true)) rfl (by kernel_rfl) (by kernel_rfl) (by kernel_rfl) (fun _ _ _ h => h) (by rfl) (by intro w hSw; (try dsimp only at hSw); go_simp) (by assumption) ?_
        (try simp only [Act.put, List.setIfInBounds_toArray, List.set_cons_zero, List.set_cons_succ])
        refine takeH (i := 5) (v := (.int .i64 K)) rfl (by kernel_rfl) (by kernel_rfl) (by kernel_rfl) (fun _ _ _ h => h) (by rfl) (by intro w hSw; (try dsimp only at hSw); go_simp) (by assumption) ?_
        (try simp only [Act.put, List.setIfInBounds_toArray, List.set_cons_zero, List.set_cons_succ])
        refine takeH (i := 6) (v := (.bool false)) rfl (by kernel_rfl) (by kernel_rfl) (by kernel_rfl) (fun _ _ _ h => h) (by rfl) (by intro w hSw; (try dsimp only at hSw); go_simp) (by assumption) ?_
        (try simp only [Act.put, List.setIfInBounds_toArray, List.set_cons_zero, List.set_cons_succ])
        refine takeH (i := 7) (v := (.bool false)) rfl (by kernel_rfl) (by kernel_rfl) (by kernel_rfl) (fun _ _ _ h => h) (by rfl) (by intro w hSw; (try dsimp only at hSw); go_simp) (by assumption) ?_
        (try simp only [Act.put, List.setIfInBounds_toArray, List.set_cons_zero, List.set_cons_succ])
        refine takeH (i := 11) (v := (.agg #[.bool leaf, .slice A l.length c, .slice B ks.length d])) rfl (by kernel_rfl) (by kernel_rfl) (by kernel_rfl) (fun _ _ _ h => h) (by rfl) (by intro w hSw; (try dsimp only at hSw); go_simp) (by assumption) ?_
        (try simp only [Act.put, List.setIfInBounds_toArray, List.set_cons_zero, List.set_cons_succ])
        refine takeH (i := 12) (v := (.int .i64 K)) rfl (by kernel_rfl) (by kernel_rfl) (by kernel_rfl) (fun _ _ _ h => h) (by rfl) (by intro w hSw; (try dsimp only at hSw); go_simp) (by assumption) ?_
        (try simp only [Act.put, List.setIfInBounds_toArray, List.set_cons_zero, List.set_cons_succ])
        refine takeH (i := 8) (v := (.agg #[.bool leaf, .slice A l.length c, .slice B ks.length d])) rfl (by kernel_rfl) (by kernel_rfl) (by kernel_rfl) (fun _ _ _ h => h) (by rfl) (by intro w hSw; (try dsimp only at hSw); go_simp) (by assumption) ?_
        (try simp only [Act.put, List.setIfInBounds_toArray, List.set_cons_zero, List.set_cons_succ])
        refine takeH (i := 9) (v := (.int .i64 j)) rfl (by kernel_rfl) (by kernel_rfl) (by kernel_rfl) (fun _ _ _ h => h) (by rfl) (by intro w hSw; (try dsimp only at hSw); go_simp) (by assumption) ?_
        (try simp only [Act.put, List.setIfInBounds_toArray, List.set_cons_zero, List.set_cons_succ])
        refine wpAnyH_ready (rs := [10]) (by kernel_rfl) (by simp) ?_
        refine AllReadyH.cons rfl (fun KK hKK => ?_) AllReadyH.nil
        go_simp
        go_wp2_with (go_at_call 38; (refine HCL2.out.mono ?_); rintro e y2 ⟨rfl, hb⟩; have HY2 := Lib.hid hb; have hb2 := (hb.block _ (lt_of_block HKy1.out)).trans HKy1.out; have HKy2 := Lib.hid hb2; have hS2 := rc3 hb2; have HRy2 := Lib.hid (HRy1.out.below hb); have hcl3 := rside_any leaf A c l B d ks y2 HRy2.out HBD.out K hKp HKs.out; rw [HS2.out] at hcl3; have HCL3 := Lib.hid hcl3; clear hb hb2 hcl3)
        refine hKK.out _ _ hS2 (fun hHeld => ?_)
        clear hKK KK
        refine wpAnyH_ready (rs := [13]) (by kernel_rfl) (by simp) ?_
        refine AllReadyH.cons rfl (fun KK hKK => ?_) AllReadyH.nil
        go_simp
        go_wp2_with (go_at_call 38; (refine HCL3.out.mono ?_); rintro e y3 ⟨rfl, hb⟩; have HY3 := Lib.hid hb; have hb2 := (hb.block _ (lt_of_block HKy2.out)).trans HKy2.out; have HKy3 := Lib.hid hb2; have hS3 := rc3 hb2; clear hb hb2)
        refine hKK.out _ _ hS3 (fun hHeld => ?_)
        clear hKK KK
        refine takeH (i := 14) (v := (.bool bb)) rfl (by kernel_rfl) (by kernel_rfl) (by kernel_rfl) (fun _ _ _ h => h) (by rfl) (by intro w hSw; (try dsimp only at hSw); go_simp) (by assumption) ?_
        (try simp only [Act.put, List.setIfInBounds_toArray, List.set_cons_zero, List.set_cons_succ])
        refine takeH (i := 15) (v := (.bool bb)) rfl (by kernel_rfl) (by kernel_rfl) (by kernel_rfl) (fun _ _ _ h => h) (by rfl) (by intro w hSw; (try dsimp only at hSw); go_simp) (by assumption) ?_
        (try simp only [Act.put, List.setIfInBounds_toArray, List.set_cons_zero, List.set_cons_succ])
        refine takeH (i := 16) (v := (.bool bb)) rfl (by kernel_rfl) (by kernel_rfl) (by kernel_rfl) (fun _ _ _ h => h) (by rfl) (by intro w hSw; (try dsimp only at hSw); go_simp) (by assumption) ?_
        (try simp only [Act.put, List.setIfInBounds_toArray, List.set_cons_zero, List.set_cons_succ])
        refine wpAnyH_done (by kernel_rfl) ?_ _
        have HBy : Hid (Below w.heap.size w y3) := (by
          have l1 := HBD1.out.trans (HY1.out.mono HBD1.out.size)
          have l2 := l1.trans (HY2.out.mono l1.size)
          exact l2.trans (HY3.out.mono l2.size) : Below w.heap.size w y3)
        cases bb with
        | true =>
          have hlt3 : S1 < S2 := of_decide_eq_true HBB.out
          go_wp2_with fail
          go_roundg (l.length - j)
          case measure => omega
          case rel => exact ⟨j + 1, j, by omega, by omega, by omega, by go_num, rfl, Lib.hid (bestTo_take leaf l j HIN.out (by omega) (.inr (by rw [← HK.out, HS1.out, HS2.out]; exact hlt3))).symm, HBy, HKy3⟩
        | false =>
          have hlt3 : ¬ S1 < S2 := of_decide_eq_false HBB.out
          go_wp2_with fail
          go_roundg (l.length - j)
          case measure => omega
          case rel => exact ⟨j + 1, K, by omega, by omega, by omega, by go_num, rfl, Lib.hid (HK.out.trans (bestTo_keep leaf l j HIN.out (by omega) (by rw [← HK.out]; exact HK0.out) (by rw [← HK.out, HS1.out, HS2.out]; exact hlt3)).symm), HBy, HKy3⟩
    · have hlt2 : ¬ (j : Int) < (l.length : Int) := by omega
      obtain rfl : j = l.length := by omega
      go_wp2_with fail
      go_ret
      exact ⟨by rw [HK.out, bestTo_end]; rfl, HB.out⟩

theorem kd_take {w : World} {ad : Addr} {l : List Int} (h : Kd.C (Kd.int .i64) w (some ad) l.length l) (i : Nat) (hi : i ≤ l.length) (hl : l.length ≤ 1000000) : Kd.C (Kd.int .i64) w (some ad) (l.take i).length (l.take i) := by
  have e : (l.take i).length = i := by rw [List.length_take]; omega
  refine Kd.C_of_reads (d := 0) ⟨rfl, by omega, fun _ => ⟨ad, rfl, fun j hj => ?_⟩⟩
  obtain ⟨ad2, e2, hc⟩ := Kd.at_int h (j : Int) (by omega) (by omega)
  injection e2 with e2
  subst e2
  rw [Int.toNat_natCast] at hc
  rw [hc]
  have hj2 : j < l.length := by omega
  simp [rd, List.getElem?_take, show j < i by omega, hj2]
theorem kd_drop {w : World} {ad : Addr} {l : List Int} (h : Kd.C (Kd.int .i64) w (some ad) l.length l) (i : Nat) (hi : i ≤ l.length) (hl : l.length ≤ 1000000) : Kd.C (Kd.int .i64) w (some (ad.add i)) (l.drop i).length (l.drop i) := by
  have e : (l.drop i).length = l.length - i := List.length_drop
  refine Kd.C_of_reads (d := 0) ⟨rfl, by omega, fun _ => ⟨ad.add i, rfl, fun j hj => ?_⟩⟩
  obtain ⟨ad2, e2, hc⟩ := Kd.at_int h ((i + j : Nat) : Int) (by omega) (by omega)
  injection e2 with e2
  subst e2
  rw [Int.toNat_natCast] at hc
  rw [Addr.add_add, hc]
  have hj2 : i + j < l.length := by omega
  have e3 : ((i : Int) + (j : Int)).toNat = i + j := by omega
  simp [rd, e3, hj2]
theorem sub_zero {α : Type} (l : List α) (b : Nat) : sub l 0 b = l.take b := by simp [sub]
theorem sub_end {α : Type} (l : List α) (a b : Nat) (h : l.length ≤ b) : sub l a b = l.drop a := by
  unfold sub
  rw [List.take_of_length_le]
  rw [List.length_drop]
  omega
theorem nil_rows (w : World) : Kd.C (Kd.int .i64) w none ([] : List Int).length [] := Kd.C_of_reads (d := 0) ⟨rfl, by simp, fun h => absurd h (by simp)⟩
/-- The halves, joined, are the node's entries. -/
theorem join_recs (leaf : Bool) (l : List ByteArray) (K : Nat) (h : K < l.length) : (if leaf = true then sub l 0 K ++ sub l (K + skOf leaf) l.length else sub l 0 K ++ rec l K :: sub l (K + skOf leaf) l.length) = l := by
  rw [sub_zero, sub_end _ _ _ (Nat.le_refl _)]
  cases leaf with
  | true => simp [skOf]
  | false =>
    have e : rec l K = l[K] := by simp [rec, h]
    simp only [skOf, Bool.false_eq_true, if_false, e]
    rw [List.getElem_cons_drop, List.take_append_drop]
theorem join_kids (leaf : Bool) (l : List ByteArray) (ks : List Int) (K : Nat) (hs : Shp leaf l ks) (h : K < l.length) : (if leaf = true then [] else kidsOf leaf ks 0 K ++ kidsOf leaf ks (K + skOf leaf) l.length) = ks := by
  have hn := hs.len
  cases leaf with
  | true =>
    have : ks.length = 0 := hn
    rw [if_pos rfl, List.eq_nil_of_length_eq_zero this]
  | false =>
    have : ks.length = l.length + 1 := hn
    simp only [kidsOf, skOf, Bool.false_eq_true, if_false]
    rw [sub_zero, sub_end _ _ _ (by omega), List.take_append_drop]
theorem split2_any (leaf : Bool) (A : Option Addr) (c : Nat) (l : List ByteArray) (B : Option Addr) (d : Nat) (ks : List Int) (w : World) (hr : RdN w A c l B d ks) (hbd : Bd l ks) (hlen : if leaf = true then 2 ≤ l.length else 3 ≤ l.length ∧ ks.length = l.length + 1)
    (K n2 m1 m2 : Nat) (hK : cutK leaf l = K) (e0 : (sub l 0 K).length = K) (e1 : (sub l (K + skOf leaf) l.length).length = n2) (e2 : (kidsOf leaf ks 0 K).length = m1) (e3 : (kidsOf leaf ks (K + skOf leaf) l.length).length = m2) :
    Calls Try.prog 18 #[.agg #[.bool leaf, .slice A l.length c, .slice B ks.length d]] w fun e w' => ∃ A1 c1 B1 d1 A2 c2 B2 d2, e = .returned (.tuple #[.agg #[.bool leaf, .slice A1 K c1, .slice B1 m1 d1], .string (rec l K), .agg #[.bool leaf, .slice A2 n2 c2, .slice B2 m2 d2]]) ∧
      Made w w' A1 c1 (sub l 0 K) B1 d1 (kidsOf leaf ks 0 K) ∧ Made w w' A2 c2 (sub l (K + skOf leaf) l.length) B2 d2 (kidsOf leaf ks (K + skOf leaf) l.length) ∧ Below w.heap.size w w' := by
  refine (split_any leaf A c l B d ks w hr hbd hlen).mono ?_
  rintro e w' h
  unfold SplitIs at h
  rw [hK, e0, e1, e2, e3] at h
  exact h
theorem join2_any (leaf : Bool) (l : List ByteArray) (ks : List Int) (K n2 m1 m2 : Nat) (hs : Shp leaf l ks) (hK : K < l.length) (hbd : Bd l ks) (A1 : Option Addr) (c1 : Nat) (B1 : Option Addr) (d1 : Nat) (A2 : Option Addr) (c2 : Nat) (B2 : Option Addr) (d2 : Nat) (w : World)
    (e0 : (sub l 0 K).length = K) (e1 : (sub l (K + skOf leaf) l.length).length = n2) (e2 : (kidsOf leaf ks 0 K).length = m1) (e3 : (kidsOf leaf ks (K + skOf leaf) l.length).length = m2)
    (h1 : Rows2 w A1 c1 (sub l 0 K) B1 d1 (kidsOf leaf ks 0 K)) (h2 : Rows2 w A2 c2 (sub l (K + skOf leaf) l.length) B2 d2 (kidsOf leaf ks (K + skOf leaf) l.length)) (hm1 : m1 ≤ 1000) (hm2 : m2 ≤ 1000) (hn2 : n2 ≤ 1000) :
    Calls Try.prog 26 #[.agg #[.bool leaf, .slice A1 K c1, .slice B1 m1 d1], .string (rec l K), .agg #[.bool leaf, .slice A2 n2 c2, .slice B2 m2 d2]] w fun e w' => ∃ A c B d, e = .returned (.agg #[.bool leaf, .slice A l.length c, .slice B ks.length d]) ∧
      OwnS w' w.heap.size A c l ∧ OwnI w' w.heap.size B d ks ∧ Below w.heap.size w w' := by
  have hln := hbd.len
  have h := join_any leaf leaf A1 c1 (sub l 0 K) B1 d1 (kidsOf leaf ks 0 K) (rec l K) A2 c2 (sub l (K + skOf leaf) l.length) B2 d2 (kidsOf leaf ks (K + skOf leaf) l.length) w h1 h2 (by omega) (by omega) (by omega) (by omega)
  rw [join_recs leaf l K hK, join_kids leaf l ks K hs hK, e0, e1, e2, e3] at h
  exact h
theorem RdN.of {w : World} {base base' : Nat} {A : Option Addr} {c : Nat} {l : List ByteArray} {B : Option Addr} {d : Nat} {ks : List Int} (h1 : OwnS w base A c l) (h2 : OwnI w base' B d ks) : RdN w A c l B d ks := ⟨h1.reads.1, h2.reads.1, h1.reads.2, h2.reads.2⟩
/-- What the law's last statement reads. -/
structure Five (w : World) (ba bb bx by_ b3 : Nat) (oa ob ox oy o3 : Obj) (p : Addr) (v : Value) : Prop where
  a : w.heap[ba]? = some oa
  b : w.heap[bb]? = some ob
  x : w.heap[bx]? = some ox
  y : w.heap[by_]? = some oy
  n : w.heap[b3]? = some o3
  c : w.cell? p = some v
theorem Five.below {w w' : World} {ba bb bx by_ b3 : Nat} {oa ob ox oy o3 : Obj} {p : Addr} {v : Value} (h : Five w ba bb bx by_ b3 oa ob ox oy o3 p v) (hb : Below w.heap.size w w') : Five w' ba bb bx by_ b3 oa ob ox oy o3 p v :=
  ⟨(hb.block _ (lt_of_block h.a)).trans h.a, (hb.block _ (lt_of_block h.b)).trans h.b, (hb.block _ (lt_of_block h.x)).trans h.x, (hb.block _ (lt_of_block h.y)).trans h.y, (hb.block _ (lt_of_block h.n)).trans h.n, (World.cell?_of_block (w := w) (a := p) (hb.block _ (World.block_lt_of_cell? w _ h.c))).trans h.c⟩
/-- The rows of the halves, of what the document cuts, of the node. -/
structure Rds (w : World) (A1 : Option Addr) (c1 : Nat) (B1 : Option Addr) (d1 : Nat) (A2 : Option Addr) (c2 : Nat) (B2 : Option Addr) (d2 : Nat) (A : Option Addr) (c : Nat) (B : Option Addr) (d : Nat) (YA : Option Addr) (yc : Nat) (XB : Option Addr) (xd : Nat) (YB : Option Addr) (yd : Nat) (l N1 N2 : List ByteArray) (ks M1 M2 : List Int) : Prop where
  a : RdN w A1 c1 N1 B1 d1 M1
  b : RdN w A2 c2 N2 B2 d2 M2
  x : RdN w A c N1 XB xd M1
  y : RdN w YA yc N2 YB yd M2
  n : RdN w A c l B d ks
  a2 : Rows2 w A1 c1 N1 B1 d1 M1
  b2 : Rows2 w A2 c2 N2 B2 d2 M2
theorem Rds.below {w w' : World} {A1 : Option Addr} {c1 : Nat} {B1 : Option Addr} {d1 : Nat} {A2 : Option Addr} {c2 : Nat} {B2 : Option Addr} {d2 : Nat} {A : Option Addr} {c : Nat} {B : Option Addr} {d : Nat} {YA : Option Addr} {yc : Nat} {XB : Option Addr} {xd : Nat} {YB : Option Addr} {yd : Nat} {l N1 N2 : List ByteArray} {ks M1 M2 : List Int}
    (h : Rds w A1 c1 B1 d1 A2 c2 B2 d2 A c B d YA yc XB xd YB yd l N1 N2 ks M1 M2) (hb : Below w.heap.size w w') : Rds w' A1 c1 B1 d1 A2 c2 B2 d2 A c B d YA yc XB xd YB yd l N1 N2 ks M1 M2 :=
  ⟨h.a.below hb, h.b.below hb, h.x.below hb, h.y.below hb, h.n.below hb, h.a2.below hb (Nat.le_refl _), h.b2.below hb (Nat.le_refl _)⟩
/-- Same, of rows whose lengths are told as numbers. -/
theorem same2_any (leaf : Bool) (A : Option Addr) (c : Nat) (l : List ByteArray) (B : Option Addr) (d : Nat) (ks : List Int) (A' : Option Addr) (c' : Nat) (B' : Option Addr) (d' : Nat) (w : World) (n m : Nat) (hr : RdN w A c l B d ks) (hr' : RdN w A' c' l B' d' ks) (en : l.length = n) (em : ks.length = m) (hl : n ≤ 1000000) (hk : m ≤ 1000000) :
    Calls Try.prog 23 #[.agg #[.bool leaf, .slice A n c, .slice B m d], .agg #[.bool leaf, .slice A' n c', .slice B' m d']] w fun e w' => e = .returned (.bool true) ∧ Below w.heap.size w w' := by
  subst en em
  exact rsame_any leaf A c l B d ks A' c' B' d' w hr hr' hl hk

/-- What holds behind the two halves, in numbers: the node's box, the document's, the halves'. -/
structure Mid (w wz : World) (b3 ba bb : Nat) (leaf : Bool) (A : Option Addr) (c : Nat) (l : List ByteArray) (B : Option Addr) (d : Nat) (ks : List Int) (K n2 m1 m2 : Nat) (A1 : Option Addr) (c1 : Nat) (B1 : Option Addr) (d1 : Nat) (A2 : Option Addr) (c2 : Nat) (B2 : Option Addr) (d2 : Nat) (N1 N2 : List ByteArray) (M1 M2 : List Int) : Prop where
  nds : Nds wz w.heap.size b3 leaf A c l B d ks
  a : wz.heap[ba]? = some (.cells #[.bool leaf, .slice A1 K c1, .slice B1 m1 d1] 25)
  b : wz.heap[bb]? = some (.cells #[.bool leaf, .slice A2 n2 c2, .slice B2 m2 d2] 25)
  ra : RdN wz A1 c1 N1 B1 d1 M1
  rb : RdN wz A2 c2 N2 B2 d2 M2
  a2 : Rows2 wz A1 c1 N1 B1 d1 M1
  b2 : Rows2 wz A2 c2 N2 B2 d2 M2
  low : Below w.heap.size w wz
theorem Mid.below {w wz wy : World} {b3 ba bb : Nat} {leaf : Bool} {A : Option Addr} {c : Nat} {l : List ByteArray} {B : Option Addr} {d : Nat} {ks : List Int} {K n2 m1 m2 : Nat} {A1 : Option Addr} {c1 : Nat} {B1 : Option Addr} {d1 : Nat} {A2 : Option Addr} {c2 : Nat} {B2 : Option Addr} {d2 : Nat} {N1 N2 : List ByteArray} {M1 M2 : List Int}
    (h : Mid w wz b3 ba bb leaf A c l B d ks K n2 m1 m2 A1 c1 B1 d1 A2 c2 B2 d2 N1 N2 M1 M2) (hb : Below wz.heap.size wz wy) : Mid w wy b3 ba bb leaf A c l B d ks K n2 m1 m2 A1 c1 B1 d1 A2 c2 B2 d2 N1 N2 M1 M2 :=
  ⟨h.nds.below hb, (hb.block _ (lt_of_block h.a)).trans h.a, (hb.block _ (lt_of_block h.b)).trans h.b, h.ra.below hb, h.rb.below hb, h.a2.below hb (Nat.le_refl _), h.b2.below hb (Nat.le_refl _), h.low.trans (hb.mono h.low.size)⟩
theorem new3 (w : World) (t : TypeId) (o : Obj) (x y z a b c : Value) (ho : o = .cells #[x, y, z] t) : ((((w.alloc o).setCell ⟨w.heap.size, 0, none⟩ a).setCell ⟨w.heap.size, 1, none⟩ b).setCell ⟨w.heap.size, 2, none⟩ c).heap[w.heap.size]? = some (.cells #[a, b, c] t) ∧ Below w.heap.size w ((((w.alloc o).setCell ⟨w.heap.size, 0, none⟩ a).setCell ⟨w.heap.size, 1, none⟩ b).setCell ⟨w.heap.size, 2, none⟩ c) := by
  subst ho
  have h := heap_alloc_new w (.cells #[x, y, z] t)
  have hb : Below w.heap.size w (w.alloc (.cells #[x, y, z] t)) := (Below.refl _ _).alloc (Nat.le_refl _) _
  exact ⟨s3_self h a b c, hb.trans (s3_frm h (Nat.le_refl _) a b c).low⟩

theorem Five.S {w : World} {ba bb bx by_ b3 : Nat} {f1 f2 f3 f4 f5 : Bool} {A1 A2 A3 A4 A5 B1 B2 B3 B4 B5 : Option Addr} {n1 n2 n3 n4 n5 c1 c2 c3 c4 c5 m1 m2 m3 m4 m5 d1 d2 d3 d4 d5 : Nat} {p : Addr} {v : Value}
    (h : Five w ba bb bx by_ b3 (NodeObj f1 A1 n1 c1 B1 m1 d1) (NodeObj f2 A2 n2 c2 B2 m2 d2) (RNodeObj f3 A3 n3 c3 B3 m3 d3) (RNodeObj f4 A4 n4 c4 B4 m4 d4) (RNodeObj f5 A5 n5 c5 B5 m5 d5) p v) :
    C3 w ba f1 A1 n1 c1 B1 m1 d1 ∧ C3 w bb f2 A2 n2 c2 B2 m2 d2 ∧ C3 w bx f3 A3 n3 c3 B3 m3 d3 ∧ C3 w by_ f4 A4 n4 c4 B4 m4 d4 ∧ C3 w b3 f5 A5 n5 c5 B5 m5 d5 ∧ w.cell? p = some v :=
  ⟨⟨(cell_of_block h.a 0).trans rfl, (cell_of_block h.a 1).trans rfl, (cell_of_block h.a 2).trans rfl⟩, ⟨(cell_of_block h.b 0).trans rfl, (cell_of_block h.b 1).trans rfl, (cell_of_block h.b 2).trans rfl⟩, rc3 h.x, rc3 h.y, rc3 h.n, h.c⟩

set_option maxRecDepth 100000 in
set_option maxHeartbeats 8000000 in
theorem pageSplits_true (A : Option Addr) (c : Nat) (l : List ByteArray) (B : Option Addr) (d : Nat) (ks : List Int) (w : World) (hr : RdN w A c l B d ks) :
    Calls Try.prog 7 #[.agg #[.bool true, .slice A l.length c, .slice B ks.length d]] w fun e w' => e = .returned (.bool true) ∧ Below w.heap.size w w' := by
  have hnot := @unary_not Try.prog
  have HR := Lib.hid hr
  have hrc := hr.rc
  have hkc := hr.kc
  clear hr
  have hblk := heap_alloc_new w (NodeObj true A l.length c B ks.length d)
  obtain ⟨w1, hw1⟩ : ∃ w1, w1 = w.alloc (.cells #[.bool true, .slice A l.length c, .slice B ks.length d] 25) := ⟨_, rfl⟩
  replace hblk : w1.heap[w.heap.size]? = some (NodeObj true A l.length c B ks.length d) := by rw [hw1]; exact hblk
  have HB1 : Hid (Below w.heap.size w w1) := (by rw [hw1]; exact (Below.refl _ _).alloc (Nat.le_refl _) _ : Below w.heap.size w w1)
  have HBK1 := Lib.hid hblk
  clear hblk
  go_enter Try.func7, Try.ntmps7
  go_upto_region 1 with (fail)
  rw [← hw1]
  clear hw1
  go_wp2_with fail
  refine (awake_any _).mono ?_
  rintro e w2 ⟨rfl, hb2⟩
  have HB2 := Lib.hid (HB1.out.trans (hb2.mono HB1.out.size))
  have HBK2 := Lib.hid ((hb2.block _ (lt_of_block HBK1.out)).trans HBK1.out)
  clear hb2 HB1 HBK1
  obtain ⟨n0, n1, n2, f0, f1, f2, nl⟩ := three_of_block HBK2.out
  go_wp2_with fail
  refine (plain_any true A l.length c B ks.length d _).mono ?_
  rintro e w4 ⟨rfl, hb4⟩
  have HB4 := Lib.hid (HB2.out.trans (hb4.mono HB2.out.size))
  have HBK4 := Lib.hid ((hb4.block _ nl).trans HBK2.out)
  clear hb4 n0 n1 n2 f0 f1 f2 nl HB2 HBK2
  go_upto_region 4 with (fail)
  have h5 := heap_alloc_new w4 (RNodeObj true A l.length c B ks.length d)
  have hb5 : Below w4.heap.size w4 (w4.alloc (RNodeObj true A l.length c B ks.length d)) := (Below.refl _ _).alloc (Nat.le_refl _) _
  obtain ⟨w5, hw5⟩ : ∃ w5, w5 = w4.alloc (.cells #[.bool true, .slice A l.length c, .slice B ks.length d] 29) := ⟨_, rfl⟩
  replace h5 : w5.heap[w4.heap.size]? = some (RNodeObj true A l.length c B ks.length d) := by rw [hw5]; exact h5
  replace hb5 : Below w4.heap.size w4 w5 := by rw [hw5]; exact hb5
  rw [← hw5]
  clear hw5
  obtain ⟨b3, hb3⟩ : ∃ b3, b3 = w4.heap.size := ⟨_, rfl⟩
  have hne : w.heap.size ≠ b3 := by rw [hb3]; exact Nat.ne_of_lt (lt_of_block HBK4.out)
  rw [← hb3] at h5 ⊢
  clear hb3
  have HNE := Lib.hid hne
  have HB5 := Lib.hid (HB4.out.trans (hb5.mono HB4.out.size))
  have HN5 : Hid (Nds w5 w.heap.size b3 true A c l B d ks) := ⟨(hb5.block _ (lt_of_block HBK4.out)).trans HBK4.out, h5, HR.out.below HB5.out⟩
  clear h5 hb5 HBK4 HB4 hne
  obtain ⟨n0, n1, n2, f0, f1, f2, nl⟩ := three_of_block HN5.out.nod
  go_wp2_with fail
  refine (great_any true A c l B d ks _ HN5.out.rd).mono ?_
  rintro e w6 ⟨g, rfl, hg, hb6⟩
  have HB6 := Lib.hid (HB5.out.trans (hb6.mono HB5.out.size))
  have HN6 := Lib.hid (HN5.out.below hb6)
  have HG := Lib.hid hg
  clear hg hb6 n0 n1 n2 f0 f1 f2 nl HN5 HB5
  cases g with
  | true =>
    go_wp2_with fail
    go_ret
    exact ⟨rfl, HB6.out⟩
  | false =>
  have HSM := Lib.hid (HG.out rfl)
  have HBD : Hid (Bd l ks) := HSM.out.bd
  obtain ⟨n0, n1, n2, f0, f1, f2, nl⟩ := three_of_block HN6.out.rno
  go_wp2_with fail
  refine (rshaped_any true A c l B d ks _ HN6.out.rd (Nat.le_trans HSM.out.len (by omega)) (Nat.le_trans HSM.out.kids (by omega))).mono ?_
  rintro e w7 ⟨b, rfl, hsh, hb7⟩
  have HB7 := Lib.hid (HB6.out.trans (hb7.mono HB6.out.size))
  have HN7 := Lib.hid (HN6.out.below hb7)
  have HSH := Lib.hid hsh
  clear hsh hb7 n0 n1 n2 f0 f1 f2 nl HN6 HB6
  cases b with
  | false =>
    go_wp2_with fail
    go_ret
    exact ⟨rfl, HB7.out⟩
  | true =>
  have HSHP : Hid (Shp true l ks) := (of_eq_true (by simpa using HSH.out) : Shp true l ks)
  have hl400 := HSM.out.len
  have hk400 := HSM.out.kids
  obtain ⟨n0, n1, n2, f0, f1, f2, nl⟩ := three_of_block HN7.out.nod
  by_cases hlt2 : l.length < 2
  · have hlt2b : decide ((l.length : Int) < 2) = true := decide_eq_true (by omega)
    have hlt2c : (l.length : Int) < 2 := by omega
    go_wp2_with fail
    go_ret
    exact ⟨rfl, HB7.out⟩
  have hlt2b : decide ((l.length : Int) < 2) = false := decide_eq_false (by omega)
  have hlt2c : ¬ (l.length : Int) < 2 := by omega
  have HLEN : Hid (if true = true then 2 ≤ l.length else 3 ≤ l.length ∧ ks.length = l.length + 1) := (by simp; omega : if true = true then 2 ≤ l.length else 3 ≤ l.length ∧ ks.length = l.length + 1)
  obtain ⟨K, hK⟩ : ∃ K, cutK true l = K := ⟨_, rfl⟩
  have hkl : 2 ≤ l.length := by omega
  have hKp : 0 < K := by rw [← hK]; exact cutTo_pos _ _ (by simp only [skOf]; simp; omega)
  have hKl : K + 0 < l.length := by
    have h := cutTo_lt (sideN l (skOf true) (eaOf true)) (l.length - skOf true) (by simp only [skOf]; simp; omega)
    have h2 : cutTo (sideN l (skOf true) (eaOf true)) (l.length - skOf true) = K := hK
    rw [h2] at h
    simp only [skOf] at h
    simp at h
    omega
  have e0 : (sub l 0 K).length = K := by rw [sub_len _ _ _ (by omega)]; omega
  have e1 : (sub l (K + skOf true) l.length).length = l.length - K := by rw [sub_len _ _ _ (Nat.le_refl _)]; simp [skOf]
  have e2 : (kidsOf true ks 0 K).length = 0 := by simp [kidsOf]
  have e3 : (kidsOf true ks (K + skOf true) l.length).length = 0 := by simp [kidsOf]
  have HK := Lib.hid hK
  have HE0 := Lib.hid e0
  have HE1 := Lib.hid e1
  have HE2 := Lib.hid e2
  have HE3 := Lib.hid e3
  have HKL := Lib.hid hkl
  have hkl2 : 2 ≤ l.length := by omega
  clear hK e0 e1 e2 e3 hkl
  obtain ⟨ad, hA, -⟩ := Kd.at_string HR.out.recs 0 (by omega) (by omega)
  subst hA

  go_wp2_with fail
  refine (split2_any true (some ad) c l B d ks _ HN7.out.rd HBD.out HLEN.out K (l.length - K) (0) (0) HK.out HE0.out HE1.out HE2.out HE3.out).mono ?_
  rintro e w8 ⟨A1, c1, B1, d1, A2, c2, B2, d2, rfl, hm1, hm2, hb8⟩
  have HB8 := Lib.hid (HB7.out.trans (hb8.mono HB7.out.size))
  have HN8 := Lib.hid (HN7.out.below hb8)
  obtain ⟨N1, hN1⟩ : ∃ N1, sub l 0 K = N1 := ⟨_, rfl⟩
  obtain ⟨N2, hN2⟩ : ∃ N2, sub l (K + skOf true) l.length = N2 := ⟨_, rfl⟩
  obtain ⟨M1, hM1⟩ : ∃ M1, kidsOf true ks 0 K = M1 := ⟨_, rfl⟩
  obtain ⟨M2, hM2⟩ : ∃ M2, kidsOf true ks (K + skOf true) l.length = M2 := ⟨_, rfl⟩
  have HN1 := Lib.hid hN1
  have HN2 := Lib.hid hN2
  have HM1 := Lib.hid hM1
  have HM2 := Lib.hid hM2
  have HMD1 : Hid (Made w7 w8 A1 c1 N1 B1 d1 M1) := (by rw [← hN1, ← hM1]; exact hm1 : Made w7 w8 A1 c1 N1 B1 d1 M1)
  have HMD2 : Hid (Made w7 w8 A2 c2 N2 B2 d2 M2) := (by rw [← hN2, ← hM2]; exact hm2 : Made w7 w8 A2 c2 N2 B2 d2 M2)
  clear hb8 hm1 hm2 hN1 hN2 hM1 hM2 n0 n1 n2 f0 f1 f2 nl HN7 HB7
  obtain ⟨s, hs⟩ : ∃ s, rec l K = s := ⟨_, rfl⟩
  rw [hs]
  have HS := Lib.hid hs
  clear hs
  have hq1 : ((w8.alloc (.cells #[.bool true, .slice A1 K c1, .slice B1 (0) d1] 25)).alloc (.cells #[.bool true, .slice A2 (l.length - K) c2, .slice B2 (0) d2] 25)).heap[w8.heap.size]? = some (.cells #[.bool true, .slice A1 K c1, .slice B1 (0) d1] 25) := blk_alloc (heap_alloc_new _ _) _
  have hq2 : ((w8.alloc (.cells #[.bool true, .slice A1 K c1, .slice B1 (0) d1] 25)).alloc (.cells #[.bool true, .slice A2 (l.length - K) c2, .slice B2 (0) d2] 25)).heap[w8.heap.size + 1]? = some (.cells #[.bool true, .slice A2 (l.length - K) c2, .slice B2 (0) d2] 25) := heap_alloc_at _ _ _ (by rw [heap_alloc_size])
  have hq3 : Below w8.heap.size w8 ((w8.alloc (.cells #[.bool true, .slice A1 K c1, .slice B1 (0) d1] 25)).alloc (.cells #[.bool true, .slice A2 (l.length - K) c2, .slice B2 (0) d2] 25)) := ((Below.refl _ _).alloc (Nat.le_refl _) _).alloc (by rw [heap_alloc_size]; exact Nat.le_succ _) _
  go_upto_region 7 with (fail)
  obtain ⟨w9, hw9⟩ : ∃ w9, w9 = ((w8.alloc (.cells #[.bool true, .slice A1 K c1, .slice B1 (0) d1] 25)).alloc (.cells #[.bool true, .slice A2 (l.length - K) c2, .slice B2 (0) d2] 25)) := ⟨_, rfl⟩
  rw [← hw9] at hq1 hq2 hq3 ⊢
  clear hw9
  obtain ⟨ba, hba⟩ : ∃ ba, ba = w8.heap.size := ⟨_, rfl⟩
  obtain ⟨bb, hbb⟩ : ∃ bb, bb = w8.heap.size + 1 := ⟨_, rfl⟩
  rw [← hba] at hq1
  rw [← hbb] at hq2
  have HM9 : Hid (Mid w w9 b3 ba bb true (some ad) c l B d ks K (l.length - K) (0) (0) A1 c1 B1 d1 A2 c2 B2 d2 N1 N2 M1 M2) := ⟨HN8.out.below hq3, hq1, hq2, (RdN.of HMD1.out.recs HMD1.out.kids).below hq3, (RdN.of HMD2.out.recs HMD2.out.kids).below hq3, (Rows2.of HMD1.out.recs HMD1.out.kids).below hq3 (Nat.le_refl _), (Rows2.of HMD2.out.recs HMD2.out.kids).below hq3 (Nat.le_refl _), HB8.out.trans (hq3.mono HB8.out.size)⟩
  rw [← hbb, ← hba]
  clear hq1 hq2 hq3 hba hbb HMD1 HMD2 HN8 HB8
  obtain ⟨n0, n1, n2, f0, f1, f2, nl⟩ := three_of_block HM9.out.nds.rno
  go_wp2_with fail
  refine (rcut_any true (some ad) c l B d ks _ HM9.out.nds.rd HBD.out (by simp only [skOf]; simp; omega)).mono ?_
  rintro e wa ⟨rfl, hba⟩
  rw [HK.out]
  have HMa := Lib.hid (HM9.out.below hba)
  clear hba n0 n1 n2 f0 f1 f2 nl HM9
  obtain ⟨n0, n1, n2, f0, f1, f2, nl⟩ := three_of_block HMa.out.nds.rno
  have hS0 := And.intro HMa.out.nds.drew.c0 HMa.out.nds.drew.c3
  have i1 : (K : Int) ≤ (c : Int) := by omega
  have i2 : (K : Int) ≤ (l.length : Int) := by omega
  have hcK : c ≠ K := by omega
  go_wp2_with fail
  have hz := heap_alloc_new wa (.cells #[.bool false, .slice none 0 0, .slice none 0 0] 29)
  have hbz : Below wa.heap.size wa (wa.alloc (.cells #[.bool false, .slice none 0 0, .slice none 0 0] 29)).drew := below_drewN ((Below.refl _ _).alloc (Nat.le_refl _) _) 1
  have HMz := Lib.hid (HMa.out.below hbz)
  have hSz := And.intro HMz.out.nds.c0 HMz.out.nds.c3
  obtain ⟨z0, z1, z2, zf0, zf1, zf2, zl⟩ := three_of_block (w := (wa.alloc (.cells #[.bool false, .slice none 0 0, .slice none 0 0] 29)).drew) hz
  have hx := heap_alloc_new wa (.cells  #[.bool true, .slice (some ad) K c, .slice none 0 0] 29)
  have hbx : Below wa.heap.size wa (wa.alloc (.cells  #[.bool true, .slice (some ad) K c, .slice none 0 0] 29)).drew := below_drewN ((Below.refl _ _).alloc (Nat.le_refl _) _) 1
  have HMx := Lib.hid (HMa.out.below hbx)
  have hSx := And.intro HMx.out.nds.c0 HMx.out.nds.c3
  clear n0 n1 n2 f0 f1 f2 nl
  refine wp_region_held_drew (S := fun w' => C3 w' w.heap.size true (some ad) l.length c B ks.length d ∧ C3 w' b3 true (some ad) l.length c B ks.length d) (by kernel_rfl) hS0 (fun hHeld => ?_)
  refine takeH (i := 0) (v := (.pointer (some ⟨w.heap.size, 0, none⟩))) rfl (by kernel_rfl) (by kernel_rfl) (by kernel_rfl) (fun _ _ _ h => h) (by rfl) (by intro w hSw; (try dsimp only at hSw); go_simp) (by assumption) ?_
  (try simp only [Act.put, List.setIfInBounds_toArray, List.set_cons_zero, List.set_cons_succ])
  refine takeH (i := 1) (v := (.bool true)) rfl (by kernel_rfl) (by kernel_rfl) (by kernel_rfl) (fun _ _ _ h => h) (by rfl) (by intro w hSw; (try dsimp only at hSw); go_simp) (by assumption) ?_
  (try simp only [Act.put, List.setIfInBounds_toArray, List.set_cons_zero, List.set_cons_succ])
  refine takeH (i := 2) (v := (.pointer (some ⟨b3, 1, none⟩))) rfl (by kernel_rfl) (by kernel_rfl) (by kernel_rfl) (fun _ _ _ h => h) (by rfl) (by intro w hSw; (try dsimp only at hSw); go_simp) (by assumption) ?_
  (try simp only [Act.put, List.setIfInBounds_toArray, List.set_cons_zero, List.set_cons_succ])
  refine takeH (i := 3) (v := (.slice (some ad) l.length c)) rfl (by kernel_rfl) (by kernel_rfl) (by kernel_rfl) (fun _ _ _ h => h) (by rfl) (by intro w hSw; (try dsimp only at hSw); go_simp) (by assumption) ?_
  (try simp only [Act.put, List.setIfInBounds_toArray, List.set_cons_zero, List.set_cons_succ])
  refine takeH (i := 4) (v := (.int .i64 K)) rfl (by kernel_rfl) (by kernel_rfl) (by kernel_rfl) (fun _ _ _ h => h) (by rfl) (by intro w hSw; (try dsimp only at hSw); go_simp) (by assumption) ?_
  (try simp only [Act.put, List.setIfInBounds_toArray, List.set_cons_zero, List.set_cons_succ])
  refine takeH (i := 5) (v := (.slice (some ad) K c)) rfl (by kernel_rfl) (by kernel_rfl) (by kernel_rfl) (fun _ _ _ h => h) (by rfl) (by intro w hSw; (try dsimp only at hSw); go_simp) (by assumption) ?_
  (try simp only [Act.put, List.setIfInBounds_toArray, List.set_cons_zero, List.set_cons_succ])
  refine takeH (i := 6) (v := (.agg #[.bool true, .slice (some ad) K c, .slice none 0 0])) rfl (by kernel_rfl) (by kernel_rfl) (by kernel_rfl) (fun _ _ _ h => h) (by rfl) (by intro w hSw; (try dsimp only at hSw); go_simp) (by assumption) ?_
  (try simp only [Act.put, List.setIfInBounds_toArray, List.set_cons_zero, List.set_cons_succ])
  refine wpAnyH_ready (rs := [7]) (by kernel_rfl) (by simp) ?_
  refine AllReadyH.cons rfl (fun KK hKK => ?_) AllReadyH.nil
  go_simp
  refine hKK.out _ _ hSz (fun hHeld => ?_)
  clear hKK KK
  refine wpAnyH_ready (rs := [8]) (by kernel_rfl) (by simp) ?_
  refine AllReadyH.cons rfl (fun KK hKK => ?_) AllReadyH.nil
  go_simp
  refine hKK.out _ _ hSx (fun hHeld => ?_)
  clear hKK KK
  refine wpAnyH_done (by kernel_rfl) ?_ _
  obtain ⟨wb, hX⟩ : ∃ wb, wb = (wa.alloc (.cells  #[.bool true, .slice (some ad) K c, .slice none 0 0] 29)).drew := ⟨_, rfl⟩
  have hx2 : wb.heap[wa.heap.size]? = some (.cells  #[.bool true, .slice (some ad) K c, .slice none 0 0] 29) := by rw [hX]; exact hx
  rw [← hX] at hbx HMx ⊢
  clear hX hx hS0 hSz hSx z0 z1 z2 zf0 zf1 zf2 zl hz hbz HMz hHeld
  obtain ⟨bx, hbxn⟩ : ∃ bx, bx = wa.heap.size := ⟨_, rfl⟩
  have HNX : Hid (b3 ≠ bx) := (by rw [hbxn]; exact Nat.ne_of_lt (lt_of_block HMa.out.nds.rno) : b3 ≠ bx)
  rw [← hbxn] at hx2 ⊢
  have HLX : Hid (wa.heap.size ≤ bx) := (by rw [hbxn]; exact Nat.le_refl _ : wa.heap.size ≤ bx)
  have HBab := Lib.hid hbx
  clear hbxn hbx
  have HMb := HMx
  clear HMx
  have HXb := Lib.hid hx2
  clear hx2
  have hS0 := And.intro HMb.out.nds.drew.c0 HMb.out.nds.drew.c3
  obtain ⟨n0, n1, n2, f0, f1, f2, nl⟩ := three_of_block HMb.out.nds.rno
  go_wp2_with fail
  have hz := heap_alloc_new wb (.cells #[.bool false, .slice none 0 0, .slice none 0 0] 29)
  have hbz : Below wb.heap.size wb (wb.alloc (.cells #[.bool false, .slice none 0 0, .slice none 0 0] 29)).drew := below_drewN ((Below.refl _ _).alloc (Nat.le_refl _) _) 1
  have HMz := Lib.hid (HMb.out.below hbz)
  have hSz := And.intro HMz.out.nds.c0 HMz.out.nds.c3
  obtain ⟨z0, z1, z2, zf0, zf1, zf2, zl⟩ := three_of_block (w := (wb.alloc (.cells #[.bool false, .slice none 0 0, .slice none 0 0] 29)).drew) hz
  have hx := heap_alloc_new wb (.cells  #[.bool true, .slice (some (ad.add K)) (l.length - K) (c - K), .slice none 0 0] 29)
  have hbx : Below wb.heap.size wb (wb.alloc (.cells  #[.bool true, .slice (some (ad.add K)) (l.length - K) (c - K), .slice none 0 0] 29)).drew := below_drewN ((Below.refl _ _).alloc (Nat.le_refl _) _) 1
  have HMx := Lib.hid (HMb.out.below hbx)
  have hSx := And.intro HMx.out.nds.c0 HMx.out.nds.c3
  clear n0 n1 n2 f0 f1 f2 nl
  refine wp_region_held_drew (S := fun w' => C3 w' w.heap.size true (some ad) l.length c B ks.length d ∧ C3 w' b3 true (some ad) l.length c B ks.length d) (by kernel_rfl) hS0 (fun hHeld => ?_)
  refine takeH (i := 0) (v := (.pointer (some ⟨w.heap.size, 0, none⟩))) rfl (by kernel_rfl) (by kernel_rfl) (by kernel_rfl) (fun _ _ _ h => h) (by rfl) (by intro w hSw; (try dsimp only at hSw); go_simp) (by assumption) ?_
  (try simp only [Act.put, List.setIfInBounds_toArray, List.set_cons_zero, List.set_cons_succ])
  refine takeH (i := 1) (v := (.bool true)) rfl (by kernel_rfl) (by kernel_rfl) (by kernel_rfl) (fun _ _ _ h => h) (by rfl) (by intro w hSw; (try dsimp only at hSw); go_simp) (by assumption) ?_
  (try simp only [Act.put, List.setIfInBounds_toArray, List.set_cons_zero, List.set_cons_succ])
  refine takeH (i := 2) (v := (.pointer (some ⟨b3, 1, none⟩))) rfl (by kernel_rfl) (by kernel_rfl) (by kernel_rfl) (fun _ _ _ h => h) (by rfl) (by intro w hSw; (try dsimp only at hSw); go_simp) (by assumption) ?_
  (try simp only [Act.put, List.setIfInBounds_toArray, List.set_cons_zero, List.set_cons_succ])
  refine takeH (i := 3) (v := (.slice (some ad) l.length c)) rfl (by kernel_rfl) (by kernel_rfl) (by kernel_rfl) (fun _ _ _ h => h) (by rfl) (by intro w hSw; (try dsimp only at hSw); go_simp) (by assumption) ?_
  (try simp only [Act.put, List.setIfInBounds_toArray, List.set_cons_zero, List.set_cons_succ])
  refine takeH (i := 4) (v := (.int .i64 K)) rfl (by kernel_rfl) (by kernel_rfl) (by kernel_rfl) (fun _ _ _ h => h) (by rfl) (by intro w hSw; (try dsimp only at hSw); go_simp) (by assumption) ?_
  (try simp only [Act.put, List.setIfInBounds_toArray, List.set_cons_zero, List.set_cons_succ])
  refine takeH (i := 5) (v := (.slice (some (ad.add K)) (l.length - K) (c - K))) rfl (by kernel_rfl) (by kernel_rfl) (by kernel_rfl) (fun _ _ _ h => h) (by rfl) (by intro w hSw; (try dsimp only at hSw); go_simp) (by assumption) ?_
  (try simp only [Act.put, List.setIfInBounds_toArray, List.set_cons_zero, List.set_cons_succ])
  refine takeH (i := 6) (v := (.agg #[.bool true, .slice (some (ad.add K)) (l.length - K) (c - K), .slice none 0 0])) rfl (by kernel_rfl) (by kernel_rfl) (by kernel_rfl) (fun _ _ _ h => h) (by rfl) (by intro w hSw; (try dsimp only at hSw); go_simp) (by assumption) ?_
  (try simp only [Act.put, List.setIfInBounds_toArray, List.set_cons_zero, List.set_cons_succ])
  refine wpAnyH_ready (rs := [7]) (by kernel_rfl) (by simp) ?_
  refine AllReadyH.cons rfl (fun KK hKK => ?_) AllReadyH.nil
  go_simp
  refine hKK.out _ _ hSz (fun hHeld => ?_)
  clear hKK KK
  refine wpAnyH_ready (rs := [8]) (by kernel_rfl) (by simp) ?_
  refine AllReadyH.cons rfl (fun KK hKK => ?_) AllReadyH.nil
  go_simp
  refine hKK.out _ _ hSx (fun hHeld => ?_)
  clear hKK KK
  refine wpAnyH_done (by kernel_rfl) ?_ _
  obtain ⟨wc, hX⟩ : ∃ wc, wc = (wb.alloc (.cells  #[.bool true, .slice (some (ad.add K)) (l.length - K) (c - K), .slice none 0 0] 29)).drew := ⟨_, rfl⟩
  have hx2 : wc.heap[wb.heap.size]? = some (.cells  #[.bool true, .slice (some (ad.add K)) (l.length - K) (c - K), .slice none 0 0] 29) := by rw [hX]; exact hx
  rw [← hX] at hbx HMx ⊢
  clear hX hx hS0 hSz hSx z0 z1 z2 zf0 zf1 zf2 zl hz hbz HMz hHeld
  have hx3 := (hbx.block _ (lt_of_block HXb.out)).trans HXb.out
  have hxy : bx ≠ wb.heap.size := Nat.ne_of_lt (lt_of_block HXb.out)
  obtain ⟨by_, hbyn⟩ : ∃ by_, by_ = wb.heap.size := ⟨_, rfl⟩
  have HNY : Hid (b3 ≠ by_) := (by rw [hbyn]; exact Nat.ne_of_lt (lt_of_block HMb.out.nds.rno) : b3 ≠ by_)
  rw [← hbyn] at hx2 hxy ⊢
  have HXY := Lib.hid hxy
  have HLY : Hid (wa.heap.size ≤ by_) := (by rw [hbyn]; exact HBab.out.size : wa.heap.size ≤ by_)
  have HBac := Lib.hid (HBab.out.trans (hbx.mono HBab.out.size))
  clear hbyn hbx HMb HXb hxy
  have HMc := HMx
  clear HMx
  have HXc := Lib.hid hx3
  have HYc := Lib.hid hx2
  clear hx2 hx3
  obtain ⟨n0, n1, n2, f0, f1, f2, nl⟩ := three_of_block HMc.out.nds.nod
  have HXd := HXc
  have HYd := HYc
  have HMd := HMc
  obtain ⟨wd, hwd⟩ : ∃ wd, wd = wc := ⟨_, rfl⟩
  rw [← hwd] at HXd HYd HMd n0 ⊢
  clear hwd HXc HYc HMc
  go_wp2_with fail
  obtain ⟨ad2, had2, hrc2⟩ := Kd.at_string HMd.out.nds.rd.recs (K : Int) (by omega) (by omega)
  obtain rfl : ad = ad2 := Option.some.inj had2
  rw [Int.toNat_natCast, rdOf_rec, HS.out] at hrc2
  have HN1L : Hid (N1.length = K) := (by rw [← HN1.out]; exact HE0.out : N1.length = K)
  have HN2L : Hid (N2.length = l.length - K) := (by rw [← HN2.out]; exact HE1.out : N2.length = l.length - K)
  have HM1L : Hid (M1.length = 0) := (by rw [← HM1.out]; exact HE2.out : M1.length = 0)
  have HM2L : Hid (M2.length = 0) := (by rw [← HM2.out]; exact HE3.out : M2.length = 0)
  have HT1 : Hid (l.take K = N1) := (by rw [← HN1.out, sub_zero] : l.take K = N1)
  have HT2 : Hid (l.drop (K + 0) = N2) := (by rw [← HN2.out, sub_end _ _ _ (Nat.le_refl _)]; rfl : l.drop (K + 0) = N2)
  have hD : Below wd.heap.size wd wd.drew := below_drewN (Below.refl _ _) 1
  have HMe := Lib.hid (HMd.out.below hD)
  have HF0 : Hid (Five wd.drew ba bb bx by_ b3 (NodeObj true A1 K c1 B1 (0) d1) (NodeObj true A2 (l.length - K) c2 B2 (0) d2) (RNodeObj true (some ad) K c none (0) 0) (RNodeObj true (some (ad.add K)) (l.length - K) ((c - K)) none (0) (0)) (RNodeObj true (some ad) l.length c B ks.length d) (ad.add K) (.string s)) := ⟨HMe.out.a, HMe.out.b, HXd.out, HYd.out, HMe.out.nds.rno, hrc2⟩
  have hx1 := rd_take HMe.out.nds.rd.recs K (by omega) (by omega)
  have hx2 := rd_drop HMe.out.nds.rd.recs (K + 0) (by omega) (by omega)
  rw [HT1.out] at hx1
  rw [HT2.out] at hx2
  have hk0 := nil_rows wd.drew
  have hM1 : M1 = [] := by rw [← HM1.out]; simp [kidsOf]
  have hM2 : M2 = [] := by rw [← HM2.out]; simp [kidsOf]
  have hk1 : Kd.C (Kd.int .i64) wd.drew none M1.length M1 := by rw [hM1]; exact hk0
  have hk2 : Kd.C (Kd.int .i64) wd.drew none M2.length M2 := by rw [hM2]; exact hk0
  clear hk0 hM1 hM2
  have HR0 : Hid (Rds wd.drew A1 c1 B1 d1 A2 c2 B2 d2 (some ad) c B d (some (ad.add K)) ((c - K)) none 0 none (0) l N1 N2 ks M1 M2) := ⟨HMe.out.ra, HMe.out.rb, ⟨hx1, hk1, by rw [HN1L.out]; omega, by rw [HM1L.out]; omega⟩, ⟨hx2, hk2, by rw [HN2L.out]; omega, by rw [HM2L.out]; omega⟩, HMe.out.nds.rd, HMe.out.a2, HMe.out.b2⟩
  clear hx1 hx2 hk1 hk2 hrc2 had2
  have hS0 := HF0.out.S
  have HLD := Lib.hid (HMd.out.low.trans (hD.mono HMd.out.low.size))
  have z3 : (K : Int) < (l.length : Int) := by omega
  clear hD
  refine wp_region_held_drew (S := fun w' => C3 w' ba true A1 K c1 B1 (0) d1 ∧ C3 w' bb true A2 (l.length - K) c2 B2 (0) d2 ∧ C3 w' bx true (some ad) K c none (0) 0 ∧ C3 w' by_ true (some (ad.add K)) (l.length - K) (c - K) none (0) 0 ∧ C3 w' b3 true (some ad) l.length c B ks.length d ∧ w'.cell? (ad.add K) = some (.string s)) (by kernel_rfl) hS0 (fun hHeld => ?_)
  refine takeH (i := 0) (v := (.string s)) rfl (by kernel_rfl) (by kernel_rfl) (by kernel_rfl) (fun _ _ _ h => h) (by rfl) (by intro w hSw; (try dsimp only at hSw); go_simp) (by assumption) ?_
  (try simp only [Act.put, List.setIfInBounds_toArray, List.set_cons_zero, List.set_cons_succ])
  refine takeH (i := 1) (v := (.pointer (some ⟨b3, 1, none⟩))) rfl (by kernel_rfl) (by kernel_rfl) (by kernel_rfl) (fun _ _ _ h => h) (by rfl) (by intro w hSw; (try dsimp only at hSw); go_simp) (by assumption) ?_
  (try simp only [Act.put, List.setIfInBounds_toArray, List.set_cons_zero, List.set_cons_succ])
  refine takeH (i := 2) (v := (.slice (some ad) l.length c)) rfl (by kernel_rfl) (by kernel_rfl) (by kernel_rfl) (fun _ _ _ h => h) (by rfl) (by intro w hSw; (try dsimp only at hSw); go_simp) (by assumption) ?_
  (try simp only [Act.put, List.setIfInBounds_toArray, List.set_cons_zero, List.set_cons_succ])
  refine takeH (i := 3) (v := (.int .i64 K)) rfl (by kernel_rfl) (by kernel_rfl) (by kernel_rfl) (fun _ _ _ h => h) (by rfl) (by intro w hSw; (try dsimp only at hSw); go_simp) (by assumption) ?_
  (try simp only [Act.put, List.setIfInBounds_toArray, List.set_cons_zero, List.set_cons_succ])
  refine takeH (i := 4) (v := (.pointer (some (ad.add K)))) rfl (by kernel_rfl) (by kernel_rfl) (by kernel_rfl) (fun _ _ _ h => h) (by rfl) (by intro w hSw; (try dsimp only at hSw); go_simp) (by assumption) ?_
  (try simp only [Act.put, List.setIfInBounds_toArray, List.set_cons_zero, List.set_cons_succ])
  refine takeH (i := 5) (v := (.string s)) rfl (by kernel_rfl) (by kernel_rfl) (by kernel_rfl) (fun _ _ _ h => h) (by rfl) (by intro w hSw; (try dsimp only at hSw); go_simp) (by assumption) ?_
  (try simp only [Act.put, List.setIfInBounds_toArray, List.set_cons_zero, List.set_cons_succ])
  refine takeH (i := 6) (v := (.bool true)) rfl (by kernel_rfl) (by kernel_rfl) (by kernel_rfl) (fun _ _ _ h => h) (by rfl) (by intro w hSw; (try dsimp only at hSw); go_simp) (by assumption) ?_
  (try simp only [Act.put, List.setIfInBounds_toArray, List.set_cons_zero, List.set_cons_succ])
  refine takeH (i := 7) (v := (.bool true)) rfl (by kernel_rfl) (by kernel_rfl) (by kernel_rfl) (fun _ _ _ h => h) (by rfl) (by intro w hSw; (try dsimp only at hSw); go_simp) (by assumption) ?_
  (try simp only [Act.put, List.setIfInBounds_toArray, List.set_cons_zero, List.set_cons_succ])
  refine takeH (i := 8) (v := (.agg #[.bool true, .slice A1 K c1, .slice B1 (0) d1])) rfl (by kernel_rfl) (by kernel_rfl) (by kernel_rfl) (fun _ _ _ h => h) (by rfl) (by intro w hSw; (try dsimp only at hSw); go_simp) (by assumption) ?_
  (try simp only [Act.put, List.setIfInBounds_toArray, List.set_cons_zero, List.set_cons_succ])
  refine takeH (i := 10) (v := (.agg #[.bool true, .slice (some ad) K c, .slice none (0) 0])) rfl (by kernel_rfl) (by kernel_rfl) (by kernel_rfl) (fun _ _ _ h => h) (by rfl) (by intro w hSw; (try dsimp only at hSw); go_simp) (by assumption) ?_
  (try simp only [Act.put, List.setIfInBounds_toArray, List.set_cons_zero, List.set_cons_succ])
  refine wpAnyH_ready (rs := [9]) (by kernel_rfl) (by simp) ?_
  refine AllReadyH.cons rfl (fun KK hKK => ?_) AllReadyH.nil
  go_simp
  go_wp2_with (go_at_call 12; (refine (plain_any true A1 K c1 B1 (0) d1 _).mono ?_); rintro e y1 ⟨rfl, hb⟩; have HL1 := Lib.hid hb; have HF1 := Lib.hid (HF0.out.below hb); have HR1 := Lib.hid (HR0.out.below hb); have hS1 := HF1.out.S; clear hb)
  refine hKK.out _ _ hS1 (fun hHeld => ?_)
  clear hKK KK
  refine wpAnyH_ready (rs := [11]) (by kernel_rfl) (by simp) ?_
  refine AllReadyH.cons rfl (fun KK hKK => ?_) AllReadyH.nil
  go_simp
  go_wp2_with (go_at_call 23; (refine (same2_any true A1 c1 N1 B1 d1 M1 (some ad) c none 0 y1 K (0) HR1.out.a HR1.out.x HN1L.out HM1L.out (by omega) (by omega)).mono ?_); rintro e y2 ⟨rfl, hb⟩; have HL2 := Lib.hid hb; have HF2 := Lib.hid (HF1.out.below hb); have HR2 := Lib.hid (HR1.out.below hb); have hS2 := HF2.out.S; clear hb)
  refine hKK.out _ _ hS2 (fun hHeld => ?_)
  clear hKK KK
  refine takeH (i := 12) (v := (.bool true)) rfl (by kernel_rfl) (by kernel_rfl) (by kernel_rfl) (fun _ _ _ h => h) (by rfl) (by intro w hSw; (try dsimp only at hSw); go_simp) (by assumption) ?_
  (try simp only [Act.put, List.setIfInBounds_toArray, List.set_cons_zero, List.set_cons_succ])
  refine takeH (i := 13) (v := (.bool true)) rfl (by kernel_rfl) (by kernel_rfl) (by kernel_rfl) (fun _ _ _ h => h) (by rfl) (by intro w hSw; (try dsimp only at hSw); go_simp) (by assumption) ?_
  (try simp only [Act.put, List.setIfInBounds_toArray, List.set_cons_zero, List.set_cons_succ])
  refine takeH (i := 14) (v := (.agg #[.bool true, .slice A2 (l.length - K) c2, .slice B2 (0) d2])) rfl (by kernel_rfl) (by kernel_rfl) (by kernel_rfl) (fun _ _ _ h => h) (by rfl) (by intro w hSw; (try dsimp only at hSw); go_simp) (by assumption) ?_
  (try simp only [Act.put, List.setIfInBounds_toArray, List.set_cons_zero, List.set_cons_succ])
  refine takeH (i := 16) (v := (.agg #[.bool true, .slice (some (ad.add K)) (l.length - K) (c - K), .slice none (0) 0])) rfl (by kernel_rfl) (by kernel_rfl) (by kernel_rfl) (fun _ _ _ h => h) (by rfl) (by intro w hSw; (try dsimp only at hSw); go_simp) (by assumption) ?_
  (try simp only [Act.put, List.setIfInBounds_toArray, List.set_cons_zero, List.set_cons_succ])
  refine wpAnyH_ready (rs := [15]) (by kernel_rfl) (by simp) ?_
  refine AllReadyH.cons rfl (fun KK hKK => ?_) AllReadyH.nil
  go_simp
  go_wp2_with (go_at_call 12; (refine (plain_any true A2 (l.length - K) c2 B2 (0) d2 _).mono ?_); rintro e y3 ⟨rfl, hb⟩; have HL3 := Lib.hid hb; have HF3 := Lib.hid (HF2.out.below hb); have HR3 := Lib.hid (HR2.out.below hb); have hS3 := HF3.out.S; clear hb)
  refine hKK.out _ _ hS3 (fun hHeld => ?_)
  clear hKK KK
  refine wpAnyH_ready (rs := [17]) (by kernel_rfl) (by simp) ?_
  refine AllReadyH.cons rfl (fun KK hKK => ?_) AllReadyH.nil
  go_simp
  go_wp2_with (go_at_call 23; (refine (same2_any true A2 c2 N2 B2 d2 M2 (some (ad.add K)) ((c - K)) none (0) y3 (l.length - K) (0) HR3.out.b HR3.out.y HN2L.out HM2L.out (by omega) (by omega)).mono ?_); rintro e y4 ⟨rfl, hb⟩; have HL4 := Lib.hid hb; have HF4 := Lib.hid (HF3.out.below hb); have HR4 := Lib.hid (HR3.out.below hb); have hS4 := HF4.out.S; clear hb)
  refine hKK.out _ _ hS4 (fun hHeld => ?_)
  clear hKK KK
  refine takeH (i := 18) (v := (.bool true)) rfl (by kernel_rfl) (by kernel_rfl) (by kernel_rfl) (fun _ _ _ h => h) (by rfl) (by intro w hSw; (try dsimp only at hSw); go_simp) (by assumption) ?_
  (try simp only [Act.put, List.setIfInBounds_toArray, List.set_cons_zero, List.set_cons_succ])
  refine takeH (i := 19) (v := (.bool true)) rfl (by kernel_rfl) (by kernel_rfl) (by kernel_rfl) (fun _ _ _ h => h) (by rfl) (by intro w hSw; (try dsimp only at hSw); go_simp) (by assumption) ?_
  (try simp only [Act.put, List.setIfInBounds_toArray, List.set_cons_zero, List.set_cons_succ])
  refine takeH (i := 20) (v := (.agg #[.bool true, .slice A1 K c1, .slice B1 (0) d1])) rfl (by kernel_rfl) (by kernel_rfl) (by kernel_rfl) (fun _ _ _ h => h) (by rfl) (by intro w hSw; (try dsimp only at hSw); go_simp) (by assumption) ?_
  (try simp only [Act.put, List.setIfInBounds_toArray, List.set_cons_zero, List.set_cons_succ])
  refine takeH (i := 21) (v := (.string s)) rfl (by kernel_rfl) (by kernel_rfl) (by kernel_rfl) (fun _ _ _ h => h) (by rfl) (by intro w hSw; (try dsimp only at hSw); go_simp) (by assumption) ?_
  (try simp only [Act.put, List.setIfInBounds_toArray, List.set_cons_zero, List.set_cons_succ])
  refine takeH (i := 22) (v := (.agg #[.bool true, .slice A2 (l.length - K) c2, .slice B2 (0) d2])) rfl (by kernel_rfl) (by kernel_rfl) (by kernel_rfl) (fun _ _ _ h => h) (by rfl) (by intro w hSw; (try dsimp only at hSw); go_simp) (by assumption) ?_
  (try simp only [Act.put, List.setIfInBounds_toArray, List.set_cons_zero, List.set_cons_succ])
  refine takeH (i := 25) (v := (.agg #[.bool true, .slice (some ad) l.length c, .slice B ks.length d])) rfl (by kernel_rfl) (by kernel_rfl) (by kernel_rfl) (fun _ _ _ h => h) (by rfl) (by intro w hSw; (try dsimp only at hSw); go_simp) (by assumption) ?_
  (try simp only [Act.put, List.setIfInBounds_toArray, List.set_cons_zero, List.set_cons_succ])
  refine wpAnyH_ready (rs := [23]) (by kernel_rfl) (by simp) ?_
  refine AllReadyH.cons rfl (fun KK hKK => ?_) AllReadyH.nil
  go_simp
  go_wp2_with (have hj := join2_any true l ks K (l.length - K) (0) (0) HSHP.out (by omega) HBD.out A1 c1 B1 d1 A2 c2 B2 d2 y4 HE0.out HE1.out HE2.out HE3.out (by rw [HN1.out, HM1.out]; exact HR4.out.a2) (by rw [HN2.out, HM2.out]; exact HR4.out.b2) (by omega) (by omega) (by omega); rw [HS.out] at hj; go_at_call 26; (refine (hj).mono ?_); rintro e y5 ⟨A5, c5, B5, d5, rfl, ho1, ho2, hb⟩; have HL5 := Lib.hid hb; have HF5 := Lib.hid (HF4.out.below hb); have HR5 := Lib.hid (HR4.out.below hb); have hS5 := HF5.out.S; have HO5 := Lib.hid (RdN.of ho1 ho2); clear hj ho1 ho2; clear hb)
  refine hKK.out _ _ hS5 (fun hHeld => ?_)
  clear hKK KK
  refine wpAnyH_ready (rs := [24]) (by kernel_rfl) (by simp) ?_
  refine AllReadyH.cons rfl (fun KK hKK => ?_) AllReadyH.nil
  go_simp
  go_wp2_with (go_at_call 12; (refine (plain_any true A5 l.length c5 B5 ks.length d5 _).mono ?_); rintro e y6 ⟨rfl, hb⟩; have HL6 := Lib.hid hb; have HF6 := Lib.hid (HF5.out.below hb); have HR6 := Lib.hid (HR5.out.below hb); have hS6 := HF6.out.S; have HO6 := Lib.hid (HO5.out.below hb); clear hb)
  refine hKK.out _ _ hS6 (fun hHeld => ?_)
  clear hKK KK
  refine wpAnyH_ready (rs := [26]) (by kernel_rfl) (by simp) ?_
  refine AllReadyH.cons rfl (fun KK hKK => ?_) AllReadyH.nil
  go_simp
  go_wp2_with (go_at_call 23; (refine (same2_any true A5 c5 l B5 d5 ks (some ad) c B d y6 l.length ks.length HO6.out HR6.out.n rfl rfl (by omega) (by omega)).mono ?_); rintro e y7 ⟨rfl, hb⟩; have HL7 := Lib.hid hb; have HF7 := Lib.hid (HF6.out.below hb); have HR7 := Lib.hid (HR6.out.below hb); have hS7 := HF7.out.S; clear hb)
  refine hKK.out _ _ hS7 (fun hHeld => ?_)
  clear hKK KK
  refine takeH (i := 27) (v := (.bool true)) rfl (by kernel_rfl) (by kernel_rfl) (by kernel_rfl) (fun _ _ _ h => h) (by rfl) (by intro w hSw; (try dsimp only at hSw); go_simp) (by assumption) ?_
  (try simp only [Act.put, List.setIfInBounds_toArray, List.set_cons_zero, List.set_cons_succ])
  refine takeH (i := 28) (v := (.bool true)) rfl (by kernel_rfl) (by kernel_rfl) (by kernel_rfl) (fun _ _ _ h => h) (by rfl) (by intro w hSw; (try dsimp only at hSw); go_simp) (by assumption) ?_
  (try simp only [Act.put, List.setIfInBounds_toArray, List.set_cons_zero, List.set_cons_succ])
  refine wpAnyH_done (by kernel_rfl) ?_ _
  have g1 := HLD.out.trans (HL1.out.mono HLD.out.size)
  have g2 := g1.trans (HL2.out.mono g1.size)
  have g3 := g2.trans (HL3.out.mono g2.size)
  have g4 := g3.trans (HL4.out.mono g3.size)
  have g5 := g4.trans (HL5.out.mono g4.size)
  have g6 := g5.trans (HL6.out.mono g5.size)
  have g7 := Lib.hid (g6.trans (HL7.out.mono g6.size))
  clear g1 g2 g3 g4 g5 g6
  go_wp2_with fail
  go_ret
  exact ⟨rfl, g7.out⟩

set_option maxRecDepth 100000 in
set_option maxHeartbeats 8000000 in
theorem pageSplits_false (A : Option Addr) (c : Nat) (l : List ByteArray) (B : Option Addr) (d : Nat) (ks : List Int) (w : World) (hr : RdN w A c l B d ks) :
    Calls Try.prog 7 #[.agg #[.bool false, .slice A l.length c, .slice B ks.length d]] w fun e w' => e = .returned (.bool true) ∧ Below w.heap.size w w' := by
  have hnot := @unary_not Try.prog
  have HR := Lib.hid hr
  have hrc := hr.rc
  have hkc := hr.kc
  clear hr
  have hblk := heap_alloc_new w (NodeObj false A l.length c B ks.length d)
  obtain ⟨w1, hw1⟩ : ∃ w1, w1 = w.alloc (.cells #[.bool false, .slice A l.length c, .slice B ks.length d] 25) := ⟨_, rfl⟩
  replace hblk : w1.heap[w.heap.size]? = some (NodeObj false A l.length c B ks.length d) := by rw [hw1]; exact hblk
  have HB1 : Hid (Below w.heap.size w w1) := (by rw [hw1]; exact (Below.refl _ _).alloc (Nat.le_refl _) _ : Below w.heap.size w w1)
  have HBK1 := Lib.hid hblk
  clear hblk
  go_enter Try.func7, Try.ntmps7
  go_upto_region 1 with (fail)
  rw [← hw1]
  clear hw1
  go_wp2_with fail
  refine (awake_any _).mono ?_
  rintro e w2 ⟨rfl, hb2⟩
  have HB2 := Lib.hid (HB1.out.trans (hb2.mono HB1.out.size))
  have HBK2 := Lib.hid ((hb2.block _ (lt_of_block HBK1.out)).trans HBK1.out)
  clear hb2 HB1 HBK1
  obtain ⟨n0, n1, n2, f0, f1, f2, nl⟩ := three_of_block HBK2.out
  go_wp2_with fail
  refine (plain_any false A l.length c B ks.length d _).mono ?_
  rintro e w4 ⟨rfl, hb4⟩
  have HB4 := Lib.hid (HB2.out.trans (hb4.mono HB2.out.size))
  have HBK4 := Lib.hid ((hb4.block _ nl).trans HBK2.out)
  clear hb4 n0 n1 n2 f0 f1 f2 nl HB2 HBK2
  go_upto_region 4 with (fail)
  have h5 := heap_alloc_new w4 (RNodeObj false A l.length c B ks.length d)
  have hb5 : Below w4.heap.size w4 (w4.alloc (RNodeObj false A l.length c B ks.length d)) := (Below.refl _ _).alloc (Nat.le_refl _) _
  obtain ⟨w5, hw5⟩ : ∃ w5, w5 = w4.alloc (.cells #[.bool false, .slice A l.length c, .slice B ks.length d] 29) := ⟨_, rfl⟩
  replace h5 : w5.heap[w4.heap.size]? = some (RNodeObj false A l.length c B ks.length d) := by rw [hw5]; exact h5
  replace hb5 : Below w4.heap.size w4 w5 := by rw [hw5]; exact hb5
  rw [← hw5]
  clear hw5
  obtain ⟨b3, hb3⟩ : ∃ b3, b3 = w4.heap.size := ⟨_, rfl⟩
  have hne : w.heap.size ≠ b3 := by rw [hb3]; exact Nat.ne_of_lt (lt_of_block HBK4.out)
  rw [← hb3] at h5 ⊢
  clear hb3
  have HNE := Lib.hid hne
  have HB5 := Lib.hid (HB4.out.trans (hb5.mono HB4.out.size))
  have HN5 : Hid (Nds w5 w.heap.size b3 false A c l B d ks) := ⟨(hb5.block _ (lt_of_block HBK4.out)).trans HBK4.out, h5, HR.out.below HB5.out⟩
  clear h5 hb5 HBK4 HB4 hne
  obtain ⟨n0, n1, n2, f0, f1, f2, nl⟩ := three_of_block HN5.out.nod
  go_wp2_with fail
  refine (great_any false A c l B d ks _ HN5.out.rd).mono ?_
  rintro e w6 ⟨g, rfl, hg, hb6⟩
  have HB6 := Lib.hid (HB5.out.trans (hb6.mono HB5.out.size))
  have HN6 := Lib.hid (HN5.out.below hb6)
  have HG := Lib.hid hg
  clear hg hb6 n0 n1 n2 f0 f1 f2 nl HN5 HB5
  cases g with
  | true =>
    go_wp2_with fail
    go_ret
    exact ⟨rfl, HB6.out⟩
  | false =>
  have HSM := Lib.hid (HG.out rfl)
  have HBD : Hid (Bd l ks) := HSM.out.bd
  obtain ⟨n0, n1, n2, f0, f1, f2, nl⟩ := three_of_block HN6.out.rno
  go_wp2_with fail
  refine (rshaped_any false A c l B d ks _ HN6.out.rd (Nat.le_trans HSM.out.len (by omega)) (Nat.le_trans HSM.out.kids (by omega))).mono ?_
  rintro e w7 ⟨b, rfl, hsh, hb7⟩
  have HB7 := Lib.hid (HB6.out.trans (hb7.mono HB6.out.size))
  have HN7 := Lib.hid (HN6.out.below hb7)
  have HSH := Lib.hid hsh
  clear hsh hb7 n0 n1 n2 f0 f1 f2 nl HN6 HB6
  cases b with
  | false =>
    go_wp2_with fail
    go_ret
    exact ⟨rfl, HB7.out⟩
  | true =>
  have HSHP : Hid (Shp false l ks) := (of_eq_true (by simpa using HSH.out) : Shp false l ks)
  have hl400 := HSM.out.len
  have hk400 := HSM.out.kids
  obtain ⟨n0, n1, n2, f0, f1, f2, nl⟩ := three_of_block HN7.out.nod
  by_cases hlt2 : l.length < 2
  · have hlt2b : decide ((l.length : Int) < 2) = true := decide_eq_true (by omega)
    have hlt2c : (l.length : Int) < 2 := by omega
    go_wp2_with fail
    go_ret
    exact ⟨rfl, HB7.out⟩
  have hlt2b : decide ((l.length : Int) < 2) = false := decide_eq_false (by omega)
  have hlt2c : ¬ (l.length : Int) < 2 := by omega
  by_cases hlt3 : l.length < 3
  · have hlt3b : decide ((l.length : Int) < 3) = true := decide_eq_true (by omega)
    have hlt3c : (l.length : Int) < 3 := by omega
    go_wp2_with fail
    go_ret
    exact ⟨rfl, HB7.out⟩
  have hlt3b : decide ((l.length : Int) < 3) = false := decide_eq_false (by omega)
  have hlt3c : ¬ (l.length : Int) < 3 := by omega
  have HLEN : Hid (if false = true then 2 ≤ l.length else 3 ≤ l.length ∧ ks.length = l.length + 1) := (by rw [if_neg (by decide)]; exact ⟨by omega, HSHP.out.len⟩ : if false = true then 2 ≤ l.length else 3 ≤ l.length ∧ ks.length = l.length + 1)
  obtain ⟨K, hK⟩ : ∃ K, cutK false l = K := ⟨_, rfl⟩
  have hkl : ks.length = l.length + 1 := HSHP.out.len
  have hKp : 0 < K := by rw [← hK]; exact cutTo_pos _ _ (by simp only [skOf]; simp; omega)
  have hKl : K + 1 < l.length := by
    have h := cutTo_lt (sideN l (skOf false) (eaOf false)) (l.length - skOf false) (by simp only [skOf]; simp; omega)
    have h2 : cutTo (sideN l (skOf false) (eaOf false)) (l.length - skOf false) = K := hK
    rw [h2] at h
    simp only [skOf] at h
    simp at h
    omega
  have e0 : (sub l 0 K).length = K := by rw [sub_len _ _ _ (by omega)]; omega
  have e1 : (sub l (K + skOf false) l.length).length = l.length - (K + 1) := by rw [sub_len _ _ _ (Nat.le_refl _)]; simp [skOf]
  have e2 : (kidsOf false ks 0 K).length = K + 1 := by simp only [kidsOf, Bool.false_eq_true, if_false]; rw [sub_len _ _ _ (by omega)]; omega
  have e3 : (kidsOf false ks (K + skOf false) l.length).length = ks.length - (K + 1) := by simp only [kidsOf, skOf, Bool.false_eq_true, if_false]; rw [sub_end _ _ _ (by omega), List.length_drop]
  have HK := Lib.hid hK
  have HE0 := Lib.hid e0
  have HE1 := Lib.hid e1
  have HE2 := Lib.hid e2
  have HE3 := Lib.hid e3
  have HKL := Lib.hid hkl
  have hkl2 : K + 1 < ks.length := by omega
  clear hK e0 e1 e2 e3 hkl
  obtain ⟨ad, hA, -⟩ := Kd.at_string HR.out.recs 0 (by omega) (by omega)
  subst hA
  obtain ⟨bd, hB, -⟩ := Kd.at_int HR.out.kids 0 (by omega) (by omega)
  subst hB
  go_wp2_with fail
  refine (split2_any false (some ad) c l (some bd) d ks _ HN7.out.rd HBD.out HLEN.out K (l.length - (K + 1)) (K + 1) (ks.length - (K + 1)) HK.out HE0.out HE1.out HE2.out HE3.out).mono ?_
  rintro e w8 ⟨A1, c1, B1, d1, A2, c2, B2, d2, rfl, hm1, hm2, hb8⟩
  have HB8 := Lib.hid (HB7.out.trans (hb8.mono HB7.out.size))
  have HN8 := Lib.hid (HN7.out.below hb8)
  obtain ⟨N1, hN1⟩ : ∃ N1, sub l 0 K = N1 := ⟨_, rfl⟩
  obtain ⟨N2, hN2⟩ : ∃ N2, sub l (K + skOf false) l.length = N2 := ⟨_, rfl⟩
  obtain ⟨M1, hM1⟩ : ∃ M1, kidsOf false ks 0 K = M1 := ⟨_, rfl⟩
  obtain ⟨M2, hM2⟩ : ∃ M2, kidsOf false ks (K + skOf false) l.length = M2 := ⟨_, rfl⟩
  have HN1 := Lib.hid hN1
  have HN2 := Lib.hid hN2
  have HM1 := Lib.hid hM1
  have HM2 := Lib.hid hM2
  have HMD1 : Hid (Made w7 w8 A1 c1 N1 B1 d1 M1) := (by rw [← hN1, ← hM1]; exact hm1 : Made w7 w8 A1 c1 N1 B1 d1 M1)
  have HMD2 : Hid (Made w7 w8 A2 c2 N2 B2 d2 M2) := (by rw [← hN2, ← hM2]; exact hm2 : Made w7 w8 A2 c2 N2 B2 d2 M2)
  clear hb8 hm1 hm2 hN1 hN2 hM1 hM2 n0 n1 n2 f0 f1 f2 nl HN7 HB7
  obtain ⟨s, hs⟩ : ∃ s, rec l K = s := ⟨_, rfl⟩
  rw [hs]
  have HS := Lib.hid hs
  clear hs
  have hq1 : ((w8.alloc (.cells #[.bool false, .slice A1 K c1, .slice B1 (K + 1) d1] 25)).alloc (.cells #[.bool false, .slice A2 (l.length - (K + 1)) c2, .slice B2 (ks.length - (K + 1)) d2] 25)).heap[w8.heap.size]? = some (.cells #[.bool false, .slice A1 K c1, .slice B1 (K + 1) d1] 25) := blk_alloc (heap_alloc_new _ _) _
  have hq2 : ((w8.alloc (.cells #[.bool false, .slice A1 K c1, .slice B1 (K + 1) d1] 25)).alloc (.cells #[.bool false, .slice A2 (l.length - (K + 1)) c2, .slice B2 (ks.length - (K + 1)) d2] 25)).heap[w8.heap.size + 1]? = some (.cells #[.bool false, .slice A2 (l.length - (K + 1)) c2, .slice B2 (ks.length - (K + 1)) d2] 25) := heap_alloc_at _ _ _ (by rw [heap_alloc_size])
  have hq3 : Below w8.heap.size w8 ((w8.alloc (.cells #[.bool false, .slice A1 K c1, .slice B1 (K + 1) d1] 25)).alloc (.cells #[.bool false, .slice A2 (l.length - (K + 1)) c2, .slice B2 (ks.length - (K + 1)) d2] 25)) := ((Below.refl _ _).alloc (Nat.le_refl _) _).alloc (by rw [heap_alloc_size]; exact Nat.le_succ _) _
  go_upto_region 7 with (fail)
  obtain ⟨w9, hw9⟩ : ∃ w9, w9 = ((w8.alloc (.cells #[.bool false, .slice A1 K c1, .slice B1 (K + 1) d1] 25)).alloc (.cells #[.bool false, .slice A2 (l.length - (K + 1)) c2, .slice B2 (ks.length - (K + 1)) d2] 25)) := ⟨_, rfl⟩
  rw [← hw9] at hq1 hq2 hq3 ⊢
  clear hw9
  obtain ⟨ba, hba⟩ : ∃ ba, ba = w8.heap.size := ⟨_, rfl⟩
  obtain ⟨bb, hbb⟩ : ∃ bb, bb = w8.heap.size + 1 := ⟨_, rfl⟩
  rw [← hba] at hq1
  rw [← hbb] at hq2
  have HM9 : Hid (Mid w w9 b3 ba bb false (some ad) c l (some bd) d ks K (l.length - (K + 1)) (K + 1) (ks.length - (K + 1)) A1 c1 B1 d1 A2 c2 B2 d2 N1 N2 M1 M2) := ⟨HN8.out.below hq3, hq1, hq2, (RdN.of HMD1.out.recs HMD1.out.kids).below hq3, (RdN.of HMD2.out.recs HMD2.out.kids).below hq3, (Rows2.of HMD1.out.recs HMD1.out.kids).below hq3 (Nat.le_refl _), (Rows2.of HMD2.out.recs HMD2.out.kids).below hq3 (Nat.le_refl _), HB8.out.trans (hq3.mono HB8.out.size)⟩
  rw [← hbb, ← hba]
  clear hq1 hq2 hq3 hba hbb HMD1 HMD2 HN8 HB8
  obtain ⟨n0, n1, n2, f0, f1, f2, nl⟩ := three_of_block HM9.out.nds.rno
  go_wp2_with fail
  refine (rcut_any false (some ad) c l (some bd) d ks _ HM9.out.nds.rd HBD.out (by simp only [skOf]; simp; omega)).mono ?_
  rintro e wa ⟨rfl, hba⟩
  rw [HK.out]
  have HMa := Lib.hid (HM9.out.below hba)
  clear hba n0 n1 n2 f0 f1 f2 nl HM9
  obtain ⟨n0, n1, n2, f0, f1, f2, nl⟩ := three_of_block HMa.out.nds.rno
  have hS0 := And.intro HMa.out.nds.drew.c0 HMa.out.nds.drew.c3
  have i1 : (K : Int) ≤ (c : Int) := by omega
  have i2 : (K : Int) ≤ (l.length : Int) := by omega
  have hcK : c ≠ K := by omega
  go_wp2_with fail
  have hz := heap_alloc_new wa (.cells #[.bool false, .slice none 0 0, .slice none 0 0] 29)
  have hbz : Below wa.heap.size wa (wa.alloc (.cells #[.bool false, .slice none 0 0, .slice none 0 0] 29)).drew := below_drewN ((Below.refl _ _).alloc (Nat.le_refl _) _) 1
  have HMz := Lib.hid (HMa.out.below hbz)
  have hSz := And.intro HMz.out.nds.c0 HMz.out.nds.c3
  obtain ⟨z0, z1, z2, zf0, zf1, zf2, zl⟩ := three_of_block (w := (wa.alloc (.cells #[.bool false, .slice none 0 0, .slice none 0 0] 29)).drew) hz
  have hx := heap_alloc_new wa (.cells  #[.bool false, .slice (some ad) K c, .slice none 0 0] 29)
  have hbx : Below wa.heap.size wa (wa.alloc (.cells  #[.bool false, .slice (some ad) K c, .slice none 0 0] 29)).drew := below_drewN ((Below.refl _ _).alloc (Nat.le_refl _) _) 1
  have HMx := Lib.hid (HMa.out.below hbx)
  have hSx := And.intro HMx.out.nds.c0 HMx.out.nds.c3
  clear n0 n1 n2 f0 f1 f2 nl
  refine wp_region_held_drew (S := fun w' => C3 w' w.heap.size false (some ad) l.length c (some bd) ks.length d ∧ C3 w' b3 false (some ad) l.length c (some bd) ks.length d) (by kernel_rfl) hS0 (fun hHeld => ?_)
  refine takeH (i := 0) (v := (.pointer (some ⟨w.heap.size, 0, none⟩))) rfl (by kernel_rfl) (by kernel_rfl) (by kernel_rfl) (fun _ _ _ h => h) (by rfl) (by intro w hSw; (try dsimp only at hSw); go_simp) (by assumption) ?_
  (try simp only [Act.put, List.setIfInBounds_toArray, List.set_cons_zero, List.set_cons_succ])
  refine takeH (i := 1) (v := (.bool false)) rfl (by kernel_rfl) (by kernel_rfl) (by kernel_rfl) (fun _ _ _ h => h) (by rfl) (by intro w hSw; (try dsimp only at hSw); go_simp) (by assumption) ?_
  (try simp only [Act.put, List.setIfInBounds_toArray, List.set_cons_zero, List.set_cons_succ])
  refine takeH (i := 2) (v := (.pointer (some ⟨b3, 1, none⟩))) rfl (by kernel_rfl) (by kernel_rfl) (by kernel_rfl) (fun _ _ _ h => h) (by rfl) (by intro w hSw; (try dsimp only at hSw); go_simp) (by assumption) ?_
  (try simp only [Act.put, List.setIfInBounds_toArray, List.set_cons_zero, List.set_cons_succ])
  refine takeH (i := 3) (v := (.slice (some ad) l.length c)) rfl (by kernel_rfl) (by kernel_rfl) (by kernel_rfl) (fun _ _ _ h => h) (by rfl) (by intro w hSw; (try dsimp only at hSw); go_simp) (by assumption) ?_
  (try simp only [Act.put, List.setIfInBounds_toArray, List.set_cons_zero, List.set_cons_succ])
  refine takeH (i := 4) (v := (.int .i64 K)) rfl (by kernel_rfl) (by kernel_rfl) (by kernel_rfl) (fun _ _ _ h => h) (by rfl) (by intro w hSw; (try dsimp only at hSw); go_simp) (by assumption) ?_
  (try simp only [Act.put, List.setIfInBounds_toArray, List.set_cons_zero, List.set_cons_succ])
  refine takeH (i := 5) (v := (.slice (some ad) K c)) rfl (by kernel_rfl) (by kernel_rfl) (by kernel_rfl) (fun _ _ _ h => h) (by rfl) (by intro w hSw; (try dsimp only at hSw); go_simp) (by assumption) ?_
  (try simp only [Act.put, List.setIfInBounds_toArray, List.set_cons_zero, List.set_cons_succ])
  refine takeH (i := 6) (v := (.agg #[.bool false, .slice (some ad) K c, .slice none 0 0])) rfl (by kernel_rfl) (by kernel_rfl) (by kernel_rfl) (fun _ _ _ h => h) (by rfl) (by intro w hSw; (try dsimp only at hSw); go_simp) (by assumption) ?_
  (try simp only [Act.put, List.setIfInBounds_toArray, List.set_cons_zero, List.set_cons_succ])
  refine wpAnyH_ready (rs := [7]) (by kernel_rfl) (by simp) ?_
  refine AllReadyH.cons rfl (fun KK hKK => ?_) AllReadyH.nil
  go_simp
  refine hKK.out _ _ hSz (fun hHeld => ?_)
  clear hKK KK
  refine wpAnyH_ready (rs := [8]) (by kernel_rfl) (by simp) ?_
  refine AllReadyH.cons rfl (fun KK hKK => ?_) AllReadyH.nil
  go_simp
  refine hKK.out _ _ hSx (fun hHeld => ?_)
  clear hKK KK
  refine wpAnyH_done (by kernel_rfl) ?_ _
  obtain ⟨wb, hX⟩ : ∃ wb, wb = (wa.alloc (.cells  #[.bool false, .slice (some ad) K c, .slice none 0 0] 29)).drew := ⟨_, rfl⟩
  have hx2 : wb.heap[wa.heap.size]? = some (.cells  #[.bool false, .slice (some ad) K c, .slice none 0 0] 29) := by rw [hX]; exact hx
  rw [← hX] at hbx HMx ⊢
  clear hX hx hS0 hSz hSx z0 z1 z2 zf0 zf1 zf2 zl hz hbz HMz hHeld
  obtain ⟨bx, hbxn⟩ : ∃ bx, bx = wa.heap.size := ⟨_, rfl⟩
  have HNX : Hid (b3 ≠ bx) := (by rw [hbxn]; exact Nat.ne_of_lt (lt_of_block HMa.out.nds.rno) : b3 ≠ bx)
  rw [← hbxn] at hx2 ⊢
  have HLX : Hid (wa.heap.size ≤ bx) := (by rw [hbxn]; exact Nat.le_refl _ : wa.heap.size ≤ bx)
  have HBab := Lib.hid hbx
  clear hbxn hbx
  have HMb := HMx
  clear HMx
  have HXb := Lib.hid hx2
  clear hx2
  have hS0 := And.intro HMb.out.nds.drew.c0 HMb.out.nds.drew.c3
  obtain ⟨n0, n1, n2, f0, f1, f2, nl⟩ := three_of_block HMb.out.nds.rno
  go_wp2_with fail
  have hz := heap_alloc_new wb (.cells #[.bool false, .slice none 0 0, .slice none 0 0] 29)
  have hbz : Below wb.heap.size wb (wb.alloc (.cells #[.bool false, .slice none 0 0, .slice none 0 0] 29)).drew := below_drewN ((Below.refl _ _).alloc (Nat.le_refl _) _) 1
  have HMz := Lib.hid (HMb.out.below hbz)
  have hSz := And.intro HMz.out.nds.c0 HMz.out.nds.c3
  obtain ⟨z0, z1, z2, zf0, zf1, zf2, zl⟩ := three_of_block (w := (wb.alloc (.cells #[.bool false, .slice none 0 0, .slice none 0 0] 29)).drew) hz
  have hx := heap_alloc_new wb (.cells  #[.bool false, .slice (some (ad.add K)) (l.length - K) (c - K), .slice none 0 0] 29)
  have hbx : Below wb.heap.size wb (wb.alloc (.cells  #[.bool false, .slice (some (ad.add K)) (l.length - K) (c - K), .slice none 0 0] 29)).drew := below_drewN ((Below.refl _ _).alloc (Nat.le_refl _) _) 1
  have HMx := Lib.hid (HMb.out.below hbx)
  have hSx := And.intro HMx.out.nds.c0 HMx.out.nds.c3
  clear n0 n1 n2 f0 f1 f2 nl
  refine wp_region_held_drew (S := fun w' => C3 w' w.heap.size false (some ad) l.length c (some bd) ks.length d ∧ C3 w' b3 false (some ad) l.length c (some bd) ks.length d) (by kernel_rfl) hS0 (fun hHeld => ?_)
  refine takeH (i := 0) (v := (.pointer (some ⟨w.heap.size, 0, none⟩))) rfl (by kernel_rfl) (by kernel_rfl) (by kernel_rfl) (fun _ _ _ h => h) (by rfl) (by intro w hSw; (try dsimp only at hSw); go_simp) (by assumption) ?_
  (try simp only [Act.put, List.setIfInBounds_toArray, List.set_cons_zero, List.set_cons_succ])
  refine takeH (i := 1) (v := (.bool false)) rfl (by kernel_rfl) (by kernel_rfl) (by kernel_rfl) (fun _ _ _ h => h) (by rfl) (by intro w hSw; (try dsimp only at hSw); go_simp) (by assumption) ?_
  (try simp only [Act.put, List.setIfInBounds_toArray, List.set_cons_zero, List.set_cons_succ])
  refine takeH (i := 2) (v := (.pointer (some ⟨b3, 1, none⟩))) rfl (by kernel_rfl) (by kernel_rfl) (by kernel_rfl) (fun _ _ _ h => h) (by rfl) (by intro w hSw; (try dsimp only at hSw); go_simp) (by assumption) ?_
  (try simp only [Act.put, List.setIfInBounds_toArray, List.set_cons_zero, List.set_cons_succ])
  refine takeH (i := 3) (v := (.slice (some ad) l.length c)) rfl (by kernel_rfl) (by kernel_rfl) (by kernel_rfl) (fun _ _ _ h => h) (by rfl) (by intro w hSw; (try dsimp only at hSw); go_simp) (by assumption) ?_
  (try simp only [Act.put, List.setIfInBounds_toArray, List.set_cons_zero, List.set_cons_succ])
  refine takeH (i := 4) (v := (.int .i64 K)) rfl (by kernel_rfl) (by kernel_rfl) (by kernel_rfl) (fun _ _ _ h => h) (by rfl) (by intro w hSw; (try dsimp only at hSw); go_simp) (by assumption) ?_
  (try simp only [Act.put, List.setIfInBounds_toArray, List.set_cons_zero, List.set_cons_succ])
  refine takeH (i := 5) (v := (.slice (some (ad.add K)) (l.length - K) (c - K))) rfl (by kernel_rfl) (by kernel_rfl) (by kernel_rfl) (fun _ _ _ h => h) (by rfl) (by intro w hSw; (try dsimp only at hSw); go_simp) (by assumption) ?_
  (try simp only [Act.put, List.setIfInBounds_toArray, List.set_cons_zero, List.set_cons_succ])
  refine takeH (i := 6) (v := (.agg #[.bool false, .slice (some (ad.add K)) (l.length - K) (c - K), .slice none 0 0])) rfl (by kernel_rfl) (by kernel_rfl) (by kernel_rfl) (fun _ _ _ h => h) (by rfl) (by intro w hSw; (try dsimp only at hSw); go_simp) (by assumption) ?_
  (try simp only [Act.put, List.setIfInBounds_toArray, List.set_cons_zero, List.set_cons_succ])
  refine wpAnyH_ready (rs := [7]) (by kernel_rfl) (by simp) ?_
  refine AllReadyH.cons rfl (fun KK hKK => ?_) AllReadyH.nil
  go_simp
  refine hKK.out _ _ hSz (fun hHeld => ?_)
  clear hKK KK
  refine wpAnyH_ready (rs := [8]) (by kernel_rfl) (by simp) ?_
  refine AllReadyH.cons rfl (fun KK hKK => ?_) AllReadyH.nil
  go_simp
  refine hKK.out _ _ hSx (fun hHeld => ?_)
  clear hKK KK
  refine wpAnyH_done (by kernel_rfl) ?_ _
  obtain ⟨wc, hX⟩ : ∃ wc, wc = (wb.alloc (.cells  #[.bool false, .slice (some (ad.add K)) (l.length - K) (c - K), .slice none 0 0] 29)).drew := ⟨_, rfl⟩
  have hx2 : wc.heap[wb.heap.size]? = some (.cells  #[.bool false, .slice (some (ad.add K)) (l.length - K) (c - K), .slice none 0 0] 29) := by rw [hX]; exact hx
  rw [← hX] at hbx HMx ⊢
  clear hX hx hS0 hSz hSx z0 z1 z2 zf0 zf1 zf2 zl hz hbz HMz hHeld
  have hx3 := (hbx.block _ (lt_of_block HXb.out)).trans HXb.out
  have hxy : bx ≠ wb.heap.size := Nat.ne_of_lt (lt_of_block HXb.out)
  obtain ⟨by_, hbyn⟩ : ∃ by_, by_ = wb.heap.size := ⟨_, rfl⟩
  have HNY : Hid (b3 ≠ by_) := (by rw [hbyn]; exact Nat.ne_of_lt (lt_of_block HMb.out.nds.rno) : b3 ≠ by_)
  rw [← hbyn] at hx2 hxy ⊢
  have HXY := Lib.hid hxy
  have HLY : Hid (wa.heap.size ≤ by_) := (by rw [hbyn]; exact HBab.out.size : wa.heap.size ≤ by_)
  have HBac := Lib.hid (HBab.out.trans (hbx.mono HBab.out.size))
  clear hbyn hbx HMb HXb hxy
  have HMc := HMx
  clear HMx
  have HXc := Lib.hid hx3
  have HYc := Lib.hid hx2
  clear hx2 hx3
  obtain ⟨n0, n1, n2, f0, f1, f2, nl⟩ := three_of_block HMc.out.nds.nod
  have hS0 := HMc.out.nds.drew.c3
  have x3 : IntKind.i64.wrap ((K : Int) + 1) = (K : Int) + 1 := IntWalk.i64_in _ (by omega)
  have y1 : (0 : Int) ≤ (K : Int) + 1 := by omega
  have y2 : (K : Int) + 1 ≤ (c : Int) := by omega
  have y3 : ((K : Int) + 1).toNat = K + 1 := by omega
  have y4 : c ≠ K + 1 := by omega
  have y5 : (K : Int) + 1 ≤ (l.length : Int) := by omega
  have y6 : (K : Int) + 1 ≤ (d : Int) := by omega
  have y7 : d ≠ K + 1 := by omega
  have y8 : (K : Int) + 1 ≤ (ks.length : Int) := by omega
  have hbx3 := HNX.out
  have hby3 := HNY.out
  obtain ⟨wq, hwq⟩ : ∃ wq, wq = wc.drew := ⟨_, rfl⟩
  have HMq : Hid (Mid w wq b3 ba bb false (some ad) c l (some bd) d ks K (l.length - (K + 1)) (K + 1) (ks.length - (K + 1)) A1 c1 B1 d1 A2 c2 B2 d2 N1 N2 M1 M2) := (by rw [hwq]; exact HMc.out.below (below_drewN (Below.refl _ _) 1) : Mid w wq b3 ba bb false (some ad) c l (some bd) d ks K (l.length - (K + 1)) (K + 1) (ks.length - (K + 1)) A1 c1 B1 d1 A2 c2 B2 d2 N1 N2 M1 M2)
  have HBaq : Hid (Below wa.heap.size wa wq) := (by rw [hwq]; exact below_drewN HBac.out 1 : Below wa.heap.size wa wq)
  have HXq : Hid (wq.heap[bx]? = some (.cells #[.bool false, .slice (some ad) K c, .slice none 0 0] 29)) := (by rw [hwq]; exact HXc.out : wq.heap[bx]? = some (.cells #[.bool false, .slice (some ad) K c, .slice none 0 0] 29))
  have HYq : Hid (wq.heap[by_]? = some (.cells #[.bool false, .slice (some (ad.add K)) (l.length - K) (c - K), .slice none 0 0] 29)) := (by rw [hwq]; exact HYc.out : wq.heap[by_]? = some (.cells #[.bool false, .slice (some (ad.add K)) (l.length - K) (c - K), .slice none 0 0] 29))
  have hx1 : (wq.setCell ⟨bx, 2, none⟩ (.slice (some bd) (K + 1) d)).heap[bx]? = some (.cells #[.bool false, .slice (some ad) K c, (.slice (some bd) (K + 1) d)] 29) := blk_set HXq.out 2 _
  have hy1 : (wq.setCell ⟨bx, 2, none⟩ (.slice (some bd) (K + 1) d)).heap[by_]? = some (.cells #[.bool false, .slice (some (ad.add K)) (l.length - K) (c - K), .slice none 0 0] 29) := blk_set_ne HYq.out _ _ (Ne.symm HXY.out)
  have hn1 : (wq.setCell ⟨bx, 2, none⟩ (.slice (some bd) (K + 1) d)).heap[b3]? = some (RNodeObj false (some ad) l.length c (some bd) ks.length d) := blk_set_ne HMq.out.nds.rno _ _ hbx3
  have hx2 : ((wq.setCell ⟨bx, 2, none⟩ (.slice (some bd) (K + 1) d)).setCell ⟨by_, 1, none⟩ (.slice (some (ad.add (K + 1))) (l.length - (K + 1)) (c - (K + 1)))).heap[bx]? = some (.cells #[.bool false, .slice (some ad) K c, (.slice (some bd) (K + 1) d)] 29) := blk_set_ne hx1 _ _ HXY.out
  have hy2 : ((wq.setCell ⟨bx, 2, none⟩ (.slice (some bd) (K + 1) d)).setCell ⟨by_, 1, none⟩ (.slice (some (ad.add (K + 1))) (l.length - (K + 1)) (c - (K + 1)))).heap[by_]? = some (.cells #[.bool false, (.slice (some (ad.add (K + 1))) (l.length - (K + 1)) (c - (K + 1))), .slice none 0 0] 29) := blk_set hy1 1 _
  have hn2 := blk_set_ne hn1 1 (.slice (some (ad.add (K + 1))) (l.length - (K + 1)) (c - (K + 1))) hby3
  have hx3 : (((wq.setCell ⟨bx, 2, none⟩ (.slice (some bd) (K + 1) d)).setCell ⟨by_, 1, none⟩ (.slice (some (ad.add (K + 1))) (l.length - (K + 1)) (c - (K + 1)))).setCell ⟨by_, 2, none⟩ (.slice (some (bd.add (K + 1))) (ks.length - (K + 1)) (d - (K + 1)))).heap[bx]? = some (.cells #[.bool false, .slice (some ad) K c, (.slice (some bd) (K + 1) d)] 29) := blk_set_ne hx2 _ _ HXY.out
  have hy3 : (((wq.setCell ⟨bx, 2, none⟩ (.slice (some bd) (K + 1) d)).setCell ⟨by_, 1, none⟩ (.slice (some (ad.add (K + 1))) (l.length - (K + 1)) (c - (K + 1)))).setCell ⟨by_, 2, none⟩ (.slice (some (bd.add (K + 1))) (ks.length - (K + 1)) (d - (K + 1)))).heap[by_]? = some (.cells #[.bool false, (.slice (some (ad.add (K + 1))) (l.length - (K + 1)) (c - (K + 1))), (.slice (some (bd.add (K + 1))) (ks.length - (K + 1)) (d - (K + 1)))] 29) := blk_set hy2 2 _
  have hn3 := blk_set_ne hn2 2 (.slice (some (bd.add (K + 1))) (ks.length - (K + 1)) (d - (K + 1))) hby3
  have hS1 := rc3 hn1
  have hS2 := rc3 hn2
  have hS3 := rc3 hn3
  have HX3 := Lib.hid hx3
  have HY3 := Lib.hid hy3
  obtain ⟨p0, p1, p2, pf0, pf1, pf2, pl⟩ := three_of_block HXq.out
  obtain ⟨q0, q1, q2, qf0, qf1, qf2, ql⟩ := three_of_block hy1
  obtain ⟨r0, r1, r2, rf0, rf1, rf2, rl⟩ := three_of_block hy2
  clear hx1 hy1 hn1 hx2 hy2 hn2 hx3 hy3 hn3
  go_wp2_with fail
  refine wp_region_held_drew (S := fun w' => C3 w' b3 false (some ad) l.length c (some bd) ks.length d) (by kernel_rfl) hS0 (fun hHeld => ?_)
  rw [← hwq] at hHeld ⊢
  clear hwq
  refine takeH (i := 0) (v := (.pointer (some ⟨b3, 2, none⟩))) rfl (by kernel_rfl) (by kernel_rfl) (by kernel_rfl) (fun _ _ _ h => h) (by rfl) (by intro w hSw; (try dsimp only at hSw); go_simp) (by assumption) ?_
  (try simp only [Act.put, List.setIfInBounds_toArray, List.set_cons_zero, List.set_cons_succ])
  refine takeH (i := 1) (v := (.slice (some bd) ks.length d)) rfl (by kernel_rfl) (by kernel_rfl) (by kernel_rfl) (fun _ _ _ h => h) (by rfl) (by intro w hSw; (try dsimp only at hSw); go_simp) (by assumption) ?_
  (try simp only [Act.put, List.setIfInBounds_toArray, List.set_cons_zero, List.set_cons_succ])
  refine takeH (i := 2) (v := (.int .i64 K)) rfl (by kernel_rfl) (by kernel_rfl) (by kernel_rfl) (fun _ _ _ h => h) (by rfl) (by intro w hSw; (try dsimp only at hSw); go_simp) (by assumption) ?_
  (try simp only [Act.put, List.setIfInBounds_toArray, List.set_cons_zero, List.set_cons_succ])
  refine takeH (i := 3) (v := (.int .i64 ((K : Int) + 1))) rfl (by kernel_rfl) (by kernel_rfl) (by kernel_rfl) (fun _ _ _ h => h) (by rfl) (by intro w hSw; (try dsimp only at hSw); go_simp) (by assumption) ?_
  (try simp only [Act.put, List.setIfInBounds_toArray, List.set_cons_zero, List.set_cons_succ])
  refine takeH (i := 4) (v := (.slice (some bd) (K + 1) d)) rfl (by kernel_rfl) (by kernel_rfl) (by kernel_rfl) (fun _ _ _ h => h) (by rfl) (by intro w hSw; (try dsimp only at hSw); go_simp) (by assumption) ?_
  (try simp only [Act.put, List.setIfInBounds_toArray, List.set_cons_zero, List.set_cons_succ])
  refine takeH (i := 5) (v := (.pointer (some ⟨b3, 1, none⟩))) rfl (by kernel_rfl) (by kernel_rfl) (by kernel_rfl) (fun _ _ _ h => h) (by rfl) (by intro w hSw; (try dsimp only at hSw); go_simp) (by assumption) ?_
  (try simp only [Act.put, List.setIfInBounds_toArray, List.set_cons_zero, List.set_cons_succ])
  refine takeH (i := 6) (v := (.slice (some ad) l.length c)) rfl (by kernel_rfl) (by kernel_rfl) (by kernel_rfl) (fun _ _ _ h => h) (by rfl) (by intro w hSw; (try dsimp only at hSw); go_simp) (by assumption) ?_
  (try simp only [Act.put, List.setIfInBounds_toArray, List.set_cons_zero, List.set_cons_succ])
  refine takeH (i := 7) (v := (.int .i64 K)) rfl (by kernel_rfl) (by kernel_rfl) (by kernel_rfl) (fun _ _ _ h => h) (by rfl) (by intro w hSw; (try dsimp only at hSw); go_simp) (by assumption) ?_
  (try simp only [Act.put, List.setIfInBounds_toArray, List.set_cons_zero, List.set_cons_succ])
  refine takeH (i := 8) (v := (.int .i64 ((K : Int) + 1))) rfl (by kernel_rfl) (by kernel_rfl) (by kernel_rfl) (fun _ _ _ h => h) (by rfl) (by intro w hSw; (try dsimp only at hSw); go_simp) (by assumption) ?_
  (try simp only [Act.put, List.setIfInBounds_toArray, List.set_cons_zero, List.set_cons_succ])
  refine takeH (i := 9) (v := (.slice (some (ad.add (K + 1))) (l.length - (K + 1)) (c - (K + 1)))) rfl (by kernel_rfl) (by kernel_rfl) (by kernel_rfl) (fun _ _ _ h => h) (by rfl) (by intro w hSw; (try dsimp only at hSw); go_simp) (by assumption) ?_
  (try simp only [Act.put, List.setIfInBounds_toArray, List.set_cons_zero, List.set_cons_succ])
  refine takeH (i := 10) (v := (.pointer (some ⟨b3, 2, none⟩))) rfl (by kernel_rfl) (by kernel_rfl) (by kernel_rfl) (fun _ _ _ h => h) (by rfl) (by intro w hSw; (try dsimp only at hSw); go_simp) (by assumption) ?_
  (try simp only [Act.put, List.setIfInBounds_toArray, List.set_cons_zero, List.set_cons_succ])
  refine takeH (i := 11) (v := (.slice (some bd) ks.length d)) rfl (by kernel_rfl) (by kernel_rfl) (by kernel_rfl) (fun _ _ _ h => h) (by rfl) (by intro w hSw; (try dsimp only at hSw); go_simp) (by assumption) ?_
  (try simp only [Act.put, List.setIfInBounds_toArray, List.set_cons_zero, List.set_cons_succ])
  refine takeH (i := 12) (v := (.int .i64 K)) rfl (by kernel_rfl) (by kernel_rfl) (by kernel_rfl) (fun _ _ _ h => h) (by rfl) (by intro w hSw; (try dsimp only at hSw); go_simp) (by assumption) ?_
  (try simp only [Act.put, List.setIfInBounds_toArray, List.set_cons_zero, List.set_cons_succ])
  refine takeH (i := 13) (v := (.int .i64 ((K : Int) + 1))) rfl (by kernel_rfl) (by kernel_rfl) (by kernel_rfl) (fun _ _ _ h => h) (by rfl) (by intro w hSw; (try dsimp only at hSw); go_simp) (by assumption) ?_
  (try simp only [Act.put, List.setIfInBounds_toArray, List.set_cons_zero, List.set_cons_succ])
  refine takeH (i := 14) (v := (.slice (some (bd.add (K + 1))) (ks.length - (K + 1)) (d - (K + 1)))) rfl (by kernel_rfl) (by kernel_rfl) (by kernel_rfl) (fun _ _ _ h => h) (by rfl) (by intro w hSw; (try dsimp only at hSw); go_simp) (by assumption) ?_
  (try simp only [Act.put, List.setIfInBounds_toArray, List.set_cons_zero, List.set_cons_succ])
  refine takeH (i := 15) (v := (.pointer (some ⟨bx, 2, none⟩))) rfl (by kernel_rfl) (by kernel_rfl) (by kernel_rfl) (fun _ _ _ h => h) (by rfl) (by intro w hSw; (try dsimp only at hSw); go_simp) (by assumption) ?_
  (try simp only [Act.put, List.setIfInBounds_toArray, List.set_cons_zero, List.set_cons_succ])
  refine wpAnyH_ready (rs := [16]) (by kernel_rfl) (by simp) ?_
  refine AllReadyH.cons rfl (fun KK hKK => ?_) AllReadyH.nil
  go_simp
  refine hKK.out _ (wq.setCell ⟨bx, 2, none⟩ (.slice (some bd) (K + 1) d)) hS1 (fun hHeld => ?_)
  clear hKK KK
  refine takeH (i := 17) (v := (.pointer (some ⟨by_, 1, none⟩))) rfl (by kernel_rfl) (by kernel_rfl) (by kernel_rfl) (fun _ _ _ h => h) (by rfl) (by intro w hSw; (try dsimp only at hSw); go_simp) (by assumption) ?_
  (try simp only [Act.put, List.setIfInBounds_toArray, List.set_cons_zero, List.set_cons_succ])
  refine wpAnyH_ready (rs := [18]) (by kernel_rfl) (by simp) ?_
  refine AllReadyH.cons rfl (fun KK hKK => ?_) AllReadyH.nil
  go_simp
  refine hKK.out _ ((wq.setCell ⟨bx, 2, none⟩ (.slice (some bd) (K + 1) d)).setCell ⟨by_, 1, none⟩ (.slice (some (ad.add (K + 1))) (l.length - (K + 1)) (c - (K + 1)))) hS2 (fun hHeld => ?_)
  clear hKK KK
  refine takeH (i := 19) (v := (.pointer (some ⟨by_, 2, none⟩))) rfl (by kernel_rfl) (by kernel_rfl) (by kernel_rfl) (fun _ _ _ h => h) (by rfl) (by intro w hSw; (try dsimp only at hSw); go_simp) (by assumption) ?_
  (try simp only [Act.put, List.setIfInBounds_toArray, List.set_cons_zero, List.set_cons_succ])
  refine wpAnyH_ready (rs := [20]) (by kernel_rfl) (by simp) ?_
  refine AllReadyH.cons rfl (fun KK hKK => ?_) AllReadyH.nil
  go_simp
  refine hKK.out _ (((wq.setCell ⟨bx, 2, none⟩ (.slice (some bd) (K + 1) d)).setCell ⟨by_, 1, none⟩ (.slice (some (ad.add (K + 1))) (l.length - (K + 1)) (c - (K + 1)))).setCell ⟨by_, 2, none⟩ (.slice (some (bd.add (K + 1))) (ks.length - (K + 1)) (d - (K + 1)))) hS3 (fun hHeld => ?_)
  clear hKK KK
  refine wpAnyH_done (by kernel_rfl) ?_ _
  obtain ⟨wd, hwd⟩ : ∃ wd, wd = (((wq.setCell ⟨bx, 2, none⟩ (.slice (some bd) (K + 1) d)).setCell ⟨by_, 1, none⟩ (.slice (some (ad.add (K + 1))) (l.length - (K + 1)) (c - (K + 1)))).setCell ⟨by_, 2, none⟩ (.slice (some (bd.add (K + 1))) (ks.length - (K + 1)) (d - (K + 1)))) := ⟨_, rfl⟩
  have HXd : Hid (wd.heap[bx]? = some (.cells #[.bool false, .slice (some ad) K c, (.slice (some bd) (K + 1) d)] 29)) := (by rw [hwd]; exact HX3.out : wd.heap[bx]? = some (.cells #[.bool false, .slice (some ad) K c, (.slice (some bd) (K + 1) d)] 29))
  have HYd : Hid (wd.heap[by_]? = some (.cells #[.bool false, (.slice (some (ad.add (K + 1))) (l.length - (K + 1)) (c - (K + 1))), (.slice (some (bd.add (K + 1))) (ks.length - (K + 1)) (d - (K + 1)))] 29)) := (by rw [hwd]; exact HY3.out : wd.heap[by_]? = some (.cells #[.bool false, (.slice (some (ad.add (K + 1))) (l.length - (K + 1)) (c - (K + 1))), (.slice (some (bd.add (K + 1))) (ks.length - (K + 1)) (d - (K + 1)))] 29))
  have HBad : Hid (Below wa.heap.size wa wd) := (by rw [hwd]; exact ((HBaq.out.setCell HLX.out _).setCell HLY.out _).setCell HLY.out _ : Below wa.heap.size wa wd)
  have HMd := Lib.hid (HMa.out.below HBad.out)
  rw [← hwd]
  clear hwd hHeld hS0 hS1 hS2 hS3 HX3 HY3 p0 p1 p2 pf0 pf1 pf2 pl q0 q1 q2 qf0 qf1 qf2 ql r0 r1 r2 rf0 rf1 rf2 rl
  go_wp2_with fail
  obtain ⟨ad2, had2, hrc2⟩ := Kd.at_string HMd.out.nds.rd.recs (K : Int) (by omega) (by omega)
  obtain rfl : ad = ad2 := Option.some.inj had2
  rw [Int.toNat_natCast, rdOf_rec, HS.out] at hrc2
  have HN1L : Hid (N1.length = K) := (by rw [← HN1.out]; exact HE0.out : N1.length = K)
  have HN2L : Hid (N2.length = l.length - (K + 1)) := (by rw [← HN2.out]; exact HE1.out : N2.length = l.length - (K + 1))
  have HM1L : Hid (M1.length = K + 1) := (by rw [← HM1.out]; exact HE2.out : M1.length = K + 1)
  have HM2L : Hid (M2.length = ks.length - (K + 1)) := (by rw [← HM2.out]; exact HE3.out : M2.length = ks.length - (K + 1))
  have HT1 : Hid (l.take K = N1) := (by rw [← HN1.out, sub_zero] : l.take K = N1)
  have HT2 : Hid (l.drop (K + 1) = N2) := (by rw [← HN2.out, sub_end _ _ _ (Nat.le_refl _)]; rfl : l.drop (K + 1) = N2)
  have hD : Below wd.heap.size wd wd.drew := below_drewN (Below.refl _ _) 1
  have HMe := Lib.hid (HMd.out.below hD)
  have HF0 : Hid (Five wd.drew ba bb bx by_ b3 (NodeObj false A1 K c1 B1 (K + 1) d1) (NodeObj false A2 (l.length - (K + 1)) c2 B2 (ks.length - (K + 1)) d2) (RNodeObj false (some ad) K c (some bd) (K + 1) d) (RNodeObj false (some (ad.add (K + 1))) (l.length - (K + 1)) ((c - (K + 1))) (some (bd.add (K + 1))) (ks.length - (K + 1)) ((d - (K + 1)))) (RNodeObj false (some ad) l.length c (some bd) ks.length d) (ad.add K) (.string s)) := ⟨HMe.out.a, HMe.out.b, HXd.out, HYd.out, HMe.out.nds.rno, hrc2⟩
  have hx1 := rd_take HMe.out.nds.rd.recs K (by omega) (by omega)
  have hx2 := rd_drop HMe.out.nds.rd.recs (K + 1) (by omega) (by omega)
  rw [HT1.out] at hx1
  rw [HT2.out] at hx2
  have HT3 : Hid (ks.take (K + 1) = M1) := (by rw [← HM1.out]; simp only [kidsOf, Bool.false_eq_true, if_false]; rw [sub_zero] : ks.take (K + 1) = M1)
  have HT4 : Hid (ks.drop (K + 1) = M2) := (by rw [← HM2.out]; simp only [kidsOf, skOf, Bool.false_eq_true, if_false]; rw [sub_end _ _ _ (by have := HKL.out; omega)] : ks.drop (K + 1) = M2)
  have hk1 := kd_take HMe.out.nds.rd.kids (K + 1) (by omega) (by omega)
  have hk2 := kd_drop HMe.out.nds.rd.kids (K + 1) (by omega) (by omega)
  rw [HT3.out] at hk1
  rw [HT4.out] at hk2
  have HR0 : Hid (Rds wd.drew A1 c1 B1 d1 A2 c2 B2 d2 (some ad) c (some bd) d (some (ad.add (K + 1))) ((c - (K + 1))) (some bd) d (some (bd.add (K + 1))) ((d - (K + 1))) l N1 N2 ks M1 M2) := ⟨HMe.out.ra, HMe.out.rb, ⟨hx1, hk1, by rw [HN1L.out]; omega, by rw [HM1L.out]; omega⟩, ⟨hx2, hk2, by rw [HN2L.out]; omega, by rw [HM2L.out]; omega⟩, HMe.out.nds.rd, HMe.out.a2, HMe.out.b2⟩
  clear hx1 hx2 hk1 hk2 hrc2 had2
  have hS0 := HF0.out.S
  have HLD := Lib.hid (HMd.out.low.trans (hD.mono HMd.out.low.size))
  have z3 : (K : Int) < (l.length : Int) := by omega
  clear hD
  refine wp_region_held_drew (S := fun w' => C3 w' ba false A1 K c1 B1 (K + 1) d1 ∧ C3 w' bb false A2 (l.length - (K + 1)) c2 B2 (ks.length - (K + 1)) d2 ∧ C3 w' bx false (some ad) K c (some bd) (K + 1) d ∧ C3 w' by_ false (some (ad.add (K + 1))) (l.length - (K + 1)) (c - (K + 1)) (some (bd.add (K + 1))) (ks.length - (K + 1)) (d - (K + 1)) ∧ C3 w' b3 false (some ad) l.length c (some bd) ks.length d ∧ w'.cell? (ad.add K) = some (.string s)) (by kernel_rfl) hS0 (fun hHeld => ?_)
  refine takeH (i := 0) (v := (.string s)) rfl (by kernel_rfl) (by kernel_rfl) (by kernel_rfl) (fun _ _ _ h => h) (by rfl) (by intro w hSw; (try dsimp only at hSw); go_simp) (by assumption) ?_
  (try simp only [Act.put, List.setIfInBounds_toArray, List.set_cons_zero, List.set_cons_succ])
  refine takeH (i := 1) (v := (.pointer (some ⟨b3, 1, none⟩))) rfl (by kernel_rfl) (by kernel_rfl) (by kernel_rfl) (fun _ _ _ h => h) (by rfl) (by intro w hSw; (try dsimp only at hSw); go_simp) (by assumption) ?_
  (try simp only [Act.put, List.setIfInBounds_toArray, List.set_cons_zero, List.set_cons_succ])
  refine takeH (i := 2) (v := (.slice (some ad) l.length c)) rfl (by kernel_rfl) (by kernel_rfl) (by kernel_rfl) (fun _ _ _ h => h) (by rfl) (by intro w hSw; (try dsimp only at hSw); go_simp) (by assumption) ?_
  (try simp only [Act.put, List.setIfInBounds_toArray, List.set_cons_zero, List.set_cons_succ])
  refine takeH (i := 3) (v := (.int .i64 K)) rfl (by kernel_rfl) (by kernel_rfl) (by kernel_rfl) (fun _ _ _ h => h) (by rfl) (by intro w hSw; (try dsimp only at hSw); go_simp) (by assumption) ?_
  (try simp only [Act.put, List.setIfInBounds_toArray, List.set_cons_zero, List.set_cons_succ])
  refine takeH (i := 4) (v := (.pointer (some (ad.add K)))) rfl (by kernel_rfl) (by kernel_rfl) (by kernel_rfl) (fun _ _ _ h => h) (by rfl) (by intro w hSw; (try dsimp only at hSw); go_simp) (by assumption) ?_
  (try simp only [Act.put, List.setIfInBounds_toArray, List.set_cons_zero, List.set_cons_succ])
  refine takeH (i := 5) (v := (.string s)) rfl (by kernel_rfl) (by kernel_rfl) (by kernel_rfl) (fun _ _ _ h => h) (by rfl) (by intro w hSw; (try dsimp only at hSw); go_simp) (by assumption) ?_
  (try simp only [Act.put, List.setIfInBounds_toArray, List.set_cons_zero, List.set_cons_succ])
  refine takeH (i := 6) (v := (.bool true)) rfl (by kernel_rfl) (by kernel_rfl) (by kernel_rfl) (fun _ _ _ h => h) (by rfl) (by intro w hSw; (try dsimp only at hSw); go_simp) (by assumption) ?_
  (try simp only [Act.put, List.setIfInBounds_toArray, List.set_cons_zero, List.set_cons_succ])
  refine takeH (i := 7) (v := (.bool true)) rfl (by kernel_rfl) (by kernel_rfl) (by kernel_rfl) (fun _ _ _ h => h) (by rfl) (by intro w hSw; (try dsimp only at hSw); go_simp) (by assumption) ?_
  (try simp only [Act.put, List.setIfInBounds_toArray, List.set_cons_zero, List.set_cons_succ])
  refine takeH (i := 8) (v := (.agg #[.bool false, .slice A1 K c1, .slice B1 (K + 1) d1])) rfl (by kernel_rfl) (by kernel_rfl) (by kernel_rfl) (fun _ _ _ h => h) (by rfl) (by intro w hSw; (try dsimp only at hSw); go_simp) (by assumption) ?_
  (try simp only [Act.put, List.setIfInBounds_toArray, List.set_cons_zero, List.set_cons_succ])
  refine takeH (i := 10) (v := (.agg #[.bool false, .slice (some ad) K c, .slice (some bd) (K + 1) d])) rfl (by kernel_rfl) (by kernel_rfl) (by kernel_rfl) (fun _ _ _ h => h) (by rfl) (by intro w hSw; (try dsimp only at hSw); go_simp) (by assumption) ?_
  (try simp only [Act.put, List.setIfInBounds_toArray, List.set_cons_zero, List.set_cons_succ])
  refine wpAnyH_ready (rs := [9]) (by kernel_rfl) (by simp) ?_
  refine AllReadyH.cons rfl (fun KK hKK => ?_) AllReadyH.nil
  go_simp
  go_wp2_with (go_at_call 12; (refine (plain_any false A1 K c1 B1 (K + 1) d1 _).mono ?_); rintro e y1 ⟨rfl, hb⟩; have HL1 := Lib.hid hb; have HF1 := Lib.hid (HF0.out.below hb); have HR1 := Lib.hid (HR0.out.below hb); have hS1 := HF1.out.S; clear hb)
  refine hKK.out _ _ hS1 (fun hHeld => ?_)
  clear hKK KK
  refine wpAnyH_ready (rs := [11]) (by kernel_rfl) (by simp) ?_
  refine AllReadyH.cons rfl (fun KK hKK => ?_) AllReadyH.nil
  go_simp
  go_wp2_with (go_at_call 23; (refine (same2_any false A1 c1 N1 B1 d1 M1 (some ad) c (some bd) d y1 K (K + 1) HR1.out.a HR1.out.x HN1L.out HM1L.out (by omega) (by omega)).mono ?_); rintro e y2 ⟨rfl, hb⟩; have HL2 := Lib.hid hb; have HF2 := Lib.hid (HF1.out.below hb); have HR2 := Lib.hid (HR1.out.below hb); have hS2 := HF2.out.S; clear hb)
  refine hKK.out _ _ hS2 (fun hHeld => ?_)
  clear hKK KK
  refine takeH (i := 12) (v := (.bool true)) rfl (by kernel_rfl) (by kernel_rfl) (by kernel_rfl) (fun _ _ _ h => h) (by rfl) (by intro w hSw; (try dsimp only at hSw); go_simp) (by assumption) ?_
  (try simp only [Act.put, List.setIfInBounds_toArray, List.set_cons_zero, List.set_cons_succ])
  refine takeH (i := 13) (v := (.bool true)) rfl (by kernel_rfl) (by kernel_rfl) (by kernel_rfl) (fun _ _ _ h => h) (by rfl) (by intro w hSw; (try dsimp only at hSw); go_simp) (by assumption) ?_
  (try simp only [Act.put, List.setIfInBounds_toArray, List.set_cons_zero, List.set_cons_succ])
  refine takeH (i := 14) (v := (.agg #[.bool false, .slice A2 (l.length - (K + 1)) c2, .slice B2 (ks.length - (K + 1)) d2])) rfl (by kernel_rfl) (by kernel_rfl) (by kernel_rfl) (fun _ _ _ h => h) (by rfl) (by intro w hSw; (try dsimp only at hSw); go_simp) (by assumption) ?_
  (try simp only [Act.put, List.setIfInBounds_toArray, List.set_cons_zero, List.set_cons_succ])
  refine takeH (i := 16) (v := (.agg #[.bool false, .slice (some (ad.add (K + 1))) (l.length - (K + 1)) (c - (K + 1)), .slice (some (bd.add (K + 1))) (ks.length - (K + 1)) (d - (K + 1))])) rfl (by kernel_rfl) (by kernel_rfl) (by kernel_rfl) (fun _ _ _ h => h) (by rfl) (by intro w hSw; (try dsimp only at hSw); go_simp) (by assumption) ?_
  (try simp only [Act.put, List.setIfInBounds_toArray, List.set_cons_zero, List.set_cons_succ])
  refine wpAnyH_ready (rs := [15]) (by kernel_rfl) (by simp) ?_
  refine AllReadyH.cons rfl (fun KK hKK => ?_) AllReadyH.nil
  go_simp
  go_wp2_with (go_at_call 12; (refine (plain_any false A2 (l.length - (K + 1)) c2 B2 (ks.length - (K + 1)) d2 _).mono ?_); rintro e y3 ⟨rfl, hb⟩; have HL3 := Lib.hid hb; have HF3 := Lib.hid (HF2.out.below hb); have HR3 := Lib.hid (HR2.out.below hb); have hS3 := HF3.out.S; clear hb)
  refine hKK.out _ _ hS3 (fun hHeld => ?_)
  clear hKK KK
  refine wpAnyH_ready (rs := [17]) (by kernel_rfl) (by simp) ?_
  refine AllReadyH.cons rfl (fun KK hKK => ?_) AllReadyH.nil
  go_simp
  go_wp2_with (go_at_call 23; (refine (same2_any false A2 c2 N2 B2 d2 M2 (some (ad.add (K + 1))) ((c - (K + 1))) (some (bd.add (K + 1))) ((d - (K + 1))) y3 (l.length - (K + 1)) (ks.length - (K + 1)) HR3.out.b HR3.out.y HN2L.out HM2L.out (by omega) (by omega)).mono ?_); rintro e y4 ⟨rfl, hb⟩; have HL4 := Lib.hid hb; have HF4 := Lib.hid (HF3.out.below hb); have HR4 := Lib.hid (HR3.out.below hb); have hS4 := HF4.out.S; clear hb)
  refine hKK.out _ _ hS4 (fun hHeld => ?_)
  clear hKK KK
  refine takeH (i := 18) (v := (.bool true)) rfl (by kernel_rfl) (by kernel_rfl) (by kernel_rfl) (fun _ _ _ h => h) (by rfl) (by intro w hSw; (try dsimp only at hSw); go_simp) (by assumption) ?_
  (try simp only [Act.put, List.setIfInBounds_toArray, List.set_cons_zero, List.set_cons_succ])
  refine takeH (i := 19) (v := (.bool true)) rfl (by kernel_rfl) (by kernel_rfl) (by kernel_rfl) (fun _ _ _ h => h) (by rfl) (by intro w hSw; (try dsimp only at hSw); go_simp) (by assumption) ?_
  (try simp only [Act.put, List.setIfInBounds_toArray, List.set_cons_zero, List.set_cons_succ])
  refine takeH (i := 20) (v := (.agg #[.bool false, .slice A1 K c1, .slice B1 (K + 1) d1])) rfl (by kernel_rfl) (by kernel_rfl) (by kernel_rfl) (fun _ _ _ h => h) (by rfl) (by intro w hSw; (try dsimp only at hSw); go_simp) (by assumption) ?_
  (try simp only [Act.put, List.setIfInBounds_toArray, List.set_cons_zero, List.set_cons_succ])
  refine takeH (i := 21) (v := (.string s)) rfl (by kernel_rfl) (by kernel_rfl) (by kernel_rfl) (fun _ _ _ h => h) (by rfl) (by intro w hSw; (try dsimp only at hSw); go_simp) (by assumption) ?_
  (try simp only [Act.put, List.setIfInBounds_toArray, List.set_cons_zero, List.set_cons_succ])
  refine takeH (i := 22) (v := (.agg #[.bool false, .slice A2 (l.length - (K + 1)) c2, .slice B2 (ks.length - (K + 1)) d2])) rfl (by kernel_rfl) (by kernel_rfl) (by kernel_rfl) (fun _ _ _ h => h) (by rfl) (by intro w hSw; (try dsimp only at hSw); go_simp) (by assumption) ?_
  (try simp only [Act.put, List.setIfInBounds_toArray, List.set_cons_zero, List.set_cons_succ])
  refine takeH (i := 25) (v := (.agg #[.bool false, .slice (some ad) l.length c, .slice (some bd) ks.length d])) rfl (by kernel_rfl) (by kernel_rfl) (by kernel_rfl) (fun _ _ _ h => h) (by rfl) (by intro w hSw; (try dsimp only at hSw); go_simp) (by assumption) ?_
  (try simp only [Act.put, List.setIfInBounds_toArray, List.set_cons_zero, List.set_cons_succ])
  refine wpAnyH_ready (rs := [23]) (by kernel_rfl) (by simp) ?_
  refine AllReadyH.cons rfl (fun KK hKK => ?_) AllReadyH.nil
  go_simp
  go_wp2_with (have hj := join2_any false l ks K (l.length - (K + 1)) (K + 1) (ks.length - (K + 1)) HSHP.out (by omega) HBD.out A1 c1 B1 d1 A2 c2 B2 d2 y4 HE0.out HE1.out HE2.out HE3.out (by rw [HN1.out, HM1.out]; exact HR4.out.a2) (by rw [HN2.out, HM2.out]; exact HR4.out.b2) (by omega) (by omega) (by omega); rw [HS.out] at hj; go_at_call 26; (refine (hj).mono ?_); rintro e y5 ⟨A5, c5, B5, d5, rfl, ho1, ho2, hb⟩; have HL5 := Lib.hid hb; have HF5 := Lib.hid (HF4.out.below hb); have HR5 := Lib.hid (HR4.out.below hb); have hS5 := HF5.out.S; have HO5 := Lib.hid (RdN.of ho1 ho2); clear hj ho1 ho2; clear hb)
  refine hKK.out _ _ hS5 (fun hHeld => ?_)
  clear hKK KK
  refine wpAnyH_ready (rs := [24]) (by kernel_rfl) (by simp) ?_
  refine AllReadyH.cons rfl (fun KK hKK => ?_) AllReadyH.nil
  go_simp
  go_wp2_with (go_at_call 12; (refine (plain_any false A5 l.length c5 B5 ks.length d5 _).mono ?_); rintro e y6 ⟨rfl, hb⟩; have HL6 := Lib.hid hb; have HF6 := Lib.hid (HF5.out.below hb); have HR6 := Lib.hid (HR5.out.below hb); have hS6 := HF6.out.S; have HO6 := Lib.hid (HO5.out.below hb); clear hb)
  refine hKK.out _ _ hS6 (fun hHeld => ?_)
  clear hKK KK
  refine wpAnyH_ready (rs := [26]) (by kernel_rfl) (by simp) ?_
  refine AllReadyH.cons rfl (fun KK hKK => ?_) AllReadyH.nil
  go_simp
  go_wp2_with (go_at_call 23; (refine (same2_any false A5 c5 l B5 d5 ks (some ad) c (some bd) d y6 l.length ks.length HO6.out HR6.out.n rfl rfl (by omega) (by omega)).mono ?_); rintro e y7 ⟨rfl, hb⟩; have HL7 := Lib.hid hb; have HF7 := Lib.hid (HF6.out.below hb); have HR7 := Lib.hid (HR6.out.below hb); have hS7 := HF7.out.S; clear hb)
  refine hKK.out _ _ hS7 (fun hHeld => ?_)
  clear hKK KK
  refine takeH (i := 27) (v := (.bool true)) rfl (by kernel_rfl) (by kernel_rfl) (by kernel_rfl) (fun _ _ _ h => h) (by rfl) (by intro w hSw; (try dsimp only at hSw); go_simp) (by assumption) ?_
  (try simp only [Act.put, List.setIfInBounds_toArray, List.set_cons_zero, List.set_cons_succ])
  refine takeH (i := 28) (v := (.bool true)) rfl (by kernel_rfl) (by kernel_rfl) (by kernel_rfl) (fun _ _ _ h => h) (by rfl) (by intro w hSw; (try dsimp only at hSw); go_simp) (by assumption) ?_
  (try simp only [Act.put, List.setIfInBounds_toArray, List.set_cons_zero, List.set_cons_succ])
  refine wpAnyH_done (by kernel_rfl) ?_ _
  have g1 := HLD.out.trans (HL1.out.mono HLD.out.size)
  have g2 := g1.trans (HL2.out.mono g1.size)
  have g3 := g2.trans (HL3.out.mono g2.size)
  have g4 := g3.trans (HL4.out.mono g3.size)
  have g5 := g4.trans (HL5.out.mono g4.size)
  have g6 := g5.trans (HL6.out.mono g5.size)
  have g7 := Lib.hid (g6.trans (HL7.out.mono g6.size))
  clear g1 g2 g3 g4 g5 g6
  go_wp2_with fail
  go_ret
  exact ⟨rfl, g7.out⟩

theorem pageSplits_walk {H : Type} {enc : TypeId × Value → H} {sp0 : Nat → Bool} {hd0 : Bool} {d0 : DataW H} {p0 : List MemPlace} {b0 : Nat} (v0 : Value) (w : World)
    (hv0 : Value.okWide Try.prog w .any b0 25 v0) (h0 : DataW.Trod enc Try.prog w 0 sp0 hd0 25 v0 d0 p0) :
    Calls Try.prog 7 #[v0] w fun e w' => e = .returned (.bool true) ∧ Below w.heap.size w w' := by
  obtain ⟨leaf, A, c, l, B, d, ks, rfl, hr, -⟩ := open_node hv0 h0
  cases leaf with
  | true => exact pageSplits_true A c l B d ks w hr
  | false => exact pageSplits_false A c l B d ks w hr
end Go.Proofs.Ytnjdmaeoebihpaa
