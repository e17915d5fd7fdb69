/-
  some: a part of a node, in new memory.
-/
import Derived.Test.YtnjdmaeoebihpaaPgClone
import Derived.Deep.RegionHeld
namespace Go.Proofs.Ytnjdmaeoebihpaa
open Go.RowKit Go.Proofs.YtnjdmaeoebihpaaW.PrintWords Go.Proofs.YtnjdmaeoebihpaaW.PrintLast Go.Proofs.YtnjdmaeoebihpaaW.PrintMore
set_option linter.unusedVariables false
set_option linter.unusedSimpArgs false

def sub {α : Type} (l : List α) (a b : Nat) : List α := (l.drop a).take (b - a)
theorem sub_len {α : Type} (l : List α) (a b : Nat) (h : b ≤ l.length) : (sub l a b).length = b - a := by
  unfold sub
  rw [List.length_take, List.length_drop]
  omega
theorem sub_at {α : Type} (l : List α) (a b j : Nat) (h : b ≤ l.length) (hj : j < b - a) : (sub l a b)[j]? = l[a + j]? := by
  unfold sub
  rw [List.getElem?_take, if_pos hj, List.getElem?_drop]
/-- The cells of a part. -/
theorem src_sub {w : World} {A : Option Addr} {l : List ByteArray} (h : Kd.C Kd.string w A l.length l) (a b : Nat) (hab : a < b) (hb : b ≤ l.length) : ∃ ad, A = some ad ∧ ∀ j u, (scl (sub l a b))[j]? = some u → w.cell? ((ad.add a).add j) = some u := by
  obtain ⟨ad, rfl, _⟩ := Kd.at_string h 0 (by omega) (by omega)
  refine ⟨ad, rfl, fun j u hj => ?_⟩
  have hlt : j < b - a := by
    have := (List.getElem?_eq_some_iff.1 hj).1
    rw [scl_len, Nat.mul_one, sub_len _ _ _ hb] at this
    exact this
  obtain ⟨ad2, e2, hc⟩ := Kd.at_string h ((a + j : Nat) : Int) (by omega) (by omega)
  injection e2 with e2
  subst e2
  rw [Int.toNat_natCast, rdOf_rec] at hc
  rw [Addr.add_add, hc, ← hj]
  have e : (scl (sub l a b))[j]? = ((sub l a b)[j]?).map Value.string := by simp [scl]
  rw [e, sub_at _ _ _ _ hb hlt]
  simp [rec, show a + j < l.length by omega]
theorem src_subI {w : World} {A : Option Addr} {l : List Int} (h : Kd.C (Kd.int .i64) w A l.length l) (a b : Nat) (hab : a < b) (hb : b ≤ l.length) : ∃ ad, A = some ad ∧ ∀ j u, (icl (sub l a b))[j]? = some u → w.cell? ((ad.add a).add j) = some u := by
  obtain ⟨ad, rfl, _⟩ := Kd.at_int h 0 (by omega) (by omega)
  refine ⟨ad, rfl, fun j u hj => ?_⟩
  have hlt : j < b - a := by
    have := (List.getElem?_eq_some_iff.1 hj).1
    rw [icl_len, Nat.mul_one, sub_len _ _ _ hb] at this
    exact this
  obtain ⟨ad2, e2, hc⟩ := Kd.at_int h ((a + j : Nat) : Int) (by omega) (by omega)
  injection e2 with e2
  subst e2
  rw [Int.toNat_natCast, show rd l ((a + j : Nat) : Int) = l.getD (a + j) 0 by simp only [rd, Int.toNat_natCast]] at hc
  rw [Addr.add_add, hc, ← hj]
  have e : (icl (sub l a b))[j]? = ((sub l a b)[j]?).map (Value.int .i64) := by simp [icl]
  rw [e, sub_at _ _ _ _ hb hlt]
  simp [show a + j < l.length by omega]
def kidsOf (leaf : Bool) (ks : List Int) (a b : Nat) : List Int := if leaf = true then [] else sub ks a (b + 1)
def SomeIs (leaf : Bool) (l : List ByteArray) (ks : List Int) (a b : Nat) (w : World) (e : Ending) (w' : World) : Prop :=
  ∃ A' c' B' d', e = .returned (.agg #[.bool leaf, .slice A' (sub l a b).length c', .slice B' (kidsOf leaf ks a b).length d']) ∧ OwnS w' w.heap.size A' c' (sub l a b) ∧ OwnI w' w.heap.size B' d' (kidsOf leaf ks a b) ∧ Below w.heap.size w w'

theorem set3 {w : World} {g : Nat} {cs : Array Value} (h : w.heap[g + 1]? = some (.cells cs 25)) (a b c : Value) : Frm (fun t => t = 25) g w (((w.setCell ⟨g + 1, 0, none⟩ a).setCell ⟨g + 1, 1, none⟩ b).setCell ⟨g + 1, 2, none⟩ c) :=
  ((Frm.setCell (T := fun t => t = 25) h rfl (Nat.le_succ _) 0 _).trans (Frm.setCell (T := fun t => t = 25) (blk_set h 0 _) rfl (Nat.le_succ _) 1 _)).trans (Frm.setCell (T := fun t => t = 25) (blk_set (blk_set h 0 _) 1 _) rfl (Nat.le_succ _) 2 _)
structure PartA (leaf : Bool) (l : List ByteArray) (a b : Nat) (w wc : World) (bx : Obj) (T : Nat) (A' : Option Addr) (c' : Nat) : Prop where
  box : wc.heap[w.heap.size]? = some bx
  var : wc.heap[w.heap.size + 1]? = some (.cells #[.bool false, .slice none 0 0, .slice none 0 0] 25)
  new : wc.heap[T]? = some (.cells #[.bool leaf, .slice A' (sub l a b).length c', .slice none 0 0] 25)
  lt : w.heap.size + 1 < T
  own : OwnS wc w.heap.size A' c' (sub l a b)
  low : Below w.heap.size w wc
set_option maxRecDepth 100000 in
set_option maxHeartbeats 4000000 in
theorem some_any (leaf : Bool) (A : Option Addr) (c : Nat) (l : List ByteArray) (B : Option Addr) (d : Nat) (ks : List Int) (w : World) (hr : RdN w A c l B d ks) (a b : Nat) (hab : a < b) (hb : b ≤ l.length) (hbl : l.length ≤ 100000) (hbk : ks.length ≤ 100000) (hk : leaf = false → b < ks.length) :
    Calls Try.prog 30 #[.agg #[.bool leaf, .slice A l.length c, .slice B ks.length d], .int .i64 a, .int .i64 b] w (SomeIs leaf l ks a b w) := by
  obtain ⟨ad, rfl, hsrc⟩ := src_sub hr.recs a b hab hb
  have hsl := sub_len l a b hb
  have hrc := hr.rc
  have hkc := hr.kc
  have HR := Lib.hid hr
  have HSL := Lib.hid hsl
  have hbb := heap_alloc_new w (NodeObj leaf (some ad) l.length c B ks.length d)
  clear hr hsl
  have hca : c ≠ a := by omega
  have hca2 : ¬ (c = a) := by omega
  go_enter Try.func30, Try.ntmps30
  go_upto_region 1 with (fail)
  have hb2 := blk_alloc hbb (.cells #[.bool false, .slice none 0 0, .slice none 0 0] 25)
  have hv2 : ((w.alloc (NodeObj leaf (some ad) l.length c B ks.length d)).alloc (.cells #[.bool false, .slice none 0 0, .slice none 0 0] 25)).heap[w.heap.size + 1]? = _ := heap_alloc_at _ _ _ (by rw [heap_alloc_size])
  have hB2 : Below w.heap.size w ((w.alloc (NodeObj leaf (some ad) l.length c B ks.length d)).alloc (.cells #[.bool false, .slice none 0 0, .slice none 0 0] 25)) := ((Below.refl _ _).alloc (Nat.le_refl _) _).alloc (by rw [heap_alloc_size]; exact Nat.le_succ _) _
  obtain ⟨w2, hw2⟩ : ∃ w2, w2 = ((w.alloc (.cells #[.bool leaf, .slice (some ad) l.length c, .slice B ks.length d] 25)).alloc (.cells #[.bool false, .slice none 0 0, .slice none 0 0] 25)) := ⟨_, rfl⟩
  have hw2' : w2 = ((w.alloc (NodeObj leaf (some ad) l.length c B ks.length d)).alloc (.cells #[.bool false, .slice none 0 0, .slice none 0 0] 25)) := hw2
  rw [← hw2]
  rw [← hw2'] at hb2 hv2 hB2
  clear hw2 hw2' hbb
  have HBK2 := Lib.hid hb2
  have HV2 := Lib.hid hv2
  have HB2 := Lib.hid hB2
  obtain ⟨n0, n1, n2, f0, f1, f2, nl⟩ := three_of_block (w := w2.drew) hb2
  have hs2 : ∀ j u, (scl (sub l a b))[j]? = some u → w2.drew.cell? ((ad.add a).add j) = some u := fun j u hj => (World.cell?_of_block (w := w) (a := (ad.add a).add j) (hB2.block _ (World.block_lt_of_cell? w _ (hsrc j u hj)))).trans (hsrc j u hj)
  have HS2 := Lib.hid hs2
  have hS0 := And.intro n0 n1
  have HN := Lib.hid hsrc
  clear hb2 hv2 hB2 hs2 hsrc
  have hca3 : (a : Int) ≤ (b : Int) := by omega
  have hca4 : (b : Int) ≤ (c : Int) := by omega
  have hs3 : ∀ j u, (scl (sub l a b))[j]? = some u → (w2.alloc (.cells #[.bool false, .slice none 0 0, .slice none 0 0] 25)).drew.cell? ((ad.add a).add j) = some u := fun j u hj => (World.cell?_of_block (w := w2.drew) (a := (ad.add a).add j) (Below.heap_alloc _ _ _ (World.block_lt_of_cell? w2.drew _ (HS2.out j u hj)))).trans (HS2.out j u hj)
  have HS3 := Lib.hid hs3
  clear hs3
  have hb3 := blk_alloc (w := w2.drew) HBK2.out (.cells #[.bool false, .slice none 0 0, .slice none 0 0] 25)
  have HBK3 := Lib.hid hb3
  obtain ⟨m0, m1, -, -, -, -, ml⟩ := three_of_block hb3
  have hS3 := And.intro m0 m1
  clear hb3 m0 m1
  go_cut [7] (fun v wc => ∃ T A' c', v = .pointer (some ⟨T, 0, none⟩) ∧ Hid (PartA leaf l a b w wc (NodeObj leaf (some ad) l.length c B ks.length d) T A' c'))
  case first =>
    go_region_held (fun w' => w'.cell? ⟨w.heap.size, 0, none⟩ = some (.bool leaf) ∧ w'.cell? ⟨w.heap.size, 1, none⟩ = some (.slice (some ad) l.length c))
      (first | exact hS0 | exact hS1 | exact hS3 | exact hS4 | exact hS5 | exact hS6 | assumption)
      (first
        | (go_at_call 39; (with_reducible refine (cloneS_any (w := w2.drew) (A := some (ad.add a)) (n := b - a) (c := c - a) (xs := scl (sub l a b)) (.inr ⟨ad.add a, rfl, HS2.out⟩) (by rw [scl_len, HSL.out]) (scl_one _) (by omega)).mono ?_); rintro e y1 ⟨A', c', rfl, ho1, hb1⟩; have HO1 := Lib.hid ho1; have hN1 := (hb1.block w.heap.size nl).trans HBK2.out; obtain ⟨n0', n1', -, -, -, -, -⟩ := three_of_block hN1; have hS1 := And.intro n0' n1'; obtain ⟨k0, k1, -, -, -, -, -⟩ := three_of_block (blk_alloc hN1 (.cells #[.bool false, .slice none 0 0, .slice none 0 0] 25)); have hS4 := And.intro k0 k1; obtain ⟨g0, g1, -, -, -, -, -⟩ := three_of_block (blk_alloc hN1 (.cells #[.bool leaf, .slice A' (b - a) c', .slice none 0 0] 25)); have hS5 := And.intro g0 g1; have HY1 := Lib.hid hb1; have HN1 := Lib.hid hN1; clear ho1 hb1 hN1 n0' n1' k0 k1 g0 g1)
        | (go_at_call 39; (with_reducible refine (cloneS_any (w := (w2.alloc (.cells #[.bool false, .slice none 0 0, .slice none 0 0] 25)).drew) (A := some (ad.add a)) (n := b - a) (c := c - a) (xs := scl (sub l a b)) (.inr ⟨ad.add a, rfl, HS3.out⟩) (by rw [scl_len, HSL.out]) (scl_one _) (by omega)).mono ?_); rintro e y1 ⟨A', c', rfl, ho1, hb1⟩; have HO1 := Lib.hid ho1; have hN1 := (hb1.block w.heap.size ml).trans HBK3.out; obtain ⟨n0', n1', -, -, -, -, -⟩ := three_of_block hN1; have hS1 := And.intro n0' n1'; obtain ⟨k0, k1, -, -, -, -, -⟩ := three_of_block (blk_alloc hN1 (.cells #[.bool false, .slice none 0 0, .slice none 0 0] 25)); have hS4 := And.intro k0 k1; obtain ⟨g0, g1, -, -, -, -, -⟩ := three_of_block (blk_alloc hN1 (.cells #[.bool leaf, .slice A' (b - a) c', .slice none 0 0] 25)); have hS5 := And.intro g0 g1; have HY1 := Lib.hid hb1; have hT1 := (hb1.block w2.heap.size (by show _ < (w2.alloc (.cells #[.bool false, .slice none 0 0, .slice none 0 0] 25)).heap.size; rw [heap_alloc_size]; exact Nat.lt_succ_self _)).trans (heap_alloc_new w2 (.cells #[.bool false, .slice none 0 0, .slice none 0 0] 25)); have HT1 := Lib.hid hT1; obtain ⟨t0, t1, t2, tf0, tf1, tf2, tl⟩ := three_of_block hT1; have hbx3 := blk_set_ne (blk_set_ne (blk_set_ne hN1 0 (.bool leaf) (Nat.ne_of_lt nl)) 1 (.slice A' (b - a) c') (Nat.ne_of_lt nl)) 2 (.slice none 0 0) (Nat.ne_of_lt nl); obtain ⟨q0, q1, -, -, -, -, -⟩ := three_of_block hbx3; have hS6 := And.intro q0 q1; have HN1 := Lib.hid hN1; clear hT1 hbx3 q0 q1 ho1 hb1 hN1 n0' n1' k0 k1 g0 g1))
    · go_wp2_with fail
      go_meet
      refine ⟨y1.heap.size, A', c', rfl, Lib.hid ⟨blk_alloc HN1.out _, blk_alloc ((HY1.out.block _ (lt_of_block (w := w2) HV2.out)).trans HV2.out) _, by rw [HSL.out]; exact heap_alloc_new _ _, Nat.lt_of_lt_of_le (lt_of_block (w := w2) HV2.out) HY1.out.size, ?_, ((below_drewN HB2.out 1).trans (HY1.out.mono HB2.out.size)).alloc (Nat.le_trans HB2.out.size HY1.out.size) _⟩⟩
      have h := owns_up (HO1.out.alloc (.cells #[.bool leaf, .slice A' (b - a) c', .slice none 0 0] 25)) (base' := w.heap.size) HB2.out.size
      rw [OwnS, HSL.out]
      exact h
    · go_wp2_with fail
      go_meet
      have hne : w.heap.size ≠ w2.heap.size := Nat.ne_of_lt nl
      have hne2 : w.heap.size + 1 ≠ w2.heap.size := Nat.ne_of_lt (lt_of_block (w := w2) HV2.out)
      have hle : w.heap.size ≤ w2.heap.size := HB2.out.size
      have hF : Frm (fun t => t = 25) w.heap.size y1 (((y1.setCell ⟨w2.heap.size, 0, none⟩ (.bool leaf)).setCell ⟨w2.heap.size, 1, none⟩ (.slice A' (b - a) c')).setCell ⟨w2.heap.size, 2, none⟩ (.slice none 0 0)) :=
        ((Frm.setCell (T := fun t => t = 25) HT1.out rfl hle 0 _).trans (Frm.setCell (T := fun t => t = 25) (blk_set HT1.out 0 _) rfl hle 1 _)).trans (Frm.setCell (T := fun t => t = 25) (blk_set (blk_set HT1.out 0 _) 1 _) rfl hle 2 _)
      have hB3 : Below w.heap.size w y1 := (below_drewN (HB2.out.alloc HB2.out.size _) 1).trans (HY1.out.mono (Nat.le_trans hle (by show _ ≤ (w2.alloc (.cells #[.bool false, .slice none 0 0, .slice none 0 0] 25)).heap.size; rw [heap_alloc_size]; exact Nat.le_succ _)))
      refine ⟨w2.heap.size, A', c', rfl, Lib.hid ⟨blk_set_ne (blk_set_ne (blk_set_ne HN1.out _ _ hne) _ _ hne) _ _ hne, blk_set_ne (blk_set_ne (blk_set_ne ((HY1.out.block _ (by show _ < (w2.alloc (.cells #[.bool false, .slice none 0 0, .slice none 0 0] 25)).heap.size; rw [heap_alloc_size]; exact Nat.lt_succ_of_lt (lt_of_block (w := w2) HV2.out))).trans (blk_alloc (w := w2) HV2.out _)) _ _ hne2) _ _ hne2) _ _ hne2, ?_, lt_of_block (w := w2) HV2.out, ?_, hB3.trans hF.low⟩⟩
      · rw [HSL.out]
        exact blk_set (blk_set (blk_set HT1.out 0 _) 1 _) 2 _
      · have h := hF.owns (owns_up HO1.out (base' := w.heap.size) (by show _ ≤ (w2.alloc (.cells #[.bool false, .slice none 0 0, .slice none 0 0] 25)).heap.size; rw [heap_alloc_size]; exact Nat.le_succ_of_le hle)) (by decide)
        rw [OwnS, HSL.out]
        exact h
  case rest =>
    obtain ⟨T, A', c', rfl, PA⟩ := hcut
    clear hS0 hS3 HS2 HS3 HBK2 HBK3 HV2 HN n0 n1 n2 f0 f1 f2 nl ml
    obtain ⟨n0, n1, n2, f0, f1, f2, nl⟩ := three_of_block PA.out.box
    obtain ⟨t0, t1, t2, tf0, tf1, tf2, tl⟩ := three_of_block PA.out.new
    obtain ⟨v0, v1, v2, vf0, vf1, vf2, vl⟩ := three_of_block PA.out.var
    cases leaf with
    | true =>
      go_wp2_with fail
      have hE := blk_set (blk_set (blk_set PA.out.var 0 (.bool true)) 1 (.slice A' (sub l a b).length c')) 2 (.slice none 0 0)
      obtain ⟨q0, q1, q2, -, -, -, -⟩ := three_of_block hE
      have hF := set3 PA.out.var (.bool true) (.slice A' (sub l a b).length c') (.slice none 0 0)
      refine bodyPost_ret (v := .agg #[.bool true, .slice A' (sub l a b).length c', .slice none 0 0]) (by simp [results, Try.results30, go_sem, q0, q1, q2]) rfl ?_
      exact ⟨A', c', none, 0, rfl, hF.owns PA.out.own (by decide), World.ownsRow_nil _ _ _ _, PA.out.low.trans hF.low⟩
    | false =>
      have hbk2 := hk rfl
      have hkl := sub_len ks a (b + 1) hbk2
      have HKL := Lib.hid hkl
      clear hkl
      obtain ⟨ak, rfl, hsrk⟩ := src_subI (HR.out.below PA.out.low).kids a (b + 1) (by omega) hbk2
      have HSK := Lib.hid hsrk
      clear hsrk
      have hda : d ≠ a := by omega
      have hda2 : ¬ (d = a) := by omega
      have hda3 : (a : Int) ≤ (b : Int) + 1 := by omega
      have hda4 : (b : Int) + 1 ≤ (d : Int) := by omega
      go_wp2_with fail
      refine (cloneI_any (w := wc) (xs := icl (sub ks a (b + 1))) (.inr ⟨ak.add a, rfl, HSK.out⟩) (by rw [icl_len, HKL.out]) (icl_one _) (by omega)).mono ?_
      rintro e y ⟨B', d', rfl, hok, hby⟩
      have HOK := Lib.hid (owns_up hok PA.out.low.size)
      have HBY := Lib.hid hby
      have HT := Lib.hid ((hby.block T tl).trans PA.out.new)
      have HV := Lib.hid ((hby.block _ vl).trans PA.out.var)
      clear hok hby n0 n1 n2 f0 f1 f2 nl t0 t1 t2 tf0 tf1 tf2 tl v0 v1 v2 vf0 vf1 vf2 vl
      obtain ⟨t0, t1, t2, tf0, tf1, tf2, tl⟩ := three_of_block HT.out
      go_upto_region 4 with (fail)
      have hT2 := blk_set HT.out 2 (.slice B' (b + 1 - a) d')
      have hlt := PA.out.lt
      have hF1 : Frm (fun t => t = 25) w.heap.size y (y.setCell ⟨T, 2, none⟩ (.slice B' (b + 1 - a) d')) := Frm.setCell (T := fun t => t = 25) HT.out rfl (by omega) 2 _
      have hV2 := blk_set_ne HV.out 2 (.slice B' (b + 1 - a) d') (C := T) (Nat.ne_of_lt hlt)
      obtain ⟨y2, hy2⟩ : ∃ y2, y2 = y.setCell ⟨T, 2, none⟩ (.slice B' (b + 1 - a) d') := ⟨_, rfl⟩
      rw [← hy2] at hT2 hF1 hV2 ⊢
      clear hy2 hlt t0 t1 t2 tf0 tf1 tf2 tl
      have HF1 := Lib.hid hF1
      have HV2 := Lib.hid hV2
      obtain ⟨t0, t1, t2, tf0, tf1, tf2, tl⟩ := three_of_block hT2
      obtain ⟨v0, v1, v2, vf0, vf1, vf2, vl⟩ := three_of_block hV2
      clear hT2 hF1 hV2
      go_wp2_with fail
      have hE := blk_set (blk_set (blk_set HV2.out 0 (.bool false)) 1 (.slice A' (sub l a b).length c')) 2 (.slice B' (b + 1 - a) d')
      obtain ⟨q0, q1, q2, -, -, -, -⟩ := three_of_block hE
      have hF := set3 HV2.out (.bool false) (.slice A' (sub l a b).length c') (.slice B' (b + 1 - a) d')
      refine bodyPost_ret (v := .agg #[.bool false, .slice A' (sub l a b).length c', .slice B' (b + 1 - a) d']) (by simp [results, Try.results30, go_sem, q0, q1, q2]) rfl ?_
      have hlow := PA.out.low.trans (HBY.out.mono PA.out.low.size)
      have hkk : kidsOf false ks a b = sub ks a (b + 1) := rfl
      refine ⟨A', c', B', d', by rw [hkk, HKL.out], hF.owns (HF1.out.owns (owns_below PA.out.own HBY.out (Nat.le_refl _)) (by decide)) (by decide), ?_, (hlow.trans HF1.out.low).trans hF.low⟩
      rw [hkk, OwnI, HKL.out]
      exact hF.owns (HF1.out.owns HOK.out (by decide)) (by decide)
end Go.Proofs.Ytnjdmaeoebihpaa
