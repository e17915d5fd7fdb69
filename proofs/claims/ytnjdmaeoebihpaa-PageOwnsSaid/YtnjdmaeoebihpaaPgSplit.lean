/-
  Split, walked.
-/
import Derived.Test.YtnjdmaeoebihpaaPgCut
import Derived.Deep.RegionHeld
import Derived.Deep.LoopGhost
import Derived.Deep.DeepCutAuto
namespace Go.Proofs.Ytnjdmaeoebihpaa
open Go.RowKit Go.Proofs.YtnjdmaeoebihpaaW.PrintWords Go.Proofs.YtnjdmaeoebihpaaW.PrintLast Go.Proofs.YtnjdmaeoebihpaaW.PrintMore
set_option linter.unusedVariables false
set_option linter.unusedSimpArgs false

structure Made (w0 w : World) (A : Option Addr) (c : Nat) (l : List ByteArray) (B : Option Addr) (d : Nat) (ks : List Int) : Prop where
  recs : OwnS w w0.heap.size A c l
  kids : OwnI w w0.heap.size B d ks
def SplitIs (leaf : Bool) (l : List ByteArray) (ks : List Int) (w : World) (e : Ending) (w' : World) : Prop :=
  ∃ A1 c1 B1 d1 A2 c2 B2 d2, e = .returned (.tuple #[.agg #[.bool leaf, .slice A1 (sub l 0 (cutK leaf l)).length c1, .slice B1 (kidsOf leaf ks 0 (cutK leaf l)).length d1], .string (rec l (cutK leaf l)), .agg #[.bool leaf, .slice A2 (sub l (cutK leaf l + skOf leaf) l.length).length c2, .slice B2 (kidsOf leaf ks (cutK leaf l + skOf leaf) l.length).length d2]]) ∧
    Made w w' A1 c1 (sub l 0 (cutK leaf l)) B1 d1 (kidsOf leaf ks 0 (cutK leaf l)) ∧ Made w w' A2 c2 (sub l (cutK leaf l + skOf leaf) l.length) B2 d2 (kidsOf leaf ks (cutK leaf l + skOf leaf) l.length) ∧ Below w.heap.size w w'
theorem own_len (A : Option Addr) (n m c : Nat) : (Value.slice A n c).ownBlock = (Value.slice A m c).ownBlock := by cases A <;> rfl
/-- The same, and that the halves' rows are others: the first's lie below m, the second's from m on. -/
def SplitIsM (leaf : Bool) (l : List ByteArray) (ks : List Int) (w : World) (e : Ending) (w' : World) : Prop :=
  ∃ A1 c1 B1 d1 A2 c2 B2 d2, e = .returned (.tuple #[.agg #[.bool leaf, .slice A1 (sub l 0 (cutK leaf l)).length c1, .slice B1 (kidsOf leaf ks 0 (cutK leaf l)).length d1], .string (rec l (cutK leaf l)), .agg #[.bool leaf, .slice A2 (sub l (cutK leaf l + skOf leaf) l.length).length c2, .slice B2 (kidsOf leaf ks (cutK leaf l + skOf leaf) l.length).length d2]]) ∧
    Made w w' A1 c1 (sub l 0 (cutK leaf l)) B1 d1 (kidsOf leaf ks 0 (cutK leaf l)) ∧ Made w w' A2 c2 (sub l (cutK leaf l + skOf leaf) l.length) B2 d2 (kidsOf leaf ks (cutK leaf l + skOf leaf) l.length) ∧ Below w.heap.size w w' ∧
    ∃ m, (w.heap.size ≤ m ∧ m ≤ w'.heap.size) ∧ (∀ n k, (Value.slice A1 n c1).ownBlock = some k → k < m) ∧ (∀ n k, (Value.slice B1 n d1).ownBlock = some k → k < m) ∧ (∀ n k, (Value.slice A2 n c2).ownBlock = some k → m ≤ k) ∧ (∀ n k, (Value.slice B2 n d2).ownBlock = some k → m ≤ k)
theorem s3_other {w : World} {g k : Nat} {o : Obj} (h : w.heap[k]? = some o) (hne : k ≠ g) (a b c : Value) : (((w.setCell ⟨g, 0, none⟩ a).setCell ⟨g, 1, none⟩ b).setCell ⟨g, 2, none⟩ c).heap[k]? = some o := blk_set_ne (blk_set_ne (blk_set_ne h _ _ hne) _ _ hne) _ _ hne
theorem s3_cell {w : World} {g : Nat} {p : Addr} {o : Option Value} (h : w.cell? p = o) (hne : g ≠ p.block) (a b c : Value) : (((w.setCell ⟨g, 0, none⟩ a).setCell ⟨g, 1, none⟩ b).setCell ⟨g, 2, none⟩ c).cell? p = o :=
  (World.cell?_setCell_far _ ⟨g, 2, none⟩ p _ hne).trans ((World.cell?_setCell_far _ ⟨g, 1, none⟩ p _ hne).trans ((World.cell?_setCell_far _ ⟨g, 0, none⟩ p _ hne).trans h))
theorem s3_self {w : World} {g : Nat} {x y z : Value} {t : TypeId} (h : w.heap[g]? = some (.cells #[x, y, z] t)) (a b c : Value) : (((w.setCell ⟨g, 0, none⟩ a).setCell ⟨g, 1, none⟩ b).setCell ⟨g, 2, none⟩ c).heap[g]? = some (.cells #[a, b, c] t) := blk_set (blk_set (blk_set h 0 _) 1 _) 2 _
theorem s3_frm {w : World} {n g : Nat} {cs : Array Value} {t : TypeId} (h : w.heap[g]? = some (.cells cs t)) (hn : n ≤ g) (a b c : Value) : Frm (fun q => q = t) n w (((w.setCell ⟨g, 0, none⟩ a).setCell ⟨g, 1, none⟩ b).setCell ⟨g, 2, none⟩ c) :=
  ((Frm.setCell (T := fun q => q = t) h rfl hn 0 _).trans (Frm.setCell (T := fun q => q = t) (blk_set h 0 _) rfl hn 1 _)).trans (Frm.setCell (T := fun q => q = t) (blk_set (blk_set h 0 _) 1 _) rfl hn 2 _)
theorem cutTo_take (side : Nat → Nat) (j L : Nat) (hj : 0 < j) (hL : L = if cutTo side j = 0 then 0 else side (cutTo side j)) (h : cutTo side j = 0 ∨ side j < L) : cutTo side (j + 1) = j := by
  simp only [cutTo]
  rw [if_neg (by omega)]
  by_cases h0 : cutTo side j = 0
  · rw [if_pos (.inl h0)]
  · rw [if_neg h0] at hL
    rw [if_pos]
    rcases h with h | h
    · exact .inl h
    · exact .inr (by rw [← hL]; exact h)
theorem cutTo_keep (side : Nat → Nat) (j L : Nat) (hj : 0 < j) (hL : L = if cutTo side j = 0 then 0 else side (cutTo side j)) (h0 : cutTo side j ≠ 0) (h : ¬ side j < L) : cutTo side (j + 1) = cutTo side j := by
  simp only [cutTo]
  rw [if_neg (by omega)]
  rw [if_neg h0] at hL
  rw [if_neg]
  intro h1
  rcases h1 with h1 | h1
  · exact h0 h1
  · exact h (by rw [hL]; exact h1)
def leastOf (side : Nat → Nat) (k : Nat) : Nat := if k = 0 then 0 else side k

set_option maxRecDepth 100000 in
set_option maxHeartbeats 1600000 in
theorem split_apart (leaf : Bool) (A : Option Addr) (c : Nat) (l : List ByteArray) (B : Option Addr) (d : Nat) (ks : List Int) (w : World) (hr : RdN w A c l B d ks) (hbd : Bd l ks) (hlen : if leaf = true then 2 ≤ l.length else 3 ≤ l.length ∧ ks.length = l.length + 1) :
    Calls Try.prog 18 #[.agg #[.bool leaf, .slice A l.length c, .slice B ks.length d]] w (SplitIsM leaf l ks w) := by
  have hbl := hbd.len
  have hbk := hbd.kids
  have hbw := hbd.weigh
  have hrc := hr.rc
  have HLEN := Lib.hid hlen
  have h2 : 2 + skOf leaf ≤ l.length := by
    cases leaf
    · have : 3 ≤ l.length := hlen.1
      simp [skOf]; omega
    · have : 2 ≤ l.length := hlen
      simp [skOf]; omega
  have hkid : leaf = false → ks.length = l.length + 1 := fun h => by subst h; exact hlen.2
  have HKID := Lib.hid hkid
  clear hlen hbd hkid
  obtain ⟨ad, rfl, _⟩ := Kd.at_string hr.recs 0 (by omega) (by omega)
  have HR := Lib.hid hr
  have hbb := heap_alloc_new w (NodeObj leaf (some ad) l.length c B ks.length d)
  have hb2 := blk_alloc (blk_alloc hbb (.cells #[.bool false, .slice none 0 0, .slice none 0 0] 25)) (.cells #[.bool false, .slice none 0 0, .slice none 0 0] 25)
  have hu2 : (((w.alloc (NodeObj leaf (some ad) l.length c B ks.length d)).alloc (.cells #[.bool false, .slice none 0 0, .slice none 0 0] 25)).alloc (.cells #[.bool false, .slice none 0 0, .slice none 0 0] 25)).heap[w.heap.size + 1]? = _ := blk_alloc (heap_alloc_at _ _ _ (by rw [heap_alloc_size])) _
  have hv2 : (((w.alloc (NodeObj leaf (some ad) l.length c B ks.length d)).alloc (.cells #[.bool false, .slice none 0 0, .slice none 0 0] 25)).alloc (.cells #[.bool false, .slice none 0 0, .slice none 0 0] 25)).heap[w.heap.size + 2]? = _ := heap_alloc_at _ _ _ (by rw [heap_alloc_size, heap_alloc_size])
  have hB2 : Below w.heap.size w (((w.alloc (NodeObj leaf (some ad) l.length c B ks.length d)).alloc (.cells #[.bool false, .slice none 0 0, .slice none 0 0] 25)).alloc (.cells #[.bool false, .slice none 0 0, .slice none 0 0] 25)) := (((Below.refl _ _).alloc (Nat.le_refl _) _).alloc (by rw [heap_alloc_size]; exact Nat.le_succ _) _).alloc (by rw [heap_alloc_size, heap_alloc_size]; omega) _
  obtain ⟨w2, hw2⟩ : ∃ w2, w2 = (((w.alloc (.cells #[.bool leaf, .slice (some ad) l.length c, .slice B ks.length d] 25)).alloc (.cells #[.bool false, .slice none 0 0, .slice none 0 0] 25)).alloc (.cells #[.bool false, .slice none 0 0, .slice none 0 0] 25)) := ⟨_, rfl⟩
  have hw2' : w2 = (((w.alloc (NodeObj leaf (some ad) l.length c B ks.length d)).alloc (.cells #[.bool false, .slice none 0 0, .slice none 0 0] 25)).alloc (.cells #[.bool false, .slice none 0 0, .slice none 0 0] 25)) := hw2
  rw [← hw2'] at hb2 hu2 hv2 hB2
  have HBK := Lib.hid hb2
  have HU := Lib.hid hu2
  have HV := Lib.hid hv2
  have HB2 := Lib.hid hB2
  have HRW := Lib.hid (hr.below hB2)
  obtain ⟨n0, n1, n2, f0, f1, f2, nl⟩ := three_of_block hb2
  clear hb2 hu2 hv2 hB2 hbb hr hw2'
  obtain ⟨sk, hsk⟩ : ∃ sk, sk = skOf leaf := ⟨_, rfl⟩
  obtain ⟨ea, hea⟩ : ∃ ea, ea = eaOf leaf := ⟨_, rfl⟩
  rw [← hsk] at h2
  have HSK := Lib.hid hsk
  have HEA := Lib.hid hea
  have hsk1 : sk ≤ 1 := by rw [hsk]; cases leaf <;> decide
  have hea1 : ea ≤ 4 := by rw [hea]; cases leaf <;> decide
  clear hsk hea
  go_enter Try.func18, Try.ntmps18
  go_upto_region 1 with (fail)
  rw [← hw2]
  clear hw2
  go_upto_if 13 with (fail)
  go_cut [5, 6] (fun s e wc => s = .int .i64 sk ∧ e = .int .i64 ea ∧ wc = w2)
  case first =>
    cases leaf with
    | true =>
      go_wp2_with fail
      go_meet
      exact ⟨by rw [HSK.out]; rfl, by rw [HEA.out]; rfl, rfl⟩
    | false =>
      go_wp2_with fail
      go_meet
      exact ⟨by rw [HSK.out]; rfl, by rw [HEA.out]; rfl, rfl⟩
  case rest =>
    obtain ⟨rfl, rfl, rfl⟩ := hcut
    go_wp2_with fail
    go_loopg [7, 8, 9] (l.length - 1) (fun g k s i wr => ∃ j : Nat, 1 ≤ j ∧ j + sk ≤ l.length ∧ g = l.length - j ∧ i = .int .i64 j ∧ k = .int .i64 (cutTo (sideN l sk ea) j : Nat) ∧ s = .int .i64 (leastOf (sideN l sk ea) (cutTo (sideN l sk ea) j) : Nat) ∧ Hid (∃ n, wr = wc.drewN n))
    case atStart => exact ⟨1, by omega, by omega, by omega, rfl, rfl, rfl, Lib.hid ⟨0, rfl⟩⟩
    case round =>
      obtain ⟨j, hj1, hj2, hg, rfl, rfl, rfl, HW⟩ := hrel
      have HBKr : Hid (wr.heap[w.heap.size]? = some (NodeObj leaf (some ad) l.length c B ks.length d)) := (by obtain ⟨nw, e⟩ := HW.out; rw [e]; exact HBK.out : wr.heap[w.heap.size]? = some (NodeObj leaf (some ad) l.length c B ks.length d))
      have HRr : Hid (RdN wr (some ad) c l B d ks) := (by obtain ⟨nw, e⟩ := HW.out; rw [e]; exact ⟨Kd.C_drewN HRW.out.recs nw, Kd.C_drewN HRW.out.kids nw, HRW.out.rc, HRW.out.kc⟩ : RdN wr (some ad) c l B d ks)
      clear n0 n1 n2 f0 f1 f2 nl
      obtain ⟨n0, n1, n2, f0, f1, f2, nl⟩ := three_of_block HBKr.out
      obtain ⟨K, hK⟩ : ∃ K, cutTo (sideN l sk ea) j = K := ⟨_, rfl⟩
      have hKj : K < j := by rw [← hK]; exact cutTo_lt _ _ (by omega)
      rw [hK]
      obtain ⟨L, hL⟩ : ∃ L, leastOf (sideN l sk ea) K = L := ⟨_, rfl⟩
      rw [hL]
      have HK := Lib.hid hK
      have HL := Lib.hid hL
      clear hK hL
      by_cases hlt : j + sk < l.length
      · have hw1 := weighN_take l j
        have hw2 := weighN_drop l (j + sk)
        have HT1 := Lib.hid (rd_take HRr.out.recs j (by omega) (by omega))
        have HT2 := Lib.hid (rd_drop HRr.out.recs (j + sk) (by omega) (by omega))
        have e1 : (l.take j).length = j := by rw [List.length_take]; omega
        have e2 : (l.drop (j + sk)).length = l.length - (j + sk) := List.length_drop
        have HC1 := Lib.hid (fun k => weigh_any (c := c) HT1.out (by rw [e1]; omega) (by rw [e1]; omega) (by omega) k)
        have HC2 := Lib.hid (fun k => weigh_any (c := c - (j + sk)) HT2.out (by rw [e2]; omega) (by rw [e2]; omega) (by omega) k)
        rw [e1] at HC1
        rw [e2] at HC2
        obtain ⟨W1, hW1⟩ : ∃ W, weighN (l.take j) = W := ⟨_, rfl⟩
        obtain ⟨W2, hW2⟩ : ∃ W, weighN (l.drop (j + sk)) = W := ⟨_, rfl⟩
        rw [hW1] at HC1 hw1
        rw [hW2] at HC2 hw2
        have hp1 : j * ea ≤ 4000 := Nat.le_trans (Nat.mul_le_mul (show j ≤ 1000 by omega) hea1) (by omega)
        have hp2 : (l.length - j - sk) * ea ≤ 4000 := Nat.le_trans (Nat.mul_le_mul (show l.length - j - sk ≤ 1000 by omega) hea1) (by omega)
        have hSD : sideN l sk ea j = max (W1 + j * ea) (W2 + (l.length - j - sk) * ea) := by rw [sideN, hW1, hW2]
        clear e1 e2 hW1 hW2
        obtain ⟨p1, hq1⟩ : ∃ p, j * ea = p := ⟨_, rfl⟩
        obtain ⟨r2, hr2⟩ : ∃ r, l.length - j - sk = r := ⟨_, rfl⟩
        rw [hr2] at hp2 hSD
        obtain ⟨p2, hq2⟩ : ∃ p, r2 * ea = p := ⟨_, rfl⟩
        rw [hq1] at hp1 hSD
        rw [hq2] at hp2 hSD
        have HSD := Lib.hid hSD
        have v1 : (j : Int) * (ea : Int) = (p1 : Int) := by rw [← hq1]; exact (Int.natCast_mul _ _).symm
        have v2 : (r2 : Int) * (ea : Int) = (p2 : Int) := by rw [← hq2]; exact (Int.natCast_mul _ _).symm
        have v3 : (l.length : Int) - (j : Int) - (sk : Int) = (r2 : Int) := by omega
        have hlt2 : (j : Int) + (sk : Int) < (l.length : Int) := by omega
        clear hSD hq1 hq2 hr2
        have x1 : IntKind.i64.wrap ((j : Int) * (ea : Int)) = (p1 : Int) := by rw [v1]; exact IntWalk.i64_in _ (by omega)
        have x2 : IntKind.i64.wrap ((W1 : Int) + (p1 : Int)) = (W1 : Int) + (p1 : Int) := IntWalk.i64_in _ (by omega)
        have x3 : IntKind.i64.wrap ((j : Int) + (sk : Int)) = (j : Int) + (sk : Int) := IntWalk.i64_in _ (by omega)
        have x4 : IntKind.i64.wrap ((l.length : Int) - (j : Int)) = (l.length : Int) - (j : Int) := IntWalk.i64_in _ (by omega)
        have x5 : IntKind.i64.wrap ((l.length : Int) - (j : Int) - (sk : Int)) = (r2 : Int) := by rw [v3]; exact IntWalk.i64_in _ (by omega)
        have x6 : IntKind.i64.wrap ((r2 : Int) * (ea : Int)) = (p2 : Int) := by rw [v2]; exact IntWalk.i64_in _ (by omega)
        have x7 : IntKind.i64.wrap ((W2 : Int) + (p2 : Int)) = (W2 : Int) + (p2 : Int) := IntWalk.i64_in _ (by omega)
        have y1 : (0 : Int) ≤ (j : Int) + (sk : Int) := by omega
        have y2 : (j : Int) + (sk : Int) ≤ (c : Int) := by omega
        have y3 : ((j : Int) + (sk : Int)).toNat = j + sk := by omega
        have y4 : c ≠ j + sk := by omega
        have y5 : (j : Int) ≤ (c : Int) := by omega
        have y6 : (j : Int) + (sk : Int) ≤ (l.length : Int) := by omega
        clear v1 v2 v3
        go_wp2_with fail
        go_quiet (first | (go_at_call 29; with_reducible exact Calls.quiet_of (HC1.out _)) | (go_at_call 29; with_reducible exact Calls.quiet_of (HC2.out _)))
        clear x1 x2 x3 x4 x5 x6 x7 y1 y2 y3 y4 y5 y6
        have HW3 : Hid (∃ n, wr.drewN nq = wc.drewN n) := (by obtain ⟨nw, e⟩ := HW.out; exact ⟨nw + nq, by rw [e, World.drewN_drewN]⟩ : ∃ n, wr.drewN nq = wc.drewN n)
        obtain ⟨S, hS⟩ : ∃ S, sideN l sk ea j = S := ⟨_, rfl⟩
        have hmx : (if (W1 : Int) + (p1 : Int) < (W2 : Int) + (p2 : Int) then (W2 : Int) + (p2 : Int) else (W1 : Int) + (p1 : Int)) = (S : Int) := by
          rw [← hS, HSD.out]
          split <;> omega
        rw [hmx]
        have HSS := Lib.hid hS
        clear hmx hS
        by_cases h0 : K = 0
        · have h0b : ((K : Int) == 0) = true := by rw [h0]; rfl
          have H0 := Lib.hid h0
          have hK0 : (K : Int) = 0 := by omega
          clear h0
          go_wp2_with fail
          go_roundg (l.length - (j + 1))
          case measure => omega
          case rel =>
            have hnx : cutTo (sideN l sk ea) (j + 1) = j := cutTo_take _ j L (by omega) (by rw [HK.out]; exact HL.out.symm) (by rw [HK.out, HSS.out]; exact .inl H0.out)
            refine ⟨j + 1, by omega, by omega, rfl, by go_num, by rw [hnx], ?_, HW3⟩
            rw [hnx, leastOf, if_neg (by omega), HSS.out]
        · have h0b : ((K : Int) == 0) = false := beq_eq_false_iff_ne.2 (by omega)
          by_cases h1 : S < L
          · have h1b : decide ((S : Int) < (L : Int)) = true := decide_eq_true (by omega)
            go_wp2_with fail
            go_roundg (l.length - (j + 1))
            case measure => omega
            case rel =>
              have hnx : cutTo (sideN l sk ea) (j + 1) = j := cutTo_take _ j L (by omega) (by rw [HK.out]; exact HL.out.symm) (by rw [HK.out, HSS.out]; exact .inr h1)
              refine ⟨j + 1, by omega, by omega, rfl, by go_num, by rw [hnx], ?_, HW3⟩
              rw [hnx, leastOf, if_neg (by omega), HSS.out]
          · have h1b : decide ((S : Int) < (L : Int)) = false := decide_eq_false (by omega)
            go_wp2_with fail
            go_roundg (l.length - (j + 1))
            case measure => omega
            case rel =>
              have hnx : cutTo (sideN l sk ea) (j + 1) = K := (cutTo_keep _ j L (by omega) (by rw [HK.out]; exact HL.out.symm) (by rw [HK.out]; exact h0) (by rw [HSS.out]; omega)).trans HK.out
              exact ⟨j + 1, by omega, by omega, rfl, by go_num, by rw [hnx], by rw [hnx, HL.out], HW3⟩
      · have hlt2 : ¬ ((j : Int) + (sk : Int) < (l.length : Int)) := by omega
        have hKp : 0 < K := by rw [← HK.out]; exact cutTo_pos _ _ (by omega)
        have HCK : Hid (cutK leaf l = K) := (by rw [cutK, ← HSK.out, ← HEA.out, show l.length - sk = j by omega]; exact HK.out : cutK leaf l = K)
        have x3 : IntKind.i64.wrap ((j : Int) + (sk : Int)) = (j : Int) + (sk : Int) := IntWalk.i64_in _ (by omega)
        have HJL : Hid (j + sk = l.length) := (by omega : j + sk = l.length)
        obtain ⟨K2, hK2⟩ : ∃ K2, K + sk = K2 := ⟨_, rfl⟩
        have z1 : (K : Int) + (sk : Int) = (K2 : Int) := by omega
        have z2 : IntKind.i64.wrap ((K : Int) + (sk : Int)) = (K2 : Int) := by rw [z1]; exact IntWalk.i64_in _ (by omega)
        have z4 : IntKind.i64.wrap (K2 : Int) = (K2 : Int) := IntWalk.i64_in _ (by omega)
        have z3 : (K : Int) < (l.length : Int) := by omega
        have HK2 := Lib.hid hK2
        have HUr : Hid (wr.heap[w.heap.size + 1]? = some (.cells #[.bool false, .slice none 0 0, .slice none 0 0] 25)) := (by obtain ⟨nw, e⟩ := HW.out; rw [e]; exact HU.out : wr.heap[w.heap.size + 1]? = some (.cells #[.bool false, .slice none 0 0, .slice none 0 0] 25))
        have HVr : Hid (wr.heap[w.heap.size + 1 + 1]? = some (.cells #[.bool false, .slice none 0 0, .slice none 0 0] 25)) := (by obtain ⟨nw, e⟩ := HW.out; rw [e]; exact HV.out : wr.heap[w.heap.size + 1 + 1]? = some (.cells #[.bool false, .slice none 0 0, .slice none 0 0] 25))
        have HBr : Hid (Below w.heap.size w wr) := (by obtain ⟨nw, e⟩ := HW.out; rw [e]; exact below_drewN HB2.out nw : Below w.heap.size w wr)
        obtain ⟨ad2, had2, hrc2⟩ := Kd.at_string HRr.out.recs (K : Int) (by omega) (by omega)
        obtain rfl : ad = ad2 := Option.some.inj had2
        rw [Int.toNat_natCast, rdOf_rec] at hrc2
        have HLO : Hid (ad.block < w.heap.size) := (by
          obtain ⟨ad3, had3, hq⟩ := Kd.at_string HR.out.recs (K : Int) (by omega) (by omega)
          obtain rfl : ad = ad3 := Option.some.inj had3
          have := World.block_lt_of_cell? w _ hq
          rwa [add_block] at this : ad.block < w.heap.size)
        obtain ⟨x, hx⟩ : ∃ x, rec l K = x := ⟨_, rfl⟩
        rw [hx] at hrc2
        have HX := Lib.hid hx
        clear had2 hx hK2
        have HRC := Lib.hid hrc2
        obtain ⟨m0, m1, m2, -, -, -, -⟩ := three_of_block (w := wr.drew) HBKr.out
        have hS0 := And.intro m0 (And.intro m1 (And.intro m2 (show wr.drew.cell? (ad.add K) = _ from hrc2)))
        have hcl1 : Calls Try.prog 30 #[.agg #[.bool leaf, .slice (some ad) l.length c, .slice B ks.length d], .int .i64 0, .int .i64 K] wr.drew (SomeIs leaf l ks 0 K wr.drew) := some_any (w := wr.drew) leaf (some ad) c l B d ks (HRr.out.below (below_drewN (Below.refl _ _) 1)) 0 K hKp (by omega) (by omega) (by omega) (fun h => by have := HKID.out h; omega)
        have HC1 := Lib.hid hcl1
        clear hcl1 hrc2
        have hne1 : Hid (w.heap.size ≠ w.heap.size + 1) := Nat.ne_of_lt (Nat.lt_succ_self _)
        have hne2 : Hid (w.heap.size ≠ w.heap.size + 1 + 1) := Nat.ne_of_lt (Nat.lt_succ_of_lt (Nat.lt_succ_self _))
        have hne3 : Hid (w.heap.size + 1 ≠ w.heap.size + 1 + 1) := Nat.ne_of_lt (Nat.lt_succ_self _)
        have hne4 : Hid (w.heap.size + 1 + 1 ≠ w.heap.size + 1) := Nat.ne_of_gt (Nat.lt_succ_self _)
        have hna1 : Hid (w.heap.size + 1 ≠ (ad.add K).block) := (by rw [add_block]; have := HLO.out; omega : w.heap.size + 1 ≠ (ad.add K).block)
        have hna2 : Hid (w.heap.size + 1 + 1 ≠ (ad.add K).block) := (by rw [add_block]; have := HLO.out; omega : w.heap.size + 1 + 1 ≠ (ad.add K).block)
        go_wp2_with fail
        go_region_held (fun w' => w'.cell? ⟨w.heap.size, 0, none⟩ = some (.bool leaf) ∧ w'.cell? ⟨w.heap.size, 1, none⟩ = some (.slice (some ad) l.length c) ∧ w'.cell? ⟨w.heap.size, 2, none⟩ = some (.slice B ks.length d) ∧ w'.cell? (ad.add K) = some (.string x))
          (first | (with_reducible exact hS0) | (with_reducible exact hS1) | (with_reducible exact hS2) | (with_reducible exact hS3) | (with_reducible exact hS4))
          (first
            | (go_at_call 30; (with_reducible refine HC1.out.mono ?_); rintro e y1 ⟨A1, c1, B1, d1, rfl, r1, k1, b1⟩; have HR1 := Lib.hid r1; have HK1 := Lib.hid k1; have HB1 := Lib.hid b1; have hN1 := (b1.block w.heap.size nl).trans HBKr.out; have hC1 := (World.cell?_of_block (w := wr.drew) (a := ad.add K) (b1.block _ (World.block_lt_of_cell? wr.drew _ HRC.out))).trans HRC.out; obtain ⟨z0, z1, z2, -, -, -, -⟩ := three_of_block hN1; have hS1 := And.intro z0 (And.intro z1 (And.intro z2 hC1)); clear z0 z1 z2; have hU1 := (b1.block _ (lt_of_block (w := wr) HUr.out)).trans HUr.out; have hV1 := (b1.block _ (lt_of_block (w := wr) HVr.out)).trans HVr.out; have hcl2 := some_any (w := y1) leaf (some ad) c l B d ks (HRr.out.below ((below_drewN (Below.refl _ _) 1).trans b1)) K2 l.length (by omega) (Nat.le_refl _) (by omega) (by omega) (fun h => by have := HKID.out h; omega); have HC2 := Lib.hid hcl2; have HN1 := Lib.hid hN1; have HCC1 := Lib.hid hC1; have HU1 := Lib.hid hU1; have HV1 := Lib.hid hV1; clear r1 k1 b1 hN1 hC1 hU1 hV1 hcl2)
            | (go_at_call 30; (with_reducible refine HC2.out.mono ?_); rintro e y2 ⟨A2, c2, B2, d2, rfl, r2, k2, b2⟩; have HR2 := Lib.hid r2; have HK2b := Lib.hid k2; have HB2b := Lib.hid b2; have hN2 := (b2.block w.heap.size (lt_of_block HN1.out)).trans HN1.out; have hC2 := (World.cell?_of_block (w := y1) (a := ad.add K) (b2.block _ (World.block_lt_of_cell? y1 _ HCC1.out))).trans HCC1.out; obtain ⟨z0, z1, z2, -, -, -, -⟩ := three_of_block hN2; have hS2 := And.intro z0 (And.intro z1 (And.intro z2 hC2)); clear z0 z1 z2; have hU2 := (b2.block _ (lt_of_block HU1.out)).trans HU1.out; have hV2 := (b2.block _ (lt_of_block HV1.out)).trans HV1.out; have HN2 := Lib.hid hN2; have HCC2 := Lib.hid hC2; have HU2 := Lib.hid hU2; have HV2 := Lib.hid hV2; obtain ⟨u0, u1, u2, uf0, uf1, uf2, ul⟩ := three_of_block hU2; obtain ⟨z0, z1, z2, -, -, -, -⟩ := three_of_block (s3_other hN2 hne1.out (.bool leaf) (.slice A1 (sub l 0 K).length c1) (.slice B1 (kidsOf leaf ks 0 K).length d1)); have hS3 := And.intro z0 (And.intro z1 (And.intro z2 (s3_cell hC2 hna1.out (.bool leaf) (.slice A1 (sub l 0 K).length c1) (.slice B1 (kidsOf leaf ks 0 K).length d1)))); clear z0 z1 z2; have hV3 := s3_other hV2 hne4.out (.bool leaf) (.slice A1 (sub l 0 K).length c1) (.slice B1 (kidsOf leaf ks 0 K).length d1); obtain ⟨v0, v1, v2, vf0, vf1, vf2, vl⟩ := three_of_block hV3; obtain ⟨z0, z1, z2, -, -, -, -⟩ := three_of_block (s3_other (s3_other hN2 hne1.out (.bool leaf) (.slice A1 (sub l 0 K).length c1) (.slice B1 (kidsOf leaf ks 0 K).length d1)) hne2.out (.bool leaf) (.slice A2 (sub l K2 l.length).length c2) (.slice B2 (kidsOf leaf ks K2 l.length).length d2)); have hS4 := And.intro z0 (And.intro z1 (And.intro z2 (s3_cell (s3_cell hC2 hna1.out (.bool leaf) (.slice A1 (sub l 0 K).length c1) (.slice B1 (kidsOf leaf ks 0 K).length d1)) hna2.out (.bool leaf) (.slice A2 (sub l K2 l.length).length c2) (.slice B2 (kidsOf leaf ks K2 l.length).length d2)))); clear z0 z1 z2; clear r2 k2 b2 hN2 hC2 hU2 hV2 hV3))
        have hUf := s3_other (s3_self HU2.out (.bool leaf) (.slice A1 (sub l 0 K).length c1) (.slice B1 (kidsOf leaf ks 0 K).length d1)) hne3.out (.bool leaf) (.slice A2 (sub l K2 l.length).length c2) (.slice B2 (kidsOf leaf ks K2 l.length).length d2)
        have hVf := s3_self (s3_other HV2.out hne4.out (.bool leaf) (.slice A1 (sub l 0 K).length c1) (.slice B1 (kidsOf leaf ks 0 K).length d1)) (.bool leaf) (.slice A2 (sub l K2 l.length).length c2) (.slice B2 (kidsOf leaf ks K2 l.length).length d2)
        have hFf := (s3_frm HU2.out (Nat.le_succ w.heap.size) (.bool leaf) (.slice A1 (sub l 0 K).length c1) (.slice B1 (kidsOf leaf ks 0 K).length d1)).trans (s3_frm (s3_other HV2.out hne4.out (.bool leaf) (.slice A1 (sub l 0 K).length c1) (.slice B1 (kidsOf leaf ks 0 K).length d1)) (Nat.le_succ_of_le (Nat.le_succ w.heap.size)) (.bool leaf) (.slice A2 (sub l K2 l.length).length c2) (.slice B2 (kidsOf leaf ks K2 l.length).length d2))
        obtain ⟨wf, hwf⟩ : ∃ wf, wf = ((((((y2.setCell ⟨w.heap.size + 1, 0, none⟩ (.bool leaf)).setCell ⟨w.heap.size + 1, 1, none⟩ (.slice A1 (sub l 0 K).length c1)).setCell ⟨w.heap.size + 1, 2, none⟩ (.slice B1 (kidsOf leaf ks 0 K).length d1)).setCell ⟨w.heap.size + 1 + 1, 0, none⟩ (.bool leaf)).setCell ⟨w.heap.size + 1 + 1, 1, none⟩ (.slice A2 (sub l K2 l.length).length c2)).setCell ⟨w.heap.size + 1 + 1, 2, none⟩ (.slice B2 (kidsOf leaf ks K2 l.length).length d2)) := ⟨_, rfl⟩
        rw [← hwf] at hUf hVf hFf ⊢
        clear hwf hS0 hS1 hS2 hS3 hS4 u0 u1 u2 uf0 uf1 uf2 ul v0 v1 v2 vf0 vf1 vf2 vl
        have HFf := Lib.hid hFf
        obtain ⟨q0, q1, q2, -, -, -, -⟩ := three_of_block hUf
        obtain ⟨p0, p1, p2, -, -, -, -⟩ := three_of_block hVf
        clear hUf hVf hFf
        go_wp2_with fail
        refine bodyPost_ret (v := .tuple #[.agg #[.bool leaf, .slice A1 (sub l 0 K).length c1, .slice B1 (kidsOf leaf ks 0 K).length d1], .string x, .agg #[.bool leaf, .slice A2 (sub l K2 l.length).length c2, .slice B2 (kidsOf leaf ks K2 l.length).length d2]]) (by simp [results, Try.results18, go_sem, q0, q1, q2, p0, p1, p2]) rfl ?_
        have l1 : Below w.heap.size w y1 := (below_drewN HBr.out 1).trans (HB1.out.mono HBr.out.size)
        have l2 : Below w.heap.size w y2 := l1.trans (HB2b.out.mono l1.size)
        have hK2' : cutK leaf l + skOf leaf = K2 := by rw [HCK.out, ← HSK.out]; exact HK2.out
        unfold SplitIsM
        rw [hK2', HCK.out]
        refine ⟨A1, c1, B1, d1, A2, c2, B2, d2, by rw [HX.out], ⟨HFf.out.owns (owns_below (owns_up HR1.out HBr.out.size) HB2b.out (Nat.le_refl _)) (by decide), HFf.out.owns (owns_below (owns_up HK1.out HBr.out.size) HB2b.out (Nat.le_refl _)) (by decide)⟩, ⟨HFf.out.owns (owns_up HR2.out l1.size) (by decide), HFf.out.owns (owns_up HK2b.out l1.size) (by decide)⟩, l2.trans HFf.out.low, y1.heap.size, ⟨l1.size, Nat.le_trans HB2b.out.size HFf.out.low.size⟩, fun n k hk => (HR1.out.lt k ((own_len _ _ n _).trans hk)).2, fun n k hk => (HK1.out.lt k ((own_len _ _ n _).trans hk)).2, fun n k hk => (HR2.out.lt k ((own_len _ _ n _).trans hk)).1, fun n k hk => (HK2b.out.lt k ((own_len _ _ n _).trans hk)).1⟩
theorem split_any (leaf : Bool) (A : Option Addr) (c : Nat) (l : List ByteArray) (B : Option Addr) (d : Nat) (ks : List Int) (w : World) (hr : RdN w A c l B d ks) (hbd : Bd l ks) (hlen : if leaf = true then 2 ≤ l.length else 3 ≤ l.length ∧ ks.length = l.length + 1) :
    Calls Try.prog 18 #[.agg #[.bool leaf, .slice A l.length c, .slice B ks.length d]] w (SplitIs leaf l ks w) :=
  (split_apart leaf A c l B d ks w hr hbd hlen).mono fun e w' ⟨A1, c1, B1, d1, A2, c2, B2, d2, h1, h2, h3, h4, _⟩ => ⟨A1, c1, B1, d1, A2, c2, B2, d2, h1, h2, h3, h4⟩
end Go.Proofs.Ytnjdmaeoebihpaa
