/-
  read: the node of a page's bytes, or a stop.
-/
import Derived.Test.YtnjdmaeoebihpaaPgIn
import Derived.Test.YtnjdmaeoebihpaaPgAwake
import Derived.RegionDies
import Derived.Deep.LoopGhost
namespace Go.Proofs.Ytnjdmaeoebihpaa
open Go.RowKit Go.Proofs.YtnjdmaeoebihpaaW.PrintWords Go.Proofs.YtnjdmaeoebihpaaW.PrintLast Go.Proofs.YtnjdmaeoebihpaaW.PrintMore
set_option linter.unusedVariables false
set_option linter.unusedSimpArgs false

/-! ### What bytes say -/
def two (bs : List UInt8) (j : Nat) : Nat := byteAt bs j * 256 + byteAt bs (j + 1)
def four (bs : List UInt8) (j : Nat) : Nat := two bs j * 65536 + two bs (j + 2)
def cnt (bs : List UInt8) : Nat := two bs 1
def isLeaf (bs : List UInt8) : Bool := decide (byteAt bs 0 = 1)
def kidN (bs : List UInt8) : Nat := if byteAt bs 0 = 2 then cnt bs + 1 else 0
def kidsR (bs : List UInt8) : Nat → List Int
  | 0 => []
  | j + 1 => kidsR bs j ++ [(four bs (3 + 4 * j) : Int)]
def at2 (bs : List UInt8) : Nat := 3 + 4 * kidN bs
def txt (bs : List UInt8) (a n : Nat) : ByteArray := ⟨(((bs.drop a).take n)).toArray⟩
def recsR (bs : List UInt8) : Nat → List ByteArray
  | 0 => []
  | j + 1 => recsR bs j ++ [txt bs (two bs (at2 bs + 4 * j)) (two bs (at2 bs + 4 * j + 2))]
structure Fits (bs : List UInt8) : Prop where
  slots : at2 bs + 4 * cnt bs ≤ 1024
  each : ∀ i, i < cnt bs → two bs (at2 bs + 4 * i) + two bs (at2 bs + 4 * i + 2) ≤ 1024
theorem kidsR_len (bs : List UInt8) (j : Nat) : (kidsR bs j).length = j := by
  induction j with
  | zero => rfl
  | succ j ih => simp [kidsR, ih]
theorem recsR_len (bs : List UInt8) (j : Nat) : (recsR bs j).length = j := by
  induction j with
  | zero => rfl
  | succ j ih => simp [recsR, ih]
theorem two_le (bs : List UInt8) (j : Nat) : two bs j < 65536 := two_lt bs j

/-- A read under way. -/
structure Rg (w wr : World) (bb cap : Nat) (bs : List UInt8) (at_ : Nat) (lf : Bool) (A : Option Addr) (c : Nat) (l : List ByteArray) (B : Option Addr) (d : Nat) (ks : List Int) : Prop where
  low : Below w.heap.size w wr
  inn : In wr (w.heap.size + 1) bb cap bs at_
  var : wr.heap[w.heap.size]? = some (.cells #[.bool false, .slice none 0 0, .slice none 0 0] 25)
  nod : wr.heap[w.heap.size + 2]? = some (.cells #[.bool lf, .slice A l.length c, .slice B ks.length d] 25)
  recs : OwnS wr (w.heap.size + 3) A c l
  kids : OwnI wr (w.heap.size + 3) B d ks
section
variable {w wr w' : World} {bb cap : Nat} {bs : List UInt8} {at_ : Nat} {lf : Bool} {A : Option Addr} {c : Nat} {l : List ByteArray} {B : Option Addr} {d : Nat} {ks : List Int}
theorem Rg.size (h : Rg w wr bb cap bs at_ lf A c l B d ks) : w.heap.size + 3 ≤ wr.heap.size := by have := lt_of_block h.nod; omega
theorem Rg.step (h : Rg w wr bb cap bs at_ lf A c l B d ks) {a2 : Nat} (hin : In w' (w.heap.size + 1) bb cap bs a2) (hf : Frm (fun t => t = 80) w.heap.size wr w') : Rg w w' bb cap bs a2 lf A c l B d ks :=
  ⟨h.low.trans hf.low, hin, hf.blk h.var (by decide), hf.blk h.nod (by decide), hf.owns h.recs (by decide), hf.owns h.kids (by decide)⟩
theorem In.frm {T : TypeId → Prop} {base ib : Nat} (h : In wr ib bb cap bs at_) (hf : Frm T base wr w') (h1 : ¬ T 80) (h2 : ¬ T 5) : In w' ib bb cap bs at_ :=
  ⟨hf.blk h.hib h1, by obtain ⟨fr, hb⟩ := h.hbb; exact ⟨fr, hf.blk hb h2⟩, h.len, h.ne⟩
theorem Rg.drew (h : Rg w wr bb cap bs at_ lf A c l B d ks) : Rg w wr.drew bb cap bs at_ lf A c l B d ks :=
  ⟨below_drewN h.low 1, ⟨h.inn.hib, h.inn.hbb, h.inn.len, h.inn.ne⟩, h.var, h.nod, h.recs, h.kids⟩
/-- A row has grown, and lies in the node. -/
theorem Rg.pushKid (h : Rg w wr bb cap bs at_ lf A c l B d ks) {B' : Option Addr} {d' : Nat} {k : Int} {w2 : World} (ho : w2.ownsRow (w.heap.size + 3) 3 1 (.slice B' (ks.length + 1) d') (ks.length + 1) (icl ks ++ [.int .i64 k])) (hg : (wr.alloc (.cells #[.int .i64 k] 3)).grownBy w2 (Value.slice B ks.length d).ownBlock) :
    Rg w (w2.setCell ⟨w.heap.size + 2, 2, none⟩ (.slice B' (ks.length + 1) d')) bb cap bs at_ lf A c l B' d' (ks ++ [k]) := by
  have hs := h.size
  have hal : (wr.alloc (.cells #[.int .i64 k] 3)).ownsRow (w.heap.size + 3) 3 1 (.slice B ks.length d) ks.length (icl ks) := h.kids.alloc _
  have hF1 : Frm (fun t => t = 3) w.heap.size wr w2 := ((Frm.refl _ _ wr).alloc (by omega) _).trans (Frm.grownOwn (owns_up hal (by omega)) hg rfl (by rw [heap_alloc_size]; omega))
  have hn2 := hF1.blk h.nod (by decide)
  have hF2 : Frm (fun t => t = 25) w.heap.size w2 (w2.setCell ⟨w.heap.size + 2, 2, none⟩ (.slice B' (ks.length + 1) d')) := Frm.setCell (T := fun t => t = 25) hn2 rfl (by omega) 2 _
  have e : (ks ++ [k]).length = ks.length + 1 := by simp
  refine ⟨(h.low.trans hF1.low).trans hF2.low, (h.inn.frm hF1 (by decide) (by decide)).frm hF2 (by decide) (by decide), blk_set_ne (hF1.blk h.var (by decide)) _ _ (by omega), ?_, hF2.owns (hF1.owns h.recs (by decide)) (by decide), ?_⟩
  · rw [e]
    exact blk_set hn2 2 _
  · have h5 := hF2.owns ho (by decide)
    rw [OwnI, e, show icl (ks ++ [k]) = icl ks ++ [.int .i64 k] by simp [icl]]
    exact h5
theorem Rg.pushRec (h : Rg w wr bb cap bs at_ lf A c l B d ks) {A' : Option Addr} {c' : Nat} {k : ByteArray} {w2 : World} (ho : w2.ownsRow (w.heap.size + 3) 9 1 (.slice A' (l.length + 1) c') (l.length + 1) (scl l ++ [.string k])) (hg : (wr.alloc (.cells #[.string k] 9)).grownBy w2 (Value.slice A l.length c).ownBlock) :
    Rg w (w2.setCell ⟨w.heap.size + 2, 1, none⟩ (.slice A' (l.length + 1) c')) bb cap bs at_ lf A' c' (l ++ [k]) B d ks := by
  have hs := h.size
  have hal : (wr.alloc (.cells #[.string k] 9)).ownsRow (w.heap.size + 3) 9 1 (.slice A l.length c) l.length (scl l) := h.recs.alloc _
  have hF1 : Frm (fun t => t = 9) w.heap.size wr w2 := ((Frm.refl _ _ wr).alloc (by omega) _).trans (Frm.grownOwn (owns_up hal (by omega)) hg rfl (by rw [heap_alloc_size]; omega))
  have hn2 := hF1.blk h.nod (by decide)
  have hF2 : Frm (fun t => t = 25) w.heap.size w2 (w2.setCell ⟨w.heap.size + 2, 1, none⟩ (.slice A' (l.length + 1) c')) := Frm.setCell (T := fun t => t = 25) hn2 rfl (by omega) 1 _
  have e : (l ++ [k]).length = l.length + 1 := by simp
  refine ⟨(h.low.trans hF1.low).trans hF2.low, (h.inn.frm hF1 (by decide) (by decide)).frm hF2 (by decide) (by decide), blk_set_ne (hF1.blk h.var (by decide)) _ _ (by omega), ?_, ?_, hF2.owns (hF1.owns h.kids (by decide)) (by decide)⟩
  · rw [e]
    exact blk_set hn2 1 _
  · have h5 := hF2.owns ho (by decide)
    rw [OwnS, e, show scl (l ++ [k]) = scl l ++ [.string k] by simp [scl]]
    exact h5
theorem kid_nod (h : Rg w wr bb cap bs at_ lf A c l B d ks) {n : Nat} (hn : ks.length = n) {B' : Option Addr} {d' : Nat} {k : Int} {w2 : World} {xs : List Value} (ho : w2.ownsRow (w.heap.size + 3) 3 1 (.slice B' (n + 1) d') (n + 1) xs) (hg : (wr.alloc (.cells #[.int .i64 k] 3)).grownBy w2 (Value.slice B n d).ownBlock) :
    w2.heap[w.heap.size + 2]? = some (.cells #[.bool lf, .slice A l.length c, .slice B n d] 25) := by
  subst hn
  have hs := h.size
  have hal : (wr.alloc (.cells #[.int .i64 k] 3)).ownsRow (w.heap.size + 3) 3 1 (.slice B ks.length d) ks.length (icl ks) := h.kids.alloc _
  have hF1 : Frm (fun t => t = 3) w.heap.size wr w2 := ((Frm.refl _ _ wr).alloc (by omega) _).trans (Frm.grownOwn (owns_up hal (by omega)) hg rfl (by rw [heap_alloc_size]; omega))
  exact hF1.blk h.nod (by decide)
theorem rec_nod (h : Rg w wr bb cap bs at_ lf A c l B d ks) {n : Nat} (hn : l.length = n) {A' : Option Addr} {c' : Nat} {k : ByteArray} {w2 : World} {xs : List Value} (ho : w2.ownsRow (w.heap.size + 3) 9 1 (.slice A' (n + 1) c') (n + 1) xs) (hg : (wr.alloc (.cells #[.string k] 9)).grownBy w2 (Value.slice A n c).ownBlock) :
    w2.heap[w.heap.size + 2]? = some (.cells #[.bool lf, .slice A n c, .slice B ks.length d] 25) := by
  subst hn
  have hs := h.size
  have hal : (wr.alloc (.cells #[.string k] 9)).ownsRow (w.heap.size + 3) 9 1 (.slice A l.length c) l.length (scl l) := h.recs.alloc _
  have hF1 : Frm (fun t => t = 9) w.heap.size wr w2 := ((Frm.refl _ _ wr).alloc (by omega) _).trans (Frm.grownOwn (owns_up hal (by omega)) hg rfl (by rw [heap_alloc_size]; omega))
  exact hF1.blk h.nod (by decide)
end
def ReadIs (bs : List UInt8) (w : World) (e : Ending) (w' : World) : Prop :=
  (Fits bs ∧ ∃ A c B d, e = .returned (.agg #[.bool (isLeaf bs), .slice A (recsR bs (cnt bs)).length c, .slice B (kidsR bs (kidN bs)).length d]) ∧ OwnS w' w.heap.size A c (recsR bs (cnt bs)) ∧ OwnI w' w.heap.size B d (kidsR bs (kidN bs)) ∧ Below w.heap.size w w') ∨
  (¬ Fits bs ∧ Stops w.heap.size w e w')

set_option maxRecDepth 100000 in
set_option maxHeartbeats 8000000 in
theorem read_any (bb cap : Nat) (bs : List UInt8) (w : World) (hbb : ∃ fr, w.heap[bb]? = some (.cells (bc bs).toArray 5 fr)) (hlen : bs.length = 1024) (hcap : 1024 ≤ cap) :
    Calls Try.prog 36 #[.slice (some ⟨bb, 0, none⟩) 1024 cap] w (ReadIs bs w) := by
  have hbl : bb < w.heap.size := by obtain ⟨fr, h⟩ := hbb; exact lt_of_block h
  have hc0 := byte_cell hbb 0 (by omega)
  have HBB := Lib.hid hbb
  have HLEN := Lib.hid hlen
  clear hbb hlen
  go_enter Try.func36, Try.ntmps36
  go_upto_region 3 with (fail)
  have hb3 : ((((w.alloc (.cells #[.bool false, .slice none 0 0, .slice none 0 0] 25)).alloc (.cells #[.slice (some ⟨bb, 0, none⟩) 1024 cap, .int .i64 1] 80)).alloc (.cells #[.bool ((byteAt bs 0 : Nat) == (1 : Int)), .slice none 0 0, .slice none 0 0] 25))).heap.size = w.heap.size + 3 := by rw [heap_alloc_size, heap_alloc_size, heap_alloc_size]
  have hR : Rg w (((w.alloc (.cells #[.bool false, .slice none 0 0, .slice none 0 0] 25)).alloc (.cells #[.slice (some ⟨bb, 0, none⟩) 1024 cap, .int .i64 1] 80)).alloc (.cells #[.bool ((byteAt bs 0 : Nat) == (1 : Int)), .slice none 0 0, .slice none 0 0] 25)) bb cap bs 1 ((byteAt bs 0 : Nat) == (1 : Int)) none 0 [] none 0 [] := by
    refine ⟨((((Below.refl _ _).alloc (Nat.le_refl _) _).alloc (by rw [heap_alloc_size]; omega) _).alloc (by rw [heap_alloc_size, heap_alloc_size]; omega) _), ⟨blk_alloc (heap_alloc_at _ _ _ (by rw [heap_alloc_size])) _, ?_, HLEN.out, by omega⟩, blk_alloc (blk_alloc (heap_alloc_new _ _) _) _, heap_alloc_at _ _ _ (by rw [heap_alloc_size, heap_alloc_size]), World.ownsRow_nil _ _ _ _, World.ownsRow_nil _ _ _ _⟩
    obtain ⟨fr, h⟩ := HBB.out
    exact ⟨fr, blk_alloc (blk_alloc (blk_alloc h _) _) _⟩
  obtain ⟨w3, hw3⟩ : ∃ w3, w3 = (((w.alloc (.cells #[.bool false, .slice none 0 0, .slice none 0 0] 25)).alloc (.cells #[.slice (some ⟨bb, 0, none⟩) 1024 cap, .int .i64 1] 80)).alloc (.cells #[.bool ((byteAt bs 0 : Nat) == (1 : Int)), .slice none 0 0, .slice none 0 0] 25)) := ⟨_, rfl⟩
  rw [← hw3] at hR ⊢
  clear hw3 hb3 hc0
  obtain ⟨lf, hlf⟩ : ∃ lf, lf = ((byteAt bs 0 : Nat) == (1 : Int)) := ⟨_, rfl⟩
  rw [← hlf] at hR ⊢
  have HLF : Hid (isLeaf bs = lf) := (by
    rw [hlf, isLeaf, Bool.eq_iff_iff]
    simp
    omega : isLeaf bs = lf)
  have HR := Lib.hid hR
  clear hR hlf
  go_wp2_with fail
  refine (intwo_ok (N := w.heap.size) HR.out.inn (Nat.le_succ _) (by omega)).mono ?_
  rintro e w4 ⟨rfl, hin, hf⟩
  have HR4 := Lib.hid (HR.out.step hin hf)
  obtain ⟨n, hn⟩ : ∃ n, byteAt bs 1 * 256 + byteAt bs (1 + 1) = n := ⟨_, rfl⟩
  have hn6 : n < 65536 := by rw [← hn]; exact two_lt bs 1
  have HN : Hid (cnt bs = n) := hn
  rw [hn]
  clear hin hf hn HR
  have hc0 := byte_cell HR4.out.inn.hbb 0 (by have := HLEN.out; omega)
  go_upto_if 21 with (fail)
  obtain ⟨q2, hq2⟩ : ∃ q, ((byteAt bs 0 : Nat) == (2 : Int)) = q := ⟨_, rfl⟩
  rw [hq2]
  have HQ2 := Lib.hid hq2
  clear hq2
  go_cut [] (fun wc => ∃ B d, Hid (Rg w wc bb cap bs (at2 bs) lf none 0 [] B d (kidsR bs (kidN bs))) ∧ Hid (at2 bs ≤ 1024))
  case first =>
    cases q2 with
    | true =>
      have hb2 : byteAt bs 0 = 2 := by have := eq_of_beq HQ2.out; omega
      have HK : Hid (kidN bs = n + 1) := (by rw [kidN, if_pos hb2, HN.out] : kidN bs = n + 1)
      clear hb2
      go_wp2_with fail
      clear hc0
      go_loopg [24] (n + 1) (fun g i wr => ∃ (j : Nat) (B : Option Addr) (d : Nat), j ≤ n + 1 ∧ g = n + 1 - j ∧ i = .int .i64 j ∧ 3 + 4 * j ≤ 1024 ∧ Hid (Rg w wr bb cap bs (3 + 4 * j) lf none 0 [] B d (kidsR bs j)))
      case atStart => exact ⟨0, none, 0, by omega, by omega, rfl, by omega, HR4⟩
      case round =>
        clear HR4
        obtain ⟨j, B, d, hj, hg, rfl, hja, HRj⟩ := hrel
        by_cases hlt : j < n + 1
        · have hlt2 : (j : Int) < (n : Int) + 1 := by omega
          have hlt3 : decide ((j : Int) < (n : Int) + 1) = true := decide_eq_true hlt2
          by_cases hfit : 3 + 4 * j + 4 ≤ 1024
          · obtain ⟨i0, EI⟩ := elt_I
            obtain ⟨m0, m1, m2, mf0, mf1, mf2, ml⟩ := three_of_block (w := wr.drew) HRj.out.nod
            have hkl := kidsR_len bs j
            rw [hkl] at m2
            have HKL := Lib.hid hkl
            clear hkl m0 m1 mf0 mf1
            go_upto_region 7 with (fail)
            go_region_law
              (first
                | (go_simp; go_at_call 48; refine (infour_ok (w := wr.drew) (N := w.heap.size) HRj.out.drew.inn (Nat.le_succ _) hfit).mono ?_; rintro e y1 ⟨rfl, hin, hf⟩; have HY := Lib.hid (HRj.out.drew.step hin hf); obtain ⟨-, -, p2, -, -, pf2, pl⟩ := three_of_block HY.out.nod; rw [HKL.out] at p2; obtain ⟨k, hk⟩ : ∃ k, (byteAt bs (3 + 4 * j) * 256 + byteAt bs (3 + 4 * j + 1)) * 65536 + (byteAt bs (3 + 4 * j + 2) * 256 + byteAt bs (3 + 4 * j + 3)) = k := ⟨_, rfl⟩; have HKV : Hid (four bs (3 + 4 * j) = k) := hk; rw [hk]; clear hk; have hHO := HY.out.kids; rw [OwnI, HKL.out] at hHO; have HO := Lib.hid (hHO.alloc (.cells #[.int .i64 k] 3)); have HSZ := HY.out.size; clear hin hf hHO)
                | (refine reg_push EI (w := y1.alloc (.cells #[.int .i64 k] 3)) (o := ⟨some 31, _, _, _, _, _⟩) rfl _ _ rfl HO.out rfl #[.int .i64 k] rfl (heap_alloc_new _ _) rfl (fun u hu => (by obtain rfl : u = .int .i64 k := (by simpa using hu); rfl)) (by omega) (by rw [heap_alloc_size]; omega) ?_; intro A3 c3 w3 ho hg; have HO3 := Lib.hid ho; have HG3 := Lib.hid hg; have hP := HY.out.pushKid (B' := A3) (d' := c3) (k := (k : Int)) (w2 := w3) (by rw [HKL.out]; exact ho) (by rw [HKL.out]; exact hg); rw [HKL.out] at hP; have HP := Lib.hid hP; obtain ⟨-, -, q2, -, -, qf2, ql⟩ := three_of_block (kid_nod HY.out HKL.out ho hg); clear ho hg hP))
            all_goals
              go_wp2_with fail
              go_roundg (n + 1 - (j + 1))
              case measure => omega
              case rel =>
                refine ⟨j + 1, A3, c3, by omega, rfl, by go_num, by omega, Lib.hid ?_⟩
                have e : 3 + 4 * (j + 1) = 3 + 4 * j + 4 := by omega
                rw [e, kidsR, HKV.out]
                exact HP.out
          · have HNF : Hid (¬ Fits bs) := (fun h => by
              have h1 := h.slots
              unfold at2 at h1
              rw [HK.out, HN.out] at h1
              omega : ¬ Fits bs)
            have HD := Lib.hid HRj.out.drew
            obtain ⟨m0, m1, m2, mf0, mf1, mf2, ml⟩ := three_of_block (w := wr.drew) HRj.out.nod
            have hkl := kidsR_len bs j
            rw [hkl] at m2
            clear m0 m1 mf0 mf1 hkl HRj
            go_upto_region 7 with (fail)
            go_region_dies
            all_goals
              go_wp2_with fail
              refine (infour_no (N := w.heap.size) HD.out.inn (Nat.le_succ _) hfit (by omega)).mono ?_
              rintro e y ⟨rfl, hy⟩
              have HY := Lib.hid (HD.out.low.trans hy)
              clear hy
              go_wp2_with fail
              exact ⟨rfl, .inr ⟨HNF.out, rfl, HY.out⟩⟩
        · have hlt2 : ¬ ((j : Int) < (n : Int) + 1) := by omega
          have hlt3 : decide ((j : Int) < (n : Int) + 1) = false := decide_eq_false hlt2
          have HJ : Hid (j = n + 1) := (by omega : j = n + 1)
          have hja' := hja
          clear hja hj hg hlt
          go_wp2_with fail
          go_meet
          refine ⟨B, d, ?_, ?_⟩
          · refine Lib.hid ?_
            have h := HRj.out
            rw [at2, HK.out]
            rw [HJ.out] at h
            exact h
          · exact Lib.hid (by rw [at2, HK.out]; have := HJ.out; omega)
    | false =>
      have hb2 : byteAt bs 0 ≠ 2 := fun h => by have := beq_eq_false_iff_ne.1 HQ2.out; omega
      have HK : Hid (kidN bs = 0) := (by rw [kidN, if_neg hb2] : kidN bs = 0)
      clear hb2
      go_wp2_with fail
      go_meet
      exact ⟨none, 0, Lib.hid (by rw [at2, HK.out]; exact HR4.out), Lib.hid (by rw [at2, HK.out]; omega)⟩
  case rest =>
    obtain ⟨B, d, HRk, HA2⟩ := hcut
    obtain ⟨a2, ha2⟩ : ∃ a2, at2 bs = a2 := ⟨_, rfl⟩
    have HAT := Lib.hid ha2
    rw [ha2] at HRk HA2
    have hal := HA2.out
    obtain ⟨KS, hKS⟩ : ∃ KS, kidsR bs (kidN bs) = KS := ⟨_, rfl⟩
    have HKS := Lib.hid hKS
    rw [hKS] at HRk
    clear ha2 hKS HR4 hc0 HA2
    go_wp2_with fail
    go_loopg [35] n (fun g i wr => ∃ (j : Nat) (A : Option Addr) (c : Nat), j ≤ n ∧ g = n - j ∧ i = .int .i64 j ∧ a2 + 4 * j ≤ 1024 ∧ Hid (∀ m, m < j → two bs (a2 + 4 * m) + two bs (a2 + 4 * m + 2) ≤ 1024) ∧ Hid (Rg w wr bb cap bs (a2 + 4 * j) lf A c (recsR bs j) B d KS))
    case atStart => exact ⟨0, none, 0, by omega, by omega, rfl, by omega, Lib.hid (fun m h => absurd h (Nat.not_lt_zero _)), HRk⟩
    case round =>
      clear HRk
      obtain ⟨j, A, c, hj, hg, rfl, hja, HEA, HRj⟩ := hrel
      by_cases hlt : j < n
      · have hlt2 : (j : Int) < (n : Int) := by omega
        have hlt3 : decide ((j : Int) < (n : Int)) = true := decide_eq_true hlt2
        have HNFs : a2 + 4 * j + 4 > 1024 → ¬ Fits bs := fun h0 h => by
          have h1 := h.slots
          rw [HAT.out, HN.out] at h1
          omega
        have HNFS := Lib.hid HNFs
        clear HNFs
        by_cases hf1 : a2 + 4 * j + 2 ≤ 1024
        · go_wp2_with fail
          refine (intwo_ok (N := w.heap.size) HRj.out.inn (Nat.le_succ _) hf1).mono ?_
          rintro e y1 ⟨rfl, hin, hf⟩
          have HY1 := Lib.hid (HRj.out.step hin hf)
          obtain ⟨f, hfv⟩ : ∃ f, byteAt bs (a2 + 4 * j) * 256 + byteAt bs (a2 + 4 * j + 1) = f := ⟨_, rfl⟩
          have hf6 : f < 65536 := by rw [← hfv]; exact two_lt bs _
          have HF : Hid (two bs (a2 + 4 * j) = f) := hfv
          rw [hfv]
          clear hin hf hfv
          by_cases hf2 : a2 + 4 * j + 4 ≤ 1024
          · go_wp2_with fail
            refine (intwo_ok (N := w.heap.size) HY1.out.inn (Nat.le_succ _) (by omega)).mono ?_
            rintro e y2 ⟨rfl, hin, hf⟩
            have HY2 := Lib.hid (HY1.out.step hin hf)
            obtain ⟨z, hzv⟩ : ∃ z, byteAt bs (a2 + 4 * j + 2) * 256 + byteAt bs (a2 + 4 * j + 2 + 1) = z := ⟨_, rfl⟩
            have hz6 : z < 65536 := by rw [← hzv]; exact two_lt bs _
            have HZ : Hid (two bs (a2 + 4 * j + 2) = z) := hzv
            rw [hzv]
            clear hin hf hzv
            by_cases hf3 : f + z ≤ 1024
            · have hgt : decide ((f : Int) > 1024 - (z : Int)) = false := decide_eq_false (by omega)
              have hgt2 : decide (1024 - (z : Int) < (f : Int)) = false := decide_eq_false (by omega)
              go_upto_region 15 with (fail)
              have hln := HLEN.out
              have HNS := Lib.hid HY2.out.nod
              obtain ⟨i0, ES⟩ := elt_N
              obtain ⟨m0, m1, m2, mf0, mf1, mf2, ml⟩ := three_of_block (w := y2.drew) HNS.out
              have hrl := recsR_len bs j
              rw [hrl] at m1
              have HRL := Lib.hid hrl
              clear hrl m0 m2 mf0 mf2
              obtain ⟨x, hx⟩ : ∃ x, txt bs f z = x := ⟨_, rfl⟩
              have HX : Hid (txt bs f z = x) := hx
              have hcv : ∀ ad, (z = 0 ∨ ad = (⟨bb, f, none⟩ : Addr)) → ∀ cc, (convert 39 9 (.slice (some ad) z cc)).run Try.prog y2.drew = .ok (.string x) y2.drew := by
                intro ad had cc
                have hzl : (((bs.drop f).take z)).length = z := by rw [List.length_take, List.length_drop]; omega
                have h := run_convert_bytes_back (P := Try.prog) y2.drew 39 9 5 ad cc ((bs.drop f).take z) Try.underlying39 Try.underlying5 Try.underlying9 (fun k hk => by
                  rw [hzl] at hk
                  rcases had with h0 | rfl
                  · omega
                  · rw [Addr.add_lit]
                    refine (byte_cell (w := y2.drew) HY2.out.inn.hbb (f + k) (by omega)).trans ?_
                    simp [byteAt, show f + k < bs.length by omega])
                rw [hzl] at h
                rw [← hx]
                exact h
              have w1 : IntKind.i64.wrap ((f : Int) + (z : Int)) = (f : Int) + (z : Int) := IntWalk.i64_in _ (by omega)
              have w2 : (f : Int) ≤ (f : Int) + (z : Int) := by omega
              have w3 : (f : Int) + (z : Int) ≤ (cap : Int) := by omega
              have w4 : ((f : Int) + (z : Int)).toNat = f + z := by omega
              have w5 : f + z - f = z := by omega
              clear hx
              by_cases hcf : cap = f
              · have hz0 : z = 0 := by omega
                subst hcf hz0
                have w6 : IntKind.i64.wrap (cap : Int) = (cap : Int) := IntWalk.i64_in _ (by omega)
                have hcv2 := hcv ⟨bb, 0, none⟩ (.inl rfl) 0
                clear hcv
                have hown : y2.ownsRow (w.heap.size + 3) 9 1 (.slice A j c) j (scl (recsR bs j)) := by
                  have h := HY2.out.recs
                  rw [OwnS, HRL.out] at h
                  exact h
                have HOWN := Lib.hid (hown.alloc (.cells #[.string x] 9))
                clear hown
                have HSZ := HY2.out.size
                obtain ⟨-, r1, -, -, rf1, -, rl⟩ := three_of_block (blk_alloc (w := y2) HNS.out (.cells #[.string x] 9))
                rw [HRL.out] at r1
                go_region_law
                  (refine reg_push ES (w := (y2.alloc (.cells #[.string x] 9)).drew) (o := ⟨some 58, _, _, _, _, _⟩) rfl _ _ rfl HOWN.out rfl #[.string x] rfl (heap_alloc_new y2 _) rfl (fun u hu => (by obtain rfl : u = .string x := (by simpa using hu); rfl)) (by omega) (by show _ ≤ (y2.alloc (.cells #[.string x] 9)).heap.size; rw [heap_alloc_size]; omega) ?_; intro A3 c3 y3 ho hg; have HO3 := Lib.hid ho; have HG3 := Lib.hid hg; have hP := HY2.out.drew.pushRec (A' := A3) (c' := c3) (k := x) (w2 := y3) (by rw [HRL.out]; exact ho) (by rw [HRL.out]; exact hg); rw [HRL.out] at hP; have HP := Lib.hid hP; obtain ⟨-, q1, -, -, qf1, -, ql⟩ := three_of_block (rec_nod HY2.out.drew HRL.out ho hg); clear ho hg hP)
                all_goals
                  go_wp2_with fail
                  go_roundg (n - (j + 1))
                  case measure => omega
                  case rel =>
                    refine ⟨j + 1, A3, c3, by omega, rfl, by go_num, by omega, Lib.hid (fun m hm => ?_), Lib.hid ?_⟩
                    · rcases Nat.lt_succ_iff_lt_or_eq.1 hm with h | rfl
                      · exact HEA.out m h
                      · rw [HF.out, HZ.out]
                        exact hf3
                    · have e : a2 + 4 * (j + 1) = a2 + 4 * j + 2 + 2 := by omega
                      rw [e, recsR, HAT.out, HF.out, HZ.out, HX.out]
                      exact HP.out
              · have hcf2 : cap ≠ f := hcf
                have hcv2 := hcv ⟨bb, f, none⟩ (.inr rfl) (cap - f)
                clear hcv
                have hown : y2.ownsRow (w.heap.size + 3) 9 1 (.slice A j c) j (scl (recsR bs j)) := by
                  have h := HY2.out.recs
                  rw [OwnS, HRL.out] at h
                  exact h
                have HOWN := Lib.hid (hown.alloc (.cells #[.string x] 9))
                clear hown
                have HSZ := HY2.out.size
                obtain ⟨-, r1, -, -, rf1, -, rl⟩ := three_of_block (blk_alloc (w := y2) HNS.out (.cells #[.string x] 9))
                rw [HRL.out] at r1
                go_region_law
                  (refine reg_push ES (w := (y2.alloc (.cells #[.string x] 9)).drew) (o := ⟨some 58, _, _, _, _, _⟩) rfl _ _ rfl HOWN.out rfl #[.string x] rfl (heap_alloc_new y2 _) rfl (fun u hu => (by obtain rfl : u = .string x := (by simpa using hu); rfl)) (by omega) (by show _ ≤ (y2.alloc (.cells #[.string x] 9)).heap.size; rw [heap_alloc_size]; omega) ?_; intro A3 c3 y3 ho hg; have HO3 := Lib.hid ho; have HG3 := Lib.hid hg; have hP := HY2.out.drew.pushRec (A' := A3) (c' := c3) (k := x) (w2 := y3) (by rw [HRL.out]; exact ho) (by rw [HRL.out]; exact hg); rw [HRL.out] at hP; have HP := Lib.hid hP; obtain ⟨-, q1, -, -, qf1, -, ql⟩ := three_of_block (rec_nod HY2.out.drew HRL.out ho hg); clear ho hg hP)
                all_goals
                  go_wp2_with fail
                  go_roundg (n - (j + 1))
                  case measure => omega
                  case rel =>
                    refine ⟨j + 1, A3, c3, by omega, rfl, by go_num, by omega, Lib.hid (fun m hm => ?_), Lib.hid ?_⟩
                    · rcases Nat.lt_succ_iff_lt_or_eq.1 hm with h | rfl
                      · exact HEA.out m h
                      · rw [HF.out, HZ.out]
                        exact hf3
                    · have e : a2 + 4 * (j + 1) = a2 + 4 * j + 2 + 2 := by omega
                      rw [e, recsR, HAT.out, HF.out, HZ.out, HX.out]
                      exact HP.out
            · have hgt : decide ((f : Int) > 1024 - (z : Int)) = true := decide_eq_true (by omega)
              have hgt2 : decide (1024 - (z : Int) < (f : Int)) = true := decide_eq_true (by omega)
              have HNF : Hid (¬ Fits bs) := (fun h => by
                have h1 := h.each j (by rw [HN.out]; exact hlt)
                rw [HAT.out, HF.out, HZ.out] at h1
                exact hf3 h1 : ¬ Fits bs)
              have HL := Lib.hid HY2.out.low
              go_wp2_with fail
              refine (check_no 16 rfl _).mono ?_
              rintro e y ⟨rfl, rfl⟩
              go_wp2_with fail
              exact ⟨rfl, .inr ⟨HNF.out, rfl, HL.out⟩⟩
          · go_wp2_with fail
            refine (intwo_no (N := w.heap.size) HY1.out.inn (by omega) (by omega)).mono ?_
            rintro e y ⟨rfl, hy⟩
            have HY := Lib.hid (HY1.out.low.trans hy)
            clear hy
            go_wp2_with fail
            exact ⟨rfl, .inr ⟨HNFS.out (by omega), rfl, HY.out⟩⟩
        · go_wp2_with fail
          refine (intwo_no (N := w.heap.size) HRj.out.inn hf1 (by omega)).mono ?_
          rintro e y ⟨rfl, hy⟩
          have HY := Lib.hid (HRj.out.low.trans hy)
          clear hy
          go_wp2_with fail
          exact ⟨rfl, .inr ⟨HNFS.out (by omega), rfl, HY.out⟩⟩
      · have hlt2 : ¬ (j : Int) < (n : Int) := by omega
        have hlt3 : decide ((j : Int) < (n : Int)) = false := decide_eq_false hlt2
        have HJ : Hid (j = n) := (by omega : j = n)
        have HFI : Hid (Fits bs) := (⟨by rw [HAT.out, HN.out]; have := HJ.out; omega, fun i hi => by rw [HAT.out]; exact HEA.out i (by rw [HN.out] at hi; have := HJ.out; omega)⟩ : Fits bs)
        obtain ⟨m0, m1, m2, mf0, mf1, mf2, ml⟩ := three_of_block HRj.out.nod
        obtain ⟨v0, v1, v2, vf0, vf1, vf2, vl⟩ := three_of_block HRj.out.var
        go_wp2_with fail
        have hE := s3_self HRj.out.var (.bool lf) (.slice A (recsR bs j).length c) (.slice B KS.length d)
        obtain ⟨q0, q1, q2', -, -, -, -⟩ := three_of_block hE
        have hF := s3_frm HRj.out.var (Nat.le_refl w.heap.size) (.bool lf) (.slice A (recsR bs j).length c) (.slice B KS.length d)
        refine bodyPost_ret (v := .agg #[.bool lf, .slice A (recsR bs j).length c, .slice B KS.length d]) (by simp [results, Try.results36, go_sem, q0, q1, q2']) rfl ?_
        have hjn := HJ.out
        subst hjn
        refine .inl ⟨HFI.out, A, c, B, d, ?_, ?_, ?_, HRj.out.low.trans hF.low⟩
        · rw [HLF.out, HN.out, HKS.out]
        · rw [HN.out]
          have h := hF.owns (owns_up HRj.out.recs (base' := w.heap.size) (by omega)) (by decide)
          exact h
        · rw [HKS.out]
          exact hF.owns (owns_up HRj.out.kids (base' := w.heap.size) (by omega)) (by decide)
end Go.Proofs.Ytnjdmaeoebihpaa
