/-
  Law package 04: bytes; the law ArenaOwns.
-/
import Derived.Test.YtmlgockejacjeaaArLoad
import Derived.Test.YtmlgockejacjeaaArAwake
import Derived.Laws.IdiomStrings
import Derived.Deep.RegionHeld
namespace Go.Proofs.Ytmlgockejacjeaa
open Go.RowKit
set_option linter.unusedVariables false
set_option linter.unusedSimpArgs false

/-- A byte's cell. -/
theorem byte_of {c : Int} (hc : (Lit.int .u8 c).wf = true) : ∃ b : UInt8, c = (b.toNat : Int) := by
  have h : 0 ≤ c ∧ c ≤ 255 := by
    simp [Lit.wf, IntKind.min, IntKind.max, IntKind.signed, IntKind.bits] at hc
    omega
  refine ⟨UInt8.ofNat c.toNat, ?_⟩
  rw [UInt8.toNat_ofNat']
  omega

/-- The row while it is laid. -/
def midRow (b : UInt8) (n j : Nat) : List UInt8 := List.replicate j b ++ List.replicate (n - j) 0
theorem midRow_zero (b : UInt8) (n : Nat) : Array.replicate n (Value.int .u8 0) = bcells (midRow b n 0) := by
  unfold midRow bcells
  simp
theorem midRow_all (b : UInt8) (n : Nat) : midRow b n n = List.replicate n b := by unfold midRow; simp
theorem midRow_succ (b : UInt8) (n j : Nat) (h : j < n) : (bcells (midRow b n j)).setIfInBounds j (.int .u8 (b.toNat : Int)) = bcells (midRow b n (j + 1)) := by
  obtain ⟨k, rfl⟩ : ∃ k, n = j + 1 + k := ⟨n - j - 1, by omega⟩
  unfold midRow bcells
  rw [show j + 1 + k - j = k + 1 from by omega, show j + 1 + k - (j + 1) = k from by omega]
  apply Array.toList_inj.1
  simp only [List.map_append, List.map_replicate, Array.toList_setIfInBounds]
  rw [List.set_append_right _ _ (by simp)]
  simp only [List.length_replicate, Nat.sub_self]
  rw [List.replicate_succ (n := k), List.set_cons_zero, List.replicate_succ' (n := j)]
  simp
theorem midRow_at (b : UInt8) (n j : Nat) (h : j < n) : (bcells (midRow b n j))[j]? = some (.int .u8 0) := by
  obtain ⟨k, rfl⟩ : ∃ k, n = j + 1 + k := ⟨n - j - 1, by omega⟩
  unfold midRow bcells
  rw [show j + 1 + k - j = k + 1 from by omega]
  simp [List.replicate_succ]

theorem bytes_any (b : UInt8) (n : Nat) (hn : n ≤ 100000) (w : World) :
    Calls Try.prog 11 #[.int .u8 (b.toNat : Int), .int .i64 (n : Int)] w fun e w' => e = .returned (.slice (some ⟨w.heap.size, 0, none⟩) n n) ∧ Below w.heap.size w w' ∧ w'.heap[w.heap.size]? = some (.cells (bcells (List.replicate n b)) 5) := by
  have hmk := mkBytes n (by omega)
  go_enter Try.func11, Try.ntmps11
  go_wp2_with fail
  go_loopw [11] (fun i wr => ∃ j : Nat, j ≤ n ∧ i = .int .i64 j ∧ Below w.heap.size w wr ∧ wr.heap[w.heap.size]? = some (.cells (bcells (midRow b n j)) 5)) (fun i _ => n - (intOf i).toNat)
  case atStart => exact ⟨0, Nat.zero_le _, rfl, (Below.refl _ _).alloc (Nat.le_refl _) _, by rw [midRow_zero b]; exact heap_alloc_new _ _⟩
  case round =>
    obtain ⟨j, hj, rfl, hb, hblk⟩ := hrel
    have HB := Lib.hid hb; clear hb
    have hl := lt_of_block hblk
    by_cases hlt : j < n
    · have hc : wr.cell? ⟨w.heap.size, j, none⟩ = some (.int .u8 0) := (cell_of_block hblk j).trans (midRow_at b n j hlt)
      have hf := free_of_block hblk j
      have HK := Lib.hid hblk; clear hblk
      go_wp2_with fail
      go_roundw
      case rel =>
        refine ⟨j + 1, by omega, by go_num, HB.out.setCell (p := ⟨w.heap.size, j, none⟩) (Nat.le_refl _) _, ?_⟩
        rw [← midRow_succ b n j hlt]
        exact blk_set HK.out _ _
      case measure => simp [intOf]; omega
    · have HK := Lib.hid hblk; clear hblk
      go_wp2_with fail
      go_ret
      obtain rfl : j = n := by omega
      exact ⟨rfl, HB.out, by rw [← midRow_all b j]; exact HK.out⟩

/-- A byte that lies in another block than the arena's is written. -/
theorem At.poke {base a : Nat} {S : ArS} {w0 w : World} (h : At base a S w0 w) {b : Nat} {cs : Array Value} (hb : w.heap[b]? = some (.cells cs 5)) (hlo : base ≤ b) (i : Nat) (v : Value) : At base a S w0 (w.setCell ⟨b, i, none⟩ v) := by
  refine ⟨h.below.setCell (p := ⟨b, i, none⟩) hlo v, h.le, ?_⟩
  obtain ⟨own, pv, fv, pbs, rfl, R⟩ := h.ar
  refine ⟨_, AR.stay ⟨pv, fv, pbs, rfl, R⟩ (fun k hk => Below.heap_setCell _ _ _ _ ?_) (fun k c hc => Below.heap_setCell _ _ _ _ ?_)⟩
  · rintro rfl
    rcases hk with rfl | hk | hk
    · have := R.blk; rw [hb] at this; injection this with this; injection this with _ this; exact absurd this (by decide)
    · exact owns_ne R.pown hb (by decide) hk.symm
    · exact owns_ne R.fown hb (by decide) hk.symm
  · rintro rfl
    rw [hb] at hc; injection hc with hc; injection hc with _ hc; exact absurd hc (by decide)
theorem At.store {base a : Nat} {S : ArS} {w0 w : World} (h : At base a S w0 w) (ok : S.Ok) (n : Int) {l : List UInt8} (hp : S.page n = some l) (b c : Nat) (l' : List UInt8) (hl' : l'.length = 1024) (hb : w.heap[b]? = some (.cells (bcells l') 5)) :
    Calls Try.prog 12 #[.pointer (some ⟨a, 0, none⟩), .int .i64 n, .slice (some ⟨b, 0, none⟩) 1024 c] w fun e w' => e = .returned (.int .i64 0) ∧ At base a (S.put n l') w0 w' ∧ w'.heap[b]? = some (.cells (bcells l') 5) := by
  obtain ⟨own, hA⟩ := h.ar
  refine (store_in hA ok n hp b c l' hl' _ hb).mono ?_
  rintro e w' ⟨rfl, own', h', hg⟩
  refine ⟨rfl, h.grows hA h' hg, blk_grows hb hg ?_⟩
  obtain ⟨pv, fv, pbs, rfl, R⟩ := hA
  rintro (rfl | hk | hk)
  · have := R.blk; rw [hb] at this; injection this with this; injection this with _ this; exact absurd this (by decide)
  · exact owns_ne R.pown hb (by decide) hk.symm
  · exact owns_ne R.fown hb (by decide) hk.symm
/-- A row of bytes at g. -/
def Bytes (w : World) (g : Nat) (l : List UInt8) : Prop := ∃ cs, w.heap[g]? = some (.cells cs 5) ∧ ∀ j (hj : j < l.length), cs[j]? = some (.int .u8 (l[j].toNat : Int))
theorem Bytes.of {w : World} {g : Nat} {l : List UInt8} (h : w.heap[g]? = some (.cells (bcells l) 5)) : Bytes w g l := ⟨_, h, fun j hj => by simp [bcells, hj]⟩
theorem Bytes.owned {w : World} {base g c : Nat} {l : List UInt8} {n : Nat} (h : w.ownsRow base 5 1 (.slice (some ⟨g, 0, none⟩) n c) n (bcells l).toList) (hn : l.length = n) : Bytes w g l := by
  rcases h.2 with ⟨h', _⟩ | ⟨g', cap', cur, h', _, hg, _, _, _, htake⟩
  · cases h'
  · cases h'
    refine ⟨cur, hg, fun j hj => ?_⟩
    have h1 : (cur.toList.take (n * 1))[j]? = (bcells l).toList[j]? := by rw [htake]
    rw [List.getElem?_take, if_pos (by omega)] at h1
    rw [← Array.getElem?_toList, h1]
    simp [bcells, hj]
theorem Bytes.stays {w w' : World} {g k : Nat} {l : List UInt8} (h : Bytes w g l) (hb : Below k w w') (hk : w.heap.size ≤ k) : Bytes w' g l := by
  obtain ⟨cs, h1, h2⟩ := h
  exact ⟨cs, (hb.block g (by have := lt_of_block h1; omega)).trans h1, h2⟩
theorem Bytes.conv {w : World} {g : Nat} {l : List UInt8} {n : Nat} (h : Bytes w g l) (hn : l.length = n) (c : Nat) : (convert 29 9 (.slice (some ⟨g, 0, none⟩) n c)).run Try.prog w = .ok (.string ⟨l.toArray⟩) w := by
  obtain ⟨cs, h1, h2⟩ := h
  subst hn
  refine run_convert_bytes_back (P := Try.prog) w _ _ 5 ⟨g, 0, none⟩ c l Try.underlying29 Try.underlying5 Try.underlying9 (fun j hj => ?_)
  rw [Addr.add_lit, Nat.zero_add, cell_of_block h1]
  exact h2 j hj
theorem At.load {base a : Nat} {S : ArS} {w0 w : World} (h : At base a S w0 w) (ok : S.Ok) (n : Int) {l : List UInt8} (hp : S.page n = some l) :
    Calls Try.prog 13 #[.pointer (some ⟨a, 0, none⟩), .int .i64 n] w fun e w' => ∃ g c, e = .returned (.tuple #[.slice (some ⟨g, 0, none⟩) 1024 c, .int .i64 0]) ∧ At base a S w0 w' ∧ Bytes w' g l ∧ Below w.heap.size w w' ∧ w.heap.size ≤ g ∧ l.length = 1024 := by
  obtain ⟨own, hA⟩ := h.ar
  refine (load_in hA ok n hp).mono ?_
  rintro e w' ⟨g, c, rfl, ho, hb, hl⟩
  exact ⟨g, c, rfl, h.news hb, Bytes.owned ho hl, hb, (ho.lt g rfl).1, hl⟩

/-- A page of one byte. -/
def full (b : UInt8) : List UInt8 := List.replicate 1024 b
theorem full_len (b : UInt8) : (full b).length = 1024 := List.length_replicate
theorem bcells_rep (b : UInt8) (n j : Nat) (h : j < n) : (bcells (List.replicate n b))[j]? = some (.int .u8 (b.toNat : Int)) := by simp [bcells, h]
theorem full_at (b : UInt8) (j : Nat) (h : j < 1024) : (bcells (full b))[j]? = some (.int .u8 (b.toNat : Int)) := bcells_rep b 1024 j h
theorem Bytes.cell {w : World} {g : Nat} {l : List UInt8} (h : Bytes w g l) (j : Nat) (hj : j < l.length) : w.cell? ⟨g, j, none⟩ = some (.int .u8 (l[j].toNat : Int)) ∧ w.frozen? ⟨g, j, none⟩ = false ∧ g < w.heap.size := by
  obtain ⟨cs, h1, h2⟩ := h
  exact ⟨(cell_of_block h1 j).trans (h2 j hj), free_of_block h1 j, lt_of_block h1⟩
theorem At.pokeB {base a : Nat} {S : ArS} {w0 w : World} (h : At base a S w0 w) {b : Nat} {l : List UInt8} (hb : Bytes w b l) (hlo : base ≤ b) (i : Nat) (v : Value) : At base a S w0 (w.setCell ⟨b, i, none⟩ v) := by
  obtain ⟨cs, h1, _⟩ := hb
  exact h.poke h1 hlo i v

/-- What the last region's conversions want of a world. -/
abbrev ConvS (g2 c2 g3 c3 : Nat) (l2 l3 : List UInt8) (w : World) : Prop := Hid (Bytes w g2 l2) ∧ Hid (Bytes w g3 l3) ∧
  (convert 29 9 (.slice (some ⟨g2, 0, none⟩) 1024 c2)).run Try.prog w = .ok (.string ⟨l2.toArray⟩) w ∧ (convert 29 9 (.slice (some ⟨g3, 0, none⟩) 1024 c3)).run Try.prog w = .ok (.string ⟨l3.toArray⟩) w
theorem convS_mk {g2 c2 g3 c3 : Nat} {l2 l3 : List UInt8} {w : World} (n2 : l2.length = 1024) (n3 : l3.length = 1024) (h2 : Hid (Bytes w g2 l2)) (h3 : Hid (Bytes w g3 l3)) : ConvS g2 c2 g3 c3 l2 l3 w := ⟨h2, h3, h2.out.conv n2 c2, h3.out.conv n3 c3⟩
theorem convS_step {g2 c2 g3 c3 : Nat} {l2 l3 : List UInt8} {w w' : World} (n2 : l2.length = 1024) (n3 : l3.length = 1024) (hb : Hid (Below w.heap.size w w')) (h : ConvS g2 c2 g3 c3 l2 l3 w) : ConvS g2 c2 g3 c3 l2 l3 w' := convS_mk n2 n3 (Lib.hid (h.1.out.stays hb.out (Nat.le_refl _))) (Lib.hid (h.2.1.out.stays hb.out (Nat.le_refl _)))

theorem convB_step {w0 : World} {g2 c2 g3 c3 : Nat} {l2 l3 : List UInt8} {w w' : World} (n2 : l2.length = 1024) (n3 : l3.length = 1024) (h : Hid (Below w0.heap.size w0 w) ∧ ConvS g2 c2 g3 c3 l2 l3 w) (hb : Hid (Below w.heap.size w w')) : Hid (Below w0.heap.size w0 w') ∧ ConvS g2 c2 g3 c3 l2 l3 w' :=
  ⟨Lib.hid (h.1.out.trans (hb.out.mono h.1.out.size)), convS_step n2 n3 hb h.2⟩

theorem arenaOwns_walk (a1 a2 : Int) (w : World) (ha1 : (Lit.int .u8 a1).wf = true) (ha2 : (Lit.int .u8 a2).wf = true) :
    Calls Try.prog 3 #[.int .u8 a1, .int .u8 a2] w fun e w' => e = .returned (.bool true) ∧ Below w.heap.size w w' := by
  obtain ⟨x, rfl⟩ := byte_of ha1
  obtain ⟨y, rfl⟩ := byte_of ha2
  clear ha1 ha2
  go_enter Try.func3, Try.ntmps3
  go_wp2_with fail
  refine (awake_any w).mono ?_
  rintro e w1 ⟨rfl, hb0⟩
  have HB0 := Lib.hid hb0; clear hb0
  go_wp2_with fail
  refine (new_any 3 (by omega) (by omega) w1).mono ?_
  rintro e w2 ⟨rfl, hb, own, hA, -⟩
  have K1 : Hid (At w1.heap.size w1.heap.size ⟨[], [], 3⟩ w1 w2) := At.mk' hb (Nat.le_refl _) hA
  clear hb hA
  go_wp2_with fail
  refine (K1.out.new (okS _ _ _ (by simp) (by simp) (by simp) (by simp) (by omega)) (by decide) rfl).mono ?_
  rintro e w3 ⟨rfl, h2⟩
  have K2 := Lib.hid h2; clear h2
  go_wp2_with fail
  refine (K2.out.new (okS _ _ _ (by simp) (by simp) (by simp) (by simp) (by omega)) (by simp [ArS.left, ArS.used]) rfl).mono ?_
  rintro e w4 ⟨rfl, h2⟩
  have K3 := Lib.hid h2; clear h2
  go_wp2_with fail
  refine (bytes_any x 1024 (by omega) w4).mono ?_
  rintro e w5 ⟨rfl, hb, hblk⟩
  have K4 := Lib.hid (K3.out.news hb)
  have HB : Hid (w5.heap[w4.heap.size]? = some (.cells (bcells (full x)) 5)) := hblk
  have hsz4 := K3.out.below.size
  clear hb hblk
  go_wp2_with fail
  refine (K4.out.store (okS _ _ _ (by simp) (by simp) (by simp) (by simp) (by omega)) 1 (l := zpage) (by simp [ArS.page]) w4.heap.size 1024 (full x) (full_len x) HB.out).mono ?_
  rintro e w6 ⟨rfl, h2, hblk⟩
  have K5 : Hid (At w1.heap.size w1.heap.size ⟨[some (full x), some zpage], [], 3⟩ w1 w6) := h2
  have HB6 := Lib.hid hblk
  have hc0 : w6.cell? ⟨w4.heap.size, 0, none⟩ = some (.int .u8 (x.toNat : Int)) := (cell_of_block hblk 0).trans (full_at x 0 (by omega))
  have hf0 := free_of_block hblk 0
  have hl0 := lt_of_block hblk
  clear h2 hblk
  go_wp2_with fail
  obtain ⟨w7, hw7⟩ : ∃ w7, w7 = w6.setCell ⟨w4.heap.size, 0, none⟩ (.int .u8 (((x.toNat : Int) + 1) % 256)) := ⟨_, rfl⟩
  rw [← hw7]
  have K6 : Hid (At w1.heap.size w1.heap.size ⟨[some (full x), some zpage], [], 3⟩ w1 w7) := (by rw [hw7]; exact K5.out.poke HB6.out hsz4 0 _ : At w1.heap.size w1.heap.size ⟨[some (full x), some zpage], [], 3⟩ w1 w7)
  clear hw7
  refine (K6.out.load (okS _ _ _ (by simp) (by simp) (by simp) (by simp) (by omega)) 1 (l := full x) (by simp [ArS.page])).mono ?_
  rintro e w8 ⟨g1, c1, rfl, hat, hby, -, hge, -⟩
  have hlo1 := Nat.le_trans K6.out.below.size hge
  obtain ⟨hc1, hf1, hl1⟩ := hby.cell 1 (by rw [full_len]; omega)
  have K7 := Lib.hid hat
  have HY := Lib.hid hby
  clear hat hby hc0 hf0 hl0
  go_wp2_with fail
  obtain ⟨w9, hw9⟩ : ∃ w9, w9 = w8.setCell ⟨g1, 1, none⟩ (.int .u8 (((x.toNat : Int) + 1) % 256)) := ⟨_, rfl⟩
  rw [← hw9]
  have K8 : Hid (At w1.heap.size w1.heap.size ⟨[some (full x), some zpage], [], 3⟩ w1 w9) := (by rw [hw9]; exact K7.out.pokeB HY.out hlo1 1 _ : At w1.heap.size w1.heap.size ⟨[some (full x), some zpage], [], 3⟩ w1 w9)
  clear hw9 hc1 hf1 hl1
  refine (bytes_any y 1024 (by omega) w9).mono ?_
  rintro e w10 ⟨rfl, hb, hblk⟩
  have K9 := Lib.hid (K8.out.news hb)
  have HB10 : Hid (w10.heap[w9.heap.size]? = some (.cells (bcells (full y)) 5)) := hblk
  clear hb hblk
  go_wp2_with fail
  refine (K9.out.store (okS _ _ _ (by simp) (by simp) (by simp) (by simp) (by omega)) 2 (l := zpage) (by simp [ArS.page]) w9.heap.size 1024 (full y) (full_len y) HB10.out).mono ?_
  rintro e w11 ⟨rfl, h2, hblk⟩
  have K10 : Hid (At w1.heap.size w1.heap.size ⟨[some (full x), some (full y)], [], 3⟩ w1 w11) := h2
  clear h2 hblk
  go_wp2_with fail
  refine (K10.out.load (okS _ _ _ (by simp) (by simp) (by simp) (by simp) (by omega)) 1 (l := full x) (by simp [ArS.page])).mono ?_
  rintro e w12 ⟨g2, c2, rfl, hat, hby, -, -, -⟩
  have K11 := Lib.hid hat
  have HX := Lib.hid hby
  clear hat hby
  go_wp2_with fail
  refine (K11.out.load (okS _ _ _ (by simp) (by simp) (by simp) (by simp) (by omega)) 2 (l := full y) (by simp [ArS.page])).mono ?_
  rintro e w13 ⟨g3, c3, rfl, hat, hby, hb, -, -⟩
  have K12 := Lib.hid hat
  have HX1 := Lib.hid (HX.out.stays hb (Nat.le_refl _))
  have HY1 := Lib.hid hby
  clear hat hby hb
  go_wp2_with fail
  have hX : Hid (Bytes w13.drew g2 (full x)) := HX1.out
  have hY : Hid (Bytes w13.drew g3 (full y)) := HY1.out
  have n2 : Hid ((full x).length = 1024) := full_len x
  have n3 : Hid ((full y).length = 1024) := full_len y
  have HB13 : Hid (Below w.heap.size w w13.drew) := below_drewN (HB0.out.trans (K12.out.below.mono HB0.out.size)) 1
  go_region_held (fun w' => Hid (Below w.heap.size w w') ∧ ConvS g2 c2 g3 c3 (full x) (full y) w')
    (first
      | exact ⟨HB13, convS_mk n2.out n3.out hX hY⟩
      | assumption
      | exact convB_step n2.out n3.out ‹_› ‹_›)
    (first
      | (go_at_call_of 11 (Value.int .u8 (x.toNat : Int)); refine (bytes_any x 1024 (by omega) _).mono ?_; rintro e w' ⟨rfl, hb, hblk⟩; have v2 := (Bytes.of (l := full x) hblk).conv (full_len x) 1024; (try dsimp only [World.drew] at v2); have HBB := Lib.hid hb; clear hb hblk)
      | (go_at_call_of 11 (Value.int .u8 (y.toNat : Int)); refine (bytes_any y 1024 (by omega) _).mono ?_; rintro e w' ⟨rfl, hb, hblk⟩; have v2 := (Bytes.of (l := full y) hblk).conv (full_len y) 1024; (try dsimp only [World.drew] at v2); have HBB := Lib.hid hb; clear hb hblk))
  all_goals
    go_wp2_with fail
    go_ret
    rename_i HS
    exact ⟨rfl, HS.1.out⟩
end Go.Proofs.Ytmlgockejacjeaa
