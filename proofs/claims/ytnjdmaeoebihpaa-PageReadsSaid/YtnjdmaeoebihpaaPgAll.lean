/-
  A right node's page says the node; the document's Read; Decode and Read answer alike; the law PageReads. (XPgBack, XPgSpot, XPgRRead, XPgReads, XPgBoth in one: a claim has at most 60 files.)
-/
import Derived.Test.YtnjdmaeoebihpaaPgNodes
import Derived.Test.YtnjdmaeoebihpaaPgOpen
import Derived.Test.YtnjdmaeoebihpaaPgIn
import Derived.Laws.Closers25b
import Derived.Deep.RegionLaw
import Derived.Deep.RegionHeld
namespace Go.Proofs.Ytnjdmaeoebihpaa
open Go.RowKit Go.ChangeShapes Go.WideShapes Go.ChangeAt Go.Proofs.YtnjdmaeoebihpaaW.PrintWords Go.Proofs.YtnjdmaeoebihpaaW.PrintLast Go.Proofs.YtnjdmaeoebihpaaW.PrintMore
set_option linter.unusedVariables false
set_option linter.unusedSimpArgs false

theorem byteAt_mid (X Y : List UInt8) (b : UInt8) : byteAt (X ++ b :: Y) X.length = b.toNat := by
  simp [byteAt]
theorem two_mid (X Y : List UInt8) (n : Nat) (hn : n < 65536) {j : Nat} (hj : X.length = j) : two (X ++ (by2 n ++ Y)) j = n := by
  subst hj
  have h1 : byteAt (X ++ (by2 n ++ Y)) X.length = (UInt8.ofNat (n / 256)).toNat := byteAt_mid X _ _
  have h2 : byteAt (X ++ (by2 n ++ Y)) (X.length + 1) = (UInt8.ofNat (n % 256)).toNat := by
    have := byteAt_mid (X ++ [UInt8.ofNat (n / 256)]) Y (UInt8.ofNat (n % 256))
    rw [List.append_assoc, List.length_append] at this
    exact this
  rw [two, h1, h2]
  simp
  omega
theorem four_mid (X Y : List UInt8) (n : Nat) (hn : n < 65536) {j : Nat} (hj : X.length = j) : four (X ++ ((by2 0 ++ by2 n) ++ Y)) j = n := by
  have h1 : two (X ++ ((by2 0 ++ by2 n) ++ Y)) j = 0 := by
    rw [List.append_assoc]
    exact two_mid X _ 0 (by omega) hj
  have h2 : two (X ++ ((by2 0 ++ by2 n) ++ Y)) (j + 2) = n := by
    have e : X ++ ((by2 0 ++ by2 n) ++ Y) = (X ++ by2 0) ++ (by2 n ++ Y) := by simp only [List.append_assoc]
    rw [e]
    exact two_mid _ _ n hn (by rw [List.length_append, by2_len, hj])
  rw [four, h1, h2]
  omega
theorem kidsTo_split (ks : List Int) (m j : Nat) (hj : j < m) : ∃ R, kidsTo ks m = kidsTo ks j ++ ((by2 0 ++ by2 (kid ks j)) ++ R) := by
  induction m with
  | zero => omega
  | succ m ih =>
    by_cases h : j < m
    · obtain ⟨R, hR⟩ := ih h
      exact ⟨R ++ (by2 0 ++ by2 (kid ks m)), by rw [kidsTo, hR]; simp only [List.append_assoc]⟩
    · obtain rfl : j = m := by omega
      exact ⟨[], by rw [kidsTo, List.append_nil]⟩
theorem slotsTo_split (l : List ByteArray) (m j : Nat) (hj : j < m) : ∃ R, slotsTo l m = slotsTo l j ++ (by2 (1024 - (tailTo l (j + 1)).length) ++ (by2 (rec l j).size ++ R)) := by
  induction m with
  | zero => omega
  | succ m ih =>
    by_cases h : j < m
    · obtain ⟨R, hR⟩ := ih h
      refine ⟨R ++ (by2 (1024 - (tailTo l (m + 1)).length) ++ by2 (rec l m).size), ?_⟩
      rw [show slotsTo l (m + 1) = slotsTo l m ++ (by2 (1024 - (tailTo l (m + 1)).length) ++ by2 (rec l m).size) from rfl, hR]
      simp only [List.append_assoc]
    · obtain rfl : j = m := by omega
      exact ⟨[], by rw [List.append_nil]; rfl⟩
theorem tailTo_split (l : List ByteArray) (m j : Nat) (hj : j ≤ m) : ∃ R, tailTo l m = R ++ tailTo l j := by
  induction m with
  | zero =>
    obtain rfl : j = 0 := by omega
    exact ⟨[], rfl⟩
  | succ m ih =>
    by_cases h : j ≤ m
    · obtain ⟨R, hR⟩ := ih h
      exact ⟨(rec l m).data.toList ++ R, by rw [tailTo, hR, List.append_assoc]⟩
    · obtain rfl : j = m + 1 := by omega
      exact ⟨[], rfl⟩
theorem drop_take_mid (P R T : List UInt8) {a n : Nat} (ha : P.length = a) (hn : R.length = n) : ((P ++ (R ++ T)).drop a).take n = R := by
  subst ha hn
  rw [List.drop_left, List.take_left]
section
variable {leaf : Bool} {l : List ByteArray} {ks : List Int}
theorem page_head : byteAt (pageB leaf l ks) 0 = if leaf = true then 1 else 2 := by
  cases leaf <;> rfl
theorem page_cnt (hn : l.length < 65536) : cnt (pageB leaf l ks) = l.length := by
  have e : pageB leaf l ks = [if leaf = true then 1 else 2] ++ (by2 l.length ++ (kidsTo ks ks.length ++ (slotsTo l l.length ++ (List.replicate (1024 - sizeN l ks) 0 ++ tailTo l l.length)))) := by
    simp only [pageB, headB, List.append_assoc, List.cons_append, List.nil_append]
  rw [cnt, e]
  exact two_mid _ _ _ hn rfl
theorem page_four (j : Nat) (hj : j < ks.length) (hk : kid ks j < 65536) : four (pageB leaf l ks) (3 + 4 * j) = kid ks j := by
  obtain ⟨R, hR⟩ := kidsTo_split ks ks.length j hj
  have e : pageB leaf l ks = (headB leaf l ++ kidsTo ks j) ++ ((by2 0 ++ by2 (kid ks j)) ++ (R ++ (slotsTo l l.length ++ (List.replicate (1024 - sizeN l ks) 0 ++ tailTo l l.length)))) := by
    simp only [pageB, hR, List.append_assoc]
  rw [e]
  exact four_mid _ _ _ hk (by rw [List.length_append, kidsTo_len, headB, List.length_cons, by2_len])
theorem page_slot (hz : sizeN l ks ≤ 1024) (j : Nat) (hj : j < l.length) : two (pageB leaf l ks) (3 + 4 * ks.length + 4 * j) = 1024 - (tailTo l (j + 1)).length ∧ two (pageB leaf l ks) (3 + 4 * ks.length + 4 * j + 2) = (rec l j).size := by
  obtain ⟨R, hR⟩ := slotsTo_split l l.length j hj
  have htw := tailTo_weigh l (j + 1) (by omega)
  have htl : (tailTo l (j + 1)).length = (rec l j).size + (tailTo l j).length := by rw [tailTo, List.length_append, data_len]
  unfold sizeN at hz
  have hlen : (headB leaf l ++ kidsTo ks ks.length ++ slotsTo l j).length = 3 + 4 * ks.length + 4 * j := by
    rw [List.length_append, List.length_append, kidsTo_len, slotsTo_len, headB, List.length_cons, by2_len]
  have e : pageB leaf l ks = (headB leaf l ++ kidsTo ks ks.length ++ slotsTo l j) ++ (by2 (1024 - (tailTo l (j + 1)).length) ++ (by2 (rec l j).size ++ (R ++ (List.replicate (1024 - sizeN l ks) 0 ++ tailTo l l.length)))) := by
    simp only [pageB, hR, List.append_assoc]
  constructor
  · rw [e]
    exact two_mid _ _ _ (by omega) hlen
  · have e2 : pageB leaf l ks = (headB leaf l ++ kidsTo ks ks.length ++ slotsTo l j ++ by2 (1024 - (tailTo l (j + 1)).length)) ++ (by2 (rec l j).size ++ (R ++ (List.replicate (1024 - sizeN l ks) 0 ++ tailTo l l.length))) := by
      rw [e]; simp only [List.append_assoc]
    rw [e2]
    exact two_mid _ _ _ (by omega) (by rw [List.length_append, hlen, by2_len])
theorem page_txt (hz : sizeN l ks ≤ 1024) (j : Nat) (hj : j < l.length) : txt (pageB leaf l ks) (1024 - (tailTo l (j + 1)).length) (rec l j).size = rec l j := by
  obtain ⟨R, hR⟩ := tailTo_split l l.length (j + 1) (by omega)
  have hL := pageB_len leaf l ks hz
  have htl : (tailTo l (j + 1)).length = (rec l j).size + (tailTo l j).length := by rw [tailTo, List.length_append, data_len]
  have e : pageB leaf l ks = (headB leaf l ++ kidsTo ks ks.length ++ slotsTo l l.length ++ (List.replicate (1024 - sizeN l ks) 0 ++ R)) ++ ((rec l j).data.toList ++ tailTo l j) := by
    simp only [pageB, hR, tailTo, List.append_assoc]
  have hlen : (headB leaf l ++ kidsTo ks ks.length ++ slotsTo l l.length ++ (List.replicate (1024 - sizeN l ks) 0 ++ R)).length = 1024 - (tailTo l (j + 1)).length := by
    have h := congrArg List.length e
    rw [hL, List.length_append (bs := _ ++ tailTo l j), List.length_append (bs := tailTo l j), data_len] at h
    omega
  rw [txt, e, drop_take_mid _ _ _ hlen (data_len _)]
theorem back (leaf : Bool) (l : List ByteArray) (ks : List Int) (hs : Shp leaf l ks) (hz : sizeN l ks ≤ 1024) : Back leaf l ks := by
  have htw := tailTo_weigh l l.length (Nat.le_refl _)
  simp only [List.drop_length, weighN] at htw
  have hz' := hz
  unfold sizeN at hz'
  have hc : cnt (pageB leaf l ks) = l.length := page_cnt (by omega)
  have hl : lfOf (pageB leaf l ks) = leaf := by
    rw [lfOf, isLeaf, page_head]
    cases leaf <;> rfl
  have hkn : kidN (pageB leaf l ks) = ks.length := by
    have h := hs.len
    rw [kidN, page_head, hc]
    cases leaf with
    | true => exact h.symm
    | false => exact h.symm
  have hks : ∀ j, j ≤ ks.length → kidsR (pageB leaf l ks) j = ks.take j := by
    intro j
    induction j with
    | zero => intro _; rfl
    | succ j ih =>
      intro hj
      have h3 := hs.kids ks[j] (List.getElem_mem (by omega))
      have h2 : kid ks j = (ks[j]).toNat := by simp [kid, show j < ks.length by omega]
      rw [kidsR, ih (by omega), page_four j (by omega) (by omega), List.take_succ_eq_append_getElem (by omega)]
      congr 2
      omega
  have ha : at2 (pageB leaf l ks) = 3 + 4 * ks.length := by rw [at2, hkn]
  have hrs : ∀ j, j ≤ l.length → recsR (pageB leaf l ks) j = l.take j := by
    intro j
    induction j with
    | zero => intro _; rfl
    | succ j ih =>
      intro hj
      have hp := page_slot (leaf := leaf) hz j (by omega)
      rw [recsR, ih (by omega), ha, hp.1, hp.2, page_txt hz j (by omega), List.take_succ_eq_append_getElem (by omega)]
      congr 2
      simp [rec, show j < l.length by omega]
  have hlo : lsOf (pageB leaf l ks) = l := by rw [lsOf, hc, hrs _ (Nat.le_refl _), List.take_length]
  have hko : ksOf (pageB leaf l ks) = ks := by rw [ksOf, hkn, hks _ (Nat.le_refl _), List.take_length]
  refine ⟨⟨⟨?_, fun i hi => ?_⟩, by rw [hl, hlo, hko]; exact hs, by rw [hlo, hko]; exact hz, by rw [hl, hlo, hko]⟩, hl, hlo, hko⟩
  · rw [ha, hc]
    omega
  · rw [hc] at hi
    have hp := page_slot (leaf := leaf) hz i hi
    have htl : (tailTo l (i + 1)).length = (rec l i).size + (tailTo l i).length := by rw [tailTo, List.length_append, data_len]
    have htw2 := tailTo_weigh l (i + 1) (by omega)
    rw [ha, hp.1, hp.2]
    omega
end
theorem pageNodes_walk {H : Type} {enc : TypeId × Value → H} {sp0 : Nat → Bool} {hd0 : Bool} {d0 : DataW H} {p0 : List MemPlace} {b0 : Nat} (v0 : Value) (w : World)
    (hv0 : Value.okWide Try.prog w .any b0 25 v0) (h0 : DataW.Trod enc Try.prog w 0 sp0 hd0 25 v0 d0 p0) :
    Calls Try.prog 5 #[v0] w fun e w' => e = .returned (.bool true) ∧ Below w.heap.size w w' := by
  obtain ⟨leaf, A, c, l, B, d, ks, rfl, hr, -⟩ := open_node hv0 h0
  exact pageNodes_any leaf A c l B d ks w hr back
end Go.Proofs.Ytnjdmaeoebihpaa

namespace Go.Proofs.Ytnjdmaeoebihpaa
open Go.RowKit Go.ChangeShapes Go.WideShapes Go.ChangeAt Go.Proofs.YtnjdmaeoebihpaaW.PrintWords Go.Proofs.YtnjdmaeoebihpaaW.PrintLast Go.Proofs.YtnjdmaeoebihpaaW.PrintMore
set_option linter.unusedVariables false
set_option linter.unusedSimpArgs false

theorem byte_of {c : Int} (hc : (Lit.int .u8 c).wf = true) : ∃ b : UInt8, c = (b.toNat : Int) := by
  have h : 0 ≤ c ∧ c ≤ 255 := by
    simp [Lit.wf, IntKind.min, IntKind.max, IntKind.signed, IntKind.bits] at hc
    omega
  refine ⟨UInt8.ofNat c.toNat, ?_⟩
  rw [UInt8.toNat_ofNat']
  omega
theorem byte_in {c : Int} (h0 : 0 ≤ c) (h1 : c ≤ 255) : ∃ b : UInt8, c = (b.toNat : Int) := by
  refine ⟨UInt8.ofNat c.toNat, ?_⟩
  rw [UInt8.toNat_ofNat']
  omega
/-- A byte that is another one. -/
structure Spt where
  at_ : Int
  by_ : UInt8
def ReadsP (w : World) (A : Option Addr) (ops : List Spt) : Prop := ∀ (i : Nat) (o : Spt), ops[i]? = some o → ∃ b off, A = some ⟨b, off, none⟩ ∧ b < w.heap.size ∧ (Lit.int .i64 o.at_).wf = true ∧ w.cell? ⟨b, off + i * 2, none⟩ = some (.int .i64 o.at_) ∧ w.cell? ⟨b, off + i * 2 + 1, none⟩ = some (.int .u8 (o.by_.toNat : Int))
theorem ReadsP.below {w w' : World} {A : Option Addr} {l : List Spt} (h : ReadsP w A l) {k : Nat} (hb : Below k w w') (hk : w.heap.size ≤ k) : ReadsP w' A l := by
  intro i o ho
  obtain ⟨b, off, rfl, hl, k0, c0, c1⟩ := h i o ho
  have h1 := hb.block b (by omega)
  have h2 := hb.size
  have hc := fun j => World.cell?_of_block (w := w) (a := ⟨b, j, none⟩) h1
  exact ⟨b, off, rfl, by omega, k0, (hc _).trans c0, (hc _).trans c1⟩
section
variable {H : Type} {enc : TypeId × Value → H} {w : World} {sp : Nat → Bool} {hd : Bool}
theorem elem_spot {b o : Nat} (h : ElemAt enc Try.prog w sp hd 51 b o) : ∃ c : Spt, (Lit.int .i64 c.at_).wf = true ∧ w.cell? ⟨b, o, none⟩ = some (.int .i64 c.at_) ∧ w.cell? ⟨b, o + 1, none⟩ = some (.int .u8 (c.by_.toNat : Int)) := by
  obtain ⟨cs, n, x, hl, hc, ht⟩ := h
  have h4 : Try.prog.cellsOf 51 = 2 := by kernel_rfl
  rw [h4] at hl hc
  match cs, hl with
  | [c0, c1], _ =>
    obtain ⟨xs, m, _, _, _, hxl, hf⟩ := DataW.trod_struct Try.underlying51 ht
    match xs, hxl with
    | [y0, y1], _ =>
      have k1 : Try.prog.cellsOf 3 = 1 := by kernel_rfl
      have k2 : Try.prog.cellsOf 5 = 1 := by kernel_rfl
      have f0 := hf 0 _ rfl
      have f1 := hf 1 _ rfl
      simp [k1, k2] at f0 f1
      obtain ⟨i0, e0, _, m0⟩ := DataW.trod_int Try.underlying3 f0
      obtain ⟨i3, e3, _, m3⟩ := DataW.trod_int Try.underlying5 f1
      simp at e0 e3
      subst e0 e3
      obtain ⟨by3, rfl⟩ := byte_of m3
      exact ⟨⟨i0, by3⟩, m0, hc 0 (by omega), hc 1 (by omega)⟩
theorem open_spots {v : Value} {d : DataW H} {p : List MemPlace} {base : Nat} (hv : Value.okWide Try.prog w .any base 48 v) (h : DataW.Trod enc Try.prog w 0 sp hd 48 v d p) :
    ∃ A cap, ∃ vs : List Spt, v = .slice A vs.length cap ∧ ReadsP w A vs := by
  obtain ⟨a, len, cap, rfl⟩ := okWide_slice Try.underlying48 hv
  obtain ⟨fuel, hf⟩ := h
  have k4 : Try.prog.cellsOf 51 = 2 := by kernel_rfl
  rcases slice_cells Try.underlying48 (by rw [k4]; omega) hf with ⟨rfl, rfl, rfl⟩ | ⟨_, _, ad, rfl, hi⟩
  · exact ⟨_, _, [], rfl, fun i c hc => by simp at hc⟩
  · obtain ⟨cs, hl, hp⟩ := list_of (p := fun i (o : Spt) => ∃ b off, some ad = some ⟨b, off, none⟩ ∧ b < w.heap.size ∧ (Lit.int .i64 o.at_).wf = true ∧ w.cell? ⟨b, off + i * 2, none⟩ = some (.int .i64 o.at_) ∧ w.cell? ⟨b, off + i * 2 + 1, none⟩ = some (.int .u8 (o.by_.toNat : Int))) (fun i hlt => by
      obtain ⟨b, off, rfl, hb, he⟩ := hi i hlt
      rw [k4] at he
      obtain ⟨c, h1⟩ := elem_spot he
      exact ⟨c, b, off, rfl, hb, h1⟩)
    subst hl
    exact ⟨_, _, cs, rfl, hp⟩
end
/-- A byte of a page is another one. -/
theorem page_set {w : World} {bb j : Nat} {bs : List UInt8} (h : w.heap[bb]? = some (.cells (bc bs).toArray 5)) (z : UInt8) :
    (w.setCell ⟨bb, j, none⟩ (.int .u8 (z.toNat : Int))).heap[bb]? = some (.cells (bc (bs.set j z)).toArray 5) := by
  have h1 := blk_set h j (.int .u8 (z.toNat : Int))
  rw [List.setIfInBounds_toArray] at h1
  rw [h1]
  simp [bc, List.map_set]
end Go.Proofs.Ytnjdmaeoebihpaa

namespace Go.Proofs.Ytnjdmaeoebihpaa
open Go.RowKit Go.Proofs.YtnjdmaeoebihpaaW.PrintWords Go.Proofs.YtnjdmaeoebihpaaW.PrintLast Go.Proofs.YtnjdmaeoebihpaaW.PrintMore
set_option linter.unusedVariables false
set_option linter.unusedSimpArgs false

/-- The document's read under way. -/
structure Rr (w wr : World) (bb : Nat) (bs : List UInt8) (lf : Bool) (A : Option Addr) (c : Nat) (l : List ByteArray) (B : Option Addr) (d : Nat) (ks : List Int) : Prop where
  low : Below w.heap.size w wr
  hbb : ∃ fr, wr.heap[bb]? = some (.cells (bc bs).toArray 5 fr)
  var : wr.heap[w.heap.size]? = some (.cells #[.bool false, .slice none 0 0, .slice none 0 0] 29)
  nod : wr.heap[w.heap.size + 1]? = some (.cells #[.bool lf, .slice A l.length c, .slice B ks.length d] 29)
  recs : OwnS wr (w.heap.size + 2) A c l
  kids : OwnI wr (w.heap.size + 2) B d ks
theorem hbb_frm {T : TypeId → Prop} {base bb : Nat} {wr w' : World} {bs : List UInt8} (h : ∃ fr, wr.heap[bb]? = some (.cells (bc bs).toArray 5 fr)) (hf : Frm T base wr w') (h2 : ¬ T 5) : ∃ fr, w'.heap[bb]? = some (.cells (bc bs).toArray 5 fr) := by
  obtain ⟨fr, hb⟩ := h
  exact ⟨fr, hf.blk hb h2⟩
section
variable {w wr w' : World} {bb : Nat} {bs : List UInt8} {lf : Bool} {A : Option Addr} {c : Nat} {l : List ByteArray} {B : Option Addr} {d : Nat} {ks : List Int}
theorem Rr.size (h : Rr w wr bb bs lf A c l B d ks) : w.heap.size + 2 ≤ wr.heap.size := by have := lt_of_block h.nod; omega
theorem Rr.below (h : Rr w wr bb bs lf A c l B d ks) (hb : Below wr.heap.size wr w') : Rr w w' bb bs lf A c l B d ks := by
  have hs := h.size
  refine ⟨h.low.trans (hb.mono (by omega)), ?_, (hb.block _ (by omega)).trans h.var, (hb.block _ (by omega)).trans h.nod, owns_below h.recs hb (Nat.le_refl _), owns_below h.kids hb (Nat.le_refl _)⟩
  obtain ⟨fr, h2⟩ := h.hbb
  exact ⟨fr, (hb.block _ (lt_of_block h2)).trans h2⟩
theorem Rr.drewN (h : Rr w wr bb bs lf A c l B d ks) (n : Nat) : Rr w (wr.drewN n) bb bs lf A c l B d ks := h.below (below_drewN (Below.refl _ _) n)
theorem Rr.drew (h : Rr w wr bb bs lf A c l B d ks) : Rr w wr.drew bb bs lf A c l B d ks := h.below (below_drewN (Below.refl _ _) 1)
theorem Rr.c3 (h : Rr w wr bb bs lf A c l B d ks) : C3 wr (w.heap.size + 1) lf A l.length c B ks.length d := ⟨(cell_of_block h.nod 0).trans rfl, (cell_of_block h.nod 1).trans rfl, (cell_of_block h.nod 2).trans rfl⟩
theorem Rr.rd (h : Rr w wr bb bs lf A c l B d ks) : RdN wr A c l B d ks := ⟨h.recs.reads.1, h.kids.reads.1, h.recs.reads.2, h.kids.reads.2⟩
theorem Rr.pushKid (h : Rr w wr bb bs lf A c l B d ks) {B' : Option Addr} {d' : Nat} {k : Int} {w2 : World} (ho : w2.ownsRow (w.heap.size + 2) 3 1 (.slice B' (ks.length + 1) d') (ks.length + 1) (icl ks ++ [.int .i64 k])) (hg : (wr.alloc (.cells #[.int .i64 k] 3)).grownBy w2 (Value.slice B ks.length d).ownBlock) :
    Rr w (w2.setCell ⟨w.heap.size + 1, 2, none⟩ (.slice B' (ks.length + 1) d')) bb bs lf A c l B' d' (ks ++ [k]) ∧ w2.heap[w.heap.size + 1]? = some (.cells #[.bool lf, .slice A l.length c, .slice B ks.length d] 29) := by
  have hs := h.size
  have hal : (wr.alloc (.cells #[.int .i64 k] 3)).ownsRow (w.heap.size + 2) 3 1 (.slice B ks.length d) ks.length (icl ks) := h.kids.alloc _
  have hF1 : Frm (fun t => t = 3) w.heap.size wr w2 := ((Frm.refl _ _ wr).alloc (by omega) _).trans (Frm.grownOwn (owns_up hal (by omega)) hg rfl (by rw [heap_alloc_size]; omega))
  have hn2 := hF1.blk h.nod (by decide)
  have hF2 : Frm (fun t => t = 29) w.heap.size w2 (w2.setCell ⟨w.heap.size + 1, 2, none⟩ (.slice B' (ks.length + 1) d')) := Frm.setCell (T := fun t => t = 29) hn2 rfl (by omega) 2 _
  have e : (ks ++ [k]).length = ks.length + 1 := by simp
  refine ⟨⟨(h.low.trans hF1.low).trans hF2.low, hbb_frm (hbb_frm h.hbb hF1 (by decide)) hF2 (by decide), blk_set_ne (hF1.blk h.var (by decide)) _ _ (by omega), ?_, hF2.owns (hF1.owns h.recs (by decide)) (by decide), ?_⟩, hn2⟩
  · rw [e]
    exact blk_set hn2 2 _
  · have h5 := hF2.owns ho (by decide)
    rw [OwnI, e, show icl (ks ++ [k]) = icl ks ++ [.int .i64 k] by simp [icl]]
    exact h5
theorem Rr.pushRec (h : Rr w wr bb bs lf A c l B d ks) {A' : Option Addr} {c' : Nat} {k : ByteArray} {w2 : World} (ho : w2.ownsRow (w.heap.size + 2) 9 1 (.slice A' (l.length + 1) c') (l.length + 1) (scl l ++ [.string k])) (hg : (wr.alloc (.cells #[.string k] 9)).grownBy w2 (Value.slice A l.length c).ownBlock) :
    Rr w (w2.setCell ⟨w.heap.size + 1, 1, none⟩ (.slice A' (l.length + 1) c')) bb bs lf A' c' (l ++ [k]) B d ks ∧ w2.heap[w.heap.size + 1]? = some (.cells #[.bool lf, .slice A l.length c, .slice B ks.length d] 29) := by
  have hs := h.size
  have hal : (wr.alloc (.cells #[.string k] 9)).ownsRow (w.heap.size + 2) 9 1 (.slice A l.length c) l.length (scl l) := h.recs.alloc _
  have hF1 : Frm (fun t => t = 9) w.heap.size wr w2 := ((Frm.refl _ _ wr).alloc (by omega) _).trans (Frm.grownOwn (owns_up hal (by omega)) hg rfl (by rw [heap_alloc_size]; omega))
  have hn2 := hF1.blk h.nod (by decide)
  have hF2 : Frm (fun t => t = 29) w.heap.size w2 (w2.setCell ⟨w.heap.size + 1, 1, none⟩ (.slice A' (l.length + 1) c')) := Frm.setCell (T := fun t => t = 29) hn2 rfl (by omega) 1 _
  have e : (l ++ [k]).length = l.length + 1 := by simp
  refine ⟨⟨(h.low.trans hF1.low).trans hF2.low, hbb_frm (hbb_frm h.hbb hF1 (by decide)) hF2 (by decide), blk_set_ne (hF1.blk h.var (by decide)) _ _ (by omega), ?_, ?_, hF2.owns (hF1.owns h.kids (by decide)) (by decide)⟩, hn2⟩
  · rw [e]
    exact blk_set hn2 1 _
  · have h5 := hF2.owns ho (by decide)
    rw [OwnS, e, show scl (l ++ [k]) = scl l ++ [.string k] by simp [scl]]
    exact h5
end
/-- So many bytes' number. -/
def numN (bs : List UInt8) (a : Nat) : Nat → Nat
  | 0 => 0
  | m + 1 => numN bs a m * 256 + byteAt bs (a + m)
theorem numN_lt (bs : List UInt8) (a m : Nat) (hm : m ≤ 4) : numN bs a m < 256 ^ m := by
  induction m with
  | zero => exact Nat.one_pos
  | succ m ih =>
    have h1 := ih (by omega)
    have h2 := byteAt_lt bs (a + m)
    rw [Nat.pow_succ, numN]
    omega
theorem numN_four (bs : List UInt8) (a : Nat) : numN bs a 4 = four bs a := by
  simp only [numN, four, two, Nat.add_zero, Nat.zero_mul, Nat.zero_add]
  rw [show a + 2 + 1 = a + 3 from rfl]
  omega
def RReadIs (bs : List UInt8) (w : World) (e : Ending) (w' : World) : Prop :=
  (Good bs ∧ ∃ A c B d, e = .returned (.tuple #[.agg #[.bool (lfOf bs), .slice A (lsOf bs).length c, .slice B (ksOf bs).length d], .bool true]) ∧ RdN w' A c (lsOf bs) B d (ksOf bs) ∧ Below w.heap.size w w') ∨
  (¬ Good bs ∧ e = .returned (.tuple #[.agg #[.bool false, .slice none 0 0, .slice none 0 0], .bool false]) ∧ Below w.heap.size w w')
theorem good_first {bs : List UInt8} (h : Good bs) : byteAt bs 0 = 1 ∨ byteAt bs 0 = 2 := by
  have := page_head (leaf := lfOf bs) (l := lsOf bs) (ks := ksOf bs)
  rw [h.page] at this
  rw [this]
  split <;> simp
/-- The result's box is made nothing anew. -/
theorem zero_again {w wr : World} {g : Nat} (h : wr.heap[g]? = some (.cells #[.bool false, .slice none 0 0, .slice none 0 0] 29)) (hg : w.heap.size ≤ g) :
    (((wr.setCell ⟨g, 0, none⟩ (.bool false)).setCell ⟨g, 1, none⟩ (.slice none 0 0)).setCell ⟨g, 2, none⟩ (.slice none 0 0)).heap[g]? = some (.cells #[.bool false, .slice none 0 0, .slice none 0 0] 29) ∧ Below w.heap.size wr (((wr.setCell ⟨g, 0, none⟩ (.bool false)).setCell ⟨g, 1, none⟩ (.slice none 0 0)).setCell ⟨g, 2, none⟩ (.slice none 0 0)) :=
  ⟨s3_self h _ _ _, (s3_frm h hg _ _ _).low⟩
theorem bytes_conv {w : World} {bb cap : Nat} {bs : List UInt8} (h : ∃ fr, w.heap[bb]? = some (.cells (bc bs).toArray 5 fr)) (hlen : bs.length = 1024) {bx : ByteArray} (hb : ⟨bs.toArray⟩ = bx) :
    (convert 39 9 (.slice (some ⟨bb, 0, none⟩) 1024 cap)).run Try.prog w = .ok (.string bx) w := by
  obtain ⟨fr, h⟩ := h
  rw [← hb]
  exact conv_from (c := cap) h (off := 0) bs hlen (fun j hj => by rw [Nat.zero_add]; exact List.getElem?_eq_getElem hj)
def RNo : Value := .tuple #[.agg #[.bool false, .slice none 0 0, .slice none 0 0], .bool false]

set_option maxRecDepth 100000 in
set_option maxHeartbeats 8000000 in
theorem rread_any (bb cap : Nat) (bs : List UInt8) (w : World) (hbb : ∃ fr, w.heap[bb]? = some (.cells (bc bs).toArray 5 fr)) (hlen : bs.length = 1024) (hcap : 1024 ≤ cap) :
    Calls Try.prog 24 #[.slice (some ⟨bb, 0, none⟩) 1024 cap] w (RReadIs bs w) := by
  have hbl : bb < w.heap.size := by obtain ⟨fr, h⟩ := hbb; exact lt_of_block h
  have HBB := Lib.hid hbb
  have HLEN := Lib.hid hlen
  clear hbb hlen
  go_enter Try.func24, Try.ntmps24
  go_upto_region 1 with (fail)
  have hV := heap_alloc_new w (.cells #[.bool false, .slice none 0 0, .slice none 0 0] 29)
  have hB1 : Below w.heap.size w (w.alloc (.cells #[.bool false, .slice none 0 0, .slice none 0 0] 29)) := (Below.refl _ _).alloc (Nat.le_refl _) _
  have hS1 : (w.alloc (.cells #[.bool false, .slice none 0 0, .slice none 0 0] 29)).heap.size = w.heap.size + 1 := heap_alloc_size _ _
  obtain ⟨w1, hw1⟩ : ∃ w1, w1 = w.alloc (.cells #[.bool false, .slice none 0 0, .slice none 0 0] 29) := ⟨_, rfl⟩
  rw [← hw1] at hV hB1 hS1 ⊢
  clear hw1
  have HV1 := Lib.hid hV
  have HB1 := Lib.hid hB1
  have HS1 := Lib.hid hS1
  have HBB1 : Hid (∃ fr, w1.heap[bb]? = some (.cells (bc bs).toArray 5 fr)) := (by
    obtain ⟨fr, h⟩ := HBB.out
    exact ⟨fr, (hB1.block _ hbl).trans h⟩ : ∃ fr, w1.heap[bb]? = some (.cells (bc bs).toArray 5 fr))
  clear hV hB1 hS1
  have hc0 := byte_cell HBB1.out 0 (by have := HLEN.out; omega)
  have hl0 := byteAt_lt bs 0
  obtain ⟨b0, hb0⟩ : ∃ b0, byteAt bs 0 = b0 := ⟨_, rfl⟩
  rw [hb0] at hc0 hl0
  have HB0 := Lib.hid hb0
  clear hb0
  obtain ⟨nb, hnb⟩ : ∃ nb, nb = decide (b0 ≠ 1 ∧ b0 ≠ 2) := ⟨_, rfl⟩
  have HNB := Lib.hid hnb
  clear hnb
  go_cut [27] (fun v wc => v = .bool nb ∧ wc = w1)
  case first =>
    by_cases h1 : b0 = 1
    · obtain rfl : nb = false := (by rw [HNB.out]; exact decide_eq_false (by omega))
      have e1 : ((b0 : Int) != 1) = false := bne_eq_false_iff_eq.2 (by omega)
      clear HB0 HNB h1
      go_wp2_with fail
      go_meet
      exact ⟨rfl, rfl⟩
    · have e1 : ((b0 : Int) != 1) = true := bne_iff_ne.2 (by omega)
      by_cases h2 : b0 = 2
      · obtain rfl : nb = false := (by rw [HNB.out]; exact decide_eq_false (by omega))
        have e2 : ((b0 : Int) != 2) = false := bne_eq_false_iff_eq.2 (by omega)
        clear HB0 HNB h1 h2
        go_wp2_with fail
        go_meet
        exact ⟨rfl, rfl⟩
      · obtain rfl : nb = true := (by rw [HNB.out]; exact decide_eq_true (by omega))
        have e2 : ((b0 : Int) != 2) = true := bne_iff_ne.2 (by omega)
        clear HB0 HNB h1 h2
        go_wp2_with fail
        go_meet
        exact ⟨rfl, rfl⟩
  case rest =>
    obtain ⟨rfl, rfl⟩ := hcut
    cases nb with
    | true =>
      obtain ⟨v0, v1, v2, vf0, vf1, vf2, vl⟩ := three_of_block HV1.out
      have HNG : Hid (¬ Good bs) := (fun h => by
        have h1 := good_first h
        rw [HB0.out] at h1
        have h2 := of_decide_eq_true HNB.out.symm
        omega : ¬ Good bs)
      go_wp2_with fail
      obtain ⟨hE, hF⟩ := zero_again HV1.out (Nat.le_refl w.heap.size)
      obtain ⟨q0, q1, q2, -, -, -, -⟩ := three_of_block hE
      refine bodyPost_ret (v := RNo) (by simp [RNo, results, Try.results24, go_sem, q0, q1, q2]) rfl ?_
      exact .inr ⟨HNG.out, rfl, HB1.out.trans hF⟩
    | false =>
      have h12 : b0 = 1 ∨ b0 = 2 := by
        have h2 := of_decide_eq_false HNB.out.symm
        omega
      go_upto_region 4 with (fail)
      obtain ⟨lf, hlf⟩ : ∃ lf, lf = ((b0 : Int) == (1 : Int)) := ⟨_, rfl⟩
      have hR : Rr w (wc.alloc (.cells #[.bool ((b0 : Int) == (1 : Int)), .slice none 0 0, .slice none 0 0] 29)) bb bs ((b0 : Int) == (1 : Int)) none 0 [] none 0 [] := by
        refine ⟨HB1.out.alloc (by rw [HS1.out]; omega) _, ?_, blk_alloc HV1.out _, heap_alloc_at _ _ _ HS1.out.symm, World.ownsRow_nil _ _ _ _, World.ownsRow_nil _ _ _ _⟩
        obtain ⟨fr, h⟩ := HBB1.out
        exact ⟨fr, blk_alloc h _⟩
      obtain ⟨w3, hw3⟩ : ∃ w3, w3 = (wc.alloc (.cells #[.bool ((b0 : Int) == (1 : Int)), .slice none 0 0, .slice none 0 0] 29)) := ⟨_, rfl⟩
      rw [← hw3] at hR ⊢
      rw [HS1.out]
      rw [← hlf] at hR ⊢
      clear hw3 hc0
      have HLF : Hid (isLeaf bs = lf) := (by
        rw [hlf, isLeaf, HB0.out, Bool.eq_iff_iff]
        simp
        omega : isLeaf bs = lf)
      have HKN : Hid (kidN bs = if lf = true then 0 else cnt bs + 1) := (by
        rw [kidN, HB0.out, hlf]
        rcases h12 with rfl | rfl
        · rfl
        · rfl : kidN bs = if lf = true then 0 else cnt bs + 1)
      have HR3 := Lib.hid hR
      have c1 := byte_cell hR.hbb 1 (by have := HLEN.out; omega)
      have c2 := byte_cell hR.hbb 2 (by have := HLEN.out; omega)
      have l1 := byteAt_lt bs 1
      have l2 := byteAt_lt bs 2
      have HN : Hid (cnt bs = byteAt bs 1 * 256 + byteAt bs 2) := rfl
      obtain ⟨b1, hb1⟩ : ∃ b1, byteAt bs 1 = b1 := ⟨_, rfl⟩
      obtain ⟨b2, hb2⟩ : ∃ b2, byteAt bs 2 = b2 := ⟨_, rfl⟩
      rw [hb1] at c1 l1 HN
      rw [hb2] at c2 l2 HN
      have x1 : IntKind.i64.wrap ((b1 : Int) * 256) = (b1 : Int) * 256 := IntWalk.i64_in _ (by omega)
      have x2 : IntKind.i64.wrap ((b1 : Int) * 256 + (b2 : Int)) = (b1 : Int) * 256 + (b2 : Int) := IntWalk.i64_in _ (by omega)
      have x3 : IntKind.i64.wrap (b1 : Int) = (b1 : Int) := IntWalk.i64_in _ (by omega)
      have x4 : IntKind.i64.wrap (b2 : Int) = (b2 : Int) := IntWalk.i64_in _ (by omega)
      have x5 : (1 : Int) < 1024 := by omega
      have x6 : (2 : Int) < 1024 := by omega
      clear hR hlf hb1 hb2 h12 HNB HB0 HV1 HB1 HS1 HBB1 hl0
      go_quiet (fail)
      obtain ⟨n, hn⟩ : ∃ n, b1 * 256 + b2 = n := ⟨_, rfl⟩
      have hn6 : n < 65536 := by omega
      rw [hn] at HN
      rw [show (b1 : Int) * 256 + (b2 : Int) = (n : Int) by omega]
      clear c1 c2 x1 x2 x3 x4 x5 x6 hn l1 l2
      have HR4 := Lib.hid (HR3.out.drewN nq)
      obtain ⟨w4, hw4⟩ : ∃ w4, w4 = w3.drewN nq := ⟨_, rfl⟩
      rw [← hw4] at HR4 ⊢
      clear hw4 HR3
      obtain ⟨m0, m1, m2, mf0, mf1, mf2, ml⟩ := three_of_block HR4.out.nod
      go_upto_if 46 with (fail)
      go_cut [6] (fun v wc => ∃ B d a, v = .int .i64 ((a : Nat) : Int) ∧ Hid (a = at2 bs) ∧ a ≤ 1024 ∧ Hid (Rr w wc bb bs lf none 0 [] B d (kidsR bs (kidN bs))))
      case first =>
        cases lf with
        | true =>
          have HK : Hid (kidN bs = 0) := HKN.out
          go_wp2_with fail
          go_meet
          exact ⟨none, 0, 3, rfl, Lib.hid (by rw [at2, HK.out]), by omega, Lib.hid (by rw [HK.out]; exact HR4.out)⟩
        | false =>
          have HK : Hid (kidN bs = n + 1) := (by rw [← HN.out]; exact HKN.out : kidN bs = n + 1)
          go_wp2_with fail
          clear m0 m1 m2 mf0 mf1 mf2 ml
          go_loopg [6, 7] (n + 1) (fun g at_ i wr => ∃ (j : Nat) (B : Option Addr) (d a : Nat), j ≤ n + 1 ∧ g = n + 1 - j ∧ at_ = .int .i64 ((a : Nat) : Int) ∧ i = .int .i64 j ∧ Hid (a = 3 + 4 * j) ∧ a ≤ 1024 ∧ Hid (Rr w wr bb bs false none 0 [] B d (kidsR bs j)))
          case atStart => exact ⟨0, none, 0, 3, by omega, by omega, rfl, rfl, Lib.hid rfl, by omega, HR4⟩
          case round =>
            clear HR4
            obtain ⟨j, B, d, a, hj, hg, rfl, rfl, HA, ha, HR⟩ := hrel
            by_cases hlt : j < n + 1
            · have hlt2 : (j : Int) ≤ (n : Int) := by omega
              by_cases hfit : a + 4 ≤ 1024
              · have hfit2 : ¬ (1024 : Int) < (a : Int) + 4 := by omega
                have hfit3 : ¬ (a : Int) + 4 > 1024 := by omega
                go_wp2_with fail
                go_loopg [8, 9] 4 (fun g k i wi => ∃ (m kv : Nat), m ≤ 4 ∧ g = 4 - m ∧ k = .int .i64 ((kv : Nat) : Int) ∧ i = .int .i64 m ∧ Hid (kv = numN bs a m) ∧ wi = wr)
                case atStart => exact ⟨0, 0, by omega, by omega, rfl, rfl, Lib.hid rfl, rfl⟩
                case round =>
                  obtain ⟨m, kv, hm, hg4, rfl, rfl, HKV, rfl⟩ := hrel
                  by_cases hm4 : m < 4
                  · have hm2 : (m : Int) < 4 := by omega
                    have hkv : kv < 256 ^ m := by rw [HKV.out]; exact numN_lt bs a m hm
                    have hkv2 : kv < 16777216 := by
                      have : 256 ^ m ≤ 256 ^ 3 := Nat.pow_le_pow_right (by omega) (by omega)
                      omega
                    have cm := byte_cell HR.out.hbb (a + m) (by have := HLEN.out; omega)
                    have lm := byteAt_lt bs (a + m)
                    have HNX : Hid (numN bs a (m + 1) = kv * 256 + byteAt bs (a + m)) := (by rw [numN, HKV.out] : numN bs a (m + 1) = kv * 256 + byteAt bs (a + m))
                    obtain ⟨q, hq⟩ : ∃ q, byteAt bs (a + m) = q := ⟨_, rfl⟩
                    rw [hq] at cm lm HNX
                    obtain ⟨am, ham⟩ : ∃ am, a + m = am := ⟨_, rfl⟩
                    have ham2 : (a : Int) + (m : Int) = (am : Int) := by omega
                    have ham3 : (am : Int) < 1024 := by omega
                    have ham4 : am < 1024 := by omega
                    rw [ham] at cm
                    clear hq ham hkv
                    go_wp2_with fail
                    go_roundg (4 - (m + 1))
                    case measure => omega
                    case rel => exact ⟨m + 1, kv * 256 + q, by omega, rfl, by go_num, by go_num, HNX.out.symm, rfl⟩
                  · have hm2 : ¬ (m : Int) < 4 := by omega
                    obtain rfl : m = 4 := by omega
                    have hkv : kv < 4294967296 := by rw [HKV.out]; exact numN_lt bs a 4 hm
                    have HKF : Hid ((four bs (3 + 4 * j)) = kv) := (by rw [HKV.out, numN_four, HA.out] : (four bs (3 + 4 * j)) = kv)
                    obtain ⟨i0, EI⟩ := elt_I
                    obtain ⟨m0, m1, m2, mf0, mf1, mf2, ml⟩ := three_of_block HR.out.nod
                    have hkl := kidsR_len bs j
                    rw [hkl] at m2
                    have HKL := Lib.hid hkl
                    clear hkl m0 m1 mf0 mf1
                    have hHO := HR.out.kids
                    rw [OwnI, HKL.out] at hHO
                    have HO := Lib.hid hHO
                    have HSZ := HR.out.size
                    clear hHO
                    go_wp2_with (at_builtin; refine step_push EI rfl _ _ rfl HO.out rfl #[.int .i64 kv] rfl rfl rfl (fun u hu => (by obtain rfl : u = .int .i64 kv := (by simpa using hu); rfl)) (by omega) (by omega) ?_; intro A3 c3 w3 ho hg; have hP := HR.out.pushKid (B' := A3) (d' := c3) (k := (kv : Int)) (w2 := w3) (by rw [HKL.out]; exact ho) (by rw [HKL.out]; exact hg); rw [HKL.out] at hP; have HP := Lib.hid hP.1; obtain ⟨-, -, q2, -, -, qf2, ql⟩ := three_of_block hP.2; clear ho hg hP)
                    go_roundg (n + 1 - (j + 1))
                    case measure => omega
                    case rel =>
                      refine ⟨j + 1, A3, c3, a + 4, by omega, rfl, by go_num, by go_num, Lib.hid (by have := HA.out; omega), by omega, Lib.hid ?_⟩
                      rw [kidsR, HKF.out]
                      exact HP.out
              · have hfit2 : (1024 : Int) < (a : Int) + 4 := by omega
                have hfit3 : (a : Int) + 4 > 1024 := by omega
                have HNG : Hid (¬ Good bs) := (fun h => by
                  have h1 := h.fits.slots
                  unfold at2 at h1
                  rw [HK.out, HN.out] at h1
                  have := HA.out
                  omega : ¬ Good bs)
                obtain ⟨v0, v1, v2, vf0, vf1, vf2, vl⟩ := three_of_block HR.out.var
                go_wp2_with fail
                obtain ⟨hE, hF⟩ := zero_again HR.out.var (Nat.le_refl w.heap.size)
                obtain ⟨q0, q1, q2, -, -, -, -⟩ := three_of_block hE
                refine bodyPost_ret (v := RNo) (by simp [RNo, results, Try.results24, go_sem, q0, q1, q2]) rfl ?_
                exact .inr ⟨HNG.out, rfl, HR.out.low.trans hF⟩
            · have hlt2 : ¬ (j : Int) ≤ (n : Int) := by omega
              have HJ : Hid (j = n + 1) := (by omega : j = n + 1)
              clear hlt hj hg
              go_wp2_with fail
              go_meet
              refine ⟨B, d, a, rfl, ?_, ha, ?_⟩
              · exact Lib.hid (by rw [at2, HK.out, HA.out, HJ.out])
              · refine Lib.hid ?_
                have h := HR.out
                rw [HJ.out] at h
                rw [HK.out]
                exact h
      case rest =>
        obtain ⟨B, d, a2, rfl, HAT, hal, HRk⟩ := hcut
        obtain ⟨KS, hKS⟩ : ∃ KS, kidsR bs (kidN bs) = KS := ⟨_, rfl⟩
        have HKS := Lib.hid hKS
        rw [hKS] at HRk
        clear hKS HR4 m0 m1 m2 mf0 mf1 mf2 ml
        go_wp2_with fail
        go_loopg [6, 10] n (fun g at_ i wr => ∃ (j : Nat) (A : Option Addr) (c a : Nat), j ≤ n ∧ g = n - j ∧ at_ = .int .i64 ((a : Nat) : Int) ∧ i = .int .i64 j ∧ Hid (a = a2 + 4 * j) ∧ a ≤ 1024 ∧ Hid (∀ m, m < j → two bs (a2 + 4 * m) + two bs (a2 + 4 * m + 2) ≤ 1024) ∧ Hid (Rr w wr bb bs lf A c (recsR bs j) B d KS))
        case atStart => exact ⟨0, none, 0, a2, by omega, by omega, rfl, rfl, Lib.hid (by omega), hal, Lib.hid (fun m h => absurd h (Nat.not_lt_zero _)), HRk⟩
        case round =>
          clear HRk
          obtain ⟨j, A, c, a, hj, hg, rfl, rfl, HA, hja, HEA, HRj⟩ := hrel
          by_cases hlt : j < n
          · have hlt2 : (j : Int) < (n : Int) := by omega
            by_cases hfit : a + 4 ≤ 1024
            · have hfit2 : ¬ (1024 : Int) < (a : Int) + 4 := by omega
              have hfit3 : ¬ (a : Int) + 4 > 1024 := by omega
              have k0 := byte_cell HRj.out.hbb a (by have := HLEN.out; omega)
              have k1 := byte_cell HRj.out.hbb (a + 1) (by have := HLEN.out; omega)
              have k2 := byte_cell HRj.out.hbb (a + 2) (by have := HLEN.out; omega)
              have k3 := byte_cell HRj.out.hbb (a + 3) (by have := HLEN.out; omega)
              have l0 := byteAt_lt bs a
              have l1 := byteAt_lt bs (a + 1)
              have l2 := byteAt_lt bs (a + 2)
              have l3 := byteAt_lt bs (a + 3)
              have HF : Hid (two bs a = byteAt bs a * 256 + byteAt bs (a + 1)) := rfl
              have HZ : Hid (two bs (a + 2) = byteAt bs (a + 2) * 256 + byteAt bs (a + 3)) := rfl
              obtain ⟨y0, hy0⟩ : ∃ y, byteAt bs a = y := ⟨_, rfl⟩
              obtain ⟨y1, hy1⟩ : ∃ y, byteAt bs (a + 1) = y := ⟨_, rfl⟩
              obtain ⟨y2, hy2⟩ : ∃ y, byteAt bs (a + 2) = y := ⟨_, rfl⟩
              obtain ⟨y3, hy3⟩ : ∃ y, byteAt bs (a + 3) = y := ⟨_, rfl⟩
              rw [hy0] at k0 l0 HF
              rw [hy1] at k1 l1 HF
              rw [hy2] at k2 l2 HZ
              rw [hy3] at k3 l3 HZ
              obtain ⟨a1, ha1⟩ : ∃ a', a' = a + 1 := ⟨_, rfl⟩
              obtain ⟨a3, ha3⟩ : ∃ a', a' = a + 2 := ⟨_, rfl⟩
              obtain ⟨a4, ha4⟩ : ∃ a', a' = a + 3 := ⟨_, rfl⟩
              have i1 : (a : Int) + 1 = (a1 : Int) := by omega
              have i2 : (a : Int) + 2 = (a3 : Int) := by omega
              have i3 : (a : Int) + 3 = (a4 : Int) := by omega
              rw [← ha1] at k1
              rw [← ha3] at k2
              rw [← ha4] at k3
              have j0 : (a : Int) < 1024 := by omega
              have j1 : (a1 : Int) < 1024 := by omega
              have j2 : (a3 : Int) < 1024 := by omega
              have j3 : (a4 : Int) < 1024 := by omega
              have p0 : IntKind.i64.wrap (y0 : Int) = (y0 : Int) := IntWalk.i64_in _ (by omega)
              have p1 : IntKind.i64.wrap (y1 : Int) = (y1 : Int) := IntWalk.i64_in _ (by omega)
              have p2 : IntKind.i64.wrap (y2 : Int) = (y2 : Int) := IntWalk.i64_in _ (by omega)
              have p3 : IntKind.i64.wrap (y3 : Int) = (y3 : Int) := IntWalk.i64_in _ (by omega)
              have r0 : IntKind.i64.wrap ((y0 : Int) * 256) = (y0 : Int) * 256 := IntWalk.i64_in _ (by omega)
              have r2 : IntKind.i64.wrap ((y2 : Int) * 256) = (y2 : Int) * 256 := IntWalk.i64_in _ (by omega)
              have s0 : IntKind.i64.wrap ((y0 : Int) * 256 + (y1 : Int)) = (y0 : Int) * 256 + (y1 : Int) := IntWalk.i64_in _ (by omega)
              have s2 : IntKind.i64.wrap ((y2 : Int) * 256 + (y3 : Int)) = (y2 : Int) * 256 + (y3 : Int) := IntWalk.i64_in _ (by omega)
              have t1 : IntKind.i64.wrap (a1 : Int) = (a1 : Int) := IntWalk.i64_in _ (by omega)
              have t2 : IntKind.i64.wrap (a3 : Int) = (a3 : Int) := IntWalk.i64_in _ (by omega)
              have t3 : IntKind.i64.wrap (a4 : Int) = (a4 : Int) := IntWalk.i64_in _ (by omega)
              clear hy0 hy1 hy2 hy3 ha1 ha3 ha4
              go_upto_region 24 with (fail)
              go_quiet (fail)
              obtain ⟨f, hf⟩ : ∃ f, y0 * 256 + y1 = f := ⟨_, rfl⟩
              have hf6 : f < 65536 := by omega
              rw [hf] at HF
              rw [show (y0 : Int) * 256 + (y1 : Int) = (f : Int) by omega]
              have HR5 := Lib.hid (HRj.out.drewN nq)
              have k2' : (wr.drewN nq).cell? ⟨bb, a3, none⟩ = some (.int .u8 (y2 : Nat)) := k2
              have k3' : (wr.drewN nq).cell? ⟨bb, a4, none⟩ = some (.int .u8 (y3 : Nat)) := k3
              obtain ⟨w5, hw5⟩ : ∃ w5, w5 = wr.drewN nq := ⟨_, rfl⟩
              rw [← hw5] at HR5 k2' k3' ⊢
              clear hf hw5 HRj k0 k1 k2 k3 p0 p1 r0 s0 l0 l1
              go_upto_region 25 with (fail)
              go_quiet (fail)
              obtain ⟨z, hz⟩ : ∃ z, y2 * 256 + y3 = z := ⟨_, rfl⟩
              have hz6 : z < 65536 := by omega
              rw [hz] at HZ
              rw [show (y2 : Int) * 256 + (y3 : Int) = (z : Int) by omega]
              have HR6 := Lib.hid (HR5.out.drewN nq)
              obtain ⟨w6, hw6⟩ : ∃ w6, w6 = w5.drewN nq := ⟨_, rfl⟩
              rw [← hw6] at HR6 ⊢
              clear hz hw6 HR5 k2' k3' p2 p3 r2 s2 t1 t2 t3 i1 i2 i3 j0 j1 j2 j3 l2 l3
              by_cases hf3 : f + z ≤ 1024
              · have hgt : ¬ (1024 : Int) < (f : Int) + (z : Int) := by omega
                go_upto_region 28 with (fail)
                have hln := HLEN.out
                have HNS := Lib.hid HR6.out.nod
                obtain ⟨i0, ES⟩ := elt_N
                obtain ⟨m0, m1, m2, mf0, mf1, mf2, ml⟩ := three_of_block (w := w6.drew) HNS.out
                have hrl := recsR_len bs j
                rw [hrl] at m1
                have HRL := Lib.hid hrl
                clear hrl m0 m2 mf0 mf2
                obtain ⟨x, hx⟩ : ∃ x, txt bs f z = x := ⟨_, rfl⟩
                have HX : Hid (txt bs f z = x) := hx
                have hcv : ∀ ad, (z = 0 ∨ ad = (⟨bb, f, none⟩ : Addr)) → ∀ cc, (convert 39 9 (.slice (some ad) z cc)).run Try.prog w6.drew = .ok (.string x) w6.drew := by
                  intro ad had cc
                  have hzl : (((bs.drop f).take z)).length = z := by rw [List.length_take, List.length_drop]; omega
                  have h := run_convert_bytes_back (P := Try.prog) w6.drew 39 9 5 ad cc ((bs.drop f).take z) Try.underlying39 Try.underlying5 Try.underlying9 (fun k hk => by
                    rw [hzl] at hk
                    rcases had with h0 | rfl
                    · omega
                    · rw [Addr.add_lit]
                      refine (byte_cell (w := w6.drew) HR6.out.hbb (f + k) (by omega)).trans ?_
                      simp [byteAt, show f + k < bs.length by omega])
                  rw [hzl] at h
                  rw [← hx]
                  exact h
                have g1 : IntKind.i64.wrap ((f : Int) + (z : Int)) = (f : Int) + (z : Int) := IntWalk.i64_in _ (by omega)
                have g2 : (f : Int) ≤ (f : Int) + (z : Int) := by omega
                have g3 : (f : Int) + (z : Int) ≤ (cap : Int) := by omega
                have g4 : ((f : Int) + (z : Int)).toNat = f + z := by omega
                have g5 : f + z - f = z := by omega
                clear hx
                by_cases hcf : cap = f
                · have hz0 : z = 0 := by omega
                  subst hcf hz0
                  have g6 : IntKind.i64.wrap (cap : Int) = (cap : Int) := IntWalk.i64_in _ (by omega)
                  have hcv2 := hcv ⟨bb, 0, none⟩ (.inl rfl) 0
                  clear hcv
                  have hown : w6.ownsRow (w.heap.size + 2) 9 1 (.slice A j c) j (scl (recsR bs j)) := by
                    have h := HR6.out.recs
                    rw [OwnS, HRL.out] at h
                    exact h
                  have HOWN := Lib.hid (hown.alloc (.cells #[.string x] 9))
                  clear hown
                  have HSZ := HR6.out.size
                  obtain ⟨-, r1, -, -, rf1, -, rl⟩ := three_of_block (blk_alloc (w := w6) HNS.out (.cells #[.string x] 9))
                  rw [HRL.out] at r1
                  go_region_law
                    (refine reg_push ES (w := (w6.alloc (.cells #[.string x] 9)).drew) (o := ⟨some 129, _, _, _, _, _⟩) rfl _ _ rfl HOWN.out rfl #[.string x] rfl (heap_alloc_new w6 _) rfl (fun u hu => (by obtain rfl : u = .string x := (by simpa using hu); rfl)) (by omega) (by show _ ≤ (w6.alloc (.cells #[.string x] 9)).heap.size; rw [heap_alloc_size]; omega) ?_; intro A3 c3 y3 ho hg; have hP := HR6.out.drew.pushRec (A' := A3) (c' := c3) (k := x) (w2 := y3) (by rw [HRL.out]; exact ho) (by rw [HRL.out]; exact hg); rw [HRL.out] at hP; have HP := Lib.hid hP.1; obtain ⟨-, q1, -, -, qf1, -, ql⟩ := three_of_block hP.2; clear ho hg hP)
                  all_goals
                    go_wp2_with fail
                    go_roundg (n - (j + 1))
                    case measure => omega
                    case rel =>
                      refine ⟨j + 1, A3, c3, a + 4, by omega, rfl, by go_num, by go_num, Lib.hid (by have := HA.out; omega), by omega, Lib.hid (fun m hm => ?_), Lib.hid ?_⟩
                      · rcases Nat.lt_succ_iff_lt_or_eq.1 hm with h | rfl
                        · exact HEA.out m h
                        · rw [← HA.out, HF.out, HZ.out]
                          exact hf3
                      · rw [recsR, ← HAT.out, ← HA.out, HF.out, HZ.out, HX.out]
                        exact HP.out
                · have hcf2 : cap ≠ f := hcf
                  have hcv2 := hcv ⟨bb, f, none⟩ (.inr rfl) (cap - f)
                  clear hcv
                  have hown : w6.ownsRow (w.heap.size + 2) 9 1 (.slice A j c) j (scl (recsR bs j)) := by
                    have h := HR6.out.recs
                    rw [OwnS, HRL.out] at h
                    exact h
                  have HOWN := Lib.hid (hown.alloc (.cells #[.string x] 9))
                  clear hown
                  have HSZ := HR6.out.size
                  obtain ⟨-, r1, -, -, rf1, -, rl⟩ := three_of_block (blk_alloc (w := w6) HNS.out (.cells #[.string x] 9))
                  rw [HRL.out] at r1
                  go_region_law
                    (refine reg_push ES (w := (w6.alloc (.cells #[.string x] 9)).drew) (o := ⟨some 129, _, _, _, _, _⟩) rfl _ _ rfl HOWN.out rfl #[.string x] rfl (heap_alloc_new w6 _) rfl (fun u hu => (by obtain rfl : u = .string x := (by simpa using hu); rfl)) (by omega) (by show _ ≤ (w6.alloc (.cells #[.string x] 9)).heap.size; rw [heap_alloc_size]; omega) ?_; intro A3 c3 y3 ho hg; have hP := HR6.out.drew.pushRec (A' := A3) (c' := c3) (k := x) (w2 := y3) (by rw [HRL.out]; exact ho) (by rw [HRL.out]; exact hg); rw [HRL.out] at hP; have HP := Lib.hid hP.1; obtain ⟨-, q1, -, -, qf1, -, ql⟩ := three_of_block hP.2; clear ho hg hP)
                  all_goals
                    go_wp2_with fail
                    go_roundg (n - (j + 1))
                    case measure => omega
                    case rel =>
                      refine ⟨j + 1, A3, c3, a + 4, by omega, rfl, by go_num, by go_num, Lib.hid (by have := HA.out; omega), by omega, Lib.hid (fun m hm => ?_), Lib.hid ?_⟩
                      · rcases Nat.lt_succ_iff_lt_or_eq.1 hm with h | rfl
                        · exact HEA.out m h
                        · rw [← HA.out, HF.out, HZ.out]
                          exact hf3
                      · rw [recsR, ← HAT.out, ← HA.out, HF.out, HZ.out, HX.out]
                        exact HP.out
              · have hgt : (1024 : Int) < (f : Int) + (z : Int) := by omega
                have HNG : Hid (¬ Good bs) := (fun h => by
                  have h1 := h.fits.each j (by rw [HN.out]; exact hlt)
                  rw [← HAT.out, ← HA.out, HF.out, HZ.out] at h1
                  exact hf3 h1 : ¬ Good bs)
                obtain ⟨v0, v1, v2, vf0, vf1, vf2, vl⟩ := three_of_block HR6.out.var
                go_wp2_with fail
                obtain ⟨hE, hF⟩ := zero_again HR6.out.var (Nat.le_refl w.heap.size)
                obtain ⟨q0, q1, q2, -, -, -, -⟩ := three_of_block hE
                refine bodyPost_ret (v := RNo) (by simp [RNo, results, Try.results24, go_sem, q0, q1, q2]) rfl ?_
                exact .inr ⟨HNG.out, rfl, HR6.out.low.trans hF⟩
            · have hfit2 : (1024 : Int) < (a : Int) + 4 := by omega
              have hfit3 : (a : Int) + 4 > 1024 := by omega
              have HNG : Hid (¬ Good bs) := (fun h => by
                have h1 := h.fits.slots
                rw [← HAT.out, HN.out] at h1
                have := HA.out
                omega : ¬ Good bs)
              obtain ⟨v0, v1, v2, vf0, vf1, vf2, vl⟩ := three_of_block HRj.out.var
              go_wp2_with fail
              obtain ⟨hE, hF⟩ := zero_again HRj.out.var (Nat.le_refl w.heap.size)
              obtain ⟨q0, q1, q2, -, -, -, -⟩ := three_of_block hE
              refine bodyPost_ret (v := RNo) (by simp [RNo, results, Try.results24, go_sem, q0, q1, q2]) rfl ?_
              exact .inr ⟨HNG.out, rfl, HRj.out.low.trans hF⟩
          · have hlt2 : ¬ (j : Int) < (n : Int) := by omega
            have HJ : Hid (j = n) := (by omega : j = n)
            have HFI : Hid (Fits bs) := (⟨by rw [← HAT.out, HN.out]; have := HJ.out; have := HA.out; omega, fun i hi => by rw [← HAT.out]; exact HEA.out i (by rw [HN.out] at hi; have := HJ.out; omega)⟩ : Fits bs)
            have HLS : Hid (recsR bs n = lsOf bs) := (by rw [lsOf, HN.out] : recsR bs n = lsOf bs)
            have hr9 := HRj.out
            rw [HJ.out, HLS.out, ← HKS.out, ← HLF.out] at hr9
            have HR9 : Hid (Rr w wr bb bs (lfOf bs) A c (lsOf bs) B d (ksOf bs)) := hr9
            have HBD : Hid (Bd (lsOf bs) (ksOf bs)) := HFI.out.bd
            have hlen1 := HBD.out.len
            have hlen2 := HBD.out.kids
            clear hr9 HRj HEA HA hja hj hg hlt
            go_upto_region 30 with (fail)
            clear hlt2
            obtain ⟨L, hL⟩ : ∃ L, lsOf bs = L := ⟨_, rfl⟩
            obtain ⟨K, hK⟩ : ∃ K, ksOf bs = K := ⟨_, rfl⟩
            obtain ⟨F, hF0⟩ : ∃ F, lfOf bs = F := ⟨_, rfl⟩
            rw [hL] at hlen1
            rw [hK] at hlen2
            rw [hL, hK] at HBD
            rw [hL, hK, hF0] at HR9
            have HLK : Hid (lsOf bs = L ∧ ksOf bs = K ∧ lfOf bs = F) := ⟨hL, hK, hF0⟩
            clear hL hK hF0
            have HD := Lib.hid HR9.out.drew
            obtain ⟨m0, m1, m2, mf0, mf1, mf2, ml⟩ := three_of_block HD.out.nod
            by_cases hsh : Shp F L K
            · have HSH := Lib.hid hsh
              by_cases hz : sizeN L K ≤ 1024
              · have HZ := Lib.hid hz
                have hz3 : ¬ (1024 : Int) < (sizeN L K : Int) := by omega
                have hz4 : decide ((sizeN L K : Int) > 1024) = false := decide_eq_false (by omega)
                have hz5 : decide ((1024 : Int) < (sizeN L K : Int)) = false := decide_eq_false (by omega)
                have HPL : Hid ((pageB F L K).length = 1024) := pageB_len F L K hz
                obtain ⟨px, hpx⟩ : ∃ px : ByteArray, ⟨(pageB F L K).toArray⟩ = px := ⟨_, rfl⟩
                obtain ⟨bx, hbx⟩ : ∃ bx : ByteArray, ⟨bs.toArray⟩ = bx := ⟨_, rfl⟩
                have HPX := Lib.hid hpx
                have HBX := Lib.hid hbx
                have HEQ : Hid (px.toList = bx.toList ↔ pageB F L K = bs) := (by rw [ByteArray.toList_eq, ByteArray.toList_eq, ← hpx, ← hbx] : px.toList = bx.toList ↔ pageB F L K = bs)
                clear hz hsh hpx hbx
                by_cases hpe : pageB F L K = bs
                · have hxe : px.toList = bx.toList := HEQ.out.2 hpe
                  have HG : Hid (Good bs) := (⟨HFI.out, by rw [HLK.out.1, HLK.out.2.1, HLK.out.2.2]; exact HSH.out, by rw [HLK.out.1, HLK.out.2.1]; exact HZ.out, by rw [HLK.out.1, HLK.out.2.1, HLK.out.2.2]; exact hpe⟩ : Good bs)
                  clear hpe
                  have hS0 : C3 wr.drew (w.heap.size + 1) F A L.length c B K.length d ∧ (convert 39 9 (.slice (some ⟨bb, 0, none⟩) 1024 cap)).run Try.prog wr.drew = .ok (.string bx) wr.drew := ⟨HD.out.c3, bytes_conv (cap := cap) HD.out.hbb HLEN.out HBX.out⟩
                  clear m0 m1 m2
                  go_region_held (fun w' => C3 w' (w.heap.size + 1) F A L.length c B K.length d ∧ (convert 39 9 (.slice (some ⟨bb, 0, none⟩) 1024 cap)).run Try.prog w' = .ok (.string bx) w')
                    (first | (with_reducible exact hS0) | (with_reducible exact hS1) | (with_reducible exact hS2) | (with_reducible exact hS3))
                    (first
                      | (go_at_call 11; refine (rshaped_any F A c L B d K _ HD.out.rd (by omega) (by omega)).mono ?_; rintro e y1 ⟨b, rfl, hb1, hb⟩; obtain rfl : b = true := hb1.2 HSH.out; have HR10 := Lib.hid (HD.out.below hb); have hS1 := And.intro HR10.out.c3 (bytes_conv (cap := cap) HR10.out.hbb HLEN.out HBX.out); clear hb hb1)
                      | (go_at_call 20; refine (rsize_any F A c L B d K _ HR10.out.rd HBD.out).mono ?_; rintro e y2 ⟨rfl, hb⟩; have HR11 := Lib.hid (HR10.out.below hb); have hS2 := And.intro HR11.out.c3 (bytes_conv (cap := cap) HR11.out.hbb HLEN.out HBX.out); clear hb)
                      | (go_at_call 22; refine (page_any F A c L B d K _ HR11.out.rd HSH.out HZ.out).mono ?_; rintro e y3 ⟨g5, c5, rfl, hrow, hb⟩; have HR12 := Lib.hid (HR11.out.below hb); have hcv5 := row_conv (c := c5) hrow HPL.out; rw [HPX.out] at hcv5; have hS3 := And.intro HR12.out.c3 (bytes_conv (cap := cap) HR12.out.hbb HLEN.out HBX.out); clear hb hrow))
                  all_goals
                    obtain ⟨v0, v1, v2, vf0, vf1, vf2, vl⟩ := three_of_block HR12.out.var
                    obtain ⟨u0, u1, u2, uf0, uf1, uf2, ul⟩ := three_of_block HR12.out.nod
                    go_wp2_with fail
                    have hE := s3_self HR12.out.var (.bool F) (.slice A L.length c) (.slice B K.length d)
                    obtain ⟨q0, q1, q2, -, -, -, -⟩ := three_of_block hE
                    have hF := s3_frm HR12.out.var (Nat.le_refl w.heap.size) (.bool F) (.slice A L.length c) (.slice B K.length d)
                    refine bodyPost_ret (v := .tuple #[.agg #[.bool F, .slice A L.length c, .slice B K.length d], .bool true]) (by simp [results, Try.results24, go_sem, q0, q1, q2]) rfl ?_
                    have ho1 : OwnS _ _ A c L := hF.owns HR12.out.recs (by decide)
                    have ho2 : OwnI _ _ B d K := hF.owns HR12.out.kids (by decide)
                    refine .inl ⟨HG.out, A, c, B, d, ?_, ?_, HR12.out.low.trans hF.low⟩
                    · rw [HLK.out.1, HLK.out.2.1, HLK.out.2.2]
                    · rw [HLK.out.1, HLK.out.2.1]
                      exact ⟨ho1.reads.1, ho2.reads.1, ho1.reads.2, ho2.reads.2⟩
                · have hxe : (px.toList == bx.toList) = false := beq_eq_false_iff_ne.2 (fun h => hpe (HEQ.out.1 h))
                  have hxe2 : px.toList ≠ bx.toList := fun h => hpe (HEQ.out.1 h)
                  have HNG : Hid (¬ Good bs) := (fun h => hpe (by have h1 := h.page; rw [HLK.out.1, HLK.out.2.1, HLK.out.2.2] at h1; exact h1) : ¬ Good bs)
                  clear hpe
                  have hS0 : C3 wr.drew (w.heap.size + 1) F A L.length c B K.length d ∧ (convert 39 9 (.slice (some ⟨bb, 0, none⟩) 1024 cap)).run Try.prog wr.drew = .ok (.string bx) wr.drew := ⟨HD.out.c3, bytes_conv (cap := cap) HD.out.hbb HLEN.out HBX.out⟩
                  clear m0 m1 m2
                  go_region_held (fun w' => C3 w' (w.heap.size + 1) F A L.length c B K.length d ∧ (convert 39 9 (.slice (some ⟨bb, 0, none⟩) 1024 cap)).run Try.prog w' = .ok (.string bx) w')
                    (first | (with_reducible exact hS0) | (with_reducible exact hS1) | (with_reducible exact hS2) | (with_reducible exact hS3))
                    (first
                      | (go_at_call 11; refine (rshaped_any F A c L B d K _ HD.out.rd (by omega) (by omega)).mono ?_; rintro e y1 ⟨b, rfl, hb1, hb⟩; obtain rfl : b = true := hb1.2 HSH.out; have HR10 := Lib.hid (HD.out.below hb); have hS1 := And.intro HR10.out.c3 (bytes_conv (cap := cap) HR10.out.hbb HLEN.out HBX.out); clear hb hb1)
                      | (go_at_call 20; refine (rsize_any F A c L B d K _ HR10.out.rd HBD.out).mono ?_; rintro e y2 ⟨rfl, hb⟩; have HR11 := Lib.hid (HR10.out.below hb); have hS2 := And.intro HR11.out.c3 (bytes_conv (cap := cap) HR11.out.hbb HLEN.out HBX.out); clear hb)
                      | (go_at_call 22; refine (page_any F A c L B d K _ HR11.out.rd HSH.out HZ.out).mono ?_; rintro e y3 ⟨g5, c5, rfl, hrow, hb⟩; have HR12 := Lib.hid (HR11.out.below hb); have hcv5 := row_conv (c := c5) hrow HPL.out; rw [HPX.out] at hcv5; have hS3 := And.intro HR12.out.c3 (bytes_conv (cap := cap) HR12.out.hbb HLEN.out HBX.out); clear hb hrow))
                  all_goals
                    obtain ⟨v0, v1, v2, vf0, vf1, vf2, vl⟩ := three_of_block HR12.out.var
                    go_wp2_with fail
                    obtain ⟨hE, hF⟩ := zero_again HR12.out.var (Nat.le_refl w.heap.size)
                    obtain ⟨q0, q1, q2, -, -, -, -⟩ := three_of_block hE
                    refine bodyPost_ret (v := RNo) (by simp [RNo, results, Try.results24, go_sem, q0, q1, q2]) rfl ?_
                    exact .inr ⟨HNG.out, rfl, HR12.out.low.trans hF⟩
              · have HNZ := Lib.hid hz
                have hz3 : (1024 : Int) < (sizeN L K : Int) := by omega
                clear hz hsh
                first
                  | (go_region_with
                            (first
                              | (go_at_call 11; refine (rshaped_any F A c L B d K _ HD.out.rd (by omega) (by omega)).mono ?_; rintro e y1 ⟨b, rfl, hb1, hb⟩; obtain rfl : b = true := hb1.2 HSH.out; have HR10 := Lib.hid (HD.out.below hb); obtain ⟨p0, p1, p2, -, -, -, -⟩ := three_of_block HR10.out.nod; clear hb hb1)
                              | (go_at_call 20; refine (rsize_any F A c L B d K _ HR10.out.rd HBD.out).mono ?_; rintro e y2 ⟨rfl, hb⟩; have HR11 := Lib.hid (HR10.out.below hb); obtain ⟨r0, r1, r2, -, -, -, -⟩ := three_of_block HR11.out.nod;  clear hb)))
                  | skip
                all_goals
                  obtain ⟨v0, v1, v2, vf0, vf1, vf2, vl⟩ := three_of_block HR11.out.var
                  go_wp2_with fail
                  obtain ⟨hE, hF⟩ := zero_again HR11.out.var (Nat.le_refl w.heap.size)
                  obtain ⟨q0, q1, q2, -, -, -, -⟩ := three_of_block hE
                  refine bodyPost_ret (v := RNo) (by simp [RNo, results, Try.results24, go_sem, q0, q1, q2]) rfl ?_
                  exact .inr ⟨fun h => HNZ.out (by have h1 := h.size; rw [HLK.out.1, HLK.out.2.1] at h1; exact h1), rfl, HR11.out.low.trans hF⟩
            · have HNS := Lib.hid hsh
              clear hsh
              first
                | (go_region_with
                          (first
                            | (go_at_call 11; refine (rshaped_any F A c L B d K _ HD.out.rd (by omega) (by omega)).mono ?_; rintro e y1 ⟨b, rfl, hb1, hb⟩; obtain rfl : b = false := (by cases b with | false => rfl | true => exact absurd (hb1.1 rfl) HNS.out); have HR10 := Lib.hid (HD.out.below hb); clear hb hb1)))
                | skip
              all_goals
                obtain ⟨v0, v1, v2, vf0, vf1, vf2, vl⟩ := three_of_block HR10.out.var
                go_wp2_with fail
                obtain ⟨hE, hF⟩ := zero_again HR10.out.var (Nat.le_refl w.heap.size)
                obtain ⟨q0, q1, q2, -, -, -, -⟩ := three_of_block hE
                refine bodyPost_ret (v := RNo) (by simp [RNo, results, Try.results24, go_sem, q0, q1, q2]) rfl ?_
                exact .inr ⟨fun h => HNS.out (by have h1 := h.shp; rw [HLK.out.1, HLK.out.2.1, HLK.out.2.2] at h1; exact h1), rfl, HR10.out.low.trans hF⟩
end Go.Proofs.Ytnjdmaeoebihpaa

namespace Go.Proofs.Ytnjdmaeoebihpaa
open Go.RowKit Go.ChangeShapes Go.WideShapes Go.ChangeAt Go.Proofs.YtnjdmaeoebihpaaW.PrintWords Go.Proofs.YtnjdmaeoebihpaaW.PrintLast Go.Proofs.YtnjdmaeoebihpaaW.PrintMore
set_option linter.unusedVariables false
set_option linter.unusedSimpArgs false

def code (gd : Bool) : Int := if gd = true then 0 else 16
/-- Decode and Read of the same bytes answer alike. -/
def Both (bs : List UInt8) : Prop := ∃ (gd F : Bool) (L : List ByteArray) (K : List Int), (L.length ≤ 1000 ∧ K.length ≤ 1000) ∧
  (∀ (bb : Nat) (w : World), (∃ fr, w.heap[bb]? = some (.cells (bc bs).toArray 5 fr)) → Calls Try.prog 21 #[.slice (some ⟨bb, 0, none⟩) 1024 1024] w fun e w' => ∃ A c B d, e = .returned (.tuple #[.agg #[.bool F, .slice A L.length c, .slice B K.length d], .int .i64 (code gd)]) ∧ RdN w' A c L B d K ∧ Below w.heap.size w w') ∧
  (∀ (bb : Nat) (w : World), (∃ fr, w.heap[bb]? = some (.cells (bc bs).toArray 5 fr)) → Calls Try.prog 24 #[.slice (some ⟨bb, 0, none⟩) 1024 1024] w fun e w' => ∃ A c B d, e = .returned (.tuple #[.agg #[.bool F, .slice A L.length c, .slice B K.length d], .bool gd]) ∧ RdN w' A c L B d K ∧ Below w.heap.size w w')
theorem own_page {w : World} {bb base : Nat} {bs : List UInt8} (h : w.heap[bb]? = some (.cells (bc bs).toArray 5)) (hl : bs.length = 1024) (hb : base ≤ bb) : OwnB w base (some ⟨bb, 0, none⟩) 1024 bs := by
  have hm : (maxLen : Nat) = 9223372036854775807 := rfl
  unfold OwnB
  rw [hl]
  refine ⟨by rw [bc_len, hl], .inr ⟨bb, 1024, (bc bs).toArray, rfl, hb, h, Nat.le_refl _, by omega, ?_, ?_⟩⟩
  · simp [bc, hl]
  · rw [List.toList_toArray, List.take_of_length_le (by simp [bc, hl])]
/-- What lies when the bytes are turned. -/
structure Tn (w wr : World) (bb : Nat) (bs : List UInt8) : Prop where
  low : Below w.heap.size w wr
  pg : wr.heap[bb]? = some (.cells (bc bs).toArray 5)
  len : bs.length = 1024
  ge : w.heap.size ≤ bb
theorem Tn.below {w wr w' : World} {bb : Nat} {bs : List UInt8} (h : Tn w wr bb bs) (hb : Below wr.heap.size wr w') : Tn w w' bb bs :=
  ⟨h.low.trans (hb.mono h.low.size), (hb.block _ (lt_of_block h.pg)).trans h.pg, h.len, h.ge⟩
theorem Tn.put {w wr : World} {bb j : Nat} {bs : List UInt8} (h : Tn w wr bb bs) (z : UInt8) : Tn w (wr.setCell ⟨bb, j, none⟩ (.int .u8 (z.toNat : Int))) bb (bs.set j z) :=
  ⟨h.low.setCell (p := ⟨bb, j, none⟩) h.ge _, page_set h.pg z, by rw [List.length_set]; exact h.len, h.ge⟩

/-- The two nodes, in their boxes. -/
structure Two2 (w : World) (g11 g13 : Nat) (F : Bool) (A1 : Option Addr) (c1 : Nat) (L : List ByteArray) (B1 : Option Addr) (d1 : Nat) (K : List Int) (A2 : Option Addr) (c2 : Nat) (B2 : Option Addr) (d2 : Nat) : Prop where
  m : w.heap[g11]? = some (.cells #[.bool F, .slice A1 L.length c1, .slice B1 K.length d1] 25)
  r : w.heap[g13]? = some (.cells #[.bool F, .slice A2 L.length c2, .slice B2 K.length d2] 29)
  rd1 : RdN w A1 c1 L B1 d1 K
  rd2 : RdN w A2 c2 L B2 d2 K
section
variable {w w' : World} {g11 g13 : Nat} {F : Bool} {A1 B1 A2 B2 : Option Addr} {c1 d1 c2 d2 : Nat} {L : List ByteArray} {K : List Int}
theorem Two2.below (h : Two2 w g11 g13 F A1 c1 L B1 d1 K A2 c2 B2 d2) (hb : Below w.heap.size w w') : Two2 w' g11 g13 F A1 c1 L B1 d1 K A2 c2 B2 d2 :=
  ⟨(hb.block _ (lt_of_block h.m)).trans h.m, (hb.block _ (lt_of_block h.r)).trans h.r, h.rd1.below hb, h.rd2.below hb⟩
theorem Two2.S (h : Two2 w g11 g13 F A1 c1 L B1 d1 K A2 c2 B2 d2) : C3 w g11 F A1 L.length c1 B1 K.length d1 ∧ C3 w g13 F A2 L.length c2 B2 K.length d2 :=
  ⟨⟨(cell_of_block h.m 0).trans rfl, (cell_of_block h.m 1).trans rfl, (cell_of_block h.m 2).trans rfl⟩, (cell_of_block h.r 0).trans rfl, (cell_of_block h.r 1).trans rfl, (cell_of_block h.r 2).trans rfl⟩
end

set_option maxRecDepth 100000 in
set_option maxHeartbeats 8000000 in
theorem pageReads_any (leaf : Bool) (A : Option Addr) (c : Nat) (l : List ByteArray) (B : Option Addr) (d : Nat) (ks : List Int) (SA : Option Addr) (sc : Nat) (sp : List Spt) (cut : Int) (w : World) (hr : RdN w A c l B d ks) (hsp : ReadsP w SA sp) (hcut : (Lit.int .u16 cut).wf = true) (hboth : ∀ bs : List UInt8, bs.length = 1024 → Both bs) :
    Calls Try.prog 6 #[.agg #[.bool leaf, .slice A l.length c, .slice B ks.length d], .slice SA sp.length sc, .int .u16 cut] w fun e w' => e = .returned (.bool true) ∧ Below w.heap.size w w' := by
  have hnot := @unary_not Try.prog
  have HR := Lib.hid hr
  have HSP := Lib.hid hsp
  have HBOTH := Lib.hid hboth
  have hc2 : 0 ≤ cut ∧ cut ≤ 65535 := by
    simp [Lit.wf, IntKind.min, IntKind.max, IntKind.signed, IntKind.bits] at hcut
    omega
  clear hr hsp hboth hcut
  have hblk := heap_alloc_new w (NodeObj leaf A l.length c B ks.length d)
  obtain ⟨w1, hw1⟩ : ∃ w1, w1 = w.alloc (.cells #[.bool leaf, .slice A l.length c, .slice B ks.length d] 25) := ⟨_, rfl⟩
  replace hblk : w1.heap[w.heap.size]? = some (NodeObj leaf A l.length c B ks.length d) := by rw [hw1]; exact hblk
  have HB1 : Hid (Below w.heap.size w w1) := (by rw [hw1]; exact (Below.refl _ _).alloc (Nat.le_refl _) _ : Below w.heap.size w w1)
  have HBK1 := Lib.hid hblk
  clear hblk
  go_enter Try.func6, Try.ntmps6
  go_upto_region 1 with (fail)
  rw [← hw1]
  clear hw1
  go_wp2_with fail
  refine (awake_any _).mono ?_
  rintro e w2 ⟨rfl, hb2⟩
  have HB2 := Lib.hid (HB1.out.trans (hb2.mono HB1.out.size))
  have HBK2 := Lib.hid ((hb2.block _ (lt_of_block HBK1.out)).trans HBK1.out)
  clear hb2 HB1 HBK1
  obtain ⟨n0, n1, n2, f0, f1, f2, nl⟩ := three_of_block HBK2.out
  go_wp2_with fail
  refine (great_any leaf A c l B d ks _ (HR.out.below HB2.out)).mono ?_
  rintro e w3 ⟨g, rfl, hg, hb3⟩
  have HB3 := Lib.hid (HB2.out.trans (hb3.mono HB2.out.size))
  have HBK3 := Lib.hid ((hb3.block _ nl).trans HBK2.out)
  have HG := Lib.hid hg
  clear hg hb3 n0 n1 n2 f0 f1 f2 nl HB2 HBK2
  cases g with
  | true =>
    go_wp2_with fail
    go_ret
    exact ⟨rfl, HB3.out⟩
  | false =>
  have HSM := Lib.hid (HG.out rfl)
  have HBD : Hid (Bd l ks) := HSM.out.bd
  obtain ⟨n0, n1, n2, f0, f1, f2, nl⟩ := three_of_block HBK3.out
  go_wp2_with fail
  refine (right_any leaf A c l B d ks _ (HR.out.below HB3.out) HBD.out).mono ?_
  rintro e w4 ⟨rb, rfl, hrb, hb4⟩
  have HB4 := Lib.hid (HB3.out.trans (hb4.mono HB3.out.size))
  have HBK4 := Lib.hid ((hb4.block _ nl).trans HBK3.out)
  have HRB := Lib.hid hrb
  clear hrb hb4 n0 n1 n2 f0 f1 f2 nl HB3 HBK3
  cases rb with
  | false =>
    go_wp2_with fail
    go_ret
    exact ⟨rfl, HB4.out⟩
  | true =>
  have HSZ := Lib.hid (HRB.out.1 rfl)
  by_cases hs20 : sp.length > 20
  · have h20 : decide ((sp.length : Int) > 20) = true := decide_eq_true (by omega)
    have h21 : decide ((20 : Int) < (sp.length : Int)) = true := decide_eq_true (by omega)
    go_wp2_with fail
    go_ret
    exact ⟨rfl, HB4.out⟩
  · have h20 : decide ((sp.length : Int) > 20) = false := decide_eq_false (by omega)
    have h21 : decide ((20 : Int) < (sp.length : Int)) = false := decide_eq_false (by omega)
    obtain ⟨n0, n1, n2, f0, f1, f2, nl⟩ := three_of_block HBK4.out
    go_wp2_with fail
    refine (encode_good leaf A c l B d ks _ (HR.out.below HB4.out) HBD.out HSZ.out.1 HSZ.out.2).mono ?_
    rintro e w5 ⟨bb, rfl, hbl, hpg, hb5⟩
    have HT5 : Hid (Tn w w5 bb (pageB leaf l ks)) := ⟨HB4.out.trans (hb5.mono HB4.out.size), hpg, pageB_len _ _ _ HSZ.out.2, Nat.le_trans HB4.out.size hbl⟩
    clear hbl hpg hb5 n0 n1 n2 f0 f1 f2 nl HB4 HBK4 h20 h21
    have hs21 : sp.length ≤ 20 := by omega
    clear hs20
    go_wp2_with fail
    go_loopg [47] sp.length (fun q i wr => ∃ (j : Nat) (bs : List UInt8), j ≤ sp.length ∧ q = sp.length - j ∧ i = .int .i64 j ∧ Hid (Tn w wr bb bs))
    case atStart => exact ⟨0, pageB leaf l ks, by omega, by omega, rfl, HT5⟩
    case round =>
      clear HT5
      obtain ⟨j, bs, hj, hq, rfl, HT⟩ := hrel
      by_cases hlt : j < sp.length
      · obtain ⟨b9, off, rfl, hb9, hwf, s0, s1⟩ := (HSP.out.below HT.out.low (Nat.le_refl _)) j sp[j] (List.getElem?_eq_getElem hlt)
        have hlt2 : (j : Int) < (sp.length : Int) := by omega
        obtain ⟨xa, hxa⟩ : ∃ xa, (sp[j]).at_ = xa := ⟨_, rfl⟩
        obtain ⟨xb, hxb⟩ : ∃ xb, ((sp[j]).by_.toNat : Int) = xb := ⟨_, rfl⟩
        rw [hxa] at s0 hwf
        rw [hxb] at s1
        clear hxa hxb
        go_upto_region 11 with (fail)
        have h6 := heap_alloc_new wr (.cells #[.int .i64 xa, .int .u8 xb] 51)
        have hT6 := HT.out.below (w' := wr.alloc (.cells #[.int .i64 xa, .int .u8 xb] 51)) ((Below.refl _ _).alloc (Nat.le_refl _) _)
        obtain ⟨w6, hw6⟩ : ∃ w6, w6 = wr.alloc (.cells #[.int .i64 xa, .int .u8 xb] 51) := ⟨_, rfl⟩
        rw [← hw6] at h6 hT6 ⊢
        obtain ⟨xg, hxg⟩ : ∃ xg, xg = wr.heap.size := ⟨_, rfl⟩
        rw [← hxg] at h6 ⊢
        have hne : bb ≠ xg := by
          have := lt_of_block HT.out.pg
          omega
        have HT6 := Lib.hid hT6
        have HX6 := Lib.hid h6
        clear hw6 hxg hT6 s0 s1 hb9 h6 HT
        obtain ⟨s0, s1, sf0, sf1, sl⟩ := two_of_block HX6.out
        by_cases h0 : 0 ≤ xa
        · obtain ⟨a, rfl⟩ : ∃ a : Nat, xa = (a : Int) := ⟨xa.toNat, by omega⟩
          by_cases h1 : a < 1024
          · have h1b : (a : Int) < 1024 := by omega
            have h1d : (0 : Int) ≤ (a : Int) := by omega
            have pc := byte_cell ⟨_, HT6.out.pg⟩ a (by rw [HT6.out.len]; omega)
            have pf : w6.frozen? ⟨bb, a, none⟩ = false := free_of_block HT6.out.pg a
            obtain ⟨z, hz⟩ := byte_in (bits_lo_u8 .xor ((byteAt bs a : Nat) : Int) xb) (bits_hi_u8 .xor ((byteAt bs a : Nat) : Int) xb)
            obtain ⟨q, hq⟩ : ∃ q, byteAt bs a = q := ⟨_, rfl⟩
            rw [hq] at pc hz
            clear hq h0 hwf
            go_upto_region 12 with (fail)
            go_region
            all_goals
              have HT9 := Lib.hid ((HT6.out.put (j := a) z).below (w' := (w6.setCell ⟨bb, a, none⟩ (.int .u8 (z.toNat : Int))).drew) ⟨rfl, rfl, rfl, Nat.le_refl _, fun _ _ => rfl⟩)
              go_wp2_with fail
              go_roundg (sp.length - (j + 1))
              case measure => omega
              case rel => exact ⟨j + 1, bs.set a z, by omega, rfl, by go_num, HT9⟩
          · have h1b : ¬ (a : Int) < 1024 := by omega
            have h1d : (0 : Int) ≤ (a : Int) := by omega
            clear h0 hwf
            go_wp2_with fail
            go_roundg (sp.length - (j + 1))
            case measure => omega
            case rel => exact ⟨j + 1, bs, by omega, rfl, by go_num, HT6⟩
        · have h0b : ¬ (0 : Int) ≤ xa := h0
          have h0c : decide ((0 : Int) ≤ xa) = false := decide_eq_false h0
          have h0d : decide (xa ≥ (0 : Int)) = false := decide_eq_false h0
          go_wp2_with fail
          go_roundg (sp.length - (j + 1))
          case measure => omega
          case rel => exact ⟨j + 1, bs, by omega, rfl, by go_num, HT6⟩
      · have hlt2 : ¬ (j : Int) < (sp.length : Int) := by omega
        clear hlt hj hq
        obtain ⟨gd, F, L, K, hLK, hdec, hread⟩ := HBOTH.out bs HT.out.len
        have HDEC := Lib.hid hdec
        have HREAD := Lib.hid hread
        have HLK := Lib.hid hLK
        clear hdec hread hLK
        go_wp2_with fail
        refine (HDEC.out bb _ ⟨_, HT.out.pg⟩).mono ?_
        rintro e w7 ⟨A1, c1, B1, d1, rfl, hr1, hb7⟩
        have HT7 := Lib.hid (HT.out.below hb7)
        have HR1 := Lib.hid hr1
        clear hr1 hb7 HT
        go_upto_region 15 with (fail)
        have h8 := heap_alloc_new w7 (.cells #[.bool F, .slice A1 L.length c1, .slice B1 K.length d1] 25)
        have hb8 : Below w7.heap.size w7 (w7.alloc (.cells #[.bool F, .slice A1 L.length c1, .slice B1 K.length d1] 25)) := (Below.refl _ _).alloc (Nat.le_refl _) _
        obtain ⟨w8, hw8⟩ : ∃ w8, w8 = w7.alloc (.cells #[.bool F, .slice A1 L.length c1, .slice B1 K.length d1] 25) := ⟨_, rfl⟩
        rw [← hw8] at h8 hb8 ⊢
        obtain ⟨g11, hg11⟩ : ∃ g, g = w7.heap.size := ⟨_, rfl⟩
        rw [← hg11] at h8 ⊢
        have HM8 := Lib.hid h8
        have HT8 := Lib.hid (HT7.out.below hb8)
        have HR8 := Lib.hid (HR1.out.below hb8)
        clear hw8 hg11 h8 hb8 HT7 HR1
        go_wp2_with fail
        refine (HREAD.out bb _ ⟨_, HT8.out.pg⟩).mono ?_
        rintro e w9 ⟨A2, c2, B2, d2, rfl, hr2, hb9⟩
        have HT9 := Lib.hid (HT8.out.below hb9)
        have HM9 := Lib.hid ((hb9.block _ (lt_of_block HM8.out)).trans HM8.out)
        have HR9 := Lib.hid (HR8.out.below hb9)
        have HW9 := Lib.hid hr2
        clear hr2 hb9 HT8 HR8 HM8
        go_upto_region 16 with (fail)
        have h10 := heap_alloc_new w9 (.cells #[.bool F, .slice A2 L.length c2, .slice B2 K.length d2] 29)
        have hb10 : Below w9.heap.size w9 (w9.alloc (.cells #[.bool F, .slice A2 L.length c2, .slice B2 K.length d2] 29)) := (Below.refl _ _).alloc (Nat.le_refl _) _
        obtain ⟨w10, hw10⟩ : ∃ w10, w10 = w9.alloc (.cells #[.bool F, .slice A2 L.length c2, .slice B2 K.length d2] 29) := ⟨_, rfl⟩
        rw [← hw10] at h10 hb10 ⊢
        obtain ⟨g13, hg13⟩ : ∃ g, g = w9.heap.size := ⟨_, rfl⟩
        rw [← hg13] at h10 ⊢
        have HX10 : Hid (Two2 w10 g11 g13 F A1 c1 L B1 d1 K A2 c2 B2 d2) := ⟨(hb10.block _ (lt_of_block HM9.out)).trans HM9.out, h10, HR9.out.below hb10, HW9.out.below hb10⟩
        have HT10 := Lib.hid (HT9.out.below hb10)
        have HX0 := Lib.hid (HX10.out.below (w' := w10.drew) ⟨rfl, rfl, rfl, Nat.le_refl _, fun _ _ => rfl⟩)
        have hS0 := HX0.out.S
        clear hw10 hg13 h10 hb10 HT9 HR9 HM9 HW9 HX10
        obtain ⟨cd, hcd⟩ : ∃ cd, code gd = cd := ⟨_, rfl⟩
        rw [hcd]
        have hco : ((cd == (0 : Int)) = gd) := by
          rw [← hcd]
          cases gd <;> rfl
        have hne0 : (gd != gd) = false := by cases gd <;> rfl
        clear hcd
        go_region_held (fun w' => C3 w' g11 F A1 L.length c1 B1 K.length d1 ∧ C3 w' g13 F A2 L.length c2 B2 K.length d2)
          (first | (with_reducible exact hS0) | (with_reducible exact hS1) | (with_reducible exact hS2))
          (first
            | (go_at_call 12; refine (plain_any F A1 L.length c1 B1 K.length d1 _).mono ?_; rintro e y1 ⟨rfl, hb⟩; have HX1 := Lib.hid (HX0.out.below hb); have HTa := Lib.hid (HT10.out.below ((below_drewN (Below.refl _ _) 1).trans hb)); have hS1 := HX1.out.S; clear hb)
            | (go_at_call 23; refine (rsame_any F A1 c1 L B1 d1 K A2 c2 B2 d2 _ HX1.out.rd1 HX1.out.rd2 (Nat.le_trans HLK.out.1 (by omega)) (Nat.le_trans HLK.out.2 (by omega))).mono ?_; rintro e y2 ⟨rfl, hb⟩; have HX2 := Lib.hid (HX1.out.below hb); have HTb := Lib.hid (HTa.out.below hb); have hS2 := HX2.out.S; clear hb))
        all_goals
          clear HX0 HX1 HX2 hS0 hS1 hS2 HTa HT10 hne0 hco
          obtain ⟨m, hm⟩ : ∃ m : Nat, cut % 1024 = (m : Int) := ⟨(cut % 1024).toNat, by omega⟩
          have hm2 : m < 1024 := by omega
          go_wp2_with fail
          refine (decode_short _ m 1024 _ (by omega) (by omega)).mono ?_
          rintro e y3 ⟨rfl, hb⟩
          have HTc := Lib.hid (HTb.out.below hb)
          clear hb HTb hm
          go_upto_region 19 with (fail)
          have hTd := HTc.out.below (w' := y3.alloc (.cells #[.bool false, .slice none 0 0, .slice none 0 0] 25)) ((Below.refl _ _).alloc (Nat.le_refl _) _)
          obtain ⟨y4, hy4⟩ : ∃ y4, y4 = y3.alloc (.cells #[.bool false, .slice none 0 0, .slice none 0 0] 25) := ⟨_, rfl⟩
          rw [← hy4] at hTd ⊢
          have HTd := Lib.hid hTd
          have hTe := hTd.below (w' := y4.alloc (.cells #[.int .u8 0] 5)) ((Below.refl _ _).alloc (Nat.le_refl _) _)
          have HTe := Lib.hid hTe
          have HOe := Lib.hid (own_page hTe.pg hTe.len hTe.ge)
          have HSe := Lib.hid ((row_zero y4 (Nat.zero_le _)).src 1)
          have HLe := Lib.hid hTe.low.size
          clear hTd hTe hy4 HTc
          go_wp2_with (at_builtin; refine step_app rfl _ _ rfl HOe.out rfl HTe.out.len rfl rfl HSe.out (by omega) HLe.out ?_; intro A9 c9 y5 ho hg9 hor; have HL9 : Hid (Below w.heap.size w y5) := HTe.out.low.grown hg9 HLe.out (fun k hk => (by injection hk with hk; rw [← hk]; exact HTe.out.ge)); clear ho hg9 hor)
          refine (decode_short _ 1025 _ _ (by decide) (by decide)).mono ?_
          rintro e y6 ⟨rfl, hb⟩
          have HL10 := Lib.hid ((HL9.out.trans (hb.mono HL9.out.size)).alloc (Nat.le_trans HL9.out.size hb.size) (.cells #[.bool false, .slice none 0 0, .slice none 0 0] 25))
          clear hb
          go_wp2_with fail
          go_ret
          exact ⟨rfl, HL10.out⟩
end Go.Proofs.Ytnjdmaeoebihpaa

namespace Go.Proofs.Ytnjdmaeoebihpaa
open Go.RowKit Go.ChangeShapes Go.WideShapes Go.ChangeAt Go.Proofs.YtnjdmaeoebihpaaW.PrintWords Go.Proofs.YtnjdmaeoebihpaaW.PrintLast Go.Proofs.YtnjdmaeoebihpaaW.PrintMore
set_option linter.unusedVariables false
set_option linter.unusedSimpArgs false

theorem rd_none (w : World) : RdN w none 0 [] none 0 [] := ⟨Kd.C_nil _ _, Kd.C_nil _ _, Nat.le_refl _, Nat.le_refl _⟩
theorem both (bs : List UInt8) (hlen : bs.length = 1024) : Both bs := by
  by_cases hg : Good bs
  · have hb := hg.fits.bd
    refine ⟨true, lfOf bs, lsOf bs, ksOf bs, ⟨hb.len, hb.kids⟩, fun bb w hbb => ?_, fun bb w hbb => ?_⟩
    · refine (decode_any bb 1024 bs w hbb hlen (Nat.le_refl _)).mono ?_
      rintro e w' (⟨-, A, c, B, d, he, hs2, hi2, hbl⟩ | ⟨hng, -, -⟩)
      · exact ⟨A, c, B, d, he, ⟨hs2.reads.1, hi2.reads.1, hs2.reads.2, hi2.reads.2⟩, hbl⟩
      · exact absurd hg hng
    · refine (rread_any bb 1024 bs w hbb hlen (Nat.le_refl _)).mono ?_
      rintro e w' (⟨-, A, c, B, d, he, hr, hbl⟩ | ⟨hng, -, -⟩)
      · exact ⟨A, c, B, d, he, hr, hbl⟩
      · exact absurd hg hng
  · refine ⟨false, false, [], [], ⟨Nat.zero_le _, Nat.zero_le _⟩, fun bb w hbb => ?_, fun bb w hbb => ?_⟩
    · refine (decode_any bb 1024 bs w hbb hlen (Nat.le_refl _)).mono ?_
      rintro e w' (⟨hgg, -⟩ | ⟨-, he, hbl⟩)
      · exact absurd hgg hg
      · exact ⟨none, 0, none, 0, he, rd_none _, hbl⟩
    · refine (rread_any bb 1024 bs w hbb hlen (Nat.le_refl _)).mono ?_
      rintro e w' (⟨hgg, -⟩ | ⟨-, he, hbl⟩)
      · exact absurd hgg hg
      · exact ⟨none, 0, none, 0, he, rd_none _, hbl⟩
theorem pageReads_walk {H : Type} {enc : TypeId × Value → H} {sp0 sp1 : Nat → Bool} {hd0 hd1 : Bool} {d0 d1 : DataW H} {p0 p1 : List MemPlace} {b0 b1 : Nat} (v0 v1 : Value) (cut : Int) (w : World)
    (hv0 : Value.okWide Try.prog w .any b0 25 v0) (h0 : DataW.Trod enc Try.prog w 0 sp0 hd0 25 v0 d0 p0)
    (hv1 : Value.okWide Try.prog w .any b1 48 v1) (h1 : DataW.Trod enc Try.prog w 0 sp1 hd1 48 v1 d1 p1) (hc : (Lit.int .u16 cut).wf = true) :
    Calls Try.prog 6 #[v0, v1, .int .u16 cut] w fun e w' => e = .returned (.bool true) ∧ Below w.heap.size w w' := by
  obtain ⟨leaf, A, c, l, B, d, ks, rfl, hr, -⟩ := open_node hv0 h0
  obtain ⟨SA, sc, sp, rfl, hsp⟩ := open_spots hv1 h1
  exact pageReads_any leaf A c l B d ks SA sc sp cut w hr hsp hc both
end Go.Proofs.Ytnjdmaeoebihpaa
