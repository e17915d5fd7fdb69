/-
  Package undo: To, where there are that many.
-/
import Derived.Test.YtkanlcfinogaeaaUnTo
namespace Go.Proofs.Ytkanlcfinogaeaa
open Go.RowKit
set_option linter.unusedVariables false
set_option linter.unusedSimpArgs false

/-- The types of which To and Back write blocks that were there. -/
def TB (t : TypeId) : Prop := t = 64 ∨ t = 69
theorem TB.up {t : TypeId} (h : TB t) : TU t := h.elim .inl (fun h => .inr (.inr h))
/-- What To leaves and answers. -/
def ToPost (base l : Nat) (S : ULS) (m k : Nat) (w : World) (e : Ending) (w' : World) : Prop :=
  ∃ (A : Option Addr) (c : Nat) (J : List Img), e = .returned (.slice A J.length c) ∧ J.map Img.e = (S.entries.drop m).reverse ∧ w'.ownsRow w.heap.size 35 5 (.slice A J.length c) J.length (icells J) ∧ (∀ x ∈ J, x.Rd base w') ∧ UR base l { S with entries := S.entries.take m, saves := S.saves.take k } w' ∧ Frm TB base w w'
theorem mem_take {α : Type} {l : List α} {n : Nat} {x : α} (h : x ∈ l.take n) : x ∈ l := List.mem_of_mem_take h
theorem mem_drop {α : Type} {l : List α} {n : Nat} {x : α} (h : x ∈ l.drop n) : x ∈ l := List.mem_of_mem_drop h

set_option maxHeartbeats 2000000 in
theorem to_nilrow {base l : Nat} {S : ULS} {w : World} {I : List Img} {E : Option Addr} {ec : Nat} {sv : Value} (R : URep base l S I (.slice E I.length ec) sv w) (hl : S.entries.length ≤ 200000) (hsl : S.saves.length ≤ 100000) (n : Int) (m : Nat) (hm : (m : Int) = if 0 > n then 0 else n) (hme : m ≤ S.entries.length) (hE : E = none)
    (k : Nat) (h1 : ∀ (i : Nat) p, i < k → S.saves[i]? = some p → p.2 ≤ (m : Int)) (h2 : ∀ (i : Nat) p, k ≤ i → S.saves[i]? = some p → (m : Int) < p.2) (hk : k ≤ S.saves.length) :
    Calls Try.prog 17 #[.pointer (some ⟨l, 0, none⟩), .int .i64 n] w (ToPost base l S m k w) := by
  have hmf := @make_func Try.prog
  have hmax := fun ats t w => max0 n m hm ats t w
  have hil : I.length = S.entries.length := by rw [← R.ent]; simp
  have hle : base ≤ w.heap.size := UR.le ⟨_, _, _, R⟩
  have hmI : m ≤ I.length := by omega
  have hIl : I.length ≤ 200000 := by omega
  have hz : m = 0 ∧ ec = 0 ∧ I.length = 0 := by
    rcases R.eown.2 with ⟨h', h''⟩ | ⟨g', cap', cur, h', _⟩
    · injection h' with a b d
      exact ⟨by omega, d, b⟩
    · injection h' with a
      rw [hE] at a; cases a
  subst hE
  have HZ := Lib.hid hz
  clear hz
  obtain ⟨w1, hw1⟩ : ∃ w1, w1 = w.alloc (.cells #[.int .i64 (m : Int)] 3) := ⟨_, rfl⟩
  have hb1 : Below w.heap.size w w1 := by rw [hw1]; exact (Below.refl _ _).alloc (Nat.le_refl _) _
  have R1 : URep base l S I (.slice (none : Option Addr) I.length ec) sv w1 := R.frm (T := TN) (Frm.ofBelow hb1 (Nat.le_refl _)) hle (fun h => h) (fun h => h) (fun h => h) (fun h => h)
  have hbn : w1.heap[w.heap.size]? = some (.cells #[.int .i64 (m : Int)] 3) := by rw [hw1]; exact heap_alloc_new _ _
  have hnl : l < w.heap.size := lt_of_block R.blk
  have hd : decide ((S.entries.length : Int) < (m : Int)) = false := decide_eq_false (by omega)
  have hd2 : decide (S.entries.length < m) = false := decide_eq_false (by omega)
  have HU1 : Hid (UR base l S w1) := ⟨_, _, _, R1⟩
  have HIL := Lib.hid hil
  have HR1 := Lib.hid R1
  have HH1 := Lib.hid h1
  have HH2 := Lib.hid h2
  have HB1 := Lib.hid hb1
  have HBN := Lib.hid hbn
  clear R R1 h1 h2 hb1 hbn hm hil hme
  go_enter Try.func17, Try.ntmps17
  go_wp2_with fail
  rw [← hw1]
  obtain ⟨N, hN⟩ : ∃ N, N = w.heap.size := ⟨_, rfl⟩
  rw [← hN] at HBN hnl ⊢
  obtain ⟨cn, fn, nl⟩ := one_of_block HBN.out
  have HN := Lib.hid hN
  clear hw1 hN
  go_quiet ((go_at_call 19; exact Calls.quiet_of ((len_any (HU1.out.drewN _)).mono fun e w' h => ⟨h.1, 0, h.2.symm⟩)))
  go_wp2_with fail
  obtain ⟨w2, hw2⟩ : ∃ w2, w2 = w1.drewN nq := ⟨_, rfl⟩
  rw [← hw2]
  have hF2 : Frm TU base w w2 := by rw [hw2]; exact (Frm.ofBelow HB1.out hle).drewN nq
  have hG2 : Frm TB base w w2 := by rw [hw2]; exact (Frm.ofBelow HB1.out hle).drewN nq
  have HG2 := Lib.hid hG2
  clear hG2
  have hR2 : URep base l S I (.slice (none : Option Addr) I.length ec) sv w2 := by
    rw [hw2]
    exact HR1.out.frm (T := TN) (Frm.ofBelow (below_drewN (Below.refl _ _) nq) (Nat.le_refl _)) (Nat.le_trans hle HB1.out.size) (fun h => h) (fun h => h) (fun h => h) (fun h => h)
  have hcn : w2.heap[N]? = some (.cells #[.int .i64 (m : Int)] 3) := by rw [hw2]; exact HBN.out
  have hsz2 : w.heap.size ≤ w2.heap.size := hF2.low.size
  clear hw2 HR1 HU1 HB1 HBN cn fn nl
  obtain ⟨cn, fn, nl⟩ := one_of_block hcn
  obtain ⟨q0, q1, q2, -, -, -, hlt⟩ := three_of_block hR2.blk
  have hlec : I.length ≤ ec := by
    rcases hR2.eown.2 with ⟨h', h''⟩ | ⟨g', cap', cur, h', _, _, hnc, _⟩
    · omega
    · injection h' with a b d
      omega
  have HSRC : Hid (Src w2.drew (none : Option Addr) (I.length - m) (ec - m) (icells (I.drop m))) := by
    have hs : Src w2.drew (none : Option Addr) I.length ec (icells I) := Src.of hR2.eown
    have hz := HZ.out
    exact .inl ⟨rfl, by omega, by omega⟩
  have HJL : Hid ((icells (I.drop m)).length = (I.length - m) * 5) := (by rw [icells_len, List.length_drop] <;> omega : (icells (I.drop m)).length = (I.length - m) * 5)
  have HR2 := Lib.hid hR2
  have HF2 := Lib.hid hF2
  have HCN := Lib.hid hcn
  clear hR2 hF2 hcn
  have hS0 : w2.drew.cell? ⟨N, 0, none⟩ = some (.int .i64 (m : Int)) ∧ w2.drew.cell? ⟨l, 1, none⟩ = some (.slice (none : Option Addr) I.length ec) := ⟨cn, q1⟩
  have hml : (m : Int) ≤ (I.length : Int) := by omega
  have hmec : (m : Int) ≤ (ec : Int) := by omega
  go_region_held (fun w' => w'.cell? ⟨N, 0, none⟩ = some (.int .i64 (m : Int)) ∧ w'.cell? ⟨l, 1, none⟩ = some (.slice (none : Option Addr) I.length ec))
    (first | exact hS0 | assumption)
    ((go_at_call 27; refine (cloneE_any HSRC.out HJL.out (icells_one _) (by omega)).mono ?_; rintro e w3 ⟨A3, c3, rfl, ho3, hb3⟩; have HO3 := Lib.hid ho3; have HB3 : Hid (Below w2.heap.size w2 w3) := (below_drewN (Below.refl w2.heap.size w2) 1).trans hb3; have hS3 : w3.cell? ⟨N, 0, none⟩ = some (.int .i64 (m : Int)) ∧ w3.cell? ⟨l, 1, none⟩ = some (.slice (none : Option Addr) I.length ec) := ⟨(World.cell?_of_block (w := w2) (a := ⟨N, 0, none⟩) (HB3.out.block N nl)).trans cn, (World.cell?_of_block (w := w2) (a := ⟨l, 1, none⟩) (HB3.out.block l hlt)).trans q1⟩; clear ho3 hb3))
  go_wp2_with fail
  have hO3 : w3.ownsRow w2.heap.size 35 5 (.slice A3 (I.drop m).length c3) (I.drop m).length (icells (I.drop m)) := by
    have hdl : (I.drop m).length = (I.length - m) := by rw [List.length_drop] <;> omega
    rw [hdl]
    exact HO3.out
  have hdl : (I.drop m).length = (I.length - m) := by rw [List.length_drop] <;> omega
  have hrev := rev_any (I.drop m) hO3 (by omega)
  rw [hdl] at hrev
  have HREV := Lib.hid hrev
  have HDL := Lib.hid hdl
  clear hrev hdl hO3
  refine HREV.out.mono ?_
  rintro e w4 ⟨rfl, ho4, hc4⟩
  have hle2 : base ≤ w2.heap.size := Nat.le_trans hle hsz2
  have hle3 : base ≤ w3.heap.size := Nat.le_trans hle2 HB3.out.size
  have hR3 : URep base l S I (.slice (none : Option Addr) I.length ec) sv w3 := HR2.out.frm (T := TN) (Frm.ofBelow HB3.out (Nat.le_refl _)) hle2 (fun h => h) (fun h => h) (fun h => h) (fun h => h)
  have hlow : ∀ b, b < w2.heap.size → w4.heap[b]? = w2.heap[b]? := fun b hb => (hc4.block b (Nat.lt_of_lt_of_le hb HB3.out.size) (fun hv => by
    have := (own_at HO3.out hv).1
    have hx : w2.drew.heap.size = w2.heap.size := rfl
    omega)).trans (HB3.out.block b hb)
  have hF4 : Frm TU base w2 w4 := (Frm.ofBelow HB3.out hle2).trans (Frm.ofChg (owns_up HO3.out hle2) hc4 (.inr (.inl rfl)) hle3)
  have hR4 : URep base l S I (.slice (none : Option Addr) I.length ec) sv w4 :=
    ⟨HR2.out.lo, (hlow l hlt).trans HR2.out.blk, owns_same HR2.out.eown fun b hb => hlow b (HR2.out.eown.lt b hb).2, HR2.out.ent, fun x hx => (HR2.out.rd x hx).frm hF4 (by unfold TU; decide) (Nat.le_refl _), owns_same HR2.out.sown fun b hb => hlow b (HR2.out.sown.lt b hb).2⟩
  have hcn4 : w4.heap[N]? = some (.cells #[.int .i64 (m : Int)] 3) := (hlow N nl).trans HCN.out
  have hsz4 : w2.heap.size ≤ w4.heap.size := Nat.le_trans HB3.out.size hc4.size
  have HO4 := Lib.hid ho4
  have HF4 := Lib.hid hF4
  have HR4 := Lib.hid hR4
  have HCN4 := Lib.hid hcn4
  have HLOW := Lib.hid hlow
  have HG4 : Hid (Frm TB base w2 w4) := ⟨HF4.out.low, fun k cs t fr hk ht => (HLOW.out k (lt_of_block hk)).trans hk⟩
  clear ho4 hc4 hR3 hlow hF4 hR4 hcn4 hS3 hS0 cn fn q0 q1 q2
  obtain ⟨cn4, fn4, nl4⟩ := one_of_block HCN4.out
  obtain ⟨p0, p1, p2, s0, s1, s2, hlt4⟩ := three_of_block HR4.out.blk
  have HSRC4 : Hid (Src w4.drew (none : Option Addr) m ec (icells (I.take m))) := by
    have hs : Src w4.drew (none : Option Addr) I.length ec (icells I) := Src.of HR4.out.eown
    rcases hs with ⟨e1, e2, e3⟩ | ⟨ad, e1, hs⟩
    · exact .inl ⟨e1, by omega, e3⟩
    · refine .inr ⟨ad, e1, fun j u hj => hs j u ?_⟩
      rw [← icells_take I m hmI, List.getElem?_take] at hj
      split at hj
      · exact hj
      · cases hj
  have HJL4 : Hid ((icells (I.take m)).length = m * 5) := (by rw [icells_len, List.length_take, Nat.min_eq_left hmI] : (icells (I.take m)).length = m * 5)
  have hNl : N ≠ l := by omega
  have hT0 : w4.drew.cell? ⟨N, 0, none⟩ = some (.int .i64 (m : Int)) := cn4
  go_wp2_with fail
  go_region_with
    ((go_at_call 27; refine (cloneE_any HSRC4.out HJL4.out (icells_one _) (by omega)).mono ?_; rintro e w5 ⟨A5, c5, rfl, ho5, hb5⟩; have HO5 := Lib.hid ho5; have HB5 : Hid (Below w4.heap.size w4 w5) := (below_drewN (Below.refl w4.heap.size w4) 1).trans hb5; have hT5 : w5.cell? ⟨N, 0, none⟩ = some (.int .i64 (m : Int)) := (World.cell?_of_block (w := w4) (a := ⟨N, 0, none⟩) (HB5.out.block N nl4)).trans cn4; have HKEEP := Lib.hid (fun v => (World.cell?_setCell_other w5 ⟨l, 1, none⟩ ⟨N, 0, none⟩ v (fun e => hNl (congrArg Addr.block e).symm)).trans hT5); obtain ⟨r0, r1, r2, z0, z1, z2, hlt5⟩ := three_of_block ((HB5.out.block l hlt4).trans HR4.out.blk); clear ho5 hb5))
  all_goals
    have hle4 : base ≤ w4.heap.size := Nat.le_trans hle2 hsz4
    have hO5 : w5.ownsRow base 35 5 (.slice A5 m c5) (I.take m).length (icells (I.take m)) := by
      rw [List.length_take, Nat.min_eq_left hmI]
      exact owns_up HO5.out hle4
    have hset := HR4.out.eset (Frm.ofBelow HB5.out hle4) (HB5.out.block l hlt4) (fun b hb => HB5.out.block b (HR4.out.sown.lt b hb).2) hO5 (fun x hx => (HR4.out.rd x (mem_take hx)).frm (T := TN) (Frm.ofBelow HB5.out (Nat.le_refl _)) (fun h => h) hle4)
    have hent : (I.take m).map Img.e = S.entries.take m := by rw [List.map_take, HR4.out.ent]
    rw [hent] at hset
    obtain ⟨w6, hw6⟩ : ∃ w6, w6 = w5.setCell ⟨l, 1, none⟩ (.slice A5 m c5) := ⟨_, rfl⟩
    rw [← hw6] at hset
    have HG6 : Hid (Frm TB base w4 w6) := (by rw [hw6]; exact (Frm.ofBelow HB5.out hle4).trans (Frm.setCell ((HB5.out.block l hlt4).trans HR4.out.blk) (.inl rfl) HR4.out.lo _ _) : Frm TB base w4 w6)
    have hc6 : w6.cell? ⟨N, 0, none⟩ = some (.int .i64 (m : Int)) := by rw [hw6]; exact HKEEP.out _
    have hlow6 : ∀ b, b < w4.heap.size → b ≠ l → w6.heap[b]? = w4.heap[b]? := fun b hb hbl => by
      rw [hw6]
      exact (Below.heap_setCell _ _ _ _ hbl).trans (HB5.out.block b hb)
    have hsz6 : w4.heap.size ≤ w6.heap.size := by rw [hw6]; simp; exact HB5.out.size
    rw [← hw6]
    have HLOW6 := Lib.hid hlow6
    have HR6 := Lib.hid hset.1
    have HF6 := Lib.hid hset.2
    clear hset hw6 hlow6 hO5 hent HKEEP r0 r1 r2 z0 z1 z2 hlt5 p0 p1 p2 s0 s1 s2 hT5 hT0 cn4 fn4
    obtain ⟨SA, sc, rfl⟩ := own_form HR6.out.sown
    obtain ⟨p0, p1, p2, s0, s1, s2, hlt6⟩ := three_of_block HR6.out.blk
    go_wp2_with fail
    refine (del_any S.saves HR6.out.sown hsl (m : Int) N hc6 k HH1.out HH2.out hk).mono ?_
    rintro e w7 ⟨rfl, ho7, hc7⟩
    have hle6 : base ≤ w6.heap.size := Nat.le_trans hle4 hsz6
    have hF7 : Frm TU base w6 w7 := Frm.ofChg HR6.out.sown hc7 (.inr (.inr rfl)) hle6
    have hl7 : w7.heap[l]? = w6.heap[l]? := hc7.block l hlt6 (fun hv => HR6.out.ne.2.1 l hv rfl)
    have he7 : ∀ b, (Value.slice A5 m c5).ownBlock = some b → w7.heap[b]? = w6.heap[b]? := fun b hb => hc7.block b (HR6.out.eown.lt b hb).2 (fun hv => HR6.out.ne.2.2 b hb hv)
    have hset := HR6.out.sset hF7 hl7 he7 (L := S.saves.take k) (sv' := .slice SA k sc) (by
      rw [List.length_take, Nat.min_eq_left hk]
      exact ho7)
    have HL7 := Lib.hid (hl7.trans HR6.out.blk)
    have HG8 : Hid (Frm TB base w6 (w7.setCell ⟨l, 2, none⟩ (.slice SA k sc))) := ((Frm.ofChg HR6.out.sown hc7 (.inr rfl) hle6).trans (Frm.setCell HL7.out (.inl rfl) HR6.out.lo _ _) : Frm TB base w6 (w7.setCell ⟨l, 2, none⟩ (.slice SA k sc)))
    have HE7 := Lib.hid hc7
    have HS8 := Lib.hid hset
    clear ho7 hc7 hF7 hl7 he7 hset p0 p1 p2 s0 s1 s2 hc6
    obtain ⟨p0, p1, p2, s0, s1, s2, hlt7⟩ := three_of_block HL7.out
    go_wp2_with fail
    go_ret
    have hJl : (I.drop m).reverse.length = (I.length - m) := by rw [List.length_reverse, List.length_drop] <;> omega
    have hFz : Frm TU base w2 (w7.setCell ⟨l, 2, none⟩ (.slice SA k sc)) := (HF4.out.trans HF6.out).trans HS8.out.2
    have hkeep : ∀ b, (Value.slice A3 (I.length - m) c3).ownBlock = some b → (w7.setCell ⟨l, 2, none⟩ (.slice SA k sc)).heap[b]? = w4.heap[b]? := fun b hb => by
      obtain ⟨hlo, cs, h4⟩ := own_at HO4.out hb
      have hx : w2.drew.heap.size = w2.heap.size := rfl
      have hbl : b ≠ l := by omega
      have hb4 := lt_of_block h4
      have h6 : w6.heap[b]? = some (.cells cs 35) := (HLOW6.out b hb4 hbl).trans h4
      refine (Below.heap_setCell _ _ _ _ hbl).trans ((HE7.out.block b (lt_of_block h6) (fun hv => ?_)).trans (HLOW6.out b hb4 hbl))
      obtain ⟨_, cs', h1⟩ := own_at HR6.out.sown hv
      rw [h6] at h1
      injection h1 with h1
      injection h1 with _ h1
      exact absurd h1 (by decide)
    refine ⟨A3, c3, (I.drop m).reverse, by rw [hJl]; rfl, by rw [List.map_reverse, List.map_drop, HR2.out.ent], ?_, fun x hx => (HR2.out.rd x (mem_drop (List.mem_reverse.1 hx))).frm hFz (by unfold TU; decide) (Nat.le_refl _), ⟨_, _, _, HS8.out.1⟩, HG2.out.trans ((HG4.out.trans HG6.out).trans HG8.out)⟩
    rw [hJl]
    exact owns_up (owns_same HO4.out hkeep) hsz2

set_option maxHeartbeats 2000000 in
theorem to_end {base l : Nat} {S : ULS} {w : World} {I : List Img} {E : Option Addr} {ec : Nat} {sv : Value} (R : URep base l S I (.slice E I.length ec) sv w) (hl : S.entries.length ≤ 200000) (hsl : S.saves.length ≤ 100000) (n : Int) (m : Nat) (hm : (m : Int) = if 0 > n then 0 else n) (hme : m ≤ S.entries.length) (g : Nat) (hE : E = some ⟨g, 0, none⟩) (hcut : m = ec)
    (k : Nat) (h1 : ∀ (i : Nat) p, i < k → S.saves[i]? = some p → p.2 ≤ (m : Int)) (h2 : ∀ (i : Nat) p, k ≤ i → S.saves[i]? = some p → (m : Int) < p.2) (hk : k ≤ S.saves.length) :
    Calls Try.prog 17 #[.pointer (some ⟨l, 0, none⟩), .int .i64 n] w (ToPost base l S m k w) := by
  have hmf := @make_func Try.prog
  have hmax := fun ats t w => max0 n m hm ats t w
  have hil : I.length = S.entries.length := by rw [← R.ent]; simp
  have hle : base ≤ w.heap.size := UR.le ⟨_, _, _, R⟩
  have hmI : m ≤ I.length := by omega
  have hIl : I.length ≤ 200000 := by omega
  subst hE
  subst hcut
  obtain ⟨w1, hw1⟩ : ∃ w1, w1 = w.alloc (.cells #[.int .i64 (m : Int)] 3) := ⟨_, rfl⟩
  have hb1 : Below w.heap.size w w1 := by rw [hw1]; exact (Below.refl _ _).alloc (Nat.le_refl _) _
  have R1 : URep base l S I (.slice (some ⟨g, 0, none⟩) I.length m) sv w1 := R.frm (T := TN) (Frm.ofBelow hb1 (Nat.le_refl _)) hle (fun h => h) (fun h => h) (fun h => h) (fun h => h)
  have hbn : w1.heap[w.heap.size]? = some (.cells #[.int .i64 (m : Int)] 3) := by rw [hw1]; exact heap_alloc_new _ _
  have hnl : l < w.heap.size := lt_of_block R.blk
  have hd : decide ((S.entries.length : Int) < (m : Int)) = false := decide_eq_false (by omega)
  have hd2 : decide (S.entries.length < m) = false := decide_eq_false (by omega)
  have HU1 : Hid (UR base l S w1) := ⟨_, _, _, R1⟩
  have HIL := Lib.hid hil
  have HR1 := Lib.hid R1
  have HH1 := Lib.hid h1
  have HH2 := Lib.hid h2
  have HB1 := Lib.hid hb1
  have HBN := Lib.hid hbn
  clear R R1 h1 h2 hb1 hbn hm hil hme
  go_enter Try.func17, Try.ntmps17
  go_wp2_with fail
  rw [← hw1]
  obtain ⟨N, hN⟩ : ∃ N, N = w.heap.size := ⟨_, rfl⟩
  rw [← hN] at HBN hnl ⊢
  obtain ⟨cn, fn, nl⟩ := one_of_block HBN.out
  have HN := Lib.hid hN
  clear hw1 hN
  go_quiet ((go_at_call 19; exact Calls.quiet_of ((len_any (HU1.out.drewN _)).mono fun e w' h => ⟨h.1, 0, h.2.symm⟩)))
  go_wp2_with fail
  obtain ⟨w2, hw2⟩ : ∃ w2, w2 = w1.drewN nq := ⟨_, rfl⟩
  rw [← hw2]
  have hF2 : Frm TU base w w2 := by rw [hw2]; exact (Frm.ofBelow HB1.out hle).drewN nq
  have hG2 : Frm TB base w w2 := by rw [hw2]; exact (Frm.ofBelow HB1.out hle).drewN nq
  have HG2 := Lib.hid hG2
  clear hG2
  have hR2 : URep base l S I (.slice (some ⟨g, 0, none⟩) I.length m) sv w2 := by
    rw [hw2]
    exact HR1.out.frm (T := TN) (Frm.ofBelow (below_drewN (Below.refl _ _) nq) (Nat.le_refl _)) (Nat.le_trans hle HB1.out.size) (fun h => h) (fun h => h) (fun h => h) (fun h => h)
  have hcn : w2.heap[N]? = some (.cells #[.int .i64 (m : Int)] 3) := by rw [hw2]; exact HBN.out
  have hsz2 : w.heap.size ≤ w2.heap.size := hF2.low.size
  clear hw2 HR1 HU1 HB1 HBN cn fn nl
  obtain ⟨cn, fn, nl⟩ := one_of_block hcn
  obtain ⟨q0, q1, q2, -, -, -, hlt⟩ := three_of_block hR2.blk
  have hlec : I.length ≤ m := by
    rcases hR2.eown.2 with ⟨h', h''⟩ | ⟨g', cap', cur, h', _, _, hnc, _⟩
    · omega
    · injection h' with a b d
      omega
  have HSRC : Hid (Src w2.drew (some ⟨g, 0, none⟩) 0 0 (icells (I.drop m))) := by
    have hs : Src w2.drew (some ⟨g, 0, none⟩) I.length m (icells I) := Src.of hR2.eown
    refine .inr ⟨⟨g, 0, none⟩, rfl, fun j u hj => ?_⟩
    rw [List.drop_of_length_le (by omega)] at hj
    simp [icells] at hj
  have HJL : Hid ((icells (I.drop m)).length = 0 * 5) := (by rw [icells_len, List.length_drop] <;> omega : (icells (I.drop m)).length = 0 * 5)
  have HR2 := Lib.hid hR2
  have HF2 := Lib.hid hF2
  have HCN := Lib.hid hcn
  clear hR2 hF2 hcn
  have hS0 : w2.drew.cell? ⟨N, 0, none⟩ = some (.int .i64 (m : Int)) ∧ w2.drew.cell? ⟨l, 1, none⟩ = some (.slice (some ⟨g, 0, none⟩) I.length m) := ⟨cn, q1⟩
  have hml : (m : Int) ≤ (I.length : Int) := by omega
  have hmec : (m : Int) ≤ (m : Int) := by omega
  go_region_held (fun w' => w'.cell? ⟨N, 0, none⟩ = some (.int .i64 (m : Int)) ∧ w'.cell? ⟨l, 1, none⟩ = some (.slice (some ⟨g, 0, none⟩) I.length m))
    (first | exact hS0 | assumption)
    ((go_at_call 27; refine (cloneE_any HSRC.out HJL.out (icells_one _) (by omega)).mono ?_; rintro e w3 ⟨A3, c3, rfl, ho3, hb3⟩; have HO3 := Lib.hid ho3; have HB3 : Hid (Below w2.heap.size w2 w3) := (below_drewN (Below.refl w2.heap.size w2) 1).trans hb3; have hS3 : w3.cell? ⟨N, 0, none⟩ = some (.int .i64 (m : Int)) ∧ w3.cell? ⟨l, 1, none⟩ = some (.slice (some ⟨g, 0, none⟩) I.length m) := ⟨(World.cell?_of_block (w := w2) (a := ⟨N, 0, none⟩) (HB3.out.block N nl)).trans cn, (World.cell?_of_block (w := w2) (a := ⟨l, 1, none⟩) (HB3.out.block l hlt)).trans q1⟩; clear ho3 hb3))
  go_wp2_with fail
  have hO3 : w3.ownsRow w2.heap.size 35 5 (.slice A3 (I.drop m).length c3) (I.drop m).length (icells (I.drop m)) := by
    have hdl : (I.drop m).length = 0 := by rw [List.length_drop] <;> omega
    rw [hdl]
    exact HO3.out
  have hdl : (I.drop m).length = 0 := by rw [List.length_drop] <;> omega
  have hrev := rev_any (I.drop m) hO3 (by omega)
  rw [hdl] at hrev
  have HREV := Lib.hid hrev
  have HDL := Lib.hid hdl
  clear hrev hdl hO3
  refine HREV.out.mono ?_
  rintro e w4 ⟨rfl, ho4, hc4⟩
  have hle2 : base ≤ w2.heap.size := Nat.le_trans hle hsz2
  have hle3 : base ≤ w3.heap.size := Nat.le_trans hle2 HB3.out.size
  have hR3 : URep base l S I (.slice (some ⟨g, 0, none⟩) I.length m) sv w3 := HR2.out.frm (T := TN) (Frm.ofBelow HB3.out (Nat.le_refl _)) hle2 (fun h => h) (fun h => h) (fun h => h) (fun h => h)
  have hlow : ∀ b, b < w2.heap.size → w4.heap[b]? = w2.heap[b]? := fun b hb => (hc4.block b (Nat.lt_of_lt_of_le hb HB3.out.size) (fun hv => by
    have := (own_at HO3.out hv).1
    have hx : w2.drew.heap.size = w2.heap.size := rfl
    omega)).trans (HB3.out.block b hb)
  have hF4 : Frm TU base w2 w4 := (Frm.ofBelow HB3.out hle2).trans (Frm.ofChg (owns_up HO3.out hle2) hc4 (.inr (.inl rfl)) hle3)
  have hR4 : URep base l S I (.slice (some ⟨g, 0, none⟩) I.length m) sv w4 :=
    ⟨HR2.out.lo, (hlow l hlt).trans HR2.out.blk, owns_same HR2.out.eown fun b hb => hlow b (HR2.out.eown.lt b hb).2, HR2.out.ent, fun x hx => (HR2.out.rd x hx).frm hF4 (by unfold TU; decide) (Nat.le_refl _), owns_same HR2.out.sown fun b hb => hlow b (HR2.out.sown.lt b hb).2⟩
  have hcn4 : w4.heap[N]? = some (.cells #[.int .i64 (m : Int)] 3) := (hlow N nl).trans HCN.out
  have hsz4 : w2.heap.size ≤ w4.heap.size := Nat.le_trans HB3.out.size hc4.size
  have HO4 := Lib.hid ho4
  have HF4 := Lib.hid hF4
  have HR4 := Lib.hid hR4
  have HCN4 := Lib.hid hcn4
  have HLOW := Lib.hid hlow
  have HG4 : Hid (Frm TB base w2 w4) := ⟨HF4.out.low, fun k cs t fr hk ht => (HLOW.out k (lt_of_block hk)).trans hk⟩
  clear ho4 hc4 hR3 hlow hF4 hR4 hcn4 hS3 hS0 cn fn q0 q1 q2
  obtain ⟨cn4, fn4, nl4⟩ := one_of_block HCN4.out
  obtain ⟨p0, p1, p2, s0, s1, s2, hlt4⟩ := three_of_block HR4.out.blk
  have HSRC4 : Hid (Src w4.drew (some ⟨g, 0, none⟩) m m (icells (I.take m))) := by
    have hs : Src w4.drew (some ⟨g, 0, none⟩) I.length m (icells I) := Src.of HR4.out.eown
    rcases hs with ⟨e1, e2, e3⟩ | ⟨ad, e1, hs⟩
    · exact .inl ⟨e1, by omega, e3⟩
    · refine .inr ⟨ad, e1, fun j u hj => hs j u ?_⟩
      rw [← icells_take I m hmI, List.getElem?_take] at hj
      split at hj
      · exact hj
      · cases hj
  have HJL4 : Hid ((icells (I.take m)).length = m * 5) := (by rw [icells_len, List.length_take, Nat.min_eq_left hmI] : (icells (I.take m)).length = m * 5)
  have hNl : N ≠ l := by omega
  have hT0 : w4.drew.cell? ⟨N, 0, none⟩ = some (.int .i64 (m : Int)) := cn4
  go_wp2_with fail
  go_region_with
    ((go_at_call 27; refine (cloneE_any HSRC4.out HJL4.out (icells_one _) (by omega)).mono ?_; rintro e w5 ⟨A5, c5, rfl, ho5, hb5⟩; have HO5 := Lib.hid ho5; have HB5 : Hid (Below w4.heap.size w4 w5) := (below_drewN (Below.refl w4.heap.size w4) 1).trans hb5; have hT5 : w5.cell? ⟨N, 0, none⟩ = some (.int .i64 (m : Int)) := (World.cell?_of_block (w := w4) (a := ⟨N, 0, none⟩) (HB5.out.block N nl4)).trans cn4; have HKEEP := Lib.hid (fun v => (World.cell?_setCell_other w5 ⟨l, 1, none⟩ ⟨N, 0, none⟩ v (fun e => hNl (congrArg Addr.block e).symm)).trans hT5); obtain ⟨r0, r1, r2, z0, z1, z2, hlt5⟩ := three_of_block ((HB5.out.block l hlt4).trans HR4.out.blk); clear ho5 hb5))
  all_goals
    have hle4 : base ≤ w4.heap.size := Nat.le_trans hle2 hsz4
    have hO5 : w5.ownsRow base 35 5 (.slice A5 m c5) (I.take m).length (icells (I.take m)) := by
      rw [List.length_take, Nat.min_eq_left hmI]
      exact owns_up HO5.out hle4
    have hset := HR4.out.eset (Frm.ofBelow HB5.out hle4) (HB5.out.block l hlt4) (fun b hb => HB5.out.block b (HR4.out.sown.lt b hb).2) hO5 (fun x hx => (HR4.out.rd x (mem_take hx)).frm (T := TN) (Frm.ofBelow HB5.out (Nat.le_refl _)) (fun h => h) hle4)
    have hent : (I.take m).map Img.e = S.entries.take m := by rw [List.map_take, HR4.out.ent]
    rw [hent] at hset
    obtain ⟨w6, hw6⟩ : ∃ w6, w6 = w5.setCell ⟨l, 1, none⟩ (.slice A5 m c5) := ⟨_, rfl⟩
    rw [← hw6] at hset
    have HG6 : Hid (Frm TB base w4 w6) := (by rw [hw6]; exact (Frm.ofBelow HB5.out hle4).trans (Frm.setCell ((HB5.out.block l hlt4).trans HR4.out.blk) (.inl rfl) HR4.out.lo _ _) : Frm TB base w4 w6)
    have hc6 : w6.cell? ⟨N, 0, none⟩ = some (.int .i64 (m : Int)) := by rw [hw6]; exact HKEEP.out _
    have hlow6 : ∀ b, b < w4.heap.size → b ≠ l → w6.heap[b]? = w4.heap[b]? := fun b hb hbl => by
      rw [hw6]
      exact (Below.heap_setCell _ _ _ _ hbl).trans (HB5.out.block b hb)
    have hsz6 : w4.heap.size ≤ w6.heap.size := by rw [hw6]; simp; exact HB5.out.size
    rw [← hw6]
    have HLOW6 := Lib.hid hlow6
    have HR6 := Lib.hid hset.1
    have HF6 := Lib.hid hset.2
    clear hset hw6 hlow6 hO5 hent HKEEP r0 r1 r2 z0 z1 z2 hlt5 p0 p1 p2 s0 s1 s2 hT5 hT0 cn4 fn4
    obtain ⟨SA, sc, rfl⟩ := own_form HR6.out.sown
    obtain ⟨p0, p1, p2, s0, s1, s2, hlt6⟩ := three_of_block HR6.out.blk
    go_wp2_with fail
    refine (del_any S.saves HR6.out.sown hsl (m : Int) N hc6 k HH1.out HH2.out hk).mono ?_
    rintro e w7 ⟨rfl, ho7, hc7⟩
    have hle6 : base ≤ w6.heap.size := Nat.le_trans hle4 hsz6
    have hF7 : Frm TU base w6 w7 := Frm.ofChg HR6.out.sown hc7 (.inr (.inr rfl)) hle6
    have hl7 : w7.heap[l]? = w6.heap[l]? := hc7.block l hlt6 (fun hv => HR6.out.ne.2.1 l hv rfl)
    have he7 : ∀ b, (Value.slice A5 m c5).ownBlock = some b → w7.heap[b]? = w6.heap[b]? := fun b hb => hc7.block b (HR6.out.eown.lt b hb).2 (fun hv => HR6.out.ne.2.2 b hb hv)
    have hset := HR6.out.sset hF7 hl7 he7 (L := S.saves.take k) (sv' := .slice SA k sc) (by
      rw [List.length_take, Nat.min_eq_left hk]
      exact ho7)
    have HL7 := Lib.hid (hl7.trans HR6.out.blk)
    have HG8 : Hid (Frm TB base w6 (w7.setCell ⟨l, 2, none⟩ (.slice SA k sc))) := ((Frm.ofChg HR6.out.sown hc7 (.inr rfl) hle6).trans (Frm.setCell HL7.out (.inl rfl) HR6.out.lo _ _) : Frm TB base w6 (w7.setCell ⟨l, 2, none⟩ (.slice SA k sc)))
    have HE7 := Lib.hid hc7
    have HS8 := Lib.hid hset
    clear ho7 hc7 hF7 hl7 he7 hset p0 p1 p2 s0 s1 s2 hc6
    obtain ⟨p0, p1, p2, s0, s1, s2, hlt7⟩ := three_of_block HL7.out
    go_wp2_with fail
    go_ret
    have hJl : (I.drop m).reverse.length = 0 := by rw [List.length_reverse, List.length_drop] <;> omega
    have hFz : Frm TU base w2 (w7.setCell ⟨l, 2, none⟩ (.slice SA k sc)) := (HF4.out.trans HF6.out).trans HS8.out.2
    have hkeep : ∀ b, (Value.slice A3 0 c3).ownBlock = some b → (w7.setCell ⟨l, 2, none⟩ (.slice SA k sc)).heap[b]? = w4.heap[b]? := fun b hb => by
      obtain ⟨hlo, cs, h4⟩ := own_at HO4.out hb
      have hx : w2.drew.heap.size = w2.heap.size := rfl
      have hbl : b ≠ l := by omega
      have hb4 := lt_of_block h4
      have h6 : w6.heap[b]? = some (.cells cs 35) := (HLOW6.out b hb4 hbl).trans h4
      refine (Below.heap_setCell _ _ _ _ hbl).trans ((HE7.out.block b (lt_of_block h6) (fun hv => ?_)).trans (HLOW6.out b hb4 hbl))
      obtain ⟨_, cs', h1⟩ := own_at HR6.out.sown hv
      rw [h6] at h1
      injection h1 with h1
      injection h1 with _ h1
      exact absurd h1 (by decide)
    refine ⟨A3, c3, (I.drop m).reverse, by rw [hJl]; rfl, by rw [List.map_reverse, List.map_drop, HR2.out.ent], ?_, fun x hx => (HR2.out.rd x (mem_drop (List.mem_reverse.1 hx))).frm hFz (by unfold TU; decide) (Nat.le_refl _), ⟨_, _, _, HS8.out.1⟩, HG2.out.trans ((HG4.out.trans HG6.out).trans HG8.out)⟩
    rw [hJl]
    exact owns_up (owns_same HO4.out hkeep) hsz2

set_option maxHeartbeats 2000000 in
theorem to_within {base l : Nat} {S : ULS} {w : World} {I : List Img} {E : Option Addr} {ec : Nat} {sv : Value} (R : URep base l S I (.slice E I.length ec) sv w) (hl : S.entries.length ≤ 200000) (hsl : S.saves.length ≤ 100000) (n : Int) (m : Nat) (hm : (m : Int) = if 0 > n then 0 else n) (hme : m ≤ S.entries.length) (g : Nat) (hE : E = some ⟨g, 0, none⟩) (hcut : ¬ m = ec)
    (k : Nat) (h1 : ∀ (i : Nat) p, i < k → S.saves[i]? = some p → p.2 ≤ (m : Int)) (h2 : ∀ (i : Nat) p, k ≤ i → S.saves[i]? = some p → (m : Int) < p.2) (hk : k ≤ S.saves.length) :
    Calls Try.prog 17 #[.pointer (some ⟨l, 0, none⟩), .int .i64 n] w (ToPost base l S m k w) := by
  have hmf := @make_func Try.prog
  have hmax := fun ats t w => max0 n m hm ats t w
  have hil : I.length = S.entries.length := by rw [← R.ent]; simp
  have hle : base ≤ w.heap.size := UR.le ⟨_, _, _, R⟩
  have hmI : m ≤ I.length := by omega
  have hIl : I.length ≤ 200000 := by omega
  subst hE
  obtain ⟨w1, hw1⟩ : ∃ w1, w1 = w.alloc (.cells #[.int .i64 (m : Int)] 3) := ⟨_, rfl⟩
  have hb1 : Below w.heap.size w w1 := by rw [hw1]; exact (Below.refl _ _).alloc (Nat.le_refl _) _
  have R1 : URep base l S I (.slice (some ⟨g, 0, none⟩) I.length ec) sv w1 := R.frm (T := TN) (Frm.ofBelow hb1 (Nat.le_refl _)) hle (fun h => h) (fun h => h) (fun h => h) (fun h => h)
  have hbn : w1.heap[w.heap.size]? = some (.cells #[.int .i64 (m : Int)] 3) := by rw [hw1]; exact heap_alloc_new _ _
  have hnl : l < w.heap.size := lt_of_block R.blk
  have hd : decide ((S.entries.length : Int) < (m : Int)) = false := decide_eq_false (by omega)
  have hd2 : decide (S.entries.length < m) = false := decide_eq_false (by omega)
  have HU1 : Hid (UR base l S w1) := ⟨_, _, _, R1⟩
  have HIL := Lib.hid hil
  have HR1 := Lib.hid R1
  have HH1 := Lib.hid h1
  have HH2 := Lib.hid h2
  have HB1 := Lib.hid hb1
  have HBN := Lib.hid hbn
  clear R R1 h1 h2 hb1 hbn hm hil hme
  go_enter Try.func17, Try.ntmps17
  go_wp2_with fail
  rw [← hw1]
  obtain ⟨N, hN⟩ : ∃ N, N = w.heap.size := ⟨_, rfl⟩
  rw [← hN] at HBN hnl ⊢
  obtain ⟨cn, fn, nl⟩ := one_of_block HBN.out
  have HN := Lib.hid hN
  clear hw1 hN
  go_quiet ((go_at_call 19; exact Calls.quiet_of ((len_any (HU1.out.drewN _)).mono fun e w' h => ⟨h.1, 0, h.2.symm⟩)))
  go_wp2_with fail
  obtain ⟨w2, hw2⟩ : ∃ w2, w2 = w1.drewN nq := ⟨_, rfl⟩
  rw [← hw2]
  have hF2 : Frm TU base w w2 := by rw [hw2]; exact (Frm.ofBelow HB1.out hle).drewN nq
  have hG2 : Frm TB base w w2 := by rw [hw2]; exact (Frm.ofBelow HB1.out hle).drewN nq
  have HG2 := Lib.hid hG2
  clear hG2
  have hR2 : URep base l S I (.slice (some ⟨g, 0, none⟩) I.length ec) sv w2 := by
    rw [hw2]
    exact HR1.out.frm (T := TN) (Frm.ofBelow (below_drewN (Below.refl _ _) nq) (Nat.le_refl _)) (Nat.le_trans hle HB1.out.size) (fun h => h) (fun h => h) (fun h => h) (fun h => h)
  have hcn : w2.heap[N]? = some (.cells #[.int .i64 (m : Int)] 3) := by rw [hw2]; exact HBN.out
  have hsz2 : w.heap.size ≤ w2.heap.size := hF2.low.size
  clear hw2 HR1 HU1 HB1 HBN cn fn nl
  obtain ⟨cn, fn, nl⟩ := one_of_block hcn
  obtain ⟨q0, q1, q2, -, -, -, hlt⟩ := three_of_block hR2.blk
  have hlec : I.length ≤ ec := by
    rcases hR2.eown.2 with ⟨h', h''⟩ | ⟨g', cap', cur, h', _, _, hnc, _⟩
    · omega
    · injection h' with a b d
      omega
  have HSRC : Hid (Src w2.drew (some ⟨g, m * 5, none⟩) (I.length - m) (ec - m) (icells (I.drop m))) := by
    have hs : Src w2.drew (some ⟨g, 0, none⟩) I.length ec (icells I) := Src.of hR2.eown
    rcases hs with ⟨e1, _⟩ | ⟨ad, e1, hs⟩
    · cases e1
    · injection e1 with e1
      subst e1
      refine .inr ⟨⟨g, m * 5, none⟩, rfl, fun j u hj => ?_⟩
      rw [← icells_drop I m hmI, List.getElem?_drop] at hj
      have := hs _ _ hj
      rw [Addr.add_lit, Nat.zero_add] at this
      rw [Addr.add_lit]
      exact this
  have HJL : Hid ((icells (I.drop m)).length = (I.length - m) * 5) := (by rw [icells_len, List.length_drop] <;> omega : (icells (I.drop m)).length = (I.length - m) * 5)
  have HR2 := Lib.hid hR2
  have HF2 := Lib.hid hF2
  have HCN := Lib.hid hcn
  clear hR2 hF2 hcn
  have hS0 : w2.drew.cell? ⟨N, 0, none⟩ = some (.int .i64 (m : Int)) ∧ w2.drew.cell? ⟨l, 1, none⟩ = some (.slice (some ⟨g, 0, none⟩) I.length ec) := ⟨cn, q1⟩
  have hml : (m : Int) ≤ (I.length : Int) := by omega
  have hmec : (m : Int) ≤ (ec : Int) := by omega
  go_region_held (fun w' => w'.cell? ⟨N, 0, none⟩ = some (.int .i64 (m : Int)) ∧ w'.cell? ⟨l, 1, none⟩ = some (.slice (some ⟨g, 0, none⟩) I.length ec))
    (first | exact hS0 | assumption)
    ((go_at_call 27; refine (cloneE_any HSRC.out HJL.out (icells_one _) (by omega)).mono ?_; rintro e w3 ⟨A3, c3, rfl, ho3, hb3⟩; have HO3 := Lib.hid ho3; have HB3 : Hid (Below w2.heap.size w2 w3) := (below_drewN (Below.refl w2.heap.size w2) 1).trans hb3; have hS3 : w3.cell? ⟨N, 0, none⟩ = some (.int .i64 (m : Int)) ∧ w3.cell? ⟨l, 1, none⟩ = some (.slice (some ⟨g, 0, none⟩) I.length ec) := ⟨(World.cell?_of_block (w := w2) (a := ⟨N, 0, none⟩) (HB3.out.block N nl)).trans cn, (World.cell?_of_block (w := w2) (a := ⟨l, 1, none⟩) (HB3.out.block l hlt)).trans q1⟩; clear ho3 hb3))
  go_wp2_with fail
  have hO3 : w3.ownsRow w2.heap.size 35 5 (.slice A3 (I.drop m).length c3) (I.drop m).length (icells (I.drop m)) := by
    have hdl : (I.drop m).length = (I.length - m) := by rw [List.length_drop] <;> omega
    rw [hdl]
    exact HO3.out
  have hdl : (I.drop m).length = (I.length - m) := by rw [List.length_drop] <;> omega
  have hrev := rev_any (I.drop m) hO3 (by omega)
  rw [hdl] at hrev
  have HREV := Lib.hid hrev
  have HDL := Lib.hid hdl
  clear hrev hdl hO3
  refine HREV.out.mono ?_
  rintro e w4 ⟨rfl, ho4, hc4⟩
  have hle2 : base ≤ w2.heap.size := Nat.le_trans hle hsz2
  have hle3 : base ≤ w3.heap.size := Nat.le_trans hle2 HB3.out.size
  have hR3 : URep base l S I (.slice (some ⟨g, 0, none⟩) I.length ec) sv w3 := HR2.out.frm (T := TN) (Frm.ofBelow HB3.out (Nat.le_refl _)) hle2 (fun h => h) (fun h => h) (fun h => h) (fun h => h)
  have hlow : ∀ b, b < w2.heap.size → w4.heap[b]? = w2.heap[b]? := fun b hb => (hc4.block b (Nat.lt_of_lt_of_le hb HB3.out.size) (fun hv => by
    have := (own_at HO3.out hv).1
    have hx : w2.drew.heap.size = w2.heap.size := rfl
    omega)).trans (HB3.out.block b hb)
  have hF4 : Frm TU base w2 w4 := (Frm.ofBelow HB3.out hle2).trans (Frm.ofChg (owns_up HO3.out hle2) hc4 (.inr (.inl rfl)) hle3)
  have hR4 : URep base l S I (.slice (some ⟨g, 0, none⟩) I.length ec) sv w4 :=
    ⟨HR2.out.lo, (hlow l hlt).trans HR2.out.blk, owns_same HR2.out.eown fun b hb => hlow b (HR2.out.eown.lt b hb).2, HR2.out.ent, fun x hx => (HR2.out.rd x hx).frm hF4 (by unfold TU; decide) (Nat.le_refl _), owns_same HR2.out.sown fun b hb => hlow b (HR2.out.sown.lt b hb).2⟩
  have hcn4 : w4.heap[N]? = some (.cells #[.int .i64 (m : Int)] 3) := (hlow N nl).trans HCN.out
  have hsz4 : w2.heap.size ≤ w4.heap.size := Nat.le_trans HB3.out.size hc4.size
  have HO4 := Lib.hid ho4
  have HF4 := Lib.hid hF4
  have HR4 := Lib.hid hR4
  have HCN4 := Lib.hid hcn4
  have HLOW := Lib.hid hlow
  have HG4 : Hid (Frm TB base w2 w4) := ⟨HF4.out.low, fun k cs t fr hk ht => (HLOW.out k (lt_of_block hk)).trans hk⟩
  clear ho4 hc4 hR3 hlow hF4 hR4 hcn4 hS3 hS0 cn fn q0 q1 q2
  obtain ⟨cn4, fn4, nl4⟩ := one_of_block HCN4.out
  obtain ⟨p0, p1, p2, s0, s1, s2, hlt4⟩ := three_of_block HR4.out.blk
  have HSRC4 : Hid (Src w4.drew (some ⟨g, 0, none⟩) m ec (icells (I.take m))) := by
    have hs : Src w4.drew (some ⟨g, 0, none⟩) I.length ec (icells I) := Src.of HR4.out.eown
    rcases hs with ⟨e1, e2, e3⟩ | ⟨ad, e1, hs⟩
    · exact .inl ⟨e1, by omega, e3⟩
    · refine .inr ⟨ad, e1, fun j u hj => hs j u ?_⟩
      rw [← icells_take I m hmI, List.getElem?_take] at hj
      split at hj
      · exact hj
      · cases hj
  have HJL4 : Hid ((icells (I.take m)).length = m * 5) := (by rw [icells_len, List.length_take, Nat.min_eq_left hmI] : (icells (I.take m)).length = m * 5)
  have hNl : N ≠ l := by omega
  have hT0 : w4.drew.cell? ⟨N, 0, none⟩ = some (.int .i64 (m : Int)) := cn4
  go_wp2_with fail
  go_region_with
    ((go_at_call 27; refine (cloneE_any HSRC4.out HJL4.out (icells_one _) (by omega)).mono ?_; rintro e w5 ⟨A5, c5, rfl, ho5, hb5⟩; have HO5 := Lib.hid ho5; have HB5 : Hid (Below w4.heap.size w4 w5) := (below_drewN (Below.refl w4.heap.size w4) 1).trans hb5; have hT5 : w5.cell? ⟨N, 0, none⟩ = some (.int .i64 (m : Int)) := (World.cell?_of_block (w := w4) (a := ⟨N, 0, none⟩) (HB5.out.block N nl4)).trans cn4; have HKEEP := Lib.hid (fun v => (World.cell?_setCell_other w5 ⟨l, 1, none⟩ ⟨N, 0, none⟩ v (fun e => hNl (congrArg Addr.block e).symm)).trans hT5); obtain ⟨r0, r1, r2, z0, z1, z2, hlt5⟩ := three_of_block ((HB5.out.block l hlt4).trans HR4.out.blk); clear ho5 hb5))
  all_goals
    have hle4 : base ≤ w4.heap.size := Nat.le_trans hle2 hsz4
    have hO5 : w5.ownsRow base 35 5 (.slice A5 m c5) (I.take m).length (icells (I.take m)) := by
      rw [List.length_take, Nat.min_eq_left hmI]
      exact owns_up HO5.out hle4
    have hset := HR4.out.eset (Frm.ofBelow HB5.out hle4) (HB5.out.block l hlt4) (fun b hb => HB5.out.block b (HR4.out.sown.lt b hb).2) hO5 (fun x hx => (HR4.out.rd x (mem_take hx)).frm (T := TN) (Frm.ofBelow HB5.out (Nat.le_refl _)) (fun h => h) hle4)
    have hent : (I.take m).map Img.e = S.entries.take m := by rw [List.map_take, HR4.out.ent]
    rw [hent] at hset
    obtain ⟨w6, hw6⟩ : ∃ w6, w6 = w5.setCell ⟨l, 1, none⟩ (.slice A5 m c5) := ⟨_, rfl⟩
    rw [← hw6] at hset
    have HG6 : Hid (Frm TB base w4 w6) := (by rw [hw6]; exact (Frm.ofBelow HB5.out hle4).trans (Frm.setCell ((HB5.out.block l hlt4).trans HR4.out.blk) (.inl rfl) HR4.out.lo _ _) : Frm TB base w4 w6)
    have hc6 : w6.cell? ⟨N, 0, none⟩ = some (.int .i64 (m : Int)) := by rw [hw6]; exact HKEEP.out _
    have hlow6 : ∀ b, b < w4.heap.size → b ≠ l → w6.heap[b]? = w4.heap[b]? := fun b hb hbl => by
      rw [hw6]
      exact (Below.heap_setCell _ _ _ _ hbl).trans (HB5.out.block b hb)
    have hsz6 : w4.heap.size ≤ w6.heap.size := by rw [hw6]; simp; exact HB5.out.size
    rw [← hw6]
    have HLOW6 := Lib.hid hlow6
    have HR6 := Lib.hid hset.1
    have HF6 := Lib.hid hset.2
    clear hset hw6 hlow6 hO5 hent HKEEP r0 r1 r2 z0 z1 z2 hlt5 p0 p1 p2 s0 s1 s2 hT5 hT0 cn4 fn4
    obtain ⟨SA, sc, rfl⟩ := own_form HR6.out.sown
    obtain ⟨p0, p1, p2, s0, s1, s2, hlt6⟩ := three_of_block HR6.out.blk
    go_wp2_with fail
    refine (del_any S.saves HR6.out.sown hsl (m : Int) N hc6 k HH1.out HH2.out hk).mono ?_
    rintro e w7 ⟨rfl, ho7, hc7⟩
    have hle6 : base ≤ w6.heap.size := Nat.le_trans hle4 hsz6
    have hF7 : Frm TU base w6 w7 := Frm.ofChg HR6.out.sown hc7 (.inr (.inr rfl)) hle6
    have hl7 : w7.heap[l]? = w6.heap[l]? := hc7.block l hlt6 (fun hv => HR6.out.ne.2.1 l hv rfl)
    have he7 : ∀ b, (Value.slice A5 m c5).ownBlock = some b → w7.heap[b]? = w6.heap[b]? := fun b hb => hc7.block b (HR6.out.eown.lt b hb).2 (fun hv => HR6.out.ne.2.2 b hb hv)
    have hset := HR6.out.sset hF7 hl7 he7 (L := S.saves.take k) (sv' := .slice SA k sc) (by
      rw [List.length_take, Nat.min_eq_left hk]
      exact ho7)
    have HL7 := Lib.hid (hl7.trans HR6.out.blk)
    have HG8 : Hid (Frm TB base w6 (w7.setCell ⟨l, 2, none⟩ (.slice SA k sc))) := ((Frm.ofChg HR6.out.sown hc7 (.inr rfl) hle6).trans (Frm.setCell HL7.out (.inl rfl) HR6.out.lo _ _) : Frm TB base w6 (w7.setCell ⟨l, 2, none⟩ (.slice SA k sc)))
    have HE7 := Lib.hid hc7
    have HS8 := Lib.hid hset
    clear ho7 hc7 hF7 hl7 he7 hset p0 p1 p2 s0 s1 s2 hc6
    obtain ⟨p0, p1, p2, s0, s1, s2, hlt7⟩ := three_of_block HL7.out
    go_wp2_with fail
    go_ret
    have hJl : (I.drop m).reverse.length = (I.length - m) := by rw [List.length_reverse, List.length_drop] <;> omega
    have hFz : Frm TU base w2 (w7.setCell ⟨l, 2, none⟩ (.slice SA k sc)) := (HF4.out.trans HF6.out).trans HS8.out.2
    have hkeep : ∀ b, (Value.slice A3 (I.length - m) c3).ownBlock = some b → (w7.setCell ⟨l, 2, none⟩ (.slice SA k sc)).heap[b]? = w4.heap[b]? := fun b hb => by
      obtain ⟨hlo, cs, h4⟩ := own_at HO4.out hb
      have hx : w2.drew.heap.size = w2.heap.size := rfl
      have hbl : b ≠ l := by omega
      have hb4 := lt_of_block h4
      have h6 : w6.heap[b]? = some (.cells cs 35) := (HLOW6.out b hb4 hbl).trans h4
      refine (Below.heap_setCell _ _ _ _ hbl).trans ((HE7.out.block b (lt_of_block h6) (fun hv => ?_)).trans (HLOW6.out b hb4 hbl))
      obtain ⟨_, cs', h1⟩ := own_at HR6.out.sown hv
      rw [h6] at h1
      injection h1 with h1
      injection h1 with _ h1
      exact absurd h1 (by decide)
    refine ⟨A3, c3, (I.drop m).reverse, by rw [hJl]; rfl, by rw [List.map_reverse, List.map_drop, HR2.out.ent], ?_, fun x hx => (HR2.out.rd x (mem_drop (List.mem_reverse.1 hx))).frm hFz (by unfold TU; decide) (Nat.le_refl _), ⟨_, _, _, HS8.out.1⟩, HG2.out.trans ((HG4.out.trans HG6.out).trans HG8.out)⟩
    rw [hJl]
    exact owns_up (owns_same HO4.out hkeep) hsz2

theorem to_any {base l : Nat} {S : ULS} {w : World} (h : UR base l S w) (hl : S.entries.length ≤ 200000) (hsl : S.saves.length ≤ 100000) (n : Int) (m : Nat) (hm : (m : Int) = if 0 > n then 0 else n) (hme : m ≤ S.entries.length)
    (k : Nat) (h1 : ∀ (i : Nat) p, i < k → S.saves[i]? = some p → p.2 ≤ (m : Int)) (h2 : ∀ (i : Nat) p, k ≤ i → S.saves[i]? = some p → (m : Int) < p.2) (hk : k ≤ S.saves.length) :
    Calls Try.prog 17 #[.pointer (some ⟨l, 0, none⟩), .int .i64 n] w (ToPost base l S m k w) := by
  obtain ⟨I, ev, sv, R⟩ := h
  obtain ⟨E, ec, rfl⟩ := own_form R.eown
  rcases R.eown.2 with ⟨h', h''⟩ | ⟨g', cap', cur, h', _⟩
  · injection h' with a
    exact to_nilrow R hl hsl n m hm hme a k h1 h2 hk
  · injection h' with a
    by_cases hc : m = ec
    · exact to_end R hl hsl n m hm hme g' a hc k h1 h2 hk
    · exact to_within R hl hsl n m hm hme g' a hc k h1 h2 hk
end Go.Proofs.Ytkanlcfinogaeaa
