/-
  Law package 11: the law UndoAgain.
-/
import Derived.Test.YtkanlcfinogaeaaUnScript
namespace Go.Proofs.Ytkanlcfinogaeaa
open Go.RowKit Go.ChangeShapes Go.WideShapes Go.ChangeAt
set_option linter.unusedVariables false
set_option linter.unusedSimpArgs false

theorem Img.Rd.mono {base base' : Nat} {w : World} {x : Img} (h : x.Rd base w) (hb : base ≤ base') : x.Rd base' w := ⟨h.1.mono hb, h.2.mono hb⟩
theorem ULS.Ok.add {S : ULS} (ok : S.Ok) (e : Ent) : ULS.Ok { S with entries := S.entries ++ [e] } :=
  ⟨ok.rise, fun i p hp => by have := ok.within i p hp; simp; omega⟩
theorem ULS.Ok.save {S : ULS} (ok : S.Ok) (s : ByteArray) : ULS.Ok { S with saves := S.saves ++ [(s, (S.entries.length : Int))] } := by
  refine ⟨fun i j p q hij hp hq => ?_, fun i p hp => ?_⟩
  · have hp' : (S.saves ++ [(s, (S.entries.length : Int))])[i]? = some p := hp
    have hq' : (S.saves ++ [(s, (S.entries.length : Int))])[j]? = some q := hq
    rw [List.getElem?_append] at hp' hq'
    split at hq'
    · rename_i hj
      rw [if_pos (by omega)] at hp'
      exact ok.rise i j p q hij hp' hq'
    · obtain ⟨_, rfl⟩ := one_save [] _ q hq'
      split at hp'
      · exact (ok.within i p hp').2
      · obtain ⟨_, rfl⟩ := one_save [] _ p hp'
        exact Int.le_refl _
  · have hp' : (S.saves ++ [(s, (S.entries.length : Int))])[i]? = some p := hp
    rw [List.getElem?_append] at hp'
    split at hp'
    · exact ok.within i p hp'
    · obtain ⟨_, rfl⟩ := one_save [] _ p hp'
      show (0 : Int) ≤ (S.entries.length : Int) ∧ (S.entries.length : Int) ≤ (S.entries.length : Int)
      omega
/-- What the closure add leaves: entries and savepoints of other names behind those that there were. -/
structure Adds (base l : Nat) (S : ULS) (name : ByteArray) (N : Nat) (w : World) (S' : ULS) (w' : World) : Prop where
  ur : UR base l S' w'
  ok : S'.Ok
  quota : S'.quota = S.quota
  ents : ∃ E, S'.entries = S.entries ++ E ∧ E.length ≤ N
  savs : ∃ L, S'.saves = S.saves ++ L ∧ L.length ≤ N ∧ ∀ p ∈ L, (p.1.toList == name.toList) = false
  frm : Frm TU base w w'
theorem Adds.refl {base l : Nat} {S : ULS} {name : ByteArray} {w : World} (h : UR base l S w) (ok : S.Ok) : Adds base l S name 0 w S w := ⟨h, ok, rfl, ⟨[], by simp, by simp⟩, ⟨[], by simp, by simp, fun p h => by simp at h⟩, Frm.refl _ _ _⟩
theorem Adds.entry {base l : Nat} {S S1 : ULS} {name : ByteArray} {N : Nat} {w w1 w2 : World} (h : Adds base l S name N w S1 w1) {e : Ent} (hu : UR base l { S1 with entries := S1.entries ++ [e] } w2) (hf : Frm TU base w1 w2) : Adds base l S name (N + 1) w { S1 with entries := S1.entries ++ [e] } w2 := by
  obtain ⟨E, h1, h2⟩ := h.ents
  obtain ⟨L, h3, h4, h5⟩ := h.savs
  exact ⟨hu, h.ok.add e, h.quota, ⟨E ++ [e], by rw [h1, List.append_assoc], by simp; omega⟩, ⟨L, h3, by omega, h5⟩, h.frm.trans hf⟩
theorem Adds.saved {base l : Nat} {S S1 : ULS} {name : ByteArray} {N : Nat} {w w1 w2 : World} (h : Adds base l S name N w S1 w1) {s : ByteArray} (hs : (s.toList == name.toList) = false) (hu : UR base l { S1 with saves := S1.saves ++ [(s, (S1.entries.length : Int))] } w2) (hf : Frm TU base w1 w2) : Adds base l S name (N + 1) w { S1 with saves := S1.saves ++ [(s, (S1.entries.length : Int))] } w2 := by
  obtain ⟨E, h1, h2⟩ := h.ents
  obtain ⟨L, h3, h4, h5⟩ := h.savs
  refine ⟨hu, h.ok.save s, h.quota, ⟨E, h1, by omega⟩, ⟨L ++ [(s, (S1.entries.length : Int))], by rw [h3, List.append_assoc], by simp; omega, fun p hp => ?_⟩, h.frm.trans hf⟩
  rcases List.mem_append.1 hp with hp | hp
  · exact h5 p hp
  · obtain rfl : p = (s, (S1.entries.length : Int)) := by simpa using hp
    exact hs
def AddsPost (base l : Nat) (S : ULS) (name : ByteArray) (N : Nat) (w : World) (e : Ending) (w' : World) : Prop := e = .returned (.tuple #[]) ∧ ∃ S', Adds base l S name N w S' w'

set_option maxHeartbeats 1000000 in
theorem adds_any {base l : Nat} {S : ULS} {w0 w : World} (A : Option Addr) (cap : Nat) (ops : List UOp) (hr : ReadsU w0 A ops) (hlen : ops.length ≤ 120) (hsm : ∀ (i : Nat) o, ops[i]? = some o → Small o) (hF0 : Frm TU w0.heap.size w0 w) (hb0 : w0.heap.size ≤ base) (P Q : Nat) (name : ByteArray)
    (hP : w.heap[P]? = some (.cells #[.string name] 9)) (hQ : w.heap[Q]? = some (.cells #[.pointer (some ⟨l, 0, none⟩)] 24)) (h : UR base l S w) (ok : S.Ok) (h1 : S.entries.length ≤ 1000) (h2 : S.saves.length ≤ 1000) (hq : S.quota = 100000) :
    Calls Try.prog 24 #[.slice A ops.length cap, .pointer (some ⟨P, 0, none⟩), .pointer (some ⟨Q, 0, none⟩)] w (AddsPost base l S name ops.length w) := by
  have HR := Lib.hid hr
  have HSM := Lib.hid hsm
  have HF0 := Lib.hid hF0
  have HP := Lib.hid hP
  have HQ := Lib.hid hQ
  have HQT := Lib.hid hq
  have HA := Lib.hid (Adds.refl (name := name) h ok)
  clear hr hsm hF0 hP hQ h ok hq
  go_enter Try.func24, Try.ntmps24
  go_wp2_with fail
  go_loopg [8] ops.length (fun g i wr => ∃ k : Nat, k ≤ ops.length ∧ g = ops.length - k ∧ i = .int .i64 k ∧ ∃ S1, Hid (Adds base l S name k w S1 wr))
  case atStart => exact ⟨0, Nat.zero_le _, rfl, rfl, S, HA⟩
  case round =>
    obtain ⟨k, hk, hg, rfl, S1, HK⟩ := hrel
    by_cases hlt : k < ops.length
    · obtain ⟨o, ho⟩ : ∃ o, ops[k]? = some o := ⟨_, List.getElem?_eq_getElem hlt⟩
      obtain ⟨kk, on, nm, x⟩ := o
      have hfr := HF0.out.trans (HK.out.frm.down hb0)
      obtain ⟨b, off, rfl, hbl, c0, c1, c2, c3, c4, c5, c6, c7⟩ := HR.out.cells ho hfr.low
      obtain ⟨-, hon, hrd, -, -⟩ := HR.out k _ ho
      have hbase := HK.out.ur.le
      obtain ⟨p0, -, -⟩ := one_of_block (HK.out.frm.blk HP.out (by unfold TU; decide))
      obtain ⟨s0, -, -⟩ := one_of_block (HK.out.frm.blk HQ.out (by unfold TU; decide))
      have pl := World.block_lt_of_cell? wr _ p0
      have sl := World.block_lt_of_cell? wr _ s0
      have p1 : (wr.alloc (.cells (UOp.cells ⟨kk, on, nm, x⟩).toArray 37)).cell? ⟨P, 0, none⟩ = some (.string name) := by rw [World.cell?_alloc_past _ _ _ pl]; exact p0
      have s1 : (wr.alloc (.cells (UOp.cells ⟨kk, on, nm, x⟩).toArray 37)).cell? ⟨Q, 0, none⟩ = some (.pointer (some ⟨l, 0, none⟩)) := by rw [World.cell?_alloc_past _ _ _ sl]; exact s0
      have hba : Below wr.heap.size wr (wr.alloc (.cells (UOp.cells ⟨kk, on, nm, x⟩).toArray 37)) := (Below.refl _ _).alloc (Nat.le_refl _) _
      have hf1 : Frm TU base wr (wr.alloc (.cells (UOp.cells ⟨kk, on, nm, x⟩).toArray 37)) := Frm.ofBelow hba hbase
      have hu1 := HK.out.ur.below hba hbase
      have hx1 : x.Rd base (wr.alloc (.cells (UOp.cells ⟨kk, on, nm, x⟩).toArray 37)) := (hrd.frm (hfr.trans (hf1.down hb0)) (by unfold TU; decide) (Nat.le_refl _)).mono hb0
      obtain ⟨E, hE1, hE2⟩ := HK.out.ents
      obtain ⟨L, hL1, hL2, -⟩ := HK.out.savs
      have hel : S1.entries.length ≤ 2000 := by rw [hE1, List.length_append]; omega
      have hsl : S1.saves.length ≤ 2000 := by rw [hL1, List.length_append]; omega
      have hsmall := HSM.out k _ ho
      have hql : (S1.entries.length : Int) < S1.quota := by rw [HK.out.quota, HQT.out]; omega
      have HQL := Lib.hid hql
      have HU1 := Lib.hid hu1
      have HX1 := Lib.hid hx1
      have HF1 := Lib.hid hf1
      have HO := Lib.hid ho
      have so := hsmall.old
      have sn := hsmall.new
      clear hfr hon hrd hba hf1 hu1 hx1 hE1 hL1 hE2 hL2 hsmall ho hql
      dsimp only at *
      by_cases hk1 : kk = 1
      · subst hk1
        cases hn : (nm.toList == name.toList) with
        | false =>
          go_wp2_with fail
          refine (save_any HU1.out (by omega) nm).mono ?_
          rintro e w2 ⟨rfl, hu, hf⟩
          have HN := Lib.hid hn
          have hA := HK.out.saved HN.out hu (HF1.out.trans hf)
          have HA2 := Lib.hid hA
          clear hu hf hA
          go_wp2_with fail
          go_roundg (ops.length - (k + 1))
          case measure => omega
          case rel => exact ⟨k + 1, by omega, rfl, by go_num, _, HA2⟩
        | true =>
          go_wp2_with fail
          refine (add_any HU1.out (by omega) HQL.out x HX1.out (by omega) (by omega)).mono ?_
          rintro e w2 ⟨rfl, hu, hf⟩
          have hA := HK.out.entry hu (HF1.out.trans hf)
          have HA2 := Lib.hid hA
          clear hu hf hA
          go_wp2_with fail
          go_roundg (ops.length - (k + 1))
          case measure => omega
          case rel => exact ⟨k + 1, by omega, rfl, by go_num, _, HA2⟩
      · have hkb : (kk == 1) = false := beq_eq_false_iff_ne.2 hk1
        go_wp2_with fail
        refine (add_any HU1.out (by omega) HQL.out x HX1.out (by omega) (by omega)).mono ?_
        rintro e w2 ⟨rfl, hu, hf⟩
        have hA := HK.out.entry hu (HF1.out.trans hf)
        have HA2 := Lib.hid hA
        clear hu hf hA
        go_wp2_with fail
        go_roundg (ops.length - (k + 1))
        case measure => omega
        case rel => exact ⟨k + 1, by omega, rfl, by go_num, _, HA2⟩
    · go_wp2_with fail
      go_end0
      obtain rfl : k = ops.length := by omega
      exact ⟨rfl, S1, HK.out⟩
end Go.Proofs.Ytkanlcfinogaeaa
