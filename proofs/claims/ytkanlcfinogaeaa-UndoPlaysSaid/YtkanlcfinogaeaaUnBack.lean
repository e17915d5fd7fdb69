/-
  Package undo: Back, Saves.
-/
import Derived.Test.YtkanlcfinogaeaaUnToB
import Derived.WalkLawsBesides
namespace Go.Proofs.Ytkanlcfinogaeaa
open Go.RowKit
set_option linter.unusedVariables false
set_option linter.unusedSimpArgs false

/-- What holds of every log. -/
structure ULS.Ok (S : ULS) : Prop where
  rise : ∀ (i j : Nat) p q, i ≤ j → S.saves[i]? = some p → S.saves[j]? = some q → p.2 ≤ q.2
  within : ∀ (i : Nat) p, S.saves[i]? = some p → 0 ≤ p.2 ∧ p.2 ≤ (S.entries.length : Int)

/-- Texts are alike. -/
def sameB (s t : ByteArray) : Bool := s.toList == t.toList
def BackNone (w : World) (e : Ending) (w' : World) : Prop := e = .returned (.tuple #[.slice none 0 0, .int .i64 14]) ∧ Below w.heap.size w w'
def BackPost (base l : Nat) (S : ULS) (m k : Nat) (w : World) (e : Ending) (w' : World) : Prop :=
  ∃ (A : Option Addr) (c : Nat) (J : List Img), e = .returned (.tuple #[.slice A J.length c, .int .i64 0]) ∧ J.map Img.e = (S.entries.drop m).reverse ∧ w'.ownsRow w.heap.size 35 5 (.slice A J.length c) J.length (icells J) ∧ (∀ x ∈ J, x.Rd base w') ∧ UR base l { S with entries := S.entries.take m, saves := S.saves.take k } w' ∧ Frm TB base w w'

theorem back_none {base l : Nat} {S : ULS} {w : World} (h : UR base l S w) (hsl : S.saves.length ≤ 100000) (name : ByteArray) (hno : ∀ (i : Nat) p, S.saves[i]? = some p → (p.1.toList == name.toList) = false) :
    Calls Try.prog 13 #[.pointer (some ⟨l, 0, none⟩), .string name] w (BackNone w) := by
  have hle := h.le
  obtain ⟨I, ev, sv, R⟩ := h
  obtain ⟨SA, sc, rfl⟩ := own_form R.sown
  obtain ⟨q0, q1, q2, y0, y1, y2, hlt⟩ := three_of_block R.blk
  have HR := Lib.hid R
  have HNO := Lib.hid hno
  clear R hno
  go_enter Try.func13, Try.ntmps13
  go_wp2_with fail
  go_loopg [6] S.saves.length (fun g i wr => ∃ (jI : Int) (j : Nat), i = .int .i64 jI ∧ jI = (j : Int) - 1 ∧ j ≤ S.saves.length ∧ g = j ∧ Hid (Below w.heap.size w wr))
  case atStart => exact ⟨_, S.saves.length, rfl, rfl, Nat.le_refl _, rfl, Below.refl _ _⟩
  case round =>
    obtain ⟨jI, j, rfl, hj, hjl, hg, HB⟩ := hrel
    by_cases hj0 : 0 ≤ jI
    · obtain ⟨q, rfl⟩ : ∃ q : Nat, jI = (q : Int) := ⟨jI.toNat, by omega⟩
      have hq : q < S.saves.length := by omega
      obtain ⟨p, hp⟩ : ∃ p, S.saves[q]? = some p := ⟨_, List.getElem?_eq_getElem hq⟩
      obtain ⟨gg, rfl, s1, s2, hgl⟩ := save_at (owns_below HR.out.sown HB.out (Nat.le_refl _)) hp rfl
      obtain ⟨p0, p1, p2, -, -, -, hl2⟩ := three_of_block ((HB.out.block l hlt).trans HR.out.blk)
      have hne := HNO.out q p hp
      have hjq : j = q + 1 := by omega
      clear hp hj
      go_wp2_with fail
      go_roundg q
      case measure => omega
      case rel => exact ⟨_, q, by rfl, by omega, by omega, rfl, Lib.hid (HB.out.alloc HB.out.size _)⟩
    · go_wp2_with fail
      go_ret2
      exact ⟨rfl, HB.out⟩
theorem take_at {α : Type} {l : List α} {n i : Nat} {x : α} (h : (l.take n)[i]? = some x) : i < n ∧ l[i]? = some x := by
  rw [List.getElem?_take] at h
  split at h
  · rename_i hi
    exact ⟨hi, h⟩
  · cases h
theorem back_some {base l : Nat} {S : ULS} {w : World} (h : UR base l S w) (ok : S.Ok) (hl : S.entries.length ≤ 200000) (hsl : S.saves.length ≤ 100000) (name : ByteArray) (i m : Nat) (s : ByteArray) (hi : S.saves[i]? = some (s, (m : Int))) (hs : (s.toList == name.toList) = true) (hno : ∀ (j : Nat) p, i < j → S.saves[j]? = some p → (p.1.toList == name.toList) = false) :
    Calls Try.prog 13 #[.pointer (some ⟨l, 0, none⟩), .string name] w (BackPost base l S m (i + 1) w) := by
  have hle := h.le
  obtain ⟨I, ev, sv, R⟩ := h
  obtain ⟨SA, sc, rfl⟩ := own_form R.sown
  obtain ⟨EA, ec, rfl⟩ := own_form R.eown
  obtain ⟨q0, q1, q2, y0, y1, y2, hlt⟩ := three_of_block R.blk
  have hilen := (List.getElem?_eq_some_iff.1 hi).1
  have HR := Lib.hid R
  have HNO := Lib.hid hno
  have HI := Lib.hid hi
  clear R hno hi
  go_enter Try.func13, Try.ntmps13
  go_wp2_with fail
  go_loopg [6] S.saves.length (fun g i' wr => ∃ (jI : Int) (j : Nat), i' = .int .i64 jI ∧ jI = (j : Int) - 1 ∧ i < j ∧ j ≤ S.saves.length ∧ g = j ∧ Hid (Below w.heap.size w wr))
  case atStart => exact ⟨_, S.saves.length, rfl, rfl, hilen, Nat.le_refl _, rfl, Below.refl _ _⟩
  case round =>
    obtain ⟨jI, j, rfl, hj, hij, hjl, hg, HB⟩ := hrel
    obtain ⟨q, rfl⟩ : ∃ q : Nat, jI = (q : Int) := ⟨jI.toNat, by omega⟩
    have hq : q < S.saves.length := by omega
    obtain ⟨p0, p1, p2, z0, z1, z2, hl2⟩ := three_of_block ((HB.out.block l hlt).trans HR.out.blk)
    by_cases hqi : q = i
    · subst hqi
      obtain ⟨gg, rfl, s1, s2, hgl⟩ := save_at (owns_below HR.out.sown HB.out (Nat.le_refl _)) HI.out rfl
      have hcap : S.saves.length ≤ sc := by
        rcases HR.out.sown.2 with ⟨h', _⟩ | ⟨g', cap', cur, h', _, _, hnc, _⟩
        · cases h'
        · injection h' with a b d
          omega
      have hc1 : (q : Int) + 1 ≤ (sc : Int) := by omega
      have hc2 : (0 : Int) ≤ (q : Int) + 1 := by omega
      clear hj
      have hRr : URep base l S I (.slice EA I.length ec) (.slice (some ⟨gg, 0, none⟩) S.saves.length sc) wr := HR.out.frm (T := TN) (Frm.ofBelow HB.out (Nat.le_refl _)) hle (fun h => h) (fun h => h) (fun h => h) (fun h => h)
      have htk : wr.ownsRow base 69 2 (.slice (some ⟨gg, 0, none⟩) (q + 1) sc) (S.saves.take (q + 1)).length (scells (S.saves.take (q + 1))) := by
        have h1 := owns_take hRr.sown (q + 1) (by omega) (scells_len S.saves)
        rw [scells_take S.saves (q + 1) (by omega)] at h1
        rw [List.length_take, Nat.min_eq_left (by omega)]
        exact h1
      have hset := hRr.sset (Frm.refl TU base wr) rfl (fun k hk => rfl) htk
      have hgs : Frm TB base wr (wr.setCell ⟨l, 2, none⟩ (.slice (some ⟨gg, 0, none⟩) (q + 1) sc)) := Frm.setCell hRr.blk (.inl rfl) hRr.lo _ _
      have hb5 : Below (wr.setCell ⟨l, 2, none⟩ (.slice (some ⟨gg, 0, none⟩) (q + 1) sc)).heap.size (wr.setCell ⟨l, 2, none⟩ (.slice (some ⟨gg, 0, none⟩) (q + 1) sc)) ((wr.setCell ⟨l, 2, none⟩ (.slice (some ⟨gg, 0, none⟩) (q + 1) sc)).alloc (.cells #[.string s, .int .i64 (m : Int)] 69)) := (Below.refl _ _).alloc (Nat.le_refl _) _
      have hlw : base ≤ wr.heap.size := Nat.le_trans hle HB.out.size
      have hR5 : UR base l { S with saves := S.saves.take (q + 1) } ((wr.setCell ⟨l, 2, none⟩ (.slice (some ⟨gg, 0, none⟩) (q + 1) sc)).alloc (.cells #[.string s, .int .i64 (m : Int)] 69)) := UR.below ⟨_, _, _, hset.1⟩ hb5 (by simpa using hlw)
      have hF5 : Frm TB base w ((wr.setCell ⟨l, 2, none⟩ (.slice (some ⟨gg, 0, none⟩) (q + 1) sc)).alloc (.cells #[.string s, .int .i64 (m : Int)] 69)) := ((Frm.ofBelow HB.out hle).trans hgs).trans (Frm.ofBelow hb5 (by simpa using hlw))
      have HT := Lib.hid (to_any hR5 hl (by show (S.saves.take (q + 1)).length ≤ 100000; rw [List.length_take]; omega) (m : Int) m (by split <;> omega) (by
          have := (ok.within q _ HI.out).2
          show m ≤ S.entries.length
          simp at this
          omega) (q + 1) (fun j p _ hp => by
          obtain ⟨h1, h2⟩ := take_at hp
          exact ok.rise j q p _ (by omega) h2 HI.out) (fun j p hj hp => by
          obtain ⟨h1, h2⟩ := take_at hp
          omega) (by show q + 1 ≤ (S.saves.take (q + 1)).length; rw [List.length_take]; omega))
      have HF5 := Lib.hid hF5
      clear htk hset hgs hRr hb5 hR5 hF5 hlw
      go_wp2_with fail
      refine HT.out.mono ?_
      rintro e w6 ⟨A6, c6, J, rfl, hJ, ho, hrd, hu, hf⟩
      have HJ := Lib.hid hJ
      have HO := Lib.hid ho
      have HRD := Lib.hid hrd
      have HU := Lib.hid hu
      have HF := Lib.hid hf
      clear hJ ho hrd hu hf
      go_wp2_with fail
      go_ret2
      have hu := HU.out
      simp only [List.take_take, Nat.min_self] at hu
      refine ⟨A6, c6, J, rfl, HJ.out, owns_up HO.out ?_, HRD.out, hu, HF5.out.trans HF.out⟩
      exact HF5.out.low.size
    · obtain ⟨p, hp⟩ : ∃ p, S.saves[q]? = some p := ⟨_, List.getElem?_eq_getElem hq⟩
      obtain ⟨gg, rfl, s1, s2, hgl⟩ := save_at (owns_below HR.out.sown HB.out (Nat.le_refl _)) hp rfl
      have hne := HNO.out q p (by omega) hp
      have hjq : j = q + 1 := by omega
      clear hp hj
      go_wp2_with fail
      go_roundg q
      case measure => omega
      case rel => exact ⟨_, q, by rfl, by omega, by omega, by omega, rfl, Lib.hid (HB.out.alloc HB.out.size _)⟩
end Go.Proofs.Ytkanlcfinogaeaa
