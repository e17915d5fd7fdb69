/-
  Law package 04: does.
-/
import Derived.Test.YtmlgockejacjeaaArStep
namespace Go.Proofs.Ytmlgockejacjeaa
open Go.RowKit
set_option linter.unusedVariables false
set_option linter.unusedSimpArgs false

/-- One call of a script: what it answers; what it leaves. -/
def stepD (S : ArS) (c : UInt8) : List Int × ArS :=
  if c.toNat % 4 = 0 then ([S.bad ((c.toNat : Int) / 4)], S.freeS ((c.toNat : Int) / 4))
  else if c.toNat % 4 = 1 then ([S.bad ((c.toNat : Int) / 4)], S.putS ((c.toNat : Int) / 4) (full c))
  else if c.toNat % 4 = 2 then (match S.page ((c.toNat : Int) / 4) with
    | none => [0, 2]
    | some l => [1024, 0] ++ [((l[7]?.getD 0).toNat : Int)], S)
  else ([S.alloc.1, S.allocE], S.alloc.2)
/-- The first j calls of a script. -/
def doesD (f : Nat → UInt8) (S : ArS) : Nat → List Int × ArS
  | 0 => ([], S)
  | j + 1 => (((doesD f S j).1 ++ (stepD (doesD f S j).2 (f j)).1) ++ [(stepD (doesD f S j).2 (f j)).2.used], (stepD (doesD f S j).2 (f j)).2)
/-- What does answers. -/
def doesL (f : Nat → UInt8) (S : ArS) (len : Nat) : List Int := (doesD f S (min len 100)).1 ++ (doesD f S (min len 100)).2.upto (doesD f S (min len 100)).2.pages.length
theorem stepD_ok {S : ArS} (ok : S.Ok) (c : UInt8) : (stepD S c).2.Ok := by
  unfold stepD
  split
  · exact ok.freeS _
  · split
    · exact ok.putS _ _
    · split
      · exact ok
      · exact ok.allocS
theorem stepD_len (S : ArS) (c : UInt8) : (stepD S c).1.length ≤ 3 := by
  unfold stepD
  split
  · simp
  · split
    · simp
    · split
      · dsimp only
        split <;> simp
      · simp
theorem doesD_ok (f : Nat → UInt8) {S : ArS} (ok : S.Ok) : ∀ j, (doesD f S j).2.Ok
  | 0 => ok
  | j + 1 => stepD_ok (doesD_ok f ok j) _
theorem doesD_len (f : Nat → UInt8) (S : ArS) : ∀ j, (doesD f S j).1.length ≤ 4 * j
  | 0 => by simp [doesD]
  | j + 1 => by
    have h1 := doesD_len f S j
    have h2 := stepD_len (doesD f S j).2 (f j)
    simp [doesD]
    omega

set_option maxRecDepth 8000 in
set_option maxHeartbeats 2000000 in
theorem does_any {base a : Nat} {S0 : ArS} {own : Nat → Prop} {w : World} (h : AR base a S0 own w) (ok : S0.Ok) (A : Option Addr) (len cap : Nat) (f : Nat → UInt8) (hr : ∀ w', Below base w w' → ReadsB w' A len f) (hbase : base ≤ w.heap.size) :
    Calls Try.prog 25 #[.pointer (some ⟨a, 0, none⟩), .slice A len cap] w fun e w' => ∃ A' c' own', e = .returned (.slice A' (doesL f S0 len).length c') ∧ DR base a own w (doesD f S0 (min len 100)).2 (doesL f S0 len) (.slice A' (doesL f S0 len).length c') own' w' := by
  have HH := Lib.hid h; clear h
  have HOK := Lib.hid ok; clear ok
  have HR := Lib.hid hr; clear hr
  have hown : Hid (∀ k, own k → base ≤ k) := (fun k hk => (HH.out.lt k hk).1 : ∀ k, own k → base ≤ k)
  go_enter Try.func25, Try.ntmps25
  go_wp2_with fail
  go_loopw [5, 6] (fun out i wr => ∃ j : Nat, j ≤ 100 ∧ j ≤ len ∧ i = .int .i64 j ∧ ∃ own1, Hid (DR base a own w (doesD f S0 j).2 (doesD f S0 j).1 out own1 wr)) (fun _ i _ => 100 - (intOf i).toNat)
  case atStart => exact ⟨0, by omega, by omega, rfl, own, DR.start HH.out⟩
  case round =>
    obtain ⟨j, hj, hjl, rfl, own1, HD⟩ := hrel
    have HOj := Lib.hid (doesD_ok f HOK.out j)
    have hLj := doesD_len f S0 j
    have hD := HD.out
    obtain ⟨B, cb, rfl⟩ := own_form hD.out
    clear hD
    by_cases hlt : j < len ∧ j < 100
    · obtain ⟨hl1, hl2⟩ := hlt
      obtain ⟨b, off, rfl, hbl, hc⟩ := HR.out _ (HD.out.gr.chg.below (fun i hi ho => by have := hown.out i ho; omega) hbase) j hl1
      have hf : (f j).toNat < 256 := (f j).toNat_lt
      generalize hS : (doesD f S0 j).2 = S at *
      generalize hl : (doesD f S0 j).1 = l at *
      have Hnext1 : Hid ((doesD f S0 (j + 1)).1 = (l ++ (stepD S (f j)).1) ++ [(stepD S (f j)).2.used]) := (by simp [doesD, hS, hl] : (doesD f S0 (j + 1)).1 = (l ++ (stepD S (f j)).1) ++ [(stepD S (f j)).2.used])
      have Hnext2 : Hid ((doesD f S0 (j + 1)).2 = (stepD S (f j)).2) := (by simp [doesD, hS] : (doesD f S0 (j + 1)).2 = (stepD S (f j)).2)
      clear hS hl
      have hcase : (f j).toNat % 4 = 0 ∨ (f j).toNat % 4 = 1 ∨ (f j).toNat % 4 = 2 ∨ (f j).toNat % 4 = 3 := by omega
      rcases hcase with hm | hm | hm | hm
      · have hst : Hid (stepD S (f j) = ([S.bad (((f j).toNat : Int) / 4)], S.freeS (((f j).toNat : Int) / 4))) := (by unfold stepD; rw [if_pos hm] : stepD S (f j) = ([S.bad (((f j).toNat : Int) / 4)], S.freeS (((f j).toNat : Int) / 4)))
        go_wp2_with fail
        refine (op_free HD.out.ar HOj.out _ (wf_small _ (by omega) (by omega))).mono ?_
        rintro e w1 ⟨rfl, own2, hA, hg⟩
        have HD1 := Lib.hid (HD.out.op hA hg)
        clear hA hg
        go_wp2_with (at_builtin; refine step_app rfl _ _ rfl HD1.out rfl [S.bad (((f j).toNat : Int) / 4)] 1 rfl ⟨by (try simp); omega, by simp⟩ ?_; intro A1 c1 w2 hd hoth; have HD2 := Lib.hid hd; have HOTH := Lib.hid hoth; clear hd hoth)
        refine (used_any HD2.out.ar (HOj.out.freeS _)).mono ?_
        rintro e w3 ⟨rfl, n3, rfl⟩
        have HD3 := Lib.hid (HD2.out.news (below_drewN (Below.refl _ _) n3))
        go_wp2_with (at_builtin; refine step_app rfl _ _ rfl HD3.out rfl [(S.freeS (((f j).toNat : Int) / 4)).used] 1 rfl ⟨by (try simp); omega, by simp⟩ ?_; intro A3 c3 w4 hd hoth; have HD4 := Lib.hid hd; have HOTH := Lib.hid hoth; clear hd hoth)
        go_roundw
        case rel => exact ⟨j + 1, by omega, by omega, by go_num, own2, (by rw [Hnext1.out, Hnext2.out, hst.out]; refine Lib.hid ?_; simpa using HD4.out)⟩
        case measure => simp [intOf]; omega
      · have hst : Hid (stepD S (f j) = ([S.bad (((f j).toNat : Int) / 4)], S.putS (((f j).toNat : Int) / 4) (full (f j)))) := (by unfold stepD; rw [if_neg (by omega), if_pos hm] : stepD S (f j) = ([S.bad (((f j).toNat : Int) / 4)], S.putS (((f j).toNat : Int) / 4) (full (f j))))
        go_wp2_with fail
        refine (bytes_any (f j) 1024 (by omega) wr).mono ?_
        rintro e w0 ⟨rfl, hb, hblk⟩
        have HD0 := Lib.hid (HD.out.news hb)
        have HBLK : Hid (w0.heap[wr.heap.size]? = some (.cells (bcells (full (f j))) 5)) := hblk
        clear hb hblk
        go_wp2_with fail
        refine (op_store HD0.out.ar HOj.out _ (wf_small _ (by omega) (by omega)) wr.heap.size 1024 (full (f j)) (full_len _) HBLK.out).mono ?_
        rintro e w1 ⟨rfl, own2, hA, hg⟩
        have HD1 := Lib.hid (HD0.out.op hA hg)
        clear hA hg
        go_wp2_with (at_builtin; refine step_app rfl _ _ rfl HD1.out rfl [S.bad (((f j).toNat : Int) / 4)] 1 rfl ⟨by (try simp); omega, by simp⟩ ?_; intro A1 c1 w2 hd hoth; have HD2 := Lib.hid hd; have HOTH := Lib.hid hoth; clear hd hoth)
        refine (used_any HD2.out.ar (HOj.out.putS _ _)).mono ?_
        rintro e w13 ⟨rfl, n3, rfl⟩
        have HD3 := Lib.hid (HD2.out.news (below_drewN (Below.refl _ _) n3))
        go_wp2_with (at_builtin; refine step_app rfl _ _ rfl HD3.out rfl [(S.putS (((f j).toNat : Int) / 4) (full (f j))).used] 1 rfl ⟨by (try simp); omega, by simp⟩ ?_; intro A3 c3 w14 hd hoth; have HD4 := Lib.hid hd; have HOTH := Lib.hid hoth; clear hd hoth)
        go_roundw
        case rel => exact ⟨j + 1, by omega, by omega, by go_num, own2, (by rw [Hnext1.out, Hnext2.out, hst.out]; refine Lib.hid ?_; simpa using HD4.out)⟩
        case measure => simp [intOf]; omega
      · rcases hp : S.page (((f j).toNat : Int) / 4) with _ | pg
        · have hst : Hid (stepD S (f j) = ([0, 2], S)) := (by unfold stepD; rw [if_neg (by omega), if_neg (by omega), if_pos hm, hp] : stepD S (f j) = ([0, 2], S))
          have hcall := Lib.hid (load_out HD.out.ar HOj.out _ (wf_small _ (by omega) (by omega)) hp)
          clear hp
          go_wp2_with fail
          refine hcall.out.mono ?_
          rintro e w1 ⟨rfl, rfl⟩
          go_wp2_with (at_builtin; refine step_app rfl _ _ rfl HD.out rfl [0, 2] 2 rfl ⟨by (try simp); omega, by simp⟩ ?_; intro A1 c1 w2 hd hoth; have HD2 := Lib.hid hd; have HOTH := Lib.hid hoth; clear hd hoth)
          refine (used_any HD2.out.ar HOj.out).mono ?_
          rintro e w13 ⟨rfl, n3, rfl⟩
          have HD3 := Lib.hid (HD2.out.news (below_drewN (Below.refl _ _) n3))
          go_wp2_with (at_builtin; refine step_app rfl _ _ rfl HD3.out rfl [S.used] 1 rfl ⟨by (try simp); omega, by simp⟩ ?_; intro A3 c3 w14 hd hoth; have HD4 := Lib.hid hd; have HOTH := Lib.hid hoth; clear hd hoth)
          go_roundw
          case rel => exact ⟨j + 1, by omega, by omega, by go_num, own1, (by rw [Hnext1.out, Hnext2.out, hst.out]; refine Lib.hid ?_; simpa using HD4.out)⟩
          case measure => simp [intOf]; omega
        · have hcall := Lib.hid (load_in HD.out.ar HOj.out _ hp)
          obtain ⟨x7, hx7⟩ : ∃ x, x = ((pg[7]?.getD 0).toNat : Int) := ⟨_, rfl⟩
          have hst : Hid (stepD S (f j) = ([1024, 0] ++ [x7], S)) := (by unfold stepD; rw [if_neg (by omega), if_neg (by omega), if_pos hm, hp, hx7] : stepD S (f j) = ([1024, 0] ++ [x7], S))
          clear hp
          go_wp2_with fail
          refine hcall.out.mono ?_
          rintro e w1 ⟨g, c, rfl, hown1, hb1, hpl⟩
          have HD1 := Lib.hid (HD.out.news hb1)
          have hby : Bytes w1 g pg := Bytes.owned hown1 hpl
          have hx : (pg[7]'(by omega)).toNat = x7 := by rw [hx7, List.getElem?_eq_getElem (by omega)]; rfl
          have hltg := (hown1.lt g rfl)
          have hx0 : 0 ≤ x7 ∧ x7 < 256 := by rw [hx7]; have := (pg[7]?.getD 0).toNat_lt; omega
          have hcell1 := (hby.cell 7 (by omega)).1
          rw [hx] at hcell1
          obtain ⟨csb, hcsb, hcsj⟩ := hby
          have HCB := Lib.hid hcsb
          have hc7 : Hid (csb[7]? = some (.int .u8 x7)) := ((cell_of_block hcsb 7).symm.trans hcell1 : csb[7]? = some (.int .u8 x7))
          clear hcell1 hcsj hcsb hown1 hb1 hx7 hx hpl
          go_wp2_with (first
            | (at_builtin; refine step_app rfl _ _ rfl HD1.out rfl [1024, 0] 2 rfl ⟨by (try simp); omega, by simp⟩ ?_; intro A1 c1 w2 hd hoth; have HD2 := Lib.hid hd; have hblk := hoth _ _ _ (by decide) HCB.out; have hcell := (cell_of_block hblk 7).trans hc7.out; have hlg := lt_of_block hblk; clear hd hoth hblk)
            | (at_builtin; refine step_app rfl _ _ rfl HD2.out rfl [x7] 1 rfl ⟨by (try simp); omega, by simp⟩ ?_; intro A5 c5 w5 hd hoth; simp only [List.length_append, List.length_cons, List.length_nil, Nat.zero_add, Nat.reduceAdd] at hd; have HD5 := Lib.hid hd; clear hd hoth))
          refine (used_any HD5.out.ar HOj.out).mono ?_
          rintro e w13 ⟨rfl, n3, rfl⟩
          have HD3 := Lib.hid (HD5.out.news (below_drewN (Below.refl _ _) n3))
          go_wp2_with (at_builtin; refine step_app rfl _ _ rfl HD3.out rfl [S.used] 1 rfl ⟨by (try simp); omega, by simp⟩ ?_; intro A3 c3 w14 hd hoth; have HD4 := Lib.hid hd; have HOTH := Lib.hid hoth; clear hd hoth)
          go_roundw
          case rel => exact ⟨j + 1, by omega, by omega, by go_num, own1, (by rw [Hnext1.out, Hnext2.out, hst.out]; refine Lib.hid ?_; simpa using HD4.out)⟩
          case measure => simp [intOf]; omega
      · have hst : Hid (stepD S (f j) = ([S.alloc.1, S.allocE], S.alloc.2)) := (by unfold stepD; rw [if_neg (by omega), if_neg (by omega), if_neg (by omega)] : stepD S (f j) = ([S.alloc.1, S.allocE], S.alloc.2))
        go_wp2_with fail
        refine (op_alloc HD.out.ar HOj.out).mono ?_
        rintro e w1 ⟨rfl, own2, hA, hg⟩
        have HD1 := Lib.hid (HD.out.op hA hg)
        clear hA hg
        go_wp2_with (at_builtin; refine step_app rfl _ _ rfl HD1.out rfl [S.alloc.1, S.allocE] 2 rfl ⟨by (try simp); omega, by simp⟩ ?_; intro A1 c1 w2 hd hoth; have HD2 := Lib.hid hd; have HOTH := Lib.hid hoth; clear hd hoth)
        refine (used_any HD2.out.ar HOj.out.allocS).mono ?_
        rintro e w13 ⟨rfl, n3, rfl⟩
        have HD3 := Lib.hid (HD2.out.news (below_drewN (Below.refl _ _) n3))
        go_wp2_with (at_builtin; refine step_app rfl _ _ rfl HD3.out rfl [S.alloc.2.used] 1 rfl ⟨by (try simp); omega, by simp⟩ ?_; intro A3 c3 w14 hd hoth; have HD4 := Lib.hid hd; have HOTH := Lib.hid hoth; clear hd hoth)
        go_roundw
        case rel => exact ⟨j + 1, by omega, by omega, by go_num, own2, (by rw [Hnext1.out, Hnext2.out, hst.out]; refine Lib.hid ?_; simpa using HD4.out)⟩
        case measure => simp [intOf]; omega
    · have hjf : Hid (j = min len 100) := (by omega : j = min len 100)
      go_wp2_with fail
      all_goals
        refine (pages_any HD.out.ar HOj.out).mono ?_
        rintro e w2 ⟨v, rfl, ho, hb⟩
        have HDb := Lib.hid (HD.out.news hb)
        have hul := upto_len (doesD f S0 j).2 (doesD f S0 j).2.pages.length
        have hmost := HOj.out.most
        have HLL : Hid (doesL f S0 len = (doesD f S0 j).1 ++ (doesD f S0 j).2.upto (doesD f S0 j).2.pages.length) := (by rw [hjf.out]; rfl : doesL f S0 len = (doesD f S0 j).1 ++ (doesD f S0 j).2.upto (doesD f S0 j).2.pages.length)
        have HJS : Hid ((doesD f S0 (min len 100)).2 = (doesD f S0 j).2) := (by rw [hjf.out] : (doesD f S0 (min len 100)).2 = (doesD f S0 j).2)
        rcases ho.2 with ⟨rfl, hnil⟩ | ⟨g, cg, cur, rfl, _⟩
        · have HN : Hid ((doesD f S0 j).2.upto (doesD f S0 j).2.pages.length = []) := List.eq_nil_of_length_eq_zero hnil
          clear ho hb hnil hul
          go_wp2_with (at_builtin; refine step_app_nil rfl _ _ rfl HDb.out.out rfl rfl ?_)
          go_ret
          have e1 : doesL f S0 len = (doesD f S0 j).1 := by rw [HLL.out, HN.out]; simp
          rw [e1, HJS.out]
          exact ⟨_, _, _, rfl, HDb.out⟩
        · have HC := Lib.hid (ho.cells (g := g) rfl)
          clear ho hb
          go_wp2_with (at_builtin; refine step_app' rfl _ _ rfl HDb.out rfl ((doesD f S0 j).2.upto (doesD f S0 j).2.pages.length) cg ⟨g, 0, none⟩ rfl HC.out ⟨by omega, by omega⟩ ?_; intro A3 c3 w14 hd hoth; have HD4 := Lib.hid hd; clear hd hoth)
          go_ret
          have hlen : (doesL f S0 len).length = (doesD f S0 j).1.length + ((doesD f S0 j).2.upto (doesD f S0 j).2.pages.length).length := by rw [HLL.out, List.length_append]
          rw [hlen, HLL.out, HJS.out]
          exact ⟨_, _, _, rfl, HD4.out⟩
end Go.Proofs.Ytmlgockejacjeaa
