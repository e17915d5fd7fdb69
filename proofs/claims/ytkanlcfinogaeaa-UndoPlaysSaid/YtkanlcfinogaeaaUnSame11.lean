/-
  The reference's Same of two rows of entries that are alike.
-/
import Derived.Test.YtkanlcfinogaeaaUnSame02
namespace Go.Proofs.Ytkanlcfinogaeaa
open Go.RowKit
set_option linter.unusedVariables false
set_option linter.unusedSimpArgs false

theorem Img.Rd.src {base : Nat} {w : World} {x : Img} (h : x.Rd base w) : Src w x.oa x.e.old.length x.oc (vcells x.e.old) ∧ Src w x.na x.e.new.length x.nc (vcells x.e.new) := by
  obtain ⟨⟨A, c, e1, h1, _⟩, ⟨B, d, e2, h2, _⟩⟩ := h
  unfold Img.ov at e1
  unfold Img.nv at e2
  injection e1 with a b d1
  injection e2 with a2 b2 d2
  subst a d1 a2 d2
  exact ⟨h1, h2⟩
/-- How a row of entries reads. -/
def ReadsE (w : World) (A : Option Addr) (J : List Img) : Prop := ∀ i x, J[i]? = some x → (∃ b, A = some ⟨b, 0, none⟩ ∧ b < w.heap.size ∧ w.cell? ⟨b, i * 5, none⟩ = some (.int .i64 x.e.kind) ∧ w.cell? ⟨b, i * 5 + 1, none⟩ = some (.int .i64 x.e.id) ∧ w.cell? ⟨b, i * 5 + 2, none⟩ = some (.string x.e.table) ∧ w.cell? ⟨b, i * 5 + 3, none⟩ = some (.slice x.oa x.e.old.length x.oc) ∧ w.cell? ⟨b, i * 5 + 4, none⟩ = some (.slice x.na x.e.new.length x.nc)) ∧ Src w x.oa x.e.old.length x.oc (vcells x.e.old) ∧ Src w x.na x.e.new.length x.nc (vcells x.e.new)
theorem ReadsE.of {w : World} {base base' : Nat} {t : TypeId} {A : Option Addr} {J : List Img} {c : Nat} (h : w.ownsRow base t 5 (.slice A J.length c) J.length (icells J)) (hr : ∀ x ∈ J, x.Rd base' w) : ReadsE w A J := by
  intro i x hx
  refine ⟨?_, (hr x (List.mem_of_getElem? hx)).src⟩
  have hi := (List.getElem?_eq_some_iff.1 hx).1
  rcases h.2 with ⟨h1, h2⟩ | ⟨g, cap, cur, h1, hb, hg, hn, _⟩
  · omega
  · injection h1 with a b d
    subst a
    obtain ⟨c0, c1, c2, c3, c4⟩ := icells_at J i x hx
    have hc := fun j u (hj : (icells J)[j]? = some u) => h.cells (g := g) rfl j u hj
    have hc' : ∀ j u, (icells J)[j]? = some u → w.cell? ⟨g, j, none⟩ = some u := fun j u hj => by
      have := hc j u hj
      rw [Addr.add_lit, Nat.zero_add] at this
      exact this
    exact ⟨g, rfl, lt_of_block hg, hc' _ _ c0, hc' _ _ c1, hc' _ _ c2, hc' _ _ c3, hc' _ _ c4⟩
theorem ReadsE.below {w w' : World} {A : Option Addr} {J : List Img} (h : ReadsE w A J) {k : Nat} (hb : Below k w w') (hk : w.heap.size ≤ k) : ReadsE w' A J := by
  intro i x hx
  obtain ⟨⟨b, hA, hlt, c0, c1, c2, c3, c4⟩, s1, s2⟩ := h i x hx
  have hc : ∀ j u, w.cell? ⟨b, j, none⟩ = some u → w'.cell? ⟨b, j, none⟩ = some u := fun j u hj => (World.cell?_of_block (w := w) (a := ⟨b, j, none⟩) (hb.block b (Nat.lt_of_lt_of_le hlt hk))).trans hj
  exact ⟨⟨b, hA, World.block_lt_of_cell? w' _ (hc _ _ c0), hc _ _ c0, hc _ _ c1, hc _ _ c2, hc _ _ c3, hc _ _ c4⟩, s1.below hb hk, s2.below hb hk⟩

def ShortE (e : Ent) : Prop := e.old.length ≤ 1000000 ∧ e.new.length ≤ 1000000
set_option maxHeartbeats 1000000 in
theorem rsame_any {w : World} (A B : Option Addr) (J K : List Img) (c d : Nat) (ha : ReadsE w A J) (hb : ReadsE w B K) (he : J.map Img.e = K.map Img.e) (hs : ∀ x ∈ J, ShortE x.e) (hl : J.length ≤ 1000000) :
    Calls Try.prog 15 #[.slice A J.length c, .slice B K.length d] w fun e w' => e = .returned (.bool true) ∧ ∃ n, w' = w.drewN n := by
  have hlen : K.length = J.length := by have := congrArg List.length he; simpa using this.symm
  rw [hlen]
  have HA := Lib.hid ha
  have HB := Lib.hid hb
  have HE := Lib.hid he
  have HS := Lib.hid hs
  clear ha hb he hs hlen
  go_enter Try.func15, Try.ntmps15
  go_wp2_with fail
  go_loopw [5] (fun i wr => ∃ j n : Nat, j ≤ J.length ∧ i = .int .i64 j ∧ Hid (wr = w.drewN n)) (fun i _ => J.length - (intOf i).toNat)
  case atStart => exact ⟨0, 0, Nat.zero_le _, rfl, rfl⟩
  case round =>
    obtain ⟨j, n, hj, rfl, HW⟩ := hrel
    by_cases hlt : j < J.length
    · obtain ⟨x, hx⟩ : ∃ x, J[j]? = some x := ⟨_, List.getElem?_eq_getElem hlt⟩
      have hxy : ∃ y, K[j]? = some y ∧ x.e = y.e := by
        have h1 : (J.map Img.e)[j]? = some x.e := by rw [List.getElem?_map, hx]; rfl
        rw [HE.out, List.getElem?_map] at h1
        cases hk : K[j]? with
        | none => rw [hk] at h1; cases h1
        | some y => rw [hk] at h1; injection h1 with h1; exact ⟨y, rfl, h1.symm⟩
      obtain ⟨y, hy, hey⟩ := hxy
      have hbw : Below w.heap.size w wr := by rw [HW.out]; exact below_drewN (Below.refl _ _) n
      obtain ⟨⟨a1, rfl, hl1, u0, u1, u2, u3, u4⟩, s1, s2⟩ := HA.out.below hbw (Nat.le_refl _) j x hx
      obtain ⟨⟨b1, rfl, hl2, v0, v1, v2, v3, v4⟩, t1, t2⟩ := HB.out.below hbw (Nat.le_refl _) j y hy
      obtain ⟨hs1, hs2⟩ := HS.out x (List.mem_of_getElem? hx)
      rw [← hey] at v0 v1 v2 v3 v4 t1 t2
      obtain ⟨⟨ek, ei, et, eo, en⟩, oa, oc, na, nc⟩ := x
      obtain ⟨e', oa', oc', na', nc'⟩ := y
      have HC1 := Lib.hid (fun m => same02_any oa oa' eo oc oc' (s1.below (below_drewN (Below.refl _ _) m) (Nat.le_refl _)) (t1.below (below_drewN (Below.refl _ _) m) (Nat.le_refl _)) hs1)
      have HC2 := Lib.hid (fun m => same02_any na na' en nc nc' (s2.below (below_drewN (Below.refl _ _) m) (Nat.le_refl _)) (t2.below (below_drewN (Below.refl _ _) m) (Nat.le_refl _)) hs2)
      clear s1 s2 t1 t2 hx hy hey hs1 hs2 hbw
      have hst : ∀ w2 : World, (binOp .neq 9 (.string et) (.string et)).run Try.prog w2 = .ok (.bool false) w2 := fun w2 => by simp [go_sem]
      go_wp2_with fail
      go_quiet ((first | (go_at_call 26; with_reducible exact Calls.quiet_of (HC1.out _)) | (go_at_call 26; with_reducible exact Calls.quiet_of (HC2.out _))))
      go_wp2_with fail
      exact ⟨⟨j + 1, n + nq, by omega, by go_num, by show _ = _; rw [HW.out, World.drewN_drewN]⟩, by simp [intOf]; omega⟩
    · go_wp2_with fail
      go_ret
      exact ⟨rfl, _, HW.out⟩
end Go.Proofs.Ytkanlcfinogaeaa
