/-
  Law package 11: scripts that came in; great; lists of texts that are alike.
-/
import Derived.Test.YtkanlcfinogaeaaUnNone
namespace Go.Proofs.Ytkanlcfinogaeaa
open Go.RowKit Go.ChangeShapes Go.WideShapes Go.ChangeAt
set_option linter.unusedVariables false
set_option linter.unusedSimpArgs false

/-- How a script reads. -/
def ReadsU (w : World) (A : Option Addr) (ops : List UOp) : Prop := ∀ (i : Nat) (o : UOp), ops[i]? = some o → (∃ b off, A = some ⟨b, off, none⟩ ∧ b < w.heap.size ∧ ∀ j, j < 8 → w.cell? ⟨b, off + i * 8 + j, none⟩ = o.cells[j]?) ∧ (Lit.int .i64 o.n).wf = true ∧ o.x.Rd w.heap.size w ∧ ValsOk o.x.e.old ∧ ValsOk o.x.e.new
section
variable {H : Type} {enc : TypeId × Value → H} {w : World} {sp : Nat → Bool} {hd : Bool}
theorem open_script {v : Value} {d : DataW H} {p : List MemPlace} {base : Nat} (hv : Value.okWide Try.prog w .any base 22 v) (h : DataW.Trod enc Try.prog w 0 sp hd 22 v d p) :
    ∃ A cap, ∃ ops : List UOp, v = .slice A ops.length cap ∧ ReadsU w A ops ∧ ops.length ≤ maxLen := by
  obtain ⟨a, len, cap, rfl⟩ := okWide_slice Try.underlying22 hv
  obtain ⟨fuel, hf⟩ := h
  have k8 : Try.prog.cellsOf 37 = 8 := by kernel_rfl
  rcases slice_cells Try.underlying22 (by rw [k8]; omega) hf with ⟨rfl, rfl, rfl⟩ | ⟨hlc, hcm, ad, rfl, hi⟩
  · exact ⟨_, _, [], rfl, fun i o h => by simp at h, by simp⟩
  · obtain ⟨ops, hl, hp⟩ := list_of (p := fun i (o : UOp) => (∃ b off, some ad = some ⟨b, off, none⟩ ∧ b < w.heap.size ∧ ∀ j, j < 8 → w.cell? ⟨b, off + i * 8 + j, none⟩ = o.cells[j]?) ∧ (Lit.int .i64 o.n).wf = true ∧ o.x.Rd w.heap.size w ∧ ValsOk o.x.e.old ∧ ValsOk o.x.e.new) (fun i hlt => by
      obtain ⟨b, off, rfl, hb, cs, n, x, hcl, hc, ht⟩ := hi i hlt
      rw [k8] at hcl hc
      obtain ⟨o, rfl, hr⟩ := open_uop hcl ht
      exact ⟨o, ⟨b, off, rfl, hb, fun j hj => hc j hj⟩, hr⟩)
    subst hl
    exact ⟨_, _, ops, rfl, hp, by omega⟩
end
/-- An operation's cells, in a later world. -/
theorem ReadsU.cells {w w' : World} {A : Option Addr} {ops : List UOp} (h : ReadsU w A ops) {i : Nat} {o : UOp} (ho : ops[i]? = some o) (hb : Below w.heap.size w w') : ∃ b off, A = some ⟨b, off, none⟩ ∧ b < w'.heap.size ∧
    w'.cell? ⟨b, off + i * 8, none⟩ = some (.int .i64 o.k) ∧ w'.cell? ⟨b, off + i * 8 + 1, none⟩ = some (.int .i64 o.n) ∧ w'.cell? ⟨b, off + i * 8 + 2, none⟩ = some (.string o.name) ∧ w'.cell? ⟨b, off + i * 8 + 3, none⟩ = some (.int .i64 o.x.e.kind) ∧ w'.cell? ⟨b, off + i * 8 + 4, none⟩ = some (.int .i64 o.x.e.id) ∧ w'.cell? ⟨b, off + i * 8 + 5, none⟩ = some (.string o.x.e.table) ∧ w'.cell? ⟨b, off + i * 8 + 6, none⟩ = some (.slice o.x.oa o.x.e.old.length o.x.oc) ∧ w'.cell? ⟨b, off + i * 8 + 7, none⟩ = some (.slice o.x.na o.x.e.new.length o.x.nc) := by
  obtain ⟨⟨b, off, rfl, hl, hc⟩, _⟩ := h i o ho
  have hk := fun j (hj : j < 8) => (World.cell?_of_block (w := w) (w' := w') (a := ⟨b, off + i * 8 + j, none⟩) (hb.block b hl)).trans (hc j hj)
  exact ⟨b, off, rfl, Nat.lt_of_lt_of_le hl hb.size, hk 0 (by omega), hk 1 (by omega), hk 2 (by omega), hk 3 (by omega), hk 4 (by omega), hk 5 (by omega), hk 6 (by omega), hk 7 (by omega)⟩

/-- What great tells: where it is false, the script is short, and so are its texts and lists. -/
structure Small (o : UOp) : Prop where
  name : o.name.size ≤ 200
  table : o.x.e.table.size ≤ 200
  old : o.x.e.old.length ≤ 20
  new : o.x.e.new.length ≤ 20
def GreatIs (ops : List UOp) (w : World) (e : Ending) (w' : World) : Prop :=
  ∃ g : Bool, e = .returned (.bool g) ∧ (g = false → ops.length ≤ 120 ∧ ∀ (i : Nat) o, ops[i]? = some o → Small o) ∧ Below w.heap.size w w'
def SmallTo (ops : List UOp) (k : Nat) : Prop := ∀ (i : Nat) o, i < k → ops[i]? = some o → Small o

set_option maxHeartbeats 1000000 in
theorem great_any (A : Option Addr) (cap : Nat) (ops : List UOp) (w0 w : World) (hr : ReadsU w0 A ops) (hb : Below w0.heap.size w0 w) :
    Calls Try.prog 8 #[.slice A ops.length cap] w (GreatIs ops w) := by
  by_cases h1 : 120 < ops.length
  · have h1' : (120 : Int) < (ops.length : Int) := by omega
    go_enter Try.func8, Try.ntmps8
    go_wp2_with fail
    go_ret
    exact ⟨true, rfl, (fun h => by cases h), Below.refl _ _⟩
  · have h1' : ¬ (120 : Int) < (ops.length : Int) := by omega
    have HR := Lib.hid hr
    have HB := Lib.hid hb
    clear hr hb
    go_enter Try.func8, Try.ntmps8
    go_wp2_with fail
    go_loopg [10] ops.length (fun g i wr => ∃ k : Nat, k ≤ ops.length ∧ g = ops.length - k ∧ i = .int .i64 k ∧ Hid (SmallTo ops k) ∧ Hid (Below w.heap.size w wr))
    case atStart => exact ⟨0, Nat.zero_le _, rfl, rfl, (fun i o hi => by omega : SmallTo ops 0), Below.refl _ _⟩
    case round =>
      obtain ⟨k, hk, hg, rfl, HS, HK⟩ := hrel
      by_cases hlt : k < ops.length
      · obtain ⟨o, ho⟩ : ∃ o, ops[k]? = some o := ⟨_, List.getElem?_eq_getElem hlt⟩
        obtain ⟨b, off, rfl, hbl, c0, c1, c2, c3, c4, c5, c6, c7⟩ := HR.out.cells ho (HB.out.trans (HK.out.mono HB.out.size))
        have HO := Lib.hid ho
        clear ho
        by_cases t1 : 200 < o.name.size
        · have t1b : decide ((200 : Int) < (o.name.size : Int)) = true := decide_eq_true (by omega)
          go_wp2_with fail
          go_ret
          exact ⟨true, rfl, (fun h => by cases h), HK.out.alloc HK.out.size _⟩
        · have t1b : decide ((200 : Int) < (o.name.size : Int)) = false := decide_eq_false (by omega)
          by_cases t2 : 200 < o.x.e.table.size
          · have t2b : decide ((200 : Int) < (o.x.e.table.size : Int)) = true := decide_eq_true (by omega)
            go_wp2_with fail
            go_ret
            exact ⟨true, rfl, (fun h => by cases h), HK.out.alloc HK.out.size _⟩
          · have t2b : decide ((200 : Int) < (o.x.e.table.size : Int)) = false := decide_eq_false (by omega)
            by_cases t3 : 20 < o.x.e.old.length
            · have t3b : decide ((20 : Int) < (o.x.e.old.length : Int)) = true := decide_eq_true (by omega)
              go_wp2_with fail
              go_ret
              exact ⟨true, rfl, (fun h => by cases h), HK.out.alloc HK.out.size _⟩
            · have t3b : decide ((20 : Int) < (o.x.e.old.length : Int)) = false := decide_eq_false (by omega)
              by_cases t4 : 20 < o.x.e.new.length
              · have t4b : decide ((20 : Int) < (o.x.e.new.length : Int)) = true := decide_eq_true (by omega)
                go_wp2_with fail
                go_ret
                exact ⟨true, rfl, (fun h => by cases h), HK.out.alloc HK.out.size _⟩
              · have t4b : decide ((20 : Int) < (o.x.e.new.length : Int)) = false := decide_eq_false (by omega)
                go_wp2_with fail
                go_roundg (ops.length - (k + 1))
                case measure => omega
                case rel => exact ⟨k + 1, by omega, rfl, by go_num, Lib.hid (fun i p hi hp => by
                  rcases Nat.lt_succ_iff_lt_or_eq.1 hi with h | rfl
                  · exact HS.out i p h hp
                  · rw [HO.out] at hp; cases hp; exact ⟨by omega, by omega, by omega, by omega⟩ : SmallTo ops (k + 1)), Lib.hid (HK.out.alloc HK.out.size _)⟩
      · go_wp2_with fail
        go_ret
        exact ⟨false, rfl, (fun _ => ⟨by omega, fun i o ho => HS.out i o (by have := (List.getElem?_eq_some_iff.1 ho).1; omega) ho⟩), HK.out⟩

/-! ### Lists of texts -/
def ReadsN (w : World) (A : Option Addr) (l : List ByteArray) : Prop := ∀ i x, l[i]? = some x → ∃ b, A = some ⟨b, 0, none⟩ ∧ b < w.heap.size ∧ w.cell? ⟨b, i, none⟩ = some (.string x)
theorem ReadsN.of {w : World} {base : Nat} {A : Option Addr} {n c : Nat} {l : List ByteArray} (h : w.ownsRow base 9 1 (.slice A n c) n (ncells l)) (hn : n = l.length) : ReadsN w A l := by
  intro i x hx
  have hi := (List.getElem?_eq_some_iff.1 hx).1
  subst hn
  rcases h.2 with ⟨h1, h2⟩ | ⟨g, cap, cur, h1, hb, hg, _⟩
  · omega
  · injection h1 with a b d
    subst a
    refine ⟨g, rfl, lt_of_block hg, ?_⟩
    rw [World.ownsRow.cellAt h i (by omega)]
    unfold ncells
    rw [List.getElem?_map, hx]
    rfl
theorem ReadsN.below {w w' : World} {A : Option Addr} {l : List ByteArray} (h : ReadsN w A l) {k : Nat} (hb : Below k w w') (hk : w.heap.size ≤ k) : ReadsN w' A l := by
  intro i x hx
  obtain ⟨b, rfl, hl, hc⟩ := h i x hx
  exact ⟨b, rfl, Nat.lt_of_lt_of_le hl hb.size, (World.cell?_of_block (w := w) (a := ⟨b, i, none⟩) (hb.block b (Nat.lt_of_lt_of_le hl hk))).trans hc⟩
theorem same06_any {w : World} (A B : Option Addr) (l : List ByteArray) (c d : Nat) (ha : ReadsN w A l) (hb : ReadsN w B l) (hl : l.length ≤ 1000000) :
    Calls Try.prog 21 #[.slice A l.length c, .slice B l.length d] w fun e w' => e = .returned (.bool true) ∧ ∃ n, w' = w.drewN n := by
  have HA := Lib.hid ha
  have HB := Lib.hid hb
  clear ha hb
  go_enter Try.func21, Try.ntmps21
  go_wp2_with fail
  go_loopw [5] (fun i wr => ∃ j n : Nat, j ≤ l.length ∧ i = .int .i64 j ∧ wr = w.drewN n) (fun i _ => l.length - (intOf i).toNat)
  case atStart => exact ⟨0, 0, Nat.zero_le _, rfl, rfl⟩
  case round =>
    obtain ⟨j, n, hj, rfl, rfl⟩ := hrel
    by_cases hlt : j < l.length
    · obtain ⟨x, hx⟩ : ∃ x, l[j]? = some x := ⟨_, List.getElem?_eq_getElem hlt⟩
      obtain ⟨b, rfl, hbl, hc⟩ := HA.out j x hx
      obtain ⟨b', rfl, hbl', hc'⟩ := HB.out j x hx
      clear hx
      go_wp2_with fail
      go_quiet (fail)
      go_wp2_with fail
      exact ⟨⟨j + 1, n + nq, by omega, by go_num, rfl⟩, by simp [intOf]; omega⟩
    · go_wp2_with fail
      go_ret
      exact ⟨rfl, _, rfl⟩
end Go.Proofs.Ytkanlcfinogaeaa
