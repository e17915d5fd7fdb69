/-
  The reference's arena: how it lies in memory; New, At, zeros.
-/
import Derived.Test.YtmlgockejacjeaaArSnap
namespace Go.Proofs.Ytmlgockejacjeaa
open Go.RowKit
set_option linter.unusedVariables false
set_option linter.unusedSimpArgs false

/-- A reference's arena: its pages in the order in which they came, the free numbers, the next one, the quota. -/
structure RfS where
  L : List (Int × ByteArray)
  free : List Int
  next : Int
  quota : Int
/-- Pages as cells. -/
def pcells (L : List (Int × ByteArray)) : List Value := L.flatMap fun p => [.int .i64 p.1, .string p.2]
theorem pcells_len (L : List (Int × ByteArray)) : (pcells L).length = L.length * 2 := by
  induction L with
  | nil => rfl
  | cons p t ih => simp [pcells] at ih ⊢; omega
theorem pcells_cons (p : Int × ByteArray) (t : List (Int × ByteArray)) : pcells (p :: t) = .int .i64 p.1 :: .string p.2 :: pcells t := rfl
theorem pcells_append (a b : List (Int × ByteArray)) : pcells (a ++ b) = pcells a ++ pcells b := by simp [pcells]
theorem pcells_at : ∀ (L : List (Int × ByteArray)) (i : Nat) (p : Int × ByteArray), L[i]? = some p → (pcells L)[i * 2]? = some (.int .i64 p.1) ∧ (pcells L)[i * 2 + 1]? = some (.string p.2)
  | [], i, p, h => by simp at h
  | q :: t, 0, p, h => by
    simp at h; subst h
    exact ⟨rfl, rfl⟩
  | q :: t, i + 1, p, h => by
    simp at h
    have ih := pcells_at t i p h
    rw [pcells_cons, show (i + 1) * 2 = i * 2 + 1 + 1 from by omega]
    exact ih
theorem pcells_one (L : List (Int × ByteArray)) : ∀ u ∈ pcells L, u.oneCell' = true := by
  intro u hu
  simp [pcells] at hu
  obtain ⟨a, b, _, h⟩ := hu
  rcases h with rfl | rfl <;> rfl

def ROwn (r : Nat) (lv fv : Value) (k : Nat) : Prop := k = r ∨ lv.ownBlock = some k ∨ fv.ownBlock = some k
structure RRep (base r : Nat) (S : RfS) (lv fv : Value) (w : World) : Prop where
  lo : base ≤ r
  blk : w.heap[r]? = some (.cells #[lv, fv, .int .i64 S.next, .int .i64 S.quota] 50)
  lown : w.ownsRow base 46 2 lv S.L.length (pcells S.L)
  fown : w.ownsRow base 3 1 fv S.free.length (S.free.map (Value.int .i64))
def RR (base r : Nat) (S : RfS) (own : Nat → Prop) (w : World) : Prop := ∃ lv fv, own = ROwn r lv fv ∧ RRep base r S lv fv w
theorem RR.lt {base r : Nat} {S : RfS} {own : Nat → Prop} {w : World} (h : RR base r S own w) : ∀ k, own k → base ≤ k ∧ k < w.heap.size := by
  obtain ⟨lv, fv, rfl, R⟩ := h
  rintro k (rfl | h | h)
  · exact ⟨R.lo, lt_of_block R.blk⟩
  · exact R.lown.lt k h
  · exact R.fown.lt k h
theorem RR.stay {base r : Nat} {S : RfS} {own : Nat → Prop} {w w' : World} (h : RR base r S own w) (hk : ∀ k, own k → w'.heap[k]? = w.heap[k]?) : RR base r S own w' := by
  obtain ⟨lv, fv, rfl, R⟩ := h
  exact ⟨lv, fv, rfl, R.lo, (hk r (.inl rfl)).trans R.blk, owns_same R.lown fun k h => hk k (.inr (.inl h)), owns_same R.fown fun k h => hk k (.inr (.inr h))⟩
theorem four_of_block {w : World} {B : Nat} {x y z u : Value} {t : TypeId} (h : w.heap[B]? = some (.cells #[x, y, z, u] t)) : w.cell? ⟨B, 0, none⟩ = some x ∧ w.cell? ⟨B, 1, none⟩ = some y ∧ w.cell? ⟨B, 2, none⟩ = some z ∧ w.cell? ⟨B, 3, none⟩ = some u ∧ w.frozen? ⟨B, 0, none⟩ = false ∧ w.frozen? ⟨B, 1, none⟩ = false ∧ w.frozen? ⟨B, 2, none⟩ = false ∧ w.frozen? ⟨B, 3, none⟩ = false ∧ B < w.heap.size :=
  ⟨cell_of_block h 0, cell_of_block h 1, cell_of_block h 2, cell_of_block h 3, free_of_block h 0, free_of_block h 1, free_of_block h 2, free_of_block h 3, lt_of_block h⟩

theorem rnew_bad (q : Int) (hq : (Lit.int .i64 q).wf = true) (hb : ¬ (0 ≤ q ∧ q ≤ 4096)) (w : World) :
    Calls Try.prog 14 #[.int .i64 q] w fun e w' => e = .returned (.tuple #[.pointer none, .bool false]) ∧ w = w' := by
  go_enter Try.func14, Try.ntmps14
  go_wp2_with fail
  all_goals
    first
      | (exfalso; omega)
      | (go_ret2; exact ⟨rfl, rfl⟩)
theorem rnew_any (q : Int) (h0 : 0 ≤ q) (h1 : q ≤ 4096) (w : World) :
    Calls Try.prog 14 #[.int .i64 q] w fun e w' => e = .returned (.tuple #[.pointer (some ⟨w.heap.size, 0, none⟩), .bool true]) ∧ Below w.heap.size w w' ∧ ∃ own, RR w.heap.size w.heap.size ⟨[], [], 1, q⟩ own w' ∧ ∀ k, own k → w.heap.size ≤ k := by
  go_enter Try.func14, Try.ntmps14
  go_wp2_with fail
  go_ret2
  have hR : RR w.heap.size w.heap.size ⟨[], [], 1, q⟩ (ROwn w.heap.size (.slice none 0 0) (.slice none 0 0)) (w.alloc (.cells #[.slice none 0 0, .slice none 0 0, .int .i64 1, .int .i64 q] 50)) :=
    ⟨_, _, rfl, Nat.le_refl _, heap_alloc_new _ _, World.ownsRow_nil _ _ _ _, World.ownsRow_nil _ _ _ _⟩
  exact ⟨rfl, (Below.refl _ _).alloc (Nat.le_refl _) _, _, hR, fun k hk => (hR.lt k hk).1⟩

/-- Where a number stands. -/
def RfS.at_ (S : RfS) (n : Int) : Option Nat := S.L.findIdx? fun p => p.1 == n
def RfS.atI (S : RfS) (n : Int) : Int := match S.at_ n with
  | none => -1
  | some i => i
theorem at_some {S : RfS} {n : Int} {j : Nat} {p : Int × ByteArray} (hp : S.L[j]? = some p) (he : (p.1 == n) = true) (hn : ∀ k q, k < j → S.L[k]? = some q → (q.1 == n) = false) : S.at_ n = some j := by
  obtain ⟨hj, hpj⟩ := List.getElem?_eq_some_iff.1 hp
  unfold RfS.at_
  rw [List.findIdx?_eq_some_iff_getElem]
  refine ⟨hj, by rw [hpj]; exact he, fun k hk => ?_⟩
  have := hn k _ hk (List.getElem?_eq_getElem (by omega))
  rw [this]; decide
theorem at_none {S : RfS} {n : Int} (hn : ∀ k q, k < S.L.length → S.L[k]? = some q → (q.1 == n) = false) : S.at_ n = none := by
  unfold RfS.at_
  rw [List.findIdx?_eq_none_iff]
  intro q hq
  obtain ⟨k, hk⟩ := List.mem_iff_getElem?.1 hq
  exact hn k q (List.getElem?_eq_some_iff.1 hk).1 hk
theorem rat_any {base r : Nat} {S : RfS} {own : Nat → Prop} {w : World} (h : RR base r S own w) (n : Int) (hlen : S.L.length ≤ 100000) :
    Calls Try.prog 15 #[.pointer (some ⟨r, 0, none⟩), .int .i64 n] w fun e w' => e = .returned (.int .i64 (S.atI n)) ∧ w = w' := by
  obtain ⟨lv, fv, rfl, R⟩ := h
  obtain ⟨q0, q1, q2, q3, _, _, _, _, hl⟩ := four_of_block R.blk
  obtain ⟨A, cp, rfl⟩ := own_form R.lown
  have HR := Lib.hid R; clear R
  go_enter Try.func15, Try.ntmps15
  go_wp2_with fail
  go_loopw [5] (fun i wr => ∃ j : Nat, j ≤ S.L.length ∧ i = .int .i64 j ∧ wr = w ∧ Hid (∀ k p, k < j → S.L[k]? = some p → (p.1 == n) = false)) (fun i _ => S.L.length - (intOf i).toNat)
  case atStart => exact ⟨0, Nat.zero_le _, rfl, rfl, fun k p hk => by omega⟩
  case round =>
    obtain ⟨j, hj, rfl, rfl, HN⟩ := hrel
    by_cases hlt : j < S.L.length
    · obtain ⟨p, hp⟩ : ∃ p, S.L[j]? = some p := ⟨_, List.getElem?_eq_getElem hlt⟩
      obtain ⟨c1, c2⟩ := pcells_at _ _ _ hp
      have hrow : ∃ g, A = some ⟨g, 0, none⟩ ∧ wr.cell? ⟨g, j * 2, none⟩ = some (.int .i64 p.1) ∧ g < wr.heap.size := by
        rcases HR.out.lown.2 with ⟨h', h''⟩ | ⟨g, cap, cur, h', hb, hg, _⟩
        · exfalso; have := congrArg (fun x => x) h''; omega
        · injection h' with h1 h2 h3
          subst h1
          exact ⟨g, rfl, by rw [World.ownsRow.cellAt HR.out.lown (j * 2) (by omega)]; exact c1, lt_of_block hg⟩
      obtain ⟨g, rfl, hc, hg⟩ := hrow
      have HP := Lib.hid hp
      clear c1 c2 hp
      cases hpn : (p.1 == n) with
      | true =>
        go_wp2_with fail
        go_ret
        refine ⟨?_, rfl⟩
        unfold RfS.atI
        rw [at_some HP.out hpn HN.out]
        rfl
      | false =>
        go_wp2_with fail
        go_roundw
        case rel => exact ⟨j + 1, by omega, by go_num, trivial, fun k q hk hq => by
          rcases Nat.lt_succ_iff_lt_or_eq.1 hk with h | rfl
          · exact HN.out k q h hq
          · rw [HP.out] at hq; cases hq; exact hpn⟩
        case measure => simp [intOf]; omega
    · go_wp2_with fail
      go_ret
      refine ⟨?_, rfl⟩
      obtain rfl : j = S.L.length := by omega
      unfold RfS.atI
      rw [at_none HN.out]
      rfl

theorem zeros_any (w : World) : Calls Try.prog 30 #[] w fun e w' => e = .returned (.string ⟨zpage.toArray⟩) ∧ Below w.heap.size w w' := by
  have hmk := mk1024
  have hZ : (convert 29 9 (.slice (some ⟨w.heap.size, 0, none⟩) 1024 1024)).run Try.prog (w.alloc (.cells Zp 5)) = .ok (.string ⟨zpage.toArray⟩) (w.alloc (.cells Zp 5)) :=
    (Bytes.of (by rw [← Zp_eq]; exact heap_alloc_at _ _ _ rfl)).conv zpage_len 1024
  go_enter Try.func30, Try.ntmps30
  go_wp2_with fail
  go_ret
  exact ⟨rfl, (Below.refl _ _).alloc (Nat.le_refl _) _⟩

/-- The first j numbers that are in use. -/
def RfS.upto (S : RfS) (i : Nat) : List Int := ((List.range i).filter fun (j : Nat) => (S.at_ ((j : Int) + 1)).isSome).map fun (j : Nat) => (j : Int) + 1
theorem rupto_in {S : RfS} {i : Nat} (h : (S.at_ ((i : Int) + 1)).isSome = true) : S.upto (i + 1) = S.upto i ++ [(i : Int) + 1] := by
  unfold RfS.upto
  rw [List.range_succ, List.filter_append, List.map_append]
  simp [h]
theorem rupto_out {S : RfS} {i : Nat} (h : S.at_ ((i : Int) + 1) = none) : S.upto (i + 1) = S.upto i := by
  unfold RfS.upto
  rw [List.range_succ, List.filter_append, List.map_append]
  simp [h]
theorem rupto_len (S : RfS) (i : Nat) : (S.upto i).length ≤ i := by
  unfold RfS.upto
  rw [List.length_map]
  exact Nat.le_trans (List.length_filter_le _ _) (by simp)
theorem RR.ofBelow {base r : Nat} {S : RfS} {own : Nat → Prop} {w w' : World} (h : RR base r S own w) (hb : Below w.heap.size w w') : RR base r S own w' := h.stay fun k hk => hb.block k (h.lt k hk).2

def RPagesRel (S : RfS) (w : World) (i : Nat) (v : Value) (wr : World) : Prop := wr.ownsRow w.heap.size 3 1 v (S.upto i).length ((S.upto i).map (Value.int .i64)) ∧ Below w.heap.size w wr
theorem rpages_any {base r : Nat} {S : RfS} {own : Nat → Prop} {w : World} (h : RR base r S own w) (hlen : S.L.length ≤ 100000) (N : Nat) (hN : S.next = (N : Int) + 1) (hN2 : N ≤ 100000) :
    Calls Try.prog 24 #[.pointer (some ⟨r, 0, none⟩)] w fun e w' => ∃ v, e = .returned v ∧ RPagesRel S w N v w' := by
  have HRR := Lib.hid h
  obtain ⟨lv, fv, rfl, R⟩ := h
  obtain ⟨i0, hi, hz0, hz1, hz2⟩ := info_parts info_I
  have hblk := Lib.hid R.blk
  rw [hN] at hblk
  clear R hN
  go_enter Try.func24, Try.ntmps24
  go_wp2_with fail
  go_loopw [3, 4] (fun out i wr => ∃ j : Nat, j ≤ N ∧ i = .int .i64 ((j : Int) + 1) ∧ RPagesRel S w j out wr) (fun _ i _ => N + 1 - (intOf i).toNat)
  case atStart => exact ⟨0, Nat.zero_le _, rfl, World.ownsRow_made w #[] 0 (Nat.le_refl _) (by simp [maxLen]) (by simp), (Below.refl _ _).alloc (Nat.le_refl _) _⟩
  case round =>
    obtain ⟨j, hj, rfl, hrel⟩ := hrel
    have HREL := Lib.hid hrel; clear hrel
    obtain ⟨B, cb, rfl⟩ := own_form HREL.out.1
    have hsz := HREL.out.2.size
    have HR2 := Lib.hid (HRR.out.ofBelow HREL.out.2)
    have hbw := HREL.out.2.block r (lt_of_block hblk.out)
    obtain ⟨q0, q1, q2, q3, _, _, _, _, hl⟩ := four_of_block (hbw.trans hblk.out)
    clear hbw
    by_cases hlt : j < N
    · have hul := rupto_len S j
      have hcall := Lib.hid (rat_any HR2.out ((j : Int) + 1) hlen)
      rcases hp : S.at_ ((j : Int) + 1) with _ | m
      · have e1 : S.atI ((j : Int) + 1) = -1 := by unfold RfS.atI; rw [hp]
        rw [e1] at hcall
        have HP := Lib.hid hp
        clear hp e1
        go_wp2_with fail
        refine hcall.out.mono ?_
        rintro e w2 ⟨rfl, rfl⟩
        go_wp2_with fail
        go_roundw
        case rel => exact ⟨j + 1, by omega, by go_num, by unfold RPagesRel; rw [rupto_out HP.out]; exact HREL.out⟩
        case measure => simp [intOf]; omega
      · have e1 : S.atI ((j : Int) + 1) = (m : Int) := by unfold RfS.atI; rw [hp]
        rw [e1] at hcall
        have HP := Lib.hid hp
        clear hp e1
        have HOWN := Lib.hid (HREL.out.1.alloc (.cells #[.int .i64 ((j : Int) + 1)] 3))
        have C1 := Lib.hid (cell_one_new wr (.int .i64 ((j : Int) + 1)) 3)
        have C2 : Hid (∀ u ∈ [Value.int .i64 ((j : Int) + 1)], u.oneCell' = true) := (by simp [Value.oneCell'] : ∀ u ∈ [Value.int .i64 ((j : Int) + 1)], u.oneCell' = true)
        have C3 : Hid ((S.upto j).length + 1 ≤ maxLen) := (by simp only [maxLen]; omega : (S.upto j).length + 1 ≤ maxLen)
        have C4 : Hid (((S.upto j).length + 1) * 8 ≤ 140737488355328) := (by omega : ((S.upto j).length + 1) * 8 ≤ 140737488355328)
        go_wp2_with fail
        refine hcall.out.mono ?_
        rintro e w2 ⟨rfl, rfl⟩
        go_wp2_with (at_builtin; refine wpList_append_own _ rfl _ _ 48 rfl w.heap.size 3 i0 (.int .i64 0) 1 8 Try.underlying48 hi hz0 hz1 hz2 rfl (by decide) _ _ _ rfl HOWN.out ⟨wr.heap.size, 0, none⟩ 1 1 [.int .i64 ((j : Int) + 1)] rfl rfl C1.out C2.out C3.out C4.out (by simp; omega) ?_; intro v' w2 hown' hgrow hnil; obtain ⟨A', c', rfl⟩ := own_form hown'; have HG : Hid (World.grownBy _ w2 (Value.ownBlock (.slice B (S.upto j).length cb))) := hgrow; have HO := Lib.hid hown'; clear hown' hgrow hnil)
        go_roundw
        case rel =>
          have hend : RPagesRel S w (j + 1) (.slice A' ((S.upto j).length + 1) c') w2 := by
            refine ⟨?_, (HREL.out.2.alloc hsz _).grown HG.out (by simp; omega) (fun k hk => (HREL.out.1.lt k hk).1)⟩
            rw [rupto_in (by rw [HP.out]; rfl)]
            simpa using HO.out
          first
            | exact ⟨j + 1, by omega, by go_num, hend⟩
            | exact ⟨_, _, ⟨j + 1, by omega, by go_num, hend⟩, rfl, rfl⟩
        case measure => simp [intOf]; omega
    · go_wp2_with fail
      go_ret
      obtain rfl : j = N := by omega
      exact ⟨_, rfl, HREL.out⟩
end Go.Proofs.Ytmlgockejacjeaa
