/-
  The walk of the law FaultFirst: functions, each of which counts and gives up with a code; First calls them till one gives up.
-/
import Derived.Test.YtigcmbakglghpaaFirst
import Derived.Test.YtigcmbakglghpaaFault
import Derived.OwnWalk
import Derived.Deep.QuietTactic
import Derived.BigQuiet
import Derived.WalkSmall
import Derived.ProofKit
namespace Go.Proofs.Ytigcmbakglghpaa
open Go.RowKit
set_option linter.unusedVariables false
set_option linter.unusedSimpArgs false

theorem infoFn : (Try.prog.info? 1).map (fun i => (i.zero, i.size, i.bytes)) = some (some .nilFunc, 1, 8) := by kernel_rfl

/-- The closure of FaultFirst: it counts, and gives up with its code (or returns, where that is 0). -/
theorem ff1_ok (D C I : Nat) (n i : Int) (w : World) (h1 : w.cell? ⟨D, 0, none⟩ = some (.int .i64 n)) (hz : w.frozen? ⟨D, 0, none⟩ = false) (hc : w.cell? ⟨C, 0, none⟩ = some (.int .i64 0)) (hi : w.cell? ⟨I, 0, none⟩ = some (.int .i64 i)) (h2 : D ≠ C) (h3 : D ≠ I) (hn : 0 ≤ n) (hn' : n ≤ 1000) :
    Calls Try.prog 13 #[.pointer (some ⟨D, 0, none⟩), .pointer (some ⟨C, 0, none⟩), .pointer (some ⟨I, 0, none⟩)] w fun e w' => e = .returned (.tuple #[]) ∧ w.setCell ⟨D, 0, none⟩ (.int .i64 (n + 1)) = w' := by
  have c1 : (w.setCell ⟨D, 0, none⟩ (.int .i64 (n + 1))).cell? ⟨C, 0, none⟩ = some (.int .i64 0) := (World.cell?_setCell_other _ _ _ _ (by simp [h2])).trans hc
  have c2 : (w.setCell ⟨D, 0, none⟩ (.int .i64 (n + 1))).cell? ⟨I, 0, none⟩ = some (.int .i64 i) := (World.cell?_setCell_other _ _ _ _ (by simp [h3])).trans hi
  go_enter Try.func13, Try.ntmps13
  go_wp2_with (go_at_call 12; refine (stop_ok i _).mono ?_; rintro e w' ⟨rfl, rfl⟩)
  go_end0
  exact ⟨rfl, rfl⟩

theorem ff1_no (D C I : Nat) (n c i : Int) (w : World) (h1 : w.cell? ⟨D, 0, none⟩ = some (.int .i64 n)) (hz : w.frozen? ⟨D, 0, none⟩ = false) (hc : w.cell? ⟨C, 0, none⟩ = some (.int .i64 c)) (hi : w.cell? ⟨I, 0, none⟩ = some (.int .i64 i)) (h2 : D ≠ C) (h3 : D ≠ I) (hn : 0 ≤ n) (hn' : n ≤ 1000) (hc0 : (c == 0) = false) :
    Calls Try.prog 13 #[.pointer (some ⟨D, 0, none⟩), .pointer (some ⟨C, 0, none⟩), .pointer (some ⟨I, 0, none⟩)] w fun e w' => e = .panicked (thrown c i) ∧ w.setCell ⟨D, 0, none⟩ (.int .i64 (n + 1)) = w' := by
  have c1 : (w.setCell ⟨D, 0, none⟩ (.int .i64 (n + 1))).cell? ⟨C, 0, none⟩ = some (.int .i64 c) := (World.cell?_setCell_other _ _ _ _ (by simp [h2])).trans hc
  have c2 : (w.setCell ⟨D, 0, none⟩ (.int .i64 (n + 1))).cell? ⟨I, 0, none⟩ = some (.int .i64 i) := (World.cell?_setCell_other _ _ _ _ (by simp [h3])).trans hi
  go_enter Try.func13, Try.ntmps13
  go_wp2_with (go_at_call 12; refine (stop_no c i hc0 _).mono ?_; rintro e w' ⟨rfl, rfl⟩)
  exact ⟨rfl, rfl, rfl⟩

/-- The closure over the blocks D (the count) and p (its code, its place). -/
def clo (D : Nat) (p : Nat × Nat) : Value := .func (.func 13) #[] #[.pointer (some ⟨D, 0, none⟩), .pointer (some ⟨p.1, 0, none⟩), .pointer (some ⟨p.2, 0, none⟩)]

/-- Which is the first code that isn't 0, among the first k; -1: none. -/
def fst (zs : List Int) : Nat → Int
  | 0 => -1
  | k + 1 => if fst zs k < 0 ∧ zs.getD k 0 ≠ 0 then k else fst zs k

theorem fst_range (zs : List Int) (k : Nat) : -1 ≤ fst zs k ∧ fst zs k < k := by
  induction k with
  | zero => simp [fst]
  | succ k ih => unfold fst; split <;> omega
theorem fst_neg (zs : List Int) (k : Nat) : fst zs k < 0 ↔ ∀ j, j < k → zs.getD j 0 = 0 := by
  induction k with
  | zero => simp [fst]
  | succ k ih =>
    unfold fst
    constructor
    · intro h j hj
      split at h
      · omega
      · rename_i hn
        have h0 := ih.1 h
        by_cases e : j = k
        · subst e
          exact Decidable.byContradiction fun hne => hn ⟨h, hne⟩
        · exact h0 j (by omega)
    · intro h
      have h1 := ih.2 (fun j hj => h j (by omega))
      rw [if_neg (fun hh => hh.2 (h k (by omega)))]
      exact h1
theorem fst_pos (zs : List Int) (k : Nat) (h : 0 ≤ fst zs k) : zs.getD (fst zs k).toNat 0 ≠ 0 ∧ (∀ j, j < (fst zs k).toNat → zs.getD j 0 = 0) ∧ (fst zs k).toNat < k := by
  induction k with
  | zero => simp [fst] at h
  | succ k ih =>
    unfold fst at h ⊢
    split
    · rename_i hc
      refine ⟨by simpa using hc.2, fun j hj => (fst_neg zs k).1 hc.1 j (by simpa using hj), by simp⟩
    · rename_i hc
      rw [if_neg hc] at h
      obtain ⟨h1, h2, h3⟩ := ih h
      exact ⟨h1, h2, by omega⟩

/-- What holds at the head of FaultFirst's loop: ps: the blocks of the closures' own variables. -/
structure FfRel (B base D : Nat) (zs : List Int) (w : World) (ps : List (Nat × Nat)) (fs : Value) (wr : World) : Prop where
  own : wr.ownsRow base 1 1 fs ps.length (ps.map (clo D))
  each : ∀ (j : Nat) (p : Nat × Nat), ps[j]? = some p → wr.heap[p.1]? = some (Obj.cells #[.int .i64 (zs.getD j 0)] 3) ∧ wr.heap[p.2]? = some (Obj.cells #[.int .i64 (j : Int)] 3) ∧ D ≠ p.1 ∧ D ≠ p.2
  cnt : wr.heap[D]? = some (.cells #[.int .i64 0] 3)
  below : Below B w wr

theorem FfRel.start {B base D : Nat} {zs : List Int} {w wr : World} (hD : wr.heap[D]? = some (.cells #[.int .i64 0] 3)) (hb : Below B w wr) : FfRel B base D zs w [] (.slice none 0 0) wr :=
  ⟨World.ownsRow_nil _ _ _ _, fun j p h => by simp at h, hD, hb⟩

/-- The world of a round, ahead of the append: two new blocks, and the closure laid in a third. -/
def ffW (wr : World) (D : Nat) (k z : Int) : World :=
  ((wr.alloc (.cells #[.int .i64 k] 3)).alloc (.cells #[.int .i64 z] 3)).alloc (.cells #[clo D (wr.heap.size + 1, wr.heap.size)] 1)

theorem FfRel.round {B base D : Nat} {zs : List Int} {w wr : World} {ps : List (Nat × Nat)} {fs : Value} (h : FfRel B base D zs w ps fs wr) (hB : B ≤ wr.heap.size) (hbase : B ≤ base)
    (v' : Value) (w1 : World) (hown : w1.ownsRow base 1 1 v' (ps.length + 1) (ps.map (clo D) ++ [clo D (wr.heap.size + 1, wr.heap.size)]))
    (hg : (ffW wr D ps.length (zs.getD ps.length 0)).grownBy w1 fs.ownBlock) :
    FfRel B base D zs w (ps ++ [(wr.heap.size + 1, wr.heap.size)]) v' w1 := by
  have hDlt := lt_of_block h.cnt
  have hrow : ∀ k, fs.ownBlock = some k → base ≤ k ∧ k < wr.heap.size := h.own.lt
  have up : ∀ {b : Nat} {o : Obj}, wr.heap[b]? = some o → (ffW wr D ps.length (zs.getD ps.length 0)).heap[b]? = some o := fun hb => blk_alloc (blk_alloc (blk_alloc hb _) _) _
  refine ⟨by simpa using hown, fun j p hp => ?_, ?_, ?_⟩
  · rw [List.getElem?_append] at hp
    split at hp
    · obtain ⟨h1, h2, h3, h4⟩ := h.each j p hp
      exact ⟨blk_grown (up h1) hg (owns_ne h.own h1 (by decide)), blk_grown (up h2) hg (owns_ne h.own h2 (by decide)), h3, h4⟩
    · rename_i hj
      have e : j = ps.length := by
        rcases Nat.lt_or_ge j (ps.length + 1) with h5 | h5
        · omega
        · rw [List.getElem?_eq_none (by simp; omega)] at hp; cases hp
      subst e
      rw [Nat.sub_self] at hp
      obtain rfl : (wr.heap.size + 1, wr.heap.size) = p := by simpa using hp
      refine ⟨blk_grown (blk_alloc (heap_alloc_at _ _ _ (by simp)) _) hg (fun e => ?_), blk_grown (blk_alloc (blk_alloc (heap_alloc_new _ _) _) _) hg (fun e => ?_), by simp; omega, by simp; omega⟩
      · have := hrow _ e.symm; omega
      · have := hrow _ e.symm; omega
  · exact blk_grown (up h.cnt) hg (owns_ne h.own h.cnt (by decide))
  · exact (((h.below.alloc hB _).alloc (by simp; omega) _).alloc (by simp; omega) _).grown hg (by simp; omega) (fun k hk => by have := hrow k hk; omega)

/-- What First has done of FaultFirst's closures: the first j have returned (their codes are 0). -/
def FfInv (D : Nat) (zs : List Int) (W0 : World) (j : Nat) (own : Nat → Prop) (w : World) : Prop :=
  (own = fun k => k < W0.heap.size) ∧ But D W0 w ∧ w.heap[D]? = some (Obj.cells #[.int .i64 (j : Int)] 3) ∧ ∀ i, i < j → zs.getD i 0 = 0
def FfStp (D : Nat) (zs : List Int) (W0 : World) (j : Nat) (c a : Int) (own : Nat → Prop) (w : World) : Prop :=
  (own = fun k => k < W0.heap.size) ∧ But D W0 w ∧ w.heap[D]? = some (Obj.cells #[.int .i64 ((j : Int) + 1)] 3) ∧ c = zs.getD j 0 ∧ a = j ∧ ∀ i, i < j → zs.getD i 0 = 0

theorem but_stay {D : Nat} {W0 w w' : World} (h : But D W0 w) (hs : w.heap.size ≤ w'.heap.size) (hk : ∀ k, k < W0.heap.size → w'.heap[k]? = w.heap[k]?) (h1 : w'.os = w.os) (h2 : w'.tape = w.tape) (h3 : w'.output = w.output) : But D W0 w' :=
  ⟨h1.trans h.os, h2.trans h.tape, h3.trans h.output, Nat.le_trans h.size hs, fun k hk2 hn => (hk k hk2).trans (h.block k hk2 hn)⟩

theorem clo_eq {D : Nat} {p : Nat × Nat} : clo D p = .func (.func 13) #[] #[.pointer (some ⟨D, 0, none⟩), .pointer (some ⟨p.1, 0, none⟩), .pointer (some ⟨p.2, 0, none⟩)] := rfl

theorem ff_firstOf {B base D cap : Nat} {zs : List Int} {w W0 : World} {ps : List (Nat × Nat)} {A : Option Addr} (h : FfRel B base D zs w ps (.slice A ps.length cap) W0) (hn : ps.length ≤ 300) :
    FirstOf ps.length A (fun j => clo D (ps.getD j (0, 0))) (FfInv D zs W0) (FfStp D zs W0) where
  stay := by
    rintro j own w1 w2 ⟨rfl, h1, h2, h3⟩ hs hk e1 e2 e3
    exact ⟨rfl, but_stay h1 hs hk e1 e2 e3, (hk D (lt_of_block h.cnt)).trans h2, h3⟩
  stayS := by
    rintro j c a own w1 w2 ⟨rfl, h1, h2, h3⟩ hs hk e1 e2 e3
    exact ⟨rfl, but_stay h1 hs hk e1 e2 e3, (hk D (lt_of_block h.cnt)).trans h2, h3⟩
  lt := by
    rintro j own w1 ⟨rfl, h1, h2, h3⟩ k hk
    exact Nat.lt_of_lt_of_le hk h1.size
  ltS := by
    rintro j c a own w1 ⟨rfl, h1, h2, h3⟩ k hk
    exact Nat.lt_of_lt_of_le hk h1.size
  read := by
    rintro j own w1 ⟨rfl, h1, h2, h3⟩ hj
    have ho := h.own
    obtain ⟨g, cap', hv, _, hlt⟩ := ho.form (by omega)
    injection hv with hA hcap
    subst hA
    refine ⟨g, rfl, ?_⟩
    have hD := owns_ne ho h.cnt (by decide)
    have hne : g ≠ D := fun e => hD (by simp [Value.ownBlock, e])
    rw [Chg.cell h1 hlt hne, ho.cellAt j (by omega), List.getElem?_map, List.getD_eq_getElem?_getD]
    rw [List.getElem?_eq_getElem hj]
    rfl
  call := by
    rintro j own w1 hj ⟨rfl, h1, h2, h3⟩
    obtain ⟨p, hp⟩ : ∃ p, ps[j]? = some p := ⟨ps[j], List.getElem?_eq_getElem hj⟩
    have hpd : ps.getD j (0, 0) = p := by rw [List.getD_eq_getElem?_getD, hp]; rfl
    simp only [hpd]
    rw [clo_eq]
    obtain ⟨e1, e2, n1, n2⟩ := h.each j p hp
    have b1 := blk_alloc (blk_chg e1 h1 (Ne.symm n1)) (.cells #[.int .i64 0, .int .i64 0] 25)
    have b2 := blk_alloc (blk_chg e2 h1 (Ne.symm n2)) (.cells #[.int .i64 0, .int .i64 0] 25)
    have b3 := blk_alloc h2 (.cells #[.int .i64 0, .int .i64 0] 25)
    have q1 := one_of_block b1
    have q2 := one_of_block b2
    have q3 := one_of_block b3
    have hDlt := lt_of_block h2
    have hD0 := lt_of_block h.cnt
    -- behind the closure's own store, and Catch
    have fin : ∀ w2, But w1.heap.size ((w1.alloc (.cells #[.int .i64 0, .int .i64 0] 25)).setCell ⟨D, 0, none⟩ (.int .i64 ((j : Int) + 1))) w2 → But D W0 w2 ∧ w2.heap[D]? = some (Obj.cells #[.int .i64 ((j : Int) + 1)] 3) := fun w2 hb => by
      exact ⟨Chg.seq (Chg.setCell (Chg.alloc h1 _) (.inr rfl) 0 _) hb (fun i hi e => by have := h1.size; omega), blk_but (blk_set b3 0 (.int .i64 ((j : Int) + 1))) hb (by omega)⟩
    have hF := heap_alloc_new w1 (.cells #[.int .i64 0, .int .i64 0] 25)
    by_cases hz : zs.getD j 0 = 0
    · rw [hz] at q1
      refine (catch_back 13 _ w1 _ (fun _ _ => by simp [go_sem]) (ff1_ok D p.1 p.2 j j _ q3.1 q3.2.1 q1.1 q2.1 n1 n2 (by omega) (by omega)) ?_).mono ?_
      · rintro w2 rfl; exact blk_set_ne hF _ _ (by omega)
      · rintro e w3 ⟨rfl, w2, rfl, hb⟩
        obtain ⟨f1, f2⟩ := fin w3 hb
        refine ⟨_, ⟨Chg.seq (Chg.setCell (S := fun k => k < W0.heap.size) (Chg.alloc (Chg.refl _ _) _) (.inr hD0) 0 _) hb (fun i hi e => by omega), fun k hk => .inl hk⟩, .inl ⟨rfl, rfl, f1, by simpa using f2, fun i hi => ?_⟩⟩
        by_cases e : i = j
        · subst e; exact hz
        · exact h3 i (by omega)
    · refine (catch_stop 13 _ w1 _ _ _ (fun _ _ => by simp [go_sem]) (ff1_no D p.1 p.2 j (zs.getD j 0) j _ q3.1 q3.2.1 q1.1 q2.1 n1 n2 (by omega) (by omega) (beq_eq_false_iff_ne.2 hz)) ?_).mono ?_
      · rintro w2 rfl; exact blk_set_ne hF _ _ (by omega)
      · rintro e w3 ⟨rfl, w2, rfl, hb⟩
        obtain ⟨f1, f2⟩ := fin w3 hb
        exact ⟨_, ⟨Chg.seq (Chg.setCell (S := fun k => k < W0.heap.size) (Chg.alloc (Chg.refl _ _) _) (.inr hD0) 0 _) hb (fun i hi e => by omega), fun k hk => .inl hk⟩, .inr ⟨_, _, beq_eq_false_iff_ne.2 hz, rfl, rfl, f1, f2, rfl, rfl, h3⟩⟩

theorem own_form {w : World} {base : Nat} {e : TypeId} {size : Nat} {v : Value} {n : Nat} {xs : List Value} (h : w.ownsRow base e size v n xs) : ∃ A cap, v = .slice A n cap := by
  rcases h.2 with ⟨rfl, rfl⟩ | ⟨g, cap, cur, rfl, _⟩
  · exact ⟨_, _, rfl⟩
  · exact ⟨_, _, rfl⟩

/-- How a slice of ints reads: where it isn't empty, its cells. -/
def ReadsI (w : World) (A : Option Addr) (n : Nat) (zs : List Int) : Prop := ∀ i, i < n → ∃ b off, A = some ⟨b, off, none⟩ ∧ b < w.heap.size ∧ w.cell? ⟨b, off + i, none⟩ = some (.int .i64 (zs.getD i 0))

set_option maxHeartbeats 1000000 in
theorem faultFirst_any (A : Option Addr) (len cap : Nat) (zs : List Int) (w : World) (hr : ReadsI w A len zs) (hlen : len ≤ 300) :
    Calls Try.prog 4 #[.slice A len cap] w fun e w' => e = .returned (.bool true) ∧ Below w.heap.size w w' := by
  have hmf := @make_func Try.prog
  have heq := eq_fault
  have hnot := @unary_not Try.prog
  obtain ⟨i0, hi, hz0, hz1, hz2⟩ := info_parts infoFn
  have HR := Lib.hid hr; clear hr
  go_enter Try.func4, Try.ntmps4
  go_wp2_with (go_at_call 7; refine (awake_calls _).mono ?_; rintro e w1 ⟨rfl, hb0⟩)
  have z0 := hb0.size
  have Hb0 := Lib.hid hb0; clear hb0
  have hw1 := heap_alloc_new w1 (.cells #[.int .i64 0] 3)
  have HW1 := Lib.hid hw1; clear hw1
  go_loopw [4, 5, 17] (fun fs f i wr => ∃ ps : List (Nat × Nat), ps.length ≤ len ∧ i = .int .i64 ps.length ∧ f = .int .i64 (fst zs ps.length) ∧ FfRel w.heap.size w.heap.size w1.heap.size zs w ps fs wr) (fun _ _ i _ => len - (intOf i).toNat)
  case atStart => exact ⟨[], Nat.zero_le _, rfl, rfl, FfRel.start HW1.out (Hb0.out.alloc (by omega) _)⟩
  case round =>
    obtain ⟨ps, hk, rfl, rfl, hrel⟩ := hrel
    have hcnt := one_of_block hrel.cnt
    have hsz := hrel.below.size
    by_cases hlt : ps.length < len
    · obtain ⟨b, off, hA, hbl, hcz⟩ := HR.out ps.length hlt
      subst hA
      have hcz' := (hrel.below.cell (p := ⟨b, off + ps.length, none⟩) hbl).trans hcz
      have hbl' : b < wr.heap.size := by omega
      clear hcz
      have hown := hrel.own
      have HREL := Lib.hid hrel; clear hrel
      have HCN := Lib.hid hcnt; clear hcnt
      generalize hzk : zs.getD ps.length 0 = z at hcz'
      generalize hfk : fst zs ps.length = f
      have HZ := Lib.hid hzk; clear hzk
      have HF := Lib.hid hfk; clear hfk
      have HOWN := Lib.hid hown; clear hown
      have c1 : ∀ (k z : Int), ∀ j u, [clo w1.heap.size (wr.heap.size + 1, wr.heap.size)][j]? = some u → (ffW wr w1.heap.size k z).cell? ((⟨wr.heap.size + 1 + 1, 0, none⟩ : Addr).add j) = some u := fun k z => @World.news_of_block _ (wr.heap.size + 1 + 1) #[clo w1.heap.size (wr.heap.size + 1, wr.heap.size)] _ (0, 0) (heap_alloc_at _ _ _ (by simp))
      have c2 : ∀ u ∈ [clo w1.heap.size (wr.heap.size + 1, wr.heap.size)], u.oneCell' = true := by intro u hu; simp at hu; subst hu; rfl
      have c3 : ps.length + 1 ≤ maxLen := by unfold maxLen; omega
      have c4 : (ps.length + 1) * 8 ≤ 140737488355328 := by omega
      have c5 : ∀ (k z : Int), w.heap.size ≤ (ffW wr w1.heap.size k z).heap.size := fun k z => by simp [ffW]; omega
      have C1 := Lib.hid c1; have C2 := Lib.hid c2; have C3 := Lib.hid c3; have C4 := Lib.hid c4; have C5 := Lib.hid c5
      clear c1 c2 c3 c4 c5
      by_cases hf : f < 0
      · by_cases hz : z = 0
        · subst hz
          go_wp2_with (at_builtin; refine wpList_append_own _ rfl _ _ 31 rfl w.heap.size 1 i0 .nilFunc 1 8 Try.underlying31 hi hz0 hz1 hz2 rfl (by decide) _ _ _ rfl (((HOWN.out.alloc _).alloc _).alloc _) ⟨wr.heap.size + 1 + 1, 0, none⟩ 1 1 [clo w1.heap.size (wr.heap.size + 1, wr.heap.size)] rfl rfl (C1.out _ _) C2.out C3.out C4.out (C5.out _ _) ?_; intro v' w2 hown' hgrow _; have HREL2 := Lib.hid (HREL.out.round (by omega) (Nat.le_refl _) v' w2 hown' (by rw [HZ.out]; exact hgrow)); clear hown' hgrow)
          go_roundw
          case rel => exact ⟨ps ++ [(wr.heap.size + 1, wr.heap.size)], by simp; omega, by simp, by rw [List.length_append, List.length_singleton]; unfold fst; rw [if_neg (by rw [HZ.out]; simp), HF.out], HREL2.out⟩
          case measure => simp [intOf]; omega
        · have hz' : (z != 0) = true := by simpa using hz
          go_wp2_with (at_builtin; refine wpList_append_own _ rfl _ _ 31 rfl w.heap.size 1 i0 .nilFunc 1 8 Try.underlying31 hi hz0 hz1 hz2 rfl (by decide) _ _ _ rfl (((HOWN.out.alloc _).alloc _).alloc _) ⟨wr.heap.size + 1 + 1, 0, none⟩ 1 1 [clo w1.heap.size (wr.heap.size + 1, wr.heap.size)] rfl rfl (C1.out _ _) C2.out C3.out C4.out (C5.out _ _) ?_; intro v' w2 hown' hgrow _; have HREL2 := Lib.hid (HREL.out.round (by omega) (Nat.le_refl _) v' w2 hown' (by rw [HZ.out]; exact hgrow)); clear hown' hgrow)
          go_roundw
          case rel => exact ⟨ps ++ [(wr.heap.size + 1, wr.heap.size)], by simp; omega, by simp, by rw [List.length_append, List.length_singleton]; unfold fst; rw [if_pos ⟨by rw [HF.out]; exact hf, by rw [HZ.out]; exact hz⟩], HREL2.out⟩
          case measure => simp [intOf]; omega
      · go_wp2_with (at_builtin; refine wpList_append_own _ rfl _ _ 31 rfl w.heap.size 1 i0 .nilFunc 1 8 Try.underlying31 hi hz0 hz1 hz2 rfl (by decide) _ _ _ rfl (((HOWN.out.alloc _).alloc _).alloc _) ⟨wr.heap.size + 1 + 1, 0, none⟩ 1 1 [clo w1.heap.size (wr.heap.size + 1, wr.heap.size)] rfl rfl (C1.out _ _) C2.out C3.out C4.out (C5.out _ _) ?_; intro v' w2 hown' hgrow _; have HREL2 := Lib.hid (HREL.out.round (by omega) (Nat.le_refl _) v' w2 hown' (by rw [HZ.out]; exact hgrow)); clear hown' hgrow)
        go_roundw
        case rel => exact ⟨ps ++ [(wr.heap.size + 1, wr.heap.size)], by simp; omega, by simp, by rw [List.length_append, List.length_singleton]; unfold fst; rw [if_neg (by rw [HF.out]; exact fun h => absurd h.1 (by omega)), HF.out], HREL2.out⟩
        case measure => simp [intOf]; omega
    · obtain rfl : ps.length = len := by omega
      obtain ⟨A4, cap4, rfl⟩ := own_form hrel.own
      have F := ff_firstOf hrel hlen
      have h0 : FfInv w1.heap.size zs wr 0 (fun k => k < wr.heap.size) wr := ⟨rfl, Chg.refl _ _, hrel.cnt, fun i hi => by omega⟩
      have hbw := hrel.below
      have hDlt := hcnt.2.2
      have HC := Lib.hid (first_any (cap := cap4) F (fun k => k < wr.heap.size) wr (by omega) h0)
      have HREL := Lib.hid hrel; have HBW := Lib.hid hbw; have HCNT := Lib.hid hcnt
      clear F h0 hrel hbw hcnt
      have hfr := fst_range zs ps.length
      have hfn := fst_neg zs ps.length
      have hfp := fst_pos zs ps.length
      generalize hf : fst zs ps.length = f at hfr hfn hfp
      have HF := Lib.hid hf; clear hf
      have HFN := Lib.hid hfn; have HFP := Lib.hid hfp; clear hfn hfp
      have hback : ∀ w2, But w1.heap.size wr w2 → Below w.heap.size w w2 := fun w2 hb => HBW.out.trans (hb.below z0 hsz)
      have HBACK := Lib.hid hback; clear hback
      go_wp2_with fail
      refine HC.out.mono ?_
      rintro e w2 ⟨own', hg, hcase⟩
      have hsz2 := hg.chg.size
      rcases hcase with ⟨rfl, hInv⟩ | ⟨j, c, a, hj, hc0, rfl, hStp⟩
      · obtain ⟨_, hb2, hD2, hall⟩ := hInv
        have hfneg : f < 0 := HFN.out.2 hall
        obtain ⟨q0, y0, l0⟩ := one_of_block hD2
        have HB2 := Lib.hid hb2; have HALL := Lib.hid hall; have HG := Lib.hid hg
        clear hb2 hD2 hall hg
        go_wp2_with fail
        go_ret
        exact ⟨rfl, (HBACK.out _ HB2.out).alloc (by omega) _⟩
      · obtain ⟨_, hb2, hD2, hc, ha, hall⟩ := hStp
        have hcn : c ≠ 0 := beq_eq_false_iff_ne.1 hc0
        have hfj : f = j := by
          rcases Int.lt_or_le f 0 with h | h
          · exact absurd (HFN.out.1 h j hj) (by rw [← hc]; exact hcn)
          · obtain ⟨p1, p2, p3⟩ := HFP.out h
            rcases Nat.lt_trichotomy f.toNat j with h2 | h2 | h2
            · exact absurd (hall _ h2) p1
            · omega
            · exact absurd (p2 _ h2) (by rw [← hc]; exact hcn)
        subst hfj ha
        obtain ⟨q0, y0, l0⟩ := one_of_block hD2
        obtain ⟨b, off, hA, hbl, hcz⟩ := HR.out j hj
        subst hA
        have hcz' : w2.cell? ⟨b, off + j, none⟩ = some (.int .i64 c) := by
          rw [hc]
          exact ((HBACK.out _ hb2).cell (p := ⟨b, off + j, none⟩) hbl).trans hcz
        have HB2 := Lib.hid hb2; have HALL := Lib.hid hall; have HG := Lib.hid hg
        have HCc := Lib.hid hc; have HC0 := Lib.hid hc0
        clear hb2 hD2 hall hg hc hc0 hcz
        have hbl2 : b < w2.heap.size := by omega
        have hj0 : (0 : Int) ≤ (j : Int) := by omega
        have hj1 : (j : Int) < (ps.length : Int) := by omega
        go_wp2_with fail
        go_quiet (fail)
        go_wp2_with fail
        go_ret
        exact ⟨rfl, below_drewN ((HBACK.out _ HB2.out).alloc (by omega) _) _⟩

theorem faultFirst_great (A : Option Addr) (len cap : Nat) (w : World) (hlen : 300 < len) :
    Calls Try.prog 4 #[.slice A len cap] w fun e w' => e = .returned (.bool true) ∧ Below w.heap.size w w' := by
  have hnot := @unary_not Try.prog
  have hl : decide ((300 : Int) < (len : Int)) = true := by simp; omega
  go_enter Try.func4, Try.ntmps4
  go_wp2_with (go_at_call 7; refine (awake_calls _).mono ?_; rintro e w1 ⟨rfl, hb0⟩)
  go_ret
  exact ⟨rfl, by assumption⟩

section
open Go.ChangeShapes Go.WideShapes Go.ChangeAt
theorem faultFirst_walk {H : Type} {enc : TypeId × Value → H} {d : DataW H} {p : List MemPlace} {base : Nat} (v : Value) (w : World) (hv : Value.okWide Try.prog w .any base 30 v)
    (h : DataW.Trod enc Try.prog w 0 (fun _ => true) true 30 v d p) :
    Calls Try.prog 4 #[v] w fun e w' => e = .returned (.bool true) ∧ Below w.heap.size w w' := by
  obtain ⟨a, len, cap, rfl⟩ := okWide_slice Try.underlying30 hv
  by_cases hl : 300 < len
  · exact faultFirst_great a len cap w hl
  · obtain ⟨zs, hr⟩ : ∃ zs, ReadsI w a len zs := by
      obtain ⟨fuel, hf⟩ := h
      rcases open_ints Try.underlying30 Try.underlying3 (by kernel_rfl) hf with ⟨hcs, _⟩ | ⟨x, l, c, zs, hcs, _, hl, hm, hz, _, hcell, hwz⟩
      · simp [Value.cells] at hcs
        obtain ⟨rfl, rfl, rfl⟩ := hcs
        exact ⟨[], fun i hi => by omega⟩
      · simp [Value.cells] at hcs
        obtain ⟨rfl, rfl, rfl⟩ := hcs
        refine ⟨zs, fun i hi => ?_⟩
        simp only [if_true] at hz
        have hc := hcell i (by omega)
        obtain ⟨b, off, sp⟩ := x
        cases sp with
        | none =>
          rw [Addr.add_lit] at hc
          exact ⟨b, off, rfl, World.block_lt_of_cell? w _ hc, hc⟩
        | some s =>
          exfalso
          replace hc := hcell 0 (by omega)
          unfold World.cell? Addr.add at hc
          simp at hc
          split at hc
          · cases hc
          · cases hc
    exact faultFirst_any a len cap zs w hr (by omega)
end
end Go.Proofs.Ytigcmbakglghpaa
