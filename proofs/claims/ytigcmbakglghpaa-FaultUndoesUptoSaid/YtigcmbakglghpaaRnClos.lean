/-
  A program of steps, played: what is asked of 'run'; its closures; what is caught.
-/
import Derived.Test.YtigcmbakglghpaaRnBook
import Derived.Test.YtigcmbakglghpaaRnGreat
namespace Go.Proofs.Ytigcmbakglghpaa
open Go.RowKit Go.Proofs.YtigcmbakglghpaaW.PrintWords Go.Proofs.YtigcmbakglghpaaW.PrintLast Go.Proofs.YtigcmbakglghpaaW.PrintMore Go.Proofs.Ytigcmbakglghpaa.PFaultRuns
set_option linter.unusedVariables false
set_option linter.unusedSimpArgs false

/-- What playing steps comes to. -/
def Post (N : Nat) (l : List S50) (base bp : Nat) (L : List S53) (w : World) (e : Ending) (w' : World) : Prop :=
  Bk w' base bp (L ++ (sp N l).1) ∧ Frm TB base w w' ∧ (((sp N l).2.1 = 0 ∧ e = .returned (.tuple #[])) ∨ ((sp N l).2.1 ≠ 0 ∧ e = .panicked (thrown (sp N l).2.1 (sp N l).2.2)))
/-- What playing them, caught, comes to. -/
def CPost (N : Nat) (l : List S50) (base bp : Nat) (L : List S53) (w : World) (e : Ending) (w' : World) : Prop :=
  e = .returned (.agg #[.int .i64 (sp N l).2.1, .int .i64 (sp N l).2.2]) ∧ Bk w' base bp (L ++ (sp N l).1) ∧ Frm TB base w w'
def RunOk (N : Nat) (w0 : World) (base bp : Nat) : Prop :=
  ∀ (A : Option Addr) (c : Nat) (l : List S50), Kd.C k50 w0 A l.length l → l.length ≤ c → Dp N l → ∀ (L : List S53) (w : World), Below base w0 w → Bk w base bp L → L.length + 2 * sz N l ≤ 100000 →
    Calls Try.prog 17 #[.pointer (some ⟨bp, 0, none⟩), .slice A l.length c] w (Post N l base bp L w)
def TF (t : TypeId) : Prop := t = 25
instance (t : TypeId) : Decidable (TF t) := by unfold TF; exact inferInstance
/-- A block of a fault's type alone may differ. -/
theorem Frm.ofBut {w w' : World} {base B : Nat} {cs : Array Value} (hb : But B w w') (hB : w.heap[B]? = some (.cells cs 25)) (h1 : base ≤ B) : Frm TF base w w' := by
  have hlt := lt_of_block hB
  refine ⟨hb.below h1 (by omega), fun k cs' t fr hk ht => ?_⟩
  by_cases e : k = B
  · subst e
    rw [hB] at hk
    injection hk with hk
    injection hk with _ hk
    exact absurd hk.symm ht
  · exact (hb.block k (lt_of_block hk) e).trans hk
/-- What was there stays, whatever became of what came behind. -/
theorem Frm.past {T : TypeId → Prop} {w w1 w2 : World} {base B : Nat} (h : Frm T base w w1) (hb : But B w1 w2) (hB : w.heap.size ≤ B) (h1 : base ≤ w.heap.size) : Frm T base w w2 := by
  have hs := h.low.size
  refine ⟨h.low.trans (hb.below (by omega) (by omega)), fun k cs t fr hk ht => ?_⟩
  have h3 := h.keep k cs t fr hk ht
  have hlt := lt_of_block hk
  exact (hb.block k (lt_of_block h3) (by omega)).trans h3
theorem thrown_inj {c a c' a' : Int} (h : Ending.panicked (thrown c a) = .panicked (thrown c' a')) : c = c' ∧ a = a' := by
  injection h with h1
  injection h1 with h1 _
  injection h1 with h1 _
  injection h1 with _ h1
  injection h1 with h1
  simp only [Array.mk.injEq, List.cons.injEq, Value.int.injEq, true_and, and_true] at h1
  exact h1
theorem catch_post {N : Nat} {l : List S50} {base bp : Nat} {L : List S53} (g : FuncId) (lb : Array Value) (w : World) (hg : ∀ args w, (callFunc g args).run Try.prog w = .ok (.enter g args) w) (hbase : base ≤ w.heap.size)
    (hf : Calls Try.prog g lb (w.alloc (.cells #[.int .i64 0, .int .i64 0] 25)) (Post N l base bp L (w.alloc (.cells #[.int .i64 0, .int .i64 0] 25)))) :
    Calls Try.prog 8 #[.func (.func g) #[] lb] w (CPost N l base bp L w) := by
  have hnew := heap_alloc_new w (.cells #[.int .i64 0, .int .i64 0] 25)
  have hFa : Frm TB base w (w.alloc (.cells #[.int .i64 0, .int .i64 0] 25)) := Frm.alloc (Frm.refl _ _ _) hbase _
  refine (catch_any g lb w _ hg (fun e w1 h => ⟨h.2.1.keep _ _ _ _ hnew (by decide), ?_⟩) hf).mono ?_
  · rcases h.2.2 with ⟨_, he⟩ | ⟨_, he⟩
    · exact .inl he
    · exact .inr ⟨_, _, he⟩
  · rintro e w' ⟨e1, w1, h, hb, hcase⟩
    have hblk := h.2.1.keep _ _ _ _ hnew (by decide)
    refine ⟨?_, h.1.frm (Frm.ofBut hb hblk hbase) (by decide) (by decide), (hFa.trans h.2.1).past hb (Nat.le_refl _) hbase⟩
    rcases h.2.2 with ⟨hc, he⟩ | ⟨hc, he⟩
    · rcases hcase with ⟨_, h2⟩ | ⟨c, a, h2, _⟩
      · rw [h2, hc, sp_at N l hc]
      · rw [he] at h2
        cases h2
    · rcases hcase with ⟨h2, _⟩ | ⟨c, a, h2, h3⟩
      · rw [he] at h2
        cases h2
      · rw [he] at h2
        obtain ⟨rfl, rfl⟩ := thrown_inj h2
        exact h3
/-- What the closures see: the book's variable, the step's. -/
structure Env (w : World) (bp pb ps : Nat) (k n a : Int) (A3 : Option Addr) (n3 c3 : Nat) (A4 : Option Addr) (n4 c4 : Nat) : Prop where
  b : w.heap[pb]? = some (.cells #[.pointer (some ⟨bp, 0, none⟩)] 37)
  s : w.heap[ps]? = some (.cells #[.int .i64 k, .int .i64 n, .int .i64 a, .slice A3 n3 c3, .slice A4 n4 c4] 50)
theorem Env.frm {w w' : World} {bp pb ps : Nat} {k n a : Int} {A3 : Option Addr} {n3 c3 : Nat} {A4 : Option Addr} {n4 c4 : Nat} (h : Env w bp pb ps k n a A3 n3 c3 A4 n4 c4) {T : TypeId → Prop} {base : Nat} (hF : Frm T base w w') (h1 : ¬ T 37) (h2 : ¬ T 50) : Env w' bp pb ps k n a A3 n3 c3 A4 n4 c4 :=
  ⟨hF.keep _ _ _ _ h.b h1, hF.keep _ _ _ _ h.s h2⟩
section
variable {N : Nat} {w0 : World} {base bp pb ps : Nat} {k n a : Int} {A3 : Option Addr} {l3 : List S50} {c3 : Nat} {A4 : Option Addr} {l4 : List S50} {c4 : Nat} {L : List S53} {w : World}
theorem clos1 (hrun : RunOk N w0 base bp) (he : Env w bp pb ps k n a A3 l3.length c3 A4 l4.length c4) (h3 : Kd.C k50 w0 A3 l3.length l3) (hc : l3.length ≤ c3) (hd : Dp N l3) (hw : Below base w0 w) (hB : Bk w base bp L) (hL : L.length + 2 * sz N l3 ≤ 100000) :
    Calls Try.prog 28 #[.pointer (some ⟨pb, 0, none⟩), .pointer (some ⟨ps, 0, none⟩)] w (Post N l3 base bp L w) := by
  have p0 := (cell_of_block he.b 0).trans rfl
  have q3 := (cell_of_block he.s 3).trans rfl
  have HC := Lib.hid (hrun A3 c3 l3 h3 hc hd L w hw hB hL)
  clear hrun he h3 hc hd hw hB hL
  go_enter Try.func28, Try.ntmps28
  go_wp2_with fail
  refine HC.out.mono ?_
  rintro e w' ⟨hB, hF, ⟨hc, rfl⟩ | ⟨hc, rfl⟩⟩
  · have H := Lib.hid (And.intro hB (And.intro hF hc))
    clear hB hF hc
    go_wp2_with fail
    go_end0
    exact ⟨H.out.1, H.out.2.1, .inl ⟨H.out.2.2, rfl⟩⟩
  · have H := Lib.hid (And.intro hB (And.intro hF hc))
    clear hB hF hc
    go_wp2_with fail
    exact ⟨rfl, H.out.1, H.out.2.1, .inr ⟨H.out.2.2, rfl⟩⟩
theorem clos2 (hrun : RunOk N w0 base bp) (he : Env w bp pb ps k n a A3 l3.length c3 A4 l4.length c4) (h3 : Kd.C k50 w0 A3 l3.length l3) (hc : l3.length ≤ c3) (hd : Dp N l3) (hw : Below base w0 w) (hB : Bk w base bp L) (hL : L.length + 2 * sz N l3 ≤ 100000) :
    Calls Try.prog 29 #[.pointer (some ⟨pb, 0, none⟩), .pointer (some ⟨ps, 0, none⟩)] w (Post N l3 base bp L w) := by
  have p0 := (cell_of_block he.b 0).trans rfl
  have q3 := (cell_of_block he.s 3).trans rfl
  have HC := Lib.hid (hrun A3 c3 l3 h3 hc hd L w hw hB hL)
  clear hrun he h3 hc hd hw hB hL
  go_enter Try.func29, Try.ntmps29
  go_wp2_with fail
  refine HC.out.mono ?_
  rintro e w' ⟨hB, hF, ⟨hc, rfl⟩ | ⟨hc, rfl⟩⟩
  · have H := Lib.hid (And.intro hB (And.intro hF hc))
    clear hB hF hc
    go_wp2_with fail
    go_end0
    exact ⟨H.out.1, H.out.2.1, .inl ⟨H.out.2.2, rfl⟩⟩
  · have H := Lib.hid (And.intro hB (And.intro hF hc))
    clear hB hF hc
    go_wp2_with fail
    exact ⟨rfl, H.out.1, H.out.2.1, .inr ⟨H.out.2.2, rfl⟩⟩
theorem clos3 (hrun : RunOk N w0 base bp) (he : Env w bp pb ps k n a A3 l3.length c3 A4 l4.length c4) (h4 : Kd.C k50 w0 A4 l4.length l4) (hc : l4.length ≤ c4) (hd : Dp N l4) (hw : Below base w0 w) (hB : Bk w base bp L) (hL : L.length + 2 * sz N l4 ≤ 100000) :
    Calls Try.prog 30 #[.pointer (some ⟨pb, 0, none⟩), .pointer (some ⟨ps, 0, none⟩)] w (Post N l4 base bp L w) := by
  have p0 := (cell_of_block he.b 0).trans rfl
  have q4 := (cell_of_block he.s 4).trans rfl
  have HC := Lib.hid (hrun A4 c4 l4 h4 hc hd L w hw hB hL)
  clear hrun he h4 hc hd hw hB hL
  go_enter Try.func30, Try.ntmps30
  go_wp2_with fail
  refine HC.out.mono ?_
  rintro e w' ⟨hB, hF, ⟨hc, rfl⟩ | ⟨hc, rfl⟩⟩
  · have H := Lib.hid (And.intro hB (And.intro hF hc))
    clear hB hF hc
    go_wp2_with fail
    go_end0
    exact ⟨H.out.1, H.out.2.1, .inl ⟨H.out.2.2, rfl⟩⟩
  · have H := Lib.hid (And.intro hB (And.intro hF hc))
    clear hB hF hc
    go_wp2_with fail
    exact ⟨rfl, H.out.1, H.out.2.1, .inr ⟨H.out.2.2, rfl⟩⟩
theorem c_one {A : Option Addr} {c i : Nat} {l : List S50} (h : Kd.C k50 w0 A l.length l) (hc : l.length ≤ c) (hi : i < l.length) : ∃ (ad : Addr) (y : S50), A = some ad ∧ y ∈ l ∧ l[i]? = some y ∧ Kd.C k50 w0 (some (ad.add (i * 5))) 1 [y] := by
  obtain ⟨ad, A3, c3, A4, c4, hA, -⟩ := at_T50 h (i : Int) (by omega) (by omega)
  subst hA
  have h1 := Kd.C_take h (m := i + 1) (by omega)
  have h2 := Kd.C_drop (c := c + 1) h1 (m := i) (by rw [List.length_take]; omega) (by rw [List.length_take]; omega)
  rw [if_neg (by omega)] at h2
  have e : (l.take (i + 1)).drop i = [l[i]] := by
    rw [List.take_succ_eq_append_getElem hi, List.drop_left' (by rw [List.length_take]; omega)]
  rw [e] at h2
  exact ⟨ad, l[i], rfl, List.getElem_mem hi, List.getElem?_eq_getElem hi, h2⟩
set_option maxHeartbeats 1000000 in
theorem clos4 {ad : Addr} {i pi : Nat} {y : S50} (hrun : RunOk N w0 base bp) (he : Env w bp pb ps k n a (some ad) l3.length c3 A4 l4.length c4) (hpi : w.heap[pi]? = some (.cells #[.int .i64 i] 3)) (hi : i < l3.length) (hl : l3.length ≤ 1000000) (hy : Kd.C k50 w0 (some (ad.add (i * 5))) 1 [y]) (hc : l3.length ≤ c3) (hd : Dp N [y]) (hw : Below base w0 w) (hB : Bk w base bp L) (hL : L.length + 2 * sz N [y] ≤ 100000) :
    Calls Try.prog 31 #[.pointer (some ⟨pb, 0, none⟩), .pointer (some ⟨ps, 0, none⟩), .pointer (some ⟨pi, 0, none⟩)] w (Post N [y] base bp L w) := by
  have p0 : w.drew.cell? ⟨pb, 0, none⟩ = some (.pointer (some ⟨bp, 0, none⟩)) := (cell_of_block he.b 0).trans rfl
  have q3 : w.drew.cell? ⟨ps, 3, none⟩ = some (.slice (some ad) l3.length c3) := (cell_of_block he.s 3).trans rfl
  have r0 : w.drew.cell? ⟨pi, 0, none⟩ = some (.int .i64 i) := (cell_of_block hpi 0).trans rfl
  have hD : Frm TB base w w.drew := (Frm.refl _ _ _).drew
  have HD := Lib.hid hD
  have HC := Lib.hid (hrun (some (ad.add (i * 5))) (c3 - i) [y] hy (by simp; omega) hd L w.drew (hw.trans hD.low) (hB.frm (T := fun _ => False) (Frm.refl _ base _).drew id id) hL)
  have x3 : IntKind.i64.wrap ((i : Int) + 1) = (i : Int) + 1 := IntWalk.i64_in _ (by omega)
  have y1 : (0 : Int) ≤ (i : Int) + 1 := by omega
  have y2 : (i : Int) + 1 ≤ (c3 : Int) := by omega
  have y3 : ((i : Int) + 1).toNat = i + 1 := by omega
  have y4 : (i : Int) ≤ (i : Int) + 1 := by omega
  have y5 : (i : Int) + 1 ≤ (l3.length : Int) := by omega
  have y6 : c3 ≠ i := by omega
  have y7 : i + 1 - i = 1 := by omega
  clear hrun he hpi hy hd hw hB hL hD
  go_enter Try.func31, Try.ntmps31
  refine region_tail 7 (by kernel_rfl) (by kernel_rfl) ?_
  simp only [List.take_succ_cons, List.take_zero, List.drop_succ_cons, List.drop_zero]
  repeat still_step
  refine wpStill_nil ?_
  go_wp2_with fail
  refine HC.out.mono ?_
  rintro e w' ⟨hB, hF, ⟨hc, rfl⟩ | ⟨hc, rfl⟩⟩
  · have H := Lib.hid (And.intro hB (And.intro (HD.out.trans hF) hc))
    clear hB hF hc
    go_wp2_with fail
    go_end0
    exact ⟨H.out.1, H.out.2.1, .inl ⟨H.out.2.2, rfl⟩⟩
  · have H := Lib.hid (And.intro hB (And.intro (HD.out.trans hF) hc))
    clear hB hF hc
    go_wp2_with fail
    exact ⟨rfl, H.out.1, H.out.2.1, .inr ⟨H.out.2.2, rfl⟩⟩
end
end Go.Proofs.Ytigcmbakglghpaa
