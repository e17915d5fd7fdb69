/-
  The reference's Run, as printed, comes to what the plain functions say.
-/
import Derived.Test.YtigcmbakglghpaaRnSpec
import Derived.Test.YtigcmbakglghpaaRunP
namespace Go.Proofs.Ytigcmbakglghpaa
open Go.RowKit Go.Proofs.YtigcmbakglghpaaW.PrintWords Go.Proofs.YtigcmbakglghpaaW.PrintLast Go.Proofs.YtigcmbakglghpaaW.PrintMore Go.Proofs.Ytigcmbakglghpaa.PFaultRuns
set_option linter.unusedVariables false
set_option linter.unusedSimpArgs false

theorem Evt.both {α β : Type} {g : Nat → Option α} {h : Nat → Option β} {a : α} {b : β} (H1 : Evt g a) (H2 : Evt h b) : ∃ k0, ∀ k, k0 ≤ k → g k = some a ∧ h k = some b := by
  obtain ⟨k0, h0⟩ := H1
  obtain ⟨k1, h1⟩ := H2
  exact ⟨max k0 k1, fun k hk => ⟨h0 k (by omega), h1 k (by omega)⟩⟩
theorem Evt.mk1 {α : Type} {g : Nat → Option α} {r : α} (k0 : Nat) (h : ∀ k, k0 ≤ k → g (k + 1) = some r) : Evt g r :=
  ⟨k0 + 1, fun k hk => by
    obtain ⟨m, rfl⟩ : ∃ m, k = m + 1 := ⟨k - 1, by omega⟩
    exact h m (by omega)⟩
theorem wrap_nat (n : Nat) (h : n ≤ 2000000) : wrap64 ((n : Int) + 1) = ((n + 1 : Nat) : Int) := by
  unfold wrap64
  omega
/-- The round of 'First'. -/
theorem l1_ev (N : Nat) (f : List S50 → RR) (hf : ∀ l : List S50, f l = sp N l) (x0 : List S50) (i : Int) (a0 a1 a2 : Int) (q3 q4 : List S50) (r : RR) (hev : ∀ y ∈ q3, Evt (fun k => refRun.f k [y]) (sp N [y])) (hq : q3.length ≤ 1000000) :
    ∀ (t p : List S50), q3 = p ++ t → ∀ (out : List S53), out.length + (each f t (p.length : Int)).1.length ≤ 1000000 →
      Evt (fun k => refRun.l0 k x0 (out ++ ((each f t (p.length : Int)).1 ++ [⟨4, (each f t (p.length : Int)).2.2.1, (each f t (p.length : Int)).2.2.2⟩, ⟨5, (each f t (p.length : Int)).2.1, 0⟩])) (wrap64 (i + 1))) r →
      Evt (fun k => refRun.l1 k x0 out i (-1) 0 0 (p.length : Int) a0 a1 a2 q3 q4) r
  | [], p, hp, out, hb, hr => by
    obtain ⟨k0, hk⟩ := hr
    have hlen : q3.length = p.length := by rw [hp]; simp
    simp only [each, List.nil_append] at hk hb
    refine Evt.mk1 (k0 + 1) fun k h => ?_
    obtain ⟨m, rfl⟩ : ∃ m, k = m + 1 := ⟨k - 1, by omega⟩
    have h2 := hk m (by omega)
    simp only [refRun.l1]
    rw [if_neg (by omega)]
    simp only [refRun.j2]
    rw [if_neg (by decide), Option.bind_some, if_pos (by simp; omega)]
    exact h2
  | y :: t, p, hp, out, hb, hr => by
    have hlen : q3.length = p.length + (t.length + 1) := by rw [hp]; simp
    have hw : wrap64 ((p.length : Int) + 1) = ((p ++ [y]).length : Int) := by
      rw [wrap_nat _ (by omega)]; simp
    have hsl : (q3.take ((p ++ [y]).length : Int).toNat).drop (p.length : Int).toNat = [y] := by
      rw [Int.toNat_natCast, Int.toNat_natCast, hp, show p ++ y :: t = (p ++ [y]) ++ t by simp, List.take_left' rfl, List.drop_left' rfl]
    have hy := hev y (by rw [hp]; simp)
    by_cases hc : (f [y]).2.1 = 0
    · have hat : (sp N [y]).2.2 = 0 := sp_at N [y] (by rw [← hf]; exact hc)
      simp only [each] at hr hb
      rw [if_pos hc] at hr hb
      have ih := l1_ev N f hf x0 i a0 a1 a2 q3 q4 r hev hq t (p ++ [y]) (by rw [hp]; simp) (out ++ (f [y]).1) (by
        have e : ((p ++ [y]).length : Int) = (p.length : Int) + 1 := by simp
        rw [e]
        simp only [List.length_append] at hb ⊢
        omega) (by
        have e : ((p ++ [y]).length : Int) = (p.length : Int) + 1 := by simp
        rw [e]
        simp only [List.append_assoc] at hr ⊢
        exact hr)
      obtain ⟨k0, hk⟩ := hy.both ih
      refine Evt.mk1 (k0 + 1) fun k h => ?_
      obtain ⟨m, rfl⟩ : ∃ m, k = m + 1 := ⟨k - 1, by omega⟩
      obtain ⟨h1, h2⟩ := hk m (by omega)
      simp only [refRun.l1]
      rw [if_pos (by omega)]
      simp only [refRun.j2]
      rw [if_pos (by decide), if_pos (by omega), hw, if_pos (by simp; omega), if_pos (by rw [hlen]; simp; omega), hsl, h1, Option.bind_some, if_pos (by rw [← hf]; simp only [List.length_append] at hb; omega), Option.bind_some, if_pos (by rw [← hf]; exact hc), hat, ← hf, hc]
      exact h2
    · simp only [each] at hr hb
      rw [if_neg hc] at hr hb
      obtain ⟨k0, hk⟩ := hy.both hr
      have hb2 : out.length + (f [y]).1.length ≤ 1000000 := hb
      refine Evt.mk1 (k0 + 3) fun k h => ?_
      obtain ⟨m, rfl⟩ : ∃ m, k = m + 1 + 1 + 1 := ⟨k - 3, by omega⟩
      obtain ⟨h1, -⟩ := hk (m + 1 + 1) (by omega)
      obtain ⟨-, h2⟩ := hk m (by omega)
      simp only [refRun.l1]
      rw [if_pos (by omega)]
      simp only [refRun.j2]
      rw [if_pos (by decide), if_pos (by omega), hw, if_pos (by simp; omega), if_pos (by rw [hlen]; simp; omega), hsl, h1, Option.bind_some, if_pos (by rw [← hf]; omega), Option.bind_some, if_neg (by rw [← hf]; exact hc)]
      simp only [refRun.l1]
      have hfin : refRun.j2 (m + 1) x0 (out ++ (sp N [y]).1) i (p.length : Int) (sp N [y]).2.1 (sp N [y]).2.2 ((p ++ [y]).length : Int) false a0 a1 a2 q3 q4 = some r := by
        simp only [refRun.j2]
        rw [if_neg (by decide), Option.bind_some, if_pos (by rw [← hf]; simp only [List.length_append, List.length_cons, List.length_nil]; omega), ← hf]
        simp only [List.append_assoc] at h2 ⊢
        exact h2
      have hz : ((sp N [y]).2.1 == 0) = false := beq_eq_false_iff_ne.2 (by rw [← hf]; exact hc)
      split
      · rw [hz]; exact hfin
      · exact hfin
/-- The round of Run. -/
theorem l0_ev (N : Nat) (x0 : List S50) (hx : ∀ x ∈ x0, (∀ l : List S50, (l = x.f3 ∨ l = x.f4 ∨ ∃ y ∈ x.f3, l = [y]) → Evt (fun k => refRun.f k l) (sp N l)) ∧ x.f3.length ≤ 1000000) (hl : x0.length ≤ 1000000) :
    ∀ (t p : List S50), x0 = p ++ t → ∀ (out : List S53), out.length + (all (sp N) t).1.length ≤ 1000000 → (∀ x ∈ t, (sp N x.f3).1.length + (sp N x.f4).1.length ≤ 1000000 ∧ (each (sp N) x.f3 0).1.length ≤ 1000000) →
      Evt (fun k => refRun.l0 k x0 out (p.length : Int)) (out ++ (all (sp N) t).1, (all (sp N) t).2)
  | [], p, hp, out, hb, hz => Evt.mk1 0 fun k _ => by
    have hlen : x0.length = p.length := by rw [hp]; simp
    simp only [refRun.l0]
    rw [if_neg (by omega)]
    simp [all]
  | x :: t, p, hp, out, hb, hz => by
    have hlen : x0.length = p.length + (t.length + 1) := by rw [hp]; simp
    have hrd : rd_T50 x0 (p.length : Int) = x := by rw [hp]; exact rd_at p t x
    have hw : wrap64 ((p.length : Int) + 1) = ((p ++ [x]).length : Int) := by
      rw [wrap_nat _ (by omega)]; simp
    obtain ⟨hev, h3l⟩ := hx x (by rw [hp]; simp)
    have rest : ∀ m : List S53, out.length + m.length + (all (sp N) t).1.length ≤ 1000000 → Evt (fun k => refRun.l0 k x0 (out ++ m) ((p ++ [x]).length : Int)) (out ++ m ++ (all (sp N) t).1, (all (sp N) t).2) := fun m hm =>
      l0_ev N x0 hx hl t (p ++ [x]) (by rw [hp]; simp) (out ++ m) (by rw [List.length_append]; exact hm) (fun y hy => hz y (List.mem_cons_of_mem _ hy))
    have i1 : (p.length : Int) < (x0.length : Int) := by omega
    have i2 : (0 : Int) ≤ (p.length : Int) := by omega
    by_cases h1 : x.f0 = 1
    · by_cases hn : x.f1 = 0
      · have e : one (sp N) x = ([], 0, 0) := by unfold one; rw [if_pos h1, if_pos hn]
        simp only [all, e, if_true] at hb ⊢
        obtain ⟨k0, hk⟩ := rest [] (by simpa using hb)
        simp only [List.append_nil] at hk
        refine Evt.mk1 k0 fun k h => ?_
        have h2 := hk k h
        simp only [refRun.l0]
        rw [if_pos i1, if_pos i2, hrd, if_pos h1, if_pos hn, hw, h2]
        simp
      · have e : one (sp N) x = ([], x.f1, x.f2) := by unfold one; rw [if_pos h1, if_neg hn]
        simp only [all, e, hn, if_false] at hb ⊢
        refine Evt.mk1 0 fun k h => ?_
        simp only [refRun.l0]
        rw [if_pos i1, if_pos i2, hrd, if_pos h1, if_neg hn]
        simp
    by_cases h2 : x.f0 = 2
    · have e : one (sp N) x = ((sp N x.f3).1 ++ [⟨2, (sp N x.f3).2.1, (sp N x.f3).2.2⟩], 0, 0) := by unfold one; rw [if_neg h1, if_pos h2]
      simp only [all, e, if_true, List.length_append, List.length_cons, List.length_nil] at hb ⊢
      obtain ⟨k0, hk⟩ := (hev x.f3 (.inl rfl)).both (rest ((sp N x.f3).1 ++ [⟨2, (sp N x.f3).2.1, (sp N x.f3).2.2⟩]) (by simp only [List.length_append, List.length_cons, List.length_nil]; omega))
      refine Evt.mk1 k0 fun k h => ?_
      obtain ⟨q1, q2⟩ := hk k h
      simp only [refRun.l0]
      rw [if_pos i1, if_pos i2, hrd, if_neg h1, if_pos h2, q1, Option.bind_some, if_pos (by omega), Option.bind_some, if_pos (by simp only [List.length_append]; omega), hw, List.append_assoc, q2]
      simp
    by_cases h3 : x.f0 = 3
    · by_cases hc : (sp N x.f3).2.1 = 0
      · have e : one (sp N) x = ((sp N x.f3).1 ++ [⟨3, (sp N x.f3).2.1, (sp N x.f3).2.2⟩], 0, 0) := by unfold one; rw [if_neg h1, if_neg h2, if_pos h3, if_pos hc]
        simp only [all, e, if_true, List.length_append, List.length_cons, List.length_nil] at hb ⊢
        obtain ⟨k0, hk⟩ := (hev x.f3 (.inl rfl)).both (rest ((sp N x.f3).1 ++ [⟨3, (sp N x.f3).2.1, (sp N x.f3).2.2⟩]) (by simp only [List.length_append, List.length_cons, List.length_nil]; omega))
        refine Evt.mk1 k0 fun k h => ?_
        obtain ⟨q1, q2⟩ := hk k h
        simp only [refRun.l0]
        rw [if_pos i1, if_pos i2, hrd, if_neg h1, if_neg h2, if_pos h3, q1, Option.bind_some, if_pos (by omega), Option.bind_some, if_pos hc, if_pos (by simp only [List.length_append]; omega), hw, List.append_assoc, q2]
        simp
      · by_cases hd : (sp N x.f4).2.1 = 0
        · have e : one (sp N) x = ((sp N x.f3).1 ++ (sp N x.f4).1 ++ [⟨3, (sp N x.f3).2.1, (sp N x.f3).2.2⟩], 0, 0) := by unfold one; rw [if_neg h1, if_neg h2, if_pos h3, if_neg hc, if_pos hd]
          simp only [all, e, if_true, List.length_append, List.length_cons, List.length_nil] at hb ⊢
          obtain ⟨k1, hk1⟩ := (hev x.f3 (.inl rfl)).both (hev x.f4 (.inr (.inl rfl)))
          obtain ⟨k0, hk⟩ := rest ((sp N x.f3).1 ++ (sp N x.f4).1 ++ [⟨3, (sp N x.f3).2.1, (sp N x.f3).2.2⟩]) (by simp only [List.length_append, List.length_cons, List.length_nil]; omega)
          refine Evt.mk1 (max k0 k1) fun k h => ?_
          obtain ⟨q1, q3⟩ := hk1 k (by omega)
          have q2 := hk k (by omega)
          simp only [refRun.l0]
          rw [if_pos i1, if_pos i2, hrd, if_neg h1, if_neg h2, if_pos h3, q1, Option.bind_some, if_pos (by omega), Option.bind_some, if_neg hc, q3, Option.bind_some, if_pos (by simp only [List.length_append]; omega), Option.bind_some, if_pos hd, if_pos (by simp only [List.length_append]; omega), hw]
          simp only [List.append_assoc] at q2 ⊢
          rw [q2]
        · have e : one (sp N) x = ((sp N x.f3).1 ++ (sp N x.f4).1 ++ [⟨3, (sp N x.f4).2.1, (sp N x.f4).2.2⟩], 0, 0) := by unfold one; rw [if_neg h1, if_neg h2, if_pos h3, if_neg hc, if_neg hd]
          simp only [all, e, if_true, List.length_append, List.length_cons, List.length_nil] at hb ⊢
          obtain ⟨k1, hk1⟩ := (hev x.f3 (.inl rfl)).both (hev x.f4 (.inr (.inl rfl)))
          obtain ⟨k0, hk⟩ := rest ((sp N x.f3).1 ++ (sp N x.f4).1 ++ [⟨3, (sp N x.f4).2.1, (sp N x.f4).2.2⟩]) (by simp only [List.length_append, List.length_cons, List.length_nil]; omega)
          refine Evt.mk1 (max k0 k1) fun k h => ?_
          obtain ⟨q1, q3⟩ := hk1 k (by omega)
          have q2 := hk k (by omega)
          simp only [refRun.l0]
          rw [if_pos i1, if_pos i2, hrd, if_neg h1, if_neg h2, if_pos h3, q1, Option.bind_some, if_pos (by omega), Option.bind_some, if_neg hc, q3, Option.bind_some, if_pos (by simp only [List.length_append]; omega), Option.bind_some, if_neg hd, if_pos (by simp only [List.length_append]; omega), hw]
          simp only [List.append_assoc] at q2 ⊢
          rw [q2]
    by_cases h4 : x.f0 = 4
    · have e : one (sp N) x = ((each (sp N) x.f3 0).1 ++ [⟨4, (each (sp N) x.f3 0).2.2.1, (each (sp N) x.f3 0).2.2.2⟩, ⟨5, (each (sp N) x.f3 0).2.1, 0⟩], 0, 0) := by unfold one; rw [if_neg h1, if_neg h2, if_neg h3, if_pos h4]
      simp only [all, e, if_true, List.length_append, List.length_cons, List.length_nil] at hb ⊢
      have hr := rest ((each (sp N) x.f3 0).1 ++ [⟨4, (each (sp N) x.f3 0).2.2.1, (each (sp N) x.f3 0).2.2.2⟩, ⟨5, (each (sp N) x.f3 0).2.1, 0⟩]) (by simp only [List.length_append, List.length_cons, List.length_nil]; omega)
      rw [← hw] at hr
      have h5 := l1_ev N (sp N) (fun _ => rfl) x0 (p.length : Int) x.f0 x.f1 x.f2 x.f3 x.f4 _ (fun y hy => hev [y] (.inr (.inr ⟨y, hy, rfl⟩))) h3l x.f3 [] rfl out (by simp only [List.length_nil, Int.natCast_zero]; omega) hr
      obtain ⟨k0, hk⟩ := h5
      refine Evt.mk1 k0 fun k h => ?_
      have q1 := hk k h
      simp only [refRun.l0]
      rw [if_pos i1, if_pos i2, hrd, if_neg h1, if_neg h2, if_neg h3, if_pos h4]
      simp only [List.append_assoc, List.length_nil, Int.natCast_zero] at q1 ⊢
      exact q1
    · have e : one (sp N) x = ([⟨0, x.f1, 0⟩], 0, 0) := by unfold one; rw [if_neg h1, if_neg h2, if_neg h3, if_neg h4]
      simp only [all, e, if_true, List.length_append, List.length_cons, List.length_nil] at hb ⊢
      obtain ⟨k0, hk⟩ := rest [⟨0, x.f1, 0⟩] (by simp; omega)
      refine Evt.mk1 k0 fun k h => ?_
      simp only [refRun.l0]
      rw [if_pos i1, if_pos i2, hrd, if_neg h1, if_neg h2, if_neg h3, if_neg h4, if_pos (by omega), hw]
      exact (hk k h).trans (by simp)
theorem len_sz (N : Nat) (l : List S50) (h : Dp N l) : l.length ≤ sz N l := by
  cases N with
  | zero =>
    have : l = [] := h
    subst this
    exact Nat.zero_le _
  | succ N =>
    clear h
    show l.length ≤ szl (sz N) l
    induction l with
    | nil => exact Nat.zero_le _
    | cons x t ih => simp only [List.length_cons, szl]; omega
theorem run_ev : ∀ (N : Nat) (l : List S50), Dp N l → 2 * sz N l ≤ 1000000 → Evt (fun k => refRun.f k l) (sp N l)
  | 0, l, h, _ => by
    have h0 : l = [] := h
    subst h0
    refine Evt.mk1 1 fun k hk => ?_
    obtain ⟨m, rfl⟩ : ∃ m, k = m + 1 := ⟨k - 1, by omega⟩
    simp [refRun.f, refRun.l0, sp]
  | N + 1, l, h, hb => by
    have hlen := len_sz (N + 1) l h
    have hmem : ∀ x ∈ l, sz N x.f3 + sz N x.f4 ≤ sz (N + 1) l := fun x hx => by
      have := szl_mem (sz N) l x hx
      show _ ≤ szl (sz N) l
      omega
    have hall : (all (sp N) l).1.length ≤ 2 * sz (N + 1) l := sp_len (N + 1) l
    have h5 := l0_ev N l (fun x hx => ⟨fun q hq => by
      have hd := h x hx
      have hs := hmem x hx
      rcases hq with rfl | rfl | ⟨y, hy, rfl⟩
      · exact run_ev N x.f3 hd.1 (by omega)
      · exact run_ev N x.f4 hd.2 (by omega)
      · refine run_ev N [y] (hd.1.single hy) ?_
        have : sz N [y] ≤ sz N x.f3 := by
          have hmem2 : ∀ (t : List S50), y ∈ t → sz N [y] ≤ sz N t := fun t ht => by
            induction t with
            | nil => cases ht
            | cons z t ih =>
              rw [sz_cons N z t]
              rcases List.mem_cons.1 ht with rfl | h6
              · omega
              · have := ih h6; omega
          exact hmem2 _ hy
        omega, by have := len_sz N x.f3 (h x hx).1; have := hmem x hx; omega⟩) (by omega) l [] rfl [] (by simpa using (by omega : (all (sp N) l).1.length ≤ 1000000)) (fun x hx => by
      have hs := hmem x hx
      have a1 := sp_len N x.f3
      have a2 := sp_len N x.f4
      have a3 := each_len (sp N) (sz N) (sz_cons N) (fun y => sp_len N [y]) x.f3 0
      omega)
    obtain ⟨k0, hk⟩ := h5
    refine Evt.mk1 k0 fun k h6 => ?_
    have h7 := hk k h6
    simp only [refRun.f]
    simp only [List.length_nil, Int.natCast_zero, List.nil_append] at h7
    exact h7
end Go.Proofs.Ytigcmbakglghpaa
