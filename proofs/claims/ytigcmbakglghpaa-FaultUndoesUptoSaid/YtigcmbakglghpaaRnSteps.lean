/-
  Undo and First over closures that play steps.
-/
import Derived.Test.YtigcmbakglghpaaRnUndo
namespace Go.Proofs.Ytigcmbakglghpaa
open Go.RowKit Go.Proofs.YtigcmbakglghpaaW.PrintWords Go.Proofs.YtigcmbakglghpaaW.PrintLast Go.Proofs.YtigcmbakglghpaaW.PrintMore Go.Proofs.Ytigcmbakglghpaa.PFaultRuns
set_option linter.unusedVariables false
set_option linter.unusedSimpArgs false

/-- What an Undo of steps comes to. -/
def und (N : Nat) (l3 l4 : List S50) : RR :=
  if (sp N l3).2.1 = 0 then sp N l3 else if (sp N l4).2.1 = 0 then ((sp N l3).1 ++ (sp N l4).1, (sp N l3).2) else ((sp N l3).1 ++ (sp N l4).1, (sp N l4).2)
theorem one3 (N : Nat) (x : S50) (h : x.f0 = 3) : one (sp N) x = ((und N x.f3 x.f4).1 ++ [⟨3, (und N x.f3 x.f4).2.1, (und N x.f3 x.f4).2.2⟩], 0, 0) := by
  unfold one und
  rw [if_neg (by omega), if_neg (by omega), if_pos h]
  split
  · rfl
  · split <;> rfl
theorem und_len (N : Nat) (l3 l4 : List S50) : (und N l3 l4).1.length ≤ 2 * (sz N l3 + sz N l4) := by
  have h1 := sp_len N l3
  have h2 := sp_len N l4
  unfold und
  split
  · omega
  · split <;> (simp only [List.length_append]; omega)
theorem Frm.past2 {T T2 : TypeId → Prop} {w w1 w2 : World} {base : Nat} (h : Frm T base w w1) (h2 : Frm T2 w.heap.size w1 w2) (h1 : base ≤ w.heap.size) : Frm T base w w2 :=
  ⟨h.low.trans (h2.low.mono h1), fun k cs t fr hk ht => (h2.low.block k (lt_of_block hk)).trans (h.keep k cs t fr hk ht)⟩
section
variable {N : Nat} {w0 : World} {base bp pb ps : Nat} {k n a : Int} {A3 : Option Addr} {l3 : List S50} {c3 : Nat} {A4 : Option Addr} {l4 : List S50} {c4 : Nat} {L : List S53} {w : World}
set_option maxHeartbeats 1000000 in
theorem undo_steps (hrun : RunOk N w0 base bp) (he : Env w bp pb ps k n a A3 l3.length c3 A4 l4.length c4) (h3 : Kd.C k50 w0 A3 l3.length l3) (hc3 : l3.length ≤ c3) (hd3 : Dp N l3) (h4 : Kd.C k50 w0 A4 l4.length l4) (hc4 : l4.length ≤ c4) (hd4 : Dp N l4) (hw : Below base w0 w) (hB : Bk w base bp L) (hL : L.length + 2 * (sz N l3 + sz N l4) ≤ 100000) :
    Calls Try.prog 20 #[.func (.func 29) #[] #[.pointer (some ⟨pb, 0, none⟩), .pointer (some ⟨ps, 0, none⟩)], .func (.func 30) #[] #[.pointer (some ⟨pb, 0, none⟩), .pointer (some ⟨ps, 0, none⟩)]] w fun e w' =>
      e = .returned (.agg #[.int .i64 (und N l3 l4).2.1, .int .i64 (und N l3 l4).2.2]) ∧ Bk w' base bp (L ++ (und N l3 l4).1) ∧ Frm TB base w w' := by
  have hbase := hB.size.1
  have hF0 : ∀ (T : TypeId → Prop) (w' : World) (o : Obj), base ≤ w'.heap.size → Frm T base w' (w'.alloc o) := fun T w' o hb => Frm.alloc (Frm.refl _ _ _) hb _
  have hlen := sp_len N l3
  refine (undo_any _ _ w (fun c a w' => c = (sp N l3).2.1 ∧ a = (sp N l3).2.2 ∧ Bk w' base bp (L ++ (sp N l3).1) ∧ Frm TB base w w')
    (fun c a d b w'' => c = (sp N l3).2.1 ∧ a = (sp N l3).2.2 ∧ d = (sp N l4).2.1 ∧ b = (sp N l4).2.2 ∧ Bk w'' base bp (L ++ (sp N l3).1 ++ (sp N l4).1) ∧ Frm TB base w w'') ?_ ?_).mono ?_
  · have hFa := hF0 TB w (.cells #[.int .i64 0, .int .i64 0] 25) hbase
    have hFf := hF0 (fun _ => False) w (.cells #[.int .i64 0, .int .i64 0] 25) hbase
    have hb2 : base ≤ (w.alloc (.cells #[.int .i64 0, .int .i64 0] 25)).heap.size := Nat.le_trans hbase hFf.low.size
    have hFg := hFf.trans (hF0 (fun _ => False) _ (.cells #[.int .i64 0, .int .i64 0] 25) hb2)
    refine (catch_post 29 _ _ (fun _ _ => by simp [go_sem]) hb2 (clos2 hrun (he.frm hFg id id) h3 hc3 hd3 (hw.trans hFg.low) (hB.frm hFg id id) (by omega))).mono ?_
    rintro e w' ⟨he1, hb1, hf1⟩
    exact ⟨_, _, he1, ⟨rfl, rfl, hb1, hFa.trans hf1⟩, hf1.keep _ _ _ _ (heap_alloc_new _ _) (by decide)⟩
  · rintro c a' w' hc0 ⟨rfl, rfl, hb1, hf1⟩ hblk
    have hb2 : base ≤ w'.heap.size := Nat.le_trans hbase hf1.low.size
    have hFf := hF0 (fun _ => False) w' (.cells #[.int .i64 (sp N l3).2.1, .int .i64 (sp N l3).2.2] 25) hb2
    have hFa := hF0 TB w' (.cells #[.int .i64 (sp N l3).2.1, .int .i64 (sp N l3).2.2] 25) hb2
    have hb3 : base ≤ (w'.alloc (.cells #[.int .i64 (sp N l3).2.1, .int .i64 (sp N l3).2.2] 25)).heap.size := Nat.le_trans hb2 hFf.low.size
    have hFg := hFf.trans (hF0 (fun _ => False) _ (.cells #[.int .i64 0, .int .i64 0] 25) hb3)
    refine (catch_post 30 _ _ (fun _ _ => by simp [go_sem]) hb3 (clos3 hrun ((he.frm hf1 (by decide) (by decide)).frm hFg id id) h4 hc4 hd4 ((hw.trans hf1.low).trans hFg.low) (hb1.frm hFg id id) (by rw [List.length_append]; omega))).mono ?_
    rintro e w'' ⟨he2, hb4, hf2⟩
    exact ⟨_, _, he2, ⟨rfl, rfl, rfl, rfl, hb4, (hf1.trans hFa).trans hf2⟩, hf2.keep _ _ _ _ (blk_alloc hblk _) (by decide), hf2.keep _ _ _ _ (heap_alloc_new _ _) (by decide)⟩
  · rintro e w' (⟨c, a', w1, ⟨rfl, rfl, hb1, hf1⟩, hF, hc0, rfl⟩ | ⟨c, a', d, b, w2, hc0, ⟨rfl, rfl, rfl, rfl, hb1, hf1⟩, hF, rfl⟩)
    · have e1 : und N l3 l4 = sp N l3 := by unfold und; rw [if_pos hc0]
      rw [e1]
      exact ⟨rfl, hb1.frm hF (by decide) (by decide), hf1.past2 hF hbase⟩
    · by_cases hd : (sp N l4).2.1 = 0
      · have e1 : und N l3 l4 = ((sp N l3).1 ++ (sp N l4).1, (sp N l3).2) := by unfold und; rw [if_neg hc0, if_pos hd]
        rw [e1, if_pos hd]
        exact ⟨rfl, by rw [← List.append_assoc]; exact hb1.frm hF (by decide) (by decide), hf1.past2 hF hbase⟩
      · have e1 : und N l3 l4 = ((sp N l3).1 ++ (sp N l4).1, (sp N l4).2) := by unfold und; rw [if_neg hc0, if_neg hd]
        rw [e1, if_neg hd]
        exact ⟨rfl, by rw [← List.append_assoc]; exact hb1.frm hF (by decide) (by decide), hf1.past2 hF hbase⟩
/-- The closure over step number q. -/
def clo4 (pb ps p : Nat) : Value := .func (.func 31) #[] #[.pointer (some ⟨pb, 0, none⟩), .pointer (some ⟨ps, 0, none⟩), .pointer (some ⟨p, 0, none⟩)]
/-- What First's closures see. -/
structure Sees (w0 w : World) (base bp pb ps : Nat) (k n a : Int) (A3 : Option Addr) (n3 c3 : Nat) (A4 : Option Addr) (n4 c4 : Nat) (pis : List Nat) (Af : Option Addr) : Prop where
  env : Env w bp pb ps k n a A3 n3 c3 A4 n4 c4
  pi : ∀ (q p : Nat), pis[q]? = some p → w.heap[p]? = some (.cells #[.int .i64 q] 3)
  low : Below base w0 w
  row : n3 = 0 ∨ ∃ (g : Nat) (cells : Array Value), Af = some ⟨g, 0, none⟩ ∧ w.heap[g]? = some (.cells cells 1) ∧ ∀ q, q < n3 → cells[q]? = some (clo4 pb ps (pis.getD q 0))
theorem Sees.frm {w0 w w' : World} {base bp pb ps : Nat} {k n a : Int} {A3 : Option Addr} {n3 c3 : Nat} {A4 : Option Addr} {n4 c4 : Nat} {pis : List Nat} {Af : Option Addr} (h : Sees w0 w base bp pb ps k n a A3 n3 c3 A4 n4 c4 pis Af) {T : TypeId → Prop} (hF : Frm T base w w') (h1 : ¬ T 37) (h2 : ¬ T 50) (h3 : ¬ T 3) (h4 : ¬ T 1) : Sees w0 w' base bp pb ps k n a A3 n3 c3 A4 n4 c4 pis Af := by
  refine ⟨h.env.frm hF h1 h2, fun q p hq => hF.keep _ _ _ _ (h.pi q p hq) h3, h.low.trans hF.low, ?_⟩
  rcases h.row with h0 | ⟨g, cells, e, hb, hc⟩
  · exact .inl h0
  · exact .inr ⟨g, cells, e, hF.keep _ _ _ _ hb h4, hc⟩
set_option maxHeartbeats 2000000 in
theorem first_steps {pis : List Nat} {Af : Option Addr} {cap : Nat} (hrun : RunOk N w0 base bp) (hs : Sees w0 w base bp pb ps k n a A3 l3.length c3 A4 l4.length c4 pis Af) (h3 : Kd.C k50 w0 A3 l3.length l3) (hc3 : l3.length ≤ c3) (hd3 : Dp N l3) (hB : Bk w base bp L) (hL : L.length + 2 * sz N l3 ≤ 100000) (hp : pis.length = l3.length) (hl3 : l3.length ≤ 1000000) :
    Calls Try.prog 14 #[.slice Af l3.length cap] w fun e w' =>
      e = .returned (.tuple #[.int .i64 (each (sp N) l3 0).2.1, .agg #[.int .i64 (each (sp N) l3 0).2.2.1, .int .i64 (each (sp N) l3 0).2.2.2]]) ∧ Bk w' base bp (L ++ (each (sp N) l3 0).1) ∧ Frm TB base w w' := by
  refine (first_frm (n := l3.length) (base := base) (clos := fun q => clo4 pb ps (pis.getD q 0))
    (Inv := fun q w' => ∃ E, each (sp N) l3 0 = (E ++ (each (sp N) (l3.drop q) (q : Int)).1, (each (sp N) (l3.drop q) (q : Int)).2) ∧ E.length + 2 * sz N (l3.drop q) ≤ 2 * sz N l3 ∧ Bk w' base bp (L ++ E) ∧ Sees w0 w' base bp pb ps k n a A3 l3.length c3 A4 l4.length c4 pis Af)
    (Stp := fun q c b w' => ∃ E, each (sp N) l3 0 = (E, (q : Int), c, b) ∧ Bk w' base bp (L ++ E)) ?_ ?_ ?_ ?_ w hB.size.1 hl3 ?_).mono ?_
  · rintro j w1 w2 ⟨E, h1, h2, h4, h5⟩ hF
    exact ⟨E, h1, h2, h4.frm hF (by decide) (by decide), h5.frm hF (by decide) (by decide) (by decide) (by decide)⟩
  · rintro j c b w1 w2 ⟨E, h1, h2⟩ hF
    exact ⟨E, h1, h2.frm hF (by decide) (by decide)⟩
  · rintro j w1 ⟨E, h1, h2, h4, h5⟩ hj
    rcases h5.row with h0 | ⟨g, cells, e, hb, hc⟩
    · omega
    · exact ⟨g, e, (cell_of_block hb j).trans (hc j hj)⟩
  · rintro j w1 hj ⟨E, h1, h2, h4, h5⟩ hbase
    obtain ⟨ad, y, hA, hym, hy, hCy⟩ := c_one h3 hc3 hj
    subst hA
    have hdr : l3.drop j = y :: l3.drop (j + 1) := by
      rw [List.getElem?_eq_some_iff] at hy
      obtain ⟨hj2, rfl⟩ := hy
      exact (List.getElem_cons_drop hj2).symm
    rw [hdr] at h1 h2
    rw [sz_cons] at h2
    have hpj : pis[j]? = some (pis.getD j 0) := by
      rw [List.getD_eq_getElem?_getD, List.getElem?_eq_getElem (by omega)]
      rfl
    have hFf : Frm (fun _ => False) base w1 (w1.alloc (.cells #[.int .i64 0, .int .i64 0] 25)) := Frm.alloc (Frm.refl _ _ _) hbase _
    have h6 := h5.frm hFf id id id id
    have hsy := sp_len N [y]
    refine (catch_post 31 _ w1 (fun _ _ => by simp [go_sem]) hbase (clos4 hrun h6.env (h6.pi j _ hpj) hj hl3 hCy hc3 (hd3.single hym) h6.low (h4.frm hFf id id) (by rw [List.length_append]; omega))).mono ?_
    rintro e w' ⟨he, hb, hf⟩
    refine ⟨hf, ?_⟩
    by_cases hc : (sp N [y]).2.1 = 0
    · refine .inl ⟨by rw [he, hc, sp_at N [y] hc], E ++ (sp N [y]).1, ?_, ?_, by rw [← List.append_assoc]; exact hb, h5.frm hf (by decide) (by decide) (by decide) (by decide)⟩
      · rw [h1]
        simp only [each]
        rw [if_pos hc, List.append_assoc]
        rfl
      · rw [List.length_append]
        omega
    · refine .inr ⟨_, _, beq_eq_false_iff_ne.2 hc, he, E ++ (sp N [y]).1, ?_, by rw [← List.append_assoc]; exact hb⟩
      rw [h1]
      simp only [each]
      rw [if_neg hc]
  · exact ⟨[], by simp, by simp, by rw [List.append_nil]; exact hB, hs⟩
  · rintro e w' ⟨hF, ⟨he, E, h1, h2, h4, h5⟩ | ⟨j, c, b, hj, hc, he, E, h1, h2⟩⟩
    · rw [List.drop_eq_nil_of_le (Nat.le_refl _)] at h1
      simp only [each, List.append_nil] at h1
      rw [h1]
      exact ⟨he, h4, hF⟩
    · rw [h1]
      exact ⟨he, h2, hF⟩
end
end Go.Proofs.Ytigcmbakglghpaa
