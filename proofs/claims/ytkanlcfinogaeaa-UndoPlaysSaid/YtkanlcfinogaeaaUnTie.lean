/-
  The two logs hold the same: plain lists, no program in sight.
-/
import Derived.Test.YtkanlcfinogaeaaUnPlain
namespace Go.Proofs.Ytkanlcfinogaeaa
open Go.RowKit
set_option linter.unusedVariables false
set_option linter.unusedSimpArgs false

/-- The entries. -/
def entsI (l : List Itm) : List Ent := (l.filter fun y => !y.save).map fun y => y.e
/-- The savepoints, with how many entries there were, where there are k ahead. -/
def savesFrom (k : Nat) : List Itm → List (ByteArray × Int)
  | [] => []
  | y :: t => if y.save = true then (y.name, (k : Int)) :: savesFrom k t else savesFrom (k + 1) t
theorem entsI_append (a b : List Itm) : entsI (a ++ b) = entsI a ++ entsI b := by simp [entsI]
theorem cntE_append (a b : List Itm) : cntE (a ++ b) = cntE a + cntE b := by simp [cntE]
theorem entsI_len (l : List Itm) : (entsI l).length = cntE l := by
  unfold entsI cntE
  rw [List.length_map, List.countP_eq_length_filter]
theorem outE_ents (l : List Itm) (j : Nat) : outE l j = (entsI (l.drop j)).reverse := rfl
theorem savesFrom_append (a b : List Itm) : ∀ k, savesFrom k (a ++ b) = savesFrom k a ++ savesFrom (k + cntE a) b := by
  induction a with
  | nil => intro k; rfl
  | cons y t ih =>
    intro k
    show savesFrom k (y :: (t ++ b)) = _
    cases hs : y.save with
    | true =>
      have hc : cntE (y :: t) = cntE t := by simp [cntE, hs]
      simp only [savesFrom, hs, if_pos, hc]
      rw [ih]
      rfl
    | false =>
      have hc : cntE (y :: t) = cntE t + 1 := by simp [cntE, hs]
      simp only [savesFrom, hs, hc]
      simp
      rw [ih, show k + 1 + cntE t = k + (cntE t + 1) from by omega]
theorem savesFrom_mem (l : List Itm) : ∀ k p, p ∈ savesFrom k l → (k : Int) ≤ p.2 ∧ p.2 ≤ (k + cntE l : Nat) ∧ ∃ (i : Nat) (y : Itm), l[i]? = some y ∧ y.save = true ∧ y.name = p.1 := by
  induction l with
  | nil => intro k p h; cases h
  | cons y t ih =>
    intro k p h
    cases hs : y.save with
    | true =>
      have hc : cntE (y :: t) = cntE t := by simp [cntE, hs]
      simp only [savesFrom, hs, if_pos] at h
      rw [hc]
      rcases List.mem_cons.1 h with rfl | h
      · exact ⟨Int.le_refl _, by show (k : Int) ≤ _; omega, 0, y, rfl, hs, rfl⟩
      · obtain ⟨h1, h2, i, y', h3, h4, h5⟩ := ih k p h
        exact ⟨h1, h2, i + 1, y', h3, h4, h5⟩
    | false =>
      have hc : cntE (y :: t) = cntE t + 1 := by simp [cntE, hs]
      simp only [savesFrom, hs] at h
      simp at h
      rw [hc]
      obtain ⟨h1, h2, i, y', h3, h4, h5⟩ := ih (k + 1) p h
      exact ⟨by omega, by omega, i + 1, y', h3, h4, h5⟩
theorem savesFrom_rise (l : List Itm) : ∀ k (i j : Nat) p q, i ≤ j → (savesFrom k l)[i]? = some p → (savesFrom k l)[j]? = some q → p.2 ≤ q.2 := by
  induction l with
  | nil => intro k i j p q _ h; simp [savesFrom] at h
  | cons y t ih =>
    intro k i j p q hij hp hq
    cases hs : y.save with
    | true =>
      simp only [savesFrom, hs, if_pos] at hp hq
      cases i with
      | zero =>
        simp at hp
        subst hp
        cases j with
        | zero => simp at hq; subst hq; exact Int.le_refl _
        | succ j =>
          simp at hq
          exact (savesFrom_mem t k q (List.mem_of_getElem? hq)).1
      | succ i =>
        obtain ⟨j, rfl⟩ : ∃ j', j = j' + 1 := ⟨j - 1, by omega⟩
        simp at hp hq
        exact ih k i j p q (by omega) hp hq
    | false =>
      simp only [savesFrom, hs] at hp hq
      simp at hp hq
      exact ih (k + 1) i j p q hij hp hq
theorem savesFrom_names (l : List Itm) : ∀ k, (savesFrom k l).map Prod.fst = rnames l := by
  induction l with
  | nil => intro k; rfl
  | cons y t ih =>
    intro k
    unfold rnames at ih ⊢
    cases hs : y.save with
    | true => simp [savesFrom, hs, ih]
    | false => simp [savesFrom, hs, ih]

/-- Both logs hold the same. -/
structure Tie (S : ULS) (R : RLS) : Prop where
  quota : R.quota = S.quota
  ents : S.entries = entsI R.items
  saves : S.saves = savesFrom 0 R.items
theorem Tie.len {S : ULS} {R : RLS} (h : Tie S R) : S.entries.length = cntE R.items := by rw [h.ents, entsI_len]
theorem Tie.ok {S : ULS} {R : RLS} (h : Tie S R) : S.Ok := by
  refine ⟨?_, ?_⟩
  · rw [h.saves]; exact savesFrom_rise _ _
  · intro i p hp
    rw [h.saves] at hp
    obtain ⟨h1, h2, _⟩ := savesFrom_mem _ _ p (List.mem_of_getElem? hp)
    rw [h.len]
    exact ⟨by simpa using h1, by simpa using h2⟩
theorem Tie.nil (q : Int) : Tie ⟨[], [], q⟩ ⟨[], q⟩ := ⟨rfl, rfl, rfl⟩
theorem Tie.add {S : ULS} {R : RLS} (h : Tie S R) (s : ByteArray) (e : Ent) : Tie { S with entries := S.entries ++ [e] } { R with items := R.items ++ [⟨false, s, e⟩] } :=
  ⟨h.quota, by show S.entries ++ [e] = entsI (R.items ++ [⟨false, s, e⟩]); rw [entsI_append, h.ents]; rfl, by show S.saves = savesFrom 0 (R.items ++ [⟨false, s, e⟩]); rw [savesFrom_append, h.saves]; simp [savesFrom]⟩
theorem Tie.save {S : ULS} {R : RLS} (h : Tie S R) (s : ByteArray) (e : Ent) : Tie { S with saves := S.saves ++ [(s, (S.entries.length : Int))] } { R with items := R.items ++ [⟨true, s, e⟩] } :=
  ⟨h.quota, by show S.entries = entsI (R.items ++ [⟨true, s, e⟩]); rw [entsI_append, h.ents]; simp [entsI], by show S.saves ++ [_] = savesFrom 0 (R.items ++ [⟨true, s, e⟩]); rw [savesFrom_append, h.saves, h.len]; simp [savesFrom]⟩
/-- Both are cut at the reference's place j. -/
theorem Tie.cut {S : ULS} {R : RLS} (h : Tie S R) (j : Nat) : Tie { S with entries := S.entries.take (cntE (R.items.take j)), saves := S.saves.take (savesFrom 0 (R.items.take j)).length } { R with items := R.items.take j } := by
  have he : R.items = R.items.take j ++ R.items.drop j := (List.take_append_drop j _).symm
  refine ⟨h.quota, ?_, ?_⟩
  · show S.entries.take _ = entsI (R.items.take j)
    rw [h.ents]
    conv => lhs; rw [he, entsI_append]
    rw [show (List.take j (List.take j R.items ++ List.drop j R.items)) = R.items.take j from by rw [← he], List.take_append_of_le_length (by rw [entsI_len]; exact Nat.le_refl _), List.take_of_length_le (by rw [entsI_len]; exact Nat.le_refl _)]
  · show S.saves.take _ = savesFrom 0 (R.items.take j)
    rw [h.saves]
    conv => lhs; rw [he, savesFrom_append]
    rw [show (List.take j (List.take j R.items ++ List.drop j R.items)) = R.items.take j from by rw [← he], List.take_left]
theorem Tie.out {S : ULS} {R : RLS} (h : Tie S R) (j : Nat) : outE R.items j = (S.entries.drop (cntE (R.items.take j))).reverse := by
  rw [outE_ents, h.ents]
  have he : entsI R.items = entsI (R.items.take j) ++ entsI (R.items.drop j) := by rw [← entsI_append, List.take_append_drop]
  rw [he, ← entsI_len, List.drop_left]
/-- What To asks of the place. -/
theorem Tie.at_ {S : ULS} {R : RLS} (h : Tie S R) {j : Nat} (hj : j ≤ R.items.length) (hh : ∀ i, j < i → i ≤ R.items.length → cntE (R.items.take j) < cntE (R.items.take i)) :
    (∀ (i : Nat) p, i < (savesFrom 0 (R.items.take j)).length → S.saves[i]? = some p → p.2 ≤ (cntE (R.items.take j) : Int)) ∧ (∀ (i : Nat) p, (savesFrom 0 (R.items.take j)).length ≤ i → S.saves[i]? = some p → (cntE (R.items.take j) : Int) < p.2) ∧ (savesFrom 0 (R.items.take j)).length ≤ S.saves.length := by
  have he : S.saves = savesFrom 0 (R.items.take j) ++ savesFrom (0 + cntE (R.items.take j)) (R.items.drop j) := by rw [← savesFrom_append, List.take_append_drop, h.saves]
  refine ⟨fun i p hi hp => ?_, fun i p hi hp => ?_, by rw [he, List.length_append]; omega⟩
  · rw [he, List.getElem?_append_left hi] at hp
    have := (savesFrom_mem _ _ p (List.mem_of_getElem? hp)).2.1
    simpa using this
  · rw [he, List.getElem?_append_right hi] at hp
    have hm := List.mem_of_getElem? hp
    rcases Nat.lt_or_ge j R.items.length with hlt | hge
    · have h1 := hh (j + 1) (by omega) (by omega)
      have h2 := cntE_next R.items j _ (List.getElem?_eq_getElem hlt)
      rw [List.drop_eq_getElem_cons hlt] at hm
      cases hs : (R.items[j]).save with
      | true => rw [hs] at h2; simp at h2; omega
      | false =>
        simp only [savesFrom, hs] at hm
        simp at hm
        have := (savesFrom_mem _ _ p hm).1
        omega
    · rw [List.drop_of_length_le hge] at hm
      cases hm
/-- What Back asks of the place. -/
theorem Tie.found {S : ULS} {R : RLS} (h : Tie S R) {name : ByteArray} {p : Nat} {y : Itm} (hp : R.items[p]? = some y) (hs : y.save = true) (hno : ∀ (i : Nat) y, p < i → R.items[i]? = some y → y.save = true → (y.name.toList == name.toList) = false) :
    S.saves[(savesFrom 0 (R.items.take p)).length]? = some (y.name, ((cntE (R.items.take p) : Nat) : Int)) ∧ (∀ (j : Nat) q, (savesFrom 0 (R.items.take p)).length < j → S.saves[j]? = some q → (q.1.toList == name.toList) = false) ∧ cntE (R.items.take (p + 1)) = cntE (R.items.take p) ∧ (savesFrom 0 (R.items.take (p + 1))).length = (savesFrom 0 (R.items.take p)).length + 1 := by
  obtain ⟨hlt, hy⟩ := List.getElem?_eq_some_iff.1 hp
  have he : S.saves = savesFrom 0 (R.items.take p) ++ ((y.name, ((cntE (R.items.take p) : Nat) : Int)) :: savesFrom (cntE (R.items.take p)) (R.items.drop (p + 1))) := by
    rw [h.saves]
    conv => lhs; rw [← List.take_append_drop p R.items, savesFrom_append, List.drop_eq_getElem_cons hlt, hy]
    simp [savesFrom, hs]
  refine ⟨by rw [he, List.getElem?_append_right (Nat.le_refl _), Nat.sub_self]; rfl, fun j q hj hq => ?_, by rw [cntE_next _ _ _ hp, if_pos hs]; rfl, ?_⟩
  · rw [he, List.getElem?_append_right (by omega), show j - (savesFrom 0 (R.items.take p)).length = (j - (savesFrom 0 (R.items.take p)).length - 1) + 1 from by omega] at hq
    have hm : (savesFrom (cntE (R.items.take p)) (R.items.drop (p + 1)))[j - (savesFrom 0 (R.items.take p)).length - 1]? = some q := by simpa using hq
    obtain ⟨_, _, i, y', h3, h4, h5⟩ := savesFrom_mem _ _ q (List.mem_of_getElem? hm)
    rw [List.getElem?_drop] at h3
    rw [← h5]
    exact hno _ y' (by omega) h3 h4
  · rw [List.take_add_one, hp, savesFrom_append, List.length_append]
    simp [savesFrom, hs]
theorem Tie.unfound {S : ULS} {R : RLS} (h : Tie S R) {name : ByteArray} (hno : ∀ (i : Nat) y, R.items[i]? = some y → y.save = true → (y.name.toList == name.toList) = false) : ∀ (i : Nat) q, S.saves[i]? = some q → (q.1.toList == name.toList) = false := by
  intro i q hq
  rw [h.saves] at hq
  obtain ⟨_, _, i, y', h3, h4, h5⟩ := savesFrom_mem _ _ q (List.mem_of_getElem? hq)
  rw [← h5]
  exact hno i y' h3 h4
/-- The last place of a savepoint of that name, or that there is none. -/
theorem last_save (l : List Itm) (name : ByteArray) : (∀ (i : Nat) y, l[i]? = some y → y.save = true → (y.name.toList == name.toList) = false) ∨ ∃ (p : Nat) (y : Itm), l[p]? = some y ∧ y.save = true ∧ (y.name.toList == name.toList) = true ∧ ∀ (i : Nat) y, p < i → l[i]? = some y → y.save = true → (y.name.toList == name.toList) = false := by
  have key : ∀ n, n ≤ l.length → (∀ (i : Nat) y, n ≤ i → l[i]? = some y → y.save = true → (y.name.toList == name.toList) = false) → (∀ (i : Nat) y, l[i]? = some y → y.save = true → (y.name.toList == name.toList) = false) ∨ ∃ (p : Nat) (y : Itm), l[p]? = some y ∧ y.save = true ∧ (y.name.toList == name.toList) = true ∧ ∀ (i : Nat) y, p < i → l[i]? = some y → y.save = true → (y.name.toList == name.toList) = false := by
    intro n
    induction n with
    | zero => intro _ h; exact .inl fun i y => h i y (Nat.zero_le _)
    | succ n ih =>
      intro hn h
      obtain ⟨y, hy⟩ : ∃ y, l[n]? = some y := ⟨_, List.getElem?_eq_getElem (by omega)⟩
      by_cases hm : y.save = true ∧ (y.name.toList == name.toList) = true
      · exact .inr ⟨n, y, hy, hm.1, hm.2, fun i z hi => h i z (by omega)⟩
      · refine ih (by omega) fun i z hi hz hs => ?_
        rcases Nat.lt_or_eq_of_le hi with hi | rfl
        · exact h i z (by omega) hz hs
        · rw [hy] at hz
          injection hz with hz
          subst hz
          cases hb : (y.name.toList == name.toList) with
          | true => exact absurd ⟨hs, hb⟩ hm
          | false => rfl
  exact key l.length (Nat.le_refl _) fun i y hi h => by
    rw [List.getElem?_eq_none hi] at h
    cases h
/-- Where To cuts. -/
theorem place_of (l : List Itm) (m : Nat) (hm : m ≤ cntE l) : ∃ j, j ≤ l.length ∧ cntE (l.take j) = m ∧ ∀ i, j < i → i ≤ l.length → m < cntE (l.take i) := by
  have key : ∀ n, n ≤ l.length → m ≤ cntE (l.take n) → (∀ i, n < i → i ≤ l.length → m < cntE (l.take i)) → ∃ j, j ≤ l.length ∧ cntE (l.take j) = m ∧ ∀ i, j < i → i ≤ l.length → m < cntE (l.take i) := by
    intro n
    induction n with
    | zero => intro h1 h2 h3; exact ⟨0, h1, by simp [cntE] at h2 ⊢; omega, h3⟩
    | succ n ih =>
      intro h1 h2 h3
      by_cases he : cntE (l.take (n + 1)) = m
      · exact ⟨n + 1, h1, he, h3⟩
      · have hn := cntE_next l n _ (List.getElem?_eq_getElem (by omega))
        refine ih (by omega) (by split at hn <;> omega) fun i hi hl => ?_
        rcases Nat.lt_or_eq_of_le (Nat.succ_le_of_lt hi) with h | rfl
        · exact h3 i h hl
        · show m < cntE (l.take (n + 1)); omega
  exact key l.length (Nat.le_refl _) (by rw [List.take_length]; exact hm) fun i h1 h2 => by omega
end Go.Proofs.Ytkanlcfinogaeaa
