/-
  append in a region that draws its order: onto a row of one's own.
-/
import Derived.Test.YtnjdmaeoebihpaaPgSplit
import Derived.Deep.RegionLaw
namespace Go.Proofs.Ytnjdmaeoebihpaa
open Go.RowKit Go.Proofs.YtnjdmaeoebihpaaW.PrintWords Go.Proofs.YtnjdmaeoebihpaaW.PrintLast Go.Proofs.YtnjdmaeoebihpaaW.PrintMore
set_option linter.unusedVariables false
set_option linter.unusedSimpArgs false

theorem grown_refl (w : World) (row : Option Nat) : w.grownBy w row := ⟨rfl, rfl, rfl, Nat.le_refl _, fun _ _ _ => rfl⟩
/-- 'append(v, row...)' in a region that draws its order. -/
theorem reg_copy {T e : TypeId} {z : Value} {size bytes : Nat} {i0 : TypeInfo} (E : Elt T e z size bytes i0) {w : World} {base n m c : Nat} {v : Value} {A : Option Addr} {xs news : List Value} {ops : Array Oper} {o : Oper} {x : Act} {K : Act → World → Prop} {Q : Exit → Act → World → Prop} {Z : Prop} (hgd : o.guard = none) (s t : Operand)
    (ho : o.op = .call { callee := .builtin .append, args := #[s, t], argTypes := #[T, T] }) (hown : w.ownsRow base e size v n xs) (hs : x.eval s = v) (ht : x.eval t = .slice A m c)
    (hl : news.length = m * size) (hc : Src w A m c news) (h1 : ∀ u ∈ news, u.oneCell' = true) (hn : n ≤ 1000000 ∧ m ≤ 1000000) (hbase : base ≤ w.heap.size)
    (hK : ∀ A' c' w2, w2.ownsRow base e size (.slice A' (n + m) c') (n + m) (xs ++ news) → w.grownBy w2 v.ownBlock → K (x.put o.dst (.slice A' (n + m) c')) w2) :
    if Region.wanted o (yielded ops x.tmps) = true then Oper.wp Try.prog o x w K Q else Z := by
  have hw : Region.wanted o (yielded ops x.tmps) = true := by simp [Region.wanted, hgd]
  rw [if_pos hw]
  rcases hc with ⟨rfl, rfl, rfl⟩ | ⟨ad, rfl, hc⟩
  · have hx0 : news = [] := List.eq_nil_of_length_eq_zero (by simpa using hl)
    subst hx0
    obtain ⟨A', c', rfl⟩ := own_form hown
    unfold Oper.wp execOp
    simp only [ho, resolve, invoke, builtin, Sem.run_bind, Sem.run_pure, Result.andThen_ok, List.map_toArray, List.map_cons, List.map_nil, hs, ht, gapp_nil E hown]
    exact hK A' c' w (by rw [List.append_nil]; exact hown) (grown_refl _ _)
  · have hbytes : (n + m) * bytes ≤ 2000000 * 1000 := Nat.mul_le_mul (by omega) E.small
    refine wp_append_own w s t T ho base e i0 z size bytes E.und E.info E.zero E.hsize E.hbytes E.zs E.pos v n xs hs hown ad m c news ht hl hc h1 (by simp only [maxLen]; omega) (by omega) hbase ?_
    intro v' w2 ho2 hg _
    obtain ⟨A', c', rfl⟩ := own_form ho2
    exact hK A' c' w2 ho2 hg
theorem rowN (w : World) : (w.alloc (.cells #[] 9)).ownsRow w.heap.size 9 1 (.slice (some ⟨w.heap.size, 0, none⟩) 0 0) 0 [] := World.ownsRow_made w #[] 0 (Nat.le_refl _) (by simp [maxLen]) (by simp)
theorem rowN_at {w : World} {g base : Nat} (h : w.heap[g]? = some (.cells #[] 9)) (hb : base ≤ g) : w.ownsRow base 9 1 (.slice (some ⟨g, 0, none⟩) 0 0) 0 [] :=
  ⟨rfl, .inr ⟨g, 0, #[], rfl, hb, h, Nat.le_refl _, Nat.zero_le _, rfl, rfl⟩⟩
/-- One text, just laid. -/
theorem src_one {w : World} {g : Nat} {s : ByteArray} (h : w.heap[g]? = some (.cells #[.string s] 9)) : Src w (some ⟨g, 0, none⟩) 1 1 [.string s] := by
  refine .inr ⟨_, rfl, fun j u hj => ?_⟩
  rw [Addr.add_lit, cell_of_block h]
  simpa using hj
/-- Where a text is put among entries. -/
def putIn (l : List ByteArray) (at_ : Nat) (s : ByteArray) : List ByteArray := l.take at_ ++ s :: l.drop at_
theorem putIn_len (l : List ByteArray) (at_ : Nat) (s : ByteArray) (h : at_ ≤ l.length) : (putIn l at_ s).length = l.length + 1 := by
  simp [putIn]; omega
theorem putIn_at (l : List ByteArray) (at_ : Nat) (s : ByteArray) (h : at_ ≤ l.length) (j : Nat) : rec (putIn l at_ s) j = if j < at_ then rec l j else if j = at_ then s else rec l (j - 1) := by
  have e : (l.take at_).length = at_ := by rw [List.length_take]; omega
  unfold rec putIn
  rw [List.getD_eq_getElem?_getD, List.getD_eq_getElem?_getD, List.getD_eq_getElem?_getD, List.getElem?_append, e]
  by_cases h1 : j < at_
  · rw [if_pos h1, if_pos h1, List.getElem?_take, if_pos h1]
  · rw [if_neg h1, if_neg h1]
    by_cases h2 : j = at_
    · subst h2
      simp
    · rw [if_neg h2]
      obtain ⟨k, rfl⟩ : ∃ k, j = at_ + k + 1 := ⟨j - at_ - 1, by omega⟩
      rw [show at_ + k + 1 - at_ = k + 1 by omega, List.getElem?_cons_succ, List.getElem?_drop]
      congr 2
theorem putIn_weigh (l : List ByteArray) (at_ : Nat) (s : ByteArray) : weighN (putIn l at_ s) = weighN l + (4 + s.size) := by
  have h := weighN_append (l.take at_) (l.drop at_)
  rw [List.take_append_drop] at h
  rw [putIn, weighN_append]
  simp only [weighN]
  omega
/-- In order still. -/
theorem putIn_ord {l : List ByteArray} {s : ByteArray} {r : Nat} (ho : Ord l) (ha : At l s r) (hn : isAt l s r = false) : Ord (putIn l r s) := by
  intro j h0 hj
  rw [putIn_len _ _ _ ha.le] at hj
  rw [putIn_at _ _ _ ha.le, putIn_at _ _ _ ha.le]
  have hle := ha.le
  have hab : r < l.length → lt s (rec l r) = true := fun hr => by
    have h1 := ha.above r (Nat.le_refl _) hr
    rcases less_cases _ _ h1 with h2 | h2
    · exact h2
    · exfalso
      simp [isAt, hr, h2] at hn
  by_cases h1 : j < r
  · rw [if_pos (by omega), if_pos h1]
    exact ho j h0 (by omega)
  · by_cases h2 : j = r
    · subst h2
      rw [if_pos (by omega), if_neg (by omega), if_pos rfl]
      exact ha.below (j - 1) (by omega)
    · rw [if_neg h1, if_neg h2, if_neg (by omega)]
      by_cases h3 : j - 1 = r
      · rw [if_pos h3, h3]
        exact hab (by omega)
      · rw [if_neg h3]
        exact ho (j - 1) (by omega) (by omega)
theorem putIn_shp {l : List ByteArray} {ks : List Int} {s : ByteArray} {r : Nat} (h : Shp true l ks) (h1 : 1 ≤ s.size) (h2 : s.size ≤ 400) (ha : At l s r) (hn : isAt l s r = false) : Shp true (putIn l r s) [] := by
  have ho := putIn_ord h.ord ha hn
  refine ⟨rfl, fun j hj => ?_, fun k hk => by cases hk⟩
  have hup : 0 < j → lt (rec (putIn l r s) (j - 1)) (rec (putIn l r s) j) = true := fun h0 => ho j h0 hj
  rw [putIn_len _ _ _ ha.le] at hj
  have hsz : 1 ≤ (rec (putIn l r s) j).size ∧ (rec (putIn l r s) j).size ≤ 400 := by
    rw [putIn_at _ _ _ ha.le]
    have hle := ha.le
    split
    · exact ⟨(h.recs j (by omega)).lo, (h.recs j (by omega)).hi⟩
    · split
      · exact ⟨h1, h2⟩
      · exact ⟨(h.recs (j - 1) (by omega)).lo, (h.recs (j - 1) (by omega)).hi⟩
  exact ⟨hsz.1, hsz.2, hup⟩
/-! ### Halves fit -/
theorem rec_sub (l : List ByteArray) (a b j : Nat) (hb : b ≤ l.length) (hj : j < b - a) : rec (sub l a b) j = rec l (a + j) := by
  unfold rec
  rw [List.getD_eq_getElem?_getD, List.getD_eq_getElem?_getD, sub_at _ _ _ _ hb hj]
theorem Shp.sub {l : List ByteArray} (h : Shp true l []) (a b : Nat) (hb : b ≤ l.length) : Shp true (Go.Proofs.Ytnjdmaeoebihpaa.sub l a b) [] := by
  refine ⟨rfl, fun j hj => ?_, fun k hk => by cases hk⟩
  rw [sub_len _ _ _ hb] at hj
  have hr := h.recs (a + j) (by omega)
  refine ⟨?_, ?_, fun h0 => ?_⟩
  · rw [rec_sub _ _ _ _ hb hj]; exact hr.lo
  · rw [rec_sub _ _ _ _ hb hj]; exact hr.hi
  · rw [rec_sub _ _ _ _ hb hj, rec_sub _ _ _ _ hb (by omega)]
    have := hr.up (by omega)
    rwa [show a + j - 1 = a + (j - 1) by omega] at this
theorem weigh_step (l : List ByteArray) (j : Nat) (hj : j < l.length) : weighN (l.take (j + 1)) = weighN (l.take j) + (4 + (rec l j).size) := by
  have e : l.take (j + 1) = l.take j ++ [rec l j] := by
    rw [List.take_succ_eq_append_getElem hj]
    simp [rec, hj]
  rw [e, weighN_append]
  simp [weighN]
theorem cross (l : List ByteArray) (b : Nat) (m : Nat) (hm : m ≤ l.length) (h : b < weighN (l.take m)) : ∃ j, j < m ∧ weighN (l.take j) ≤ b ∧ b < weighN (l.take (j + 1)) := by
  induction m with
  | zero => simp [weighN] at h
  | succ m ih =>
    by_cases h1 : b < weighN (l.take m)
    · obtain ⟨j, a, c⟩ := ih (by omega) h1
      exact ⟨j, by omega, c⟩
    · exact ⟨m, Nat.lt_succ_self _, by omega, h⟩
/-- Both halves of what is just too great fit. -/
theorem halves (l : List ByteArray) (hs : ∀ j, j < l.length → (rec l j).size ≤ 400) (h1 : 1021 < weighN l) (h2 : weighN l ≤ 1425) : 2 ≤ l.length ∧ weighN (l.take (cutK true l)) ≤ 1021 ∧ weighN (l.drop (cutK true l)) ≤ 1021 := by
  obtain ⟨j, hj, ha, hb⟩ := cross l 1021 l.length (Nat.le_refl _) (by rw [List.take_length]; exact h1)
  have hw := weigh_step l j hj
  have hsz := hs j hj
  have hj0 : 0 < j := by
    rcases Nat.eq_zero_or_pos j with rfl | h
    · simp only [List.take_zero, weighN] at hw
      omega
    · exact h
  have hd : weighN (l.drop j) ≤ 1021 := by
    have h := weighN_append (l.take j) (l.drop j)
    rw [List.take_append_drop] at h
    omega
  have hk := cutTo_best (sideN l 0 0) l.length j hj0 hj
  have hjs : sideN l 0 0 j ≤ 1021 := by
    unfold sideN
    simp only [Nat.mul_zero, Nat.add_zero]
    omega
  have hK : sideN l 0 0 (cutK true l) ≤ 1021 := by
    have e : cutK true l = cutTo (sideN l 0 0) l.length := rfl
    rw [e]
    omega
  unfold sideN at hK
  simp only [Nat.mul_zero, Nat.add_zero] at hK
  exact ⟨by omega, by omega, by omega⟩
end Go.Proofs.Ytnjdmaeoebihpaa
