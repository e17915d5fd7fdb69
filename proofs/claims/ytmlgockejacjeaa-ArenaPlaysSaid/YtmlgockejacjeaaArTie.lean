/-
  The reference's arena and the arena: one state.
-/
import Derived.Test.YtmlgockejacjeaaArDropB
namespace Go.Proofs.Ytmlgockejacjeaa
open Go.RowKit
set_option linter.unusedVariables false
set_option linter.unusedSimpArgs false

theorem rdrop_any {base r : Nat} {S : RfS} {own : Nat → Prop} {w : World} (h : RR base r S own w) (n : Int) (i : Nat) (hlen : S.L.length ≤ 100000) (hfl : S.free.length ≤ 100000) (hn : S.at_ n = some i) (hi : i < S.L.length) :
    Calls Try.prog 18 #[.pointer (some ⟨r, 0, none⟩), .int .i64 n] w fun e w' => e = .returned (.int .i64 0) ∧ ∃ own', RR base r { S with L := S.L.take i ++ S.L.drop (i + 1), free := S.free ++ [n] } own' w' ∧ Grows own own' w w' := by
  obtain ⟨lv, fv, hown, R⟩ := id h
  obtain ⟨A, cp, rfl⟩ := own_form R.lown
  have huniq : ∀ g' cp', (∃ fv', RRep base r S (.slice g' S.L.length cp') fv' w) → cp' = cp := by
    rintro g' cp' ⟨fv', R'⟩
    have h1 := R.blk
    rw [R'.blk] at h1
    simp at h1
    exact h1.1.2
  by_cases hc : cp = i + 1
  · exact rdrop_last h n i hlen hfl hn hi (fun g' cp' hR => (huniq g' cp' hR).trans hc)
  · exact rdrop_in h n i hlen hfl hn hi (fun g' cp' hR e => hc ((huniq g' cp' hR).symm.trans e))

/-- One state, told twice. -/
structure Tie (R : RfS) (S : ArS) : Prop where
  free : R.free = S.free
  next : R.next = (S.pages.length : Int) + 1
  quota : R.quota = S.quota
  len : (R.L.length : Int) = S.used
  nodup : (R.L.map (·.1)).Nodup
  mem : ∀ (n : Int) (s : ByteArray), (n, s) ∈ R.L ↔ ∃ b, S.page n = some b ∧ s = ⟨b.toArray⟩
theorem Tie.at_none {R : RfS} {S : ArS} (T : Tie R S) {n : Int} (h : S.page n = none) : R.at_ n = none := by
  refine Go.Proofs.Ytmlgockejacjeaa.at_none fun k q _ hk => ?_
  refine beq_eq_false_iff_ne.2 fun e => ?_
  subst e
  obtain ⟨b, hb, _⟩ := (T.mem q.1 q.2).1 (List.mem_of_getElem? hk)
  rw [h] at hb; cases hb
theorem Tie.at_some {R : RfS} {S : ArS} (T : Tie R S) {n : Int} {b : List UInt8} (h : S.page n = some b) : ∃ i, R.at_ n = some i ∧ R.L[i]? = some (n, ⟨b.toArray⟩) := by
  have hm := (T.mem n ⟨b.toArray⟩).2 ⟨b, h, rfl⟩
  obtain ⟨i, hi⟩ := List.mem_iff_getElem?.1 hm
  refine ⟨i, Go.Proofs.Ytmlgockejacjeaa.at_some hi (by simp) (fun k q hk hq => beq_eq_false_iff_ne.2 fun e => ?_), hi⟩
  have h1 : (R.L.map (·.1))[k]? = some n := by rw [List.getElem?_map, hq]; simp [e]
  have h2 : (R.L.map (·.1))[i]? = some n := by rw [List.getElem?_map, hi]; rfl
  obtain ⟨k1, k2⟩ := List.getElem?_eq_some_iff.1 h1
  obtain ⟨i1, i2⟩ := List.getElem?_eq_some_iff.1 h2
  exact (List.pairwise_iff_getElem.1 T.nodup) k i k1 i1 hk (k2.trans i2.symm)
theorem Tie.isSome {R : RfS} {S : ArS} (T : Tie R S) (n : Int) : (R.at_ n).isSome = (S.page n).isSome := by
  rcases hp : S.page n with _ | b
  · rw [T.at_none hp]; rfl
  · obtain ⟨i, hi, _⟩ := T.at_some hp
    rw [hi]; rfl
theorem Tie.upto {R : RfS} {S : ArS} (T : Tie R S) (i : Nat) : R.upto i = S.upto i := by
  unfold RfS.upto ArS.upto
  congr 1
  exact List.filter_congr fun j _ => T.isSome _
/-- A page that turned. -/
theorem page_turn (S : ArS) (n : Int) (h1 : 1 ≤ n) (h2 : (n - 1).toNat < S.pages.length) (p : Option (List UInt8)) (fr : List Int) (q m : Int) : ArS.page ⟨S.pages.set (n - 1).toNat p, fr, q⟩ m = if m = n then p else S.page m := by
  by_cases hm : m = n
  · subst hm
    rw [if_pos rfl]
    unfold ArS.page
    rw [if_pos h1]
    show ((S.pages.set (m - 1).toNat p)[(m - 1).toNat]?).join = p
    rw [List.getElem?_set_self h2]
    rfl
  · rw [if_neg hm]
    unfold ArS.page
    by_cases h3 : 1 ≤ m
    · rw [if_pos h3, if_pos h3]
      show ((S.pages.set (n - 1).toNat p)[(m - 1).toNat]?).join = _
      rw [List.getElem?_set_ne (by omega)]
    · rw [if_neg h3, if_neg h3]
theorem fst_inj {l : List (Int × ByteArray)} (hn : (l.map (·.1)).Nodup) {i j : Nat} {p q : Int × ByteArray} (hp : l[i]? = some p) (hq : l[j]? = some q) (e : p.1 = q.1) : i = j := by
  have h1 : (l.map (·.1))[i]? = some q.1 := by rw [List.getElem?_map, hp]; simp [e]
  have h2 : (l.map (·.1))[j]? = some q.1 := by rw [List.getElem?_map, hq]; rfl
  obtain ⟨i1, i2⟩ := List.getElem?_eq_some_iff.1 h1
  obtain ⟨j1, j2⟩ := List.getElem?_eq_some_iff.1 h2
  rcases Nat.lt_trichotomy i j with h | h | h
  · exact absurd (i2.trans j2.symm) ((List.pairwise_iff_getElem.1 hn) i j i1 j1 h)
  · exact h
  · exact absurd (j2.trans i2.symm) ((List.pairwise_iff_getElem.1 hn) j i j1 i1 h)
theorem Tie.put {R : RfS} {S : ArS} (T : Tie R S) {n : Int} {b : List UInt8} (h : S.page n = some b) {i : Nat} (hi : R.L[i]? = some (n, ⟨b.toArray⟩)) (l : List UInt8) : Tie { R with L := R.L.set i (n, ⟨l.toArray⟩) } (S.put n l) := by
  obtain ⟨h1, h2⟩ := page_some h
  have hlt := (List.getElem?_eq_some_iff.1 h2).1
  have hil := (List.getElem?_eq_some_iff.1 hi).1
  have hmap : (R.L.set i (n, ⟨l.toArray⟩)).map (·.1) = R.L.map (·.1) := by
    rw [List.map_set]
    refine List.ext_getElem? fun k => ?_
    rw [List.getElem?_set]
    split
    · rename_i e
      subst e
      rw [List.getElem?_map, hi]
      simp [hil]
    · rfl
  refine ⟨T.free, by simp [ArS.put]; exact T.next, T.quota, by rw [put_used]; simp; exact T.len, by rw [hmap]; exact T.nodup, fun m s => ?_⟩
  show (m, s) ∈ R.L.set i (n, ⟨l.toArray⟩) ↔ ∃ b', ArS.page ⟨S.pages.set (n - 1).toNat (some l), S.free, S.quota⟩ m = some b' ∧ s = ⟨b'.toArray⟩
  rw [page_turn S n h1 hlt]
  constructor
  · intro hm
    obtain ⟨k, hk⟩ := List.mem_iff_getElem?.1 hm
    rw [List.getElem?_set] at hk
    by_cases e : i = k
    · subst e
      rw [if_pos rfl, if_pos hil] at hk
      injection hk with hk
      injection hk with e1 e2
      subst e1 e2
      exact ⟨l, by rw [if_pos rfl], rfl⟩
    · rw [if_neg e] at hk
      have hne : m ≠ n := fun e2 => e (fst_inj T.nodup hi hk e2.symm)
      rw [if_neg hne]
      exact (T.mem m s).1 (List.mem_of_getElem? hk)
  · rintro ⟨b', hb', rfl⟩
    by_cases e : m = n
    · subst e
      rw [if_pos rfl] at hb'
      injection hb' with hb'
      subst hb'
      exact List.mem_iff_getElem?.2 ⟨i, by rw [List.getElem?_set_self hil]⟩
    · rw [if_neg e] at hb'
      obtain ⟨k, hk⟩ := List.mem_iff_getElem?.1 ((T.mem m ⟨b'.toArray⟩).2 ⟨b', hb', rfl⟩)
      refine List.mem_iff_getElem?.2 ⟨k, ?_⟩
      rw [List.getElem?_set_ne (fun e2 => ?_)]
      · exact hk
      · subst e2
        rw [hi] at hk
        injection hk with hk
        injection hk with e1 _
        exact e e1.symm
theorem page_more (S : ArS) (p : List UInt8) (fr : List Int) (q m : Int) : ArS.page ⟨S.pages ++ [some p], fr, q⟩ m = if m = (S.pages.length : Int) + 1 then some p else S.page m := by
  by_cases hm : m = (S.pages.length : Int) + 1
  · subst hm
    rw [if_pos rfl]
    unfold ArS.page
    rw [if_pos (by omega), show ((S.pages.length : Int) + 1 - 1).toNat = S.pages.length from by omega]
    simp
  · rw [if_neg hm]
    unfold ArS.page
    by_cases h3 : 1 ≤ m
    · rw [if_pos h3, if_pos h3]
      show ((S.pages ++ [some p])[(m - 1).toNat]?).join = _
      by_cases h4 : (m - 1).toNat < S.pages.length
      · rw [List.getElem?_append_left h4]
      · rw [List.getElem?_eq_none (by simp; omega), List.getElem?_eq_none (by omega)]
    · rw [if_neg h3, if_neg h3]
theorem Tie.push {R : RfS} {S S' : ArS} (T : Tie R S) {n : Int} {z : List UInt8} (hn : S.page n = none) (hp : ∀ m, S'.page m = if m = n then some z else S.page m) {fr : List Int} {nx : Int} (h1 : fr = S'.free) (h2 : nx = (S'.pages.length : Int) + 1) (h3 : S'.quota = S.quota) (h4 : S'.used = S.used + 1) :
    Tie ⟨R.L ++ [(n, ⟨z.toArray⟩)], fr, nx, R.quota⟩ S' := by
  refine ⟨h1, h2, T.quota.trans h3.symm, ?_, ?_, fun m s => ?_⟩
  · have := T.len
    rw [h4]
    simp
    omega
  · show ((R.L ++ [(n, (⟨z.toArray⟩ : ByteArray))]).map (·.1)).Nodup
    rw [List.map_append, List.nodup_append]
    refine ⟨T.nodup, by simp, fun a ha b hb e => ?_⟩
    simp at hb
    subst hb; subst e
    obtain ⟨⟨a', s⟩, hm, rfl⟩ := List.mem_map.1 ha
    obtain ⟨b', hb', _⟩ := (T.mem _ _).1 hm
    rw [hn] at hb'; cases hb'
  · show (m, s) ∈ R.L ++ [(n, (⟨z.toArray⟩ : ByteArray))] ↔ _
    rw [hp, List.mem_append, T.mem]
    by_cases e : m = n
    · subst e
      rw [if_pos rfl, hn]
      simp
    · rw [if_neg e]
      simp [e]
theorem Tie.pull {R : RfS} {S : ArS} (T : Tie R S) {n : Int} {b : List UInt8} (h : S.page n = some b) {i : Nat} (hi : R.L[i]? = some (n, ⟨b.toArray⟩)) : Tie ⟨R.L.take i ++ R.L.drop (i + 1), R.free ++ [n], R.next, R.quota⟩ (S.drop n) := by
  obtain ⟨h1, h2⟩ := page_some h
  have hlt := (List.getElem?_eq_some_iff.1 h2).1
  obtain ⟨hil, hie⟩ := List.getElem?_eq_some_iff.1 hi
  have he : R.L.eraseIdx i = R.L.take i ++ R.L.drop (i + 1) := List.eraseIdx_eq_take_drop_succ ..
  refine ⟨by show R.free ++ [n] = S.free ++ [n]; rw [T.free], by simp [ArS.drop]; exact T.next, T.quota, ?_, ?_, fun m s => ?_⟩
  · have := T.len
    rw [drop_used]
    show ((R.L.take i ++ R.L.drop (i + 1)).length : Int) = _
    rw [List.length_append, List.length_take, List.length_drop]
    omega
  · show ((R.L.take i ++ R.L.drop (i + 1)).map (·.1)).Nodup
    rw [← he]
    exact List.Nodup.sublist ((List.eraseIdx_sublist R.L i).map _) T.nodup
  · show (m, s) ∈ R.L.take i ++ R.L.drop (i + 1) ↔ ∃ b', ArS.page ⟨S.pages.set (n - 1).toNat none, S.free ++ [n], S.quota⟩ m = some b' ∧ s = ⟨b'.toArray⟩
    rw [page_turn S n h1 hlt, ← he, List.mem_eraseIdx_iff_getElem?]
    constructor
    · rintro ⟨k, hki, hk⟩
      have hne : m ≠ n := fun e2 => hki (fst_inj T.nodup hk hi e2)
      rw [if_neg hne]
      exact (T.mem m s).1 (List.mem_of_getElem? hk)
    · rintro ⟨b', hb', rfl⟩
      by_cases e : m = n
      · rw [if_pos e] at hb'; cases hb'
      · rw [if_neg e] at hb'
        obtain ⟨k, hk⟩ := List.mem_iff_getElem?.1 ((T.mem m ⟨b'.toArray⟩).2 ⟨b', hb', rfl⟩)
        refine ⟨k, fun e2 => ?_, hk⟩
        subst e2
        rw [hi] at hk
        injection hk with hk
        injection hk with e1 _
        exact e e1.symm
end Go.Proofs.Ytmlgockejacjeaa
