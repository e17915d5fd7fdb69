/-
  What a right node's page says: the node. No program in sight.
-/
import Derived.Test.YtnjdmaeoebihpaaPgNodes
namespace Go.Proofs.Ytnjdmaeoebihpaa
open Go.RowKit Go.ChangeShapes Go.WideShapes Go.ChangeAt Go.Proofs.YtnjdmaeoebihpaaW.PrintWords Go.Proofs.YtnjdmaeoebihpaaW.PrintLast Go.Proofs.YtnjdmaeoebihpaaW.PrintMore
set_option linter.unusedVariables false
set_option linter.unusedSimpArgs false

theorem byteAt_mid (X Y : List UInt8) (b : UInt8) : byteAt (X ++ b :: Y) X.length = b.toNat := by
  simp [byteAt]
theorem two_mid (X Y : List UInt8) (n : Nat) (hn : n < 65536) {j : Nat} (hj : X.length = j) : two (X ++ (by2 n ++ Y)) j = n := by
  subst hj
  have h1 : byteAt (X ++ (by2 n ++ Y)) X.length = (UInt8.ofNat (n / 256)).toNat := byteAt_mid X _ _
  have h2 : byteAt (X ++ (by2 n ++ Y)) (X.length + 1) = (UInt8.ofNat (n % 256)).toNat := by
    have := byteAt_mid (X ++ [UInt8.ofNat (n / 256)]) Y (UInt8.ofNat (n % 256))
    rw [List.append_assoc, List.length_append] at this
    exact this
  rw [two, h1, h2]
  simp
  omega
theorem four_mid (X Y : List UInt8) (n : Nat) (hn : n < 65536) {j : Nat} (hj : X.length = j) : four (X ++ ((by2 0 ++ by2 n) ++ Y)) j = n := by
  have h1 : two (X ++ ((by2 0 ++ by2 n) ++ Y)) j = 0 := by
    rw [List.append_assoc]
    exact two_mid X _ 0 (by omega) hj
  have h2 : two (X ++ ((by2 0 ++ by2 n) ++ Y)) (j + 2) = n := by
    have e : X ++ ((by2 0 ++ by2 n) ++ Y) = (X ++ by2 0) ++ (by2 n ++ Y) := by simp only [List.append_assoc]
    rw [e]
    exact two_mid _ _ n hn (by rw [List.length_append, by2_len, hj])
  rw [four, h1, h2]
  omega
theorem kidsTo_split (ks : List Int) (m j : Nat) (hj : j < m) : ∃ R, kidsTo ks m = kidsTo ks j ++ ((by2 0 ++ by2 (kid ks j)) ++ R) := by
  induction m with
  | zero => omega
  | succ m ih =>
    by_cases h : j < m
    · obtain ⟨R, hR⟩ := ih h
      exact ⟨R ++ (by2 0 ++ by2 (kid ks m)), by rw [kidsTo, hR]; simp only [List.append_assoc]⟩
    · obtain rfl : j = m := by omega
      exact ⟨[], by rw [kidsTo, List.append_nil]⟩
theorem slotsTo_split (l : List ByteArray) (m j : Nat) (hj : j < m) : ∃ R, slotsTo l m = slotsTo l j ++ (by2 (1024 - (tailTo l (j + 1)).length) ++ (by2 (rec l j).size ++ R)) := by
  induction m with
  | zero => omega
  | succ m ih =>
    by_cases h : j < m
    · obtain ⟨R, hR⟩ := ih h
      refine ⟨R ++ (by2 (1024 - (tailTo l (m + 1)).length) ++ by2 (rec l m).size), ?_⟩
      rw [show slotsTo l (m + 1) = slotsTo l m ++ (by2 (1024 - (tailTo l (m + 1)).length) ++ by2 (rec l m).size) from rfl, hR]
      simp only [List.append_assoc]
    · obtain rfl : j = m := by omega
      exact ⟨[], by rw [List.append_nil]; rfl⟩
theorem tailTo_split (l : List ByteArray) (m j : Nat) (hj : j ≤ m) : ∃ R, tailTo l m = R ++ tailTo l j := by
  induction m with
  | zero =>
    obtain rfl : j = 0 := by omega
    exact ⟨[], rfl⟩
  | succ m ih =>
    by_cases h : j ≤ m
    · obtain ⟨R, hR⟩ := ih h
      exact ⟨(rec l m).data.toList ++ R, by rw [tailTo, hR, List.append_assoc]⟩
    · obtain rfl : j = m + 1 := by omega
      exact ⟨[], rfl⟩
theorem drop_take_mid (P R T : List UInt8) {a n : Nat} (ha : P.length = a) (hn : R.length = n) : ((P ++ (R ++ T)).drop a).take n = R := by
  subst ha hn
  rw [List.drop_left, List.take_left]
section
variable {leaf : Bool} {l : List ByteArray} {ks : List Int}
theorem page_head : byteAt (pageB leaf l ks) 0 = if leaf = true then 1 else 2 := by
  cases leaf <;> rfl
theorem page_cnt (hn : l.length < 65536) : cnt (pageB leaf l ks) = l.length := by
  have e : pageB leaf l ks = [if leaf = true then 1 else 2] ++ (by2 l.length ++ (kidsTo ks ks.length ++ (slotsTo l l.length ++ (List.replicate (1024 - sizeN l ks) 0 ++ tailTo l l.length)))) := by
    simp only [pageB, headB, List.append_assoc, List.cons_append, List.nil_append]
  rw [cnt, e]
  exact two_mid _ _ _ hn rfl
theorem page_four (j : Nat) (hj : j < ks.length) (hk : kid ks j < 65536) : four (pageB leaf l ks) (3 + 4 * j) = kid ks j := by
  obtain ⟨R, hR⟩ := kidsTo_split ks ks.length j hj
  have e : pageB leaf l ks = (headB leaf l ++ kidsTo ks j) ++ ((by2 0 ++ by2 (kid ks j)) ++ (R ++ (slotsTo l l.length ++ (List.replicate (1024 - sizeN l ks) 0 ++ tailTo l l.length)))) := by
    simp only [pageB, hR, List.append_assoc]
  rw [e]
  exact four_mid _ _ _ hk (by rw [List.length_append, kidsTo_len, headB, List.length_cons, by2_len])
theorem page_slot (hz : sizeN l ks ≤ 1024) (j : Nat) (hj : j < l.length) : two (pageB leaf l ks) (3 + 4 * ks.length + 4 * j) = 1024 - (tailTo l (j + 1)).length ∧ two (pageB leaf l ks) (3 + 4 * ks.length + 4 * j + 2) = (rec l j).size := by
  obtain ⟨R, hR⟩ := slotsTo_split l l.length j hj
  have htw := tailTo_weigh l (j + 1) (by omega)
  have htl : (tailTo l (j + 1)).length = (rec l j).size + (tailTo l j).length := by rw [tailTo, List.length_append, data_len]
  unfold sizeN at hz
  have hlen : (headB leaf l ++ kidsTo ks ks.length ++ slotsTo l j).length = 3 + 4 * ks.length + 4 * j := by
    rw [List.length_append, List.length_append, kidsTo_len, slotsTo_len, headB, List.length_cons, by2_len]
  have e : pageB leaf l ks = (headB leaf l ++ kidsTo ks ks.length ++ slotsTo l j) ++ (by2 (1024 - (tailTo l (j + 1)).length) ++ (by2 (rec l j).size ++ (R ++ (List.replicate (1024 - sizeN l ks) 0 ++ tailTo l l.length)))) := by
    simp only [pageB, hR, List.append_assoc]
  constructor
  · rw [e]
    exact two_mid _ _ _ (by omega) hlen
  · have e2 : pageB leaf l ks = (headB leaf l ++ kidsTo ks ks.length ++ slotsTo l j ++ by2 (1024 - (tailTo l (j + 1)).length)) ++ (by2 (rec l j).size ++ (R ++ (List.replicate (1024 - sizeN l ks) 0 ++ tailTo l l.length))) := by
      rw [e]; simp only [List.append_assoc]
    rw [e2]
    exact two_mid _ _ _ (by omega) (by rw [List.length_append, hlen, by2_len])
theorem page_txt (hz : sizeN l ks ≤ 1024) (j : Nat) (hj : j < l.length) : txt (pageB leaf l ks) (1024 - (tailTo l (j + 1)).length) (rec l j).size = rec l j := by
  obtain ⟨R, hR⟩ := tailTo_split l l.length (j + 1) (by omega)
  have hL := pageB_len leaf l ks hz
  have htl : (tailTo l (j + 1)).length = (rec l j).size + (tailTo l j).length := by rw [tailTo, List.length_append, data_len]
  have e : pageB leaf l ks = (headB leaf l ++ kidsTo ks ks.length ++ slotsTo l l.length ++ (List.replicate (1024 - sizeN l ks) 0 ++ R)) ++ ((rec l j).data.toList ++ tailTo l j) := by
    simp only [pageB, hR, tailTo, List.append_assoc]
  have hlen : (headB leaf l ++ kidsTo ks ks.length ++ slotsTo l l.length ++ (List.replicate (1024 - sizeN l ks) 0 ++ R)).length = 1024 - (tailTo l (j + 1)).length := by
    have h := congrArg List.length e
    rw [hL, List.length_append (bs := _ ++ tailTo l j), List.length_append (bs := tailTo l j), data_len] at h
    omega
  rw [txt, e, drop_take_mid _ _ _ hlen (data_len _)]
theorem back (leaf : Bool) (l : List ByteArray) (ks : List Int) (hs : Shp leaf l ks) (hz : sizeN l ks ≤ 1024) : Back leaf l ks := by
  have htw := tailTo_weigh l l.length (Nat.le_refl _)
  simp only [List.drop_length, weighN] at htw
  have hz' := hz
  unfold sizeN at hz'
  have hc : cnt (pageB leaf l ks) = l.length := page_cnt (by omega)
  have hl : lfOf (pageB leaf l ks) = leaf := by
    rw [lfOf, isLeaf, page_head]
    cases leaf <;> rfl
  have hkn : kidN (pageB leaf l ks) = ks.length := by
    have h := hs.len
    rw [kidN, page_head, hc]
    cases leaf with
    | true => exact h.symm
    | false => exact h.symm
  have hks : ∀ j, j ≤ ks.length → kidsR (pageB leaf l ks) j = ks.take j := by
    intro j
    induction j with
    | zero => intro _; rfl
    | succ j ih =>
      intro hj
      have h3 := hs.kids ks[j] (List.getElem_mem (by omega))
      have h2 : kid ks j = (ks[j]).toNat := by simp [kid, show j < ks.length by omega]
      rw [kidsR, ih (by omega), page_four j (by omega) (by omega), List.take_succ_eq_append_getElem (by omega)]
      congr 2
      omega
  have ha : at2 (pageB leaf l ks) = 3 + 4 * ks.length := by rw [at2, hkn]
  have hrs : ∀ j, j ≤ l.length → recsR (pageB leaf l ks) j = l.take j := by
    intro j
    induction j with
    | zero => intro _; rfl
    | succ j ih =>
      intro hj
      have hp := page_slot (leaf := leaf) hz j (by omega)
      rw [recsR, ih (by omega), ha, hp.1, hp.2, page_txt hz j (by omega), List.take_succ_eq_append_getElem (by omega)]
      congr 2
      simp [rec, show j < l.length by omega]
  have hlo : lsOf (pageB leaf l ks) = l := by rw [lsOf, hc, hrs _ (Nat.le_refl _), List.take_length]
  have hko : ksOf (pageB leaf l ks) = ks := by rw [ksOf, hkn, hks _ (Nat.le_refl _), List.take_length]
  refine ⟨⟨⟨?_, fun i hi => ?_⟩, by rw [hl, hlo, hko]; exact hs, by rw [hlo, hko]; exact hz, by rw [hl, hlo, hko]⟩, hl, hlo, hko⟩
  · rw [ha, hc]
    omega
  · rw [hc] at hi
    have hp := page_slot (leaf := leaf) hz i hi
    have htl : (tailTo l (i + 1)).length = (rec l i).size + (tailTo l i).length := by rw [tailTo, List.length_append, data_len]
    have htw2 := tailTo_weigh l (i + 1) (by omega)
    rw [ha, hp.1, hp.2]
    omega
end
theorem pageNodes_walk {H : Type} {enc : TypeId × Value → H} {sp0 : Nat → Bool} {hd0 : Bool} {d0 : DataW H} {p0 : List MemPlace} {b0 : Nat} (v0 : Value) (w : World)
    (hv0 : Value.okWide Try.prog w .any b0 25 v0) (h0 : DataW.Trod enc Try.prog w 0 sp0 hd0 25 v0 d0 p0) :
    Calls Try.prog 5 #[v0] w fun e w' => e = .returned (.bool true) ∧ Below w.heap.size w w' := by
  obtain ⟨leaf, A, c, l, B, d, ks, rfl, hr, -⟩ := open_node hv0 h0
  exact pageNodes_any leaf A c l B d ks w hr back
end Go.Proofs.Ytnjdmaeoebihpaa
