/-
  The document's numbers in bytes; bytes put behind bytes.
-/
import Derived.Test.YtnjdmaeoebihpaaPgDecode
import Derived.Lib.ConvBytes
namespace Go.Proofs.Ytnjdmaeoebihpaa
open Go.RowKit Go.Proofs.YtnjdmaeoebihpaaW.PrintWords Go.Proofs.YtnjdmaeoebihpaaW.PrintLast Go.Proofs.YtnjdmaeoebihpaaW.PrintMore
set_option linter.unusedVariables false
set_option linter.unusedSimpArgs false

/-- A number in so many bytes. -/
def numB (n : Nat) : Nat → List UInt8
  | 0 => []
  | k + 1 => numB (n / 256) k ++ [UInt8.ofNat (n % 256)]
theorem numB_len (n k : Nat) : (numB n k).length = k := by
  induction k generalizing n with
  | zero => rfl
  | succ k ih => simp [numB, ih]
theorem ofNat_mod (n : Nat) : UInt8.ofNat (n % 256) = UInt8.ofNat n := by
  apply UInt8.toNat_inj.1
  simp
theorem numB_two (n : Nat) : numB n 2 = by2 n := by
  simp [numB, by2, ofNat_mod]
theorem numB_four (n : Nat) (hn : n < 65536) : numB n 4 = by2 0 ++ by2 n := by
  have h1 : n / 256 / 256 = 0 := by omega
  simp [numB, by2, ofNat_mod, h1]
/-- Bytes that lie at the head of a block. -/
def Row8 (w : World) (base : Nat) (g : Nat) (bs : List UInt8) : Prop := base ≤ g ∧ ∃ cs fr, w.heap[g]? = some (.cells cs 5 fr) ∧ cs.toList.take bs.length = bc bs
def OwnB (w : World) (base : Nat) (A : Option Addr) (c : Nat) (bs : List UInt8) : Prop := w.ownsRow base 5 1 (.slice A bs.length c) bs.length (bc bs)
theorem bc_one (bs : List UInt8) : ∀ u ∈ bc bs, u.oneCell' = true := fun u hu => by
  obtain ⟨b, _, rfl⟩ := List.mem_map.1 hu
  rfl
theorem Row8.src {w : World} {base g : Nat} {bs : List UInt8} (h : Row8 w base g bs) (c : Nat) : Src w (some ⟨g, 0, none⟩) bs.length c (bc bs) := by
  obtain ⟨_, cs, fr, hg, ht⟩ := h
  refine .inr ⟨_, rfl, fun j u hj => ?_⟩
  rw [Addr.add_lit, Nat.zero_add, cell_of_block hg, ← Array.getElem?_toList]
  rw [← ht, List.getElem?_take] at hj
  split at hj
  · exact hj
  · cases hj
theorem Row8.below {w w' : World} {base g k : Nat} {bs : List UInt8} (h : Row8 w base g bs) (hb : Below k w w') (hk : w.heap.size ≤ k) : Row8 w' base g bs := by
  obtain ⟨h1, cs, fr, hg, ht⟩ := h
  exact ⟨h1, cs, fr, (hb.block g (Nat.lt_of_lt_of_le (lt_of_block hg) hk)).trans hg, ht⟩
theorem Row8.grown {w w' : World} {base g : Nat} {row : Option Nat} {bs : List UInt8} (h : Row8 w base g bs) (hg : w.grownBy w' row) (hne : some g ≠ row) : Row8 w' base g bs := by
  obtain ⟨h1, cs, fr, hh, ht⟩ := h
  exact ⟨h1, cs, fr, (hg.block g (lt_of_block hh) hne).trans hh, ht⟩
theorem Row8.whole {w : World} {g : Nat} {bs : List UInt8} {fr : Nat × Nat} (h : w.heap[g]? = some (.cells (bc bs).toArray 5 fr)) {base : Nat} (hb : base ≤ g) : Row8 w base g bs :=
  ⟨hb, _, fr, h, by rw [List.toList_toArray, List.take_of_length_le (by simp [bc])]⟩
theorem elt_B : ∃ i0, Elt 39 5 (.int .u8 0) 1 1 i0 := by
  obtain ⟨i, h1, h2, h3, h4⟩ := info_B'
  exact ⟨i, und_B, h1, h2, h3, h4, rfl, by decide, by decide⟩
theorem OwnB.row {w : World} {base c : Nat} {A : Option Addr} {bs : List UInt8} (h : OwnB w base A c bs) (hn : bs ≠ []) : ∃ g, A = some ⟨g, 0, none⟩ ∧ Row8 w base g bs := by
  rcases h.2 with ⟨h1, h2⟩ | ⟨g, cap, cur, h1, hb, hg, _, _, _, ht⟩
  · exact absurd (List.eq_nil_of_length_eq_zero h2) hn
  · injection h1 with h1
    exact ⟨g, h1, hb, cur, _, hg, by rw [← ht, Nat.mul_one]⟩
/-- 'append(v, bytes...)', v of one's own at base. -/
theorem step_app {w : World} {base c m c2 : Nat} {A B : Option Addr} {xs ys : List UInt8} {ops : Array Oper} {rest : List Oper} {o : Oper} {x : Act} {Q : Exit → Act → World → Prop} (hgd : o.guard = none) (s t : Operand)
    (ho : o.op = .call { callee := .builtin .append, args := #[s, t], argTypes := #[39, 39] }) (hown : OwnB w base A c xs) {n : Nat} (hs : x.eval s = .slice A n c) (hn : xs.length = n) (ht : x.eval t = .slice B m c2) (hm : ys.length = m) (hc : Src w B m c2 (bc ys))
    (hle : n + m ≤ 1000000) (hbase : base ≤ w.heap.size)
    (hK : ∀ A' c' w2, OwnB w2 base A' c' (xs ++ ys) → w.grownBy w2 (Value.slice A n c).ownBlock → ((Value.slice A' (n + m) c').ownBlock = (Value.slice A n c).ownBlock ∨ (Value.slice A' (n + m) c').ownBlock = some w.heap.size) → wpList Try.prog ops Q rest (x.put o.dst (.slice A' (n + m) c')) w2) :
    wpList Try.prog ops Q (o :: rest) x w := by
  obtain ⟨i0, E⟩ := elt_B
  subst hn hm
  rcases hc with ⟨rfl, h2, rfl⟩ | ⟨ad, rfl, hc⟩
  · have hy : ys = [] := List.eq_nil_of_length_eq_zero h2
    subst hy
    refine wpList_plain hgd fun K hK' => ?_
    unfold Oper.wp execOp
    simp only [ho, resolve, invoke, builtin, Sem.run_bind, Sem.run_pure, Result.andThen_ok, List.map_toArray, List.map_cons, List.map_nil, hs, ht, List.length_nil, gapp_nil E hown]
    exact hK' _ _ (hK A c w (by rw [List.append_nil]; exact hown) (grown_refl _ _) (.inl rfl))
  · refine wpList_append_own_at _ hgd s t 39 ho base 5 i0 (.int .u8 0) 1 1 E.und E.info E.zero E.hsize E.hbytes E.zs E.pos _ xs.length (bc xs) hs hown ad ys.length c2 (bc ys) ht (by rw [bc_len, Nat.mul_one]) hc (bc_one ys) (by simp only [maxLen]; omega) (by omega) hbase ?_
    intro v' w2 ho2 hg _ hor
    obtain ⟨A', c', rfl⟩ := own_form ho2
    refine hK A' c' w2 ?_ hg hor
    unfold OwnB
    rw [List.length_append, bc_append]
    exact ho2
theorem exec_makeN (ρ : Operand → Value) (o : Oper) (x y : Operand) (ho : o.op = .makeSlice 39 x y) (n : Nat) (hx : ρ x = .int .i64 n) (hy : ρ y = .int .i64 n) (hn : n ≤ 1024) (w : World) :
    (execOp ρ o).run Try.prog w = .ok (.value (.slice (some ⟨w.heap.size, 0, none⟩) n n)) (w.alloc (.cells (bc (List.replicate n 0)).toArray 5)) := by
  obtain ⟨i, h1, h2, h3, h4⟩ := info_B'
  have h := run_makeSlice (P := Try.prog) w 39 5 i (.int .u8 0) und_B h1 h2 .i64 .i64 n n (by omega) (by omega) (by rw [h3]; omega) (by rw [h4]; omega) (by omega)
  rw [h3, Nat.mul_one, show (Value.int .u8 0).cells = #[.int .u8 0] from rfl, Int.toNat_natCast, made_zero] at h
  have e : lay [] n [] = (bc (List.replicate n 0)).toArray := by simp [lay]
  rw [e] at h
  unfold execOp
  simp only [ho, hx, hy, Sem.run_bind, h, Result.andThen_ok, Sem.run_pure]
theorem set_num (k : Nat) (T : List UInt8) (b : Nat) : ((bc (List.replicate (k + 1) 0 ++ T)).toArray.setIfInBounds k (.int .u8 ((UInt8.ofNat b).toNat : Int))) = (bc (List.replicate k 0 ++ (UInt8.ofNat b :: T))).toArray := by
  rw [List.setIfInBounds_toArray]
  congr 1
  have e : bc (List.replicate (k + 1) 0 ++ T) = bc (List.replicate k 0) ++ (.int .u8 0) :: bc T := by
    rw [List.replicate_succ', List.append_assoc, bc_append]
    rfl
  rw [e, bc_append, List.set_append, if_neg (by simp [bc])]
  simp [bc]
set_option maxRecDepth 100000 in
theorem number_any (n sz : Nat) (hn : n ≤ 1000000) (hsz : sz ≤ 8) (w : World) :
    Calls Try.prog 37 #[.int .i64 n, .int .i64 sz] w fun e w' => e = .returned (.slice (some ⟨w.heap.size, 0, none⟩) sz sz) ∧ Row8 w' w.heap.size w.heap.size (numB n sz) ∧ Below w.heap.size w w' := by
  go_enter Try.func37, Try.ntmps37
  go_upto_region 2 with (refine wpList_run rfl (exec_makeN _ _ _ _ rfl sz rfl rfl (by omega) _) ?_)
  have hW := heap_alloc_new w (.cells (bc (List.replicate sz 0)).toArray 5)
  have hB : Below w.heap.size w (w.alloc (.cells (bc (List.replicate sz 0)).toArray 5)) := (Below.refl _ _).alloc (Nat.le_refl _) _
  obtain ⟨w1, hw1⟩ : ∃ w1, w1 = w.alloc (.cells (bc (List.replicate sz 0)).toArray 5) := ⟨_, rfl⟩
  rw [← hw1] at hW hB ⊢
  clear hw1
  have HW := Lib.hid hW
  have HB := Lib.hid hB
  clear hW hB
  obtain ⟨g, hg⟩ : ∃ g, g = w.heap.size := ⟨_, rfl⟩
  rw [← hg] at HW ⊢
  have HG := Lib.hid hg
  clear hg
  go_wp2_with fail
  go_loopg [0, 6] sz (fun q m i wr => ∃ j k : Nat, ∃ T, j ≤ sz ∧ q = j ∧ k ≤ n ∧ m = .int .i64 k ∧ i = .int .i64 ((j : Int) - 1) ∧ Hid (numB n sz = numB k j ++ T) ∧ Hid (wr.heap[g]? = some (.cells (bc (List.replicate j 0 ++ T)).toArray 5)) ∧ Hid (Below w.heap.size w wr))
  case atStart =>
    refine ⟨sz, n, [], Nat.le_refl _, rfl, Nat.le_refl _, rfl, ?_, Lib.hid (by rw [List.append_nil]), ?_, HB⟩
    · go_num
    · rw [List.append_nil]
      exact HW
  case round =>
    obtain ⟨j, k, T, hj, hq, hk, rfl, rfl, HE, HC, HR⟩ := hrel
    cases j with
    | zero =>
      rw [show ((0 : Nat) : Int) - 1 = -1 from rfl]
      go_wp2_with fail
      go_ret
      have h1 := HC.out
      have h2 := HE.out
      rw [numB, List.nil_append] at h2
      rw [List.replicate_zero, List.nil_append, ← h2] at h1
      rw [← HG.out]
      exact ⟨rfl, Row8.whole h1 (Nat.le_refl _), by rw [HG.out]; exact HR.out⟩
    | succ j =>
      rw [show ((j + 1 : Nat) : Int) - 1 = (j : Int) by omega]
      have hc := cell_of_block HC.out j
      have hfr := free_of_block HC.out j
      have hcell : wr.cell? ⟨g, j, none⟩ = some (.int .u8 0) := by
        rw [hc]
        simp only [bc, List.getElem?_toArray, List.map_append, List.map_replicate]
        rw [List.getElem?_append_left (by simp), List.getElem?_replicate, if_pos (Nat.lt_succ_self _)]
        rfl
      clear hc
      have hjl : (j : Int) < (sz : Int) := by omega
      go_wp2_with fail
      rw [show (k : Int) / 256 = ((k / 256 : Nat) : Int) by omega, byte_lo]
      go_roundg j
      case measure => omega
      case rel =>
        refine ⟨j, k / 256, UInt8.ofNat (k % 256) :: T, by omega, rfl, by omega, rfl, rfl, ?_, ?_, ?_⟩
        · have h := HE.out
          rw [numB, List.append_assoc] at h
          exact h
        · have h := blk_set HC.out j (.int .u8 ((UInt8.ofNat (k % 256)).toNat : Int))
          rw [set_num] at h
          exact h
        · exact HR.out.setCell (p := ⟨g, j, none⟩) (by rw [HG.out]; exact Nat.le_refl _) _
end Go.Proofs.Ytnjdmaeoebihpaa
