/-
  The reference's arena: Drop of a number in use.
-/
import Derived.Test.YtmlgockejacjeaaArRefOps
import Derived.Deep.RegionLaw
namespace Go.Proofs.Ytmlgockejacjeaa
open Go.RowKit
set_option linter.unusedVariables false
set_option linter.unusedSimpArgs false

/-- 'append(v, row...)', v of one's own at base, in a region that draws. -/
theorem reg_app {T e : TypeId} {z : Value} {size bytes : Nat} {i0 : TypeInfo} (E : Elt T e z size bytes i0) {w : World} {base n m c : Nat} {v : Value} {ad : Addr} {xs news : List Value} {ops : Array Oper} {o : Oper} {x : Act} {K : Act → World → Prop} {Q : Exit → Act → World → Prop} {Z : Prop} (hgd : o.guard = none) (s t : Operand)
    (ho : o.op = .call { callee := .builtin .append, args := #[s, t], argTypes := #[T, T] }) (hown : w.ownsRow base e size v n xs) (hs : x.eval s = v) (ht : x.eval t = .slice (some ad) m c)
    (hl : news.length = m * size) (hc : ∀ j u, news[j]? = some u → w.cell? (ad.add j) = some u) (h1 : ∀ u ∈ news, u.oneCell' = true) (hn : n ≤ 1000000 ∧ m ≤ 1000000) (hbase : base ≤ w.heap.size)
    (hK : ∀ A' c' w2, w2.ownsRow base e size (.slice A' (n + m) c') (n + m) (xs ++ news) → Below base w w2 → K (x.put o.dst (.slice A' (n + m) c')) w2) :
    if Region.wanted o (yielded ops x.tmps) = true then Oper.wp Try.prog o x w K Q else Z := by
  have hw : Region.wanted o (yielded ops x.tmps) = true := by simp [Region.wanted, hgd]
  rw [if_pos hw]
  have hbytes : (n + m) * bytes ≤ 2000000 * 1000 := Nat.mul_le_mul (by omega) E.small
  refine wp_append_own w s t T ho base e i0 z size bytes E.und E.info E.zero E.hsize E.hbytes E.zs E.pos v n xs hs hown ad m c news ht hl hc h1 (by simp only [maxLen]; omega) (by omega) hbase ?_
  intro v' w2 ho2 hg _
  obtain ⟨A', c', rfl⟩ := own_form ho2
  exact hK A' c' w2 ho2 ((Below.refl _ _).grown hg hbase (fun k hk => (hown.lt k hk).1))

set_option maxHeartbeats 4000000 in
theorem rdrop_in {base r : Nat} {S : RfS} {own : Nat → Prop} {w : World} (h : RR base r S own w) (n : Int) (i : Nat) (hlen : S.L.length ≤ 100000) (hfl : S.free.length ≤ 100000) (hn : S.at_ n = some i) (hi : i < S.L.length) (hce : ∀ g cp, (∃ fv, RRep base r S (.slice g S.L.length cp) fv w) → ¬ cp = i + 1) :
    Calls Try.prog 18 #[.pointer (some ⟨r, 0, none⟩), .int .i64 n] w fun e w' => e = .returned (.int .i64 0) ∧ ∃ own', RR base r { S with L := S.L.take i ++ S.L.drop (i + 1), free := S.free ++ [n] } own' w' ∧ Grows own own' w w' := by
  obtain ⟨i0, EG⟩ := elt_G
  obtain ⟨i1, EI⟩ := elt_I
  have hcall := Lib.hid (rat_any h n hlen)
  have e1 : S.atI n = (i : Int) := by unfold RfS.atI; rw [hn]
  rw [e1] at hcall
  obtain ⟨lv, fv, rfl, R⟩ := h
  obtain ⟨q0, q1, q2, q3, y0, y1, y2, y3, hl⟩ := four_of_block R.blk
  have hrow : ∃ g cp, lv = .slice (some ⟨g, 0, none⟩) S.L.length cp ∧ S.L.length ≤ cp := by
    rcases R.lown.2 with ⟨_, h2⟩ | ⟨g, cap, cur, h1, _, _, hc, _⟩
    · omega
    · exact ⟨g, cap, h1, hc⟩
  obtain ⟨g, cp, rfl, hcp⟩ := hrow
  have hne := hce _ _ ⟨_, R⟩
  clear hce
  obtain ⟨B, cf, rfl⟩ := own_form R.fown
  have HR := Lib.hid R
  have hpl := pcells_len S.L
  have H1 : Hid ((pcells (S.L.take i)).length = i * 2) := (by rw [pcells_len, List.length_take]; omega : (pcells (S.L.take i)).length = i * 2)
  have hsplit : pcells S.L = pcells (S.L.take i) ++ pcells (S.L.drop i) := by rw [← pcells_append, List.take_append_drop]
  have HC1 : Hid (∀ j u, (pcells (S.L.take i))[j]? = some u → w.cell? ⟨g, j, none⟩ = some u) := (fun j u hj => by
    have hj' := (List.getElem?_eq_some_iff.1 hj).1
    have h2 := R.lown.cells (g := g) rfl j u (by rw [hsplit, List.getElem?_append_left hj']; exact hj)
    rwa [Addr.add_lit, Nat.zero_add] at h2 : ∀ j u, (pcells (S.L.take i))[j]? = some u → w.cell? ⟨g, j, none⟩ = some u)
  have H2 : Hid ((pcells (S.L.drop (i + 1))).length = (S.L.length - (i + 1)) * 2) := (by rw [pcells_len, List.length_drop] : (pcells (S.L.drop (i + 1))).length = (S.L.length - (i + 1)) * 2)
  have HC2 : Hid (∀ j u, (pcells (S.L.drop (i + 1)))[j]? = some u → w.cell? ⟨g, (i + 1) * 2 + j, none⟩ = some u) := (fun j u hj => by
    have hs2 : pcells S.L = pcells (S.L.take (i + 1)) ++ pcells (S.L.drop (i + 1)) := by rw [← pcells_append, List.take_append_drop]
    have hl2 : (pcells (S.L.take (i + 1))).length = (i + 1) * 2 := by rw [pcells_len, List.length_take]; omega
    have h2 := R.lown.cells (g := g) rfl ((i + 1) * 2 + j) u (by rw [hs2, List.getElem?_append_right (by omega), hl2, Nat.add_sub_cancel_left]; exact hj)
    rwa [Addr.add_lit, Nat.zero_add] at h2 : ∀ j u, (pcells (S.L.drop (i + 1)))[j]? = some u → w.cell? ⟨g, (i + 1) * 2 + j, none⟩ = some u)
  clear R hn e1 hpl hsplit
  have b1 : (0 : Int) ≤ (i : Int) ∧ (i : Int) ≤ (cp : Int) := by omega
  have b2 : (0 : Int) ≤ (i : Int) + 1 ∧ (i : Int) + 1 ≤ (S.L.length : Int) := by omega
  have w1 : IntKind.wrap .i64 ((i : Int) + 1) = (i : Int) + 1 := by rw [IntKind.wrap_i64]; omega
  have w2 : IntKind.wrap .i64 (i : Int) = (i : Int) := by rw [IntKind.wrap_i64]; omega
  go_enter Try.func18, Try.ntmps18
  go_wp2_with fail
  refine hcall.out.mono ?_
  rintro e w2 ⟨rfl, rfl⟩
  go_wp2_with fail
  have HRD : Hid (RRep base r S (.slice (some ⟨g, 0, none⟩) S.L.length cp) (.slice B S.free.length cf) w.drew) := HR.out.stay fun k hk => rfl
  have HOW : Hid (World.ownsRow (w.alloc (.cells #[] 46)).drew w.heap.size 46 2 (.slice (some ⟨w.heap.size, 0, none⟩) 0 0) 0 []) := World.ownsRow_made w #[] 0 (Nat.le_refl _) (by simp [maxLen]) (by simp)
  have HI : Hid (Below w.heap.size w.drew (w.alloc (.cells #[] 46)).drew) := (Below.refl _ w.drew).alloc (Nat.le_refl _) _
  have hqa : (w.alloc (.cells #[] 46)).drew.cell? ⟨r, 0, none⟩ = some (.slice (some ⟨g, 0, none⟩) S.L.length cp) := cell_of_block (blk_alloc HR.out.blk _) 0
  go_region_law
    (first
      | (refine reg_app EG (w := (w.alloc (.cells #[] 46)).drew) rfl _ _ rfl HOW.out rfl rfl H1.out (fun j u hj => ?_) (pcells_one _) ⟨by omega, by omega⟩ HI.out.size ?_; (rw [Addr.add_lit, Nat.zero_add]; exact (World.cell?_of_block (w := w) (a := ⟨g, j, none⟩) (HI.out.block g (World.block_lt_of_cell? w _ (HC1.out j u hj)))).trans (HC1.out j u hj)); intro A3 c3 w3 ho hb; simp only [Nat.zero_add, List.nil_append] at ho; have HO3 := Lib.hid ho; have HK3 := Lib.hid (HI.out.trans hb); obtain ⟨x0, x1, x2, x3, u0, u1, u2, u3, lx⟩ := four_of_block (((HI.out.trans hb).block r hl).trans HR.out.blk); clear ho hb)
      | (refine reg_app EG (w := w3) rfl _ _ rfl HO3.out rfl rfl H2.out (fun j u hj => ?_) (pcells_one _) ⟨by omega, by omega⟩ HK3.out.size ?_; (rw [Addr.add_lit]; exact (World.cell?_of_block (w := w) (a := ⟨g, (i + 1) * 2 + j, none⟩) (HK3.out.block g (World.block_lt_of_cell? w _ (HC2.out j u hj)))).trans (HC2.out j u hj)); intro A4 c4 w4 ho hb; have HO4 := Lib.hid ho; have HK4 := Lib.hid (HK3.out.trans hb); obtain ⟨z0, z1, z2, z3, v0, v1, v2, v3, lz⟩ := four_of_block (((HK3.out.trans hb).block r hl).trans HR.out.blk); clear ho hb))
  all_goals
    have hLl : (S.L.take i ++ S.L.drop (i + 1)).length = i + (S.L.length - (i + 1)) := by rw [List.length_append, List.length_take, List.length_drop]; omega
    obtain ⟨R2, G2⟩ := HRD.out.lset (w := w.drew) (w' := w4) (L' := S.L.take i ++ S.L.drop (i + 1)) (lv' := .slice A4 (i + (S.L.length - (i + 1))) c4) HK4.out (by
      have := HO4.out
      rw [pcells_append, hLl]
      exact this)
    have HR2 := Lib.hid R2
    have HG2 := Lib.hid G2
    have HSRC := Lib.hid (src_of R2.fown)
    have hsz2 := R2.lo
    clear R2 G2
    go_wp2_with (first
      | (at_builtin; refine step_copy EI rfl _ _ rfl rfl (by simp) rfl HR2.out.fown.1 HSRC.out (ints_one _) (by omega) ?_; intro A5 c5 w5 ho hb; have HO5 := Lib.hid ho; have HB5 := Lib.hid hb; clear ho hb)
      | (at_builtin; refine step_push EI rfl _ _ rfl HO5.out rfl #[.int .i64 n] rfl rfl rfl (by simp [Value.oneCell']) (by omega) HB5.out.size ?_; intro A6 c6 w6 ho hb; have HO6 := Lib.hid ho; have HB6 := Lib.hid (HB5.out.trans hb); obtain ⟨s0, s1, s2, s3, t0, t1, t2, t3, ls⟩ := four_of_block (((HB5.out.trans hb).block r (lt_of_block HR2.out.blk)).trans HR2.out.blk); clear ho hb))
    go_ret
    obtain ⟨R3, G3⟩ := HR2.out.fset (F' := S.free ++ [n]) (fv' := .slice A6 (S.free.length + 1) c6) HB6.out (by
      have := HO6.out
      rw [List.map_append, List.length_append]
      exact this)
    exact ⟨rfl, _, ⟨_, _, rfl, R3⟩, Grows.before (Chg.drew (Chg.refl _ _)) (HG2.out.trans G3)⟩
end Go.Proofs.Ytmlgockejacjeaa
