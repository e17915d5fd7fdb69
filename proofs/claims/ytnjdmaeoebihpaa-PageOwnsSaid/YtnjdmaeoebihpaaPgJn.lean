/-
  Join: one node of two (with Grow and Concat of Go's library); a node's boxes.
-/
import Derived.Test.YtnjdmaeoebihpaaPgOpen
import Derived.Test.YtnjdmaeoebihpaaPgSame
import Derived.Test.YtnjdmaeoebihpaaPgSome
import Derived.Lib.AppendZerosOnto
import Derived.Deep.LoopGhost
import Derived.Deep.RegionHeld
import Derived.Deep.DeepCutAuto
namespace Go.Proofs.Ytnjdmaeoebihpaa
open Go.RowKit Go.Proofs.YtnjdmaeoebihpaaW.PrintWords Go.Proofs.YtnjdmaeoebihpaaW.PrintLast Go.Proofs.YtnjdmaeoebihpaaW.PrintMore
set_option linter.unusedVariables false
set_option linter.unusedSimpArgs false

/-- A node's three cells. -/
abbrev C3 (w : World) (b : Nat) (lf : Bool) (A : Option Addr) (n c : Nat) (B : Option Addr) (m d : Nat) : Prop :=
  w.cell? ⟨b, 0, none⟩ = some (.bool lf) ∧ w.cell? ⟨b, 1, none⟩ = some (.slice A n c) ∧ w.cell? ⟨b, 2, none⟩ = some (.slice B m d)
/-- The node's two boxes, and what they say. -/
structure Nds (w : World) (b0 b3 : Nat) (leaf : Bool) (A : Option Addr) (c : Nat) (l : List ByteArray) (B : Option Addr) (d : Nat) (ks : List Int) : Prop where
  nod : w.heap[b0]? = some (NodeObj leaf A l.length c B ks.length d)
  rno : w.heap[b3]? = some (RNodeObj leaf A l.length c B ks.length d)
  rd : RdN w A c l B d ks
section
variable {w w' : World} {b0 b3 : Nat} {leaf : Bool} {A : Option Addr} {c : Nat} {l : List ByteArray} {B : Option Addr} {d : Nat} {ks : List Int}
theorem Nds.below (h : Nds w b0 b3 leaf A c l B d ks) (hb : Below w.heap.size w w') : Nds w' b0 b3 leaf A c l B d ks :=
  ⟨(hb.block _ (lt_of_block h.nod)).trans h.nod, (hb.block _ (lt_of_block h.rno)).trans h.rno, h.rd.below hb⟩
theorem Nds.drew (h : Nds w b0 b3 leaf A c l B d ks) : Nds w.drew b0 b3 leaf A c l B d ks := h.below ⟨rfl, rfl, rfl, Nat.le_refl _, fun _ _ => rfl⟩
theorem Nds.c0 (h : Nds w b0 b3 leaf A c l B d ks) : C3 w b0 leaf A l.length c B ks.length d := ⟨(cell_of_block h.nod 0).trans rfl, (cell_of_block h.nod 1).trans rfl, (cell_of_block h.nod 2).trans rfl⟩
theorem Nds.c3 (h : Nds w b0 b3 leaf A c l B d ks) : C3 w b3 leaf A l.length c B ks.length d := ⟨(cell_of_block h.rno 0).trans rfl, (cell_of_block h.rno 1).trans rfl, (cell_of_block h.rno 2).trans rfl⟩
end

set_option maxRecDepth 100000 in
theorem growI_any (n : Nat) (hn : n ≤ 100000) (w : World) :
    Calls Try.prog 50 #[.slice none 0 0, .int .i64 n] w fun e w' => ∃ A c, e = .returned (.slice A 0 c) ∧ OwnI w' w.heap.size A c [] ∧ Below w.heap.size w w' := by
  obtain ⟨i0, E⟩ := elt_I
  rcases Nat.eq_zero_or_pos n with rfl | hpos
  · go_enter Try.func50, Try.ntmps50
    go_wp2_with fail
    go_ret
    exact ⟨none, 0, rfl, World.ownsRow_nil _ _ _ _, Below.refl _ _⟩
  · have hold : (Builtin.firstCells i0.size 0 (.slice none 0 0)).run Try.prog w.drew = .ok ([] : List Value).toArray w.drew := run_firstCells_none w.drew i0.size 0 0 0
    have hs := E.hsize
    have hby := E.hbytes
    have hrz : ∀ ty, (Builtin.append_ #[23, 3] ty #[.slice none 0 0, .int .i64 (n : Int)]).run Try.prog w = .ok (.slice (some ⟨w.heap.size, 0, none⟩) (0 + n) (grownCap w (0 + n) 0 3)) (w.drew.alloc (.cells (([] : List Value).toArray ++ Builtin.zeroCells (Value.int .i64 0).cells n ++ Builtin.zeroCells (Value.int .i64 0).cells (grownCap w (0 + n) 0 3 - (0 + n))) 3)) := fun ty =>
      Lib.run_append_grow_zeros w 23 3 ty 3 i0 (.int .i64 0) .i64 .i64 E.und Try.underlying3 E.info E.zero none 0 0 [] hold n hpos (by omega) (by omega) (by omega) (by rw [hby]; omega) (growslice_fits (by omega) (by rw [hby]; omega))
    have hge := grownCap_ge w (0 + n) 0 3
    have hcm := grownCap_le_maxLen w (0 + n) 0 3 (by unfold maxLen; omega)
    have hown : ∀ cs : Array Value, cs.size = grownCap w (0 + n) 0 3 → OwnI (w.drew.alloc (.cells cs 3)) w.heap.size (some ⟨w.heap.size, 0, none⟩) (grownCap w (0 + n) 0 3) [] := fun cs hcs =>
      ⟨rfl, .inr ⟨w.heap.size, _, cs, rfl, Nat.le_refl _, heap_alloc_new w.drew _, Nat.zero_le _, hcm, by rw [hcs, Nat.mul_one], by simp [icl]⟩⟩
    obtain ⟨G, hG⟩ : ∃ G, G = grownCap w (0 + n) 0 3 := ⟨_, rfl⟩
    have hz1 : (Value.int .i64 0).cells.size = 1 := rfl
    have HOWN := Lib.hid (hown (([] : List Value).toArray ++ Builtin.zeroCells (Value.int .i64 0).cells n ++ Builtin.zeroCells (Value.int .i64 0).cells (grownCap w (0 + n) 0 3 - (0 + n))) (by
      simp only [Array.size_append, List.size_toArray, List.length_nil, size_zeroCells, hz1]
      omega))
    have hB : Below w.heap.size w (w.drew.alloc (.cells (([] : List Value).toArray ++ Builtin.zeroCells (Value.int .i64 0).cells n ++ Builtin.zeroCells (Value.int .i64 0).cells (grownCap w (0 + n) 0 3 - (0 + n))) 3)) := (Below.refl _ _).drew.alloc (Nat.le_refl _) _
    obtain ⟨w2, hw2⟩ : ∃ w2, w2 = w.drew.alloc (.cells (([] : List Value).toArray ++ Builtin.zeroCells (Value.int .i64 0).cells n ++ Builtin.zeroCells (Value.int .i64 0).cells (grownCap w (0 + n) 0 3 - (0 + n))) 3) := ⟨_, rfl⟩
    rw [← hw2] at hrz hB HOWN
    rw [← hG] at hrz HOWN hge hcm
    have HB := Lib.hid hB
    have hG0 : (0 : Int) ≤ (G : Int) := by omega
    have hm : (maxLen : Nat) = 9223372036854775807 := rfl
    rw [hm] at hcm
    have hpos2 : (0 : Int) < (n : Int) := by omega
    rw [Nat.zero_add] at hrz
    clear hold hw2 hG hown hB hm
    go_enter Try.func50, Try.ntmps50
    go_wp2_with (at_builtin; refine Lib.wpList_append_run _ rfl _ _ _ _ rfl _ _ rfl rfl _ _ (hrz _) ?_)
    all_goals
      go_ret
      exact ⟨_, _, rfl, HOWN.out, HB.out⟩
/-- 'append(v, row...)' onto a row of one's own, of whatever type. -/
theorem step_put {T e : TypeId} {z : Value} {size bytes : Nat} {i0 : TypeInfo} (E : Elt T e z size bytes i0) {w : World} {base n m c : Nat} {v : Value} {A : Option Addr} {xs news : List Value} {ops : Array Oper} {rest : List Oper} {o : Oper} {x : Act} {Q : Exit → Act → World → Prop} (hgd : o.guard = none) (s t : Operand)
    (ho : o.op = .call { callee := .builtin .append, args := #[s, t], argTypes := #[T, T] }) (hown : w.ownsRow base e size v n xs) (hs : x.eval s = v) (ht : x.eval t = .slice A m c)
    (hl : news.length = m * size) (hc : Src w A m c news) (h1 : ∀ u ∈ news, u.oneCell' = true) (hn : n ≤ 1000000 ∧ m ≤ 1000000) (hbase : base ≤ w.heap.size)
    (hK : ∀ A' c' w2, w2.ownsRow base e size (.slice A' (n + m) c') (n + m) (xs ++ news) → w.grownBy w2 v.ownBlock → wpList Try.prog ops Q rest (x.put o.dst (.slice A' (n + m) c')) w2) :
    wpList Try.prog ops Q (o :: rest) x w := by
  rcases hc with ⟨rfl, rfl, rfl⟩ | ⟨ad, rfl, hc⟩
  · have hx0 : news = [] := List.eq_nil_of_length_eq_zero (by simpa using hl)
    subst hx0
    obtain ⟨A', c', rfl⟩ := own_form hown
    refine wpList_plain hgd fun K hK' => ?_
    unfold Oper.wp execOp
    simp only [ho, resolve, invoke, builtin, Sem.run_bind, Sem.run_pure, Result.andThen_ok, List.map_toArray, List.map_cons, List.map_nil, hs, ht, gapp_nil E hown]
    exact hK' _ _ (hK A' c' w (by rw [List.append_nil]; exact hown) (grown_refl _ _))
  · have hbytes : (n + m) * bytes ≤ 2000000 * 1000 := Nat.mul_le_mul (by omega) E.small
    refine wpList_append_own _ hgd s t T ho base e i0 z size bytes E.und E.info E.zero E.hsize E.hbytes E.zs E.pos v n xs hs hown ad m c news ht hl hc h1 (by simp only [maxLen]; omega) (by omega) hbase ?_
    intro v' w2 ho2 hg _
    obtain ⟨A', c', rfl⟩ := own_form ho2
    exact hK A' c' w2 ho2 hg

set_option maxRecDepth 100000 in
set_option maxHeartbeats 2000000 in
theorem concatI_any (k : Nat) (A1 : Option Addr) (c1 : Nat) (l1 : List Int) (A2 : Option Addr) (c2 : Nat) (l2 : List Int) (w : World) (hk : w.heap[k]? = some (.cells #[.slice A1 l1.length c1, .slice A2 l2.length c2] 23))
    (hs1 : Src w A1 l1.length c1 (icl l1)) (hs2 : Src w A2 l2.length c2 (icl l2)) (hn1 : l1.length ≤ 1000) (hn2 : l2.length ≤ 1000) :
    Calls Try.prog 40 #[.slice (some ⟨k, 0, none⟩) 2 2] w fun e w' => ∃ A c, e = .returned (.slice A (l1.length + l2.length) c) ∧ w'.ownsRow w.heap.size 3 1 (.slice A (l1.length + l2.length) c) (l1.length + l2.length) (icl l1 ++ icl l2) ∧ Below w.heap.size w w' := by
  have HK := Lib.hid hk
  have HS1 := Lib.hid hs1
  have HS2 := Lib.hid hs2
  clear hk hs1 hs2
  obtain ⟨x0, x1, xf0, xf1, xl⟩ := two_of_block HK.out
  go_enter Try.func40, Try.ntmps40
  go_wp2_with fail
  go_loopg [3, 11] 2 (fun q sz i wr => ∃ j n : Nat, j ≤ 2 ∧ q = 2 - j ∧ n ≤ 2000 ∧ sz = .int .i64 ((n : Nat) : Int) ∧ i = .int .i64 j ∧ Hid (n = if j = 0 then 0 else if j = 1 then l1.length else l1.length + l2.length) ∧ w = wr)
  case atStart => exact ⟨0, 0, by omega, by omega, by omega, rfl, rfl, rfl, rfl⟩
  case round =>
    obtain ⟨j, n, hj, hq, hn, rfl, rfl, HN, rfl⟩ := hrel
    rcases (show j = 0 ∨ j = 1 ∨ j = 2 by omega) with rfl | rfl | rfl
    · have hn0 : n = 0 := HN.out
      subst hn0
      go_wp2_with fail
      go_roundg 1
      case measure => omega
      case rel => exact ⟨1, l1.length, by omega, rfl, by omega, by go_num, by go_num, rfl, rfl⟩
    · have hn1' : n = l1.length := HN.out
      subst hn1'
      go_wp2_with fail
      go_roundg 0
      case measure => omega
      case rel => exact ⟨2, l1.length + l2.length, by omega, rfl, by omega, by go_num, by go_num, rfl, rfl⟩
    · have HN2 : Hid (n = l1.length + l2.length) := HN.out
      clear HN
      go_wp2_with fail
      refine (growI_any n (by omega) _).mono ?_
      rintro e w2 ⟨A, c, rfl, ho, hb⟩
      have HO2 := Lib.hid ho
      have HB2 := Lib.hid hb
      clear ho hb x0 x1 xf0 xf1 xl
      go_wp2_with fail
      go_loopg [6, 27] 2 (fun q v i wr => ∃ (j : Nat) (A : Option Addr) (m c : Nat) (xs : List Value), j ≤ 2 ∧ q = 2 - j ∧ v = .slice A m c ∧ i = .int .i64 j ∧ m ≤ 2000 ∧ Hid (m = if j = 0 then 0 else if j = 1 then l1.length else l1.length + l2.length) ∧ Hid (xs = if j = 0 then [] else if j = 1 then icl l1 else icl l1 ++ icl l2) ∧ Hid (wr.ownsRow w.heap.size 3 1 (.slice A m c) m xs) ∧ Hid (Below w.heap.size w wr))
      case atStart => exact ⟨0, A, 0, c, [], by omega, by omega, rfl, rfl, by omega, rfl, rfl, HO2, HB2⟩
      case round =>
        clear HO2 HB2
        obtain ⟨j, A, m, c, xs, hj, hq, rfl, rfl, hm, HM, HX, HO, HB⟩ := hrel
        obtain ⟨i0, E⟩ := elt_I
        obtain ⟨x0, x1, xf0, xf1, xl⟩ := two_of_block ((HB.out.block _ (lt_of_block HK.out)).trans HK.out)
        rcases (show j = 0 ∨ j = 1 ∨ j = 2 by omega) with rfl | rfl | rfl
        · have HSa := Lib.hid (HS1.out.below HB.out (Nat.le_refl _))
          go_wp2_with (at_builtin; refine step_put E rfl _ _ rfl HO.out rfl rfl (by simp [icl]) HSa.out (icl_one l1) ⟨by omega, by omega⟩ HB.out.size ?_; intro A9 c9 w9 ho hg; have HO9 := Lib.hid ho; have HB9 : Hid (Below w.heap.size w w9) := HB.out.grown hg HB.out.size (fun k hk => (HO.out.lt k hk).1); clear ho hg)
          have hm0 : m = 0 := HM.out
          have hx0 : xs = [] := HX.out
          go_roundg 1
          case measure => omega
          case rel => exact ⟨1, A9, m + l1.length, c9, icl l1, by omega, rfl, rfl, by go_num, by omega, Lib.hid (by rw [hm0]; simp), rfl, Lib.hid (by have h := HO9.out; rw [hx0, List.nil_append] at h; exact h), HB9⟩
        · have HSa := Lib.hid (HS2.out.below HB.out (Nat.le_refl _))
          have hm1 : m ≤ 1000 := by have := HM.out; simp only [if_neg (show ¬ (1 : Nat) = 0 by omega), if_pos] at this; omega
          go_wp2_with (at_builtin; refine step_put E rfl _ _ rfl HO.out rfl rfl (by simp [icl]) HSa.out (icl_one l2) ⟨by omega, by omega⟩ HB.out.size ?_; intro A9 c9 w9 ho hg; have HO9 := Lib.hid ho; have HB9 : Hid (Below w.heap.size w w9) := HB.out.grown hg HB.out.size (fun k hk => (HO.out.lt k hk).1); clear ho hg)
          have hm0 : m = l1.length := HM.out
          have hx0 : xs = icl l1 := HX.out
          go_roundg 0
          case measure => omega
          case rel => exact ⟨2, A9, m + l2.length, c9, icl l1 ++ icl l2, by omega, rfl, rfl, by go_num, by omega, Lib.hid (by rw [hm0]; simp), rfl, Lib.hid (by have h := HO9.out; rw [hx0] at h; exact h), HB9⟩
        · go_wp2_with fail
          go_ret
          have hm0 : m = l1.length + l2.length := HM.out
          have hx0 : xs = icl l1 ++ icl l2 := HX.out
          rw [← hm0, ← hx0]
          exact ⟨A, c, rfl, HO.out, HB.out⟩

/-- A node's rows, as what is copied from. -/
structure Rows2 (w : World) (A : Option Addr) (c : Nat) (l : List ByteArray) (B : Option Addr) (d : Nat) (ks : List Int) : Prop where
  recs : Src w A l.length c (scl l)
  kids : Src w B ks.length d (icl ks)
theorem Rows2.below {w w' : World} {A : Option Addr} {c : Nat} {l : List ByteArray} {B : Option Addr} {d : Nat} {ks : List Int} (h : Rows2 w A c l B d ks) {k : Nat} (hb : Below k w w') (hk : w.heap.size ≤ k) : Rows2 w' A c l B d ks := ⟨h.recs.below hb hk, h.kids.below hb hk⟩
theorem Rows2.of {w : World} {base : Nat} {A : Option Addr} {c : Nat} {l : List ByteArray} {B : Option Addr} {d : Nat} {ks : List Int} (h1 : OwnS w base A c l) (h2 : OwnI w base B d ks) : Rows2 w A c l B d ks := ⟨Src.of h1, Src.of h2⟩
/-- Behind the first statement: the boxes, the result's, the new node's. -/
structure PartJ (w wc : World) (cb cy : Array Value) (leaf : Bool) (T : Nat) (A : Option Addr) (n c : Nat) (xs : List Value) (B : Option Addr) (m d : Nat) (ys : List Value) : Prop where
  box : wc.heap[w.heap.size]? = some (.cells cb 25)
  boy : wc.heap[w.heap.size + 1]? = some (.cells cy 25)
  var : wc.heap[w.heap.size + 1 + 1]? = some (.cells #[.bool false, .slice none 0 0, .slice none 0 0] 25)
  new : wc.heap[T]? = some (.cells #[.bool leaf, .slice A n c, .slice B m d] 25)
  lt : w.heap.size + 1 + 1 < T
  own : wc.ownsRow w.heap.size 9 1 (.slice A n c) n xs
  kid : wc.ownsRow w.heap.size 3 1 (.slice B m d) m ys
  low : Below w.heap.size w wc
section
variable {w wc w9 : World} {cb cy : Array Value} {leaf : Bool} {T : Nat} {A : Option Addr} {n c : Nat} {xs : List Value} {B : Option Addr} {m d : Nat} {ys : List Value}
theorem PartJ.frm (h : PartJ w wc cb cy leaf T A n c xs B m d ys) {e : TypeId} (hF : Frm (fun t => t = e) w.heap.size wc w9) (he : 25 ≠ e) : w9.heap[w.heap.size]? = some (.cells cb 25) ∧ w9.heap[w.heap.size + 1]? = some (.cells cy 25) ∧ w9.heap[w.heap.size + 1 + 1]? = some (.cells #[.bool false, .slice none 0 0, .slice none 0 0] 25) ∧ w9.heap[T]? = some (.cells #[.bool leaf, .slice A n c, .slice B m d] 25) :=
  ⟨hF.blk h.box he, hF.blk h.boy he, hF.blk h.var he, hF.blk h.new he⟩
theorem PartJ.recs (h : PartJ w wc cb cy leaf T A n c xs B m d ys) (hF : Frm (fun t => t = 9) w.heap.size wc w9) {A9 : Option Addr} {n9 c9 : Nat} {zs : List Value} (ho : w9.ownsRow w.heap.size 9 1 (.slice A9 n9 c9) n9 zs) :
    PartJ w (w9.setCell ⟨T, 1, none⟩ (.slice A9 n9 c9)) cb cy leaf T A9 n9 c9 zs B m d ys := by
  obtain ⟨a1, a2, a3, a4⟩ := h.frm hF (by decide)
  have hlt := h.lt
  have hG : Frm (fun t => t = 25) w.heap.size w9 (w9.setCell ⟨T, 1, none⟩ (.slice A9 n9 c9)) := Frm.setCell (T := fun t => t = 25) a4 rfl (by omega) 1 _
  exact ⟨blk_set_ne a1 _ _ (by omega), blk_set_ne a2 _ _ (by omega), blk_set_ne a3 _ _ (by omega), blk_set a4 1 _, hlt, hG.owns ho (by decide), hG.owns (hF.owns h.kid (by decide)) (by decide), (h.low.trans hF.low).trans hG.low⟩
theorem PartJ.kids (h : PartJ w wc cb cy leaf T A n c xs B m d ys) (hb : Below wc.heap.size wc w9) {B9 : Option Addr} {n9 c9 : Nat} {zs : List Value} (ho : w9.ownsRow w.heap.size 3 1 (.slice B9 n9 c9) n9 zs) :
    PartJ w (w9.setCell ⟨T, 2, none⟩ (.slice B9 n9 c9)) cb cy leaf T A n c xs B9 n9 c9 zs := by
  have hF : Frm (fun t => t = 3) w.heap.size wc w9 := Frm.ofBelow hb h.low.size
  obtain ⟨a1, a2, a3, a4⟩ := h.frm hF (by decide)
  have hlt := h.lt
  have hG : Frm (fun t => t = 25) w.heap.size w9 (w9.setCell ⟨T, 2, none⟩ (.slice B9 n9 c9)) := Frm.setCell (T := fun t => t = 25) a4 rfl (by omega) 2 _
  exact ⟨blk_set_ne a1 _ _ (by omega), blk_set_ne a2 _ _ (by omega), blk_set_ne a3 _ _ (by omega), blk_set a4 2 _, hlt, hG.owns (hF.owns h.own (by decide)) (by decide), hG.owns ho (by decide), (h.low.trans hF.low).trans hG.low⟩
end
theorem cloneS_src {w : World} {A : Option Addr} {n c : Nat} {xs : List Value} (hs : Src w A n c xs) (hx : xs.length = n * 1) (h1 : ∀ u ∈ xs, u.oneCell' = true) (hn : n ≤ 1000000) :
    Calls Try.prog 39 #[.slice A n c] w (CloneIs 9 n xs w) := cloneS_any hs hx h1 hn
set_option maxRecDepth 100000 in
set_option maxHeartbeats 4000000 in
theorem join_any (leaf leaf2 : Bool) (A1 : Option Addr) (c1 : Nat) (l1 : List ByteArray) (B1 : Option Addr) (d1 : Nat) (k1 : List Int) (sep : ByteArray) (A2 : Option Addr) (c2 : Nat) (l2 : List ByteArray) (B2 : Option Addr) (d2 : Nat) (k2 : List Int) (w : World)
    (h1 : Rows2 w A1 c1 l1 B1 d1 k1) (h2 : Rows2 w A2 c2 l2 B2 d2 k2) (hn1 : l1.length ≤ 1000) (hn2 : l2.length ≤ 1000) (hm1 : k1.length ≤ 1000) (hm2 : k2.length ≤ 1000) :
    Calls Try.prog 26 #[.agg #[.bool leaf, .slice A1 l1.length c1, .slice B1 k1.length d1], .string sep, .agg #[.bool leaf2, .slice A2 l2.length c2, .slice B2 k2.length d2]] w fun e w' =>
      ∃ A c B d, e = .returned (.agg #[.bool leaf, .slice A (if leaf = true then l1 ++ l2 else l1 ++ sep :: l2).length c, .slice B (if leaf = true then [] else k1 ++ k2).length d]) ∧
        OwnS w' w.heap.size A c (if leaf = true then l1 ++ l2 else l1 ++ sep :: l2) ∧ OwnI w' w.heap.size B d (if leaf = true then [] else k1 ++ k2) ∧ Below w.heap.size w w' := by
  have H1 := Lib.hid h1
  have H2 := Lib.hid h2
  have hr1 := h1.recs
  clear h1 h2
  go_enter Try.func26, Try.ntmps26
  go_upto_region 1 with (fail)
  obtain ⟨wa, hwa⟩ : ∃ wa, wa = w.alloc (.cells #[.bool leaf, .slice A1 l1.length c1, .slice B1 k1.length d1] 25) := ⟨_, rfl⟩
  obtain ⟨wb, hwb⟩ : ∃ wb, wb = wa.alloc (.cells #[.bool leaf2, .slice A2 l2.length c2, .slice B2 k2.length d2] 25) := ⟨_, rfl⟩
  obtain ⟨w2, hw2⟩ : ∃ w2, w2 = wb.alloc (.cells #[.bool false, .slice none 0 0, .slice none 0 0] 25) := ⟨_, rfl⟩
  have sa : wa.heap.size = w.heap.size + 1 := by rw [hwa, heap_alloc_size]
  have sb : wb.heap.size = w.heap.size + 1 + 1 := by rw [hwb, heap_alloc_size, sa]
  have s2 : w2.heap.size = w.heap.size + 3 := by rw [hw2, heap_alloc_size, sb]
  have hA : w2.heap[w.heap.size]? = some (.cells #[.bool leaf, .slice A1 l1.length c1, .slice B1 k1.length d1] 25) := by rw [hw2, hwb]; exact blk_alloc (blk_alloc (by rw [hwa]; exact heap_alloc_new _ _) _) _
  have hBb : w2.heap[w.heap.size + 1]? = some (.cells #[.bool leaf2, .slice A2 l2.length c2, .slice B2 k2.length d2] 25) := by rw [hw2]; exact blk_alloc (by rw [hwb]; exact heap_alloc_at _ _ _ sa.symm) _
  have hV : w2.heap[w.heap.size + 1 + 1]? = some (.cells #[.bool false, .slice none 0 0, .slice none 0 0] 25) := by rw [hw2]; exact heap_alloc_at _ _ _ (by rw [sb])
  have hB : Below w.heap.size w w2 := by
    rw [hw2, hwb, hwa]
    exact (((Below.refl _ _).alloc (Nat.le_refl _) _).alloc (by rw [heap_alloc_size]; omega) _).alloc (by rw [heap_alloc_size, heap_alloc_size]; omega) _
  rw [← hwa, ← hwb, ← hw2]
  clear hwa hwb hw2 sa sb
  have HBK2 := Lib.hid hA
  have HBB2 := Lib.hid hBb
  have HV2 := Lib.hid hV
  have HB2 := Lib.hid hB
  have HSZ2 := Lib.hid s2
  obtain ⟨n0, n1, n2, f0, f1, f2, nl⟩ := three_of_block (w := w2.drew) hA
  have HS2 : Hid (Src w2.drew A1 l1.length c1 (scl l1)) := hr1.below (below_drewN hB 1) (Nat.le_refl _)
  have HS3 : Hid (Src (w2.alloc (.cells #[.bool false, .slice none 0 0, .slice none 0 0] 25)).drew A1 l1.length c1 (scl l1)) := hr1.below (below_drewN (hB.alloc hB.size (.cells #[.bool false, .slice none 0 0, .slice none 0 0] 25)) 1) (Nat.le_refl _)
  have hS0 := And.intro n0 n1
  clear hA hBb hV hB s2 hr1
  have hb3 := blk_alloc (w := w2.drew) HBK2.out (.cells #[.bool false, .slice none 0 0, .slice none 0 0] 25)
  have HBK3 := Lib.hid hb3
  obtain ⟨m0, m1, -, -, -, -, ml⟩ := three_of_block hb3
  have hS3 := And.intro m0 m1
  clear hb3 m0 m1
  go_cut [7] (fun v wc => ∃ T A' c', v = .pointer (some ⟨T, 0, none⟩) ∧ Hid (PartJ w wc #[.bool leaf, .slice A1 l1.length c1, .slice B1 k1.length d1] #[.bool leaf2, .slice A2 l2.length c2, .slice B2 k2.length d2] leaf T A' l1.length c' (scl l1) none 0 0 []))
  case first =>
    go_region_held (fun w' => w'.cell? ⟨w.heap.size, 0, none⟩ = some (.bool leaf) ∧ w'.cell? ⟨w.heap.size, 1, none⟩ = some (.slice A1 l1.length c1))
      (first | exact hS0 | exact hS1 | exact hS3 | exact hS4 | exact hS5 | exact hS6 | assumption)
      (first
        | (go_at_call 39; (with_reducible refine (cloneS_src (w := w2.drew) (A := A1) (n := l1.length) (c := c1) (xs := scl l1) HS2.out (by rw [scl_len]) (scl_one _) (by omega)).mono ?_); rintro e y1 ⟨A', c', rfl, ho1, hb1⟩; have HO1 := Lib.hid ho1; have hN1 := (hb1.block w.heap.size nl).trans HBK2.out; obtain ⟨n0', n1', -, -, -, -, -⟩ := three_of_block hN1; have hS1 := And.intro n0' n1'; obtain ⟨k0, k1, -, -, -, -, -⟩ := three_of_block (blk_alloc hN1 (.cells #[.bool false, .slice none 0 0, .slice none 0 0] 25)); have hS4 := And.intro k0 k1; obtain ⟨g0, g1, -, -, -, -, -⟩ := three_of_block (blk_alloc hN1 (.cells #[.bool leaf, .slice A' l1.length c', .slice none 0 0] 25)); have hS5 := And.intro g0 g1; have HY1 := Lib.hid hb1; have HN1 := Lib.hid hN1; clear ho1 hb1 hN1 n0' n1' k0 k1 g0 g1)
        | (go_at_call 39; (with_reducible refine (cloneS_src (w := (w2.alloc (.cells #[.bool false, .slice none 0 0, .slice none 0 0] 25)).drew) (A := A1) (n := l1.length) (c := c1) (xs := scl l1) HS3.out (by rw [scl_len]) (scl_one _) (by omega)).mono ?_); rintro e y1 ⟨A', c', rfl, ho1, hb1⟩; have HO1 := Lib.hid ho1; have hN1 := (hb1.block w.heap.size ml).trans HBK3.out; obtain ⟨n0', n1', -, -, -, -, -⟩ := three_of_block hN1; have hS1 := And.intro n0' n1'; have HY1 := Lib.hid hb1; have hT1 := (hb1.block w2.heap.size (by show _ < (w2.alloc (.cells #[.bool false, .slice none 0 0, .slice none 0 0] 25)).heap.size; rw [heap_alloc_size]; exact Nat.lt_succ_self _)).trans (heap_alloc_new w2 (.cells #[.bool false, .slice none 0 0, .slice none 0 0] 25)); have HT1 := Lib.hid hT1; obtain ⟨t0, t1, t2, tf0, tf1, tf2, tl⟩ := three_of_block hT1; have hbx3 := blk_set_ne (blk_set_ne (blk_set_ne hN1 0 (.bool leaf) (Nat.ne_of_lt nl)) 1 (.slice A' l1.length c') (Nat.ne_of_lt nl)) 2 (.slice none 0 0) (Nat.ne_of_lt nl); obtain ⟨q0, q1, -, -, -, -, -⟩ := three_of_block hbx3; have hS6 := And.intro q0 q1; have HN1 := Lib.hid hN1; clear hT1 hbx3 q0 q1 ho1 hb1 hN1 n0' n1'))
    · go_wp2_with fail
      go_meet
      refine ⟨y1.heap.size, A', c', rfl, Lib.hid ⟨blk_alloc HN1.out _, blk_alloc ((HY1.out.block _ (lt_of_block (w := w2) HBB2.out)).trans HBB2.out) _, blk_alloc ((HY1.out.block _ (lt_of_block (w := w2) HV2.out)).trans HV2.out) _, heap_alloc_new _ _, Nat.lt_of_lt_of_le (lt_of_block (w := w2) HV2.out) HY1.out.size, ?_, World.ownsRow_nil _ _ _ _, ((below_drewN HB2.out 1).trans (HY1.out.mono HB2.out.size)).alloc (Nat.le_trans HB2.out.size HY1.out.size) _⟩⟩
      exact owns_up (HO1.out.alloc (.cells #[.bool leaf, .slice A' l1.length c', .slice none 0 0] 25)) (base' := w.heap.size) HB2.out.size
    · go_wp2_with fail
      go_meet
      have hle : w.heap.size ≤ w2.heap.size := HB2.out.size
      have hF := s3_frm HT1.out hle (.bool leaf) (.slice A' l1.length c') (.slice none 0 0)
      have hB3 : Below w.heap.size w y1 := (below_drewN (HB2.out.alloc HB2.out.size _) 1).trans (HY1.out.mono (Nat.le_trans hle (by show _ ≤ (w2.alloc (.cells #[.bool false, .slice none 0 0, .slice none 0 0] 25)).heap.size; rw [heap_alloc_size]; exact Nat.le_succ _)))
      have old : ∀ (q : Nat) (ob : Obj), w2.heap[q]? = some ob → (((y1.setCell ⟨w2.heap.size, 0, none⟩ (.bool leaf)).setCell ⟨w2.heap.size, 1, none⟩ (.slice A' l1.length c')).setCell ⟨w2.heap.size, 2, none⟩ (.slice none 0 0)).heap[q]? = some ob := fun q ob hq => by
        have hlt := lt_of_block hq
        have hne : q ≠ w2.heap.size := Nat.ne_of_lt hlt
        rw [Below.heap_setCell _ _ _ _ hne, Below.heap_setCell _ _ _ _ hne, Below.heap_setCell _ _ _ _ hne]
        exact (HY1.out.block _ (by show _ < (w2.alloc (.cells #[.bool false, .slice none 0 0, .slice none 0 0] 25)).heap.size; rw [heap_alloc_size]; exact Nat.lt_succ_of_lt hlt)).trans ((Below.heap_alloc _ _ _ hlt).trans hq)
      refine ⟨w2.heap.size, A', c', rfl, Lib.hid ⟨old _ _ HBK2.out, old _ _ HBB2.out, old _ _ HV2.out, s3_self HT1.out _ _ _, lt_of_block (w := w2) HV2.out, ?_, World.ownsRow_nil _ _ _ _, hB3.trans hF.low⟩⟩
      exact hF.owns (owns_up HO1.out (base' := w.heap.size) (by show _ ≤ (w2.alloc (.cells #[.bool false, .slice none 0 0, .slice none 0 0] 25)).heap.size; rw [heap_alloc_size]; exact Nat.le_succ_of_le hle)) (by decide)
  case rest =>
    obtain ⟨T, A', c', rfl, PA⟩ := hcut
    clear hS0 hS3 HS2 HS3 HBK2 HBK3 HBB2 HV2 n0 n1 n2 f0 f1 f2 nl ml HB2 HSZ2
    obtain ⟨n0, n1, n2, f0, f1, f2, nl⟩ := three_of_block PA.out.box
    obtain ⟨o0, o1, o2, of0, of1, of2, ol⟩ := three_of_block PA.out.boy
    obtain ⟨t0, t1, t2, tf0, tf1, tf2, tl⟩ := three_of_block PA.out.new
    obtain ⟨v0, v1, v2, vf0, vf1, vf2, vl⟩ := three_of_block PA.out.var
    obtain ⟨i0, EN⟩ := elt_N
    have HS2 := Lib.hid (H2.out.recs.below PA.out.low (Nat.le_refl _))
    clear v0 v1 v2 vf0 vf1 vf2 vl
    cases leaf with
    | true =>
      go_upto_region 6 with (at_builtin; refine step_put EN rfl _ _ rfl PA.out.own rfl rfl (by rw [scl_len]) HS2.out (scl_one _) ⟨by omega, by omega⟩ PA.out.low.size ?_; intro A9 c9 w9 ho hg; have HO9 := Lib.hid ho; have hF9 := Frm.grownOwn (T := fun t => t = 9) PA.out.own hg rfl PA.out.low.size; have HF9 := Lib.hid hF9; clear ho hg; clear t0 t1 t2 tf0 tf1 tf2 tl; obtain ⟨t0, t1, t2, tf0, tf1, tf2, tl⟩ := three_of_block (PA.out.frm hF9 (by decide)).2.2.2; clear hF9)
      have HP := Lib.hid (PA.out.recs HF9.out HO9.out)
      obtain ⟨y, hy⟩ : ∃ y, y = w9.setCell ⟨T, 1, none⟩ (.slice A9 (l1.length + l2.length) c9) := ⟨_, rfl⟩
      rw [← hy] at HP ⊢
      clear hy HF9 HO9 PA HS2 n0 n1 n2 f0 f1 f2 nl o0 o1 o2 of0 of1 of2 ol
      clear t0 t1 t2 tf0 tf1 tf2 tl
      obtain ⟨t0, t1, t2, tf0, tf1, tf2, tl⟩ := three_of_block HP.out.new
      obtain ⟨v0, v1, v2, vf0, vf1, vf2, vl⟩ := three_of_block HP.out.var
      go_wp2_with fail
      have hE := s3_self HP.out.var (.bool true) (.slice A9 (l1.length + l2.length) c9) (.slice none (0) 0)
      obtain ⟨q0, q1, q2, -, -, -, -⟩ := three_of_block hE
      have hF := s3_frm HP.out.var (n := w.heap.size) (by omega) (.bool true) (.slice A9 (l1.length + l2.length) c9) (.slice none (0) 0)
      refine bodyPost_ret (v := .agg #[.bool true, .slice A9 (l1.length + l2.length) c9, .slice none (0) 0]) (by simp [results, Try.results26, go_sem, q0, q1, q2]) rfl ?_
      have ho1 := hF.owns HP.out.own (by decide)
      have ho2 := hF.owns HP.out.kid (by decide)
      refine ⟨A9, c9, none, 0, ?_, ?_, ?_, HP.out.low.trans hF.low⟩
      · simp
      · have e : scl l1 ++ scl l2 = scl (l1 ++ l2) := by simp [scl]
        rw [e] at ho1
        simp only [OwnS, if_pos rfl, List.length_append]
        exact ho1
      · exact World.ownsRow_nil _ _ _ _
    | false =>
      go_upto_region 4 with (at_builtin; refine step_push EN rfl _ _ rfl PA.out.own rfl #[.string sep] rfl rfl rfl (fun u hu => (by obtain rfl : u = .string sep := (by simpa using hu); rfl)) (by omega) PA.out.low.size ?_; intro A8 c8 w8 ho hg; have HO8 := Lib.hid ho; have hF8 := ((Frm.refl (fun t => t = 9) w.heap.size wc).alloc PA.out.low.size (.cells #[.string sep] 9)).trans (Frm.grownOwn (PA.out.own.alloc _) hg rfl (by rw [heap_alloc_size]; exact Nat.le_succ_of_le PA.out.low.size)); have HF8 := Lib.hid hF8; clear ho hg; clear t0 t1 t2 tf0 tf1 tf2 tl; obtain ⟨t0, t1, t2, tf0, tf1, tf2, tl⟩ := three_of_block (PA.out.frm hF8 (by decide)).2.2.2; clear hF8)
      have hP8 := PA.out.recs HF8.out HO8.out
      obtain ⟨y8, hy8⟩ : ∃ y, y = w8.setCell ⟨T, 1, none⟩ (.slice A8 (l1.length + 1) c8) := ⟨_, rfl⟩
      rw [← hy8] at hP8 ⊢
      have HP8 := Lib.hid hP8
      clear hy8 hP8 HF8 HO8 PA HS2 n0 n1 n2 f0 f1 f2 nl o0 o1 o2 of0 of1 of2 ol t0 t1 t2 tf0 tf1 tf2 tl
      obtain ⟨n0, n1, n2, f0, f1, f2, nl⟩ := three_of_block HP8.out.box
      obtain ⟨o0, o1, o2, of0, of1, of2, ol⟩ := three_of_block HP8.out.boy
      go_wp2_with fail
      have hk9 := heap_alloc_new y8 (.cells #[.slice B1 k1.length d1, .slice B2 k2.length d2] 23)
      have hb9 : Below y8.heap.size y8 (y8.alloc (.cells #[.slice B1 k1.length d1, .slice B2 k2.length d2] 23)) := (Below.refl _ _).alloc (Nat.le_refl _) _
      have hlow9 := HP8.out.low.trans (hb9.mono HP8.out.low.size)
      refine (concatI_any y8.heap.size B1 d1 k1 B2 d2 k2 _ hk9 (H1.out.kids.below hlow9 (Nat.le_refl _)) (H2.out.kids.below hlow9 (Nat.le_refl _)) hm1 hm2).mono ?_
      rintro e w10 ⟨B9, d9, rfl, ho, hb⟩
      have HO10 := Lib.hid (owns_up ho (base' := w.heap.size) (Nat.le_trans HP8.out.low.size hb9.size))
      have HB10 := Lib.hid (hb9.trans (hb.mono hb9.size))
      clear hk9 hb9 hlow9 ho hb n0 n1 n2 f0 f1 f2 nl o0 o1 o2 of0 of1 of2 ol
      obtain ⟨t0, t1, t2, tf0, tf1, tf2, tl⟩ := three_of_block ((HB10.out.block _ (lt_of_block HP8.out.new)).trans HP8.out.new)
      go_upto_region 5 with (fail)
      have hP11 := HP8.out.kids HB10.out HO10.out
      obtain ⟨y11, hy11⟩ : ∃ y, y = w10.setCell ⟨T, 2, none⟩ (.slice B9 (k1.length + k2.length) d9) := ⟨_, rfl⟩
      rw [← hy11] at hP11 ⊢
      have HP11 := Lib.hid hP11
      have HS11 := Lib.hid (H2.out.recs.below hP11.low (Nat.le_refl _))
      clear hy11 hP11 HP8 HB10 HO10 t0 t1 t2 tf0 tf1 tf2 tl
      obtain ⟨o0, o1, o2, of0, of1, of2, ol⟩ := three_of_block HP11.out.boy
      obtain ⟨t0, t1, t2, tf0, tf1, tf2, tl⟩ := three_of_block HP11.out.new
      go_upto_region 6 with (at_builtin; refine step_put EN rfl _ _ rfl HP11.out.own rfl rfl (by rw [scl_len]) HS11.out (scl_one _) ⟨by omega, by omega⟩ HP11.out.low.size ?_; intro A9 c9 w9 ho hg; have HO9 := Lib.hid ho; have hF9 := Frm.grownOwn (T := fun t => t = 9) HP11.out.own hg rfl HP11.out.low.size; have HF9 := Lib.hid hF9; clear ho hg; clear t0 t1 t2 tf0 tf1 tf2 tl; obtain ⟨t0, t1, t2, tf0, tf1, tf2, tl⟩ := three_of_block (HP11.out.frm hF9 (by decide)).2.2.2; clear hF9)
      have HP := Lib.hid (HP11.out.recs HF9.out HO9.out)
      obtain ⟨y, hy⟩ : ∃ y, y = w9.setCell ⟨T, 1, none⟩ (.slice A9 (l1.length + 1 + l2.length) c9) := ⟨_, rfl⟩
      rw [← hy] at HP ⊢
      clear hy HF9 HO9 HP11 HS11 o0 o1 o2 of0 of1 of2 ol
      clear t0 t1 t2 tf0 tf1 tf2 tl
      obtain ⟨t0, t1, t2, tf0, tf1, tf2, tl⟩ := three_of_block HP.out.new
      obtain ⟨v0, v1, v2, vf0, vf1, vf2, vl⟩ := three_of_block HP.out.var
      go_wp2_with fail
      have hE := s3_self HP.out.var (.bool false) (.slice A9 (l1.length + 1 + l2.length) c9) (.slice B9 (k1.length + k2.length) d9)
      obtain ⟨q0, q1, q2, -, -, -, -⟩ := three_of_block hE
      have hF := s3_frm HP.out.var (n := w.heap.size) (by omega) (.bool false) (.slice A9 (l1.length + 1 + l2.length) c9) (.slice B9 (k1.length + k2.length) d9)
      refine bodyPost_ret (v := .agg #[.bool false, .slice A9 (l1.length + 1 + l2.length) c9, .slice B9 (k1.length + k2.length) d9]) (by simp [results, Try.results26, go_sem, q0, q1, q2]) rfl ?_
      have ho1 := hF.owns HP.out.own (by decide)
      have ho2 := hF.owns HP.out.kid (by decide)
      have el : l1.length + 1 + l2.length = (l1 ++ sep :: l2).length := by simp; omega
      have ek : k1.length + k2.length = (k1 ++ k2).length := by simp
      have e1 : scl l1 ++ #[Value.string sep].toList ++ scl l2 = scl (l1 ++ sep :: l2) := by simp [scl]
      have e2 : icl k1 ++ icl k2 = icl (k1 ++ k2) := by simp [icl]
      have fin1 : ∀ W : World, W.ownsRow w.heap.size 9 1 (.slice A9 (l1.length + 1 + l2.length) c9) (l1.length + 1 + l2.length) (scl l1 ++ #[Value.string sep].toList ++ scl l2) → OwnS W w.heap.size A9 c9 (l1 ++ sep :: l2) := fun W h => by
        rw [e1, el] at h
        exact h
      have fin2 : ∀ W : World, W.ownsRow w.heap.size 3 1 (.slice B9 (k1.length + k2.length) d9) (k1.length + k2.length) (icl k1 ++ icl k2) → OwnI W w.heap.size B9 d9 (k1 ++ k2) := fun W h => by
        rw [e2, ek] at h
        exact h
      refine ⟨A9, c9, B9, d9, ?_, fin1 _ ho1, fin2 _ ho2, HP.out.low.trans hF.low⟩
      rw [show l1.length + 1 + l2.length = l1.length + (l2.length + 1) by omega]
      first | done | rfl
end Go.Proofs.Ytnjdmaeoebihpaa
